/- Several texts of this session, one behind the other, without what this claim does not need (put together by its program pack.py). Conditions: none. -/
import Derived.Test.YtjljhnandbbldaaGreatDoorMu2
import Derived.MapKept
import Derived.Test.YtjljhnandbbldaaGreatDoorProg
import Derived.Shelf.SlIterI.Sorted
set_option linter.unusedVariables false
set_option linter.unusedSimpArgs false
set_option maxRecDepth 100000
namespace Go.Proofs.YtjljhnandbbldaaGreatDoor
open Go Go.Crisp
attribute [local irreducible] ae cE aP stK aA vK qK bC gK dK aU mkK cF Ch DH zZ bsK clK
open _root_.Go.Proofs.Tryz
def uq:Rp Stg where
 w:=5
 R:=λZ h cs s=>∃x y,cs=[x,y,.int .i64 s.x.n,.int .i64 s.y.n,.int .i64 s.border]∧Rp.Sl km Z h x s.x.lines∧Rp.Sl km Z h y s.y.lines
 len:=by rintro _ _ _ _ ⟨x,y,rfl,_⟩;rfl
 one:=by
  rintro _ _ _ _ ⟨x,y,rfl,H,K⟩;exact ak H.one (ak K.one (ak rfl (ak rfl (ak rfl aQ))))
 fr:=by rintro _ _ _ _ _ _ ⟨x,y,rfl,H,K⟩ f q;exact⟨x,y,rfl,H.fr f q,K.fr f q⟩
 mono:=by rintro _ _ _ _ _ ⟨x,y,rfl,H,K⟩ q;exact⟨x,y,rfl,H.mono q,K.mono q⟩
abbrev T8:List Value:=[.slice none 0 0,.slice none 0 0,.int .i64 0,.int .i64 0,.int .i64 0]
def Nq (h:af)(code:Int)(s:Stg)(r:Value)(h':af):Prop:=∃cs,r=.tuple #[.agg cs.toArray,.int .i64 code]∧Ext h h'∧(code≠0→cs=T8)∧(code=0→uq.R (eo h h') h' cs s)
theorem Af {h:af}{n:Int}:ae prog jQ #[.int .i64 n] h λr h'=>r=.bool (decide (aT n))∧h'=h:=by
 apply Km;unfold AH;simp only[go_sem];exact⟨rfl,trivial⟩
theorem UD {a b c v w x y z:Value}(A:aJ a=true)(D:aJ b=true)(hc:aJ c=true):aF #[v,w,x,y,z] [(2,1,a),(3,1,b),(4,1,c)]=some #[v,w,a,b,c]:=by
 simp only[aF,bT A,bT D,bT hc];rfl
theorem S9 {Z:Nat→Prop}{h:af}{cs:List Value}{o:OpD}(H:rOp.R Z h cs o)(W:o.Wf)(lx:o.x.length<4611686018427387904)(ly:o.y.length<4611686018427387904){w hh:Int}(hw:I64 w)(bd:I64 hh):
  ae prog wK #[.agg cs.toArray,.int .i64 w,.int .i64 hh] h (Nq h (dD o w hh) (bM o w hh)):=by
 apply Ko;unfold AJ;have H0:=H;obtain⟨s,t,rfl,Hx,Hy⟩:=H;simp only[bG];refine aC λb h1 r1 e1 n1=>?_
 have l1:=aW r1;refine aC λb2 h2 r2 e2 n2=>?_
 have r1:=e2.row r1;have a7:=e1.trans e2;have l2:=aW r2;have hb:b≠b2:=by omega
 have k2:h.size≤b2:=Nat.le_trans e1.1 n2;have L:∀(code:Int) (I:af),dD o w hh=code→code≠0→Ext h2 I→stK 5 (.pointer (some ⟨b2,0,none⟩)) (.agg #[.slice none 0 0,.slice none 0 0,.int .i64 0,.int .i64 0,.int .i64 0]) I λ_ a9=>vK (aH 5 a9 (.pointer (some ⟨b2,0,none⟩))) λb6=>Nq h (dD o w hh) (bM o w hh) (.tuple #[b6,.int .i64 code]) a9:=by
  intro code I D hc e4;rw[D];refine ch (l:=T8) (e4.row r2) rfl (ak rfl (ak rfl (ak rfl (ak rfl (ak rfl aQ))))) rfl λU r5 u5=>?_
  rw[aM r5 5 rfl,ah];exact⟨T8,rfl,(a7.trans e4).upd k2 u5,λ_=>rfl,λh=>absurd h hc⟩
 have m6:(¬jh o∨¬aT w∨¬aT hh)→dD o w hh=6:=λhc=>if_pos hc
 by_cases hm:((o.kind<0∨3<o.kind)∨o.border<0)∨2<o.border
 ·have D:=m6 (.inl (by unfold jh;omega));simp only[go_sem,ai r1,hm];simp only[fo,Option.map_some,ah];exact L 6 h2 D (by omega) (Ext.refl _)
 have bk:0≤o.kind∧o.kind<4:=by omega
 have bo:0≤o.border∧o.border<3:=by omega
 simp only[go_sem,ai r1,hm];refine Af.mono λv I ⟨e,wq⟩=>?_
 have wq:=wq.symm;subst e wq;by_cases an:¬aT w
 ·have D:=m6 (.inr (.inl an));simp only[go_sem,an,fo,Option.map_some];exact L 6 _ D (by omega) (Ext.refl _)
 have an:aT w:=Decidable.of_not_not an;simp only[go_sem,an];refine Af.mono λv U ⟨e,wq⟩=>?_
 have wq:=wq.symm;subst e wq;by_cases ad:¬aT hh
 ·have D:=m6 (.inr (.inr ad));simp only[go_sem,ad,fo,Option.map_some];exact L 6 _ D (by omega) (Ext.refl _)
 have ad:aT hh:=Decidable.of_not_not ad;have mt:jh o→dD o w hh=gh o w hh:=λhm=>if_neg (by rintro(h|h|h);exact h hm;exact h an;exact h ad)
 simp only[go_sem,ad,ai r1];rw[UD rfl rfl rfl,Option.map_some,ah];refine cD (cs:=[.slice none 0 0,.slice none 0 0,.int .i64 w,.int .i64 hh,.int .i64 o.border]) rfl (ak rfl (ak rfl (ak rfl (ak rfl (ak rfl aQ))))) rfl λb3 h3 r3 e3 n3=>?_
 have r1:=e3.row r1;have r2:=e3.row r2;have ab:=a7.trans e3;have l3:=aW r3;have k3:h.size≤b3:=Nat.le_trans a7.1 n3;have bv:b3≠b:=by have:=e2.1;omega
 have aa:b3≠b2:=by omega
 -- a row of lines is stored
 have au:∀{I:af} {u:Value} {a c:Value} {K:Value→af→Prop},aJ u=true→I[b3]? =some (.cells #[a,c,.int .i64 w,.int .i64 hh,.int .i64 o.border] 38 (0,0))→
   (∀U,U[b3]? =some (.cells #[u,c,.int .i64 w,.int .i64 hh,.int .i64 o.border] 38 (0,0))→Upd b3 I U→K undef U)→stK 1 (.pointer (some ⟨b3,0,none⟩)) u I K:=by
  intro I u a c K hu r HK;exact bK r (by simp) hu λU r5 u5=>HK U r5 u5
 have aw:∀{I:af} {u:Value} {a c:Value} {K:Value→af→Prop},aJ u=true→I[b3]? =some (.cells #[a,c,.int .i64 w,.int .i64 hh,.int .i64 o.border] 38 (0,0))→
   (∀U,U[b3]? =some (.cells #[a,u,.int .i64 w,.int .i64 hh,.int .i64 o.border] 38 (0,0))→Upd b3 I U→K undef U)→stK 1 (.pointer (some ⟨b3,1,none⟩)) u I K:=by
  intro I u a c K hu r HK;exact bK r (by simp) hu λU r5 u5=>HK U r5 u5
 -- the end
 have fin:∀{h6:af} {x y:Value},Ext h h6→h6[b2]? =some (.cells #[.slice none 0 0,.slice none 0 0,.int .i64 0,.int .i64 0,.int .i64 0] 38 (0,0))→h6[b3]? =some (.cells #[x,y,.int .i64 w,.int .i64 hh,.int .i64 o.border] 38 (0,0))→
   Rp.Sl km (eo h3 h6) h6 x (iZ o w).lines→Rp.Sl km (eo h3 h6) h6 y (dI o hh).lines→(iZ o w).n=w→(dI o hh).n=hh→dD o w hh=0→
   vK (aH 5 h6 (.pointer (some ⟨b3,0,none⟩))) λb4=>stK 5 (.pointer (some ⟨b2,0,none⟩)) b4 h6 λ_ ax=>vK (aH 5 ax (.pointer (some ⟨b2,0,none⟩))) λbe=>Nq h (dD o w hh) (bM o w hh) (.tuple #[be,.int .i64 0]) ax:=by
  intro h6 x y E q2 q3 Hx Hy nx ny D;rw[aM (l:=[x,y,.int .i64 w,.int .i64 hh,.int .i64 o.border]) q3 5 rfl,ah];have bg:∀v∈[x,y,.int .i64 w,.int .i64 hh,.int .i64 o.border],aJ v=true:=ak Hx.one (ak Hy.one (ak rfl (ak rfl (ak rfl aQ))));refine ch (l:=[x,y,.int .i64 w,.int .i64 hh,.int .i64 o.border]) q2 rfl bg rfl λh7 r7 u7=>?_
  rw[aM r7 5 rfl,ah];have F:∀c,c<h6.size→eo h3 h6 c→¬c=b2:=λc _ F he=>by
   have:=F.1;have:=aW r2;omega
  refine⟨_,by rw[D],E.upd k2 u7,λh=>absurd D h,λ_=>⟨x,y,?_,?_,?_⟩⟩
  ·show _=[x,y,.int .i64 (iZ o w).n,.int .i64 (dI o hh).n,.int .i64 o.border];rw[nx,ny]
  ·exact(Hx.fr u7.fr F).mono λc hc F=>⟨Nat.le_trans ab.1 F.1,hc⟩
  ·exact(Hy.fr u7.fr F).mono λc hc F=>⟨Nat.le_trans ab.1 F.1,hc⟩
 have nX:(iZ o w).n=w:=by unfold iZ;split<;>rfl
 have nY:(dI o hh).n=hh:=by unfold dI;split<;>rfl
 simp only[go_sem,ai r1];refine aj (λhk=>?_) (λhk=>?_)
 ·refine Af.mono λv U ⟨e,wq⟩=>?_
  have wq:=wq.symm;subst e wq;by_cases al:¬aT o.w
  ·have D:=m6 (.inl (by unfold jh;rintro⟨_,_,hx⟩;exact al (hx hk).1));simp only[go_sem,al,fo,Option.map_some];exact L 6 _ D (by omega) e3
  have al:aT o.w:=Decidable.of_not_not al;simp only[go_sem,al,ai r1];refine Af.mono λv U ⟨e,wq⟩=>?_
  have wq:=wq.symm;subst e wq;by_cases ar:¬aT o.hh
  ·have D:=m6 (.inl (by unfold jh;rintro⟨_,_,hx⟩;exact ar (hx hk).2.1));simp only[go_sem,ar,fo,Option.map_some];exact L 6 _ D (by omega) e3
  have ar:aT o.hh:=Decidable.of_not_not ar;simp only[go_sem,ar,ai r1];refine aj (λb7=>?_) (λb7=>?_)
  ·have D:=m6 (.inl (by unfold jh;rintro⟨_,_,hx⟩;have:=(hx hk).2.2;omega));simp only[fo,Option.map_some,ah];exact L 6 _ D (by omega) e3
  have ay:jh o:=⟨bk,bo,λ_=>⟨al,ar,by omega,by omega⟩⟩
  have A:=mt ay;unfold gh at A;rw[if_pos hk]at A;have tX:(iZ o w).lines=(dT o.filter w o.w).lines:=by unfold iZ;rw[if_pos hk]
  have tY:(dI o hh).lines=(dT o.filter hh o.hh).lines:=by unfold dI;rw[if_pos hk]
  refine(Jv W.filter hw W.w).mono λr I ⟨p,e,e4,p0,p1⟩=>?_
  subst e;simp only[go_sem];have po:aJ p=true:=by
   by_cases hc:cP o.filter w o.w=0
   ·obtain⟨_,_,e⟩:=(p1 hc).isSl;rw[e];rfl
   ·rw[p0 hc];rfl
  refine au po (e4.row r3) λU r5 u5=>?_
  have E5:=(ab.trans e4).upd k3 u5;have a8:=(e3.trans e4).upd n3 u5;refine aj (λhc=>?_) (λhc=>?_)
  ·rw[if_pos hc]at A;simp only[fo,Option.map_some,ah];exact L _ _ A hc a8
  have hc:cP o.filter w o.w=0:=Decidable.of_not_not hc;rw[if_neg (by simpa using hc)]at A;have ca:=u5.row (Ne.symm bv) (e4.row r1);simp only[go_sem,ai ca];refine(Jv W.filter bd W.hh).mono λr h6 ⟨q,e,e6,q0,q1⟩=>?_
  subst e;simp only[go_sem];have qo:aJ q=true:=by
   by_cases hc:cP o.filter hh o.hh=0
   ·obtain⟨_,_,e⟩:=(q1 hc).isSl;rw[e];rfl
   ·rw[q0 hc];rfl
  refine aw qo (e6.row r5) λh7 r7 u7=>?_
  have E7:=(E5.trans e6).upd k3 u7;have b8:=(a8.trans e6).upd n3 u7;refine aj (λG=>?_) (λG=>?_)
  ·simp only[fo,Option.map_some,ah];exact L _ _ A G b8
  have G:cP o.filter hh o.hh=0:=Decidable.of_not_not G;have zz:∀{a d:af},h3.size≤a.size→∀c,c<d.size→eo a d c→¬c=b3:=λha c _ F he=>by
   have:=F.1;omega
  refine fin E7 (u7.row (Ne.symm aa) (e6.row (u5.row (Ne.symm aa) (e4.row r2)))) r7 ?_ ?_ nX nY (by rw[A,G])
  ·rw[tX];have a1:=(p1 hc).sl.fr u5.fr (zz (Nat.le_refl _));have a2:=(a1.ext e6).mono (Z':=eo h3 h6) λc _ F=>⟨F.1,by have:=F.2;have:=u5.1;have:=e6.1;omega⟩
   exact(a2.fr u7.fr (zz (Nat.le_refl _))).mono λc hc F=>⟨F.1,hc⟩
  ·rw[tY];have b1:h3.size≤U.size:=by have:=e4.1;have:=u5.1;omega
   exact((q1 G).sl.fr u7.fr (zz b1)).mono λc hc F=>⟨Nat.le_trans b1 F.1,hc⟩
 have ay:jh o:=⟨bk,bo,λh=>absurd h hk⟩
 have A:=mt ay;unfold gh at A;rw[if_neg hk]at A;have tX:(iZ o w).lines=(iI (dk o) w).lines:=by unfold iZ;rw[if_neg hk]
 have tY:(dI o hh).lines=(iI (b9 o) hh).lines:=by unfold dI;rw[if_neg hk]
 refine aV (λxs I=>∃u v,xs=[.int .i64 (fJ o),u,v]∧Ext h3 I∧(fJ o=0→SlI (eo h3 I) I u (dk o)∧SlI (eo h3 I) I v (b9 o))) ?_ ?_
 ·refine aj (λk0=>?_) (λk0=>?_)
  ·refine(Nb W.sigma).mono λr I ⟨u,e,N⟩=>?_
   subst e;simp only[go_sem];have c1:fJ o=Cd o.sigma:=by unfold fJ;rw[if_pos k0]
   have c2:dk o=lX o.sigma:=by unfold dk;rw[if_pos k0]
   have c3:b9 o=lX o.sigma:=by unfold b9;rw[if_pos k0]
   rw[c1,c2,c3];exact⟨u,u,rfl,N.2.1,λ_=>⟨N.since (Ext.refl _),N.since (Ext.refl _)⟩⟩
  refine aj (λk1=>?_) (λk1=>?_)
  ·simp only[go_sem,ai r1];refine(UT W.radius).mono λr I ⟨u,e,N⟩=>?_
   subst e;simp only[go_sem];have c1:fJ o=L5 o.radius:=by unfold fJ;rw[if_neg k0,if_pos k1]
   have c2:dk o=vG o.radius:=by unfold dk;rw[if_neg k0,if_pos k1]
   have c3:b9 o=vG o.radius:=by unfold b9;rw[if_neg k0,if_pos k1]
   rw[c1,c2,c3];exact⟨u,u,rfl,N.2.1,λ_=>⟨N.since (Ext.refl _),N.since (Ext.refl _)⟩⟩
  have k2:(o.kind=2)=True:=eq_true (by omega);simp only[go_sem,ai r1,k2];have c1:fJ o=if xN o.x≠0 then xN o.x else xN o.y:=by unfold fJ;rw[if_neg k0,if_neg k1]
  have c2:dk o=oN o.x:=by unfold dk;rw[if_neg k0,if_neg k1]
  have c3:b9 o=oN o.y:=by unfold b9;rw[if_neg k0,if_neg k1]
  refine(Jx (Hx.ext ab) W.x lx).mono λr I ⟨u,e,N⟩=>?_
  subst e;simp only[go_sem,ai (N.2.1.row r1)];refine(Jx (Hy.ext (ab.trans N.2.1)) W.y ly).mono λr U ⟨v,e,M⟩=>?_
  subst e;simp only[go_sem];have s1:SlI (eo h3 U) U u (oN o.x):=((N.since (Ext.refl _)).ext M.2.1).mono λc hc F=>⟨F.1,Nat.lt_of_lt_of_le F.2 M.2.1.1⟩
  have s2:SlI (eo h3 U) U v (oN o.y):=M.since N.2.1;rw[c1,c2,c3];refine aj (λhc=>?_) (λhc=>?_)
  ·rw[if_neg (by simpa using hc)];exact⟨u,v,rfl,N.2.1.trans M.2.1,λ_=>⟨s1,s2⟩⟩
  ·rw[if_pos hc];exact⟨u,v,rfl,N.2.1.trans M.2.1,λ_=>⟨s1,s2⟩⟩
 rintro xs ρj I ⟨u,v,rfl,e4,hu⟩;have cb:=e4;simp only[go_sem];refine aj (λhc=>?_) (λhc=>?_)
 ·rw[if_pos hc]at A;simp only[fo,Option.map_some,ah];exact L _ _ A hc (e3.trans e4)
 have b0:fJ o=0:=Decidable.of_not_not hc;rw[if_neg hc]at A;obtain⟨Hu,Hv⟩:=hu b0;refine(Jw Hu (vS o) (CB o) hw).mono λr U ⟨p,e,e5,p0,p1⟩=>?_
 subst e;simp only[go_sem];have po:aJ p=true:=by
  by_cases hc:gn (dk o) w=0
  ·obtain⟨_,_,e⟩:=(p1 hc).isSl;rw[e];rfl
  ·rw[p0 hc];rfl
 refine au po ((e4.trans e5).row r3) λh6 r6 u6=>?_
 have E6:=(ab.trans (e4.trans e5)).upd k3 u6;have bc:=(e3.trans (e4.trans e5)).upd n3 u6;refine aj (λhc=>?_) (λhc=>?_)
 ·rw[if_pos hc]at A;simp only[fo,Option.map_some,ah];exact L _ _ A hc bc
 have hc:gn (dk o) w=0:=Decidable.of_not_not hc;rw[if_neg (by simpa using hc)]at A;have zz:∀{a d:af},h3.size≤a.size→∀c,c<d.size→eo a d c→¬c=b3:=λha c _ F he=>by
  have:=F.1;omega
 refine(Jw ((Hv.ext e5).fr u6.fr λc _ F he=>by have:=F.1;omega) (vR o) (Cz o) bd).mono λr h7 ⟨q,e,e7,q0,q1⟩=>?_
 subst e;simp only[go_sem];have qo:aJ q=true:=by
  by_cases hc:gn (b9 o) hh=0
  ·obtain⟨_,_,e⟩:=(q1 hc).isSl;rw[e];rfl
  ·rw[q0 hc];rfl
 refine aw qo (e7.row r6) λh8 r8 u8=>?_
 have E8:=(E6.trans e7).upd k3 u8;have b5:=(bc.trans e7).upd n3 u8;refine aj (λG=>?_) (λG=>?_)
 ·simp only[fo,Option.map_some,ah];exact L _ _ A G b5
 have G:gn (b9 o) hh=0:=Decidable.of_not_not G;refine fin E8 (u8.row (Ne.symm aa) (e7.row (u6.row (Ne.symm aa) ((e4.trans e5).row r2)))) r8 ?_ ?_ nX nY (by rw[A,G])
 ·rw[tX];have a1:=(p1 hc).sl.fr u6.fr (zz e4.1);have a2:=(a1.ext e7).mono (Z':=eo h3 h7) λc _ F=>⟨Nat.le_trans e4.1 F.1,by have:=F.2;have:=u6.1;have:=e7.1;omega⟩
  exact(a2.fr u8.fr (zz (Nat.le_refl _))).mono λc hc F=>⟨F.1,hc⟩
 ·rw[tY];have b1:h3.size≤h6.size:=by have:=e4.1;have:=e5.1;have:=u6.1;omega
  exact((q1 G).sl.fr u8.fr (zz b1)).mono λc hc F=>⟨Nat.le_trans b1 F.1,hc⟩
theorem S7 {Z:Nat→Prop}{h:af}{cs:List Value}{o:OpD}(H:rOp.R Z h cs o){w hh:Int}:ae prog wJ #[.agg cs.toArray,.int .i64 w,.int .i64 hh] h λr h'=>
  r=.tuple #[.int .i64 (if o.kind=3 then o.w else w),.int .i64 (if o.kind=3 then o.hh else hh)]∧Ext h h':=by
 apply Kn;unfold AI;obtain⟨s,t,rfl,F,G⟩:=H;simp only[bG];refine aC λb h1 r1 D I=>?_
 simp only[go_sem,ai r1];refine aj (λA=>?_) (λA=>?_)
 ·rw[if_pos A,if_pos A];exact⟨rfl,D⟩
 ·rw[if_neg A,if_neg A];exact⟨rfl,D⟩
end Go.Proofs.YtjljhnandbbldaaGreatDoor
namespace Go.Proofs.YtjljhnandbbldaaGreatDoor
open Go Go.Crisp
attribute [local irreducible] ae cE aP stK aA vK qK bC gK dK aU mkK cF Ch DH zZ bsK
open _root_.Go.Proofs.Tryz
theorem Rs {Z:Nat→Prop}{h:af}{v:Value}{l:List Int}(H:Rp.Sl rI Z h v l){i:Nat}(hi:i<l.length):
  ∃p,aR 1 v (.int .i64 (i:Int))=some p∧ldV h p=some (.int .i64 l[i]):=by
 obtain⟨p,c,D,hc,A⟩:=H.at1 rfl (k:=.i64) hi;have A:[c]=[.int .i64 l[i]]:=A;obtain rfl:c=.int .i64 l[i]:=by simpa using A
 exact⟨p,D,hc⟩
theorem Pp {h:af}{Z Z':Nat→Prop}{v u:Value}{l:List Int}(H:Rp.Sl rI Z h v l)(K:Rp.Sl rI Z' h u l)(U:l.length≤4398046511104):
  ae prog ri #[v,u] h λr h'=>r=.bool true∧h'=h:=by
 apply Kv;unfold AP;have G:=H;have K0:=K;obtain⟨a,c,rfl⟩:=H.isSl;obtain⟨L,c',rfl⟩:=K.isSl;simp only[go_sem];refine B5 l.length (λi I=>i≤l.length∧I=h) ⟨by omega,rfl⟩ ?_;rintro i _ again ρj ⟨hi,rfl⟩ D;simp only[go_sem];refine aj (λh1=>?_) (λh1=>?_)
 ·have A:i<l.length:=by omega
  obtain⟨p,F,hc⟩:=Rs G A;obtain⟨q,hq,hd⟩:=Rs K0 A;simp only[go_sem,F,hc,hq,hd];rw[w64 (by omega) (by omega)];exact D _ A ⟨by omega,rfl⟩
 ·exact⟨trivial,trivial⟩
theorem c_Ref {h:af}{Z:Nat→Prop}{cs:List Value}{o:OpD}(H:rOp.R Z h cs o):
  ae prog zP #[.agg cs.toArray] h λr h'=>r=.agg cs.toArray∧rOp.R Z h' cs o∧Ext h h':=by
 apply MP;unfold C9;have D:=H;obtain⟨s,t,rfl,I,U⟩:=H;have L:=I.one;have ot:=U.one;simp only[bG];refine aC λb1 h1 r1 G n1=>aC λb2 h2 r2 A n2=>?_
 have r1:=A.row r1;have e:=G.trans A;have s1:=G.1;simp only[go_sem,ai r1];have W:aF #[(.int .i64 0),(.int .i64 0),(.int .i64 0),(.int .i64 0),(.slice none 0 0),(.slice none 0 0),(.int .i64 0),(.int .i64 0),(.int .i64 0)]
   [(0,1,(.int .i64 o.kind)),(1,1,(.int .i64 o.border)),(2,1,(.int .i64 o.sigma)),(3,1,(.int .i64 o.radius)),(4,1,s),(5,1,t),(6,1,(.int .i64 o.filter)),(7,1,(.int .i64 o.w)),(8,1,(.int .i64 o.hh))]=
   some #[.int .i64 o.kind,.int .i64 o.border,.int .i64 o.sigma,.int .i64 o.radius,s,t,.int .i64 o.filter,.int .i64 o.w,.int .i64 o.hh]:=by
  simp[aF,bT L,bT ot,bT (show aJ (.int _ _)=true from rfl)]
 rw[W,Option.map_some,ah];refine ch (l:=[.int .i64 o.kind,.int .i64 o.border,.int .i64 o.sigma,.int .i64 o.radius,s,t,.int .i64 o.filter,.int .i64 o.w,.int .i64 o.hh]) r2 rfl (rOp.one D) rfl λh3 r3 F=>?_
 rw[aM r3 9 rfl,ah];exact⟨rfl,rOp.ext D (e.upd (by omega) F),e.upd (by omega) F⟩
end Go.Proofs.YtjljhnandbbldaaGreatDoor
namespace Go.Proofs.YtjljhnandbbldaaGreatDoor
open Go Go.Crisp
attribute [local irreducible] ae cE aP stK aA vK qK bC gK dK aU mkK cF Ch DH zZ bsK clK
open _root_.Go.Proofs.Tryz
def ic (w h c:Int):Prop:=1≤w∧w≤65536∧1≤h∧h≤65536∧(c=1∨c=3)∧w*h*c≤268435456
instance (w h c:Int):Decidable (ic w h c):=by unfold ic;infer_instance
theorem Q0 {h:af}{x y c:Int}:ae prog ku #[.int .i64 x,.int .i64 y,.int .i64 c] h λr h'=>r=.bool (decide (ic x y c))∧h'=h:=by
 apply HZ;unfold yc;simp only[go_sem];refine⟨?_,trivial⟩
 congr 1
 rw[decide_eq_decide];unfold ic;by_cases h1:1≤x∧x≤65536∧1≤y∧y≤65536∧(c=1∨c=3)
 ·have D:=kS (a:=x) (A:=65536) (b:=y) (B:=65536) (by omega) (by omega) (by omega) (by omega);rw[w64 (n:=x*y) (by omega) (by omega),w64 (n:=x*y*c) (by rcases h1.2.2.2.2 with h|h<;>subst h<;>omega) (by rcases h1.2.2.2.2 with h|h<;>subst h<;>omega)];omega
 ·omega
theorem Pf {h:af}{x y c:Int}:ae prog q8 #[.int .i64 x,.int .i64 y,.int .i64 c] h λr h'=>r=.bool (decide (ic x y c))∧h'=h:=by
 apply Kq;unfold AK;simp only[go_sem];refine aj (λh0=>?_) (λh0=>?_)
 ·refine⟨?_,trivial⟩;rw[decide_eq_false];unfold ic;omega
 refine aj (λh1=>?_) (λh1=>?_)
 ·refine⟨?_,trivial⟩;rw[decide_eq_false];unfold ic;omega
 have D:=kS (a:=x) (A:=65536) (b:=y) (B:=65536) (by omega) (by omega) (by omega) (by omega);rw[w64 (n:=x*y) (by omega) (by omega),kq _ _ _ _ (by omega),ah];simp only[go_sem];refine⟨?_,trivial⟩
 congr 1
 rw[decide_eq_decide];unfold ic;have hc:c=1∨c=3:=by omega
 rcases hc with hc|hc<;>subst hc
 ·rw[show Int.tdiv 268435456 1=268435456 from by decide,w64 (by omega) (by omega)];omega
 ·rw[show Int.tdiv 268435456 3=89478485 from by decide,w64 (by omega) (by omega)];omega
def mN (o:OpD)(w:Int):Int:=if o.kind=3 then o.w else w
def qn (o:OpD)(h:Int):Int:=if o.kind=3 then o.hh else h
def Cs (c:Int):List OpD→Int→Int→Int
 | [],_,_=>0
 |o::l,w,h=>if dD o w h≠0 then dD o w h else if¬ic (mN o w) (qn o h) c then 5 else Cs c l (mN o w) (qn o h)
def uC:List OpD→Int→Int→List Stg
 | [],_,_=>[]
 |o::l,w,h=>bM o w h::uC l (mN o w) (qn o h)
def xC (l:List OpD)(w h c:Int):Int:=if 16<l.length then 6 else if¬ic w h c then 5 else Cs c l w h
def Bg:Rp Stg where
 w:=3
 R:=λZ h cs s=>∃p q,cs=[p,q,.int .i64 s.border]∧dY Z h p s.x∧dY Z h q s.y
 len:=by rintro _ _ _ _ ⟨x,y,rfl,_⟩;rfl
 one:=by
  rintro _ _ _ _ ⟨x,y,rfl,H,K⟩;exact ak (kE H) (ak (kE K) (ak rfl aQ))
 fr:=by rintro _ _ _ _ _ _ ⟨x,y,rfl,H,K⟩ f q;exact⟨x,y,rfl,Rp.Pt.fr H f q,Rp.Pt.fr K f q⟩
 mono:=by rintro _ _ _ _ _ ⟨x,y,rfl,H,K⟩ q;exact⟨x,y,rfl,Rp.Pt.mono H q,Rp.Pt.mono K q⟩
def Vt (e:Rp Stg)(h:af)(code:Int)(l:List Stg)(r:Value)(h':af):Prop:=∃v,r=.tuple #[v,.int .i64 code]∧Ext h h'∧(code≠0→v=.slice none 0 0)∧(code=0→ie e h h' v l)
structure Br (l:List OpD):Prop where
 wf:∀o∈l,o.Wf
 len:∀o∈l,o.x.length≤17592186044416∧o.y.length≤17592186044416
 few:l.length≤4398046511104
theorem NI {o:OpD}(W:o.Wf){w h:Int}(A:I64 w)(hh:I64 h):I64 (mN o w)∧I64 (qn o h):=by
 unfold mN qn;constructor
 ·split;exact W.w;exact A
 ·split;exact W.hh;exact hh
theorem LF {α:Type}{l:List α}{k:Nat}(h:k<l.length):l.drop k=l[k]::l.drop (k+1):=List.drop_eq_getElem_cons h
theorem WL {Z:Nat→Prop}{h:af}(G:dr h){v:Value}{l:List OpD}(H:Rp.Sl rOp Z h v l)(W:Br l){w hh c:Int}(hw:I64 w)(ar:I64 hh):
  ae prog JZ #[v,.int .i64 w,.int .i64 hh,.int .i64 c] h (Vt Bg h (xC l w hh c) (uC l w hh)):=by
 apply Sr;unfold La;obtain⟨a,cap,e⟩:=H.isSl;have e2:aq v=some (.int .i64 (l.length:Int)):=by rw[e];rfl
 rw[e2,ah];have few:=W.few;have U:xC l w hh c=if 16<l.length then 6 else if¬ic w hh c then 5 else Cs c l w hh:=rfl
 simp only[go_sem];refine aj (λh0=>?_) (λh0=>?_)
 ·rw[if_pos (by omega)]at U;rw[U];exact⟨_,rfl,Ext.refl _,λ_=>rfl,λh=>by cases h⟩
 rw[if_neg (by omega)]at U;refine Q0.mono λr h1 ⟨e,wq⟩=>?_
 have wq:=wq.symm;subst e wq;simp only[go_sem];refine aj (λh1=>?_) (λh1=>?_)
 ·rw[if_pos h1]at U;rw[U];exact⟨_,rfl,Ext.refl _,λ_=>rfl,λh=>by cases h⟩
 rw[if_neg h1]at U
 try rw[e2,ah]
 refine bA (α:=Int×Int×Value) l.length 0 (λk a=>[.int .i64 a.1,.int .i64 a.2.1,a.2.2,.int .i64 (k:Int)])
  (λk a h'=>I64 a.1∧I64 a.2.1∧xC l w hh c=Cs c (l.drop k) a.1 a.2.1∧∃done,done.length=k∧uC l w hh=done++uC (l.drop k) a.1 a.2.1∧ie Bg h h' a.2.2 done) (w,hh,.slice none 0 0) rfl (Nat.zero_le _)
  ⟨hw,ar,U,[],rfl,rfl,ie.nil (Ext.refl _)⟩ λk a h2 again ρj _ hk ⟨iw,ih,hc,done,dl,hd,N⟩ an=>?_
 obtain⟨w1,A,out⟩:=a;simp only[go_sem];have N:ie Bg h h2 out done:=N;have iw:I64 w1:=iw;have ih:I64 A:=ih;refine aj (λh3=>?_) (λh3=>?_)
 ·have I:k<l.length:=by omega
  have hc:xC l w hh c=Cs c (l.drop k) w1 A:=hc;have hd:uC l w hh=done++uC (l.drop k) w1 A:=hd;rw[LF I]at hc hd;have hm:=List.getElem_mem I;have Wo:=W.wf _ hm;have Lo:=W.len _ hm;obtain⟨p,cs,q1,q2,Ho⟩:=Rp.Sl.atw (e:=rOp) (H.ext N.exts) (show 0<9 by omega) (k:=.i64) I;have q1:aR 9 v (.int .i64 (k:Int))=some p:=q1;have q2:aH 9 h2 p=some (.agg cs.toArray):=q2;rw[q1,ah,q2,ah];have F:cs.length=9:=rOp.len Ho;refine cD (cs:=cs) F (rOp.one Ho) F λb h4 r4 e4 n4=>?_
  rw[aM r4 9 F,ah];have G4:=G.ext (N.exts.trans e4);have ad:=rOp.ext Ho e4;generalize l[k]=o at*;refine(EW G4 ad Wo (by omega) (by omega) iw ih).mono λr h5 ⟨sv,e,e5,s0,s1⟩=>?_
  subst e;simp only[go_sem];have so:∃ds:List Value,sv=.agg ds.toArray∧ds.length=3∧(∀x∈ds,aJ x=true)∧(dD o w1 A=0→Bg.R (eo h4 h5) h5 ds (bM o w1 A)):=by
   by_cases hm:dD o w1 A=0
   ·obtain⟨p,q,e,t1,t2⟩:=s1 hm;exact⟨[p,q,.int .i64 (bM o w1 A).border],e,rfl,ak (kE t1) (ak (kE t2) (ak rfl aQ)),λ_=>⟨p,q,rfl,t1,t2⟩⟩
   ·exact⟨[.pointer none,.pointer none,.int .i64 0],s0 hm,rfl,ak rfl (ak rfl (ak rfl aQ)),λh=>absurd h hm⟩
  obtain⟨ds,rfl,ab,d1,dR⟩:=so;refine cD (cs:=ds) ab d1 ab λb2 h6 r6 e6 n6=>?_
  have aa:Ext h2 h6:=e4.trans (e5.trans e6);refine aj (λD=>?_) (λD=>?_)
  ·unfold Cs at hc;rw[if_pos D]at hc;rw[hc];exact⟨_,rfl,N.exts.trans aa,λ_=>rfl,λh=>absurd h D⟩
  have D:dD o w1 A=0:=Decidable.of_not_not D;unfold Cs at hc;rw[if_neg (by simpa using D)]at hc;have au:=(e5.trans e6).row r4;rw[aM au 9 F,ah];refine(U0 (rOp.ext ad (e5.trans e6))).mono λr h7 ⟨e,e7⟩=>?_
  subst e;simp only[go_sem];refine Q0.mono λr L ⟨e,wq⟩=>?_
  have wq:=wq.symm;subst e wq;simp only[go_sem];refine aj (λL=>?_) (λL=>?_)
  ·have L:¬ic (mN o w1) (qn o A) c:=L;rw[if_pos L]at hc;rw[hc];exact⟨_,rfl,N.exts.trans (aa.trans e7),λ_=>rfl,λh=>by cases h⟩
  have L:¬ ¬ic (mN o w1) (qn o A) c:=L;rw[if_neg L]at hc;rw[aM (e7.row r6) 3 ab,ah];have aw:=aa.trans e7;have N7:=N.ext aw;have R7:=Bg.ext (dR D) (e6.trans e7);refine ie.push (e:=Bg) (Y:=eo h4 h5) N7 R7 (λb hb=>⟨Nat.le_trans (N.exts.trans e4).1 hb.1,?_,λhv=>?_⟩) rfl rfl (by rw[dl];omega) (by rw[dl];omega) λs' h' N' _ _=>?_
  ·have:=hb.2;have:=e6.1;have:=e7.1;omega
  ·have h9:=N.lt hv;have ax:=hb.1;have ay:=e4.1;omega
  ·try simp only[go_sem]
   rw[w64 (by omega) (by omega)];have hs:=NI Wo iw ih;refine an (mN o w1,qn o A,s') h' I ⟨hs.1,hs.2,hc,done++[bM o w1 A],by simp[dl],?_,N'⟩;rw[List.append_assoc];exact hd
 ·have al:k=l.length:=by omega
  subst al;have hc:xC l w hh c=Cs c (l.drop l.length) w1 A:=hc;have hd:uC l w hh=done++uC (l.drop l.length) w1 A:=hd;rw[List.drop_length]at hc hd;have hc:xC l w hh c=0:=hc;rw[hc,hd];refine⟨_,rfl,N.exts,λh=>absurd rfl h,λ_=>?_⟩;rw[show uC [] w1 A=[]from rfl,List.append_nil];exact N
theorem UY {Z:Nat→Prop}{h:af}{v:Value}{l:List OpD}(H:Rp.Sl rOp Z h v l)(W:Br l){w hh c:Int}(hw:I64 w)(an:I64 hh):
  ae prog zH #[v,.int .i64 w,.int .i64 hh,.int .i64 c] h (Vt uq h (xC l w hh c) (uC l w hh)):=by
 apply MB;unfold CS;obtain⟨a,cap,e⟩:=H.isSl;have e2:aq v=some (.int .i64 (l.length:Int)):=by rw[e];rfl
 rw[e2,ah];have few:=W.few;have L:xC l w hh c=if 16<l.length then 6 else if¬ic w hh c then 5 else Cs c l w hh:=rfl
 simp only[go_sem];refine aj (λh0=>?_) (λh0=>?_)
 ·rw[if_pos (by omega)]at L;rw[L];exact⟨_,rfl,Ext.refl _,λ_=>rfl,λh=>by cases h⟩
 rw[if_neg (by omega)]at L;refine Pf.mono λr h1 ⟨e,wq⟩=>?_
 have wq:=wq.symm;subst e wq;simp only[go_sem];refine aj (λh1=>?_) (λh1=>?_)
 ·rw[if_pos h1]at L;rw[L];exact⟨_,rfl,Ext.refl _,λ_=>rfl,λh=>by cases h⟩
 rw[if_neg h1]at L
 try rw[e2,ah]
 refine bA (α:=Int×Int×Value) l.length 0 (λk a=>[.int .i64 a.1,.int .i64 a.2.1,a.2.2,.int .i64 (k:Int)])
  (λk a h'=>I64 a.1∧I64 a.2.1∧xC l w hh c=Cs c (l.drop k) a.1 a.2.1∧∃done,done.length=k∧uC l w hh=done++uC (l.drop k) a.1 a.2.1∧ie uq h h' a.2.2 done) (w,hh,.slice none 0 0) rfl (Nat.zero_le _)
  ⟨hw,an,L,[],rfl,rfl,ie.nil (Ext.refl _)⟩ λk a h2 again ρj _ hk ⟨iw,ih,hc,done,dl,hd,N⟩ al=>?_
 obtain⟨w1,A,out⟩:=a;simp only[go_sem];have N:ie uq h h2 out done:=N;have iw:I64 w1:=iw;have ih:I64 A:=ih;refine aj (λh3=>?_) (λh3=>?_)
 ·have G:k<l.length:=by omega
  have hc:xC l w hh c=Cs c (l.drop k) w1 A:=hc;have hd:uC l w hh=done++uC (l.drop k) w1 A:=hd;rw[LF G]at hc hd;have hm:=List.getElem_mem G;have Wo:=W.wf _ hm;have Lo:=W.len _ hm;obtain⟨p,cs,q1,q2,Ho⟩:=Rp.Sl.atw (e:=rOp) (H.ext N.exts) (show 0<9 by omega) (k:=.i64) G;have q1:aR 9 v (.int .i64 (k:Int))=some p:=q1;have q2:aH 9 h2 p=some (.agg cs.toArray):=q2;rw[q1,ah,q2,ah];have F:cs.length=9:=rOp.len Ho;refine cD (cs:=cs) F (rOp.one Ho) F λb h4 r4 e4 n4=>?_
  rw[aM r4 9 F,ah];have ab:=rOp.ext Ho e4;generalize l[k]=o at*;refine(S9 ab Wo (by omega) (by omega) iw ih).mono λr h5 ⟨ds,e,e5,s0,dR⟩=>?_
  subst e;simp only[go_sem];have so:ds.length=5∧(∀x∈ds,aJ x=true):=by
   by_cases hm:dD o w1 A=0
   ·exact⟨uq.len (dR hm),uq.one (dR hm)⟩
   ·rw[s0 hm];exact⟨rfl,ak rfl (ak rfl (ak rfl (ak rfl (ak rfl aQ))))⟩
  obtain⟨aa,d1⟩:=so;refine cD (cs:=ds) aa d1 aa λb2 h6 r6 e6 n6=>?_
  have U:Ext h2 h6:=e4.trans (e5.trans e6);refine aj (λD=>?_) (λD=>?_)
  ·unfold Cs at hc;rw[if_pos D]at hc;rw[hc];exact⟨_,rfl,N.exts.trans U,λ_=>rfl,λh=>absurd h D⟩
  have D:dD o w1 A=0:=Decidable.of_not_not D;unfold Cs at hc;rw[if_neg (by simpa using D)]at hc;have ar:=(e5.trans e6).row r4;rw[aM ar 9 F,ah];refine(S7 (rOp.ext ab (e5.trans e6))).mono λr h7 ⟨e,e7⟩=>?_
  subst e;simp only[go_sem];refine Pf.mono λr I ⟨e,wq⟩=>?_
  have wq:=wq.symm;subst e wq;simp only[go_sem];refine aj (λI=>?_) (λI=>?_)
  ·have I:¬ic (mN o w1) (qn o A) c:=I;rw[if_pos I]at hc;rw[hc];exact⟨_,rfl,N.exts.trans (U.trans e7),λ_=>rfl,λh=>by cases h⟩
  have I:¬ ¬ic (mN o w1) (qn o A) c:=I;rw[if_neg I]at hc;rw[aM (e7.row r6) 5 aa,ah];have au:=U.trans e7;have N7:=N.ext au;have R7:=uq.ext (dR D) (e6.trans e7);refine ie.push (e:=uq) (Y:=eo h4 h5) N7 R7 (λb hb=>⟨Nat.le_trans (N.exts.trans e4).1 hb.1,?_,λhv=>?_⟩) rfl rfl (by rw[dl];omega) (by rw[dl];omega) λs' h' N' _ _=>?_
  ·have:=hb.2;have:=e6.1;have:=e7.1;omega
  ·have h9:=N.lt hv;have aw:=hb.1;have ax:=e4.1;omega
  ·try simp only[go_sem]
   rw[w64 (by omega) (by omega)];have hs:=NI Wo iw ih;refine al (mN o w1,qn o A,s') h' G ⟨hs.1,hs.2,hc,done++[bM o w1 A],by simp[dl],?_,N'⟩;rw[List.append_assoc];exact hd
 ·have ad:k=l.length:=by omega
  subst ad;have hc:xC l w hh c=Cs c (l.drop l.length) w1 A:=hc;have hd:uC l w hh=done++uC (l.drop l.length) w1 A:=hd;rw[List.drop_length]at hc hd;have hc:xC l w hh c=0:=hc;rw[hc,hd];refine⟨_,rfl,N.exts,λh=>absurd rfl h,λ_=>?_⟩;rw[show uC [] w1 A=[]from rfl,List.append_nil];exact N
theorem Yk {Z:Nat→Prop}{h:af}{v:Value}{l:List OpD}(H:Rp.Sl rOp Z h v l)(few:l.length≤4398046):
  ae prog wV #[v] h λr h'=>Rp.Sl rOp (λ_=>True) h' r l∧Ext h h':=by
 apply KI;unfold A5;obtain⟨a,cap,e⟩:=H.isSl;have e2:aq v=some (.int .i64 (l.length:Int)):=by rw[e];rfl
 rw[e2,ah];have H:=H.mono (Z':=λc=>c<h.size) λc hc _=>hc
 refine bA (α:=Value) l.length 0 (λk a=>[a,.int .i64 (k:Int)])
  (λk a h'=>Rp.Ow rOp (λc=>c<h.size) h' a (l.take k)∧Ext h h'∧∀b,blk a b→h.size≤b) (.slice none 0 0) rfl (Nat.zero_le _)
  ⟨Rp.Ow.nil,Ext.refl _,λb hb=>hb.elim⟩ λk out h2 again ρj _ hk ⟨N,E,nb⟩ I=>?_
 simp only[go_sem];refine aj (λh3=>?_) (λh3=>?_)
 ·have D:k<l.length:=by omega
  obtain⟨p,cs,W,q2,G⟩:=Rp.Sl.atw (e:=rOp) (H.ext E) (show 0<9 by omega) (k:=.i64) D;have W:aR 9 v (.int .i64 (k:Int))=some p:=W;have q2:aH 9 h2 p=some (.agg cs.toArray):=q2;rw[W,ah,q2,ah];have A:cs.length=9:=rOp.len G;refine cD (cs:=cs) A (rOp.one G) A λb h4 r4 L n4=>?_
  rw[aM r4 9 A,ah];refine(c_Ref (rOp.ext G L)).mono λr h5 ⟨e,U,e5⟩=>?_
  subst e;have E5:=(E.trans L).trans e5;have F:(l.take k).length=k:=by rw[List.length_take];omega
  refine Rp.push_ow (e:=rOp) (N.ext (L.trans e5)) U rfl rfl (by rw[F];omega) (by rw[F];omega) (λc hc=>Nat.lt_of_lt_of_le hc E5.1) λs' h' o' f' n'=>?_
  try simp only[go_sem]
  rw[w64 (by omega) (by omega)];rw[←List.take_succ_eq_append_getElem D]at o';refine I s' h' D ⟨o',E5.then_fr f' nb,λc hc=>?_⟩;rcases n' c hc with h6|h6
  ·exact nb c h6
  ·exact Nat.le_trans E5.1 h6
 ·rw[List.take_of_length_le (by omega)]at N;exact⟨N.sl.mono λ_ _ _=>trivial,E⟩
abbrev rU:Rp Int:=Rp.int .u16
abbrev FU (l:List Int):List Value:=l.map λn=>Value.int .u16 n
structure Pic where
 w:Int
 h:Int
 c:Int
 most:Int
 l:List Int
structure Pic.Wf (m:Pic):Prop where
 fits:ic m.w m.h m.c
 m1:1≤m.most
 m2:m.most≤65535
 len:(m.l.length:Int)=m.w*m.h*m.c
 smp:∀x∈m.l,0≤x∧x≤m.most
def inP (m:Pic)(x y c:Int):Prop:=0≤x∧x<m.w∧0≤y∧y<m.h∧0≤c∧c<m.c
instance (m:Pic)(x y c:Int):Decidable (inP m x y c):=by unfold inP;infer_instance
def mI (m:Pic)(x y c:Int):Int:=(y*m.w+x)*m.c+c
def atP (m:Pic)(x y c:Int):Int:=if inP m x y c then m.l.getD (mI m x y c).toNat 0 else 0
def NJ (m:Pic)(x y c v:Int):Pic:={m with l:=m.l.set (mI m x y c).toNat v}
theorem cL {w h c:Int}(f:ic w h c):1≤w∧w≤65536∧1≤h∧h≤65536∧1≤c∧c≤3∧0≤w*h∧w*h≤4294967296∧0≤w*h*c∧w*h*c≤268435456:=by
 obtain⟨h1,H,F,G,L,I⟩:=f;have D:=kS (a:=w) (A:=65536) (b:=h) (B:=65536) (by omega) (by omega) (by omega) (by omega);refine⟨h1,H,F,G,by omega,by omega,D.1,D.2,Int.mul_nonneg D.1 (by omega),I⟩
theorem Hn {m:Pic}(W:m.Wf){x y c:Int}(h:inP m x y c):0≤y*m.w∧y*m.w+x≤4294967296∧0≤mI m x y c∧mI m x y c<m.l.length:=by
 obtain⟨h1,U,L,h4,h5,h6,h7,H,F,D⟩:=cL W.fits;obtain⟨x0,G,y0,y1,c0,c1⟩:=h;have a0:0≤y*m.w:=Int.mul_nonneg y0 (by omega);have a1:y*m.w≤(m.h-1)*m.w:=Int.mul_le_mul_of_nonneg_right (by omega) (by omega);rw[Int.sub_mul,Int.one_mul,Int.mul_comm m.h]at a1;have I:0≤(y*m.w+x)*m.c:=Int.mul_nonneg (by omega) (by omega);have A:(y*m.w+x)*m.c≤(m.w*m.h-1)*m.c:=Int.mul_le_mul_of_nonneg_right (by omega) (by omega);rw[Int.sub_mul,Int.one_mul]at A;have:=W.len;unfold mI;refine⟨a0,by omega,by omega,by omega⟩
structure cA (h:af)(b:Nat)(v:Value)(m:Pic):Prop where
 row:h[b]? =some (.cells #[.int .i64 m.w,.int .i64 m.h,.int .i64 m.c,.int .i64 m.most,v] 110 (0,0))
 own:Own 1 h v m.l.length (FU m.l)
 ap:¬blk v b
abbrev ptr (b:Nat):Value:=.pointer (some ⟨b,0,none⟩)
theorem cA.fr {M:Nat→Prop}{h h':af}{b:Nat}{v:Value}{m:Pic}(H:cA h b v m)(f:Fr M h h')(A:¬M b)(q:∀c,blk v c→¬M c):cA h' b v m:=⟨f.row H.row A,H.own.fr f q,H.ap⟩
theorem cA.ext {h h':af}{b:Nat}{v:Value}{m:Pic}(H:cA h b v m)(e:Ext h h'):cA h' b v m:=H.fr (M:=λ_=>False) e.fr id λ_ _=>id
theorem cA.lt {h:af}{b:Nat}{v:Value}{m:Pic}(H:cA h b v m):b<h.size:=aW H.row
theorem cA.ltv {h:af}{b:Nat}{v:Value}{m:Pic}(H:cA h b v m){c:Nat}(hc:blk v c):c<h.size:=H.own.lt hc
theorem qU {h:af}{b:Nat}{v:Value}{m:Pic}(H:cA h b v m):ae prog bD #[ptr b] h λr h'=>r=.int .i64 m.w∧h'=h:=by
 apply xG;unfold mR;simp only[go_sem,ai H.row];exact⟨by simp,by simp⟩
theorem pP {h:af}{b:Nat}{v:Value}{m:Pic}(H:cA h b v m):ae prog bF #[ptr b] h λr h'=>r=.int .i64 m.h∧h'=h:=by
 apply wh;unfold lK;simp only[go_sem,ai H.row];exact⟨by simp,by simp⟩
theorem dA {h:af}{b:Nat}{v:Value}{m:Pic}(H:cA h b v m):ae prog aO #[ptr b] h λr h'=>r=.int .i64 m.c∧h'=h:=by
 apply uv;unfold kl;simp only[go_sem,ai H.row];exact⟨by simp,by simp⟩
theorem rn {h:af}{b:Nat}{v:Value}{m:Pic}(H:cA h b v m):ae prog cJ #[ptr b] h λr h'=>r=.int .i64 m.most∧h'=h:=by
 apply yN;unfold oS;simp only[go_sem,ai H.row];exact⟨by simp,by simp⟩
theorem RQ {h:af}{b:Nat}{v:Value}{m:Pic}(H:cA h b v m)(W:m.Wf){x y c:Int}:ae prog gy #[ptr b,.int .i64 x,.int .i64 y,.int .i64 c] h λr h'=>
  r=.int .i64 (if inP m x y c then mI m x y c else-1)∧h'=h:=by
 apply xF;unfold mQ;have D:aB h ⟨b,0,none⟩=some (.int .i64 m.w):=ai H.row;have F:aB h ⟨b,1,none⟩=some (.int .i64 m.h):=ai H.row;have G:aB h ⟨b,2,none⟩=some (.int .i64 m.c):=ai H.row;simp only[go_sem,Nat.zero_add,D,F,G];refine aj (λh0=>?_) (λh0=>?_)
 ·rw[if_neg (by unfold inP;omega)];exact⟨rfl,trivial⟩
 ·have hi:inP m x y c:=by unfold inP;omega
  have I:=Hn W hi;have U:=cL W.fits;have L:=W.len;rw[if_pos hi];have e:(y*m.w+x)*m.c+c=mI m x y c:=rfl;have A:=hi;unfold inP at A;rw[w64 (n:=y*m.w) (by omega) (by omega),w64 (n:=y*m.w+x) (by omega) (by omega),w64 (n:=(y*m.w+x)*m.c) (by omega) (by omega),w64 (by omega) (by omega)];exact⟨rfl,trivial⟩
theorem Xd {h:af}{b:Nat}{v:Value}{m:Pic}(H:cA h b v m)(W:m.Wf){x y c:Int}:ae prog fi #[ptr b,.int .i64 x,.int .i64 y,.int .i64 c] h λr h'=>
  r=.int .u16 (atP m x y c)∧h'=h:=by
 apply BN;unfold rM;refine(RQ H W).mono λr h1 ⟨e,D⟩=>?_
 have D:=D.symm;subst e D;unfold atP;have U:aB h ⟨b,4,none⟩=some v:=ai H.row;by_cases hi:inP m x y c
 ·have G:=Hn W hi;rw[if_pos hi,if_pos hi];simp only[go_sem,Nat.zero_add,U];rw[decide_eq_true G.2.2.1,fI];obtain⟨i,F⟩:∃i:Nat,mI m x y c=(i:Int):=⟨(mI m x y c).toNat,by omega⟩
  rw[F,Int.toNat_natCast];have A:i<m.l.length:=by omega
  obtain⟨p,L,I,_⟩:=H.own.at1 (k:=.i64) A;rw[L,ah,I,ah];refine⟨?_,trivial⟩;rw[List.getElem_map];simp[List.getD_eq_getElem?_getD,A]
 ·rw[if_neg hi,if_neg hi];simp only[go_sem];rw[show decide ((0:Int)≤ -1)=false from rfl,cf];exact⟨by simp,by simp⟩
theorem RT {h:af}{b:Nat}{v:Value}{m:Pic}(H:cA h b v m)(W:m.Wf){x y c n:Int}(n0:0≤n)(n1:n≤65535):ae prog eK #[ptr b,.int .i64 x,.int .i64 y,.int .i64 c,.int .u16 n] h λr h'=>
  r=.bool (decide (inP m x y c∧n≤m.most))∧cA h' b v (if inP m x y c∧n≤m.most then NJ m x y c n else m)∧Fr (blk v) h h'∧h'.size=h.size:=by
 apply Ar;unfold qy;refine(RQ H W).mono λr h1 ⟨e,G⟩=>?_
 have G:=G.symm;subst e G;have L:aB h ⟨b,3,none⟩=some (.int .i64 m.most):=ai H.row;have q4:aB h ⟨b,4,none⟩=some v:=ai H.row;simp only[go_sem,Nat.zero_add,L,q4];rw[w64 (by omega) (by omega)];by_cases hi:inP m x y c
 ·have hp:=Hn W hi;rw[if_pos hi];refine aj (λh0=>?_) (λh0=>?_)
  ·have A:¬(inP m x y c∧n≤m.most):=by rintro⟨_,_⟩;omega
   rw[if_neg A,decide_eq_false A];exact⟨rfl,H,Fr.refl _ _,trivial⟩
  ·have I:inP m x y c∧n≤m.most:=⟨hi,by omega⟩
   rw[if_pos I,decide_eq_true I];obtain⟨i,D⟩:∃i:Nat,mI m x y c=(i:Int):=⟨(mI m x y c).toNat,by omega⟩
   have hs:NJ m x y c n={m with l:=m.l.set i n}:=by unfold NJ;rw[D,Int.toNat_natCast]
   rw[D,hs];have F:i<m.l.length:=by omega
   obtain⟨p,U,p2,p3⟩:=H.own.at1 (k:=.i64) F;rw[U,ah];refine p3 _ _ rfl λh2 o2 f2 s2=>⟨rfl,⟨f2.row H.row H.ap,?_,H.ap⟩,f2,s2⟩
   show Own 1 h2 v (m.l.set i n).length (FU (m.l.set i n));rw[List.length_set,FU,List.map_set];exact o2
 ·have A:¬(inP m x y c∧n≤m.most):=λhh=>hi hh.1
  rw[if_neg hi,if_neg A,decide_eq_false A];rw[show decide ((-1:Int)<0∨m.most<n)=true from decide_eq_true (by omega),fI];exact⟨rfl,H,Fr.refl _ _,trivial⟩
theorem Rn {m:Pic}(W:m.Wf){x y c n:Int}(A:0≤n)(F:n≤m.most):(NJ m x y c n).Wf:=by
 refine⟨W.fits,W.m1,W.m2,?_,λz D=>?_⟩
 ·show((m.l.set _ n).length:Int)=_;rw[List.length_set];exact W.len
 ·rcases List.mem_or_eq_of_mem_set D with h|h
  ·exact W.smp z h
  ·rw[h];exact⟨A,F⟩
theorem BB {k:IntKind}{h:af}{v:Value}{l:List Int}(H:Own 1 h v l.length (l.map λn=>Value.int k n)):Rp.Sl (Rp.int k) (blk v) h v l:=
 (Rv H).sl.mono λb _ A=>A.elim False.elim id
theorem Pu {h:af}{Z:Nat→Prop}{v:Value}{l:List Int}(H:Rp.Sl rU Z h v l)(hl:l.length≤1000000000):
  ae prog cQ #[v] h λr h'=>New rU h h' r l:=by
 apply lT;unfold gi;obtain⟨ds,⟨A,a,cap,rfl,D⟩,hz,he⟩:=H;rw[Fa,ah];cases a with
 | none=>
  have:l=[]:=by
   rcases D with D|⟨b,o,h0,_⟩
   ·subst D;have W:([]:List Value).length=l.length*1:=A;exact List.eq_nil_of_length_eq_zero (by simpa using W.symm)
   ·cases h0
  subst this;simp only[Option.isNone_none,go_sem];exact New.nil (Ext.refl _)
 |some a=>
  simp only[Option.isNone_some,go_sem];refine cz (c':=#[]) rfl λb h1 r1 L n1=>?_
  have O:Rp.Ow rU (λ_=>False) h1 (.slice (some ⟨b,0,none⟩) 0 0) []:=⟨[],.inr ⟨b,0,[],_,rfl,Nat.le_refl _,rfl,rfl,r1⟩,λb hb G=>G,λi hi=>absurd hi (by simp)⟩
  have S1:SlC 1 h1 (.slice (some a) l.length cap) l.length ds:=SlC.ext ⟨A,some a,cap,rfl,D⟩ L;refine Rp.app_ow (e:=rU) (l:=[]) (l2:=l) O S1 (λi hi=>he i hi) rfl (by simp;omega) (by simp;omega) (λb hb=>hb.elim) λv2 W U f2 n2=>?_
  rw[List.nil_append]at U;have nb:∀k,blk (.slice (some ⟨b,0,none⟩) 0 0) k→h.size≤k:=λk F=>by have:k=b:=F;omega
  refine⟨U,L.then_fr f2 nb,λk F=>?_⟩;rcases n2 k F with I|I
  ·exact nb k I
  ·exact Nat.le_trans L.1 I
theorem Tk {h:af}{b:Nat}{v:Value}{m:Pic}(H:cA h b v m)(W:m.Wf):ae prog iM #[ptr b] h λr h'=>New rU h h' r m.l:=by
 apply vz;unfold kY;have A:aB h ⟨b,4,none⟩=some v:=ai H.row;simp only[go_sem,Nat.zero_add,A];have D:=cL W.fits;have:=W.len;exact Pu (BB H.own) (by omega)
theorem UC {a b c d e v w x y z:Value}(A:aJ a=true)(F:aJ b=true)(hc:aJ c=true)(hd:aJ d=true)(D:aJ e=true):aF #[v,w,x,y,z] [(0,1,a),(1,1,b),(2,1,c),(3,1,d),(4,1,e)]=some #[a,b,c,d,e]:=by
 simp only[aF,bT A,bT F,bT hc,bT hd,bT D];rfl
def y5 (w h c most:Int):Int:=if most<1∨65535<most∨(c≠1∧c≠3)then 2 else if¬ic w h c then 5 else 0
def qT (w h c most:Int):Pic:=⟨w,h,c,most,List.replicate (w*h*c).toNat 0⟩
def pZ (h h':af)(p:Value)(m:Pic):Prop:=∃b v,p=ptr b∧cA h' b v m∧h.size≤b∧(∀c,blk v c→h.size≤c)∧Ext h h'
theorem vE {w h c most:Int}:y5 w h c most=0↔ic w h c∧1≤most∧most≤65535:=by
 unfold y5;split
 ·constructor
  ·intro h;cases h
  ·rintro⟨⟨_,_,_,_,_,_⟩,_,_⟩;omega
 ·split
  ·constructor
   ·intro h;cases h
   ·rintro⟨h,_⟩;contradiction
  ·rename_i h1 A;exact⟨λ_=>⟨Decidable.of_not_not A,by omega,by omega⟩,λ_=>rfl⟩
theorem Ab {w h c most:Int}(H:y5 w h c most=0):(qT w h c most).Wf:=by
 obtain⟨h1,D,A⟩:=vE.1 H;have G:=cL h1;refine⟨h1,D,A,?_,λx F=>?_⟩
 ·show((List.replicate (w*h*c).toNat (0:Int)).length:Int)=w*h*c;rw[List.length_replicate];omega
 ·have:x=0:=(List.mem_replicate.1 F).2;subst this;show 0≤(0:Int)∧(0:Int)≤most;omega
theorem vF {h:af}{w hh c most:Int}:ae prog gx #[.int .i64 w,.int .i64 hh,.int .i64 c,.int .i64 most] h λr h'=>
  ∃p,r=.tuple #[p,.int .i64 (y5 w hh c most)]∧Ext h h'∧(y5 w hh c most≠0→p=.pointer none)∧(y5 w hh c most=0→pZ h h' p (qT w hh c most)):=by
 apply KE;unfold AY;simp only[go_sem];have A:y5 w hh c most=if most<1∨65535<most∨(c≠1∧c≠3)then 2 else if¬ic w hh c then 5 else 0:=rfl
 refine aj (λh0=>?_) (λh0=>?_)
 ·rw[if_pos (by omega)]at A;rw[A];exact⟨_,rfl,Ext.refl _,λ_=>rfl,λh=>by cases h⟩
 rw[if_neg (by omega)]at A;refine Q0.mono λr h1 ⟨e,G⟩=>?_
 have G:=G.symm;subst e G;simp only[go_sem];refine aj (λh1=>?_) (λh1=>?_)
 ·rw[if_pos h1]at A;rw[A];exact⟨_,rfl,Ext.refl _,λ_=>rfl,λh=>by cases h⟩
 rw[if_neg h1]at A;have hf:=cL (Decidable.of_not_not h1);rw[w64 (n:=w*hh) (by omega) (by omega),w64 (n:=w*hh*c) (by omega) (by omega)];obtain⟨n,H⟩:∃n:Nat,w*hh*c=(n:Int):=⟨(w*hh*c).toNat,by omega⟩
 rw[H];refine lU rfl (by omega) (by omega) λv h2 o2 D W=>?_
 obtain⟨av,cv,ev⟩:=o2.isSl;rw[UC rfl rfl rfl rfl (by rw[ev];rfl),Option.map_some,ah];refine aC (c:=#[.int .i64 w,.int .i64 hh,.int .i64 c,.int .i64 most,v]) λb I U F n3=>?_
 rw[A];refine⟨_,rfl,D.trans F,λh=>absurd rfl h,λ_=>⟨b,v,rfl,⟨U,?_,λL=>?_⟩,Nat.le_trans D.1 n3,W,D.trans F⟩⟩
 ·show Own 1 I v (List.replicate (w*hh*c).toNat (0:Int)).length (FU (List.replicate (w*hh*c).toNat 0));rw[H,Int.toNat_natCast,List.length_replicate,FU,List.map_replicate];exact o2.fr (M:=λ_=>False) F.fr λ_ _=>id
 ·have:=o2.lt L;omega
theorem MX {l m:List Int}(h:l.length=m.length)(H:∀i (h1:i<l.length) (A:i<m.length),l[i]=m[i]):l=m:=List.ext_getElem h λi h1 A=>H i h1 A
theorem New.img {h h0:af}{u:Value}{m:Pic}{b:Nat}{h':af}(N:New rU h h0 u m.l)(r:h'[b]? =some (.cells #[.int .i64 m.w,.int .i64 m.h,.int .i64 m.c,.int .i64 m.most,u] 110 (0,0)))(e:Ext h0 h')(n:h0.size≤b):pZ h h' (ptr b) m:=
 ⟨b,u,rfl,⟨r,(Mq N.1).fr (M:=λ_=>False) e.fr λ_ _=>id,λA=>by have:=N.1.lt A;omega⟩,Nat.le_trans N.2.1.1 n,N.2.2,N.2.1.trans e⟩
theorem Ys {h:af}{b:Nat}{v:Value}{m:Pic}(H:cA h b v m)(W:m.Wf):ae prog ke #[ptr b] h λr h'=>pZ h h' r m:=by
 apply yO;unfold oT;simp only[go_sem,Nat.zero_add];have q:∀h',Ext h h'→_:=λh' e=>e.row H.row
 refine aI (Ext h) (Ext.refl _) ?_;refine ao (.int .i64 m.w) (λh' e=>ai (q h' e)) ?_;refine ao (.int .i64 m.h) (λh' e=>ai (q h' e)) ?_;refine ao (.int .i64 m.c) (λh' e=>ai (q h' e)) ?_;refine ao (.int .i64 m.most) (λh' e=>ai (q h' e)) ?_;refine ao v (λh' e=>ai (q h' e)) ?_;have I:=cL W.fits;have:=W.len;refine(Pu (BB H.own) (by omega)).mono λu h1 N=>⟨N.2.1,?_⟩
 obtain⟨av,cv,ev⟩:=N.isSl;rw[UC rfl rfl rfl rfl (by rw[ev];rfl),Option.map_some,ah];refine aC (c:=#[.int .i64 m.w,.int .i64 m.h,.int .i64 m.c,.int .i64 m.most,u]) λG L D A F=>?_
 exact New.img N D A F
theorem Yq {h:af}{Z:Nat→Prop}{v:Value}{l:List Int}(H:Rp.Sl rU Z h v l)(h0:0<l.length)(hl:l.length≤1000000000):
  ae prog eZ #[v] h λr h'=>(∃x∈l,r=.int .u16 x)∧h'=h:=by
 apply nE;unfold gW;obtain⟨a,c,e⟩:=H.isSl;have L:aq v=some (.int .i64 (l.length:Int)):=by rw[e];rfl
 refine aV (λxs h'=>h'=h) ?_ ?_
 ·simp only[go_sem,L];rw[decide_eq_false (by omega),cf];trivial
 rintro xs ρj h1 hh;have hh:=hh.symm;subst hh;obtain⟨p,G,W⟩:=H.int_at (k':=.i64) h0;have G:aR 1 v (.int .i64 0)=some p:=G;rw[G,ah,W,ah];refine bA (α:=Int) l.length 1 (λi x=>[.int .u16 x,.int .i64 (i:Int)]) (λi x h'=>x∈l∧h'=h) l[0] rfl (by omega) ⟨List.getElem_mem _,rfl⟩ λi x h1 again ρj aa hi ⟨U,F⟩ D=>?_
 have F:=F.symm;subst F;simp only[go_sem,L];refine aj (λh2=>?_) (λh2=>?_)
 ·have A:i<l.length:=by omega
  obtain⟨q,q1,q2⟩:=H.int_at (k':=.i64) A;simp only[go_sem,q1,q2];rw[w64 (by omega) (by omega)];refine D _ h A ⟨?_,rfl⟩;rcases Int.le_total x l[i]with I|I
  ·rw[Int.max_eq_right I];exact List.getElem_mem _
  ·rw[Int.max_eq_left I];exact U
 ·exact⟨⟨x,U,rfl⟩,trivial⟩
theorem Nf {h:af}{Z:Nat→Prop}{v:Value}{l:List Int}{w hh c most:Int}(H:Rp.Sl rU Z h v l)(hc:y5 w hh c most=0)(hl:(l.length:Int)=w*hh*c)(hs:∀x∈l,0≤x∧x≤most):
  ae prog pT #[.int .i64 w,.int .i64 hh,.int .i64 c,.int .i64 most,v] h λr h'=>∃p,r=.tuple #[p,.int .i64 0]∧pZ h h' p ⟨w,hh,c,most,l⟩:=by
 apply MJ;unfold C1;refine vF.mono λr h1 ⟨p,e,U,_,s1⟩=>?_
 subst e;obtain⟨b,u,rfl,I,nb,nu,_⟩:=s1 hc;obtain⟨f1,f2,f3⟩:=vE.1 hc;have hf:=cL f1;have W:=Ab hc;obtain⟨a,ca,e⟩:=H.isSl;have e2:aq v=some (.int .i64 (l.length:Int)):=by rw[e];rfl
 obtain⟨au,cu,eu⟩:=I.own.isSl;have il:((qT w hh c most).l.length:Int)=w*hh*c:=W.len;have D:aq u=some (.int .i64 (l.length:Int)):=by rw[eu,hl,←il];rfl
 have q4:aB h1 ⟨b,4,none⟩=some u:=ai I.row;simp only[go_sem,hc,e2,Nat.zero_add,q4,D];have h0:0<l.length:=by
  have a1:1≤w*hh:=by
   have:=Int.mul_le_mul (show(1:Int)≤w by omega) (show(1:Int)≤hh by omega) (by omega) (by omega);omega
  have:=Int.mul_le_mul a1 (show(1:Int)≤c by omega) (by omega) (by omega);omega
 refine(Yq (H.ext U) h0 (by omega)).mono λr h2 ⟨⟨x,hx,e⟩,L⟩=>?_
 have L:=L.symm;subst e L;have aa:=hs x hx;simp only[go_sem];rw[w64 (by omega) (by omega),decide_eq_false (by omega),cf];simp only[go_sem,Nat.zero_add,q4];have hn:(qT w hh c most).l.length=l.length:=by omega
 have A:=I.own;rw[hn]at A;obtain⟨ds,S,_,he⟩:=H.ext U;have F:ds=FU l:=by
  have ab:ds.length=l.length*1:=S.1;apply List.ext_getElem
  ·simp;omega
  ·intro i G h4;have h5:=he i (by simpa using h4);have h6:Rp.el 1 ds i=[Value.int .u16 (l[i]'(by simpa using h4))]:=h5;rw[Rp.el_one G]at h6;simpa using h6
 subst F;refine D0 A S (λy hy=>by obtain⟨z,_,rfl⟩:=List.mem_map.1 hy;rfl) λG o3 f3 s3=>?_
 refine⟨_,rfl,b,u,rfl,⟨f3.row I.row I.ap,?_,I.ap⟩,nb,nu,U.then_fr f3 nu⟩;show Own 1 G u l.length (FU l);have e5:(FU l).take l.length++(FU (qT w hh c most).l).drop l.length=FU l:=by
  rw[List.take_of_length_le (by simp),List.drop_eq_nil_of_le (by simp;omega),List.append_nil]
 rw[←e5];exact o3
def zh (w h c most:Int)(l:List Int):Pic:=
 ⟨1+w%20,1+h%20,1+2*(c%2),1+most%65535,(List.range ((1+w%20)*(1+h%20)*(1+2*(c%2))).toNat).map λi=>if 0<l.length then(l.getD (i%l.length) 0+((i/l.length:Nat):Int))%(1+most%65535+1)else 0⟩
theorem OY (w h c:Int):1≤(1+w%20)*(1+h%20)*(1+2*(c%2))∧(1+w%20)*(1+h%20)*(1+2*(c%2))≤1200:=by
 have h1:=kS (a:=1+w%20) (A:=20) (b:=1+h%20) (B:=20) (by omega) (by omega) (by omega) (by omega);have D:=Int.mul_le_mul (show(1:Int)≤1+w%20 by omega) (show(1:Int)≤1+h%20 by omega) (by omega) (by omega);generalize(1+w%20)*(1+h%20)=a at*;have:c%2=0∨c%2=1:=by omega
 rcases this with h|h<;>rw[h]<;>omega
theorem OZ (w h c most:Int)(l:List Int):(zh w h c most l).Wf:=by
 have D:=OY w h c;refine⟨⟨?_,?_,?_,?_,?_,?_⟩,?_,?_,?_,λx A=>?_⟩
 ·show 1≤1+w%20;omega
 ·show 1+w%20≤65536;omega
 ·show 1≤1+h%20;omega
 ·show 1+h%20≤65536;omega
 ·show 1+2*(c%2)=1∨1+2*(c%2)=3;omega
 ·show(1+w%20)*(1+h%20)*(1+2*(c%2))≤268435456;omega
 ·show 1≤1+most%65535;omega
 ·show 1+most%65535≤65535;omega
 ·show((List.map _ (List.range _)).length:Int)=(1+w%20)*(1+h%20)*(1+2*(c%2));rw[List.length_map,List.length_range];omega
 ·obtain⟨i,_,rfl⟩:=List.mem_map.1 A;show 0≤_∧_≤1+most%65535;split
  ·have:=Int.emod_nonneg (l.getD (i%l.length) 0+((i/l.length:Nat):Int)) (show 1+most%65535+1≠0 by omega);have:=Int.emod_lt_of_pos (l.getD (i%l.length) 0+((i/l.length:Nat):Int)) (show 0<1+most%65535+1 by omega);omega
  ·omega
theorem Own.at_mapU {h:af}{v:Value}{n:Nat}{g:Nat→Int}(H:Own 1 h v n ((List.range n).map λi=>Value.int .u16 (g i))){k:IntKind}{i:Nat}(hi:i<n):
  ∃p,aR 1 v (.int k (i:Int))=some p∧∀(x:Int) (K:Value→af→Prop),
   (∀h',Own 1 h' v n ((List.range n).map λj=>Value.int .u16 (if j=i then x else g j))→Fr (blk v) h h'→K undef h')→stK 1 p (.int .u16 x) h K:=by
 obtain⟨p,h1,F,D⟩:=Own.at1 H (k:=k) hi;refine⟨p,h1,λx K A=>D _ _ rfl λh' o f _=>A h' ?_ f⟩;rw[Be _ _ _ _ hi]at o;have e:(λj=>if j=i then Value.int .u16 x else Value.int .u16 (g j))=λj=>Value.int .u16 (if j=i then x else g j):=by
  funext j;split<;>rfl
 rw[e]at o;exact o
abbrev U16 (n:Int):Prop:=0≤n∧n≤65535
theorem U3 {h:af}{Z:Nat→Prop}{v:Value}{l:List Int}{w hh c most:Int}(H:Rp.Sl rU Z h v l)(hw:U16 w)(be:U16 hh)(hc:U16 c)(hm:U16 most)(a9:∀x∈l,U16 x)(hl:l.length≤4611686018427387904):
  ae prog wW #[.int .u16 w,.int .u16 hh,.int .u16 c,.int .u16 most,v] h λr h'=>pZ h h' r (zh w hh c most l):=by
 apply KJ;unfold A7;rw[dc _ _ _ _ (by omega),ah,dc _ _ _ _ (by omega)];simp only[go_sem];rw[dc _ _ _ _ (by omega)];simp only[go_sem];rw[Int.tmod_eq_emod_of_nonneg hw.1,Int.tmod_eq_emod_of_nonneg be.1,Int.tmod_eq_emod_of_nonneg hc.1];rw[w64 (n:=w%20) (by omega) (by omega),w64 (n:=hh%20) (by omega) (by omega),w64 (n:=c%2) (by omega) (by omega),w64 (n:=2*(c%2)) (by omega) (by omega),w64 (n:=1+2*(c%2)) (by omega) (by omega),w64 (n:=most) (by omega) (by omega),
  w64 (n:=1+w%20) (by omega) (by omega),w64 (n:=1+hh%20) (by omega) (by omega)]
 rw[dc _ _ _ _ (by omega),ah,Int.tmod_eq_emod_of_nonneg hm.1];simp only[go_sem];have hb:=OY w hh c;have h1:=kS (a:=1+w%20) (A:=20) (b:=1+hh%20) (B:=20) (by omega) (by omega) (by omega) (by omega);rw[w64 (n:=1+most%65535) (by omega) (by omega),w64 (n:=(1+w%20)*(1+hh%20)) (by omega) (by omega),w64 (n:=(1+w%20)*(1+hh%20)*(1+2*(c%2))) (by omega) (by omega)];have PW:=OZ w hh c most l;obtain⟨n,hn⟩:∃n:Nat,(1+w%20)*(1+hh%20)*(1+2*(c%2))=(n:Int):=⟨((1+w%20)*(1+hh%20)*(1+2*(c%2))).toNat,by omega⟩
 have an:(zh w hh c most l).l=(List.range n).map λi=>if 0<l.length then(l.getD (i%l.length) 0+((i/l.length:Nat):Int))%(1+most%65535+1)else 0:=by unfold zh;rw[hn];rfl
 rw[hn];obtain⟨D,F⟩:∃D,1+most%65535=D:=⟨_,rfl⟩
 rw[F]at an ⊢;have ad:1≤D∧D≤65535:=by omega
 refine lU rfl (by omega) (by omega) λu h2 o2 e2 n2=>?_
 obtain⟨au,cu,eu⟩:=o2.isSl;have bg:aq u=some (.int .i64 (n:Int)):=by rw[eu];rfl
 obtain⟨al,cl,el⟩:=H.isSl;have W:aq v=some (.int .i64 (l.length:Int)):=by rw[el];rfl
 rw[bg,ah];have H:=H.mono (Z':=λc=>c<h.size) λc hc _=>hc
 generalize hg:(λi:Nat=>if 0<l.length then(l.getD (i%l.length) 0+((i/l.length:Nat):Int))%(D+1)else 0)=g at*;have ab:∀i,g i=if 0<l.length then(l.getD (i%l.length) 0+((i/l.length:Nat):Int))%(D+1)else 0:=λi=>by rw[←hg]
 refine bA (α:=Unit) n 0 (λi _=>[.int .i64 (i:Int)]) (λi _ h'=>Ext h h'∧Own 1 h' u n ((List.range n).map λj=>Value.int .u16 (if j<i then g j else 0))) () rfl (Nat.zero_le _)
  ⟨e2,by
   have e:List.replicate n (Value.int .u16 0)=(List.range n).map λj=>Value.int .u16 (if j<0 then g j else 0):=by apply List.ext_getElem<;>simp
   rw[←e];exact o2⟩ λi _ h3 again ρj _ hi ⟨E3,o3⟩ aa=>?_
 simp only[go_sem];have ar:∀j,(if j=i then g i else if j<i then g j else 0)=if j<i+1 then g j else 0:=λj=>by
  by_cases h1:j=i
  ·subst h1;simp
  ·rw[if_neg h1];by_cases h2:j<i
   ·rw[if_pos h2,if_pos (by omega)]
   ·rw[if_neg h2,if_neg (by omega)]
 refine aj (λh4=>?_) (λh4=>?_)
 ·have L:i<n:=by omega
  rw[W,ah];simp only[go_sem];refine aj (λh5=>?_) (λh5=>?_)
  ·have aw:0<l.length:=by omega
   refine aI (λh'=>h'=h3) rfl ?_;refine ao (.int .i64 (l.length:Int)) (λh' e=>by first|exact W|rfl) ?_;rw[dc _ _ _ _ (by omega),ah,Int.tmod_eq_emod_of_nonneg (by omega),show(i:Int)%(l.length:Int)=((i%l.length:Nat):Int)by omega];have U:i%l.length<l.length:=Nat.mod_lt _ aw;obtain⟨p,p1,p2⟩:=(H.ext E3).int_at (k':=.i64) U;rw[p1,ah];refine ao _ (λh' e=>by rw[e];exact p2) ?_;have hx:=a9 _ (List.getElem_mem U);simp only[go_sem];refine ao (.int .i64 (l.length:Int)) (λh' e=>by first|exact W|rfl) ?_;have bv:i/l.length≤i:=Nat.div_le_self _ _;have G:=ab i;rw[kq _ _ _ _ (by omega),ah,Int.tdiv_eq_ediv_of_nonneg (by omega),show(i:Int)/(l.length:Int)=((i/l.length:Nat):Int)by omega];generalize i/l.length=dq at bv G ⊢;rw[w64 (n:=(dq:Int)) (by omega) (by omega)];simp only[go_sem];rw[w64 (n:=l[i%l.length]) (by omega) (by omega),w64 (n:=l[i%l.length]+(dq:Int)) (by omega) (by omega),w64 (n:=D+1) (by omega) (by omega)];rw[dc _ _ _ _ (by omega),ah,Int.tmod_eq_emod_of_nonneg (by omega)];simp only[go_sem];have m1:=Int.emod_nonneg (l[i%l.length]+(dq:Int)) (show D+1≠0 by omega);have m2:=Int.emod_lt_of_pos (l[i%l.length]+(dq:Int)) (show 0<D+1 by omega);rw[wu16 m1 (by omega)];have bc:(l[i%l.length]+(dq:Int))%(D+1)=g i:=by
    rw[G,if_pos aw];simp[List.getD_eq_getElem?_getD,U]
   rw[bc];obtain⟨q,q1,q2⟩:=Own.at_mapU o3 (k:=.i64) L;rw[q1,ah];refine q2 _ _ λh6 o6 f6=>?_
   rw[w64 (by omega) (by omega)];refine aa () h6 L ⟨E3.then_fr f6 n2,?_⟩;simp only[ar]at o6;exact o6
  ·rw[w64 (by omega) (by omega)];refine aa () h3 L ⟨E3,?_⟩;have bd:g i=0:=by rw[ab,if_neg (by omega)]
   rw[←bE (g:=λj=>Value.int .u16 (if j<i then g j else 0)) λj _=>by
    congr 1
    rw[←ar j,bd];by_cases h1:j=i
    ·rw[if_pos h1,if_neg (by omega)]
    ·rw[if_neg h1]]
   exact o3
 ·have bo:i=n:=by omega
  subst bo;have o4:Own 1 h3 u (zh w hh c most l).l.length (FU (zh w hh c most l).l):=by
   rw[an,List.length_map,List.length_range,FU,List.map_map];rw[←bE (g:=λj=>Value.int .u16 (if j<i then g j else 0)) λj hj=>by rw[if_pos hj];rfl];exact o3
  have I:y5 (1+w%20) (1+hh%20) (1+2*(c%2)) D=0:=vE.2 ⟨PW.fits,ad.1,ad.2⟩;have ax:=PW.len;refine(Nf (BB o4) I ax λx hx=>by have:=PW.smp x hx;rw[show(zh w hh c most l).most=D from F]at this;exact this).mono λr h5 ⟨p,e,N⟩=>?_
  subst e;simp only[go_sem];have N2:pZ h3 h5 p (zh w hh c most l):=by
   have:zh w hh c most l=⟨1+w%20,1+hh%20,1+2*(c%2),D,(zh w hh c most l).l⟩:=by rw[←F];rfl
   rw[this];exact N
  obtain⟨b,x,e1,ay,bk,a7,a8⟩:=N2;exact⟨b,x,e1,ay,Nat.le_trans E3.1 bk,λc hc=>Nat.le_trans E3.1 (a7 c hc),E3.trans a8⟩
theorem zY {k:IntKind}{h:af}{b:Nat}{t:TypeId}{l:List Int}{n:Nat}(D:l.length=n)(G:h[b]? =some (.cells (l.map λn=>Value.int k n).toArray t (0,0))):Rp.Sl (Rp.int k) (λk=>k=b) h (.slice (some ⟨b,0,none⟩) n n) l:=by
 subst D;refine⟨l.map (Value.int k),⟨by simp[Rp.int],_,_,rfl,.inr ⟨b,0,rfl,λj A=>?_⟩⟩,λ_ k F=>F,λi hi=>?_⟩
 ·rw[Nat.zero_add,ai G];simp at A;simp[A]
 ·show Rp.el 1 _ i=[.int k l[i]];rw[Rp.el_one (by simpa using hi),List.getElem_map]
theorem Te {h:af}(G:dr h):ae prog uQ #[] h λr h'=>r=.bool true∧Ext h h':=by
 apply Ip;unfold yt;refine(Pe G).mono λw h1 ⟨u,e,N⟩=>?_
 subst e;have e1:dC 0 4 2 1=2:=by decide+kernel
 have U:cq 0 4 2 1=[536870912,536870912]:=by decide+kernel
 rw[e1];rw[U]at N;obtain⟨a,c,eu⟩:=N.isSl;have W:aq u=some (.int .i64 2):=by rw[eu];rfl
 obtain⟨p,H,D⟩:=N.sl.int_at (k':=.i64) (i:=0) (by simp);obtain⟨q,F,I⟩:=N.sl.int_at (k':=.i64) (i:=1) (by simp);have H:aR 1 u (.int .i64 0)=some p:=H;have F:aR 1 u (.int .i64 1)=some q:=F;have D:ldV h1 p=some (.int .i64 536870912):=D;have I:ldV h1 q=some (.int .i64 536870912):=I;simp only[go_sem,W,H,D,F,I,eq_self,decide_true];refine(QZ (by omega) (by unfold I64;omega)).mono λw h2 ⟨e,A⟩=>?_
 have A:=A.symm;subst e A;have L:DP 0 1=1073741824:=by decide+kernel
 have k2:DP 1 2=603979776:=by decide+kernel
 rw[L];simp only[go_sem,eq_self,decide_true];refine(QZ (by omega) (by unfold I64;omega)).mono λw h2 ⟨e,A⟩=>?_
 have A:=A.symm;subst e A;rw[k2];simp only[go_sem,eq_self,decide_true];exact⟨by simp,N.2.1⟩
theorem Td {h:af}:ae prog uP #[] h λr h'=>r=.bool true∧Ext h h':=by
 apply Io;unfold yr;refine cz (c':=#[.int .i64 536870912,.int .i64 536870912,.int .i64 536870912]) rfl λb1 h1 r1 W n1=>?_
 have L:=zY (k:=.i64) (l:=[536870912,536870912,536870912]) (n:=3) rfl r1;have w1:∀x∈[(536870912:Int),536870912,536870912],I64 x:=by simp[I64]
 refine(zu L w1 (by simp)).mono λw h2 ⟨u,e,N⟩=>?_
 subst e;have a1:ck [536870912,536870912,536870912]=0:=by decide+kernel
 have a2:bN [536870912,536870912,536870912]=[5462,5461,5461]:=by decide+kernel
 rw[a1];rw[a2]at N;simp only[go_sem];refine(JH (by unfold I64;omega)).mono λw h3 ⟨x,e,M⟩=>?_
 subst e;have A:Cd 65536=0:=by decide+kernel
 have D:(lX 65536).length=7:=by decide+kernel
 rw[A];obtain⟨ax,cx,ex⟩:=M.isSl;have F:aq x=some (.int .i64 7):=by rw[ex,D];rfl
 simp only[go_sem,eq_self,decide_true];refine cz (c':=#[.int .i64 5462,.int .i64 5461,.int .i64 5461]) rfl λb4 h4 I H n4=>?_
 have U:=zY (k:=.i64) (l:=[5462,5461,5461]) (n:=3) rfl I;refine(Pp (N.sl.ext (M.2.1.trans H)) U (by simp)).mono λw h5 ⟨e,G⟩=>?_
 have G:=G.symm;subst e G;simp only[go_sem,eq_self,decide_true,F];exact⟨by simp,W.trans (N.2.1.trans (M.2.1.trans H))⟩
theorem Ln:dT 0 4 2=⟨4,[(0,[8192,8192]),(2,[8192,8192])]⟩:=by
 have e:(dT 0 4 2).lines=[(0,[8192,8192]),(2,[8192,8192])]:=by decide+kernel
 show(⟨4,(dT 0 4 2).lines⟩:Tbl)=_;rw[e]
theorem EI:(⟨4,[(0,[8192,8192]),(2,[8192,8192])]⟩:Tbl).Wf:=by
 constructor<;>simp
theorem Tc {h:af}(G:dr h):ae prog uO #[] h λr h'=>r=.bool true∧Ext h h':=by
 apply Im;unfold yq;refine(Te G).mono λw h1 ⟨e,e1⟩=>?_
 subst e;simp only[go_sem];refine Td.mono λw h2 ⟨e,W⟩=>?_
 subst e;simp only[go_sem];refine(JG (G.ext (e1.trans W)) (by unfold I64;omega) (by unfold I64;omega) (by unfold I64;omega)).mono λw h3 ⟨p,e,e3,_,s1⟩=>?_
 subst e;have a1:cP 0 4 2=0:=by decide+kernel
 have T:=s1 a1;rw[Ln]at T;rw[a1];obtain⟨pb,_,_,hp,_⟩:=T;have T:=s1 a1;rw[Ln]at T;have np:ag .p .eql p (.pointer none)=some (.bool false):=by rw[hp];rfl
 simp only[go_sem,eq_self,decide_true,np];refine(zt T EI).mono λw h4 ⟨u,e,U,F⟩=>?_
 subst e;have l1:aZ ⟨4,[(0,[8192,8192]),(2,[8192,8192])]⟩ 1=(2,[8192,8192]):=by rfl
 rw[l1]at U ⊢;refine cD (cs:=[.int .i64 2,u]) rfl (ak rfl (ak U.one aQ)) rfl λb5 h5 r5 A n5=>?_
 refine(Nj (T.ext (F.trans A)) EI (by unfold I64;omega) (by unfold I64;omega)).mono λw h6 ⟨e,D⟩=>?_
 subst e;have l2:uo ⟨4,[(0,[8192,8192]),(2,[8192,8192])]⟩ 0 2=(0,4):=by decide+kernel
 rw[l2];simp only[go_sem];refine(zt (T.ext (F.trans (A.trans D))) EI).mono λw h7 ⟨u2,e,U2,H⟩=>?_
 subst e;have l0:aZ ⟨4,[(0,[8192,8192]),(2,[8192,8192])]⟩ 0=(0,[8192,8192]):=by rfl
 rw[l0];have pv:mZ false 1 0 (.agg #[.int .i64 0,u2])=some (.int .i64 0):=rfl;have L:=(D.trans H).row r5;simp only[go_sem,pv,eq_self,decide_true,ai L];refine cz (c':=#[.int .i64 8192,.int .i64 8192]) rfl λb8 h8 r8 e8 n8=>?_
 have S8:=zY (k:=.i64) (l:=[8192,8192]) (n:=2) rfl r8;refine(Pp (U.ext (A.trans (D.trans (H.trans e8)))) S8 (by simp)).mono λw h9 ⟨e,I⟩=>?_
 have I:=I.symm;subst e I;simp only[go_sem,eq_self,decide_true];exact⟨by simp,e1.trans (W.trans (e3.trans (F.trans (A.trans (D.trans (H.trans e8))))))⟩
theorem yH {Z:Nat→Prop}{h:af}{k b s r f w hh:Int}:rOp.R Z h [.int .i64 k,.int .i64 b,.int .i64 s,.int .i64 r,.slice none 0 0,.slice none 0 0,.int .i64 f,.int .i64 w,.int .i64 hh] ⟨k,b,s,r,[],[],f,w,hh⟩:=⟨_,_,rfl,Rp.Sl.nil,Rp.Sl.nil⟩
theorem yG {k b s r f w hh:Int}(h:∀x∈[k,b,s,r,f,w,hh],I64 x):OpD.Wf ⟨k,b,s,r,[],[],f,w,hh⟩:=by
 constructor<;>first|exact h _ (by simp)|simp
theorem JC {h:af}(G:dr h):ae prog oJ #[] h λr h'=>r=.bool true∧Ext h h':=by
 apply Ik;unfold yo;have hf:(aF #[(.int .i64 0),(.int .i64 0),(.int .i64 0),(.int .i64 0),(.slice none 0 0),(.slice none 0 0),(.int .i64 0),(.int .i64 0),(.int .i64 0)] [(0,1,(.int .i64 3)),(7,1,(.int .i64 2)),(8,1,(.int .i64 1)),(6,1,(.int .i64 0))])=some #[.int .i64 3,.int .i64 0,.int .i64 0,.int .i64 0,.slice none 0 0,.slice none 0 0,.int .i64 0,.int .i64 2,.int .i64 1]:=rfl;rw[hf,bi,ah];have wf:OpD.Wf ⟨3,0,0,0,[],[],0,2,1⟩:=yG (by simp[I64]);refine(EW (Z:=λ_=>True) G yH wf (by simp) (by simp) (by unfold I64;omega) (by unfold I64;omega)).mono λw h1 ⟨sv,e,e1,_,s1⟩=>?_
 subst e;have a1:dD ⟨3,0,0,0,[],[],0,2,1⟩ 4 3=0:=by decide+kernel
 obtain⟨p,q,rfl,tp,tq⟩:=s1 a1;rw[a1];simp only[go_sem];refine cD (cs:=[p,q,.int .i64 _]) rfl (ak (kE tp) (ak (kE tq) (ak rfl aQ))) rfl λb2 h2 r2 L n2=>?_
 refine(Tc (G.ext (e1.trans L))).mono λw h3 ⟨e,U⟩=>?_
 subst e;have D:=U.row r2;have H:=tp.ext (L.trans U);have F:=tq.ext (L.trans U);have W:ag .p .neq p (.pointer none)=some (.bool true):=by obtain⟨_,_,_,hp,_⟩:=tp;rw[hp];rfl
 have I:ag .p .neq q (.pointer none)=some (.bool true):=by obtain⟨_,_,_,hp,_⟩:=tq;rw[hp];rfl
 simp only[go_sem,eq_self,decide_true,ai D,W,I];refine(Nm H).mono λw h4 ⟨e,A⟩=>?_
 have A:=A.symm;subst e A;have t1:(bM ⟨3,0,0,0,[],[],0,2,1⟩ 4 3).x.n=4:=rfl;have t2:((bM ⟨3,0,0,0,[],[],0,2,1⟩ 4 3).x.lines.length:Int)=2:=by decide+kernel
 have t3:(bM ⟨3,0,0,0,[],[],0,2,1⟩ 4 3).y.n=3:=rfl;have t4:((bM ⟨3,0,0,0,[],[],0,2,1⟩ 4 3).y.lines.length:Int)=1:=by decide+kernel
 rw[t1];simp only[go_sem,eq_self,decide_true,ai D,W,I];refine(Ax H).mono λw h4 ⟨e,A⟩=>?_
 have A:=A.symm;subst e A;rw[t2];simp only[go_sem,eq_self,decide_true,ai D,W,I];refine(Nm F).mono λw h4 ⟨e,A⟩=>?_
 have A:=A.symm;subst e A;rw[t3];simp only[go_sem,eq_self,decide_true,ai D,W,I];refine(Ax F).mono λw h4 ⟨e,A⟩=>?_
 have A:=A.symm;subst e A;rw[t4];simp only[go_sem,eq_self,decide_true];exact⟨by simp,e1.trans (L.trans U)⟩
theorem Tb {h:af}:ae prog uN #[] h λr h'=>r=.bool true∧Ext h h':=by
 apply Il;unfold yp;refine vF.mono λw h1 ⟨p,e,H,_,G⟩=>?_
 subst e;have a1:y5 2 1 3 255=0:=by decide+kernel
 obtain⟨b,v,rfl,I,nb,nv,_⟩:=G a1;have W:=Ab a1;rw[a1];have L:ag .p .neq (ptr b) (.pointer none)=some (.bool true):=rfl;simp only[go_sem,eq_self,decide_true,L];refine(Tk I W).mono λu h2 N=>?_
 obtain⟨U,cu,F⟩:=N.isSl;have A:aq u=some (.int .i64 6):=by rw[F];rfl
 simp only[go_sem,eq_self,decide_true,A];refine(RT (I.ext N.2.1) W (by omega) (by omega)).mono λr h3 ⟨e,D,f3,s3⟩=>?_
 subst e;have a2:¬(inP (qT 2 1 3 255) 1 0 2∧(256:Int)≤(qT 2 1 3 255).most):=by decide+kernel
 rw[if_neg a2]at D;rw[decide_eq_false a2];simp only[go_sem];refine(RT D W (by omega) (by omega)).mono λr h4 ⟨e,I4,f4,s4⟩=>?_
 subst e;have a3:inP (qT 2 1 3 255) 1 0 2∧(255:Int)≤(qT 2 1 3 255).most:=by decide+kernel
 rw[decide_eq_true a3];simp only[go_sem];exact⟨by simp,((H.trans N.2.1).then_fr f3 nv).then_fr f4 nv⟩
def atZ (p j n:Int):Int:=if n<1∨65536<n then 0 else if p=0 then max 0 (min j (n-1))else if p=1 then min (j%(2*n)) (2*n-1-j%(2*n))else if p=2 then j%n else 0
theorem Yx {p j n:Int}(h1:1≤n)(A:n≤65536):0≤atZ p j n∧atZ p j n<n:=by
 unfold atZ;rw[if_neg (by omega)];have a1:=Int.emod_nonneg j (show 2*n≠0 by omega);have a2:=Int.emod_lt_of_pos j (show 0<2*n by omega);have a3:=Int.emod_nonneg j (show n≠0 by omega);have a4:=Int.emod_lt_of_pos j (show 0<n by omega);split
 ·omega
 ·split
  ·omega
  ·split<;>omega
theorem sF {h:af}{p j n:Int}(F:I64 j):ae prog jI #[.int .i64 p,.int .i64 j,.int .i64 n] h λr h'=>r=.int .i64 (atZ p j n)∧h'=h:=by
 apply MU;unfold De atZ;simp only[go_sem];refine aj (λh0=>?_) (λh0=>?_)
 ·rw[if_pos h0];exact⟨rfl,trivial⟩
 rw[if_neg h0];have a1:=Int.emod_nonneg j (show 2*n≠0 by omega);have a2:=Int.emod_lt_of_pos j (show 0<2*n by omega);refine aj (λh1=>?_) (λh1=>?_)
 ·rw[if_pos h1,w64 (by omega) (by omega)];exact RW
 rw[if_neg h1];refine aj (λD=>?_) (λD=>?_)
 ·rw[if_pos D,w64 (n:=2*n) (by omega) (by omega)];refine(Vd F (by unfold I64;omega) (by omega)).mono λv h' ⟨e,w⟩=>?_
  subst e;simp only[go_sem];rw[w64 (n:=2*n-1) (by omega) (by omega),w64 (by omega) (by omega)];exact⟨rfl,w⟩
 rw[if_neg D];refine aj (λA=>?_) (λA=>?_)
 ·rw[if_pos A];exact Vd F (by unfold I64;omega) (by omega)
 ·rw[if_neg A];exact⟨rfl,trivial⟩
end Go.Proofs.YtjljhnandbbldaaGreatDoor
namespace Go.Crisp
open Go
def vU (f:Nat→Int):Nat→Int
 |0=>0
 |n+1=>vU f n+f n
theorem K2 (A a v:Int):IntKind.i64.wrap (IntKind.i64.wrap A+IntKind.i64.wrap (a*v))=IntKind.i64.wrap (A+a*v):=by rw[ry,nr]
theorem PG (A a b v:Int):IntKind.i64.wrap (IntKind.i64.wrap A+IntKind.i64.wrap (IntKind.i64.wrap (a*b)*v))=IntKind.i64.wrap (A+b*(a*v)):=by
 rw[vP,ry,nr]
 congr 1
 rw[Int.mul_comm a b,Int.mul_assoc]
def vZ (s most:Int):Int:=max 0 (min (lH s 28) (max 0 (min most 65535)))
theorem Ld (s:Int){most:Int}(h:0≤most):0≤vZ s most∧vZ s most≤65535∧vZ s most≤most:=by unfold vZ;omega
end Go.Crisp
namespace Go.Proofs.YtjljhnandbbldaaGreatDoor
open Go Go.Crisp
attribute [local irreducible] ae cE aP stK aA vK qK bC gK dK aU mkK cF Ch DH zZ bsK clK
open _root_.Go.Proofs.Tryz
def qW (m:Pic)(s:Stg)(x row c:Int):Int:=vU (λi=>(aZ s.x x).2.getD i 0*atP m (atZ s.border ((aZ s.x x).1+i) m.w) row c) (aZ s.x x).2.length
def GI (m:Pic)(s:Stg)(x y c:Int):Int:=vU (λk=>(aZ s.y y).2.getD k 0*qW m s x (atZ s.border ((aZ s.y y).1+k) m.h) c) (aZ s.y y).2.length
def ut (m:Pic)(s:Stg)(x y c:Int):Int:=vZ (IntKind.i64.wrap (GI m s x y c)) m.most
structure Stg.Wf (s:Stg):Prop where
 x:s.x.Wf
 y:s.y.Wf
def lG (m:Pic)(s:Stg):Prop:=s.x.n=m.w∧s.y.n=m.h∧0≤s.border∧s.border<3
instance (m:Pic)(s:Stg):Decidable (lG m s):=by unfold lG;infer_instance
theorem RU {h:af}{n most:Int}(D:I64 n):ae prog mH #[.int .i64 n,.int .i64 most] h λr h'=>r=.int .u16 (vZ n most)∧h'=h:=by
 apply Gn;unfold xt;refine(GB D (by unfold I64;omega)).mono λr h1 ⟨e,A⟩=>?_
 have A:=A.symm;subst e A;simp only[go_sem];refine RW.mono λr h1 ⟨e,A⟩=>?_
 have A:=A.symm;subst e A;simp only[go_sem];rw[wu16 (by omega) (by omega)];exact⟨rfl,trivial⟩
theorem gS {Z:Nat→Prop}{h:af}{sv:Value}{s:Stg}(H:nh Z h sv s):∃p q,sv=.agg #[p,q,.int .i64 s.border]∧dY Z h p s.x∧dY Z h q s.y∧(∀v∈[p,q,Value.int .i64 s.border],aJ v=true):=by
 obtain⟨p,q,e,A,hq⟩:=H;exact⟨p,q,e,A,hq,ak (kE A) (ak (kE hq) (ak rfl aQ))⟩
theorem Ef {Z:Nat→Prop}{h:af}{p:Value}{t:Tbl}(H:dY Z h p t):ag .p .neq p (.pointer none)=some (.bool true)∧ag .p .eql p (.pointer none)=some (.bool false):=by
 obtain⟨_,_,_,A,_⟩:=H;rw[A];exact⟨rfl,rfl⟩
theorem GA {h:af}(G:dr h){Z:Nat→Prop}{b:Nat}{v sv:Value}{m:Pic}{s:Stg}(H:cA h b v m)(HS:nh Z h sv s):ae prog iq #[ptr b,sv] h λr h'=>r=.bool (decide (lG m s))∧Ext h h':=by
 apply Gm;unfold xr;obtain⟨p,q,rfl,L,hq,aa⟩:=gS HS;simp only[bG];refine aC λW h1 r1 I n1=>?_
 have np:=(Ef L).1;have nq:=(Ef hq).1;have L:=L.ext I;have hq:=hq.ext I;have H:=H.ext I;have q0:aB h1 ⟨W,0,none⟩=some p:=ai r1;have q1:aB h1 ⟨W,1,none⟩=some q:=ai r1;have q2:aB h1 ⟨W,2,none⟩=some (.int .i64 s.border):=ai r1;simp only[go_sem,Nat.zero_add,q0,q1,q2,np,nq];refine(Nm L).mono λr U ⟨e,A⟩=>?_
 have A:=A.symm;subst e A;refine(qU H).mono λr U ⟨e,A⟩=>?_
 have A:=A.symm;subst e A;simp only[go_sem];by_cases h1':s.x.n=m.w
 ·simp only[go_sem,h1',q1,q2];refine(Nm hq).mono λr U ⟨e,A⟩=>?_
  have A:=A.symm;subst e A;refine(pP H).mono λr U ⟨e,A⟩=>?_
  have A:=A.symm;subst e A;simp only[go_sem];by_cases D:s.y.n=m.h
  ·simp only[go_sem,D,q2];refine(D5 (G.ext I)).mono λr U ⟨e,A⟩=>?_
   have A:=A.symm;subst e A
   try rw[R4,JP]
   simp only[go_sem];refine⟨?_,I⟩
   congr 1
   have hb:=Pw s.border;by_cases F:JT s.border=[]
   ·rw[decide_eq_false (by simpa using F),decide_eq_false];unfold lG;have:=hb.1 F;rintro⟨_,_,a,b⟩;exact this ⟨a,b⟩
   ·rw[decide_eq_true (by simpa using F),decide_eq_true];have:=Decidable.of_not_not λhh=>F (hb.2 hh)
    exact⟨h1',D,this.1,this.2⟩
  ·simp only[go_sem,D];refine⟨?_,I⟩;rw[decide_eq_false];rintro⟨_,a,_⟩;exact D a
 ·simp only[go_sem,h1'];refine⟨?_,I⟩;rw[decide_eq_false];rintro⟨a,_⟩;exact h1' a
abbrev LV:Type:=Option (Nat×Option Bool)
abbrev Rf:Array Value:=#[.int .i64 0,.slice none 0 0]
def DM (h:af)(Lx Ly:Int×List Int)(ux uy:Option Value)(b:Nat):Option Bool→Prop
 |none=>h[b]? =some (.cells Rf 189 (0,0))
 |some true=>∃u,ux=some u∧Two h b 189 (.int .i64 Lx.1) u
 |some false=>∃u,uy=some u∧Two h b 189 (.int .i64 Ly.1) u
theorem DM.row {h:af}{D G:Int×List Int}{A F:Option Value}{b:Nat}:∀{s:Option Bool},DM h D G A F b s→b<h.size
 |none,H=>aW H
 |some true,⟨u,_,r⟩=>aW r
 |some false,⟨u,_,r⟩=>aW r
theorem DM.up {h h':af}{G L:Int×List Int}{F I D A:Option Value}{b:Nat}(e:h'[b]? =h[b]?)(U:∀u,F=some u→D=some u)(W:∀u,I=some u→A=some u):∀{s:Option Bool},DM h G L F I b s→DM h' G L D A b s
 |none,H=>by show h'[b]? =_;rw[e];exact H
 |some true,⟨u,hu,r⟩=>⟨u,U u hu,by show h'[b]? =_;rw[e];exact r⟩
 |some false,⟨u,hu,r⟩=>⟨u,W u hu,by show h'[b]? =_;rw[e];exact r⟩
def apart (v1 v2:LV)(c:Nat):Prop:=(∀p,v1=some p→p.1≠c)∧(∀p,v2=some p→p.1≠c)
structure eB (h0:af)(Lx Ly:Int×List Int)(ux uy:Option Value)(v1 v2:LV)(h:af):Prop where
 ext:Ext h0 h
 lx:∀u,ux=some u→SlI (apart v1 v2) h u Lx.2
 ly:∀u,uy=some u→SlI (apart v1 v2) h u Ly.2
 at1:∀p,v1=some p→h0.size≤p.1∧DM h Lx Ly ux uy p.1 p.2
 at2:∀p,v2=some p→h0.size≤p.1∧DM h Lx Ly ux uy p.1 p.2
 dis:∀p q,v1=some p→v2=some q→p.1≠q.1
theorem eB.start (h:af)(D A:Int×List Int):eB h D A none none none none h:=⟨Ext.refl _,by simp,by simp,by simp,by simp,by simp⟩
theorem eB.line_x {h0 h:af}{F:Option Value}{U L:LV}{D:Int×List Int}{Z:Nat→Prop}{p:Value}{t:Tbl}{x:Int}{K:Value→af→Prop}(M:eB h0 (aZ t x) D none F U L h)(T:dY Z h0 p t)(W:t.Wf)
  (H:∀u h',eB h0 (aZ t x) D (some u) F U L h'→K (.agg #[.int .i64 (aZ t x).1,u]) h'):ae prog bh #[p,.int .i64 x] h K:=by
 refine(zt (T.ext M.ext) W (i:=x)).mono λr h' ⟨u,e,S,E⟩=>?_
 subst e;have I:∀(v:LV),(∀p,v=some p→h0.size≤p.1∧DM h (aZ t x) D none F p.1 p.2)→∀p,v=some p→h0.size≤p.1∧DM h' (aZ t x) D (some u) F p.1 p.2:=λv a p A=>
  ⟨(a p A).1,(a p A).2.up (E.2 _ (a p A).2.row) (by simp) λ_=>id⟩
 refine H u h' ⟨M.ext.trans E,λw G=>?_,λw G=>(M.ly w G).ext E,I _ M.at1,I _ M.at2,M.dis⟩;cases G;refine S.mono λc _ hz=>⟨λp A he=>?_,λp A he=>?_⟩
 ·have:=(M.at1 p A).2.row;omega
 ·have:=(M.at2 p A).2.row;omega
theorem eB.line_y {h0 h:af}{F:Option Value}{U L:LV}{D:Int×List Int}{Z:Nat→Prop}{p:Value}{t:Tbl}{x:Int}{K:Value→af→Prop}(M:eB h0 D (aZ t x) F none U L h)(T:dY Z h0 p t)(W:t.Wf)
  (H:∀u h',eB h0 D (aZ t x) F (some u) U L h'→K (.agg #[.int .i64 (aZ t x).1,u]) h'):ae prog bh #[p,.int .i64 x] h K:=by
 refine(zt (T.ext M.ext) W (i:=x)).mono λr h' ⟨u,e,S,E⟩=>?_
 subst e;have I:∀(v:LV),(∀p,v=some p→h0.size≤p.1∧DM h D (aZ t x) F none p.1 p.2)→∀p,v=some p→h0.size≤p.1∧DM h' D (aZ t x) F (some u) p.1 p.2:=λv a p A=>
  ⟨(a p A).1,(a p A).2.up (E.2 _ (a p A).2.row) (λ_=>id) (by simp)⟩
 refine H u h' ⟨M.ext.trans E,λw G=>(M.lx w G).ext E,λw G=>?_,I _ M.at1,I _ M.at2,M.dis⟩;cases G;refine S.mono λc _ hz=>⟨λp A he=>?_,λp A he=>?_⟩
 ·have:=(M.at1 p A).2.row;omega
 ·have:=(M.at2 p A).2.row;omega
theorem eB.new_1 {h0 h:af}{D F:Int×List Int}{G I:Option Value}{K:Value→af→Prop}(M:eB h0 D F G I none none h)
  (H:∀b h',eB h0 D F G I (some (b,none)) none h'→K (ptr b) h'):aP Rf 189 h K:=by
 refine aC λb h' r e n=>H b h' ⟨M.ext.trans e,λu hu=>?_,λu hu=>?_,λp A=>?_,by simp,by simp⟩
 ·exact((M.lx u hu).mono (Z':=apart (some (b,none)) none) λc hc _=>⟨λp A=>by cases A;show b≠c;omega,by simp⟩).ext e
 ·exact((M.ly u hu).mono (Z':=apart (some (b,none)) none) λc hc _=>⟨λp A=>by cases A;show b≠c;omega,by simp⟩).ext e
 ·cases A;exact⟨Nat.le_trans M.ext.1 n,r⟩
theorem eB.new_2 {h0 h:af}{F G:Int×List Int}{I L:Option Value}{a:Nat}{K:Value→af→Prop}(M:eB h0 F G I L (some (a,none)) none h)
  (H:∀b h',eB h0 F G I L (some (a,none)) (some (b,none)) h'→K (ptr b) h'):aP Rf 189 h K:=by
 have a1:=M.at1 _ rfl;have U:a<h.size:=a1.2.row;refine aC λb h' r e n=>H b h' ⟨M.ext.trans e,λu hu=>?_,λu hu=>?_,λp A=>?_,λp A=>?_,λp q A hq=>?_⟩
 ·exact((M.lx u hu).mono (Z':=apart (some (a,none)) (some (b,none))) λc hc D=>⟨D.1,λp A=>by cases A;show b≠c;omega⟩).ext e
 ·exact((M.ly u hu).mono (Z':=apart (some (a,none)) (some (b,none))) λc hc D=>⟨D.1,λp A=>by cases A;show b≠c;omega⟩).ext e
 ·cases A;exact⟨a1.1,a1.2.up (e.2 _ U) (λ_=>id) λ_=>id⟩
 ·cases A;exact⟨Nat.le_trans M.ext.1 n,r⟩
 ·cases A;cases hq;show a≠b;omega
theorem eB.st {h0 h:af}{L U:Int×List Int}{W uy:Option Value}{v1 v2 D F:LV}{b:Nat}{f:Bool}{l:List Value}{K:Value→af→Prop}(M:eB h0 L U W uy v1 v2 h)(hr:h[b]? =some (.cells Rf 189 (0,0)))(hn:h0.size≤b)
  (hl:l.length=2) (ho:∀v∈l,aJ v=true) (hf:∀h',h'[b]? =some (.cells l.toArray 189 (0,0))→DM h' L U W uy b (some f))
  (h1:(v1=some (b,none)∧D=some (b,some f)∧F=v2∧∀q,v2=some q→q.1≠b)∨(v2=some (b,none)∧F=some (b,some f)∧D=v1∧∀q,v1=some q→q.1≠b))
  (H:∀h',eB h0 L U W uy D F h'→K undef h'):stK 2 (ptr b) (.agg l.toArray) h K:=by
 refine ch hr (by rw[hl];rfl) ho hl λh' r u=>H h' ?_
 have E:=M.ext.upd hn u;have G:∀{v:LV},(∀p,v=some p→h0.size≤p.1∧DM h L U W uy p.1 p.2)→(∀q,v=some q→q.1≠b)→∀p,v=some p→h0.size≤p.1∧DM h' L U W uy p.1 p.2:=λa d p A=>⟨(a p A).1,(a p A).2.up (u.2 _ (d p A)) (λ_=>id) λ_=>id⟩
 rcases h1 with⟨rfl,rfl,rfl,d⟩|⟨rfl,rfl,rfl,d⟩
 ·have za:∀c,apart (some (b,none)) F c→¬c=b:=λc hc he=>hc.1 _ rfl he.symm
  have zb:∀c,apart (some (b,none)) F c→apart (some (b,some f)) F c:=λc hc=>⟨λp A=>by cases A;exact hc.1 (b,none) rfl,hc.2⟩
  refine⟨E,λw I=>((M.lx w I).fr u.fr λc _=>za c).mono λc _=>zb c,λw I=>((M.ly w I).fr u.fr λc _=>za c).mono λc _=>zb c,λp A=>?_,G M.at2 d,λp q A hq=>?_⟩
  ·cases A;exact⟨hn,hf h' r⟩
  ·cases A;exact λhe=>d q hq he.symm
 ·have za:∀c,apart D (some (b,none)) c→¬c=b:=λc hc he=>hc.2 _ rfl he.symm
  have zb:∀c,apart D (some (b,none)) c→apart D (some (b,some f)) c:=λc hc=>⟨hc.1,λp A=>by cases A;exact hc.2 (b,none) rfl⟩
  refine⟨E,λw I=>((M.lx w I).fr u.fr λc _=>za c).mono λc _=>zb c,λw I=>((M.ly w I).fr u.fr λc _=>za c).mono λc _=>zb c,G M.at1 d,λp A=>?_,λp q A hq=>?_⟩
  ·cases A;exact⟨hn,hf h' r⟩
  ·cases hq;exact d p A
theorem eB.st1x {h0 h:af}{A G:Int×List Int}{u:Value}{F:Option Value}{D:LV}{b:Nat}{K:Value→af→Prop}(M:eB h0 A G (some u) F (some (b,none)) D h)
  (H:∀h',eB h0 A G (some u) F (some (b,some true)) D h'→K undef h'):stK 2 (ptr b) (.agg #[.int .i64 A.1,u]) h K:=
 M.st (f:=true) (l:=[.int .i64 A.1,u]) (M.at1 _ rfl).2 (M.at1 _ rfl).1 rfl (ak rfl (ak (M.lx u rfl).one aQ)) (λh' r=>⟨u,rfl,r⟩) (.inl ⟨rfl,rfl,rfl,λq hq I=>M.dis _ _ rfl hq I.symm⟩) H
theorem eB.st2x {h0 h:af}{A G:Int×List Int}{u:Value}{F:Option Value}{D:LV}{b:Nat}{K:Value→af→Prop}(M:eB h0 A G (some u) F D (some (b,none)) h)
  (H:∀h',eB h0 A G (some u) F D (some (b,some true)) h'→K undef h'):stK 2 (ptr b) (.agg #[.int .i64 A.1,u]) h K:=
 M.st (f:=true) (l:=[.int .i64 A.1,u]) (M.at2 _ rfl).2 (M.at2 _ rfl).1 rfl (ak rfl (ak (M.lx u rfl).one aQ)) (λh' r=>⟨u,rfl,r⟩) (.inr ⟨rfl,rfl,rfl,λq hq=>M.dis _ _ hq rfl⟩) H
theorem eB.st1y {h0 h:af}{G A:Int×List Int}{u:Value}{F:Option Value}{D:LV}{b:Nat}{K:Value→af→Prop}(M:eB h0 G A F (some u) (some (b,none)) D h)
  (H:∀h',eB h0 G A F (some u) (some (b,some false)) D h'→K undef h'):stK 2 (ptr b) (.agg #[.int .i64 A.1,u]) h K:=
 M.st (f:=false) (l:=[.int .i64 A.1,u]) (M.at1 _ rfl).2 (M.at1 _ rfl).1 rfl (ak rfl (ak (M.ly u rfl).one aQ)) (λh' r=>⟨u,rfl,r⟩) (.inl ⟨rfl,rfl,rfl,λq hq I=>M.dis _ _ rfl hq I.symm⟩) H
theorem eB.st2y {h0 h:af}{G A:Int×List Int}{u:Value}{F:Option Value}{D:LV}{b:Nat}{K:Value→af→Prop}(M:eB h0 G A F (some u) D (some (b,none)) h)
  (H:∀h',eB h0 G A F (some u) D (some (b,some false)) h'→K undef h'):stK 2 (ptr b) (.agg #[.int .i64 A.1,u]) h K:=
 M.st (f:=false) (l:=[.int .i64 A.1,u]) (M.at2 _ rfl).2 (M.at2 _ rfl).1 rfl (ak rfl (ak (M.ly u rfl).one aQ)) (λh' r=>⟨u,rfl,r⟩) (.inr ⟨rfl,rfl,rfl,λq hq=>M.dis _ _ hq rfl⟩) H
def YA (h0:af)(Lx Ly:Int×List Int)(xs:List Value)(h:af):Prop:=∃a b u w,xs=[ptr a,ptr b]∧Ext h0 h∧Two h a 189 (.int .i64 Lx.1) u∧Two h b 189 (.int .i64 Ly.1) w∧SlI (λ_=>True) h u Lx.2∧SlI (λ_=>True) h w Ly.2
theorem eB.fin {h0 h:af}{A D:Int×List Int}{u w:Value}{a b:Nat}(M:eB h0 A D (some u) (some w) (some (a,some true)) (some (b,some false)) h):YA h0 A D [ptr a,ptr b] h:=by
 obtain⟨_,H,F,r1⟩:=M.at1 _ rfl;obtain⟨_,w',G,r2⟩:=M.at2 _ rfl;cases F;cases G;exact⟨a,b,u,w,rfl,M.ext,r1,r2,(M.lx u rfl).mono λ_ _ _=>trivial,(M.ly w rfl).mono λ_ _ _=>trivial⟩
theorem eB.fin2 {h0 h:af}{A D:Int×List Int}{u w:Value}{a b:Nat}(M:eB h0 A D (some u) (some w) (some (b,some false)) (some (a,some true)) h):YA h0 A D [ptr a,ptr b] h:=by
 obtain⟨_,w',G,r2⟩:=M.at1 _ rfl;obtain⟨_,H,F,r1⟩:=M.at2 _ rfl;cases F;cases G;exact⟨a,b,u,w,rfl,M.ext,r1,r2,(M.lx u rfl).mono λ_ _ _=>trivial,(M.ly w rfl).mono λ_ _ _=>trivial⟩
theorem oh {t:Tbl}(W:t.Wf)(i:Int):(aZ t i).2.length≤1048576∧ -70368744177664≤(aZ t i).1∧(aZ t i).1≤70368744177664:=by
 unfold aZ;split
 ·by_cases h:i.toNat<t.lines.length
  ·have e:t.lines.getD i.toNat (0,[])=t.lines[i.toNat]:=by simp[List.getD_eq_getElem?_getD,h]
   rw[e];exact W.taps _ (List.getElem_mem h)
  ·have e:t.lines.getD i.toNat (0,[])=(0,[]):=by simp[List.getD_eq_getElem?_getD,Nat.le_of_not_lt h]
   rw[e];simp
 ·simp
theorem Vm {m:Pic}(W:m.Wf)(x y c:Int):0≤atP m x y c∧atP m x y c≤m.most:=by
 have:=W.m1;unfold atP;split
 ·rename_i h;by_cases hi:(mI m x y c).toNat<m.l.length
  ·have e:m.l.getD (mI m x y c).toNat 0=m.l[(mI m x y c).toNat]:=by simp[List.getD_eq_getElem?_getD,hi]
   rw[e];exact W.smp _ (List.getElem_mem hi)
  ·have e:m.l.getD (mI m x y c).toNat 0=0:=by simp[List.getD_eq_getElem?_getD,Nat.le_of_not_lt hi]
   rw[e];omega
 ·omega
theorem c_Sum {h:af}(G:dr h){Z:Nat→Prop}{b:Nat}{v sv:Value}{m:Pic}{s:Stg}(H:cA h b v m)(W:m.Wf)(HS:nh Z h sv s)(WS:s.Wf)(hs:lG m s){x y c:Int}(hc:0≤c∧c<m.c):
  ae prog w6 #[ptr b,sv,.int .i64 x,.int .i64 y,.int .i64 c] h λr h'=>r=.int .i64 (IntKind.i64.wrap (GI m s x y c))∧Ext h h':=by
 apply KO;unfold Bc;obtain⟨p,q,rfl,hp,hq,a7⟩:=gS HS;simp only[bG];refine aC λb1 h1 r1 e1 n1=>?_
 rw[aM (l:=[p,q,.int .i64 s.border]) r1 3 rfl,ah];refine(GA (G.ext e1) (H.ext e1) (HS.ext e1)).mono λr h2 ⟨e,e2⟩=>?_
 subst e;rw[decide_eq_true hs];have ar:(c<0)=False:=eq_false (by omega);simp only[go_sem,ar];have H2:=H.ext (e1.trans e2);refine(dA H2).mono λr h3 ⟨e,F⟩=>?_
 have F:=F.symm;subst e F;simp only[go_sem];rw[decide_eq_false (by omega),cf];have r2:=e2.row r1;have p2:=hp.ext (e1.trans e2);have q2:=hq.ext (e1.trans e2);refine aV (YA h2 (aZ s.x x) (aZ s.y y)) ?_ ?_
 ·try simp only[go_sem,Nat.zero_add]
  refine aI (Ext h2) (Ext.refl _) ?_;refine ao p (λh' e=>ai (e.row r2)) ?_;refine ao q (λh' e=>ai (e.row r2)) ?_;have M0:=eB.start h2 (aZ s.x x) (aZ s.y y);have wx:=WS.x;have wy:=WS.y
  repeat' first
   |exact eB.fin ‹eB _ _ _ _ _ _ _ _›
   |exact eB.fin2 ‹eB _ _ _ _ _ _ _ _›
   |exact eB.ext ‹eB _ _ _ _ _ _ _ _›
   |refine And.intro ?_ ?_
   |refine eB.line_x ‹eB _ _ _ _ _ _ _ _› p2 wx λu' h' M=>?_
   |refine eB.line_y ‹eB _ _ _ _ _ _ _ _› q2 wy λu' h' M=>?_
   |refine eB.new_1 ‹eB _ _ _ _ _ _ _ _› λb' h' M=>?_
   |refine eB.new_2 ‹eB _ _ _ _ _ _ _ _› λb' h' M=>?_
   |refine eB.st1x ‹eB _ _ _ _ _ _ _ _› λh' M=>?_
   |refine eB.st2x ‹eB _ _ _ _ _ _ _ _› λh' M=>?_
   |refine eB.st1y ‹eB _ _ _ _ _ _ _ _› λh' M=>?_
   |refine eB.st2y ‹eB _ _ _ _ _ _ _ _› λh' M=>?_
 rintro xs ρj h3 ⟨a,d,u,w,rfl,e3,ra,rd,Su,Sw⟩;have bx:=oh WS.x x;have a8:=oh WS.y y;unfold GI;unfold qW;generalize aZ s.x x=D at*;generalize aZ s.y y=I at*;have hf:=cL W.fits;have c1:aB h3 ⟨d,1,none⟩=some w:=ai rd;obtain⟨aw,cw,ew⟩:=Sw.isSl;have an:aq w=some (.int .i64 (I.2.length:Int)):=by rw[ew];rfl
 obtain⟨au,cu,eu⟩:=Su.isSl;have ay:aq u=some (.int .i64 (D.2.length:Int)):=by rw[eu];rfl
 simp only[go_sem,Nat.zero_add,c1,an];refine jN (λk=>[.int .i64 (IntKind.i64.wrap (vU (λk=>I.2.getD k 0*vU (λi=>D.2.getD i 0*atP m (atZ s.border (D.1+i) m.w) (atZ s.border (I.1+k) m.h) c) D.2.length) k)),.int .i64 (k:Int)]) I.2.length 0 rfl (Nat.zero_le _) λk again ρk _ hk U=>?_
 simp only[go_sem];refine aj (λh4=>?_) (λh4=>?_)
 ·have ab:k<I.2.length:=by omega
  have U:=U ab;obtain⟨pk,k1,k2⟩:=Sw.int_at (k':=.i64) ab;have eb:I.2.getD k 0=I.2[k]:=by simp[List.getD_eq_getElem?_getD,ab]
  rw[k1,ah,k2,ah,←eb];have rs:=e3.row r2;refine aI (λh'=>h'=h3) rfl ?_;simp only[go_sem,Nat.zero_add];refine ao (.int .i64 s.border) (λh' e=>by rw[e];exact ai rs) ?_;refine ao (.int .i64 I.1) (λh' e=>by rw[e];exact ai rd) ?_;simp only[go_sem];rw[w64 (n:=I.1+(k:Int)) (by omega) (by omega)];have H3:=H2.ext e3;refine(pP H3).mono λr h5 ⟨e,F⟩=>?_
  have F:=F.symm;subst e F;refine⟨rfl,?_⟩;refine(sF (by unfold I64;omega)).mono λr h5 ⟨e,F⟩=>?_
  have F:=F.symm;subst e F;have c2:aB h3 ⟨a,1,none⟩=some u:=ai ra;simp only[go_sem,Nat.zero_add,c2,ay];generalize ad:atZ s.border (I.1+(k:Int)) m.h=row at*;generalize hA:vU (λk=>I.2.getD k 0*vU (λi=>D.2.getD i 0*atP m (atZ s.border (D.1+i) m.w) (atZ s.border (I.1+k) m.h) c) D.2.length) k=A at*;have ax:vU (λk=>I.2.getD k 0*vU (λi=>D.2.getD i 0*atP m (atZ s.border (D.1+i) m.w) (atZ s.border (I.1+k) m.h) c) D.2.length) (k+1)=A+I.2.getD k 0*vU (λi=>D.2.getD i 0*atP m (atZ s.border (D.1+i) m.w) row c) D.2.length:=by
   simp only[vU];rw[hA,ad]
  rw[ax]at U;generalize I.2.getD k 0=bk at*;refine jN (λi=>[.int .i64 (IntKind.i64.wrap (A+bk*vU (λi=>D.2.getD i 0*atP m (atZ s.border (D.1+i) m.w) row c) i)),.int .i64 (i:Int)]) D.2.length 0 (by simp[vU]) (Nat.zero_le _) λi al ρi _ hi L=>?_
  simp only[go_sem];refine aj (λh5=>?_) (λh5=>?_)
  ·have aa:i<D.2.length:=by omega
   have L:=L aa;obtain⟨pi,i1,i2⟩:=Su.int_at (k':=.i64) aa;have ea:D.2.getD i 0=D.2[i]:=by simp[List.getD_eq_getElem?_getD,aa]
   rw[i1,ah,i2,ah,←ea];refine aI (λh'=>h'=h3) rfl ?_;simp only[go_sem,Nat.zero_add];refine ao (.int .i64 s.border) (λh' e=>by rw[e];exact ai rs) ?_;refine ao (.int .i64 D.1) (λh' e=>by rw[e];exact ai ra) ?_;simp only[go_sem];rw[w64 (n:=D.1+(i:Int)) (by omega) (by omega)];refine(qU H3).mono λr h5 ⟨e,F⟩=>?_
   have F:=F.symm;subst e F;refine⟨rfl,?_⟩;refine(sF (by unfold I64;omega)).mono λr h5 ⟨e,F⟩=>?_
   have F:=F.symm;subst e F
   try simp only[go_sem]
   refine(Xd H3 W).mono λr h5 ⟨e,F⟩=>?_
   have F:=F.symm;subst e F;have hv:=Vm W (atZ s.border (D.1+(i:Int)) m.w) row c;have hm:=W.m2;simp only[go_sem];rw[w64 (n:=atP m (atZ s.border (D.1+(i:Int)) m.w) row c) (by omega) (by omega),PG,w64 (n:=(i:Int)+1) (by omega) (by omega)];simp only[vU,Int.mul_add]at L;rw[←Int.add_assoc]at L;exact L
  ·have:i=D.2.length:=by omega
   subst this;rw[w64 (n:=(k:Int)+1) (by omega) (by omega)];exact U
 ·have:k=I.2.length:=by omega
  subst this;exact⟨rfl,e1.trans (e2.trans e3)⟩
theorem Bu {A B C c d:Int}(h:A*C+c=B*C+d)(G:0≤c)(I:c<C)(d0:0≤d)(d1:d<C):A=B∧c=d:=by
 have D:(c+A*C)/C=A:=by rw[Int.add_mul_ediv_right _ _ (by omega),Int.ediv_eq_zero_of_lt G I];omega
 have F:(d+B*C)/C=B:=by rw[Int.add_mul_ediv_right _ _ (by omega),Int.ediv_eq_zero_of_lt d0 d1];omega
 have H:c+A*C=d+B*C:=by omega
 rw[H,F]at D;refine⟨D.symm,?_⟩;subst D;omega
theorem VR {m:Pic}{x y c H I c':Int}(h:inP m x y c)(h':inP m H I c')(e:mI m x y c=mI m H I c'):x=H∧y=I∧c=c':=by
 obtain⟨x0,U,y0,y1,c0,c1⟩:=h;obtain⟨A,D,ab,aa,G,F⟩:=h';unfold mI at e;obtain⟨e1,L⟩:=Bu e c0 c1 G F;obtain⟨e3,W⟩:=Bu e1 x0 U A D;exact⟨W,e3,L⟩
theorem Px {m:Pic}(W:m.Wf){x y c n A D c':Int}(h:inP m x y c):atP (NJ m x y c n) A D c'=if A=x∧D=y∧c'=c then n else atP m A D c':=by
 have L:=Hn W h;by_cases hi:inP m A D c'
 ·have I:=Hn W hi;have F:inP (NJ m x y c n) A D c':=hi;unfold atP;rw[if_pos F,if_pos hi];show(m.l.set (mI m x y c).toNat n).getD (mI m A D c').toNat 0=_;by_cases G:A=x∧D=y∧c'=c
  ·rw[if_pos G];obtain⟨rfl,rfl,rfl⟩:=G;have:(mI m A D c').toNat<m.l.length:=by omega
   simp[List.getD_eq_getElem?_getD,this]
  ·rw[if_neg G];have H:(mI m x y c).toNat≠(mI m A D c').toNat:=λhh=>G (by
    obtain⟨a,b,d⟩:=VR hi h (by omega);exact⟨a,b,d⟩)
   simp[List.getD_eq_getElem?_getD,List.getElem?_set_ne H]
 ·have F:¬inP (NJ m x y c n) A D c':=hi;have G:¬(A=x∧D=y∧c'=c):=by rintro⟨rfl,rfl,rfl⟩;exact hi h
  unfold atP;rw[if_neg F,if_neg hi,if_neg G]
def ahead (x y c x' y' c':Int):Prop:=y'<y∨(y'=y∧(x'<x∨(x'=x∧c'<c)))
structure PD (h0 h:af)(b:Nat)(v:Value)(n:Pic)(w hh c most:Int):Prop where
 img:cA h b v n
 wf:n.Wf
 pw:n.w=w
 ph:n.h=hh
 pc:n.c=c
 pm:n.most=most
 ext:Ext h0 h
 nb:h0.size≤b
 nv:∀c,blk v c→h0.size≤c
theorem PD.before {h1 h0 h:af}{b:Nat}{v:Value}{n:Pic}{w hh c most:Int}(M:PD h0 h b v n w hh c most)(e:Ext h1 h0):PD h1 h b v n w hh c most:=
 ⟨M.img,M.wf,M.pw,M.ph,M.pc,M.pm,e.trans M.ext,Nat.le_trans e.1 M.nb,λc hc=>Nat.le_trans e.1 (M.nv c hc)⟩
theorem Xe {h:af}(G:dr h){Z:Nat→Prop}{b:Nat}{v sv:Value}{m:Pic}{s:Stg}(H:cA h b v m)(W:m.Wf)(HS:nh Z h sv s)(WS:s.Wf)(hs:lG m s)(aa:ic s.x.lines.length s.y.lines.length m.c):
  ae prog sU #[ptr b,sv] h λr h'=>∃b' v' n,r=.tuple #[ptr b',.int .i64 0]∧PD h h' b' v' n s.x.lines.length s.y.lines.length m.c m.most∧∀x y c,inP n x y c→atP n x y c=ut m s x y c:=by
 apply Gp;unfold xu;obtain⟨p,q,rfl,hp,hq,bd⟩:=gS HS;simp only[bG];refine aC λb1 h1 r1 e1 n1=>?_
 rw[aM (l:=[p,q,.int .i64 s.border]) r1 3 rfl,ah];refine(GA (G.ext e1) (H.ext e1) (HS.ext e1)).mono λr h2 ⟨e,e2⟩=>?_
 subst e;rw[decide_eq_true hs];simp only[go_sem,Nat.zero_add];have U:=e1.trans e2;have r2:=e2.row r1;refine aI (Ext h2) (Ext.refl _) ?_;refine ao p (λh' e=>ai (e.row r2)) ?_;refine ao q (λh' e=>ai (e.row r2)) ?_;refine(Ax (hp.ext U)).mono λr h3 ⟨e,A⟩=>?_
 have A:=A.symm;subst e A;refine⟨Ext.refl _,?_⟩;refine(Ax (hq.ext U)).mono λr h3 ⟨e,A⟩=>?_
 have A:=A.symm;subst e A;refine(dA (H.ext U)).mono λr h3 ⟨e,A⟩=>?_
 have A:=A.symm;subst e A;refine(rn (H.ext U)).mono λr h3 ⟨e,A⟩=>?_
 have A:=A.symm;subst e A;have ad:y5 s.x.lines.length s.y.lines.length m.c m.most=0:=vE.2 ⟨aa,W.m1,W.m2⟩;refine vF.mono λr h3 ⟨pp,e,e3,_,s3⟩=>?_
 subst e;obtain⟨nb,nv,rfl,I,bc,a8,_⟩:=s3 ad;have hz:((0:Int)=0)=True:=eq_true rfl;rw[ad];simp only[go_sem,hz];refine(pP I).mono λr h4 ⟨e,A⟩=>?_
 have A:=A.symm;subst e A;have bk:=W.m1;have bg:=W.m2;have M0:PD h2 h3 nb nv (qT s.x.lines.length s.y.lines.length m.c m.most) s.x.lines.length s.y.lines.length m.c m.most:=⟨I,Ab ad,rfl,rfl,rfl,rfl,e3,bc,a8⟩
 obtain⟨X,hX⟩:∃X,X=s.x.lines.length:=⟨_,rfl⟩
 obtain⟨Y,hY⟩:∃Y,Y=s.y.lines.length:=⟨_,rfl⟩
 rw[←hX,←hY]at M0 aa ⊢;have hf:=cL aa;obtain⟨C,hC⟩:∃C:Nat,m.c=(C:Int):=⟨m.c.toNat,by omega⟩
 rw[show(qT (X:Int) (Y:Int) m.c m.most).h=(Y:Int)from rfl]
 -- what holds at a place of the walk
 refine bA (α:=Pic) Y 0 (λy _=>[.int .i64 (y:Int)]) (λy n h'=>PD h2 h' nb nv n X Y m.c m.most∧∀F L c',inP n F L c'→ahead 0 y 0 F L c'→atP n F L c'=ut m s F L c') _ rfl (Nat.zero_le _)
  ⟨M0,λF L c' hi ha=>by unfold ahead inP at*;omega⟩ λy n h4 again ρ1 _ hy ⟨M,D⟩ a7=>?_
 simp only[go_sem];refine aj (λh5=>?_) (λh5=>?_)
 ·refine(qU M.img).mono λr h5 ⟨e,A⟩=>?_
  have A:=A.symm;subst e A;rw[M.pw];refine bA (α:=Pic) X 0 (λx _=>[.int .i64 (x:Int)]) (λx n h'=>PD h2 h' nb nv n X Y m.c m.most∧∀F L c',inP n F L c'→ahead x y 0 F L c'→atP n F L c'=ut m s F L c') n rfl (Nat.zero_le _)
   ⟨M,D⟩ λx n h5 ay ρ2 _ hx ⟨M,D⟩ au=>?_
  simp only[go_sem];refine aj (λh6=>?_) (λh6=>?_)
  ·refine(dA M.img).mono λr h6 ⟨e,A⟩=>?_
   have A:=A.symm;subst e A;rw[M.pc,hC];refine bA (α:=Pic) C 0 (λc _=>[.int .i64 (c:Int)]) (λc n h'=>PD h2 h' nb nv n X Y m.c m.most∧∀F L c',inP n F L c'→ahead x y c F L c'→atP n F L c'=ut m s F L c') n rfl (Nat.zero_le _)
    ⟨M,D⟩ λc n h6 ax ρ3 _ hc ⟨M,D⟩ aw=>?_
   simp only[go_sem];refine aj (λh7=>?_) (λh7=>?_)
   ·rw[aM (l:=[p,q,.int .i64 s.border]) (M.ext.row r2) 3 rfl,ah];have E0:=U.trans M.ext;refine(c_Sum (G.ext E0) (H.ext E0) W (HS.ext E0) WS hs (x:=x) (y:=y) (c:=c) (by omega)).mono λr h8 ⟨e,e8⟩=>?_
    subst e;have E8:=E0.trans e8;refine(rn (H.ext E8)).mono λr h9 ⟨e,A⟩=>?_
    have A:=A.symm;subst e A;refine(RU (iN _)).mono λr h9 ⟨e,A⟩=>?_
    have A:=A.symm;subst e A;have hr:=Ld (IntKind.i64.wrap (GI m s x y c)) (most:=m.most) (by omega);have Mi:=M.img.ext e8;refine(RT Mi M.wf hr.1 hr.2.1).mono λr al ⟨e,ar,f10,be⟩=>?_
    subst e;have an:inP n x y c:=⟨by omega,by rw[M.pw];omega,by omega,by rw[M.ph];omega,by omega,by rw[M.pc];omega⟩
    have ab:inP n x y c∧vZ (IntKind.i64.wrap (GI m s x y c)) m.most≤n.most:=⟨an,by rw[M.pm];omega⟩
    rw[if_pos ab]at ar;have a9:Ext h2 al:=(M.ext.trans e8).then_fr f10 M.nv
    try simp only[go_sem]
    rw[w64 (by omega) (by omega)];refine aw (NJ n x y c (vZ (IntKind.i64.wrap (GI m s x y c)) m.most)) al (by omega) ⟨⟨ar,Rn M.wf hr.1 ab.2,M.pw,M.ph,M.pc,M.pm,a9,M.nb,M.nv⟩,λF L c' hi ha=>?_⟩;rw[Px M.wf an];by_cases he:F=x∧L=y∧c'=c
    ·rw[if_pos he,he.1,he.2.1,he.2.2];rfl
    ·rw[if_neg he];exact D F L c' hi (by unfold ahead at*;omega)
   ·have:c=C:=by omega
    subst this;rw[w64 (by omega) (by omega)];refine au n h6 (by omega) ⟨M,λF L c' hi ha=>D F L c' hi ?_⟩;have h1:=M.pc;unfold ahead inP at*;omega
  ·have:x=X:=by omega
   subst this;rw[w64 (by omega) (by omega)];refine a7 n h5 (by omega) ⟨M,λF L c' hi ha=>D F L c' hi ?_⟩;have h1:=M.pw;unfold ahead inP at*;omega
 ·have:y=Y:=by omega
  subst this;refine⟨nb,nv,n,rfl,M.before U,λF L c' hi=>D F L c' hi ?_⟩;have h1:=M.ph;unfold ahead inP at*;omega
theorem Hj (f n:Int){m:Int}(A:aT m):(dT f n m).Wf:=by
 unfold aT at A;refine⟨?_,λx D=>?_⟩
 ·show(List.map _ (List.range m.toNat)).length≤65536;rw[List.length_map,List.length_range];omega
 ·obtain⟨i,_,rfl⟩:=List.mem_map.1 D;have F:=nN (sb f n m i);refine⟨F.1,?_⟩;show _≤dC f n m i∧dC f n m i≤_;unfold dC;split
  ·rename_i h;have:=IJ h;omega
  ·omega
theorem Jh {l:List Int}(A:∀x∈l,I64 x)(H:l.length≤1024){n:Int}(D:aT n):(iI l n).Wf:=by
 unfold aT at D;refine⟨?_,λx F=>?_⟩
 ·show(List.map _ (List.range n.toNat)).length≤65536;rw[List.length_map,List.length_range];omega
 ·obtain⟨i,hi,rfl⟩:=List.mem_map.1 F;have G:=nN A;have:=List.mem_range.1 hi;refine⟨G.1,?_⟩;show _≤(i:Int)-(l.length/2:Nat)∧(i:Int)-(l.length/2:Nat)≤_;omega
theorem xM (o:OpD):(dk o).length≤1024∧(b9 o).length≤1024:=by
 have:=Cc o.sigma;have:=EZ o.radius;have:=uU o.x;have:=uU o.y;unfold dk b9;constructor<;>split<;>(try split)<;>omega
theorem vA {o:OpD}{w h:Int}(hc:dD o w h=0):(bM o w h).Wf∧jh o∧aT w∧aT h:=by
 unfold dD at hc;split at hc
 ·cases hc
 ·rename_i A;have h1:jh o:=Decidable.of_not_not λhh=>A (.inl hh)
  have G:aT w:=Decidable.of_not_not λhh=>A (.inr (.inl hh))
  have F:aT h:=Decidable.of_not_not λhh=>A (.inr (.inr hh))
  refine⟨⟨?_,?_⟩,h1,G,F⟩
  ·show(iZ o w).Wf;unfold iZ;split
   ·rename_i D;exact Hj _ _ (h1.2.2 D).1
   ·exact Jh (vS o) (xM o).1 G
  ·show(dI o h).Wf;unfold dI;split
   ·rename_i D;exact Hj _ _ (h1.2.2 D).2.1
   ·exact Jh (vR o) (xM o).2 F
theorem EH {o:OpD}{w h:Int}(hc:dD o w h=0):((bM o w h).x.lines.length:Int)=mN o w∧((bM o w h).y.lines.length:Int)=qn o h:=by
 obtain⟨_,D,F,hh⟩:=vA hc;unfold aT at F hh;constructor
 ·show((iZ o w).lines.length:Int)=_;unfold iZ mN;split
  ·rename_i A;have:=(D.2.2 A).1;unfold aT at this;show((List.map _ (List.range o.w.toNat)).length:Int)=_;rw[List.length_map,List.length_range];omega
  ·show((List.map _ (List.range w.toNat)).length:Int)=_;rw[List.length_map,List.length_range];omega
 ·show((dI o h).lines.length:Int)=_;unfold dI qn;split
  ·rename_i A;have:=(D.2.2 A).2.1;unfold aT at this;show((List.map _ (List.range o.hh.toNat)).length:Int)=_;rw[List.length_map,List.length_range];omega
  ·show((List.map _ (List.range h.toNat)).length:Int)=_;rw[List.length_map,List.length_range];omega
theorem V2 (o:OpD)(w h:Int):(bM o w h).x.n=w∧(bM o w h).y.n=h:=by
 constructor
 ·show(iZ o w).n=w;unfold iZ;split<;>rfl
 ·show(dI o h).n=h;unfold dI;split<;>rfl
theorem FD {o:OpD}{m:Pic}(hc:dD o m.w m.h=0):lG m (bM o m.w m.h):=by
 obtain⟨_,A,_,_⟩:=vA hc;obtain⟨h1,D⟩:=V2 o m.w m.h;exact⟨h1,D,A.2.1.1,A.2.1.2⟩
def Lh:Pic:=⟨1,1,1,255,[7]⟩
def Qc:OpD:=⟨1,0,0,2,[],[],0,0,0⟩
theorem QU {h:af}(G:dr h):ae prog uL #[] h λr h'=>r=.bool true∧Ext h h':=by
 apply Ii;unfold ym;refine cz (c':=#[.int .u16 7]) rfl λb1 h1 r1 e1 n1=>?_
 have S1:=zY (k:=.u16) (l:=[7]) (n:=1) rfl r1;have a0:y5 1 1 1 255=0:=by decide+kernel
 refine(Nf S1 a0 (by decide) (by simp)).mono λr h2 ⟨p,e,N⟩=>?_
 subst e;obtain⟨b,v,rfl,I,nb,nv,e2⟩:=N;have I:cA h2 b v Lh:=I;have W:Lh.Wf:=⟨by decide+kernel,by decide,by decide,by decide,by simp[Lh]⟩
 have hf:(aF #[(.int .i64 0),(.int .i64 0),(.int .i64 0),(.int .i64 0),(.slice none 0 0),(.slice none 0 0),(.int .i64 0),(.int .i64 0),(.int .i64 0)] [(0,1,(.int .i64 1)),(3,1,(.int .i64 2))])=some #[.int .i64 1,.int .i64 0,.int .i64 0,.int .i64 2,.slice none 0 0,.slice none 0 0,.int .i64 0,.int .i64 0,.int .i64 0]:=rfl;simp only[go_sem];rw[hf,bi,ah];have wf:Qc.Wf:=yG (by simp[I64]);have G2:=G.ext (e1.trans e2);refine(EW (Z:=λ_=>True) (o:=Qc) G2 yH wf (by simp[Qc]) (by simp[Qc]) (by unfold I64;omega) (by unfold I64;omega)).mono λw h3 ⟨sv,e,e3,_,s1⟩=>?_
 subst e;have a1:dD Qc 1 1=0:=by decide+kernel
 have HS:=s1 a1;rw[a1];obtain⟨p,q,rfl,hp,hq,A⟩:=gS HS;simp only[go_sem];refine cD (cs:=[p,q,.int .i64 _]) rfl A rfl λb4 h4 r4 L n4=>?_
 refine Tb.mono λr h5 ⟨e,D⟩=>?_
 subst e;simp only[go_sem];have E5:=(e1.trans e2).trans (e3.trans (L.trans D));refine(JC (G.ext E5)).mono λr h6 ⟨e,F⟩=>?_
 subst e;have z0:((0:Int)=0)=True:=eq_true rfl;have np:ag .p .eql (ptr b) (.pointer none)=some (.bool false):=rfl;have U:∀b,ag .p .neq (ptr b) (.pointer none)=some (.bool true):=λ_=>rfl
 simp only[go_sem,z0,np,decide_true];have E6:=E5.trans F;have H:=e3.trans (L.trans (D.trans F));rw[aM (l:=[p,q,.int .i64 _]) ((D.trans F).row r4) 3 rfl,ah];have hs:lG Lh (bM Qc 1 1):=FD (m:=Lh) a1;refine(Xe (G.ext E6) (I.ext H) W (HS.ext (L.trans (D.trans F))) (vA a1).1 hs (by decide+kernel)).mono λr h7 ⟨b',v',n,e,M,aa⟩=>?_
 subst e;simp only[go_sem,z0,U,decide_true];refine(Xd M.img M.wf).mono λr h8 ⟨e,wq⟩=>?_
 have wq:=wq.symm;subst e wq;have ab:inP n 0 0 0:=⟨by omega,by rw[M.pw];decide+kernel,by omega,by rw[M.ph];decide+kernel,by omega,by rw[M.pc];decide⟩
 rw[aa 0 0 0 ab];have hv:ut Lh (bM Qc 1 1) 0 0 0=7:=by decide+kernel
 rw[hv];simp only[go_sem,eq_self,decide_true];exact⟨by simp,E6.trans M.ext⟩
structure pQ where
 w:Int
 h:Int
 c:Int
 most:Int
 l:List Int
structure pQ.Wf (a:pQ):Prop where
 w:U16 a.w
 h:U16 a.h
 c:U16 a.c
 most:U16 a.most
 l:∀x∈a.l,U16 x
 len:a.l.length≤4611686018427387904
def lO:Rp pQ where
 w:=5
 R:=λZ h cs a=>∃u,cs=[.int .u16 a.w,.int .u16 a.h,.int .u16 a.c,.int .u16 a.most,u]∧Rp.Sl rU Z h u a.l
 len:=by rintro _ _ _ _ ⟨x,rfl,_⟩;rfl
 one:=by
  rintro _ _ _ _ ⟨x,rfl,H⟩;exact ak rfl (ak rfl (ak rfl (ak rfl (ak H.one aQ))))
 fr:=by rintro _ _ _ _ _ _ ⟨x,rfl,H⟩ f q;exact⟨x,rfl,H.fr f q⟩
 mono:=by rintro _ _ _ _ _ ⟨x,rfl,H⟩ q;exact⟨x,rfl,H.mono q⟩
def dn (a:pQ):Pic:=zh (a.w%12) (a.h%12) a.c a.most a.l
theorem sC (a:pQ):(dn a).Wf:=OZ _ _ _ _ _
theorem ud (a:pQ):1≤(dn a).w∧(dn a).w≤12∧1≤(dn a).h∧(dn a).h≤12:=by
 show 1≤1+a.w%12%20∧1+a.w%12%20≤12∧1≤1+a.h%12%20∧1+a.h%12%20≤12;omega
theorem pZ.before {h0 h h':af}{p:Value}{m:Pic}(N:pZ h h' p m)(e:Ext h0 h):pZ h0 h' p m:=by
 obtain⟨b,v,A,I,nb,nv,E⟩:=N;exact⟨b,v,A,I,Nat.le_trans e.1 nb,λc hc=>Nat.le_trans e.1 (nv c hc),e.trans E⟩
theorem EU {Z:Nat→Prop}{h:af}{cs:List Value}{a:pQ}(H:lO.R Z h cs a)(W:a.Wf):ae prog dE #[.agg cs.toArray] h λr h'=>pZ h h' r (dn a):=by
 apply xK;unfold mV;obtain⟨u,rfl,F⟩:=H;simp only[bG];refine aC λA h1 r1 D n1=>?_
 have G:aB h1 ⟨A,0,none⟩=some (.int .u16 a.w):=ai r1;have L:aB h1 ⟨A,1,none⟩=some (.int .u16 a.h):=ai r1;have q2:aB h1 ⟨A,2,none⟩=some (.int .u16 a.c):=ai r1;have I:aB h1 ⟨A,3,none⟩=some (.int .u16 a.most):=ai r1;have U:aB h1 ⟨A,4,none⟩=some u:=ai r1;have w0:=W.w;have w1:=W.h;simp only[go_sem,Nat.zero_add,G];rw[dc _ _ _ _ (by omega),ah];simp only[go_sem,Nat.zero_add,L];rw[dc _ _ _ _ (by omega),ah];simp only[go_sem,Nat.zero_add,q2,I,U];rw[Int.tmod_eq_emod_of_nonneg w0.1,Int.tmod_eq_emod_of_nonneg w1.1];exact(U3 (F.ext D) (by unfold U16;omega) (by unfold U16;omega) W.c W.most W.l W.len).mono λr h' N=>N.before D
theorem ie.since {α:Type}{e:Rp α}{h0 h h':af}{v:Value}{l:List α}(H:ie e h h' v l)(k:Ext h0 h):Rp.Sl e (eo h0 h') h' v l:=H.sl.mono λc hc A=>⟨Nat.le_trans k.1 A.1,hc⟩
theorem Po {Z:Nat→Prop}{h:af}(G:dr h){v:Value}{l:List OpD}{b:Nat}{iv:Value}{m:Pic}(H:Rp.Sl rOp Z h v l)(few:l.length≤4)(WO:Br l)(I:cA h b iv m)(W:m.Wf):
  ae prog fV #[v,ptr b] h λr h'=>Ext h h'∧∃sv rv ok,r=.tuple #[sv,rv,.bool ok]∧aJ sv=true∧(ok=true↔kZ 12 l∧xC l m.w m.h m.c=0)∧
   (ok=true→Rp.Sl Bg (eo h h') h' sv (uC l m.w m.h)∧Rp.Sl uq (eo h h') h' rv (uC l m.w m.h)):=by
 apply Gk;unfold xp;obtain⟨a,cap,e⟩:=H.isSl;have e2:aq v=some (.int .i64 (l.length:Int)):=by rw[e];rfl
 have np:ag .p .eql (ptr b) (.pointer none)=some (.bool false):=rfl;simp only[go_sem,e2,np];have h4:((4:Int)<(l.length:Int))=False:=eq_false (by omega);simp only[go_sem,h4];refine(Ve (side:=12) H (by omega)).mono λr h1 ⟨e,F⟩=>?_
 subst e;simp only[go_sem];refine aj (λL=>?_) (λL=>?_)
 ·exact⟨F,_,_,false,rfl,rfl,⟨λh=>(by cases h),λh=>absurd h.1 L⟩,λh=>(by cases h)⟩
 have L:kZ 12 l:=Decidable.of_not_not L;have hf:=cL W.fits;have hW:I64 m.w:=by unfold I64;omega
 have hH:I64 m.h:=by unfold I64;omega
 have D:∀(U:af) (E:Ext h U) (K:Value→Value→Value→af→Prop),K (.int .i64 m.w) (.int .i64 m.h) (.int .i64 m.c) U→
   ae prog bD #[ptr b] U λan aa=>ae prog bF #[ptr b] aa λad aw=>ae prog aO #[ptr b] aw λal ar=>K an ad al ar:=by
  intro U E K HK;refine(qU (I.ext E)).mono λr h3 ⟨e,A⟩=>?_
  have A:=A.symm;subst e A;refine(pP (I.ext E)).mono λr h3 ⟨e,A⟩=>?_
  have A:=A.symm;subst e A;refine(dA (I.ext E)).mono λr h3 ⟨e,A⟩=>?_
  have A:=A.symm;subst e A;exact HK
 refine D h1 F _ ?_;refine(WL (G.ext F) (H.ext F) WO hW hH (c:=m.c)).mono λr U ⟨sv,e,au,s0,s1⟩=>?_
 subst e;simp only[go_sem];have E2:=F.trans au;refine(Yk (H.ext E2) (by omega)).mono λlv h3 ⟨HR,e3⟩=>?_
 have E3:=E2.trans e3;refine D h3 E3 _ ?_;refine(UY HR WO hW hH (c:=m.c)).mono λr h5 ⟨rv,e,e5,t0,t1⟩=>?_
 subst e;simp only[go_sem];have E5:=E3.trans e5;by_cases hc:xC l m.w m.h m.c=0
 ·have S:=(s1 hc).ext (e3.trans e5);have T:=t1 hc;obtain⟨ay,a7,es⟩:=S.isSl;obtain⟨at_,ct,et⟩:=T.isSl;have ab:aq sv=some (.int .i64 ((uC l m.w m.h).length:Int)):=by rw[es];rfl
  have ax:aq rv=some (.int .i64 ((uC l m.w m.h).length:Int)):=by rw[et];rfl
  simp only[go_sem,hc,ab,ax];refine⟨E5,sv,rv,true,by simp,by rw[es];rfl,⟨λ_=>⟨L,trivial⟩,λ_=>rfl⟩,λ_=>⟨?_,?_⟩⟩
  ·exact S.since F
  ·exact T.since E3
 ·simp only[go_sem,hc];exact⟨E5,sv,rv,false,by simp,by rw[s0 hc];rfl,⟨λh=>(by cases h),λh=>h.2.elim⟩,λh=>(by cases h)⟩
end Go.Proofs.YtjljhnandbbldaaGreatDoor
namespace Go.Proofs.YtjljhnandbbldaaGreatDoor
open Go Go.Crisp
open _root_.Go.Proofs.Tryz
structure Re (L:List (String×DataW Unit)):Prop where
 plain:(L.all λx=>x.2.handleName?.isNone)=true
 names:("smalto/border.names",Rows.laid_smalto_border_names)∈L
 kinds:("smalto/raw.kinds",Rows.laid_smalto_raw_kinds)∈L
theorem Re.glob {L:List (String×DataW Unit)}(l:Re L){h:af}(H:zD prog L h):dr h:=Uo H l.plain l.names l.kinds
theorem GF {n:Int}(h:(Lit.int .u16 n).wf=true):0≤n∧n≤65535:=by
 have h:(decide (IntKind.u16.min≤n)&&decide (n≤IntKind.u16.max))=true:=h;rw[Bool.and_eq_true,decide_eq_true_eq,decide_eq_true_eq]at h;exact h
abbrev PN:TS:=.int .u16
abbrev Sc:TS:=.pair PN (.pair PN (.pair PN (.pair PN (.pair (.sl PN 2) .unit))))
def Ru (x:Sc.T):pQ:=⟨x.1,x.2.1,x.2.2.1,x.2.2.2.1,x.2.2.2.2.1⟩
theorem PO {h:af}{v:Value}{l:List Int}(H:SlC 1 h v l.length (l.map (Value.int .u16))):Rp.Sl rU (λ_=>True) h v l:=
 ⟨_,H,λ_ _ _=>trivial,λi hi=>by
  show Rp.el 1 _ i=[.int .u16 l[i]];rw[Rp.el_one (by simpa using hi),List.getElem_map]⟩
theorem Vz {h:af}{cs:List Value}{l:List Int}(H:Rd (.sl PN 2) h cs l):∃v,cs=[v]∧Rp.Sl rU (λ_=>True) h v l∧(∀n∈l,U16 n)∧l.length*2≤140737488351232:=by
 obtain⟨v,rfl,h1,F,D⟩:=PQ (e:=PN) (Value.int .u16) U16 rfl (λds x A=>⟨A.1,GF A.2⟩) H;exact⟨v,rfl,PO h1,F,D⟩
theorem XJ {h:af}{cs:List Value}{x:Sc.T}(H:Rd Sc h cs x):lO.R (λ_=>True) h cs (Ru x)∧(Ru x).Wf:=by
 obtain⟨_,_,rfl,⟨rfl,a1⟩,_,_,rfl,⟨rfl,a2⟩,_,_,rfl,⟨rfl,a3⟩,_,_,rfl,⟨rfl,a4⟩,_,_,rfl,a5,rfl⟩:=H;obtain⟨s,rfl,D,F,A⟩:=Vz a5;have A:(Ru x).l.length*2≤140737488351232:=A;exact⟨⟨s,rfl,D⟩,⟨GF a1,GF a2,GF a3,GF a4,F,by omega⟩⟩
theorem VU {h:af}{cs:List Value}{x:tOp.T}(H:Rd tOp h cs x):Br [Od x]:=by
 have h1:=(Xp H).2;have D:=XL H;refine⟨λo A=>?_,λo A=>?_,by simp⟩<;>(rw[List.mem_singleton.1 A])
 ·exact h1
 ·exact D
end Go.Proofs.YtjljhnandbbldaaGreatDoor
namespace Go.Proofs.YtjljhnandbbldaaGreatDoor
open Go Go.Crisp
attribute [local irreducible] ae cE aP stK aA vK qK bC gK dK aU mkK cF Ch DH zZ bsK clK
open _root_.Go.Proofs.Tryz
theorem DU (o:Nat):∀(l:List Value) (c:Array Value) (k:Nat),(l.zipIdx k).foldl (λcs (p:Value×Nat)=>cs.setIfInBounds (o+p.2) p.1) c=wrL c (o+k) l
 | [],_,_=>rfl
 |v::l,c,k=>by
  simp only[List.zipIdx_cons,List.foldl_cons,wrL];exact DU o l _ (k+1)
theorem bI {c:Array Value}{o n:Nat}{v:Value}{l:List Value}{rest:List (Nat×Nat×Value)}(A:v.cells=l.toArray)(D:l.length=n)(F:o+n≤c.size):aF c ((o,n,v)::rest)=aF (wrL c o l) rest:=by
 simp only[aF,A];rw[if_neg (by simp[D];omega)]
 congr 1
 rw[Array.zipIdx_toArray,List.foldl_toArray']
 ·exact DU o l c 0
 ·simp
structure cG where
 s:Stg
 w:Int
 h:Int
def dQ (n:Int):Prop:=1≤n∧n≤4096
instance (n:Int):Decidable (dQ n):=by unfold dQ;infer_instance
structure cG.Wf (d:cG):Prop where
 s:d.s.Wf
 w:dQ d.w
 h:dQ d.h
def cG.X (d:cG):Int:=d.s.x.lines.length
def cG.Y (d:cG):Int:=d.s.y.lines.length
structure p8 (Z:Nat→Prop)(h:af)(b:Nat)(d:cG)(p q:Value):Prop where
 row:h[b]? =some (.cells #[p,q,.int .i64 d.s.border,.int .i64 d.w,.int .i64 d.h] 184 (0,0))
 x:dY Z h p d.s.x
 y:dY Z h q d.s.y
theorem p8.ext {Z:Nat→Prop}{h h':af}{b:Nat}{d:cG}{p q:Value}(H:p8 Z h b d p q)(e:Ext h h'):p8 Z h' b d p q:=⟨e.row H.row,H.x.ext e,H.y.ext e⟩
def cX (n size:Int):Int:=(n+size-1)/size
def cU (d:cG):Int:=cX d.X d.w
def bO (d:cG):Int:=cU d*cX d.Y d.h
def gY (d:cG)(i:Int):Int:=i%cU d*d.w
def iR (d:cG)(i:Int):Int:=i/cU d*d.h
def qJ (d:cG)(i:Int):Int:=min d.w (d.X-gY d i)
def sX (d:cG)(i:Int):Int:=min d.h (d.Y-iR d i)
theorem lR {n size:Int}(D:0≤n∧n≤65536)(A:dQ size):0≤cX n size∧cX n size≤65536∧(1≤n→1≤cX n size):=by
 unfold dQ at A;unfold cX;refine⟨Int.ediv_nonneg (by omega) (by omega),?_,λh=>?_⟩
 ·have:=pL (a:=n+size-1) (b:=size) (L:=0) (U:=70000) (by omega) (by omega) (by omega) (by omega) (by omega);apply Int.le_of_lt_add_one;rw[Int.ediv_lt_iff_lt_mul (by omega)];omega
 ·rw[Int.le_ediv_iff_mul_le (by omega)];omega
theorem cG.bd {d:cG}(W:d.Wf):(0≤d.X∧d.X≤65536)∧(0≤d.Y∧d.Y≤65536):=by
 have h1:=W.s.x.len;have A:=W.s.y.len;unfold cG.X cG.Y;omega
theorem RS {h:af}{n size:Int}(D:0≤n∧n≤65536)(A:dQ size):ae prog rk #[.int .i64 n,.int .i64 size] h λr h'=>r=.int .i64 (cX n size)∧h'=h:=by
 apply KF;unfold AZ;have F:=lR D A;unfold dQ at A;unfold cX at*;simp only[go_sem];rw[w64 (n:=n+size) (by omega) (by omega),w64 (n:=n+size-1) (by omega) (by omega),kq _ _ _ _ (by omega),ah,Int.tdiv_eq_ediv_of_nonneg (by omega),w64 (by omega) (by omega)];exact⟨rfl,trivial⟩
theorem EV {Z:Nat→Prop}{h:af}{b:Nat}{d:cG}{p q:Value}(H:p8 Z h b d p q)(W:d.Wf):ae prog fD #[ptr b] h λr h'=>r=.int .i64 (cU d)∧h'=h:=by
 apply yS;unfold oZ;simp only[go_sem,Nat.zero_add];refine aI (λh'=>h'=h) rfl ?_;refine ao p (λh' e=>by rw[e];exact ai H.row) ?_;refine ao (.int .i64 d.w) (λh' e=>by rw[e];exact ai H.row) ?_;refine(Ax H.x).mono λr h1 ⟨e,A⟩=>?_
 have A:=A.symm;subst e A;exact⟨rfl,RS (cG.bd W).1 W.w⟩
theorem Ag {Z:Nat→Prop}{h:af}{b:Nat}{d:cG}{p q:Value}(H:p8 Z h b d p q)(W:d.Wf):ae prog dj #[ptr b] h λr h'=>r=.int .i64 (bO d)∧h'=h:=by
 apply BT;unfold rT;simp only[go_sem,Nat.zero_add];refine aI (λh'=>h'=h) rfl ?_;refine ao q (λh' e=>by rw[e];exact ai H.row) ?_;refine ao (.int .i64 d.h) (λh' e=>by rw[e];exact ai H.row) ?_;refine(EV H W).mono λr h1 ⟨e,D⟩=>?_
 have D:=D.symm;subst e D;refine⟨rfl,?_⟩;refine(Ax H.y).mono λr h1 ⟨e,D⟩=>?_
 have D:=D.symm;subst e D;refine⟨rfl,?_⟩;refine(RS (cG.bd W).2 W.h).mono λr h1 ⟨e,D⟩=>?_
 have D:=D.symm;subst e D;simp only[go_sem];have h1:=lR (cG.bd W).1 W.w;have G:=lR (cG.bd W).2 W.h;have F:=kS (a:=cU d) (A:=65536) (b:=cX d.Y d.h) (B:=65536) h1.1 h1.2.1 G.1 G.2.1;have e:cU d*cX (d.s.y.lines.length:Int) d.h=bO d:=rfl;have F:0≤cU d*cX (d.s.y.lines.length:Int) d.h∧cU d*cX (d.s.y.lines.length:Int) d.h≤65536*65536:=F;rw[w64 (by omega) (by omega)];exact⟨rfl,trivial⟩
theorem JA {h:af}{n:Int}:ae prog ui #[.int .i64 n] h λr h'=>r=.bool (decide (dQ n))∧h'=h:=by
 apply MM;unfold C6;simp only[go_sem];exact⟨rfl,trivial⟩
theorem LX {Z:Nat→Prop}{h:af}{sv:Value}{s:Stg}{w hh:Int}(HS:nh Z h sv s):ae prog wS #[sv,.int .i64 w,.int .i64 hh] h λr h'=>
  Ext h h'∧((dQ w∧dQ hh)→∃b p q,r=.tuple #[ptr b,.int .i64 0]∧h.size≤b∧p8 Z h' b ⟨s,w,hh⟩ p q)∧(¬(dQ w∧dQ hh)→r=.tuple #[.pointer none,.int .i64 9]):=by
 apply Oo;unfold Fv;obtain⟨p,q,rfl,I,hq,U⟩:=gS HS;simp only[bG];refine aC λL h1 r1 D n1=>?_
 have np:=(Ef I).2;have nq:=(Ef hq).2;have q0:aB h1 ⟨L,0,none⟩=some p:=ai r1;have q1:aB h1 ⟨L,1,none⟩=some q:=ai r1;simp only[go_sem,Nat.zero_add,q0,q1,np,nq];refine JA.mono λr W ⟨e,A⟩=>?_
 have A:=A.symm;subst e A;by_cases hw:dQ w
 ·simp only[go_sem,hw];refine JA.mono λr W ⟨e,A⟩=>?_
  have A:=A.symm;subst e A;by_cases F:dQ hh
  ·simp only[go_sem,F];rw[aM (l:=[p,q,.int .i64 s.border]) r1 3 rfl,ah];have hf:aF #[(.pointer none),(.pointer none),(.int .i64 0),(.int .i64 0),(.int .i64 0)] [(0,3,.agg #[p,q,.int .i64 s.border]),(3,1,.int .i64 w),(4,1,.int .i64 hh)]=some #[p,q,.int .i64 s.border,.int .i64 w,.int .i64 hh]:=rfl;rw[hf,bi,ah];refine aC (c:=#[p,q,.int .i64 s.border,.int .i64 w,.int .i64 hh]) λb2 W r2 H n2=>?_
   exact⟨D.trans H,λ_=>⟨b2,p,q,rfl,Nat.le_trans D.1 n2,r2,I.ext (D.trans H),hq.ext (D.trans H)⟩,λG=>absurd ⟨trivial,trivial⟩ G⟩
  ·simp only[go_sem,F];exact⟨D,λG=>G.2.elim,λ_=>by simp⟩
 ·simp only[go_sem,hw];exact⟨D,λG=>G.1.elim,λ_=>by simp⟩
structure co where
 number:Int
 x:Int
 y:Int
 w:Int
 h:Int
 fx:Int
 fy:Int
 cx:Int
 cy:Int
 ring:Int
abbrev cS (t:co):List Value:=[.int .i64 t.number,.int .i64 t.x,.int .i64 t.y,.int .i64 t.w,.int .i64 t.h,.int .i64 t.fx,.int .i64 t.fy,.int .i64 t.cx,.int .i64 t.cy,.int .i64 t.ring]
theorem iV (t:co):∀v∈cS t,aJ v=true:=by
 intro v A;simp only[cS,List.mem_cons,List.not_mem_nil,or_false]at A;rcases A with rfl|rfl|rfl|rfl|rfl|rfl|rfl|rfl|rfl|rfl<;>rfl
theorem GJ {d:cG}(W:d.Wf){i:Int}(h0:0≤i)(h1:i<bO d):0≤gY d i∧gY d i<d.X∧0≤iR d i∧iR d i<d.Y:=by
 have A:=cG.bd W;have H:=W.w;have hh:=W.h;unfold dQ at H hh;have h2:=lR A.1 W.w;have h3:=lR A.2 W.h;have hc:0<cU d:=by
  rcases Int.lt_or_le 0 (cU d)with h|h
  ·exact h
  ·have h4:0≤cU d:=h2.1;have:cU d=0:=by omega
   unfold bO at h1;rw[this,Int.zero_mul]at h1;omega
 have m0:=Int.emod_nonneg i (show cU d≠0 by omega);have m1:=Int.emod_lt_of_pos i hc;have L:=Int.ediv_nonneg h0 (show 0≤cU d by omega);have U:i/cU d<cX d.Y d.h:=by
  rw[Int.ediv_lt_iff_lt_mul hc,Int.mul_comm];exact h1
 have key:∀(n size k:Int),0≤n→1≤size→0≤k→k<cX n size→0≤k*size∧k*size<n:=by
  intro n size k hn hs I D;refine⟨Int.mul_nonneg I (by omega),?_⟩;have h5:k+1≤(n+size-1)/size:=D;rw[Int.le_ediv_iff_mul_le (by omega),Int.add_mul,Int.one_mul]at h5;omega
 have F:=key d.X d.w (i%cU d) A.1.1 H.1 m0 m1;have G:=key d.Y d.h (i/cU d) A.2.1 hh.1 L U;exact⟨F.1,F.2,G.1,G.2⟩
theorem LW {Z:Nat→Prop}{h:af}{b:Nat}{d:cG}{p q:Value}(H:p8 Z h b d p q)(W:d.Wf){i:Int}(h0:0≤i)(h1:i<bO d):ae prog kL #[ptr b,.int .i64 i] h λr h'=>
  r=.agg #[.int .i64 (gY d i),.int .i64 (iR d i),.int .i64 (qJ d i),.int .i64 (sX d i)]∧Ext h h':=by
 apply EA;unfold vj;have ti:=GJ W h0 h1;have hb:=cG.bd W;have hw:=W.w;have hh:=W.h;unfold dQ at hw hh;have h2:=lR hb.1 W.w;have G:=lR hb.2 W.h;have ad:0≤cU d∧cU d≤65536:=⟨h2.1,h2.2.1⟩
 have ab:=kS (a:=cU d) (A:=65536) (b:=cX d.Y d.h) (B:=65536) h2.1 h2.2.1 G.1 G.2.1;have aa:bO d=cU d*cX d.Y d.h:=rfl;have hc:0<cU d:=by
  rcases Int.lt_or_le 0 (cU d)with h|h
  ·exact h
  ·have:cU d=0:=by omega
   rw[aa,this,Int.zero_mul]at h1;omega
 have hq:=pL (a:=i) (b:=cU d) (L:=0) (U:=4294967296) (by omega) (by omega) (by omega) (by omega) (by omega);refine aC λb1 I r1 e1 n1=>?_
 have F:=H.ext e1;simp only[go_sem,Nat.zero_add];refine aI (λh'=>h'=I) rfl ?_;refine ao (.int .i64 d.w) (λh' e=>by rw[e];exact ai F.row) ?_;refine ao (.int .i64 d.h) (λh' e=>by rw[e];exact ai F.row) ?_;refine(EV F W).mono λr G ⟨e,D⟩=>?_
 have D:=D.symm;subst e D;refine⟨rfl,?_⟩;rw[dc _ _ _ _ (by omega),ah,Int.tmod_eq_emod_of_nonneg h0];simp only[go_sem];refine(EV F W).mono λr G ⟨e,D⟩=>?_
 have D:=D.symm;subst e D;refine⟨rfl,?_⟩;rw[kq _ _ _ _ (by omega),ah,Int.tdiv_eq_ediv_of_nonneg h0];simp only[go_sem];have ex:i%cU d*d.w=gY d i:=rfl;have ey:i/cU d*d.h=iR d i:=rfl;rw[w64 (n:=i/cU d) (by omega) (by omega),ex,ey,w64 (n:=gY d i) (by omega) (by omega),w64 (n:=iR d i) (by omega) (by omega)];refine aI (λh'=>h'=I) rfl ?_;simp only[go_sem,Nat.zero_add];refine ao (.int .i64 d.w) (λh' e=>by rw[e];exact ai F.row) ?_;refine ao p (λh' e=>by rw[e];exact ai F.row) ?_;refine ao (.int .i64 d.h) (λh' e=>by rw[e];exact ai F.row) ?_;refine ao q (λh' e=>by rw[e];exact ai F.row) ?_;refine(Ax F.x).mono λr G ⟨e,D⟩=>?_
 have D:=D.symm;subst e D;refine⟨rfl,?_⟩;simp only[go_sem];have eX:(d.s.x.lines.length:Int)=d.X:=rfl;have eY:(d.s.y.lines.length:Int)=d.Y:=rfl;rw[eX,w64 (n:=d.X-gY d i) (by omega) (by omega)];refine ao (.int .i64 (min d.w (d.X-gY d i))) (λh' e=>by first|exact ID _ _ _|rfl) ?_;refine(Ax F.y).mono λr G ⟨e,D⟩=>?_
 have D:=D.symm;subst e D;refine⟨rfl,?_⟩;simp only[go_sem];rw[eY,w64 (n:=d.Y-iR d i) (by omega) (by omega)];refine ao (.int .i64 (min d.h (d.Y-iR d i))) (λh' e=>by first|exact ID _ _ _|rfl) ?_;have hf:aF #[(.int .i64 0),(.int .i64 0),(.int .i64 0),(.int .i64 0)] [(0,1,Value.int .i64 (gY d i)),(1,1,Value.int .i64 (iR d i)),(2,1,Value.int .i64 (min d.w (d.X-gY d i))),(3,1,Value.int .i64 (min d.h (d.Y-iR d i)))]=some #[.int .i64 (gY d i),.int .i64 (iR d i),.int .i64 (qJ d i),.int .i64 (sX d i)]:=rfl;rw[hf,bi,ah];refine ch (l:=[.int .i64 (gY d i),.int .i64 (iR d i),.int .i64 (qJ d i),.int .i64 (sX d i)]) r1 rfl (ak rfl (ak rfl (ak rfl (ak rfl aQ)))) rfl λh5 r5 u5=>?_
 rw[aM r5 4 rfl,ah];exact⟨rfl,e1.upd n1 u5⟩
theorem SN (a b c d e f:Int):aF #[(.int .i64 0),(.int .i64 0),(.int .i64 0),(.int .i64 0),(.int .i64 0),(.int .i64 0),(.int .i64 0),(.int .i64 0),(.int .i64 0),(.int .i64 0)] [(0,1,Value.int .i64 a),(1,4,.agg #[.int .i64 b,.int .i64 c,.int .i64 d,.int .i64 e]),(9,1,.int .i64 f)]=some (cS ⟨a,b,c,d,e,0,0,0,0,f⟩).toArray:=by
 refine(bI (n:=1) (l:=[.int .i64 a]) rfl rfl (by simp)).trans ?_;refine(bI (n:=4) (l:=[.int .i64 b,.int .i64 c,.int .i64 d,.int .i64 e]) rfl rfl (by simp[bX])).trans ?_;refine(bI (n:=1) (l:=[.int .i64 f]) rfl rfl (by simp[bX])).trans ?_;rw[fo];simp[wrL,cS]
def aG (d:cG)(i:Int):co:=
 ⟨i,gY d i,iR d i,qJ d i,sX d i,(uo d.s.x (gY d i) (gY d i+qJ d i)).1,(uo d.s.y (iR d i) (iR d i+sX d i)).1,
  (uo d.s.x (gY d i) (gY d i+qJ d i)).2,(uo d.s.y (iR d i) (iR d i+sX d i)).2,bu d.s.y.lines⟩
theorem sD {Z:Nat→Prop}{h:af}{b:Nat}{d:cG}{p q:Value}(H:p8 Z h b d p q)(W:d.Wf){i:Int}(h0:0≤i)(h1:i<bO d):ae prog eM #[ptr b,.int .i64 i] h λr h'=>
  r=.tuple #[.agg (cS (aG d i)).toArray,.bool true]∧Ext h h':=by
 apply DE;unfold tO;have ti:=GJ W h0 h1;have hb:=cG.bd W;have hw:=W.w;have hh:=W.h;unfold dQ at hw hh;refine aC λb1 h2 r1 e1 n1=>?_
 have G:=H.ext e1;have hi:(i<0)=False:=eq_false (by omega);simp only[go_sem,hi];refine(Ag G W).mono λr h3 ⟨e,F⟩=>?_
 have F:=F.symm;subst e F;simp only[go_sem];rw[decide_eq_false (by omega),cf];have ar:=aW r1;refine aV (λxs h'=>∃U,xs=[ptr U]∧Ext h2 h'∧h2.size≤U∧h'[U]? =some (.cells (cS ⟨i,gY d i,iR d i,qJ d i,sX d i,0,0,0,0,bu d.s.y.lines⟩).toArray 116 (0,0))) ?_ ?_
 ·simp only[go_sem,Nat.zero_add];refine aI (Ext h2) (Ext.refl _) ?_;refine ao q (λh' e=>ai (e.row G.row)) ?_;have hf:aF #[(.int .i64 0),(.int .i64 0),(.int .i64 0),(.int .i64 0),(.int .i64 0),(.int .i64 0),(.int .i64 0),(.int .i64 0),(.int .i64 0),(.int .i64 0)] [(0,1,Value.int .i64 i),(1,4,.agg #[.int .i64 (gY d i),.int .i64 (iR d i),.int .i64 (qJ d i),.int .i64 (sX d i)]),(9,1,.int .i64 (bu d.s.y.lines))]=some (cS ⟨i,gY d i,iR d i,qJ d i,sX d i,0,0,0,0,bu d.s.y.lines⟩).toArray:=SN _ _ _ _ _ _;refine⟨?_,?_⟩
  ·refine(LW G W h0 h1).mono λr h3 ⟨e,D⟩=>?_
   subst e;refine⟨D,?_,?_⟩
   ·refine(Nl (G.y.ext D)).mono λr h4 ⟨e,F⟩=>?_
    have F:=F.symm;subst e F;refine⟨D,?_⟩;rw[hf,bi,ah];refine aC λb4 h4 r4 A n4=>⟨D.trans A,?_⟩
    have I:=Nat.le_trans D.1 n4;refine ch (l:=cS _) r4 rfl (iV _) rfl λh5 r5 u5=>?_
    have E:=(D.trans A).upd I u5;exact⟨E,b4,rfl,E,I,r5⟩
   ·refine aC λb4 h4 r4 A n4=>⟨D.trans A,?_⟩
    have I:=Nat.le_trans D.1 n4;refine(Nl (G.y.ext (D.trans A))).mono λr h5 ⟨e,F⟩=>?_
    have F:=F.symm;subst e F;refine⟨D.trans A,?_⟩;rw[hf,bi,ah];refine ch (l:=cS _) r4 rfl (iV _) rfl λh5 r5 u5=>?_
    have E:=(D.trans A).upd I u5;exact⟨E,b4,rfl,E,I,r5⟩
  ·refine aC λb4 h4 r4 A n4=>⟨A,?_⟩
   refine(LW (G.ext A) W h0 h1).mono λr h3 ⟨e,D⟩=>?_
   subst e;refine⟨A.trans D,?_⟩;refine(Nl (G.y.ext (A.trans D))).mono λr h5 ⟨e,F⟩=>?_
   have F:=F.symm;subst e F;refine⟨A.trans D,?_⟩;rw[hf,bi,ah];refine ch (l:=cS _) (D.row r4) rfl (iV _) rfl λh5 r5 u5=>?_
   have E:=(A.trans D).upd n4 u5;exact⟨E,b4,rfl,E,n4,r5⟩
 rintro xs ρj h3 ⟨U,rfl,E3,L,r3⟩;have H3:=G.ext E3;have ax:=G.row;have al:b≠U:=by have:=aW G.row;omega
 have ad:b1≠U:=by omega
 have an:0≤gY d i+qJ d i∧gY d i+qJ d i≤65536:=by unfold qJ;omega
 have aw:0≤iR d i+sX d i∧iR d i+sX d i≤65536:=by unfold sX;omega
 refine aI (λh'=>h'=h3) rfl ?_;simp only[go_sem,Nat.zero_add];refine ao p (λh' e=>by rw[e];exact ai H3.row) ?_;refine ao (.int .i64 (gY d i)) (λh' e=>by rw[e];exact ai r3) ?_;refine ao (.int .i64 (gY d i)) (λh' e=>by rw[e];exact ai r3) ?_;refine ao (.int .i64 (qJ d i)) (λh' e=>by rw[e];exact ai r3) ?_;simp only[go_sem];rw[w64 (by omega) (by omega)];refine(Nj H3.x W.s.x (by unfold I64;omega) (by unfold I64;omega)).mono λr h4 ⟨e,A⟩=>?_
 subst e;simp only[go_sem,Nat.zero_add];refine bK (A.row r3) (by simp) rfl λh5 r5 u5=>?_
 refine bK r5 (by simp) rfl λh6 r6 u6=>?_
 have E6:Ext h2 h6:=((E3.trans A).upd L u5).upd L u6;have H6:=G.ext E6;have r6:h6[U]? =some (.cells (cS ⟨i,gY d i,iR d i,qJ d i,sX d i,(uo d.s.x (gY d i) (gY d i+qJ d i)).1,0,(uo d.s.x (gY d i) (gY d i+qJ d i)).2,0,bu d.s.y.lines⟩).toArray 116 (0,0)):=r6;refine aI (λh'=>h'=h6) rfl ?_
 try simp only[go_sem,Nat.zero_add]
 refine ao q (λh' e=>by rw[e];exact ai H6.row) ?_;refine ao (.int .i64 (iR d i)) (λh' e=>by rw[e];exact ai r6) ?_;refine ao (.int .i64 (iR d i)) (λh' e=>by rw[e];exact ai r6) ?_;refine ao (.int .i64 (sX d i)) (λh' e=>by rw[e];exact ai r6) ?_;simp only[go_sem];rw[w64 (by omega) (by omega)];refine(Nj H6.y W.s.y (by unfold I64;omega) (by unfold I64;omega)).mono λr h7 ⟨e,e7⟩=>?_
 subst e;simp only[go_sem,Nat.zero_add];refine bK (e7.row r6) (by simp) rfl λh8 r8 u8=>?_
 refine bK r8 (by simp) rfl λh9 r9 u9=>?_
 have E9:Ext h2 h9:=((E6.trans e7).upd L u8).upd L u9;have r9:h9[U]? =some (.cells (cS (aG d i)).toArray 116 (0,0)):=r9;rw[aM r9 10 rfl,ah];refine ch (l:=cS (aG d i)) (E9.row r1) rfl (iV _) rfl λau ab aa=>?_
 rw[aM ab 10 rfl,ah];exact⟨rfl,(e1.trans E9).upd n1 aa⟩
def Hr:OpD:=⟨3,0,0,0,[],[],0,5,3⟩
theorem QV {h:af}(G:dr h):ae prog uM #[] h λr h'=>r=.bool true∧Ext h h':=by
 apply Ij;unfold yn;have hf:(aF #[(.int .i64 0),(.int .i64 0),(.int .i64 0),(.int .i64 0),(.slice none 0 0),(.slice none 0 0),(.int .i64 0),(.int .i64 0),(.int .i64 0)] [(0,1,(.int .i64 3)),(7,1,(.int .i64 5)),(8,1,(.int .i64 3)),(6,1,(.int .i64 0))])=some #[.int .i64 3,.int .i64 0,.int .i64 0,.int .i64 0,.slice none 0 0,.slice none 0 0,.int .i64 0,.int .i64 5,.int .i64 3]:=rfl;rw[hf,bi,ah];have wf:Hr.Wf:=yG (by simp[I64]);refine(EW (Z:=λ_=>True) (o:=Hr) G yH wf (by simp[Hr]) (by simp[Hr]) (by unfold I64;omega) (by unfold I64;omega)).mono λw h1 ⟨sv,e,e1,_,s1⟩=>?_
 subst e;have a1:dD Hr 9 9=0:=by decide+kernel
 have HS:=s1 a1;rw[a1];obtain⟨p,q,rfl,hp,hq,D⟩:=gS HS;simp only[go_sem];refine cD (cs:=[p,q,.int .i64 _]) rfl D rfl λb2 h2 r2 H n2=>?_
 refine(JC (G.ext (e1.trans H))).mono λr h3 ⟨e,L⟩=>?_
 subst e;have z0:((0:Int)=0)=True:=eq_true rfl;simp only[go_sem,z0,decide_true];rw[aM (l:=[p,q,.int .i64 _]) (L.row r2) 3 rfl,ah];refine(LX (HS.ext (H.trans L))).mono λr h4 ⟨e4,hy,_⟩=>?_
 obtain⟨b4,p4,q4,e,aa,P⟩:=hy ⟨by decide,by decide⟩;subst e;have np:ag .p .eql (ptr b4) (.pointer none)=some (.bool false):=rfl;simp only[go_sem,z0,np,decide_true];have PW:cG.Wf ⟨bM Hr 9 9,2,2⟩:=⟨(vA a1).1,by decide,by decide⟩
 have A:bO ⟨bM Hr 9 9,2,2⟩=6:=by decide+kernel
 refine(sD P PW (i:=5) (by omega) (by rw[A];omega)).mono λr h5 ⟨e,e5⟩=>?_
 subst e;simp only[go_sem];refine cD (cs:=cS _) rfl (iV _) rfl λb6 h6 r6 e6 n6=>?_
 refine(Ag (P.ext (e5.trans e6)) PW).mono λr h7 ⟨e,W⟩=>?_
 have W:=W.symm;subst e W;rw[A];have t1:gY ⟨bM Hr 9 9,2,2⟩ 5=4:=by decide+kernel
 have t2:iR ⟨bM Hr 9 9,2,2⟩ 5=2:=by decide+kernel
 have t3:qJ ⟨bM Hr 9 9,2,2⟩ 5=1:=by decide+kernel
 have t4:sX ⟨bM Hr 9 9,2,2⟩ 5=1:=by decide+kernel
 have F:aH 4 h6 (.pointer (some ⟨b6,1,none⟩))=some (.agg #[.int .i64 4,.int .i64 2,.int .i64 1,.int .i64 1]):=by
  refine DO [.int .i64 4,.int .i64 2,.int .i64 1,.int .i64 1] 4 rfl λj hj=>?_
  rw[ai r6]
  match j,hj with
  |0,_=>exact congrArg (λn=>some (Value.int .i64 n)) t1
  |1,_=>exact congrArg (λn=>some (Value.int .i64 n)) t2
  |2,_=>exact congrArg (λn=>some (Value.int .i64 n)) t3
  |3,_=>exact congrArg (λn=>some (Value.int .i64 n)) t4
 have U:aF #[(.int .i64 0),(.int .i64 0),(.int .i64 0),(.int .i64 0)] [(0,1,(.int .i64 4)),(1,1,(.int .i64 2)),(2,1,(.int .i64 1)),(3,1,(.int .i64 1))]=some #[.int .i64 4,.int .i64 2,.int .i64 1,.int .i64 1]:=rfl;have I:ag (.st [(0,1,.i),(1,1,.i),(2,1,.i),(3,1,.i)]) .eql (.agg #[.int .i64 4,.int .i64 2,.int .i64 1,.int .i64 1]) (.agg #[.int .i64 4,.int .i64 2,.int .i64 1,.int .i64 1])=some (.bool true):=rfl;simp only[go_sem,eq_self,decide_true,Nat.zero_add,F,U,bi,I];exact⟨by simp,e1.trans (H.trans (L.trans (e4.trans (e5.trans e6))))⟩
end Go.Proofs.YtjljhnandbbldaaGreatDoor
namespace Go.Crisp
open Go Go.MapKept
section
section
variable {α:Type}
def em (j:Int):List (Int×α)→Option α
 | []=>none
 |(k,v)::r=>if k=j then some v else em j r
def OH (j:Int)(v:α):List (Int×α)→List (Int×α)
 | []=>[(j,v)]
 |(k,u)::r=>if k=j then(j,v)::r else(k,u)::OH j v r
def mM (j:Int):List (Int×α)→List (Int×α)
 | []=>[]
 |(k,u)::r=>if k=j then r else(k,u)::mM j r
def y4 (j:Int):List (Int×α)→Nat→Option (Nat×α)
 | [],_=>none
 |(k,v)::r,i=>if k=j then some (i,v)else y4 j r (i+1)
def nI {β:Type}(f:α→β)(l:List (Int×α)):List (Int×β):=l.map λp=>(p.1,f p.2)
theorem vD {β:Type}(f:α→β)(l:List (Int×α)):(nI f l).map Prod.fst=l.map Prod.fst:=by simp[nI,List.map_map,Function.comp_def]
theorem pJ {β:Type}(f:α→β)(j:Int):∀l:List (Int×α),em j (nI f l)=(em j l).map f
 | []=>rfl
 |(k,v)::r=>by
  have A:=pJ f j r;unfold nI at A ⊢;simp only[List.map_cons,em];split
  ·rfl
  ·exact A
theorem IV {β:Type}(f:α→β)(j:Int):∀l:List (Int×α),mM j (nI f l)=nI f (mM j l)
 | []=>rfl
 |(k,v)::r=>by
  have A:=IV f j r;unfold nI at A ⊢;simp only[List.map_cons,mM];split
  ·rfl
  ·simp[A]
end
def Cg (es:List MapEntry)(kv:List (Int×Value)):Prop:=es.map (λe=>(e.key,e.val))=kv.map λp=>(Value.int .i64 p.1,p.2)
def qX (h:af)(b:Nat)(kv:List (Int×Value)):Prop:=∃es c,h[b]? =some (.map es c)∧Stamped es c∧Cg es.toList kv
theorem Cg.length {A:List MapEntry}{kv:List (Int×Value)}(H:Cg A kv):A.length=kv.length:=by
 have:=congrArg List.length H;simpa using this
theorem qX.nodup {h:af}{b:Nat}{kv:List (Int×Value)}(H:qX h b kv):(kv.map Prod.fst).Nodup:=by
 obtain⟨D,c,_,G,F⟩:=H;have h1:D.toList.map (·.key)=(kv.map Prod.fst).map (Value.int .i64):=by
  have:=congrArg (List.map Prod.fst) F;simpa[List.map_map,Function.comp_def]using this
 have A:=G.2.2;rw[h1]at A;unfold List.Nodup at A ⊢;rw[List.pairwise_map]at A;exact A.imp λh e=>h (by rw[e])
theorem qX.row {h h':af}{b:Nat}{kv:List (Int×Value)}(H:qX h b kv)(r:h'[b]? =h[b]?):qX h' b kv:=by
 obtain⟨A,c,h1,D⟩:=H;exact⟨A,c,r.trans h1,D⟩
theorem qX.lt {h:af}{b:Nat}{kv:List (Int×Value)}(H:qX h b kv):b<h.size:=by
 obtain⟨A,c,h1,_⟩:=H;exact aW h1
theorem qX.fr {M:Nat→Prop}{h h':af}{b:Nat}{kv:List (Int×Value)}(H:qX h b kv)(f:Fr M h h')(A:¬M b):qX h' b kv:=H.row (f.2 b H.lt A)
theorem qX.ext {h h':af}{b:Nat}{kv:List (Int×Value)}(H:qX h b kv)(e:Ext h h'):qX h' b kv:=H.row (e.2 b H.lt)
theorem DW (j:Int):∀(A:List MapEntry) (kv:List (Int×Value)) (i:Nat),Cg A kv→Instr.findNow (.int .i64) (.int .i64 j) A i=some (y4 j kv i)
 | [],kv,i,H=>by
  have:kv=[]:=List.eq_nil_of_length_eq_zero (by rw[←Cg.length H];rfl);subst this;rfl
 |e::A,[],i,H=>by have:=Cg.length H;simp at this
 | e::A,(k,v)::kv,i,H=>by
  unfold Cg at H;simp only[List.map_cons,List.cons.injEq,Prod.mk.injEq]at H;obtain⟨⟨h1,I⟩,H⟩:=H;unfold Instr.findNow y4;rw[h1];have G:Instr.sameNow (.int .i64) (.int .i64 j) (.int .i64 k)=some (j==k):=by simp[Instr.sameNow]
  rw[G];by_cases F:k=j
  ·subst F;simp[I]
  ·have D:(j==k)=false:=by simp;exact λh=>F h.symm
   rw[D,if_neg F];exact DW j A kv (i+1) H
theorem EO {α:Type}(j:Int):∀(kv:List (Int×α)) (i:Nat),(y4 j kv i).map Prod.snd=em j kv
 | [],_=>rfl
 |(k,v)::r,i=>by
  unfold y4 em;split
  ·rfl
  ·exact EO j r (i+1)
theorem nJ {α:Type}{j:Int}:∀{kv:List (Int×α)},em j kv=none↔j∉kv.map Prod.fst
 | []=>by simp[em]
 |(k,v)::r=>by
  unfold em;by_cases A:k=j
  ·simp[A]
  ·simp[A,nJ (kv:=r),Ne.symm A]
theorem IT {α:Type}{j:Int}{kv:List (Int×α)}{i:Nat}(h:y4 j kv i=none):em j kv=none:=by
 rw[←EO j kv i,h];rfl
theorem B9 {α:Type}{j:Int}:∀{kv:List (Int×α)} {i m:Nat} {v:α},y4 j kv i=some (m,v)→i≤m∧kv[m-i]? =some (j,v)∧(∀u,OH j u kv=kv.set (m-i) (j,u))∧mM j kv=kv.eraseIdx (m-i)
 | [],_,_,_,h=>by cases h
 | (k,v)::r,i,m,u,h=>by
  unfold y4 at h;split at h
  ·rename_i A;cases h;subst A;simp[OH,mM]
  ·rename_i A;obtain⟨h1,H,F,G⟩:=B9 h;have D:m-i=(m-(i+1))+1:=by omega
   refine⟨by omega,?_,λu=>?_,?_⟩
   ·rw[D];simpa using H
   ·rw[D];simp[OH,A,F u]
   ·rw[D];simp[mM,A,G]
theorem EP {α:Type}{j:Int}{v:α}:∀{kv:List (Int×α)},em j kv=some v→kv.Perm ((j,v)::mM j kv)
 | (k,u)::r,h=>by
  unfold em at h;unfold mM;split at h
  ·rename_i A;cases h;subst A;rw[if_pos rfl]
  ·rename_i A;rw[if_neg A];exact((EP h).cons (k,u)).trans (List.Perm.swap ..)
theorem IS {α:Type}{j:Int}{v:α}:∀{kv:List (Int×α)},em j kv=some v→(j,v)∈kv
 | (k,u)::r,h=>by
  unfold em at h;split at h
  ·rename_i A;cases h;subst A;exact List.mem_cons_self ..
  ·exact List.mem_cons_of_mem _ (IS h)
theorem FH {α:Type}{j:Int}{v:α}:∀{kv:List (Int×α)},(kv.map Prod.fst).Nodup→(j,v)∈kv→em j kv=some v
 | (k,u)::r,hn,h=>by
  unfold em;rw[List.map_cons,List.nodup_cons]at hn;rcases List.mem_cons.1 h with h|h
  ·cases h;rw[if_pos rfl]
  ·rw[if_neg]
   ·exact FH hn.2 h
   ·rintro rfl;exact hn.1 (List.mem_map.2 ⟨_,h,rfl⟩)
theorem DQ {α:Type}{j i:Int}:∀{kv:List (Int×α)},(kv.map Prod.fst).Nodup→em i (mM j kv)=if i=j then none else em i kv
 | [],_=>by simp[mM,em]
 | (k,u)::r,hn=>by
  rw[List.map_cons,List.nodup_cons]at hn;unfold mM;by_cases D:k=j
  ·subst D;rw[if_pos rfl];by_cases hi:i=k
   ·subst hi;rw[if_pos rfl];exact nJ.2 hn.1
   ·rw[if_neg hi,em,if_neg (Ne.symm hi)]
  ·rw[if_neg D];unfold em;by_cases A:k=i
   ·subst A;rw[if_pos rfl,if_neg D,if_pos rfl]
   ·rw[if_neg A,if_neg A];exact DQ hn.2
theorem IU {α:Type}{j:Int}:∀{kv:List (Int×α)},(mM j kv).Sublist kv
 | []=>List.Sublist.refl _
 |(k,u)::r=>by
  unfold mM;split
  ·exact List.sublist_cons_self ..
  ·exact IU.cons_cons _
def OC (ok:Bool)(z:Value):Option Value→Value
 |some v=>bif ok then .tuple #[v,.bool true]else v
 |none=>bif ok then .tuple #[z,.bool false]else z
theorem IK {h:af}{b:Nat}{kv:List (Int×Value)}(H:qX h b kv)(z:Value)(ok:Bool)(j:Int):FE (.int .i64) z ok h (.map (some b)) (.int .i64 j)=some (OC ok z (em j kv)):=by
 obtain⟨A,c,G,_,D⟩:=H;have F:Oz h (.map (some b))=some (A,c):=by unfold Oz;simp[G]
 unfold FE;simp only[F,DW j A.toList kv 0 D];rw[←EO j kv 0];cases y4 j kv 0 with
 |none=>rfl
 |some p=>rfl
theorem MY {h:af}{b:Nat}{kv:List (Int×Value)}(H:qX h b kv):Lq h (.map (some b))=some (.int .i64 (kv.length:Nat)):=by
 obtain⟨F,c,D,_,A⟩:=H;unfold Lq;simp only[D];rw[←A.length,Array.length_toList]
theorem IR {α:Type}{j:Int}{v:α}:∀{kv:List (Int×α)},em j kv=none→OH j v kv=kv++[(j,v)]
 | [],_=>rfl
 | (k,u)::r,h=>by
  unfold em at h;split at h
  ·cases h
  ·rename_i A;simp[OH,A,IR h]
theorem Lu {α:Type}{j:Int}:∀{kv:List (Int×α)},em j kv=none→mM j kv=kv
 | [],_=>rfl
 | (k,u)::r,h=>by
  unfold em at h;split at h
  ·cases h
  ·rename_i A;simp[mM,A,Lu h]
theorem VQ {h:af}{b:Nat}{kv:List (Int×Value)}{j:Int}{v:Value}{K:Value→af→Prop}(H:qX h b kv)(HK:∀h',qX h' b (OH j v kv)→Upd b h h'→K undef h'):
  qQ (.int .i64) (.map (some b)) (.int .i64 j) v h K:=by
 obtain⟨W,c,hb,hs,F⟩:=H;unfold qQ;simp only[hb,DW j W.toList kv 0 F];cases hf:y4 j kv 0 with
 | none=>
  have hg:=IT hf;simp only;refine HK _ ⟨_,_,kB hb,stamped_push hs λx U aa=>?_,?_⟩ Upd.set
  ·have h1:j∈kv.map Prod.fst:=by
    have:(x.key,x.val)∈kv.map λp=>(Value.int .i64 p.1,p.2):=by rw[←F];exact List.mem_map.2 ⟨x,U,rfl⟩
    obtain⟨p,hp,I⟩:=List.mem_map.1 this;rw[aa]at I;have G:=congrArg Prod.fst I;simp at G;exact List.mem_map.2 ⟨p,hp,G⟩
   exact nJ.1 hg h1
  ·unfold Cg at F ⊢;rw[IR hg,Array.toList_push,List.map_append,F,List.map_append];rfl
 | some p=>
  obtain⟨i,u⟩:=p;obtain⟨_,G,h3,_⟩:=B9 hf;rw[Nat.sub_zero]at G h3;have hi:i<kv.length:=(List.getElem?_eq_some_iff.1 G).1;have A:i<W.size:=by rw[←Array.length_toList,F.length];exact hi
  have D:W[i].key=.int .i64 j:=by
   have h4:=congrArg (λl=>(l[i]?).map Prod.fst) F;simp only[List.getElem?_map,G,Option.map_some,Array.getElem?_toList,Array.getElem?_eq_getElem A]at h4;exact Option.some.inj h4
  simp only;refine⟨?_,HK _ ⟨_,_,kB hb,stamped_modify hs i _ (λe _=>rfl) (λe _ U=>?_),?_⟩ Upd.set⟩
  ·rw[Array.getElem?_eq_getElem A];simp only[Option.map_some,Option.getD_some,D];simp[Instr.sameBits]
  ·rw[Array.getElem?_eq_getElem A]at U;cases U;exact D.symm
  ·rw[h3];unfold Cg at F ⊢;apply List.ext_getElem?;intro m;have L:=congrArg (λl=>l[m]?) F;simp only[List.getElem?_map,Array.getElem?_toList]at L ⊢;rw[Array.getElem?_modify,List.getElem?_set];by_cases hm:i=m
   ·subst hm;rw[if_pos rfl,if_pos rfl,if_pos hi,Array.getElem?_eq_getElem A];rfl
   ·rw[if_neg hm,if_neg hm];exact L
theorem ED {α β:Type}(f:α→β):∀(l:List α) (i:Nat),(l.eraseIdx i).map f=(l.map f).eraseIdx i
 | [],_=>rfl
 |a::l,0=>rfl
 |a::l,i+1=>by simp[ED f l i]
theorem Cg.key {D:List MapEntry}{kv:List (Int×Value)}(H:Cg D kv){e:MapEntry}(I:e∈D):∃j,e.key=.int .i64 j∧(j,e.val)∈kv:=by
 have:(e.key,e.val)∈kv.map λp=>(Value.int .i64 p.1,p.2):=by rw[←H];exact List.mem_map.2 ⟨e,I,rfl⟩
 obtain⟨p,G,A⟩:=List.mem_map.1 this;have h1:=congrArg Prod.fst A;have F:=congrArg Prod.snd A;simp only at h1 F;exact⟨p.1,h1.symm,by rw[←F];exact G⟩
theorem UG {h:af}{b:Nat}{kv:List (Int×Value)}{j:Int}{K:Value→af→Prop}(H:qX h b kv)
  (HK:∀h',qX h' b (mM j kv)→Upd b h h'→(∀D c,h[b]? =some (.map D c)→∃A,h'[b]? =some (.map A c)∧∀e∈A,e∈D∧e.key≠ .int .i64 j)→K (.tuple #[]) h'):
  lW (.int .i64) (.map (some b)) (.int .i64 j) h K:=by
 have H0:=H;have ab:=H.nodup;obtain⟨D,c,G,hs,I⟩:=H;have sub:∃h',qX h' b (mM j kv)∧Upd b h h'∧(∃A,h'[b]? =some (.map A c)∧(∀e∈A,e∈D)∧Cg A.toList (mM j kv))∧∀K:Value→af→Prop,K (.tuple #[]) h'→lW (.int .i64) (.map (some b)) (.int .i64 j) h K:=by
  cases hf:y4 j kv 0 with
  |none=>
   have L:Cg D.toList (mM j kv):=by rw[Lu (IT hf)];exact I
   refine⟨_,⟨D,c,kB G,hs,L⟩,Upd.set,⟨D,kB G,λe h=>h,L⟩,λK W=>?_⟩;unfold lW;simp only[G,DW j D.toList kv 0 I,hf];exact W
  | some p=>
   obtain⟨i,u⟩:=p;obtain⟨_,h2,_,h4⟩:=B9 hf;rw[Nat.sub_zero]at h2 h4;have hi:i<kv.length:=(List.getElem?_eq_some_iff.1 h2).1;have F:i<D.size:=by rw[←Array.length_toList,I.length];exact hi
   have L:Cg (D.eraseIdxIfInBounds i).toList (mM j kv):=by
    rw[h4];unfold Cg at I ⊢;rw[Array.eraseIdxIfInBounds,dif_pos F];have:(D.eraseIdx i F).toList=D.toList.eraseIdx i:=by simp
    rw[this,ED,I,←ED]
   refine⟨_,⟨_,_,kB G,stamped_erase hs i,L⟩,Upd.set,⟨_,kB G,λe h=>?_,L⟩,λK W=>?_⟩
   ·rw[Array.eraseIdxIfInBounds,dif_pos F,←Array.mem_toList_iff,Array.toList_eraseIdx]at h;rw[←Array.mem_toList_iff];exact(List.eraseIdx_sublist ..).subset h
   ·unfold lW;simp only[G,DW j D.toList kv 0 I,hf];exact W
 obtain⟨h',m',u',⟨A,ad,aa,al⟩,W⟩:=sub;refine W K (HK h' m' u' λan c0 h0=>?_);rw[G]at h0;cases h0;refine⟨A,ad,λe h=>⟨aa e h,λU=>?_⟩⟩;obtain⟨i,hi,hm⟩:=al.key (Array.mem_toList_iff.2 h);rw[U]at hi;cases hi;have h1:=FH m'.nodup hm;rw[DQ ab,if_pos rfl]at h1;cases h1
theorem VW {h:af}{K:Value→af→Prop}(A:∀b h',qX h' b []→Ext h h'→h.size≤b→K (.map (some b)) h'):Rw h K:=
 A h.size _ ⟨#[],0,pu,stamped_empty 0,rfl⟩ (Ext.push h _) (Nat.le_refl _)
end
end Go.Crisp
namespace Go.Proofs.YtjljhnandbbldaaGreatDoor
open Go Go.Crisp
open _root_.Go.Proofs.Tryz
def Dm:Go.Shelf.Ren:=⟨λn=>match n with|8=>290|11=>305|n=>n,λn=>match n with|0=>0|24=>28|26=>2|28=>368|33=>332|n=>n,λn=>n⟩
theorem KW:Go.Proofs.SlLaysZI.n8 prog Dm where
 mixed:=by kernel_rfl
 f8:=⟨"slices.Collect[int64]",by kernel_rfl,by kernel_rfl⟩
 f11:=⟨"slices.AppendSeq[[]int64,int64]",by kernel_rfl,by kernel_rfl⟩
 t0:=by kernel_rfl
 a0:=λw=>bR (by kernel_rfl)
 z0:=λw=>aX (by kernel_rfl)
 v0:=λw=>aS (by kernel_rfl)
 t24:=by kernel_rfl
 a24:=λw=>bR (by kernel_rfl)
 z24:=λw=>aX (by kernel_rfl)
 v24:=λw=>aS (by kernel_rfl)
 t26:=by kernel_rfl
 a26:=λw=>bR (by kernel_rfl)
 z26:=λw=>aX (by kernel_rfl)
 v26:=λw=>aS (by kernel_rfl)
 t28:=by kernel_rfl
 a28:=λw=>bR (by kernel_rfl)
 z28:=λw=>aX (by kernel_rfl)
 v28:=λw=>aS (by kernel_rfl)
 i26:=by kernel_rfl
def yF:Go.Shelf.Ren:=⟨λn=>match n with|10=>306|n=>n,λn=>match n with|0=>0|3=>28|4=>4|23=>284|26=>2|33=>332|n=>n,λn=>n⟩
theorem IQ:Go.Proofs.SlLaysZI.n10 prog yF where
 mixed:=by kernel_rfl
 f10:=⟨"maps.Keys[map[int64][]int64,int64,[]int64]$1",by kernel_rfl,by kernel_rfl⟩
 t0:=by kernel_rfl
 a0:=λw=>bR (by kernel_rfl)
 z0:=λw=>aX (by kernel_rfl)
 v0:=λw=>aS (by kernel_rfl)
 t4:=by kernel_rfl
 a4:=λw=>bR (by kernel_rfl)
 z4:=λw=>aX (by kernel_rfl)
 v4:=λw=>aS (by kernel_rfl)
 t23:=by kernel_rfl
 a23:=λw=>bR (by kernel_rfl)
 z23:=λw=>aX (by kernel_rfl)
 v23:=λw=>aS (by kernel_rfl)
 t26:=by kernel_rfl
 a26:=λw=>bR (by kernel_rfl)
 z26:=λw=>aX (by kernel_rfl)
 v26:=λw=>aS (by kernel_rfl)
 t33:=by kernel_rfl
 a33:=λw=>bR (by kernel_rfl)
 z33:=λw=>aX (by kernel_rfl)
 v33:=λw=>aS (by kernel_rfl)
def vi (x:Int):Value:=.int .i64 x
def jP (h:af)(v:Value)(l:List Int):Prop:=
 ∃a cap,v=.slice a l.length cap∧(l=[]∨∃b o,a=some ⟨b,o,none⟩∧∀i (hi:i<l.length),aB h ⟨b,o+i,none⟩=some (vi l[i]))
theorem jP.ext {h h':af}{v:Value}{l:List Int}(H:jP h v l)(e:Ext h h'):jP h' v l:=by
 obtain⟨a,cap,rfl,A⟩:=H;refine⟨a,cap,rfl,A.imp id ?_⟩;rintro⟨b,o,rfl,hc⟩;exact⟨b,o,rfl,λi hi=>e.cell (hc i hi)⟩
def Fb (a b:List Int):Bool:=decide (a.length=b.length)&&(a.zip b).all λp=>decide (p.1≤p.2)
theorem JR {a b:List Int}(h:a.length=b.length):Fb a b=true↔ ∀i (hi:i<a.length),a[i]≤b[i]'(h▸hi):=by
 simp only[Fb,h,decide_true,Bool.true_and,List.all_eq_true,decide_eq_true_eq];constructor
 ·intro H i hi;have:=H (a[i],b[i]'(h▸hi)) (by rw[List.mem_iff_getElem];exact⟨i,by simp;omega,by simp⟩);exact this
 ·intro H p A;obtain⟨i,hi,rfl⟩:=List.mem_iff_getElem.1 A;simp only[List.length_zip]at hi;simpa using H i (by omega)
theorem WU {h:af}{a b:Value}{D lb:List Int}(ha:jP h a D)(hb:jP h b lb)(hn:D.length≤9223372036854775807):
  ae prog uR #[a,b] h λv h'=>v=.bool (Fb D lb)∧h'=h:=by
 apply Iu;unfold yx;obtain⟨A,ca,rfl,U⟩:=ha;obtain⟨B,cb,rfl,W⟩:=hb;simp only[EM,ah,vH];refine iH (λaa=>?_) (λhe=>?_)
 ·refine⟨?_,trivial⟩;have:¬D.length=lb.length:=by simp at aa;omega
  simp[Fb,this]
 ·have hl:D.length=lb.length:=by simp at he;omega
  refine cO (λd xs h'=>h'=h∧∃k:Nat,k+d=D.length∧xs=[.int .i64 k]∧∀i (hi:i<k) (h1:i<D.length),D[i]≤lb[i]'(hl▸h1)) D.length ⟨rfl,0,by omega,rfl,λi hi=>by omega⟩ ?_;rintro d _ ρj _ again ⟨rfl,k,hk,rfl,G⟩ L;simp only[gb,bU,ah];refine aj (λal=>?_) (λan=>?_)
  ·have F:k<D.length:=by omega
   have H:k<lb.length:=by omega
   rcases U with rfl|⟨b1,o1,rfl,U⟩
   ·simp at F
   rcases W with rfl|⟨b2,o2,rfl,W⟩
   ·simp at H
   simp only[pK F,pK H,ah,qR,Nat.mul_one,U k F,W k H,vi,l8];refine aj (λad=>?_) (λab=>?_)
   ·refine⟨?_,trivial⟩
    congr 1
    rw[eq_comm,Bool.eq_false_iff];intro I;have:=(JR hl).1 I k F;omega
   ·simp only[cN,ah];rw[w64 (by omega) (by omega)];refine L _ _ (d-1) (by omega) ⟨rfl,k+1,by omega,rfl,λi hi h1=>?_⟩;rcases Nat.lt_succ_iff_lt_or_eq.1 hi with hi|rfl
    ·exact G i hi h1
    ·omega
  ·refine⟨?_,trivial⟩
   congr 1
   rw[eq_comm,JR hl];intro i hi;exact G i (by omega) hi
theorem RJ {a b:List Int}(h:a.length=b.length):a=b↔ ∀i (hi:i<a.length),a[i]=b[i]'(h▸hi):=
 ⟨λe i hi=>by subst e;rfl,λH=>List.ext_getElem h λi h1 A=>H i h1⟩
theorem SX {h:af}{a b:Value}{D lb:List Int}(ha:jP h a D)(hb:jP h b lb)(hn:D.length≤9223372036854775807):
  ae prog eJ #[a,b] h λv h'=>v=.bool (decide (D=lb))∧h'=h:=by
 apply mK;unfold gM;obtain⟨A,ca,rfl,hA⟩:=ha;obtain⟨B,cb,rfl,hB⟩:=hb;simp only[EM,ah,vH];refine iH (λaa=>?_) (λhe=>?_)
 ·refine⟨?_,trivial⟩;have:¬D=lb:=λe=>by subst e;simp at aa
  simp[this]
 ·have hl:D.length=lb.length:=by simp at he;omega
  refine cO (λd xs h'=>h'=h∧∃k:Nat,k+d=D.length∧xs=[.int .i64 k]∧∀i (hi:i<k) (h1:i<D.length),D[i]=lb[i]'(hl▸h1)) D.length ⟨rfl,0,by omega,rfl,λi hi=>by omega⟩ ?_;rintro d _ ρj _ again ⟨rfl,k,hk,rfl,G⟩ U;simp only[gb,bU,ah];refine aj (λab=>?_) (λad=>?_)
  ·have F:k<D.length:=by omega
   have H:k<lb.length:=by omega
   rcases hA with rfl|⟨b1,o1,rfl,hA⟩
   ·simp at F
   rcases hB with rfl|⟨b2,o2,rfl,hB⟩
   ·simp at H
   simp only[pK F,pK H,ah,qR,Nat.mul_one,hA k F,hB k H,vi,vH];refine iH (λW=>?_) (λL=>?_)
   ·refine⟨?_,trivial⟩
    congr 1
    rw[eq_comm,decide_eq_false_iff_not];intro I;have:=(RJ hl).1 I k F;simp[this]at W
   ·simp only[cN,ah];rw[w64 (by omega) (by omega)];refine U _ _ (d-1) (by omega) ⟨rfl,k+1,by omega,rfl,λi hi h1=>?_⟩;rcases Nat.lt_succ_iff_lt_or_eq.1 hi with hi|rfl
    ·exact G i hi h1
    ·simpa using L
  ·refine⟨?_,trivial⟩
   congr 1
   rw[eq_comm,decide_eq_true_eq,RJ hl];intro i hi;exact G i (by omega) hi
theorem Xb {h:af}{a b:Value}{A lb:List Int}(D:jP h a A)(G:jP h b lb)(F:A.length≤9223372036854775807):
  ae prog uS #[a,b] h λv h'=>v=.bool (decide (A=lb))∧h'=h:=by
 apply Iw;unfold yz;refine(SX D G F).mono ?_;rintro _ _ ⟨rfl,rfl⟩;exact⟨rfl,rfl⟩
def Fe (a b:List Int):Bool:=Fb a b&& !decide (a=b)
theorem RX {h:af}{a b:Value}{D lb:List Int}(F:jP h a D)(H:jP h b lb)(G:D.length≤9223372036854775807):
  ae prog oL #[a,b] h λv h'=>v=.bool (Fe D lb)∧h'=h:=by
 apply Ix;unfold yA;refine(WU F H G).mono ?_;rintro _ _ ⟨rfl,rfl⟩;cases A:Fb D lb with
 |false=>simp only[go_sem];exact⟨by simp[Fe,A],trivial⟩
 |true=>
  simp only[go_sem];refine(Xb F H G).mono ?_;rintro _ _ ⟨rfl,rfl⟩;simp only[go_sem];exact⟨by simp[Fe,A],trivial⟩
end Go.Proofs.YtjljhnandbbldaaGreatDoor
namespace Go.Proofs.YtjljhnandbbldaaGreatDoor
open Go Go.Crisp
attribute [local irreducible] ae cE aP stK aA vK qK bC gK dK aU mkK cF Ch
open _root_.Go.Proofs.Tryz
def iT (h:af)(v:Value)(l:List Int):Prop:=Own 1 h v l.length (l.map vi)
theorem jP.sl {h:af}{v:Value}{l:List Int}(H:jP h v l):SlC 1 h v l.length (l.map vi):=by
 obtain⟨a,cap,rfl,H⟩:=H;refine⟨by simp,a,cap,rfl,?_⟩;rcases H with rfl|⟨b,o,rfl,H⟩
 ·exact .inl rfl
 ·exact .inr ⟨b,o,rfl,λj A=>by rw[List.getElem_map];exact H j (by simpa using A)⟩
theorem RB {h:af}{v:Value}{l:List Int}(H:SlC 1 h v l.length (l.map vi)):jP h v l:=by
 obtain⟨_,a,cap,rfl,H⟩:=H;refine⟨a,cap,rfl,?_⟩;rcases H with H|⟨b,o,rfl,H⟩
 ·exact .inl (by simpa using H)
 ·refine .inr ⟨b,o,rfl,λj A=>?_⟩;have:=H j (by simpa using A);rw[List.getElem_map]at this;exact this
theorem iT.ints {h:af}{v:Value}{l:List Int}(H:iT h v l):jP h v l:=RB (Own.sl H)
theorem PI {l:List Int}:∀v∈l.map vi,aJ v=true:=by
 intro v A;obtain⟨x,_,rfl⟩:=List.mem_map.1 A;rfl
def Lv (a b:List Int):List Int:=(List.range (max a.length b.length)).map λi=>max (a.getD i 0) (b.getD i 0)
theorem wz (a b:List Int):(Lv a b).length=max a.length b.length:=by simp[Lv]
theorem Lb (n:Nat)(f:Nat→Int)(i:Nat)(x:Int):(((List.range n).map f).map vi).set i (vi x)=((List.range n).map λk=>if k=i then x else f k).map vi:=by
 apply List.ext_getElem
 ·simp
 ·intro k h1 A;rw[List.getElem_set];simp only[List.getElem_map,List.getElem_range, @eq_comm _ k i];split<;>rfl
theorem Gz {l:List Int}{k:Nat}(h:k<l.length):l.getD k 0=l[k]:=by simp[List.getD,h]
theorem Je {l:List Int}{k:Nat}(h:l.length≤k):l.getD k 0=0:=by simp[List.getD,List.getElem?_eq_none h]
theorem Yr {h:af}{v u:Value}{a b:List Int}(ha:jP h v a)(hb:jP h u b)(la:a.length≤4398046511104)(lb:b.length≤4398046511104):
  ae prog w7 #[v,u] h λr h'=>iT h' r (Lv a b)∧Ext h h'∧∀k,blk r k→h.size≤k:=by
 apply KP;unfold Bd;obtain⟨aa,ac,rfl,_⟩:=ha;obtain⟨ba,bc,rfl,_⟩:=hb;have ar:jP h (.slice aa a.length ac) a:=⟨_,_,rfl,by assumption⟩
 have ad:jP h (.slice ba b.length bc) b:=⟨_,_,rfl,by assumption⟩
 simp only[go_sem];rw[show max (a.length:Int) (b.length:Int)=((max a.length b.length:Nat):Int)by omega];generalize hn:max a.length b.length=n;refine lU rfl (by omega) (by omega) λs h1 o1 e1 n1=>?_
 refine D0 o1 (ar.ext e1).sl PI λD o2 f2 _=>?_
 have e2:Ext h D:=e1.then_fr f2 n1;have an:Own 1 D s n (((List.range n).map λk=>a.getD k 0).map vi):=by
  have:(a.map vi).take n++(List.replicate n (Value.int .i64 0)).drop a.length=((List.range n).map λk=>a.getD k 0).map vi:=by
   apply List.ext_getElem
   ·simp;omega
   ·intro k h1 D;simp only[List.getElem_map,List.getElem_range,List.getElem_append,List.getElem_take,List.getElem_drop,List.getElem_replicate];split
    ·rename_i A;rw[List.length_take,List.length_map]at A;rw[Gz (show k<a.length by omega)]
    ·rename_i A;rw[List.length_take,List.length_map]at A;simp at D;rw[Je (show a.length≤k by omega)];rfl
  rw[←this];exact o2
 refine B5 b.length (λk h'=>k≤b.length∧Own 1 h' s n (((List.range n).map λj=>if j<k then max (a.getD j 0) (b.getD j 0)else a.getD j 0).map vi)∧Ext h h') ⟨Nat.zero_le _,by simpa using an,e2⟩ ?_;rintro k h3 again ρj ⟨au,o3,U⟩ H;simp only[go_sem];refine aj (λA=>?_) (λA=>?_)
 ·have A:k<b.length:=by omega
  obtain⟨p,hp,hq⟩:=(ad.ext U).sl.at1 (k:=.i64) A;rw[List.getElem_map]at hq;obtain⟨p',F,I,L⟩:=o3.at1 (k:=.i64) (i:=k) (by omega);have G:∀x:Int,x=max (a.getD k 0) (b.getD k 0)→stK 1 p' (.int .i64 x) h3 λaw al=>again [.int .i64 (IntKind.i64.wrap ((k:Int)+1))] al:=by
   intro x hx;refine L _ _ rfl λh4 W f4 _=>?_
   rw[w64 (by omega) (by omega)];refine H h4 A ⟨A,?_,U.then_fr f4 n1⟩;rw[show(Value.int .i64 x)=vi x from rfl,Lb]at W;refine(congrArg (λl:List Int=>Own 1 h4 s n (l.map vi)) ?_).mp W;apply List.map_congr_left;intro j _;subst hx;by_cases h1:j=k
   ·subst h1;simp
   ·simp only[h1,if_false];by_cases D:j<k
    ·simp[D,Nat.lt_succ_of_lt D]
    ·simp[D,show¬j<k+1 by omega]
  simp only[go_sem,hp,hq,vi];refine aj (λay=>?_) (λax=>?_)
  ·simp only[go_sem,F];refine G _ ?_;rw[Je (show a.length≤k by omega),Gz A]
  ·simp only[go_sem,F,I];rw[List.getElem_map,List.getElem_map,List.getElem_range,if_neg (Nat.lt_irrefl k)];simp only[vi,go_sem];exact G _ (by rw[Gz A])
 ·obtain rfl:k=b.length:=by omega
  refine Lm a.length b.length (λk h'=>Own 1 h' s n (((List.range n).map λj=>if j<k then max (a.getD j 0) (b.getD j 0)else a.getD j 0).map vi)∧Ext h h') ⟨o3,U⟩ ?_;rintro k h3 again ρj ab ⟨o3,U⟩ H;simp only[go_sem];refine aj (λA=>?_) (λA=>?_)
  ·have A:k<a.length:=by omega
   obtain⟨p',F,I,L⟩:=o3.at1 (k:=.i64) (i:=k) (by omega);simp only[go_sem,F,I];rw[List.getElem_map,List.getElem_map,List.getElem_range,if_neg (Nat.lt_irrefl k)];simp only[vi,go_sem];refine L _ _ rfl λh4 W f4 _=>?_
   rw[w64 (by omega) (by omega)];refine H h4 A ⟨?_,U.then_fr f4 n1⟩;rw[show(Value.int .i64 (max 0 (a.getD k 0)))=vi (max 0 (a.getD k 0))from rfl,Lb]at W;refine(congrArg (λl:List Int=>Own 1 h4 s n (l.map vi)) ?_).mp W;apply List.map_congr_left;intro j _;by_cases h1:j=k
   ·subst h1;rw[if_pos rfl,if_pos (Nat.lt_succ_self j),Je ab,Int.max_comm]
   ·simp only[h1,if_false];by_cases D:j<k
    ·simp[D,Nat.lt_succ_of_lt D]
    ·simp[D,show¬j<k+1 by omega]
  ·refine⟨?_,U,n1⟩;unfold iT;rw[wz,hn];refine(congrArg (λl:List Int=>Own 1 h3 s n (l.map vi)) ?_).mp o3;unfold Lv;rw[hn];apply List.map_congr_left;intro j hj;rw[if_pos (by have:=List.mem_range.1 hj;omega)]
end Go.Proofs.YtjljhnandbbldaaGreatDoor
namespace Go.Proofs.YtjljhnandbbldaaGreatDoor
open Go Go.Crisp Go.MapKept Go.RowKit
attribute [local irreducible] cE aP stK aA vK qK bC gK dK aU mkK cF Ch
open _root_.Go.Proofs.Tryz
theorem Qb {w:World}{D:Nat}{e:TypeId}{v:Value}{A:List Int}(H:w.ownsRow D e 1 v A.length (A.map encZ)):iT w.heap v A∧∀b,blk v b→D≤b:=by
 obtain⟨_,H⟩:=H;rcases H with⟨rfl,I⟩|⟨g,cap,cur,rfl,G,L,hc,_,U,F⟩
 ·have:A=[]:=List.eq_nil_of_length_eq_zero I;subst this;exact⟨.inl ⟨rfl,rfl,rfl⟩,λb G=>G.elim⟩
 ·refine⟨.inr ⟨g,cap,cur.toList.drop A.length,e,rfl,hc,by simp,?_,?_⟩,λb h=>by rw[show b=g from h];exact G⟩
  ·rw[Nat.mul_one]at F;rw[show A.map vi=A.map encZ from rfl,←F,List.take_append_drop,Array.length_toList];exact U
  ·rw[Nat.mul_one]at F;rw[show A.map vi=A.map encZ from rfl,←F,List.take_append_drop,Array.toArray_toList];exact L
theorem Ts {w w':World}(H:Below w.heap.size w w'):cV w w'∧Ext w.heap w'.heap:=⟨⟨H.os,H.tape,H.output⟩,H.size,λb A=>H.block b A⟩
def noR:Value→Option (DataW Unit×List MemPlace):=λ_=>some (.nil,[])
theorem FI (x:Lit×DataW Unit):∀l:List (Lit×DataW Unit),(DataW.insert x l).Perm (x::l)
 | []=>List.Perm.refl _
 |y::r=>by
  unfold DataW.insert;split
  ·exact List.Perm.refl _
  ·exact((FI x r).cons y).trans (List.Perm.swap x y r)
theorem Ce:∀l:List (Lit×DataW Unit),(l.foldr DataW.insert []).Perm l
 | []=>List.Perm.refl _
 |x::l=>by
  rw[List.foldr_cons];exact(FI x _).trans ((Ce l).cons x)
theorem T6 {P:Program}{k:TypeId}{w:World}{b:Nat}{kv:List (Int×Value)}(hk:P.underlying k=some (.int .i64))(H:qX w.heap b kv)(hw:∀p∈kv,(Lit.int .i64 p.1).wf=true)(hl:kv.length≤maxLen):
  ∃D:DataW Unit,w.ownsMap P k noR b kv.length D∧(intKeys D).Perm (kv.map Prod.fst)∧Go.Maps.size D=kv.length:=by
 obtain⟨U,c,hb,hs,he⟩:=H;have F:=he.length;have I:∀x∈U.toList,∃j,x.key=.int .i64 j∧(Lit.int .i64 j).wf=true:=λx G=>by
  have:(x.key,x.val)∈kv.map λp=>(Value.int .i64 p.1,p.2):=by rw[←he];exact List.mem_map.2 ⟨x,G,rfl⟩
  obtain⟨p,hp,aa⟩:=List.mem_map.1 this;exact⟨p.1,(congrArg Prod.fst aa).symm,hw p hp⟩
 have W:∀x∈U.toList,∀j,x.key=.int .i64 j→(Lit.int .i64 j).wf=true→WideElems.rd P k noR x=some (.int .i64 j,.nil):=λx G j L A=>by
  unfold WideElems.rd;rw[L];simp[keyOf,hk,mapKey,A,noR]
 refine⟨.map ((U.toList.map (WideElems.rg P k noR)).foldr DataW.insert []),⟨U,c,hb,⟨by rw[←Array.length_toList,F];exact hl,hs,λx G=>?_⟩,by rw[←Array.length_toList,F];exact Nat.le_refl _,rfl⟩,?_,?_⟩
 ·obtain⟨j,L,A⟩:=I x G;exact⟨_,W x G j L A⟩
 ·have h1:(U.toList.map (WideElems.rg P k noR)).map (λp=>_root_.Go.intOf p.1)=kv.map Prod.fst:=by
   have h2:kv.map Prod.fst=(kv.map λp=>(Value.int .i64 p.1,p.2)).map λq=>match q.1 with| .int _ n=>n|_=>0:=by simp[List.map_map,Function.comp_def]
   rw[h2,←he,List.map_map,List.map_map];refine List.map_congr_left λx G=>?_
   obtain⟨j,L,A⟩:=I x G;simp only[Function.comp_def];rw[WideElems.rg_of (W x G j L A),L];rfl
  rw[←h1];exact(Ce _).map _
 ·show(List.foldr DataW.insert [] _).length=_;rw[(Ce _).length_eq,List.length_map,F]
theorem QM {P:Program}{f:FuncId}{args:Array Value}{w:World}{n:Nat}{R A:Ending→World→Prop}(H:CallsIn Fence.wide n P f args w R)(D:∀e w',R e w'→A e w'):Calls P f args w A:=(callsIn_wide.1 H).mono D
theorem Ps {h:af}{A b:Nat}{t:TypeId}{kv:List (Int×Value)}(r1:h[A]? =some (.cells #[.map (some b)] t (0,0)))(I:qX h b kv)(hw:∀p∈kv,(Lit.int .i64 p.1).wf=true)(hl:kv.length≤1000000):
  ae prog mm #[.func (.func cW) #[] #[.pointer (some ⟨A,0,none⟩)]] h λr h'=>∃ss:List Int,ss.Perm (kv.map Prod.fst)∧iT h' r ss∧Ext h h'∧∀k,blk r k→h.size≤k:=by
 refine ae.ofCalls (by kernel_rfl) λw hh=>?_
 subst hh;obtain⟨D,L,H,G⟩:=T6 (P:=prog) (k:=(yF).t 26) IQ.t26 I hw (by unfold maxLen;omega);have seq:=AnyZI.keys_gives IQ Fence.wide 3 trivial rfl (by omega) A b kv.length D w (aW r1) (show aB w.heap ⟨A,0,none⟩=_ from by rw[ai r1];rfl) L;have:=AnyZI.collect_in KW Fence.wide 5 trivial trivial rfl (by omega) _ #[.pointer (some ⟨A,0,none⟩)] trivial (λargs w=>vY (by kernel_rfl)) _ _ (by rw[G];unfold maxLen;omega) (by rw[G];omega) w seq;refine QM this ?_;rintro e w' ⟨v,ss,rfl,W,F,_,U⟩;obtain⟨o,n⟩:=Qb F;obtain⟨s,e⟩:=Ts U;exact⟨v,rfl,s,ss,W.trans H,o,e,n⟩
end Go.Proofs.YtjljhnandbbldaaGreatDoor
namespace Go.Proofs.YtjljhnandbbldaaGreatDoor
open Go Go.Crisp
attribute [local irreducible] ae cE aP stK aA vK qK bC gK dK aU mkK cF Ch
open _root_.Go.Proofs.Tryz
theorem Mp {h:af}:iT h (.slice none 0 0) []:=.inl ⟨rfl,rfl,rfl⟩
theorem DY (a:Addr)(n c n' c':Nat):ag .sl .eql (.slice (some a) n c) (.slice none n' c')=some (.bool false):=Eq.trans rfl rfl
theorem DZ (n c n' c':Nat):ag .sl .eql (.slice none n c) (.slice none n' c')=some (.bool true):=Eq.trans rfl rfl
theorem LI {e:TypeId}{h:af}{v:Value}{l:List Int}{K:Value→af→Prop}(I:jP h v l)(hl:l.length≤4398046511104)
  (H:∀r h',iT h' r l→Ext h h'→(∀b,blk r b→h.size≤b)→K r h'):cE #[] e 0 [] h λL A=>cF (.int .i64 0) e 1 8 L v A K:=by
 refine cz (c':=#[]) (by kernel_rfl) λb h1 r1 D F=>?_
 refine sI (n:=0) (cs:=[]) (.inr ⟨b,0,[],e,rfl,Nat.le_refl _,rfl,rfl,r1⟩) (I.ext D).sl PI rfl (by omega) (by omega) λW U o2 f2 n2=>?_
 rw[Nat.zero_add,List.nil_append]at o2;refine H W U o2 (D.then_fr f2 λi hi=>by rw[show i=b from hi];exact F) λk G=>?_
 rcases n2 k G with A|A
 ·rw[show k=b from A];exact F
 ·exact Nat.le_trans D.1 A
theorem RV {h:af}{v:Value}{l:List Int}(A:jP h v l)(F:l.length≤4398046511104):
  ae prog c5 #[v] h λr h'=>iT h' r l∧Ext h h'∧∀b,blk r b→h.size≤b:=by
 apply mL;unfold gN;have D:=A;obtain⟨a,cap,rfl,A⟩:=A;cases a with
 |none=>
  simp only[DZ,go_sem];rcases A with rfl|⟨b,o,h1,_⟩
  ·exact⟨Mp,Ext.refl h,λb G=>G.elim⟩
  ·cases h1
 |some a=>
  simp only[DY,go_sem];exact LI D F λr h' o e n=>⟨o,e,n⟩
structure jU (M:Nat→Prop)(h:af)(bc:Nat)(sl:Value)(sv:Nat→Value)(t:TypeId)(n:Nat)(rows:Nat→List Int):Prop where
 var:h[bc]? =some (.cells #[sl] t (0,0))
 arr:Own 1 h sl n ((List.range n).map sv)
 row:∀i,i<n→iT h (sv i) (rows i)
 len:∀i,i<n→(rows i).length=n
 pos:1≤n∧n≤512
 inM:M bc∧(∀b,blk sl b→M b)∧∀i,i<n→∀b,blk (sv i) b→M b
 ap1:¬blk sl bc
 ap2:∀i,i<n→∀b,blk (sv i) b→b≠bc∧¬blk sl b
 ap3:∀i j,i<n→j<n→i≠j→∀b,blk (sv i) b→¬blk (sv j) b
 lt:∀b,M b→b<h.size
def dX (M:Nat→Prop)(h:af)(v:Value)(n:Nat)(rows:Nat→List Int):Prop:=
 ∃bc sl sv t,v=.pointer (some ⟨bc,0,none⟩)∧jU M h bc sl sv t n rows
theorem jU.fr {M Q:Nat→Prop}{h h':af}{D:Nat}{sl:Value}{sv:Nat→Value}{t:TypeId}{n:Nat}{rows:Nat→List Int}(C:jU M h D sl sv t n rows)(f:Fr Q h h')(hq:∀b,b<h.size→M b→¬Q b):jU M h' D sl sv t n rows:=
 {C with
  var:=f.row C.var (hq D (C.lt _ C.inM.1) C.inM.1)
  arr:=C.arr.fr f λb A=>hq b (C.lt _ (C.inM.2.1 b A)) (C.inM.2.1 b A)
  row:=λi hi=>(C.row i hi).fr f λb A=>hq b (C.lt _ (C.inM.2.2 i hi b A)) (C.inM.2.2 i hi b A)
  lt:=λb A=>Nat.lt_of_lt_of_le (C.lt b A) f.1}
theorem jU.ext {M:Nat→Prop}{h h':af}{A:Nat}{sl:Value}{sv:Nat→Value}{t:TypeId}{n:Nat}{rows:Nat→List Int}(C:jU M h A sl sv t n rows)(e:Ext h h'):jU M h' A sl sv t n rows:=C.fr (Q:=λ_=>False) e.fr λ_ _ _=>id
theorem dX.fr {M Q:Nat→Prop}{h h':af}{v:Value}{n:Nat}{rows:Nat→List Int}(H:dX M h v n rows)(f:Fr Q h h')(hq:∀b,b<h.size→M b→¬Q b):dX M h' v n rows:=by
 obtain⟨A,sl,sv,t,rfl,C⟩:=H;exact⟨A,sl,sv,t,rfl,C.fr f hq⟩
theorem dX.ext {M:Nat→Prop}{h h':af}{v:Value}{n:Nat}{rows:Nat→List Int}(H:dX M h v n rows)(e:Ext h h'):dX M h' v n rows:=H.fr (Q:=λ_=>False) e.fr λ_ _ _=>id
theorem Yh {M:Nat→Prop}{h:af}{v:Value}{n:Nat}{rows:Nat→List Int}(H:dX M h v n rows)(i:Int):
  ae prog ir #[v,.int .i64 i] h λr h'=>r=.bool (decide (0≤i∧i<n))∧h'=h:=by
 obtain⟨D,sl,sv,t,rfl,C⟩:=H;apply DF;unfold tP;have A:=C.arr.sl;obtain⟨_,a,cap,rfl,_⟩:=A;by_cases h0:0≤i
 ·simp only[go_sem,h0,ai C.var,true_and,and_true]
 ·simp only[go_sem,h0,false_and,and_true]
def Gq (n:Nat)(rows:Nat→List Int)(i:Int):List Int:=if 0≤i∧i<n then rows i.toNat else[]
theorem Xv {M:Nat→Prop}{h:af}{v:Value}{n:Nat}{rows:Nat→List Int}(H:dX M h v n rows)(i:Int):
  ae prog js #[v,.int .i64 i] h λr h'=>iT h' r (Gq n rows i)∧Ext h h'∧∀b,blk r b→h.size≤b:=by
 apply BW;unfold rX;refine(Yh H i).mono ?_;rintro _ h' ⟨rfl,rfl⟩;by_cases hi:0≤i∧i<n
 ·obtain⟨k,rfl⟩:=Int.eq_ofNat_of_zero_le hi.1;have A:k<n:=by omega
  obtain⟨G,sl,sv,t,rfl,C⟩:=H;obtain⟨p,D,hq⟩:=C.arr.sl.at1 (k:=.i64) A;rw[List.getElem_map,List.getElem_range]at hq;simp only[go_sem,hi,ai C.var,D,hq,and_self];rw[show Gq n rows (k:Int)=rows k by unfold Gq;rw[if_pos hi];rfl];refine(RV (C.row k A).ints (by rw[C.len k A];have:=C.pos;omega)).mono ?_;rintro r h1 H;exact H
 ·simp only[go_sem,hi];rw[show Gq n rows i=[]by unfold Gq;rw[if_neg hi]];exact⟨Mp,Ext.refl _,λb F=>F.elim⟩
theorem jU.put {M:Nat→Prop}{h h':af}{H:Nat}{sl:Value}{sv:Nat→Value}{t:TypeId}{n:Nat}{rows:Nat→List Int}(C:jU M h H sl sv t n rows){k:Nat}(F:k<n){l:List Int}
  (o:iT h' (sv k) l) (I:l.length=n) (f:Fr (blk (sv k)) h h'):jU M h' H sl sv t n (λj=>if j=k then l else rows j):=
 { C with
  var:=f.row C.var λD=>(C.ap2 k F _ D).1 rfl
  arr:=C.arr.fr f λb D G=>(C.ap2 k F b G).2 D
  row:=λi hi=>by
   by_cases A:i=k
   ·subst A;simpa using o
   ·simp only[A,if_false];exact(C.row i hi).fr f λb D=>C.ap3 i k hi F A b D
  len:=λi hi=>by
   by_cases A:i=k
   ·subst A;simpa using I
   ·simp only[A,if_false];exact C.len i hi
  lt:=λb D=>Nat.lt_of_lt_of_le (C.lt b D) f.1}
def CE (n:Nat)(rows:Nat→List Int)(i:Int):Nat→List Int:=
 if 0≤i∧i<n then λj=>if j=i.toNat then(rows i.toNat).set i.toNat (IntKind.i64.wrap ((rows i.toNat).getD i.toNat 0+1))else rows j else rows
theorem QX {M:Nat→Prop}{h:af}{v:Value}{n:Nat}{rows:Nat→List Int}(H:dX M h v n rows)(i:Int):
  ae prog fW #[v,.int .i64 i] h λr h'=>iT h' r (Gq n rows i)∧dX M h' v n (CE n rows i)∧Fr M h h'∧∀b,blk r b→h.size≤b:=by
 apply Av;unfold qD;refine(Xv H i).mono ?_;rintro r h1 ⟨o1,G,W⟩;refine(Yh (H.ext G) i).mono ?_;rintro _ h2 ⟨rfl,rfl⟩;by_cases hi:0≤i∧i<n
 ·obtain⟨k,rfl⟩:=Int.eq_ofNat_of_zero_le hi.1;have A:k<n:=by omega
  obtain⟨bc,sl,sv,t,rfl,L⟩:=H;have C:=L.ext G;obtain⟨p,hp,hq⟩:=C.arr.sl.at1 (k:=.i64) A;rw[List.getElem_map,List.getElem_range]at hq;have D:k<(rows k).length:=by rw[C.len k A];exact A
  obtain⟨p',I,F,aa⟩:=Own.at1 (C.row k A) (k:=.i64) D;rw[List.getElem_map]at F;simp only[go_sem,hi,ai C.var,hp,hq,and_self,I,F,vi];refine aa _ _ rfl λh3 o3 f3 _=>?_
  have o4:iT h3 (sv k) ((rows k).set k (IntKind.i64.wrap ((rows k)[k]+1))):=by
   unfold iT;rw[List.length_set,List.map_set];exact o3
  have C':=C.put A o4 (by rw[List.length_set];exact C.len k A) f3;refine⟨o1.fr f3 λb hb U=>?_,⟨bc,sl,sv,t,rfl,?_⟩,?_,W⟩
  ·have h5:=W b hb;have:=L.lt b (L.inM.2.2 k A b U);omega
  ·unfold CE;rw[if_pos hi];simp only[Int.toNat_natCast];rw[Gz D];exact C'
  ·exact G.fr.trans (f3.mono λb _ hb=>C.inM.2.2 k A b hb)
 ·simp only[go_sem,hi];refine⟨o1,?_,G.fr,W⟩;unfold CE;rw[if_neg hi];exact H.ext G
theorem c_Min {h:af}{v:Value}{l:List Int}(hv:jP h v l)(h0:l≠[])(hl:l.length≤4398046511104):
  ae prog ft #[v] h λr h'=>(∃m,r=.int .i64 m∧(decide (m<0)=l.any λx=>decide (x<0)))∧h'=h:=by
 apply pC;unfold iz;have hp:0<l.length:=List.length_pos_iff.2 h0;have hs:=hv.sl;obtain⟨a,cap,rfl,_⟩:=hv;refine aV (λU h'=>U=[]∧h'=h) ?_ ?_
 ·simp only[go_sem];refine aj (λh1=>by omega) (λ_=>⟨trivial,trivial⟩)
 ·rintro _ ρj h' ⟨rfl,hh⟩;subst hh;obtain⟨p,A,F⟩:=hs.at1 (k:=.i64) (i:=0) hp;rw[List.getElem_map]at F;rw[show((0:Nat):Int)=0 from rfl]at A;simp only[go_sem,A,F];refine cO (λd U L=>L=h'∧∃(k:Nat) (m:Int),1≤k∧k≤l.length∧d=l.length-k∧U=[.int .i64 m,.int .i64 (k:Int)]∧decide (m<0)=(l.take k).any λx=>decide (x<0)) (l.length-1)
   ⟨rfl,1,l[0],by omega,by omega,rfl,rfl,?_⟩ ?_
  ·cases l with
   |nil=>exact absurd rfl h0
   |cons x l=>simp
  ·rintro d _ ρj _ again ⟨rfl,k,m,h1,hk,rfl,rfl,W⟩ H;simp only[go_sem];refine aj (λaa=>?_) (λab=>?_)
   ·have G:k<l.length:=by omega
    obtain⟨p,I,D⟩:=hs.at1 (k:=.i64) G;rw[List.getElem_map]at D;simp only[go_sem,I,D,vi];rw[w64 (by omega) (by omega)];refine H _ _ (l.length-(k+1)) (by omega) ⟨rfl,k+1,_,by omega,by omega,rfl,rfl,?_⟩;rw[List.take_succ_eq_append_getElem G,List.any_append,←W];simp only[List.any_cons,List.any_nil,Bool.or_false];rw[←Bool.decide_or,decide_eq_decide];omega
   ·refine⟨⟨m,rfl,?_⟩,trivial⟩;rw[W,List.take_of_length_le (by omega)]
def Gs (n:Nat)(i:Int)(s:List Int):Bool:=decide (0≤i∧i<n)&&(decide (s.length=n)&& !s.any λx=>decide (x<0))
def lV (n:Nat)(rows:Nat→List Int)(i:Int)(s:List Int):Nat→List Int:=
 if Gs n i s=true then λj=>if j=i.toNat then Lv (rows i.toNat) s else rows j else rows
theorem jU.swap {M:Nat→Prop}{h h':af}{U:Nat}{sl:Value}{sv:Nat→Value}{t:TypeId}{n:Nat}{rows:Nat→List Int}(C:jU M h U sl sv t n rows){k:Nat}(hk:k<n){l:List Int}{v:Value}
  (o:iT h' v l) (hl:l.length=n) (f:Fr (blk sl) h h') (a:Own 1 h' sl n ((List.range n).map λj=>if j=k then v else sv j)) (G:∀b,blk v b→b<h'.size∧¬M b):
  jU (λb=>M b∨blk v b) h' U sl (λj=>if j=k then v else sv j) t n (λj=>if j=k then l else rows j) where
 var:=f.row C.var C.ap1
 arr:=a
 row:=λi hi=>by
  by_cases A:i=k
  ·simp only[A,if_true];exact o
  ·simp only[A,if_false];exact(C.row i hi).fr f λb D=>(C.ap2 i hi b D).2
 len:=λi hi=>by
  by_cases A:i=k
  ·simp only[A,if_true];exact hl
  ·simp only[A,if_false];exact C.len i hi
 pos:=C.pos
 inM:=⟨.inl C.inM.1,λb D=>.inl (C.inM.2.1 b D),λi hi b D=>by
  by_cases A:i=k
  ·simp only[A,if_true]at D;exact .inr D
  ·simp only[A,if_false]at D;exact .inl (C.inM.2.2 i hi b D)⟩
 ap1:=C.ap1
 ap2:=λi hi b D=>by
  by_cases A:i=k
  ·simp only[A,if_true]at D;exact⟨λL=>(G b D).2 (L▸C.inM.1),λhs=>(G b D).2 (C.inM.2.1 b hs)⟩
  ·simp only[A,if_false]at D;exact C.ap2 i hi b D
 ap3:=λi j hi W H b D F=>by
  by_cases A:i=k
  ·subst A;simp only[if_true,Ne.symm H,if_false]at D F;exact(G b D).2 (C.inM.2.2 j W b F)
  ·simp only[A,if_false]at D;by_cases I:j=k
   ·simp only[I,if_true]at F;exact(G b F).2 (C.inM.2.2 i hi b D)
   ·simp only[I,if_false]at F;exact C.ap3 i j hi W H b D F
 lt:=λb D=>by
  rcases D with D|D
  ·exact Nat.lt_of_lt_of_le (C.lt b D) f.1
  ·exact(G b D).1
theorem GY (n:Nat)(f:Nat→Value)(i:Nat)(x:Value):((List.range n).map f).set i x=(List.range n).map λk=>if k=i then x else f k:=by
 apply List.ext_getElem
 ·simp
 ·intro k h1 A;rw[List.getElem_set];simp only[List.getElem_map,List.getElem_range, @eq_comm _ k i]
theorem z7 {h:af}{v:Value}{l:List Int}(o:iT h v l):aJ v=true:=by
 rcases o with⟨rfl,_⟩|⟨b,cap,r,e,rfl,_⟩<;>rfl
theorem Yp {M:Nat→Prop}{h:af}{v u:Value}{n:Nat}{rows:Nat→List Int}(H:dX M h v n rows)(i:Int){s:List Int}(hu:jP h u s)(hs:s.length≤4398046511104):
  ae prog eN #[v,.int .i64 i,u] h λr h'=>r=.bool (Gs n i s)∧∃M',dX M' h' v n (lV n rows i s)∧Fr M h h'∧∀b,M' b→M b∨h.size≤b:=by
 apply Aw;unfold qE;refine(Yh H i).mono ?_;rintro _ h' ⟨rfl,hh⟩;subst hh;have no:Gs n i s=false→∃M',dX M' h' v n (lV n rows i s)∧Fr M h' h'∧∀b,M' b→M b∨h'.size≤b:=λW=>
  ⟨M,by unfold lV;rw[W];exact H,Fr.refl _ _,λb D=>.inl D⟩
 have L:=hu;obtain⟨ua,uc,rfl,_⟩:=hu;by_cases hi:0≤i∧i<n
 ·obtain⟨bc,sl,sv,t,rfl,C⟩:=H;have au:=C.pos;have ar:=C.arr.sl;obtain⟨_,sa,sc,rfl,_⟩:=ar;by_cases hn:s.length=n
  ·have I:((s.length:Int)=(n:Int)):=by omega
   simp only[go_sem,hi,ai C.var,and_self,I];refine(c_Min L (by intro h0;subst h0;simp at hn;omega) hs).mono ?_;rintro _ h1 ⟨⟨m,rfl,W⟩,hh⟩;subst hh;simp only[go_sem,W];cases F:s.any λx=>decide (x<0)with
   |true=>
    have A:Gs n i s=false:=by simp[Gs,F]
    simp only[go_sem];exact⟨by rw[A],no A⟩
   | false=>
    have A:Gs n i s=true:=by simp[Gs,F,hi,hn]
    obtain⟨k,rfl⟩:=Int.eq_ofNat_of_zero_le hi.1;have G:k<n:=by omega
    simp only[go_sem];refine LH ?_;obtain⟨p,hp,hq⟩:=C.arr.sl.at1 (k:=.i64) G;rw[List.getElem_map,List.getElem_range]at hq;refine ao (.slice sa n sc) (λh2 e=>by rw[ai (e.row C.var)];rfl) ?_;refine ao (.slice sa n sc) (λh2 e=>by rw[ai (e.row C.var)];rfl) ?_;rw[hp,ah];refine ao (sv k) (λh2 e=>?_) ?_
    ·obtain⟨p2,ab,ad⟩:=(C.ext e).arr.sl.at1 (k:=.i64) G;rw[List.getElem_map,List.getElem_range]at ad;rw[hp]at ab;cases ab;exact ad
    refine(Yr (C.row k G).ints L (by rw[C.len k G];omega) hs).mono ?_;rintro r h2 ⟨o2,e2,n2⟩;refine⟨e2,?_⟩;have C2:=C.ext e2;obtain⟨p3,aa,aw,an⟩:=C2.arr.at1 (k:=.i64) G;rw[hp]at aa;cases aa;rw[ah];refine an _ _ (z7 o2) λh3 o3 f3 _=>?_
    rw[GY]at o3;have U:∀b,blk r b→¬M b:=λb D W=>by have:=C.lt b W;have:=n2 b D;omega
    have o4:iT h3 r (Lv (rows k) s):=o2.fr f3 λb D al=>U b D (C.inM.2.1 b al)
    have C3:=C2.swap G o4 (by rw[wz,C.len k G,hn];exact Nat.max_self n) f3 o3 λb D=>⟨Own.lt o4 D,U b D⟩
    have CC:dX (λb=>M b∨blk r b) h3 (.pointer (some ⟨bc,0,none⟩)) n (lV n rows k s):=by
     unfold lV;rw[if_pos A];exact⟨bc,_,_,t,rfl,C3⟩
    refine⟨by rw[A],(λb=>M b∨blk r b),CC,e2.fr.trans (f3.mono λb _ D=>C.inM.2.1 b D),λb D=>Or.imp (λh=>h) (n2 b) D⟩
  ·have I:¬((s.length:Int)=(n:Int)):=by omega
   have A:Gs n i s=false:=by simp[Gs,hn]
   simp only[go_sem,hi,ai C.var,and_self,I];exact⟨by rw[A],no A⟩
 ·have A:Gs n i s=false:=by simp[Gs,hi]
  simp only[go_sem,hi];exact⟨by rw[A],no A⟩
end Go.Proofs.YtjljhnandbbldaaGreatDoor
namespace Go.Proofs.YtjljhnandbbldaaGreatDoor
open Go Go.Crisp
attribute [local irreducible] ae cE aP stK aA vK qK bC gK dK aU mkK cF Ch qQ lW Rw
open _root_.Go.Proofs.Tryz
section
structure Bag (M:Nat→Prop)(h:af)(bx bm:Nat)(fr:Value)(w:Nat)(all:List (Value×List Int)):Prop where
 own:∀p∈all,iT h p.1 p.2∧p.2.length=w∧∀k,blk p.1 k→k≠bx∧k≠bm∧¬blk fr k∧M k
 apart:all.Pairwise λa b=>∀k,blk a.1 k→¬blk b.1 k
theorem Bag.perm {M:Nat→Prop}{h:af}{bx bm:Nat}{fr:Value}{w:Nat}{all A:List (Value×List Int)}(B:Bag M h bx bm fr w all)(p:A.Perm all):Bag M h bx bm fr w A where
 own:=λq hq=>B.own q (p.mem_iff.1 hq)
 apart:=(p.pairwise_iff (λ{x y} F k G D=>F k D G)).2 B.apart
theorem Bag.fr {M Q:Nat→Prop}{h h':af}{bx bm:Nat}{fr:Value}{w:Nat}{all:List (Value×List Int)}(B:Bag M h bx bm fr w all)(f:Fr Q h h')(q:∀p∈all,∀k,blk p.1 k→¬Q k):Bag M h' bx bm fr w all where
 own:=λp A=>⟨(B.own p A).1.fr f (q p A),(B.own p A).2⟩
 apart:=B.apart
theorem Bag.ext {M:Nat→Prop}{h h':af}{bx bm:Nat}{fr:Value}{w:Nat}{all:List (Value×List Int)}(B:Bag M h bx bm fr w all)(e:Ext h h'):Bag M h' bx bm fr w all:=B.fr (Q:=λ_=>False) e.fr λ_ _ _ _=>id
theorem Bag.mono {M M':Nat→Prop}{h:af}{bx bm:Nat}{fr D:Value}{w:Nat}{all:List (Value×List Int)}(B:Bag M h bx bm fr w all)(G:∀k,M k→M' k)(H:∀p∈all,∀k,blk p.1 k→¬blk D k):Bag M' h bx bm D w all where
 own:=λp A=>⟨(B.own p A).1,(B.own p A).2.1,λk F=>⟨((B.own p A).2.2 k F).1,((B.own p A).2.2 k F).2.1,H p A k F,G k ((B.own p A).2.2 k F).2.2.2⟩⟩
 apart:=B.apart
structure wE (M:Nat→Prop)(h:af)(bx bm:Nat)(fr:Value)(t:TypeId)(room w:Nat)(es:List (Int×(Value×List Int)))(fv xs:List (Value×List Int)):Prop where
 var:h[bx]? =some (.cells #[.int .i64 room,.int .i64 w,.map (some bm),fr] t (0,0))
 map:qX h bm (nI Prod.fst es)
 free:Own 1 h fr fv.length (fv.map Prod.fst)
 bag:Bag M h bx bm fr w (es.map Prod.snd++fv++xs)
 ap:bx≠bm∧¬blk fr bx∧¬blk fr bm
 inM:M bx∧M bm∧∀k,blk fr k→M k
 lt:∀k,M k→k<h.size
 nums:1≤room∧room≤65536∧w≤262144
 keys:∀e∈es,(Lit.int .i64 e.1).wf=true
 len:es.length≤room
 tot:es.length+fv.length+xs.length≤room+1
def fQ (M:Nat→Prop)(h:af)(v:Value)(room w:Nat)(rs:List (Int×List Int)):Prop:=
 ∃bx bm fr t es fv,v=.pointer (some ⟨bx,0,none⟩)∧wE M h bx bm fr t room w es fv []∧rs=nI Prod.snd es∧es.length+fv.length≤room
theorem wE.fr {M Q:Nat→Prop}{h h':af}{bx bm:Nat}{fr:Value}{t:TypeId}{room w:Nat}{F:List (Int×(Value×List Int))}{G H:List (Value×List Int)}(R:wE M h bx bm fr t room w F G H)(f:Fr Q h h')(q:∀b,b<h.size→M b→¬Q b):wE M h' bx bm fr t room w F G H:=
 {R with
  var:=f.row R.var (q bx (R.lt _ R.inM.1) R.inM.1)
  map:=R.map.fr f (q bm (R.lt _ R.inM.2.1) R.inM.2.1)
  free:=R.free.fr f λk A=>q k (R.lt _ (R.inM.2.2 k A)) (R.inM.2.2 k A)
  bag:=R.bag.fr f λp D k A=>q k (R.lt _ ((R.bag.own p D).2.2 k A).2.2.2) ((R.bag.own p D).2.2 k A).2.2.2
  lt:=λk A=>Nat.lt_of_lt_of_le (R.lt k A) f.1}
theorem fQ.fr {M Q:Nat→Prop}{h h':af}{v:Value}{room w:Nat}{rs:List (Int×List Int)}(H:fQ M h v room w rs)(f:Fr Q h h')(q:∀b,b<h.size→M b→¬Q b):fQ M h' v room w rs:=by
 obtain⟨bx,bm,fr,t,A,D,rfl,R,h1,F⟩:=H;exact⟨bx,bm,fr,t,A,D,rfl,R.fr f q,h1,F⟩
theorem fQ.ext {M:Nat→Prop}{h h':af}{v:Value}{room w:Nat}{rs:List (Int×List Int)}(H:fQ M h v room w rs)(e:Ext h h'):fQ M h' v room w rs:=H.fr (Q:=λ_=>False) e.fr λ_ _ _=>id
theorem fQ.lt {M:Nat→Prop}{h:af}{v:Value}{room w:Nat}{rs:List (Int×List Int)}(H:fQ M h v room w rs){b:Nat}(A:M b):b<h.size:=by
 obtain⟨bx,bm,fr,t,D,F,rfl,R,h1,G⟩:=H;exact R.lt b A
theorem fQ.nodup {M:Nat→Prop}{h:af}{v:Value}{room w:Nat}{rs:List (Int×List Int)}(H:fQ M h v room w rs):(rs.map Prod.fst).Nodup:=by
 obtain⟨bx,bm,fr,t,A,F,rfl,R,rfl,D⟩:=H;rw[vD,←vD Prod.fst];exact R.map.nodup
theorem fQ.nums {M:Nat→Prop}{h:af}{v:Value}{room w:Nat}{rs:List (Int×List Int)}(H:fQ M h v room w rs):1≤room∧room≤65536∧w≤262144∧rs.length≤room∧(∀p∈rs,p.2.length=w∧(Lit.int .i64 p.1).wf=true):=by
 obtain⟨bx,bm,fr,t,F,G,rfl,R,rfl,I⟩:=H;refine⟨R.nums.1,R.nums.2.1,R.nums.2.2,by simpa[nI]using R.len,λp D=>?_⟩;obtain⟨e,A,rfl⟩:=List.mem_map.1 D;exact⟨(R.bag.own e.2 (by simp;exact .inl ⟨e.1,A⟩)).2.1,R.keys e A⟩
def gj (a:Int):Nat:=(min (max 1 a) 65536).toNat
def dP (a:Int):Nat:=(min (max 0 a) 262144).toNat
theorem Yn {h:af}(a b:Int):ae prog Cu #[.int .i64 a,.int .i64 b] h λr h'=>∃M,fQ M h' r (gj a) (dP b) []∧Ext h h'∧∀k,M k→h.size≤k:=by
 apply Og;unfold Fm;have W:min (max 1 a) 65536=((gj a:Nat):Int):=by unfold gj;omega
 have hb:min (max 0 b) 262144=((dP b:Nat):Int):=by unfold dP;omega
 have h1:1≤gj a∧gj a≤65536:=by unfold gj;omega
 have L:dP b≤262144:=by unfold dP;omega
 simp only[go_sem,W,hb];generalize gj a=room at h1;generalize dP b=w at L;refine VW λbm h3 F I n3=>?_
 rw[GE _ #[.int .i64 room,.int .i64 w,.map (some bm),.slice none 0 0] (by kernel_rfl)];refine aC (c:=#[.int .i64 room,.int .i64 w,.map (some bm),.slice none 0 0]) λbx h4 G D n4=>?_
 obtain⟨t,H⟩:∃t,h4[bx]? =some (.cells #[.int .i64 room,.int .i64 w,.map (some bm),.slice none 0 0] t (0,0)):=⟨_,G⟩
 have lm:=F.lt;refine⟨λk=>k=bx∨k=bm,⟨bx,bm,.slice none 0 0,t,[],[],rfl,?_,rfl,by simp⟩,I.trans D,?_⟩
 ·exact{
   var:=H,map:=F.ext D,free:=.inl ⟨rfl,rfl,rfl⟩,bag:=⟨λp U=>absurd U (by simp),List.Pairwise.nil⟩
   ap:=⟨by omega,λh=>h.elim,λh=>h.elim⟩,inM:=⟨.inl rfl,.inr rfl,λk A=>A.elim⟩
   lt:=λk A=>by
    rcases A with rfl|rfl
    ·exact aW H
    ·exact(F.ext D).lt
   nums:=⟨h1.1,h1.2,L⟩,keys:=λe he=>absurd he (by simp),len:=by simp,tot:=by simp}
 ·rintro k (rfl|rfl)
  ·exact Nat.le_trans I.1 n4
  ·exact n3
section
variable {M:Nat→Prop}{h:af}{v:Value}{room w:Nat}{rs:List (Int×List Int)}
theorem Vb (H:fQ M h v room w rs):ae prog ms #[v] h λr h'=>r=.int .i64 (w:Nat)∧h'=h:=by
 obtain⟨bx,bm,fr,t,A,F,rfl,R,rfl,D⟩:=H;apply BK;unfold rJ;simp only[go_sem,ai R.var];exact⟨trivial,trivial⟩
theorem Va (H:fQ M h v room w rs):ae prog mq #[v] h λr h'=>r=.int .i64 ((room:Int)*w)∧h'=h:=by
 obtain⟨bx,bm,fr,t,F,L,rfl,R,rfl,G⟩:=H;apply BJ;unfold rH;have A:=R.nums;have I:room*w≤65536*262144:=Nat.mul_le_mul A.2.1 A.2.2;have D:((room*w:Nat):Int)=(room:Int)*w:=Int.natCast_mul ..;simp only[go_sem,ai R.var];rw[w64 (by omega) (by omega)];exact⟨rfl,trivial⟩
theorem Vc (H:fQ M h v room w rs)(j:Int):ae prog kK #[v,.int .i64 j] h λr h'=>r=.bool (em j rs).isSome∧h'=h:=by
 obtain⟨bx,bm,fr,t,A,F,rfl,R,rfl,D⟩:=H;apply Ew;unfold ve;simp only[go_sem,ai R.var,IK R.map];rw[pJ,pJ];cases em j A with
 |none=>simp only[Option.map_none,OC,cond_true,go_sem];exact⟨rfl,trivial⟩
 |some p=>simp only[Option.map_some,OC,cond_true,go_sem];exact⟨rfl,trivial⟩
theorem JI {h:af}{v:Value}{l:List Int}(A:jP h v l)(F:l.length≤4398046511104):
  ae prog cC #[v] h λr h'=>iT h' r l∧Ext h h'∧∀b,blk r b→h.size≤b:=by
 apply gZ;unfold eE;have D:=A;obtain⟨a,cap,rfl,A⟩:=A;cases a with
 |none=>
  simp only[DZ,go_sem];rcases A with rfl|⟨b,o,h1,_⟩
  ·exact⟨Mp,Ext.refl h,λb G=>G.elim⟩
  ·cases h1
 |some a=>
  simp only[DY,go_sem];exact LI D F λr h' o e n=>⟨o,e,n⟩
theorem Yl (H:fQ M h v room w rs)(j:Int):ae prog qa #[v,.int .i64 j] h λr h'=>∃u,r=.tuple #[u,.bool (em j rs).isSome]∧iT h' u ((em j rs).getD [])∧Ext h h'∧∀b,blk u b→h.size≤b:=by
 have D:=H.nums;obtain⟨bx,bm,fr,t,F,I,rfl,R,rfl,L⟩:=H;apply Eu;unfold uZ;simp only[go_sem,ai R.var,IK R.map];rw[pJ,pJ];cases G:em j F with
 |none=>
  simp only[Option.map_none,OC,cond_true,go_sem];refine(JI (v:=.slice none 0 0) (l:=[]) ⟨none,0,rfl,.inl rfl⟩ (by simp)).mono ?_;rintro u h1 ⟨o,e,n⟩;exact⟨u,rfl,o,e,n⟩
 |some p=>
  simp only[Option.map_some,OC,cond_true,go_sem];have A:=R.bag.own p (by simp;exact .inl ⟨j,IS G⟩);refine(JI A.1.ints (by rw[A.2.1];omega)).mono ?_;rintro u h1 ⟨o,e,n⟩;exact⟨u,rfl,o,e,n⟩
def uz:List Int→Int
 | []=>0
 |x::l=>l.foldl min x
theorem SA {a b:List Int}(h:a.Perm b):uz a=uz b:=by
 have key:∀(l:List Int) (x:Int),(∀y∈x::l,l.foldl min x≤y)∧l.foldl min x∈x::l:=by
  intro l;induction l with
  |nil=>intro x;simp
  | cons z l G=>
   intro x;rw[List.foldl_cons];obtain⟨h1,D⟩:=G (min x z);have L:=h1 (min x z) (List.mem_cons_self ..);refine⟨λy F=>?_,?_⟩
   ·rcases List.mem_cons.1 F with rfl|F
    ·omega
    ·rcases List.mem_cons.1 F with rfl|F
     ·omega
     ·exact h1 y (List.mem_cons_of_mem _ F)
   ·rcases List.mem_cons.1 D with D|D
    ·rw[D];rcases Int.le_total x z with A|A
     ·rw[Int.min_eq_left A];simp
     ·rw[Int.min_eq_right A];simp
    ·exact List.mem_cons_of_mem _ (List.mem_cons_of_mem _ D)
 cases a with
 |nil=>have:=h.nil_eq;subst this;rfl
 | cons x l=>
  cases b with
  |nil=>have:=h.symm.nil_eq;cases this
  |cons y m=>
   obtain⟨a1,a2⟩:=key l x;obtain⟨H,I⟩:=key m y;exact Int.le_antisymm (a1 _ (h.mem_iff.2 I)) (H _ (h.mem_iff.1 a2))
theorem Sy {l:List Int}(h:l≠[])(x:Int):uz (l++[x])=min (uz l) x:=by
 cases l with
 |nil=>exact absurd rfl h
 |cons y l=>simp[uz]
theorem W1 {h:af}{v:Value}{l:List Int}(hv:jP h v l)(h0:l≠[])(hl:l.length≤4398046511104):
  ae prog fG #[v] h λr h'=>r=.int .i64 (uz l)∧h'=h:=by
 apply pY;unfold iP;have hp:0<l.length:=List.length_pos_iff.2 h0;have hs:=hv.sl;obtain⟨a,cap,rfl,_⟩:=hv;refine aV (λW h'=>W=[]∧h'=h) ?_ ?_
 ·simp only[go_sem];refine aj (λh1=>by omega) (λ_=>⟨trivial,trivial⟩)
 ·rintro _ ρj h' ⟨rfl,hh⟩;subst hh;obtain⟨p,A,F⟩:=hs.at1 (k:=.i64) (i:=0) hp;rw[List.getElem_map]at F;rw[show((0:Nat):Int)=0 from rfl]at A;simp only[go_sem,A,F];refine cO (λd W U=>U=h'∧∃(k:Nat),1≤k∧k≤l.length∧d=l.length-k∧W=[.int .i64 (uz (l.take k)),.int .i64 (k:Int)]) (l.length-1)
   ⟨rfl,1,by omega,by omega,rfl,?_⟩ ?_
  ·cases l with
   |nil=>exact absurd rfl h0
   |cons x l=>rfl
  ·rintro d _ ρj _ again ⟨rfl,k,h1,hk,rfl,rfl⟩ H;simp only[go_sem];refine aj (λaa=>?_) (λab=>?_)
   ·have G:k<l.length:=by omega
    obtain⟨p,L,D⟩:=hs.at1 (k:=.i64) G;rw[List.getElem_map]at D;simp only[go_sem,L,D,vi];rw[w64 (by omega) (by omega)];refine H _ _ (l.length-(k+1)) (by omega) ⟨rfl,k+1,by omega,by omega,rfl,?_⟩;have I:l.take k≠[]:=λh=>by
     have h9:=congrArg List.length h;rw[List.length_take,List.length_nil]at h9;omega
    rw[List.take_succ_eq_append_getElem G,Sy I];rfl
   ·rw[List.take_of_length_le (by omega)];exact⟨rfl,trivial⟩
theorem Pq (H:fQ M h v room w rs):ae prog mu #[v] h λr h'=>r=.tuple #[.int .i64 (uz (rs.map Prod.fst)),.bool (!decide (rs=[]))]∧Ext h h':=by
 have I:=H.nums;obtain⟨bx,bm,fr,t,D,fv,rfl,R,rfl,h2⟩:=H;apply BL;unfold rK;by_cases h0:D=[]
 ·subst h0;simp only[go_sem,ai R.var,MY R.map,nI,List.map_nil,List.length_nil,Int.natCast_zero];exact⟨rfl,Ext.refl h⟩
 ·have hl:¬(((nI Prod.fst D).length:Nat):Int)=0:=by
   simp only[nI,List.length_map];have:=List.length_pos_iff.2 h0;omega
  simp only[go_sem,ai R.var,MY R.map,hl];apply gH;unfold dm;refine aC λb1 h1 r1 L n1=>?_
  have G:(nI Prod.fst D).length≤1000000:=by
   have:=R.len;have:=R.nums;simp only[nI,List.length_map];omega
  refine(Ps r1 (R.map.ext L) (λp U=>?_) G).mono ?_
  ·obtain⟨e,he,rfl⟩:=List.mem_map.1 U;exact R.keys e he
  rintro u h3 ⟨ss,A,o3,W,n3⟩;have F:ss.length=D.length:=by rw[A.length_eq];simp[nI]
  refine(W1 o3.ints (by intro h;subst h;simp at F;exact h0 (List.eq_nil_of_length_eq_zero F.symm)) (by have:=R.len;have:=R.nums;omega)).mono ?_;rintro _ h4 ⟨rfl,rfl⟩;refine⟨?_,L.trans W⟩;rw[SA A,vD,vD];have:¬nI Prod.snd D=[]:=by simpa[nI]using h0
  simp[this]
end
end
theorem DR {α:Type}{j:Int}{p:α}{A:List (Int×α)}(D:em j A=some p):(mM j A).length+1=A.length:=by
 have:=(EP D).length_eq;simpa using this.symm
theorem Yj {M:Nat→Prop}{h:af}{bx bm:Nat}{fr:Value}{t:TypeId}{room w:Nat}{I:List (Int×(Value×List Int))}{G:List (Value×List Int)}(R:wE M h bx bm fr t room w I G []){j:Int}{p:Value×List Int}(hg:em j I=some p):
  ae prog nQ #[.pointer (some ⟨bx,0,none⟩),.int .i64 j] h λ_ h'=>∃M' U,wE M' h' bx bm U t room w (mM j I) (G++[p]) []∧Fr M h h'∧(∀k,M' k→M k∨h.size≤k)∧
   ∀L c,h[bm]? =some (.map L c)→∃ad,h'[bm]? =some (.map ad c)∧∀e∈ad,e∈L∧e.key≠ .int .i64 j:=by
 apply Ds;unfold tt;refine aI (λhh=>hh[bx]? =some (.cells #[.int .i64 room,.int .i64 w,.map (some bm),fr] t (0,0))∧hh[bm]? =h[bm]?) ⟨R.var,rfl⟩ ?_
 try simp only[go_sem]
 refine ao fr (λhh S=>by rw[ai S.1];rfl) ?_;refine ao (.map (some bm)) (λhh S=>by rw[ai S.1];rfl) ?_;refine ao p.1 (λhh S=>by rw[IK (R.map.row S.2),pJ,hg];rfl) ?_;have aw:p∈I.map Prod.snd++G++[]:=by simp;exact .inl ⟨j,IS hg⟩
 have hp:=R.bag.own p aw;have au:=z7 hp.1;refine cz (Rp.fill_one au) λb1 h1 r1 H n1=>?_
 have a9:=aW R.var;have aa:=R.map.lt;refine⟨⟨H.row R.var,H.2 bm aa⟩,?_⟩;have S1:=Rp.SlC.single (cs:=[p.1]) r1;have a7:=R.nums;have ar:=R.tot;simp only[List.length_nil,Nat.add_zero]at ar;refine sI (R.free.fr (M:=λ_=>False) H.fr λ_ _=>id) S1 (ak au aQ) rfl (by omega) (by omega) λU h2 o2 f2 n2=>?_
 have v2:=f2.row (H.row R.var) R.ap.2.1;have m2:h2[bm]? =h[bm]? :=(f2.2 bm (Nat.lt_of_lt_of_le aa H.1) R.ap.2.2).trans (H.2 bm aa);refine⟨⟨v2,m2⟩,?_⟩;have F:∀k,blk U k→k≠bx∧k≠bm:=λk A=>by
  rcases n2 k A with h3|h3
  ·exact⟨λh4=>R.ap.2.1 (h4▸h3),λh4=>R.ap.2.2 (h4▸h3)⟩
  ·have:=H.1;exact⟨by omega,by omega⟩
 obtain⟨fa,fc,rfl⟩:∃a c,U=.slice a (G.length+1) c:=o2.isSl
 try simp only[go_sem]
 refine bK (o:=3) v2 (by simp) rfl λh3 r3 u3=>?_
 have r3:h3[bx]? =some (.cells #[.int .i64 room,.int .i64 w,.map (some bm),.slice fa (G.length+1) fc] t (0,0)):=r3;have m3:h3[bm]? =h[bm]? :=(u3.2 bm (Ne.symm R.ap.1)).trans m2;simp only[go_sem,ai r3];refine UG (R.map.row m3) λh4 m4 u4 d4=>?_
 have an:Fr (λk=>M k) h h4:=((H.fr.trans (f2.mono λk _ A=>R.inM.2.2 k A)).trans (u3.fr.mono λk _ A=>by rw[show k=bx from A];exact R.inM.1)).trans (u4.fr.mono λk _ A=>by rw[show k=bm from A];exact R.inM.2.1);have a8:∀k,M k→k<h.size:=R.lt;have ab:(((mM j I).map Prod.snd++(G++[p]))++[]).Perm (I.map Prod.snd++G++[]):=by
  have W:=(EP hg).map Prod.snd;rw[List.map_cons]at W;rw[List.append_nil,List.append_nil,←List.append_assoc];exact(List.perm_append_comm (l₁:=(mM j I).map Prod.snd++G) (l₂:=[p])).trans (W.symm.append_right G)
 have D:∀q∈I.map Prod.snd++G++[],∀k,blk q.1 k→k≠bx∧k≠bm∧¬blk fr k∧M k:=λq hq=>(R.bag.own q hq).2.2
 have al:Bag M h4 bx bm fr w (I.map Prod.snd++G++[]):=by
  refine(((R.bag.ext H).fr f2 λq hq k A=>(D q hq k A).2.2.1).fr u3.fr λq hq k A=>(D q hq k A).1).fr u4.fr λq hq k A=>(D q hq k A).2.1
 refine⟨λk=>M k∨blk (.slice fa (G.length+1) fc) k,.slice fa (G.length+1) fc,?_,an,λk A=>?_,?_⟩
 ·exact{
   var:=u4.row (λh=>R.ap.1 h) r3
   map:=by rw[IV]at m4;exact m4
   free:=by
    have:=(o2.fr u3.fr λk A=>(F k A).1).fr u4.fr λk A=>(F k A).2
    rw[List.length_append,List.map_append];exact this
   bag:=(al.mono (λk A=>.inl A) λq hq k A ax=>by
    rcases n2 k ax with W|W
    ·exact(D q hq k A).2.2.1 W
    ·have:=R.lt k (D q hq k A).2.2.2;have:=H.1;omega).perm ab
   ap:=⟨R.ap.1,λA=>(F _ A).1 rfl,λA=>(F _ A).2 rfl⟩
   inM:=⟨.inl R.inM.1,.inl R.inM.2.1,λk A=>.inr A⟩
   lt:=λk A=>by
    rcases A with A|A
    ·exact Nat.lt_of_lt_of_le (R.lt k A) an.1
    ·have:=o2.lt A;have:=u3.1;have:=u4.1;omega
   nums:=R.nums
   keys:=λe he=>R.keys e (IU.subset he)
   len:=by have:=DR hg;have:=R.len;omega
   tot:=by have:=DR hg;simp;omega}
 ·rcases A with A|A
  ·exact .inl A
  ·rcases n2 k A with W|W
   ·exact .inl (R.inM.2.2 k W)
   ·exact .inr (Nat.le_trans H.1 W)
 ·intro L c ay;exact d4 L c (m3.trans ay)
theorem Own.shrink {h:af}{v:Value}{n:Nat}{cs:List Value}(H:Own 1 h v n cs)(W:0<n):∃D,un 1 v none (some (.int .i64 ((n-1:Nat):Int)))=some D∧Own 1 h D (n-1) cs.dropLast∧(∀k,blk D k→blk v k):=by
 rcases H with⟨rfl,rfl,rfl⟩|⟨b,cap,r,e,rfl,hc,F,G,U⟩
 ·omega
 ·have A:cs≠[]:=λh0=>by rw[h0]at F;simp at F;omega
  refine⟨.slice (some ⟨b,0,none⟩) (n-1) cap,?_,.inr ⟨b,cap,cs.getLast A::r,e,rfl,by omega,by simp;omega,?_,?_⟩,λk I=>I⟩
  ·have h1:(0:Int)≤((n-1:Nat):Int)∧((n-1:Nat):Int)≤(cap:Int):=by omega
   have L:¬cap=0:=by omega
   simp only[un,bdV,if_pos h1,Int.toNat_natCast,if_neg L,Option.map_some,kF,Nat.sub_zero,Nat.zero_mul,Nat.add_zero]
  ·rw[←G]
   conv=>rhs;rw[←List.dropLast_concat_getLast A]
   simp
  ·rw[U]
   conv=>lhs;rw[←List.dropLast_concat_getLast A]
   simp
theorem Bag.last {M:Nat→Prop}{h h':af}{bx bm:Nat}{fr:Value}{w:Nat}{all:List (Value×List Int)}{u:Value}{D l:List Int}(B:Bag M h bx bm fr w (all++[(u,D)]))(f:Fr (blk u) h h')(o:iT h' u l)(H:l.length=w):Bag M h' bx bm fr w (all++[(u,l)]) where
 own:=λp A=>by
  rcases List.mem_append.1 A with A|A
  ·have h1:=B.own p (List.mem_append_left _ A);have I:=(List.pairwise_append.1 B.apart).2.2 p A (u,D) (by simp);exact⟨h1.1.fr f λk F=>I k F,h1.2⟩
  ·rw[List.mem_singleton.1 A];exact⟨o,H,(B.own (u,D) (by simp)).2.2⟩
 apart:=by
  have h1:=List.pairwise_append.1 B.apart;refine List.pairwise_append.2 ⟨h1.1,by simp,λa G b L=>?_⟩;rw[List.mem_singleton.1 L];exact h1.2.2 a G (u,D) (by simp)
theorem Wx {M:Nat→Prop}{h:af}{bx bm:Nat}{fr:Value}{t:TypeId}{room w:Nat}{L:List (Int×(Value×List Int))}{D:List (Value×List Int)}(R:wE M h bx bm fr t room w L D [])(h1:L.length<room)(h2:L.length+D.length≤room):
  ae prog mo #[.pointer (some ⟨bx,0,none⟩)] h λu h'=>∃M' ax aa l0,wE M' h' bx bm ax t room w L aa [(u,l0)]∧Fr M h h'∧(∀k,M' k→M k∨h.size≤k)∧L.length+1+aa.length≤room:=by
 apply BI;unfold rG;have a9:=R.nums;obtain⟨fa,fc,rfl⟩:=R.free.isSl;simp only[go_sem,ai R.var];refine aj (λhp=>?_) (λhz=>?_)
 ·have hp:0<D.length:=by omega
  have ab:IntKind.i64.wrap ((D.length:Int)-1)=((D.length-1:Nat):Int):=by rw[w64 (by omega) (by omega)];omega
  obtain⟨p,a7,ar⟩:=R.free.sl.at1 (k:=.i64) (i:=D.length-1) (by omega);obtain⟨v',al,ad,F⟩:=Own.shrink R.free hp;rw[ab,a7,ah,ar,ah,al,ah];have H:D≠[]:=List.length_pos_iff.1 hp;have I:(D.map Prod.fst)[D.length-1]'(by simp;omega)=(D.getLast H).1:=by
   rw[List.getElem_map];congr 1;rw[List.getLast_eq_getElem]
  rw[I];refine bK (o:=3) R.var (by simp) (by obtain⟨_,_,rfl⟩:=ad.isSl;rfl) λh3 r3 u3=>?_
  have r3:h3[bx]? =some (.cells #[.int .i64 room,.int .i64 w,.map (some bm),v'] t (0,0)):=r3;have ay:D.dropLast.map Prod.fst=(D.map Prod.fst).dropLast:=by simp
  refine⟨M,v',D.dropLast,(D.getLast H).2,?_,u3.fr.mono λk _ A=>by rw[show k=bx from A];exact R.inM.1,λk A=>.inl A,by simp;omega⟩;have an:∀k,blk v' k→k≠bx:=λk A aw=>R.ap.2.1 (aw▸F k A)
  have U:(L.map Prod.snd++D.dropLast++[D.getLast H]).Perm (L.map Prod.snd++D++[]):=by
   rw[List.append_assoc,List.dropLast_concat_getLast H,List.append_nil]
  exact{
   var:=r3
   map:=R.map.row (u3.2 bm (Ne.symm R.ap.1))
   free:=by rw[List.length_dropLast,ay];exact ad.fr u3.fr λk A=>an k A
   bag:=((R.bag.fr u3.fr λq hq k A=>((R.bag.own q hq).2.2 k A).1).mono (λk A=>A) λq hq k A G=>((R.bag.own q hq).2.2 k A).2.2.1 (F k G)).perm U
   ap:=⟨R.ap.1,λA=>R.ap.2.1 (F _ A),λA=>R.ap.2.2 (F _ A)⟩
   inM:=⟨R.inM.1,R.inM.2.1,λk A=>R.inM.2.2 k (F k A)⟩
   lt:=λk A=>by rw[u3.1];exact R.lt k A
   nums:=R.nums,keys:=R.keys,len:=R.len
   tot:=by simp;omega}
 ·have au:D=[]:=List.eq_nil_of_length_eq_zero (by omega);subst au;refine lU rfl (by omega) (by omega) λu h3 o3 e3 n3=>?_
  have a8:iT h3 u (List.replicate w 0):=by
   unfold iT;rw[List.length_replicate,List.map_replicate];exact o3
  have R3:=R.fr (Q:=λ_=>False) e3.fr λ_ _ _=>id
  refine⟨λk=>M k∨blk u k,.slice fa ([]:List (Value×List Int)).length fc,[],List.replicate w 0,?_,e3.fr,λk A=>A.imp id (n3 k),by simp;omega⟩;have hu:∀k,blk u k→¬M k:=λk A hm=>by have:=R.lt k hm;have:=n3 k A;omega
  exact{R3 with
   bag:=by
    refine⟨λq hq=>?_,?_⟩
    ·rcases List.mem_append.1 hq with hq|hq
     ·have W:=R3.bag.own q (by simpa using hq);exact⟨W.1,W.2.1,λk A=>⟨(W.2.2 k A).1,(W.2.2 k A).2.1,(W.2.2 k A).2.2.1,.inl (W.2.2 k A).2.2.2⟩⟩
     ·rw[List.mem_singleton.1 hq];exact⟨a8,by simp,λk A=>⟨λh=>hu k A (h▸R.inM.1),λh=>hu k A (h▸R.inM.2.1),λh=>hu k A (R.inM.2.2 k h),.inr A⟩⟩
    ·refine List.pairwise_append.2 ⟨by simpa using R3.bag.apart,by simp,λa ha b hb k A G=>?_⟩;rw[List.mem_singleton.1 hb]at G;exact hu k G ((R3.bag.own a (by simpa using ha)).2.2 k A).2.2.2
   inM:=⟨.inl R.inM.1,.inl R.inM.2.1,λk A=>.inl (R.inM.2.2 k A)⟩
   lt:=λk A=>by
    rcases A with A|A
    ·exact R3.lt k A
    ·exact o3.lt A
   tot:=by simp;omega}
def y9 (room:Nat)(rs:List (Int×List Int)):Bool:=decide (room≤rs.length)
def sf (room w:Nat)(rs:List (Int×List Int))(j:Int)(l:List Int):Bool:=decide (l.length=w)&&((em j rs).isNone&& !(y9 room rs&&decide (j<uz (rs.map Prod.fst))))
def kD (room:Nat)(rs:List (Int×List Int)):List (Int×List Int):=if y9 room rs=true then mM (uz (rs.map Prod.fst)) rs else rs
def NY (room w:Nat)(rs:List (Int×List Int))(j:Int)(l:List Int):List (Int×List Int):=if sf room w rs j l=true then kD room rs++[(j,l)]else rs
theorem Oy {l:List Int}(h:l≠[]):uz l∈l:=by
 have key:∀(l:List Int) (x:Int),l.foldl min x∈x::l:=by
  intro l;induction l with
  |nil=>intro x;simp
  | cons z l F=>
   intro x;rw[List.foldl_cons];rcases List.mem_cons.1 (F (min x z))with D|D
   ·rw[D];rcases Int.le_total x z with A|A
    ·rw[Int.min_eq_left A];simp
    ·rw[Int.min_eq_right A];simp
   ·exact List.mem_cons_of_mem _ (List.mem_cons_of_mem _ D)
 cases l with
 |nil=>exact absurd rfl h
 |cons x l=>exact key l x
theorem Ym {M:Nat→Prop} {h:af} {v u:Value} {room w:Nat} {rs:List (Int×List Int)} (H:fQ M h v room w rs) {j:Int} (hj:(Lit.int .i64 j).wf=true) {l:List Int} (hu:jP h u l) (b8:l.length≤9223372036854775807) (hn:∀b,blk u b→¬M b):
  ae prog qe #[v,.int .i64 j,u] h λr h'=>r=.bool (sf room w rs j l)∧∃M',fQ M' h' v room w (NY room w rs j l)∧Fr M h h'∧∀k,M' k→M k∨h.size≤k:=by
 have H0:=H;have b4:=H.nodup;have b7:=H.nums;have bg:=λh' (e:Ext h h')=>Pq (H.ext e)
 obtain⟨bx,bm,fr,t,es,fv,rfl,R,L,be⟩:=H;apply Ev;unfold vd;have bv:=hu;obtain⟨ua,uc,rfl,_⟩:=hu;have no:sf room w rs j l=false→∀h',Ext h h'→∃M',fQ M' h' (.pointer (some ⟨bx,0,none⟩)) room w (NY room w rs j l)∧Fr M h h'∧∀k,M' k→M k∨h.size≤k:=λF h' e=>
  ⟨M,by unfold NY;rw[F];exact H0.ext e,e.fr,λk A=>.inl A⟩
 by_cases hw:l.length=w
 ·have aw:(l.length:Int)=(w:Int):=by omega
  simp only[go_sem,ai R.var,aw];refine(Vc H0 j).mono ?_;rintro _ h1 ⟨rfl,hh⟩;subst hh
  try simp only[go_sem]
  cases hg:em j rs with
  |some q=>
   simp only[Option.isSome_some,go_sem];have F:sf room w rs j l=false:=by simp[sf,hg]
   exact⟨by rw[F],no F _ (Ext.refl _)⟩
  | none=>
   simp only[Option.isSome_none,go_sem];refine aV (λxs h'=>xs=[]∧sf room w rs j l=true∧∃M' au ad a9,wE M' h' bx bm au t room w ad a9 []∧ad.length<room∧ad.length+a9.length≤room∧nI Prod.snd ad=kD room rs∧Fr M h1 h'∧∀k,M' k→M k∨h1.size≤k) ?_ ?_
   ·refine(Pq H0).mono ?_;rintro _ h2 ⟨rfl,e2⟩;have R2:=R.fr (Q:=λ_=>False) e2.fr λ_ _ _=>id
    have b3:(nI Prod.fst es).length=rs.length:=by rw[L];simp[nI]
    simp only[go_sem,ai R2.var,MY R2.map,b3];refine aj (λD=>?_) (λbc=>?_)
    ·have D:room≤rs.length:=by omega
     have hf:y9 room rs=true:=by simp[y9,D]
     refine aj (λbk=>?_) (λb6=>?_)
     ·have F:sf room w rs j l=false:=by simp[sf,hf,bk]
      exact⟨by rw[F],no F _ e2⟩
     ·have F:sf room w rs j l=true:=by simp[sf,hf,b6,hg,hw]
      have bo:rs.map Prod.fst≠[]:=λh0=>by
       have:=congrArg List.length h0;simp at this;rw[this]at D;simp at D;omega
      have W:=Oy bo;generalize hm:uz (rs.map Prod.fst)=m at W;have A:∃p,em m es=some p:=by
       cases hc:em m es with
       |some p=>exact⟨p,rfl⟩
       |none=>
        have:=nJ.1 hc;rw[L,vD]at W;exact absurd W this
      obtain⟨p,A⟩:=A;refine(Yj R2 A).mono ?_;rintro _ h3 ⟨M',au,G,f3,n3,_⟩;have cb:=DR A;have b5:es.length=rs.length:=by rw[L];simp[nI]
      refine⟨trivial,F,M',au,mM m es,fv++[p],G,by have:=R.len;omega,by simp;omega,?_,e2.fr.trans f3,λk A=>(n3 k A).imp id λU=>Nat.le_trans e2.1 U⟩;unfold kD;rw[if_pos hf,hm,L,IV]
    ·have bc:¬room≤rs.length:=by omega
     have hf:y9 room rs=false:=by simp[y9];omega
     have b5:es.length=rs.length:=by rw[L];simp[nI]
     refine⟨trivial,by simp[sf,hf,hg,hw],M,fr,es,fv,R2,by omega,be,?_,e2.fr,λk A=>.inl A⟩;unfold kD;rw[hf];exact L.symm
   ·rintro _ ρj h2 ⟨rfl,F,M2,cc,I,ca,R2,l2,t2,a7,f2,n2⟩;refine(Wx R2 l2 t2).mono ?_;rintro x h3 ⟨M3,ay,bd,l0,G,f3,n3,t3⟩;have ab:=G.bag.own (x,l0) (by simp);have f13:Fr (λk=>M k∨h1.size≤k) h1 h3:=(f2.mono λk _ A=>.inl A).trans (f3.mono λk _ A=>n2 k A);have a8:Fr M h1 h3:=⟨f13.1,λb hb hm=>f13.2 b hb λhc=>hc.elim hm λU=>by omega⟩
    have us:SlC 1 h3 (.slice ua l.length uc) l.length (l.map vi):=bv.sl.fr a8 λb _ hb=>hn b hb
    have xo:Own 1 h3 x w (l0.map vi):=by
     have U:=ab.1;unfold iT at U;rw[ab.2.1]at U;exact U
    have xl:(l0.map vi).length=w:=by rw[List.length_map];exact ab.2.1
    refine D0 xo us PI λh4 o4 f4 s4=>?_
    have b1:iT h4 x l:=by
     have h6:(l.map vi).take w++(l0.map vi).drop l.length=l.map vi:=by
      rw[List.take_of_length_le (by rw[List.length_map];omega),List.drop_eq_nil_of_le (by omega),List.append_nil]
     rw[h6]at o4;unfold iT;rw[hw];exact o4
    have al:=G.bag.last (l:=l) f4 b1 hw;have aa:=ab.2.2;have v4:=f4.row G.var λhb=>(aa _ hb).1 rfl
    have m4:=G.map.fr f4 λhb=>(aa _ hb).2.1 rfl
    have b0:=G.free.fr f4 λk A ar=>(aa k ar).2.2.1 A
    simp only[go_sem,ai v4];refine VQ m4 λU m5 u5=>?_
    have an:em j I=none:=by
     cases hc:em j I with
     |none=>rfl
     | some p=>
      exfalso;have h6:em j (kD room rs)=some p.2:=by rw[←a7,pJ,hc];rfl
      unfold kD at h6;split at h6
      ·rw[DQ b4,hg]at h6;split at h6<;>cases h6
      ·rw[hg]at h6;cases h6
    have ax:OH j x (nI Prod.fst I)=nI Prod.fst (I++[(j,(x,l))]):=by
     rw[IR (by rw[pJ,an];rfl)];simp[nI]
    rw[ax]at m5;have f35:Fr M3 h3 U:=(f4.mono λk _ A=>(aa k A).2.2.2).trans (u5.fr.mono λk _ A=>by rw[show k=bm from A];exact G.inM.2.1);have f15:Fr M h1 U:=by
     have h7:Fr (λk=>M k∨h1.size≤k) h1 U:=f13.trans (f35.mono λk _ A=>(n3 k A).elim (n2 k) λh8=>.inr (Nat.le_trans f2.1 h8));exact⟨h7.1,λb hb hm=>h7.2 b hb λhc=>hc.elim hm λU=>by omega⟩
    refine⟨by rw[F],M3,⟨bx,bm,ay,t,I++[(j,(x,l))],bd,rfl,?_,?_,by simp;omega⟩,f15,λk A=>(n3 k A).elim (n2 k) λh8=>.inr (Nat.le_trans f2.1 h8)⟩
    ·have b2:Bag M3 U bx bm ay w (I.map Prod.snd++bd++[(x,l)]):=al.fr u5.fr λq hq k A=>((al.own q hq).2.2 k A).2.1
     exact{
      var:=u5.row (λh=>G.ap.1 h) v4
      map:=m5
      free:=b0.fr u5.fr λk A ar=>G.ap.2.2 (ar▸A)
      bag:=b2.perm (by
       rw[List.append_nil,List.map_append,List.append_assoc,List.append_assoc];exact(List.perm_append_comm (l₁:=[(x,l)])).append_left _)
      ap:=G.ap,inM:=G.inM
      lt:=λk A=>Nat.lt_of_lt_of_le (G.lt k A) f35.1
      nums:=G.nums
      keys:=λe he=>by
       rcases List.mem_append.1 he with he|he
       ·exact G.keys e he
       ·rw[List.mem_singleton.1 he];exact hj
      len:=by simp;omega
      tot:=by simp;omega}
    ·unfold NY;rw[if_pos F,←a7];simp[nI]
 ·have aw:¬(l.length:Int)=(w:Int):=by omega
  have F:sf room w rs j l=false:=by simp[sf,hw]
  simp only[go_sem,ai R.var,aw];exact⟨by rw[F],no F _ (Ext.refl _)⟩
def Ff (rs:List (Int×List Int))(a b n:Int)(is:Bool):Prop:=
 (is=true∧a≤n∧n<b∧em n rs=none∧∀i,a≤i→i<n→(em i rs).isSome=true)∨(is=false∧n=0∧∀i,a≤i→i<b→(em i rs).isSome=true)
theorem W0 {M:Nat→Prop}{h:af}{v:Value}{room w:Nat}{rs:List (Int×List Int)}(H:fQ M h v room w rs){a b:Int}(ha: -9223372036854775808≤a)(hb:b≤9223372036854775807):
  ae prog nR #[v,.int .i64 a,.int .i64 b] h λr h'=>(∃n L,r=.tuple #[.int .i64 n,.bool L]∧Ff rs a b n L)∧h'=h:=by
 apply Dt;unfold tu;refine cO (λd xs h'=>h'=h∧∃j,a≤j∧d=(b-j).toNat∧xs=[.int .i64 j]∧∀i,a≤i→i<j→(em i rs).isSome=true) (b-a).toNat ⟨rfl,a,by omega,rfl,rfl,λi h1 I=>by omega⟩ ?_;rintro d _ ρj h1 again ⟨hh,j,F,rfl,rfl,A⟩ D;subst hh;simp only[go_sem];refine aj (λG=>?_) (λW=>?_)
 ·refine(Vc H j).mono ?_;rintro _ I ⟨rfl,hh⟩;subst hh
  try simp only[go_sem]
  cases U:em j rs with
  |none=>
   simp only[Option.isSome_none,go_sem];exact⟨⟨j,true,rfl,.inl ⟨rfl,F,G,U,A⟩⟩,trivial⟩
  |some p=>
   simp only[Option.isSome_some,go_sem];rw[w64 (by omega) (by omega)];refine D _ _ (b-(j+1)).toNat (by omega) ⟨rfl,j+1,by omega,rfl,rfl,λi h1 I=>?_⟩;by_cases hi:i=j
   ·rw[hi,U];rfl
   ·exact A i h1 (by omega)
 ·exact⟨⟨0,false,rfl,.inr ⟨rfl,rfl,λi h1 I=>A i h1 (by omega)⟩⟩,trivial⟩
theorem wf64 {n:Int}(h1: -9223372036854775808≤n)(A:n≤9223372036854775807):(Lit.int .i64 n).wf=true:=by
 show(decide (IntKind.i64.min≤n)&&decide (n≤IntKind.i64.max))=true;rw[Bool.and_eq_true,decide_eq_true_eq,decide_eq_true_eq];exact⟨h1,A⟩
end Go.Proofs.YtjljhnandbbldaaGreatDoor
namespace Go.Proofs.YtjljhnandbbldaaGreatDoor
open Go Go.Crisp
attribute [local irreducible] ae cE aP stK aA vK qK bC gK dK aU mkK cF Ch DH zZ bsK clK qQ lW Rw
open _root_.Go.Proofs.Tryz
section
structure ef where
 m:Pic
 s:Stg
 t:co
structure ef.Wf (d:ef):Prop where
 m:d.m.Wf
 s:d.s.Wf
 su:lG d.m d.s
 w1:1≤d.t.w
 h1:1≤d.t.h
 x0:0≤d.t.x
 y0:0≤d.t.y
 xw:d.t.x+d.t.w≤d.s.x.lines.length
 yh:d.t.y+d.t.h≤d.s.y.lines.length
abbrev Qt (bf bt:Nat)(p q rv:Value)(d:ef)(y:Int):List Value:=[ptr bf,ptr bt,p,q,.int .i64 d.s.border]++cS d.t++[rv,.int .i64 y]
structure dN (Z M:Nat→Prop)(h:af)(bj bf:Nat)(vf:Value)(bt:Nat)(vt p q rv:Value)(d:ef)(y:Int)(n:Pic)(room w:Nat)(rs:List (Int×List Int)):Prop where
 row:h[bj]? =some (.cells (Qt bf bt p q rv d y).toArray 246 (0,0))
 src:cA h bf vf d.m
 tx:dY Z h p d.s.x
 ty:dY Z h q d.s.y
 ring:fQ M h rv room w rs
 out:cA h bt vt n
 zf:Z bf∧∀c,blk vf c→Z c
 zz:∀c,Z c→¬M c∧c≠bj∧¬blk vt c
 mj:¬M bj∧¬M bt∧(∀c,blk vt c→¬M c)
 jt:bj≠bt∧¬blk vt bj
 y0:d.t.y≤y
 y1:y≤d.t.y+d.t.h
 zl:∀c,Z c→c<h.size
section
variable {Z M:Nat→Prop}{h:af}{bj bf:Nat}{vf:Value}{bt:Nat}{vt p q rv:Value}{d:ef}{y:Int}{n:Pic}{room w:Nat}{rs:List (Int×List Int)}
theorem dN.ext {h':af}(J:dN Z M h bj bf vf bt vt p q rv d y n room w rs)(e:Ext h h'):dN Z M h' bj bf vf bt vt p q rv d y n room w rs:=
 ⟨e.row J.row,J.src.ext e,J.tx.ext e,J.ty.ext e,J.ring.ext e,J.out.ext e,J.zf,J.zz,J.mj,J.jt,J.y0,J.y1,λc hc=>Nat.lt_of_lt_of_le (J.zl c hc) e.1⟩
theorem ef.bd (W:d.Wf):d.t.x+d.t.w≤65536∧d.t.y+d.t.h≤65536:=by
 have:=W.s.x.len;have:=W.s.y.len;have:=W.xw;have:=W.yh;omega
theorem Ye (J:dN Z M h bj bf vf bt vt p q rv d y n room w rs)(W:d.Wf):ae prog mf #[ptr bj] h λr h'=>r=.bool (decide (d.t.y+d.t.h≤y))∧h'=h:=by
 apply BD;unfold rB;have D:=ef.bd W;have h1:=W.y0;have A:=W.h1;simp only[go_sem,Nat.zero_add,ai J.row];simp only[Qt,cS,List.cons_append,List.nil_append,List.getElem?_toArray,List.getElem?_cons_succ,List.getElem?_cons_zero,go_sem];rw[w64 (n:=d.t.y+d.t.h) (by omega) (by omega)];exact⟨rfl,trivial⟩
theorem dN.c2 {h':af}(J:dN Z M h bj bf vf bt vt p q rv d y n room w rs)(e:Ext h h'):aB h' ⟨bj,2,none⟩=some p:=by rw[ai (e.row J.row)];rfl
theorem dN.c3 {h':af}(J:dN Z M h bj bf vf bt vt p q rv d y n room w rs)(e:Ext h h'):aB h' ⟨bj,3,none⟩=some q:=by rw[ai (e.row J.row)];rfl
theorem dN.c4 {h':af}(J:dN Z M h bj bf vf bt vt p q rv d y n room w rs)(e:Ext h h'):aB h' ⟨bj,4,none⟩=some (.int .i64 d.s.border):=by rw[ai (e.row J.row)];rfl
theorem dN.c0 {h':af}(J:dN Z M h bj bf vf bt vt p q rv d y n room w rs)(e:Ext h h'):aB h' ⟨bj,0,none⟩=some (ptr bf):=by rw[ai (e.row J.row)];rfl
theorem dN.c1 {h':af}(J:dN Z M h bj bf vf bt vt p q rv d y n room w rs)(e:Ext h h'):aB h' ⟨bj,1,none⟩=some (ptr bt):=by rw[ai (e.row J.row)];rfl
theorem dN.c6 {h':af}(J:dN Z M h bj bf vf bt vt p q rv d y n room w rs)(e:Ext h h'):aB h' ⟨bj,6,none⟩=some (.int .i64 d.t.x):=by rw[ai (e.row J.row)];rfl
theorem dN.c8 {h':af}(J:dN Z M h bj bf vf bt vt p q rv d y n room w rs)(e:Ext h h'):aB h' ⟨bj,8,none⟩=some (.int .i64 d.t.w):=by rw[ai (e.row J.row)];rfl
theorem dN.c15 {h':af}(J:dN Z M h bj bf vf bt vt p q rv d y n room w rs)(e:Ext h h'):aB h' ⟨bj,15,none⟩=some rv:=by rw[ai (e.row J.row)];rfl
theorem dN.c16 {h':af}(J:dN Z M h bj bf vf bt vt p q rv d y n room w rs)(e:Ext h h'):aB h' ⟨bj,16,none⟩=some (.int .i64 y):=by rw[ai (e.row J.row)];rfl
theorem LY (J:dN Z M h bj bf vf bt vt p q rv d y n room w rs)(W:d.Wf):ae prog jn #[ptr bj] h λr h'=>
  ∃u,r=.agg #[.int .i64 (aZ d.s.y y).1,u]∧SlI (eo h h') h' u (aZ d.s.y y).2∧Ext h h':=by
 apply BE;unfold rC;refine aC λL h1 r1 A H=>?_
 have U:=aW r1;simp only[go_sem,Nat.zero_add];refine aI (λh'=>h'=h1) rfl ?_;refine ao q (λh' e=>by rw[e];exact J.c3 A) ?_;refine ao (.int .i64 y) (λh' e=>by rw[e];exact J.c16 A) ?_;refine(zt (J.ty.ext A) W.s.y).mono λr h2 ⟨u,e,S,F⟩=>?_
 subst e;refine ch (l:=[.int .i64 (aZ d.s.y y).1,u]) (F.row r1) rfl (ak rfl (ak S.one aQ)) rfl λh3 I G=>?_
 rw[aM I 2 rfl,ah];refine⟨u,rfl,?_,(A.trans F).upd H G⟩;refine(S.fr G.fr λc _ D he=>?_).mono λc hc D=>⟨Nat.le_trans A.1 D.1,hc⟩
 have:=D.1;omega
abbrev yZ (k j:Int):Value:=.agg #[.int .i64 k,.int .i64 j]
def PC (d:ef)(y:Int)(rs:List (Int×List Int))(k j:Int):Prop:=
 if d.t.y+d.t.h≤y then k=0∧j=0 else
  (k=1∧Ff rs (aZ d.s.y y).1 ((aZ d.s.y y).1+((aZ d.s.y y).2.length:Int)) j true)∨(k=2∧j=y∧Ff rs (aZ d.s.y y).1 ((aZ d.s.y y).1+((aZ d.s.y y).2.length:Int)) 0 false)
theorem Tf (J:dN Z M h bj bf vf bt vt p q rv d y n room w rs)(W:d.Wf):ae prog gq #[ptr bj] h λr h'=>∃k j,r=yZ k j∧PC d y rs k j∧Ext h h':=by
 apply BG;unfold rE;refine aC λb1 h1 r1 I n1=>?_
 have l1:=aW r1;have G:=J.ext I;refine(Ye G W).mono λr H ⟨e,A⟩=>?_
 have A:=A.symm;subst e A;refine aj (λH=>?_) (λH=>?_)
 ·rw[fo,bi,ah];refine ch (l:=[.int .i64 0,.int .i64 0]) r1 rfl (ak rfl (ak rfl aQ)) rfl λh3 r3 u3=>?_
  rw[aM r3 2 rfl,ah];exact⟨0,0,rfl,by unfold PC;rw[if_pos H];exact⟨rfl,rfl⟩,I.upd n1 u3⟩
 refine(LY G W).mono λr h3 ⟨u,e,S,e3⟩=>?_
 subst e;refine cD (cs:=[.int .i64 (aZ d.s.y y).1,u]) rfl (ak rfl (ak S.one aQ)) rfl λb4 h4 U e4 n4=>?_
 have D:=e3.trans e4;have J4:=G.ext D;have hl:=oh W.s.y y;obtain⟨au,cu,eu⟩:=S.isSl;have aa:aq u=some (.int .i64 ((aZ d.s.y y).2.length:Int)):=by rw[eu];rfl
 have hN:∀k j,PC d y rs k j↔((k=1∧Ff rs (aZ d.s.y y).1 ((aZ d.s.y y).1+((aZ d.s.y y).2.length:Int)) j true)∨(k=2∧j=y∧Ff rs (aZ d.s.y y).1 ((aZ d.s.y y).1+((aZ d.s.y y).2.length:Int)) 0 false)):=λk j=>by unfold PC;rw[if_neg H]
 generalize aZ d.s.y y=L at*;refine aI (λh'=>h'=h4) rfl ?_;simp only[go_sem,Nat.zero_add];refine ao rv (λh' e=>by rw[e];exact G.c15 D) ?_;refine ao (.int .i64 L.1) (λh' e=>by rw[e];exact ai U) ?_;refine ao (.int .i64 L.1) (λh' e=>by rw[e];exact ai U) ?_;refine ao u (λh' e=>by rw[e];exact ai U) ?_;refine ao (.int .i64 (L.2.length:Int)) (λh' e=>aa) ?_;simp only[go_sem];rw[w64 (n:=L.1+(L.2.length:Int)) (by omega) (by omega)];refine(W0 J4.ring (a:=L.1) (b:=L.1+(L.2.length:Int)) (by omega) (by omega)).mono λr h5 ⟨⟨j,is,e,hn⟩,A⟩=>?_
 have A:=A.symm;subst e A;simp only[go_sem];have F:=D.row r1;refine iH (λhi=>?_) (λhi=>?_)
 ·subst hi;have hf:aF #[(.int .i64 0),(.int .i64 0)] [(0,1,Value.int .i64 1),(1,1,Value.int .i64 j)]=some #[.int .i64 1,.int .i64 j]:=wD rfl rfl;rw[hf,bi,ah];refine ch (l:=[.int .i64 1,.int .i64 j]) F rfl (ak rfl (ak rfl aQ)) rfl λh6 r6 u6=>?_
  rw[aM r6 2 rfl,ah];exact⟨1,j,rfl,(hN 1 j).2 (.inl ⟨rfl,hn⟩),(I.trans D).upd n1 u6⟩
 ·subst hi;have hj:j=0:=by rcases hn with⟨hh,_⟩|⟨_,hh,_⟩;cases hh;exact hh
  subst hj;rw[G.c16 D,ah];have hf:aF #[(.int .i64 0),(.int .i64 0)] [(0,1,Value.int .i64 2),(1,1,Value.int .i64 y)]=some #[.int .i64 2,.int .i64 y]:=wD rfl rfl;rw[hf,bi,ah];refine ch (l:=[.int .i64 2,.int .i64 y]) F rfl (ak rfl (ak rfl aQ)) rfl λh6 r6 u6=>?_
  rw[aM r6 2 rfl,ah];exact⟨2,y,rfl,(hN 2 y).2 (.inr ⟨rfl,rfl,hn⟩),(I.trans D).upd n1 u6⟩
end
end
section
section
variable {Z M:Nat→Prop}{h:af}{bj bf:Nat}{vf:Value}{bt:Nat}{vt p q rv:Value}{d:ef}{y:Int}{n:Pic}{room w:Nat}{rs:List (Int×List Int)}
def SQ (d:ef)(x row:Int):List Int:=(List.range d.m.c.toNat).map λc:Nat=>IntKind.i64.wrap (qW d.m d.s x row c)
theorem U7 {h0:af}{u:Value}{l:List Int}{x row:Int}(J:dN Z M h0 bj bf vf bt vt p q rv d y n room w rs)(W:d.Wf)(N:New (Rp.int .i64) h0 h u l)(hl:l.length≤1000000):
  ae prog kb #[ptr bj,.int .i64 x,.int .i64 row,u] h λr h'=>New (Rp.int .i64) h0 h' r (l++SQ d x row):=by
 apply yK;unfold oP;have E0:=N.2.1;simp only[go_sem,Nat.zero_add,J.c2 E0];refine(zt (J.tx.ext E0) W.s.x).mono λr h1 ⟨v,e,S,e1⟩=>?_
 subst e;refine cD (cs:=[.int .i64 (aZ d.s.x x).1,v]) rfl (ak rfl (ak S.one aQ)) rfl λb2 h2 r2 e2 n2=>?_
 have E2:=E0.trans (e1.trans e2);simp only[go_sem,Nat.zero_add,J.c0 E2];refine(dA (J.src.ext E2)).mono λr h3 ⟨e,A⟩=>?_
 have A:=A.symm;subst e A;have hf:=cL W.m.fits;have aw:=oh W.s.x x;unfold SQ qW;obtain⟨C,hC⟩:∃C:Nat,d.m.c=(C:Int):=⟨d.m.c.toNat,by omega⟩
 rw[hC,Int.toNat_natCast];have S2:=S.ext e2;have Sz:SlI (λc=>¬blk u c∧c≠b2∧c<h2.size) h2 v (aZ d.s.x x).2:=S2.mono λc hc G=>⟨λhu=>by have:=N.lt hu;have:=G.1;omega,λhe=>by have:=G.2;omega,hc⟩
 have al:¬blk u b2:=λhu=>by have:=N.lt hu;have:=e1.1;omega
 generalize aZ d.s.x x=L at*;obtain⟨av,cv,ev⟩:=S.isSl;have au:aq v=some (.int .i64 (L.2.length:Int)):=by rw[ev];rfl
 obtain⟨g,hg⟩:∃g:Nat→Int,g=λc:Nat=>IntKind.i64.wrap (vU (λi=>L.2.getD i 0*atP d.m (atZ d.s.border (L.1+i) d.m.w) row c) L.2.length):=⟨_,rfl⟩
 rw[←hg];refine bA (α:=Value) C 0 (λc u=>[u,.int .i64 (c:Int)]) (λc u h'=>New (Rp.int .i64) h0 h' u (l++(List.range c).map g)∧SlI (λc=>¬blk u c∧c≠b2∧c<h2.size) h' v L.2∧h2.size≤h'.size∧h'[b2]? =some (.cells #[.int .i64 L.1,v] 189 (0,0))∧¬blk u b2∧Ext h0 h') u rfl (Nat.zero_le _)
  ⟨by simpa using N.ext (e1.trans e2),Sz,Nat.le_refl _,r2,al,E2⟩ λc u h4 again ρ1 _ hc ⟨N4,S4,ab,r4,u4,E4⟩ ad=>?_
 simp only[go_sem];refine aj (λh5=>?_) (λh5=>?_)
 ·have c1:aB h4 ⟨b2,1,none⟩=some v:=ai r4;simp only[go_sem,Nat.zero_add,c1,au];have J4:=J.ext E4;refine jN (λi=>[.int .i64 (IntKind.i64.wrap (vU (λi=>L.2.getD i 0*atP d.m (atZ d.s.border (L.1+i) d.m.w) row c) i)),.int .i64 (i:Int)]) L.2.length 0 rfl (Nat.zero_le _) λi aa ρ2 _ hi F=>?_
  simp only[go_sem];refine aj (λh6=>?_) (λh6=>?_)
  ·have I:i<L.2.length:=by omega
   have F:=F I;obtain⟨pi,i1,i2⟩:=S4.int_at (k':=.i64) I;have ea:L.2.getD i 0=L.2[i]:=by simp[List.getD_eq_getElem?_getD,I]
   rw[i1,ah,i2,ah,←ea];refine aI (λh'=>h'=h4) rfl ?_
   try simp only[go_sem,Nat.zero_add]
   refine ao (.int .i64 d.s.border) (λh' e=>by rw[e];exact J.c4 E4) ?_;refine ao (.int .i64 L.1) (λh' e=>by rw[e];exact ai r4) ?_
   try simp only[go_sem,Nat.zero_add]
   refine ao (ptr bf) (λh' e=>by rw[e];exact J.c0 E4) ?_;rw[w64 (n:=L.1+(i:Int)) (by omega) (by omega)];refine(qU J4.src).mono λr D ⟨e,A⟩=>?_
   have A:=A.symm;subst e A;refine⟨rfl,?_⟩;refine(sF (by unfold I64;omega)).mono λr D ⟨e,A⟩=>?_
   have A:=A.symm;subst e A;simp only[go_sem,Nat.zero_add,J.c0 E4];refine(Xd J4.src W.m).mono λr D ⟨e,A⟩=>?_
   have A:=A.symm;subst e A;have hv:=Vm W.m (atZ d.s.border (L.1+(i:Int)) d.m.w) row c;have hm:=W.m.m2;simp only[go_sem];rw[w64 (n:=atP d.m (atZ d.s.border (L.1+(i:Int)) d.m.w) row c) (by omega) (by omega),K2,w64 (n:=(i:Int)+1) (by omega) (by omega)];exact F
  ·have ar:i=L.2.length:=by omega
   subst ar;have an:IntKind.i64.wrap (vU (λi=>L.2.getD i 0*atP d.m (atZ d.s.border (L.1+i) d.m.w) row c) L.2.length)=g c:=by rw[hg]
   rw[an];have H:(l++(List.range c).map g).length=l.length+c:=by simp
   refine Rp.push_ow1 (e:=Rp.int .i64) rfl N4.1 (x:=g c) rfl rfl (by rw[H];omega) (by rw[H];omega) (λb hb=>hb.elim) λs' h' o' f' n'=>?_
   try simp only[go_sem]
   rw[w64 (by omega) (by omega)];have E':Ext h0 h':=E4.then_fr f' N4.2.2;have U:∀b,blk s' b→blk u b∨h4.size≤b:=n';refine ad s' h' (by omega) ⟨⟨by rw[pX _ (c+1) c (by omega),←List.append_assoc];exact o',E',λb hb=>?_⟩,?_,Nat.le_trans ab f'.1,f'.row r4 u4,λhb=>?_,E'⟩
   ·rcases U b hb with D|D
    ·exact N4.2.2 b D
    ·exact Nat.le_trans E4.1 D
   ·refine(S4.fr f' λb _ G=>G.1).mono λb hb G=>⟨λhs=>?_,G.2⟩
    rcases U b hs with D|D
    ·exact G.1 D
    ·have:=G.2.2;omega
   ·rcases U _ hb with D|D
    ·exact u4 D
    ·have:=aW r4;omega
 ·have:c=C:=by omega
  subst this;exact N4
def He (d:ef)(real:Int):Nat→List Int
 |0=>[]
 |x+1=>He d real x++SQ d (d.t.x+x) real
def By (d:ef)(j:Int):List Int:=He d (atZ d.s.border j d.m.h) d.t.w.toNat
theorem UI (d:ef)(x row:Int):(SQ d x row).length=d.m.c.toNat:=by unfold SQ;simp
theorem yE (d:ef)(real:Int):∀k,(He d real k).length=k*d.m.c.toNat
 |0=>by simp[He]
 |k+1=>by unfold He;rw[List.length_append,yE,UI,Nat.add_mul,Nat.one_mul]
theorem NU (d:ef)(real:Int){x c:Nat}(hc:c<d.m.c.toNat):∀{k:Nat},x<k→(He d real k).getD (x*d.m.c.toNat+c) 0=IntKind.i64.wrap (qW d.m d.s (d.t.x+x) real c)
 |0,h=>absurd h (by omega)
 | k+1,h=>by
  unfold He;have D:=yE d real k;by_cases F:x<k
  ·have h1:x*d.m.c.toNat+c<(He d real k).length:=by
    rw[D];have:(x+1)*d.m.c.toNat≤k*d.m.c.toNat:=Nat.mul_le_mul_right _ F;rw[Nat.add_mul,Nat.one_mul]at this;omega
   have:=NU d real hc F;rw[List.getD_eq_getElem?_getD]at this ⊢;rw[List.getElem?_append_left h1];exact this
  ·have A:x=k:=by omega
   subst A;rw[List.getD_eq_getElem?_getD,List.getElem?_append_right (by omega),D,Nat.add_sub_cancel_left];unfold SQ;simp[hc]
theorem U4 {j:Int}(J:dN Z M h bj bf vf bt vt p q rv d y n room w rs)(W:d.Wf)(hj:I64 j)(hs:d.t.w≤300):
  ae prog ka #[ptr bj,.int .i64 j] h λr h'=>∃M',dN Z M' h' bj bf vf bt vt p q rv d y n room w (NY room w rs j (By d j))∧Fr M h h'∧∀k,M' k→M k∨h.size≤k:=by
 apply yJ;unfold oO;have hf:=cL W.m.fits;have hb:=ef.bd W;have ar:=W.w1;have an:=W.x0;simp only[go_sem,Nat.zero_add];refine aI (λh'=>h'=h) rfl ?_;refine ao (.int .i64 d.s.border) (λh' e=>by rw[e];exact J.c4 (Ext.refl _)) ?_;refine ao (ptr bf) (λh' e=>by rw[e];exact J.c0 (Ext.refl _)) ?_;refine(pP J.src).mono λr h1 ⟨e,I⟩=>?_
 have I:=I.symm;subst e I;refine⟨rfl,?_⟩;refine(sF hj).mono λr h1 ⟨e,I⟩=>?_
 have I:=I.symm;subst e I;simp only[go_sem,Nat.zero_add,J.c8 (Ext.refl _)];unfold By;generalize atZ d.s.border j d.m.h=real;obtain⟨N,hN⟩:∃N:Nat,d.t.w=(N:Int):=⟨d.t.w.toNat,by omega⟩
 rw[hN,Int.toNat_natCast];have hC:d.m.c.toNat≤3:=by omega
 have F:∀k,k≤N→(He d real k).length≤900:=λk U=>by
  rw[yE];have:=Nat.mul_le_mul (show k≤300 by omega) hC;omega
 refine bA (α:=Value) N 0 (λk u=>[u,.int .i64 (k:Int)]) (λk u h'=>New (Rp.int .i64) h h' u (He d real k)) (.slice none 0 0) rfl (Nat.zero_le _) (New.nil (Ext.refl _)) λk u h2 again ρ1 _ U A aa=>?_
 simp only[go_sem];refine aj (λh3=>?_) (λh3=>?_)
 ·simp only[go_sem,Nat.zero_add,J.c6 A.2.1];rw[w64 (n:=d.t.x+(k:Int)) (by omega) (by omega)];refine(U7 J W A (by have:=F k U;omega)).mono λr h4 N4=>?_
  rw[w64 (by omega) (by omega)];exact aa r h4 (by omega) N4
 ·have al:k=N:=by omega
  subst al;have L:=J.ext A.2.1;simp only[go_sem,Nat.zero_add,J.c15 A.2.1];have ad:jP h2 u (He d real k):=by
   obtain⟨a,cap,e⟩:=A.isSl;refine⟨a,cap,e,?_⟩;have o:=(Mq A.1).sl;obtain⟨_,a',c',e',ho⟩:=o;rw[e]at e';cases e';rcases ho with ho|⟨b,o,ha,ho⟩
   ·left;simpa using ho
   ·refine .inr ⟨b,o,ha,λi hi=>?_⟩;have:=ho i (by simpa using hi);rw[this,List.getElem_map];rfl
  refine(Ym L.ring (by unfold I64 at hj;exact wf64 hj.1 hj.2) ad (by have:=F k U;omega) λb hb hm=>?_).mono λr h5 ⟨e,M',R',H,m'⟩=>?_
  ·have D:=A.2.2 b hb;have h7:=J.ring.lt hm;omega
  have lt:∀c,c<h.size→¬M c→¬M' c:=λc hc hm ab=>by
   rcases m' c ab with D|D
   ·exact hm D
   ·have:=A.2.1.1;omega
  have zl:=J.zl;have zM:∀c,Z c→¬M c:=λc hc=>(J.zz c hc).1
  refine⟨M',⟨H.row L.row J.mj.1,L.src.fr H (zM _ J.zf.1) λc hc=>zM _ (J.zf.2 c hc),L.tx.fr H λc _ G=>zM c G,L.ty.fr H λc _ G=>zM c G,R',L.out.fr H J.mj.2.1 J.mj.2.2,J.zf,
   λc G=>⟨lt c (zl c G) (zM c G),(J.zz c G).2⟩,⟨lt _ (aW J.row) J.mj.1,lt _ J.out.lt J.mj.2.1,λc hc=>lt c (J.out.ltv hc) (J.mj.2.2 c hc)⟩,J.jt,J.y0,J.y1,λc hc=>?_⟩,A.2.1.fr.trans H,λk U=>?_⟩
  ·have D:=zl c hc;have h7:=A.2.1.1;have h8:=H.1;omega
  ·rcases m' k U with D|D
   ·exact .inl D
   ·exact .inr (Nat.le_trans A.2.1.1 D)
end
end
section
structure Ea (d:ef)(n:Pic):Prop where
 wf:n.Wf
 w:n.w=d.s.x.lines.length
 h:n.h=d.s.y.lines.length
 c:n.c=d.m.c
 m:n.most=d.m.most
section
variable {Z M:Nat→Prop}{h:af}{bj bf:Nat}{vf:Value}{bt:Nat}{vt p q rv:Value}{d:ef}{y:Int}{n:Pic}{room w:Nat}{rs:List (Int×List Int)}
theorem dN.set {h':af}{n':Pic}(J:dN Z M h bj bf vf bt vt p q rv d y n room w rs)(f:Fr (blk vt) h h')(I:cA h' bt vt n'):dN Z M h' bj bf vf bt vt p q rv d y n' room w rs:=
 ⟨f.row J.row J.jt.2,J.src.fr f (J.zz _ J.zf.1).2.2 λc hc=>(J.zz _ (J.zf.2 c hc)).2.2,J.tx.fr f λc _ A=>(J.zz c A).2.2,J.ty.fr f λc _ A=>(J.zz c A).2.2,J.ring.fr f λc _ F D=>J.mj.2.2 c D F,I,J.zf,J.zz,J.mj,J.jt,J.y0,J.y1,
  λc hc=>Nat.lt_of_lt_of_le (J.zl c hc) f.1⟩
def uT (d:ef)(y:Int)(i:Int)(x' y' c':Int):Prop:=y'=y∧d.t.x≤x'∧x'<d.t.x+d.t.w∧(x'-d.t.x)*d.m.c+c'<i
instance (d:ef)(y i D A c':Int):Decidable (uT d y i D A c'):=by unfold uT;infer_instance
theorem Wv (J:dN Z M h bj bf vf bt vt p q rv d y n room w rs)(W:d.Wf)(O:Ea d n)(hs:d.t.w≤300)(hy:y<d.t.y+d.t.h)(hw:(w:Int)=d.t.w*d.m.c)
  (a8:∀k:Nat,k<(aZ d.s.y y).2.length→em ((aZ d.s.y y).1+(k:Int)) rs=some (By d ((aZ d.s.y y).1+(k:Int)))):
  ae prog kT #[ptr bj] h λr h'=>∃n',dN Z M h' bj bf vf bt vt p q rv d (y+1) n' room w rs∧Ea d n'∧(∀D F c',inP n D F c'→atP n' D F c'=if uT d y w D F c' then ut d.m d.s D F c' else atP n D F c')∧Fr (λc=>blk vt c∨c=bj) h h':=by
 apply Am;unfold qp;have hf:=cL W.m.fits;have hb:=ef.bd W;have ee:=W.w1;have dz:=W.x0;have dq:=W.y0;refine(LY J W).mono λr h1 ⟨u,e,S,e1⟩=>?_
 subst e;have hl:=oh W.s.y y;refine cD (cs:=[.int .i64 (aZ d.s.y y).1,u]) rfl (ak rfl (ak S.one aQ)) rfl λb2 h2 r2 e2 n2=>?_
 have E2:=e1.trans e2;have S2:=S.ext e2;obtain⟨au,cu,eu⟩:=S.isSl;have ca:aq u=some (.int .i64 ((aZ d.s.y y).2.length:Int)):=by rw[eu];rfl
 have be:∀x c,vU (λk=>(aZ d.s.y y).2.getD k 0*qW d.m d.s x (atZ d.s.border ((aZ d.s.y y).1+k) d.m.h) c) (aZ d.s.y y).2.length=GI d.m d.s x y c:=λx c=>rfl
 generalize aZ d.s.y y=L at*;obtain⟨C,hC⟩:∃C:Nat,d.m.c=(C:Int):=⟨d.m.c.toNat,by omega⟩
 have b8:1≤C∧C≤3:=by omega
 obtain⟨Wn,a7⟩:∃Wn:Nat,d.t.w=(Wn:Int):=⟨d.t.w.toNat,by omega⟩
 have ab:w=Wn*C:=by
  rw[a7,hC]at hw
  exact_mod_cast hw
 have eh:w≤900:=by
  rw[ab];have:=Nat.mul_le_mul (show Wn≤300 by omega) b8.2;omega
 simp only[go_sem,Nat.zero_add,J.c15 E2];refine(Vb (J.ring.ext E2)).mono λr h3 ⟨e,H⟩=>?_
 have H:=H.symm;subst e H;refine lU rfl (by omega) (by omega) λsv h3 o3 e3 n3=>?_
 have E3:=E2.trans e3;have c1:aB h3 ⟨b2,1,none⟩=some u:=ai (e3.row r2);simp only[go_sem,Nat.zero_add,c1,ca]
 -- the sums
 obtain⟨g,hg⟩:∃g:Nat→Nat→Int,g=λk i=>vU (λk=>L.2.getD k 0*qW d.m d.s (d.t.x+((i/C:Nat):Int)) (atZ d.s.border (L.1+k) d.m.h) ((i%C:Nat):Int)) k:=⟨_,rfl⟩
 refine bA (α:=Unit) L.2.length 0 (λk _=>[.int .i64 (k:Int)]) (λk _ h'=>Ext h2 h'∧Own 1 h' sv w ((List.range w).map λi=>Value.int .i64 (IntKind.i64.wrap (g k i)))) () rfl (Nat.zero_le _)
  ⟨e3,by
   rw[Gv]at o3;rw[←bE (g:=λi=>Value.int .i64 ((λ_=>0:Nat→Int) i)) λi _=>by rw[hg];rfl];exact o3⟩ λk _ h4 again ρ1 _ hk ⟨E4,o4⟩ ax=>?_
 have aa:=E2.trans E4;simp only[go_sem];refine aj (λh5=>?_) (λh5=>?_)
 ·have aw:k<L.2.length:=by omega
  obtain⟨pk,k1,k2⟩:=(S2.ext E4).int_at (k':=.i64) aw;have eb:L.2.getD k 0=L.2[k]:=by simp[List.getD_eq_getElem?_getD,aw]
  rw[k1,ah,k2,ah,←eb];refine aI (λh'=>h'=h4) rfl ?_
  try simp only[go_sem,Nat.zero_add]
  refine ao rv (λh' e=>by rw[e];exact J.c15 aa) ?_;refine ao (.int .i64 L.1) (λh' e=>by rw[e];exact ai (E4.row r2)) ?_;simp only[go_sem];rw[w64 (n:=L.1+(k:Int)) (by omega) (by omega)];refine(Yl (J.ring.ext aa) (L.1+(k:Int))).mono λr h5 ⟨v,e,ov,e5,nv⟩=>?_
  subst e;rw[a8 k aw]at ov;have ov:iT h5 v (By d (L.1+(k:Int))):=ov;have cc:(By d (L.1+(k:Int))).length=w:=by
   unfold By;rw[yE,a7,hC,Int.toNat_natCast,Int.toNat_natCast,ab]
  have Sv:=BB (k:=.i64) ov;obtain⟨av,cv,ev⟩:=Sv.isSl;have cr:aq v=some (.int .i64 (w:Int)):=by rw[ev,cc];rfl
  simp only[go_sem,cr];have o5:=o4.fr (M:=λ_=>False) e5.fr λ_ _=>id
  have b3:∀i,i<w→(By d (L.1+(k:Int))).getD i 0=IntKind.i64.wrap (qW d.m d.s (d.t.x+((i/C:Nat):Int)) (atZ d.s.border (L.1+(k:Int)) d.m.h) ((i%C:Nat):Int)):=λi hi=>by
   have h6:i%C<C:=Nat.mod_lt _ (by omega);have h7:i/C<Wn:=by rw[Nat.div_lt_iff_lt_mul (by omega),←ab];exact hi
   have U:=NU d (atZ d.s.border (L.1+(k:Int)) d.m.h) (x:=i/C) (c:=i%C) (by rw[hC,Int.toNat_natCast];exact h6) (k:=Wn) h7;rw[hC,Int.toNat_natCast,Nat.mul_comm,Nat.div_add_mod]at U;unfold By;rw[a7,Int.toNat_natCast];exact U
  have bk:∀c,blk sv c→¬blk v c:=λc hc hv=>by
   have:=nv c hv;have:=o4.lt hc;omega
  refine bA (α:=Unit) w 0 (λi _=>[.int .i64 (i:Int)]) (λi _ h'=>Ext h2 h'∧Rp.Sl (Rp.int .i64) (blk v) h' v (By d (L.1+(k:Int)))∧Own 1 h' sv w ((List.range w).map λj=>Value.int .i64 (IntKind.i64.wrap (if j<i then g (k+1) j else g k j)))) () rfl (Nat.zero_le _)
   ⟨E4.trans e5,Sv,by
    rw[←bE (g:=λi=>Value.int .i64 (IntKind.i64.wrap (g k i))) λi _=>by rw[if_neg (by omega)]];exact o5⟩ λi _ h6 b4 ρ2 _ hi ⟨E6,b0,o6⟩ bo=>?_
  simp only[go_sem];refine aj (λh7=>?_) (λh7=>?_)
  ·have G:i<w:=by omega
   obtain⟨pv,v1,v2⟩:=b0.int_at (k':=.i64) (i:=i) (by omega);have ct:(By d (L.1+(k:Int)))[i]'(by omega)=(By d (L.1+(k:Int))).getD i 0:=by simp[List.getD_eq_getElem?_getD,show i<(By d (L.1+(k:Int))).length by omega]
   rw[ct,b3 i G]at v2;obtain⟨ps,s1,s2,s3⟩:=Own.at_map o6 (k:=.i64) G;simp only[go_sem,v1,v2,s1,s2];rw[if_neg (by omega),Bt,K2];have ci:g k i+L.2.getD k 0*qW d.m d.s (d.t.x+((i/C:Nat):Int)) (atZ d.s.border (L.1+(k:Int)) d.m.h) ((i%C:Nat):Int)=g (k+1) i:=by rw[hg];rfl
   rw[ci];refine s3 _ _ λU o8 f8=>?_
   rw[w64 (by omega) (by omega)];refine bo () U G ⟨E6.then_fr f8 λc hc=>n3 c hc,b0.fr f8 λc _ hz hs=>bk c hs hz,?_⟩;rw[←bE (g:=λj=>Value.int .i64 (if j=i then IntKind.i64.wrap (g (k+1) i)else IntKind.i64.wrap (if j<i then g (k+1) j else g k j))) λj _=>by
    congr 1
    by_cases h1:j=i
    ·rw[if_pos h1,if_pos (by omega),h1]
    ·rw[if_neg h1];by_cases h2:j<i
     ·rw[if_pos h2,if_pos (by omega)]
     ·rw[if_neg h2,if_neg (by omega)]]
   exact o8
  ·have ay:i=w:=by omega
   subst ay;rw[w64 (by omega) (by omega)];refine ax () h6 (by omega) ⟨E6,?_⟩;rw[←bE (g:=λj=>Value.int .i64 (IntKind.i64.wrap (if j<i then g (k+1) j else g k j))) λj hj=>by rw[if_pos hj]];exact o6
 have cw:k=L.2.length:=by omega
 subst cw;have J4:=J.ext aa;have bv:Own 1 h4 sv w ((List.range w).map λi=>Value.int .i64 (IntKind.i64.wrap (GI d.m d.s (d.t.x+((i/C:Nat):Int)) y ((i%C:Nat):Int)))):=by
  rw[←bE (g:=λi=>Value.int .i64 (IntKind.i64.wrap (g L.2.length i))) λi _=>by rw[hg];rw[←be]];exact o4
 have cb:∀c,blk sv c→¬blk vt c:=λc hc hv=>by
  have h6:=n3 c hc;have h7:=J.out.ltv hv;have U:=E2.1;omega
 obtain⟨ei,ec,es⟩:=bv.isSl;have b5:aq sv=some (.int .i64 (w:Int)):=by rw[es];rfl
 simp only[go_sem,Nat.zero_add,J.c1 aa];refine(dA J4.out).mono λr h5 ⟨e,H⟩=>?_
 have H:=H.symm;subst e H;rw[O.c,hC];simp only[go_sem,b5];refine bA (α:=Pic) w 0 (λi _=>[.int .i64 (i:Int)]) (λi n' h'=>dN Z M h' bj bf vf bt vt p q rv d y n' room w rs∧Ea d n'∧(∀D F c',inP n D F c'→atP n' D F c'=if uT d y i D F c' then ut d.m d.s D F c' else atP n D F c')∧
   Own 1 h' sv w ((List.range w).map λi=>Value.int .i64 (IntKind.i64.wrap (GI d.m d.s (d.t.x+((i/C:Nat):Int)) y ((i%C:Nat):Int))))∧Fr (blk vt) h4 h') n rfl (Nat.zero_le _)
  ⟨J4,O,λD F c' hi=>by
   rw[if_neg];unfold uT inP at*;rintro⟨a1,a2,a3,a4⟩;have:=Int.mul_nonneg (show 0≤D-d.t.x by omega) (show 0≤d.m.c by omega);omega,bv,Fr.refl _ _⟩ λi n' h6 again ρ3 _ hi ⟨A,I,A6,o6,f6⟩ ax=>?_
 simp only[go_sem];refine aj (λh7=>?_) (λh7=>?_)
 ·have G:i<w:=by omega
  obtain⟨ps,s1,s2,_⟩:=Own.at_map o6 (k:=.i64) G;simp only[go_sem,s1,s2];refine aI (λh'=>h'=h6) rfl ?_
  try simp only[go_sem,Nat.zero_add]
  refine ao (ptr bt) (λh' e=>by rw[e];exact A.c1 (Ext.refl _)) ?_;refine ao (.int .i64 d.t.x) (λh' e=>by rw[e];exact A.c6 (Ext.refl _)) ?_;rw[kq _ _ _ _ (by omega),ah,Int.tdiv_eq_ediv_of_nonneg (by omega),show(i:Int)/(C:Int)=((i/C:Nat):Int)by omega];have c0:i/C<Wn:=by rw[Nat.div_lt_iff_lt_mul (by omega),←ab];exact G
  have c2:i%C<C:=Nat.mod_lt _ (by omega);have dl:=Nat.div_add_mod i C;have c4:((i/C:Nat):Int)*(C:Int)+((i%C:Nat):Int)=(i:Int):=by
   rw[←Int.natCast_mul,Nat.mul_comm];omega
  have bg:(i:Int)%(C:Int)=((i%C:Nat):Int):=by omega
  have c3:=A6;generalize c8:i/C=qd at*;generalize ej:i%C=rd at*;simp only[go_sem];rw[w64 (n:=(qd:Int)) (by omega) (by omega),w64 (n:=d.t.x+(qd:Int)) (by omega) (by omega)];refine ao (.int .i64 y) (λh' e=>by rw[e];exact A.c16 (Ext.refl _)) ?_;rw[dc _ _ _ _ (by omega),ah,Int.tmod_eq_emod_of_nonneg (by omega),bg];refine ao (ptr bt) (λh' e=>by rw[e];exact A.c1 (Ext.refl _)) ?_;refine(rn A.out).mono λr U ⟨e,H⟩=>?_
  have H:=H.symm;subst e H;refine⟨rfl,?_⟩;refine(RU (iN _)).mono λr U ⟨e,H⟩=>?_
  have H:=H.symm;subst e H;refine⟨rfl,?_⟩;have eg:=W.m.m1;have c9:=W.m.m2;rw[I.m];have hr:=Ld (IntKind.i64.wrap (GI d.m d.s (d.t.x+(qd:Int)) y (rd:Int))) (most:=d.m.most) (by omega);refine(RT A.out I.wf hr.1 hr.2.1).mono λr U ⟨e,I8,f8,s8⟩=>?_
  subst e;have ea:=W.xw;have c7:=W.yh;have cp:=J.y0;have bc:inP n' (d.t.x+(qd:Int)) y (rd:Int):=⟨by omega,by rw[I.w];omega,by omega,by rw[I.h];omega,by omega,by rw[I.c];omega⟩
  have ar:inP n' (d.t.x+(qd:Int)) y (rd:Int)∧vZ (IntKind.i64.wrap (GI d.m d.s (d.t.x+(qd:Int)) y (rd:Int))) d.m.most≤n'.most:=⟨bc,by rw[I.m];omega⟩
  rw[if_pos ar]at I8
  try simp only[go_sem]
  rw[w64 (by omega) (by omega)];refine ax _ U G ⟨A.set f8 I8,⟨Rn I.wf hr.1 ar.2,I.w,I.h,I.c,I.m⟩,λD F c' a9=>?_,o6.fr f8 cb,f6.trans f8⟩;rw[Px I.wf bc,A6 D F c' a9];by_cases he:D=d.t.x+(qd:Int)∧F=y∧c'=(rd:Int)
  ·rw[if_pos he];obtain⟨rfl,rfl,rfl⟩:=he;rw[if_pos]
   ·rfl
   ·refine⟨rfl,by omega,by omega,?_⟩;rw[hC,show d.t.x+(qd:Int)-d.t.x=(qd:Int)by omega];omega
  ·rw [if_neg he];have an:uT d y ((i+1:Nat):Int) D F c'↔uT d y (i:Int) D F c':=by
    unfold uT;constructor
    ·rintro⟨a1,a2,a3,a4⟩;refine⟨a1,a2,a3,?_⟩;rcases Int.lt_or_le ((D-d.t.x)*d.m.c+c') i with h9|h9
     ·exact h9
     ·exfalso;have b7:(D-d.t.x)*d.m.c+c'=(qd:Int)*d.m.c+(rd:Int):=by rw[hC]at*;omega
      have b6:=a9.2.2.2.2;have ek:=O.c;obtain⟨b1,b2⟩:=Bu b7 b6.1 (by omega) (by omega) (by omega);exact he ⟨by omega,a1,b2⟩
    ·rintro⟨a1,a2,a3,a4⟩;exact⟨a1,a2,a3,by omega⟩
   by_cases ad:uT d y (i:Int) D F c'
   ·rw[if_pos ad,if_pos (an.2 ad)]
   ·rw[if_neg ad,if_neg λhh=>ad (an.1 hh)]
 ·have ay:i=w:=by omega
  subst ay;simp only[go_sem,Nat.zero_add,A.c16 (Ext.refl _)];have cp:=J.y0;rw[w64 (n:=y+1) (by omega) (by omega)];refine bK A.row (by simp[Qt,cS]) rfl λU r8 u8=>?_
  have r8:U[bj]? =some (.cells (Qt bf bt p q rv d (y+1)).toArray 246 (0,0)):=r8;have al:∀c,Z c→¬c=bj:=λc hc=>(A.zz c hc).2.1
  refine⟨n',⟨r8,A.src.fr u8.fr (al _ A.zf.1) λc hc=>al _ (A.zf.2 c hc),A.tx.fr u8.fr λc _ hz=>al c hz,A.ty.fr u8.fr λc _ hz=>al c hz,A.ring.fr u8.fr λc _ hm he=>A.mj.1 (he▸hm),A.out.fr u8.fr (Ne.symm A.jt.1) λc hc he=>A.jt.2 (he▸hc),A.zf,A.zz,A.mj,A.jt,by omega,by omega,
   λc hc=>by rw[u8.1];exact A.zl c hc⟩,I,A6,?_⟩
  exact((aa.fr (M:=λc=>blk vt c∨c=bj)).trans (f6.mono λc _ hc=>.inl hc)).trans (u8.fr.mono λc _ hc=>.inr hc)
end
end
end Go.Proofs.YtjljhnandbbldaaGreatDoor
namespace Go.Proofs.YtjljhnandbbldaaGreatDoor
open Go Go.Crisp
theorem yX:∀(k:Nat) (l:List Nat),l.Nodup→(∀x∈l,x<k)→l.length≤k
 |0,[],_,_=>by simp
 |0,x::_,_,h=>absurd (h x (by simp)) (by omega)
 | k+1,l,hn,h=>by
  by_cases D:k∈l
  ·have h1:=yX k (l.erase k) (hn.erase k) λx A=>by
    have G:=h x (List.mem_of_mem_erase A);have F:x≠k:=λe=>by rw[e]at A;exact(List.Nodup.not_mem_erase hn) A
    omega
   rw[List.length_erase_of_mem D]at h1;omega
  ·have:=yX k l hn λx A=>by
    have G:=h x A;have F:x≠k:=λe=>D (e▸A)
    omega
   omega
theorem nodup_range {l:List Int}{a b:Int}(D:l.Nodup)(h:∀x∈l,a≤x∧x<b):(l.length:Int)≤max 0 (b-a):=by
 have h1:(l.map λx=>(x-a).toNat).Nodup:=by
  rw[List.nodup_iff_pairwise_ne,List.pairwise_map];have I:=(List.nodup_iff_pairwise_ne.1 D)
  refine List.Pairwise.imp_of_mem ?_ I;intro x y A L F U;have:=h x A;have:=h y L;omega
 have H:=yX (b-a).toNat _ h1 λx A=>by
  obtain⟨z,G,rfl⟩:=List.mem_map.1 A;have:=h z G;omega
 rw[List.length_map]at H;omega
theorem Lt {α:Type}(j i:Int)(v:α):∀kv:List (Int×α),em i (kv++[(j,v)])=match em i kv with|some u=>some u|none=>if i=j then some v else none
 | []=>by
  simp only[List.nil_append,em];by_cases h:j=i
  ·subst h;simp
  ·rw[if_neg h,if_neg (Ne.symm h)]
 | (k,u)::kv=>by
  simp only[List.cons_append,em];by_cases h:k=i
  ·rw[if_pos h,if_pos h]
  ·rw[if_neg h,if_neg h];exact Lt j i v kv
theorem wC:∀(l:List Int) (a:Int),l.foldl min a≤a∧∀x∈l,l.foldl min a≤x
 | [],a=>⟨Int.le_refl _,λx A=>absurd A (by simp)⟩
 |y::l,a=>by
  have h:=wC l (min a y);rw[List.foldl_cons];refine⟨by have:=h.1;omega,λx A=>?_⟩;rcases List.mem_cons.1 A with rfl|A
  ·have:=h.1;omega
  ·exact h.2 x A
theorem V0 {l:List Int}{x:Int}(h:x∈l):uz l≤x:=by
 cases l with
 |nil=>simp at h
 |cons y l=>
  rcases List.mem_cons.1 h with rfl|h
  ·exact(wC l _).1
  ·exact(wC l y).2 x h
structure Eb (row:Int→List Int)(rs:List (Int×List Int))(F e:Int):Prop where
 nd:(rs.map Prod.fst).Nodup
 inn:∀j,F≤j→j<e→em j rs=some (row j)
 lt:∀x∈rs.map Prod.fst,x<e
theorem Eb.none {row:Int→List Int}{rs:List (Int×List Int)}{F e:Int}(H:Eb row rs F e){j:Int}(D:e≤j):em j rs=none:=nJ.2 λA=>by have:=H.lt j A;omega
theorem Eb.start (row:Int→List Int)(F:Int):Eb row [] F F:=⟨by simp,λj h1 A=>absurd A (by omega),by simp⟩
theorem Eb.move {row:Int→List Int}{rs:List (Int×List Int)}{F e A:Int}(H:Eb row rs F e)(I:F≤A):Eb row rs A (max e A):=
 ⟨H.nd,λj h1 G=>H.inn j (by omega) (by omega),λx D=>by have:=H.lt x D;omega⟩
theorem Eb.next {row:Int→List Int}{rs:List (Int×List Int)}{F e E n:Int}{A:Bool}(H:Eb row rs F e)(h1:F≤e)(I:e≤E)(D:Ff rs F E n A):(e<E∧A=true∧n=e)∨(e=E∧A=false∧n=0):=by
 rcases D with⟨rfl,a1,a2,a3,a4⟩|⟨rfl,rfl,a4⟩
 ·left;have G:¬n<e:=λh=>by rw[H.inn n a1 h]at a3;cases a3
  have L:¬e<n:=λh=>by have:=a4 e h1 h;rw[H.none (Int.le_refl _)]at this;cases this
  exact⟨by omega,rfl,by omega⟩
 ·right;refine⟨?_,rfl,rfl⟩;rcases Int.lt_or_le e E with h|h
  ·have:=a4 e h1 h;rw[H.none (Int.le_refl _)]at this;cases this
  ·omega
theorem Eb.put {row:Int→List Int}{rs:List (Int×List Int)}{F e E:Int}{room w:Nat}(H:Eb row rs F e)(h1:F≤e)(h2:e<E)(hr:E-F≤room)(ar:1≤room)(hl:rs.length≤room)(hw:(row e).length=w):
  Eb row (NY room w rs e (row e)) F (e+1)∧(NY room w rs e (row e)).length≤room:=by
 have U:=H.none (Int.le_refl e);have I:(rs.map Prod.fst).length=rs.length:=by simp
 have D:y9 room rs=true→uz (rs.map Prod.fst)∈rs.map Prod.fst:=λA=>Oy λh0=>by
  have:rs.length=0:=by rw[←I,h0];rfl
  unfold y9 at A;have:=of_decide_eq_true A;omega
 have aa:sf room w rs e (row e)=true:=by
  unfold sf;rw[U,decide_eq_true hw];by_cases A:y9 room rs=true
  ·have:=H.lt _ (D A);rw[A,decide_eq_false (show¬e<uz (rs.map Prod.fst)by omega)];rfl
  ·have A:y9 room rs=false:=by simpa using A
   rw[A];rfl
 unfold NY;rw[if_pos aa]
 -- what is left of the rows
 have key:((kD room rs).map Prod.fst).Nodup∧(∀x∈(kD room rs).map Prod.fst,x<e)∧(∀j,F≤j→j<e→em j (kD room rs)=some (row j))∧(kD room rs).length+1≤room:=by
  unfold kD;by_cases A:y9 room rs=true
  ·rw [if_pos A];have hm:=D A;have an:room≤rs.length:=of_decide_eq_true A;have al:uz (rs.map Prod.fst)<F:=by
    rcases Int.lt_or_le (uz (rs.map Prod.fst)) F with h|h
    ·exact h
    ·have W:∀x∈rs.map Prod.fst,F≤x∧x<e:=λx L=>by
      have h3:uz (rs.map Prod.fst)≤x:=V0 L;have:=H.lt x L;omega
     have:=nodup_range H.nd W;rw[I]at this;omega
   have G:(mM (uz (rs.map Prod.fst)) rs).Sublist rs:=IU;have hg:∃v,em (uz (rs.map Prod.fst)) rs=some v:=by
    cases hg:em (uz (rs.map Prod.fst)) rs with
    |none=>exact absurd hm (nJ.1 hg)
    |some v=>exact⟨v,rfl⟩
   obtain⟨v,hg⟩:=hg;have ad:=DR hg;refine⟨(G.map Prod.fst).nodup H.nd,λx L=>H.lt x ((G.map Prod.fst).subset L),λj j1 j2=>?_,by omega⟩;rw[DQ H.nd,if_neg (by omega)];exact H.inn j j1 j2
  ·rw[if_neg A];have:¬room≤rs.length:=λh=>A (decide_eq_true h)
   exact⟨H.nd,H.lt,H.inn,by omega⟩
 obtain⟨k1,k2,k3,k4⟩:=key;refine⟨⟨?_,λj j1 j2=>?_,λx L=>?_⟩,by simp;omega⟩
 ·rw[List.map_append,List.nodup_append];refine⟨k1,by simp,λa ha b hb he=>?_⟩;have:=k2 a ha;simp at hb;omega
 ·rw[Lt];by_cases hj:j<e
  ·rw[k3 j j1 hj]
  ·have ab:j=e:=by omega
   subst ab;have:em j (kD room rs)=Option.none:=nJ.2 λhm=>by have:=k2 j hm;omega
   rw[this];simp
 ·rw[List.map_append]at L;rcases List.mem_append.1 L with h|h
  ·have:=k2 x h;omega
  ·simp at h;omega
theorem Ad {a b c:Int}(h:a≤b)(hc:0<c):a/c≤b/c:=Int.ediv_le_ediv hc h
theorem SB {f n m i k:Int}(A:1≤n)(F:1≤m)(h:i≤k):nH f n m i≤nH f n m k:=by
 unfold nH;have h1:i*n≤k*n:=Int.mul_le_mul_of_nonneg_right h (by omega);have D:(2*i+1)*n≤(2*k+1)*n:=Int.mul_le_mul_of_nonneg_right (by omega) (by omega);split
 ·exact Ad h1 (by omega)
 ·have:=Ad (a:=(2*i+1)*n-m-cj f*2*max n m) (b:=(2*k+1)*n-m-cj f*2*max n m) (c:=2*m) (by omega) (by omega);omega
theorem Qw {f n m i k:Int}(A:1≤n)(F:1≤m)(h:i≤k):lg f n m i≤lg f n m k:=by
 unfold lg Jq;have h1:(i+1)*n≤(k+1)*n:=Int.mul_le_mul_of_nonneg_right (by omega) (by omega);have D:(2*i+1)*n≤(2*k+1)*n:=Int.mul_le_mul_of_nonneg_right (by omega) (by omega);split
 ·have:=Ad (a:= -((k+1)*n)) (b:= -((i+1)*n)) (c:=m) (by omega) (by omega);omega
 ·have:=Ad (a:= -((2*k+1)*n-m+cj f*2*max n m)) (b:= -((2*i+1)*n-m+cj f*2*max n m)) (c:=2*m) (by omega) (by omega);omega
theorem oA {g:Nat→Int}:∀{n:Nat},cT g n=0→∀i,i<n→g i=0
 |0,_,i,h=>absurd h (by omega)
 | n+1,hz,i,h=>by
  have e:cT g (n+1)=if cT g n≠0 then cT g n else g n:=rfl
  rw[e]at hz;by_cases h0:cT g n=0
  ·rw[if_neg (by simpa using h0)]at hz;by_cases hi:i=n
   ·rw[hi];exact hz
   ·exact oA h0 i (by omega)
  ·rw[if_pos h0]at hz;exact absurd hz h0
abbrev lnF (t:Tbl)(y:Int):Int:=(aZ t y).1
abbrev lnE (t:Tbl)(y:Int):Int:=(aZ t y).1+((aZ t y).2.length:Int)
structure Ai (t:Tbl):Prop where
 f:∀i k:Int,0≤i→i≤k→k<t.lines.length→lnF t i≤lnF t k
 e:∀i k:Int,0≤i→i≤k→k<t.lines.length→lnE t i≤lnE t k
 m:∀i:Int,(((aZ t i).2.length:Nat):Int)≤bu t.lines
theorem OE {n:Int}{N:Nat}{g:Nat→Int×List Int}{i:Int}(h0:0≤i)(h1:i<N):aZ ⟨n,(List.range N).map g⟩ i=g i.toNat:=by
 unfold aZ;rw[if_pos h0];have:i.toNat<N:=by omega
 simp[List.getD_eq_getElem?_getD,this]
theorem DK:∀(ls:List (Int×List Int)) (a:Int),a≤ls.foldl (λm x=>max m (x.2.length:Int)) a∧∀x∈ls,((x.2.length:Nat):Int)≤ls.foldl (λm x=>max m (x.2.length:Int)) a
 | [],a=>⟨Int.le_refl _,λx A=>absurd A (by simp)⟩
 |y::l,a=>by
  have h:=DK l (max a (y.2.length:Int));rw[List.foldl_cons];refine⟨by have:=h.1;omega,λx A=>?_⟩;rcases List.mem_cons.1 A with rfl|A
  ·have:=h.1;omega
  ·exact h.2 x A
theorem EJ (t:Tbl)(i:Int):(((aZ t i).2.length:Nat):Int)≤bu t.lines:=by
 have h:=DK t.lines 0;unfold aZ;split
 ·by_cases hi:i.toNat<t.lines.length
  ·have e:t.lines.getD i.toNat (0,[])=t.lines[i.toNat]:=by simp[List.getD_eq_getElem?_getD,hi]
   rw[e];exact h.2 _ (List.getElem_mem hi)
  ·have e:t.lines.getD i.toNat (0,[])=(0,[]):=by simp[List.getD_eq_getElem?_getD,Nat.le_of_not_lt hi]
   rw[e];exact h.1
 ·exact h.1
theorem sH {l:List Int}(h:ck l=0):(bN l).length=l.length:=by unfold bN;rw[if_pos h,nB]
theorem NX {f n m:Int}(hc:cP f n m=0):Ai (dT f n m):=by
 have h0:¬(¬(0≤f∧f<3)∨¬aT n∨¬aT m):=λh=>by unfold cP at hc;rw[if_pos h]at hc;cases hc
 have W:=hc;unfold cP at W;rw[if_neg h0]at W;have hf:0≤f∧f<3:=Decidable.of_not_not λh=>h0 (.inl h)
 have L:aT n:=Decidable.of_not_not λh=>h0 (.inr (.inl h))
 have I:aT m:=Decidable.of_not_not λh=>h0 (.inr (.inr h))
 unfold aT at L I;have H:(dT f n m).lines.length=m.toNat:=by show(List.map _ (List.range m.toNat)).length=_;rw[List.length_map,List.length_range]
 have F:∀i:Int,0≤i→i<m→aZ (dT f n m) i=(dC f n m i,bN (cq f n m i)):=λi A G=>by
  have:=OE (n:=n) (N:=m.toNat) (g:=λi:Nat=>(dC f n m i,bN (cq f n m i))) A (by omega);rw[show((i.toNat:Nat):Int)=i by omega]at this;exact this
 have D:∀i:Int,0≤i→i<m→si f n m i:=λi A G=>⟨hf.1,hf.2,L.1,L.2,I.1,I.2,A,G⟩
 have hF:∀i:Int,0≤i→i<m→lnF (dT f n m) i=nH f n m i:=λi A G=>by
  unfold lnF;rw[F i A G];show dC f n m i=_;unfold dC;rw[if_pos (D i A G)]
 have hE:∀i:Int,0≤i→i<m→lnE (dT f n m) i=lg f n m i:=λi A G=>by
  have h1:=hF i A G;unfold lnF at h1;unfold lnE;rw[h1,F i A G];have h2:=oA W i.toNat (by omega);rw[show((i.toNat:Nat):Int)=i by omega]at h2;show nH f n m i+(((bN (cq f n m i)).length:Nat):Int)=_;rw[sH h2];unfold cq;rw[if_pos (D i A G)];unfold Al;rw[List.length_map,List.length_range];have:=GN (D i A G);omega
 refine⟨λi k A ik U=>?_,λi k A ik U=>?_,EJ _⟩
 ·rw[H]at U;rw[hF i A (by omega),hF k (by omega) (by omega)];exact SB L.1 I.1 ik
 ·rw[H]at U;rw[hE i A (by omega),hE k (by omega) (by omega)];exact Qw L.1 I.1 ik
theorem OS (l:List Int)(n:Int):Ai (iI l n):=by
 have D:(iI l n).lines.length=n.toNat:=by show(List.map _ (List.range n.toNat)).length=_;rw[List.length_map,List.length_range]
 have A:∀i:Int,0≤i→i<n.toNat→aZ (iI l n) i=(i-(l.length/2:Nat),bN l):=λi G I=>by
  have:=OE (n:=n) (N:=n.toNat) (g:=λi:Nat=>((i:Int)-(l.length/2:Nat),bN l)) G I;rw[show((i.toNat:Nat):Int)=i by omega]at this;exact this
 refine⟨λi k G H F=>?_,λi k G H F=>?_,EJ _⟩
 ·rw[D]at F;unfold lnF;rw[A i G (by omega),A k (by omega) F];show i-_≤k-_;omega
 ·rw[D]at F;unfold lnE;rw[A i G (by omega),A k (by omega) F];show i-((l.length/2:Nat):Int)+((bN l).length:Int)≤k-((l.length/2:Nat):Int)+((bN l).length:Int);omega
theorem Qq {o:OpD}{w h:Int}(hc:dD o w h=0):Ai (bM o w h).y:=by
 have A:gh o w h=0:=by
  unfold dD at hc;split at hc
  ·cases hc
  ·exact hc
 show Ai (dI o h);unfold gh at A;unfold dI;split
 ·rename_i D;rw[if_pos D]at A;by_cases h1:cP o.filter w o.w=0
  ·rw[if_neg (by simpa using h1)]at A;exact NX A
  ·rw[if_pos h1]at A;exact absurd A h1
 ·exact OS _ _
end Go.Proofs.YtjljhnandbbldaaGreatDoor
namespace Go.Crisp
open Go
theorem ae.at {P:Program}{f:FuncId}{args:Array Value}{h:af}{v:Value}{K:Value→af→Prop}(H:ae P f args h λr h'=>r=v∧h'=h)(k:K v h):ae P f args h K:=
 H.mono λr h' ⟨e,w⟩=>by rw[e,w];exact k
theorem ae.to {P:Program}{f:FuncId}{args:Array Value}{h:af}{v:Value}{K:Value→af→Prop}(H:ae P f args h λr h'=>r=v∧Ext h h')(k:∀h',Ext h h'→K v h'):ae P f args h K:=
 H.mono λr h' ⟨e,w⟩=>by rw[e];exact k h' w
theorem Fr.after {M N:Nat→Prop}{a b c:af}(f:Fr M a b)(k:Fr N b c)(n:∀i,i<a.size→N i→M i):Fr M a c:=
 ⟨Nat.le_trans f.1 k.1,λi hi A=>(k.2 i (Nat.lt_of_lt_of_le hi f.1) λx=>A (n i hi x)).trans (f.2 i hi A)⟩
theorem Ext.after {N:Nat→Prop}{a b c:af}(f:Ext a b)(k:Fr N b c):Fr N a c:=(f.fr (M:=N)).after k λ_ _ x=>x
theorem Fr.ext_r {M:Nat→Prop}{a b c:af}(f:Fr M a b)(k:Ext b c):Fr M a c:=f.trans k.fr
theorem Fr.upd_new {M:Nat→Prop}{a b c:af}{x:Nat}(f:Fr M a b)(u:Upd x b c)(n:a.size≤x):Fr M a c:=f.after u.fr λi hi e=>by omega
theorem Rp.push_ow1S {α:Type}{e:Rp α}{Z P:Nat→Prop}{Q:af→Prop}{z z' c:Value}{t F:TypeId}{bytes:Nat}{s:Value}{h:af}{l:List α}{x:α}{K:Value→af→Prop}(L:e.w=1)
  (hs:Rp.Ow e Z h s l) (I:e.R Z h [c] x) (hz:z.cells.size=1) (hb:(l.length+1)*bytes≤140737488355328) (hn:l.length+1≤9223372036854775807) (hZ:∀b,Z b→b<h.size) (hQ:∀h',Ext h h'→Q h')
  (H:∀D h',Rp.Ow e Z h' D (l++[x])→Fr (blk s) h h'→(∀b,blk D b→blk s b∨h.size≤b)→K D h'):cE #[z'] t 1 [(0,1,c)] h λv2 U=>Q U∧cF z F 1 bytes s v2 U K:=by
 refine cz (fill_one (e.one I c (by simp))) λb h1 r1 A n1=>⟨hQ h1 A,?_⟩
 have W:=SlC.single (cs:=[c]) r1;rw[show[c].length=e.w by rw[L];rfl]at W;have ee:cF z F 1 bytes s (.slice (some ⟨b,0,none⟩) 1 1) h1 K=cF z F e.w bytes s (.slice (some ⟨b,0,none⟩) 1 1) h1 K:=by rw[L]
 rw[ee];refine Rp.app_ow (l2:=[x]) (hs.ext A) W (λi hi=>?_) (hz.trans L.symm) (by simpa using hb) (by simpa using hn) (λk G=>Nat.lt_of_lt_of_le (hZ k G) A.1) λD h' o' f' n'=>
  H D h' o' (A.fr.trans f') λk G=>(n' k G).imp id λh2=>Nat.le_trans A.1 h2
 have hi:i=0:=by simpa using hi
 subst hi;rw[Rp.el_self (e.len I)];exact e.ext I A
theorem New.fr {α:Type}{e:Rp α}{M:Nat→Prop}{h h1 h':af}{v:Value}{l:List α}(H:New e h h1 v l)(f:Fr M h1 h')(A:∀b,M b→h.size≤b)(q:∀b,blk v b→¬M b):New e h h' v l:=
 ⟨H.1.fr f (λb _ D=>D.elim) q,H.2.1.then_fr f A,H.2.2⟩
theorem eqT (a:Int):(a=a)=True:=eq_true rfl
theorem P8 (a:Nat):ag .p .neq (.pointer (some ⟨a,0,none⟩)) (.pointer none)=some (.bool true):=rfl
theorem P9 (a:Nat):ag .p .eql (.pointer (some ⟨a,0,none⟩)) (.pointer none)=some (.bool false):=rfl
theorem XM:ag .p .neq (.pointer none) (.pointer none)=some (.bool false):=rfl
theorem XN:ag .p .eql (.pointer none) (.pointer none)=some (.bool true):=rfl
end Go.Crisp
namespace Go.Proofs.YtjljhnandbbldaaGreatDoor
open Go Go.Crisp
attribute [local irreducible] ae cE aP stK aA vK qK bC gK dK aU mkK cF Ch DH zZ bsK clK qQ lW Rw
open _root_.Go.Proofs.Tryz
section
def nP (B:Nat→Prop)(h h':af):Nat→Prop:=λc=>B c∨(h.size≤c∧c<h'.size)
structure jm (Z B:Nat→Prop)(h:af)(bj bf:Nat)(vf:Value)(bt:Nat)(vt p q rv:Value)(d:ef)(y e:Int)(n:Pic)(room w:Nat):Prop where
 at_:∃M rs,dN Z M h bj bf vf bt vt p q rv d y n room w rs∧(∀c,M c→B c)∧(y<d.t.y+d.t.h→Eb (By d) rs (lnF d.s.y y) e∧lnF d.s.y y≤e∧e≤lnE d.s.y y)
 bj0:B bj
 bl:∀c,B c→c<h.size
 bz:∀c,B c→¬Z c∧c≠bt∧¬blk vt c
 out:Ea d n
theorem jm.ext {Z B:Nat→Prop}{h h':af}{bj bf:Nat}{vf:Value}{bt:Nat}{vt p q rv:Value}{d:ef}{y e:Int}{n:Pic}{room w:Nat}(S:jm Z B h bj bf vf bt vt p q rv d y e n room w)(k:Ext h h'):jm Z B h' bj bf vf bt vt p q rv d y e n room w:=by
 obtain⟨⟨M,rs,J,a,b⟩,c,f,g,o⟩:=S;exact⟨⟨M,rs,J.ext k,a,b⟩,c,λc hc=>Nat.lt_of_lt_of_le (f c hc) k.1,g,o⟩
theorem dN.chg {Z M Q:Nat→Prop}{h h':af}{bj bf:Nat}{vf:Value}{bt:Nat}{vt p q rv:Value}{d:ef}{y:Int}{n n':Pic}{room w:Nat}{rs:List (Int×List Int)}(J:dN Z M h bj bf vf bt vt p q rv d y n room w rs)(f:Fr Q h h')
  (A:∀c,Z c→¬Q c) (F:∀c,M c→¬Q c) (H:¬Q bj) (I:cA h' bt vt n'):dN Z M h' bj bf vf bt vt p q rv d y n' room w rs:=
 ⟨f.row J.row H,J.src.fr f (A _ J.zf.1) λc hc=>A _ (J.zf.2 c hc),J.tx.fr f λc _ D=>A c D,J.ty.fr f λc _ D=>A c D,J.ring.fr f λc _ G=>F c G,I,J.zf,J.zz,J.mj,J.jt,J.y0,J.y1,λc hc=>Nat.lt_of_lt_of_le (J.zl c hc) f.1⟩
theorem jm.other {Z B Q:Nat→Prop}{h h':af}{bj bf:Nat}{vf:Value}{bt:Nat}{vt p q rv:Value}{d:ef}{y e:Int}{n n':Pic}{room w:Nat}(S:jm Z B h bj bf vf bt vt p q rv d y e n room w)(f:Fr Q h h')
  (D:∀c,Z c→¬Q c) (qb:∀c,B c→¬Q c) (I:cA h' bt vt n') (O:Ea d n'):jm Z B h' bj bf vf bt vt p q rv d y e n' room w:=by
 obtain⟨⟨M,rs,J,a,b⟩,c,l,g,o⟩:=S;exact⟨⟨M,rs,J.chg f D (λk A=>qb k (a k A)) (qb _ c) I,a,b⟩,c,λc hc=>Nat.lt_of_lt_of_le (l c hc) f.1,g,O⟩
theorem jm.img {Z B:Nat→Prop}{h:af}{bj bf:Nat}{vf:Value}{bt:Nat}{vt p q rv:Value}{d:ef}{y e:Int}{n:Pic}{room w:Nat}(S:jm Z B h bj bf vf bt vt p q rv d y e n room w):cA h bt vt n:=by
 obtain⟨⟨M,rs,J,a,b⟩,_⟩:=S;exact J.out
theorem jm.src {Z B:Nat→Prop}{h:af}{bj bf:Nat}{vf:Value}{bt:Nat}{vt p q rv:Value}{d:ef}{y e:Int}{n:Pic}{room w:Nat}(S:jm Z B h bj bf vf bt vt p q rv d y e n room w):cA h bf vf d.m:=by
 obtain⟨⟨M,rs,J,a,b⟩,_⟩:=S;exact J.src
theorem dN.frq {Z M Q:Nat→Prop}{h h':af}{bj bf:Nat}{vf:Value}{bt:Nat}{vt p q rv:Value}{d:ef}{y:Int}{n:Pic}{room w:Nat}{rs:List (Int×List Int)}(J:dN Z M h bj bf vf bt vt p q rv d y n room w rs)(f:Fr Q h h')
  (A:∀c,Z c→¬Q c) (F:∀c,M c→¬Q c) (L:¬Q bj) (H:¬Q bt) (I:∀c,blk vt c→¬Q c):dN Z M h' bj bf vf bt vt p q rv d y n room w rs:=
 ⟨f.row J.row L,J.src.fr f (A _ J.zf.1) λc hc=>A _ (J.zf.2 c hc),J.tx.fr f λc _ D=>A c D,J.ty.fr f λc _ D=>A c D,J.ring.fr f λc _ G=>F c G,J.out.fr f H I,J.zf,J.zz,J.mj,J.jt,J.y0,J.y1,λc hc=>Nat.lt_of_lt_of_le (J.zl c hc) f.1⟩
structure Vp (d:ef)(room w:Nat):Prop where
 mono:Ai d.s.y
 fit:bu d.s.y.lines≤room
 one:1≤room
 wid:(w:Int)=d.t.w*d.m.c
 small:d.t.w≤300
def bP (d:ef)(y e:Int):Int:=if d.t.y+d.t.h≤y then 0 else if e<lnE d.s.y y then 1 else 2
def fY (d:ef)(y e:Int):Int:=if d.t.y+d.t.h≤y then 0 else if e<lnE d.s.y y then e else y
def eU (d:ef)(y e:Int):Int:=if bP d y e=2 then y+1 else y
def fZ (d:ef)(y e:Int):Int:=if bP d y e=1 then e+1 else if bP d y e=2 then max e (lnF d.s.y (y+1))else e
section
variable {Z B:Nat→Prop}{h:af}{bj bf:Nat}{vf:Value}{bt:Nat}{vt p q rv:Value}{d:ef}{y e:Int}{n:Pic}{room w:Nat}
theorem JE (S:jm Z B h bj bf vf bt vt p q rv d y e n room w)(W:d.Wf):ae prog gq #[ptr bj] h λr h'=>r=yZ (bP d y e) (fY d y e)∧Ext h h':=by
 obtain⟨⟨M,rs,J,a,b⟩,c,f,g,o⟩:=S;refine(Tf J W).mono λr h' ⟨k,j,G,A,E⟩=>⟨?_,E⟩
 rw[G];unfold PC at A;unfold bP fY;by_cases D:d.t.y+d.t.h≤y
 ·rw[if_pos D]at A;rw[if_pos D,if_pos D,A.1,A.2]
 ·rw[if_neg D]at A;rw[if_neg D,if_neg D];obtain⟨H,h1,F⟩:=b (by omega);rcases A with⟨rfl,A⟩|⟨rfl,rfl,A⟩
  ·rcases H.next h1 F A with⟨a1,_,a3⟩|⟨_,a2,_⟩
   ·rw[if_pos a1,if_pos a1,a3]
   ·cases a2
  ·rcases H.next h1 F A with⟨_,a2,_⟩|⟨a1,_,_⟩
   ·cases a2
   ·rw[if_neg (by omega),if_neg (by omega)]
theorem Nh (S:jm Z B h bj bf vf bt vt p q rv d y e n room w)(W:d.Wf)(R:Vp d room w):ae prog fh #[ptr bj] h λr h'=>
  r=yZ (bP d y e) (fY d y e)∧∃n',jm Z (nP B h h') h' bj bf vf bt vt p q rv d (eU d y e) (fZ d y e) n' room w∧Fr (λc=>blk vt c∨B c) h h'∧
   (bP d y e≠2→n'=n)∧(bP d y e=2→∀I L c',inP n I L c'→atP n' I L c'=if uT d y w I L c' then ut d.m d.s I L c' else atP n I L c'):=by
 apply BF;unfold rD;refine aC λb1 h1 r1 e1 n1=>?_
 have S1:=S.ext e1;refine(JE S1 W).mono λr h2 ⟨er,e2⟩=>?_
 subst er;refine cD (cs:=[.int .i64 (bP d y e),.int .i64 (fY d y e)]) rfl (ak rfl (ak rfl aQ)) rfl λb3 h3 r3 e3 n3=>?_
 have E3:=e1.trans (e2.trans e3);have S3:=S.ext E3;have b0:b1<b3:=by have:=aW r1;have:=e2.1;omega
 have l3:=aW r3;have l1:b1<h3.size:=by omega
 have bd:=(e2.trans e3).row r1;have b6:=E3.1
 -- the end of a step: the move is handed on
 have fin:∀{U:af} {n':Pic},Fr (λc=>(blk vt c∨B c)∧c≠b1∧c≠b3) h3 U→
   ((bP d y e≠2→n'=n)∧(bP d y e=2→∀I L c',inP n I L c'→atP n' I L c'=if uT d y w I L c' then ut d.m d.s I L c' else atP n I L c'))→(∀A,Upd b1 U A→jm Z (nP B h A) A bj bf vf bt vt p q rv d (eU d y e) (fZ d y e) n' room w)→
   vK (aH 2 U (ptr b3)) λa9=>stK 2 (ptr b1) a9 U λ_ aa=>vK (aH 2 aa (ptr b1)) λbk=>bk=yZ (bP d y e) (fY d y e)∧∃n',jm Z (nP B h aa) aa bj bf vf bt vt p q rv d (eU d y e) (fZ d y e) n' room w∧Fr (λc=>blk vt c∨B c) h aa∧
    (bP d y e≠2→n'=n)∧(bP d y e=2→∀I L c',inP n I L c'→atP n' I L c'=if uT d y w I L c' then ut d.m d.s I L c' else atP n I L c'):=by
  intro U n' f4 au ax;have be:=f4.row r3 λG=>G.2.2 rfl
  have bg:=f4.row bd λG=>G.2.1 rfl
  rw[aM (l:=[.int .i64 (bP d y e),.int .i64 (fY d y e)]) be 2 rfl,ah];refine ch (l:=[.int .i64 (bP d y e),.int .i64 (fY d y e)]) bg rfl (ak rfl (ak rfl aQ)) rfl λA r5 u5=>?_
  rw[aM r5 2 rfl,ah];exact⟨rfl,n',ax A u5,((E3.fr (M:=λc=>blk vt c∨B c)).after f4 λc _ hc=>hc.1).after u5.fr (λc hc he=>by omega),au.1,au.2⟩
 obtain⟨⟨M,rs,J,an,hH⟩,al,bv,bc,hO⟩:=S;have J3:=J.ext E3
 -- a block that is new lies apart from a job
 have ap:∀{b:Nat} {M':Nat→Prop},h.size≤b→b<h3.size→(∀c,M' c→M c∨h3.size≤c)→(∀c,Z c→¬c=b)∧(∀c,M' c→¬c=b)∧¬bj=b∧¬bt=b∧∀c,blk vt c→¬c=b:=by
  intro b M' hb b7 aw;refine⟨λc hc he=>?_,λc hc he=>?_,λhe=>?_,λhe=>?_,λc hc he=>?_⟩
  ·have:=J.zl c hc;omega
  ·rcases aw c hc with U|U
   ·have:=J.ring.lt U;omega
   ·omega
  ·have:=aW J.row;omega
  ·have:=J.out.lt;omega
  ·have:=J.out.ltv hc;omega
 have ar:h.size≤b1:=n1;have b2:h.size≤b3:=by omega
 -- what is its own, at last
 have gz:∀{A:af},∀c,nP B h A c→¬Z c∧c≠bt∧¬blk vt c:=λc hc=>by
  rcases hc with hc|hc
  ·exact bc c hc
  ·refine⟨λhz=>?_,λhe=>?_,λhv=>?_⟩
   ·have:=J.zl c hz;omega
   ·have:=J.out.lt;omega
   ·have:=J.out.ltv hv;omega
 have gl:∀{A:af},h.size≤A.size→∀c,nP B h A c→c<A.size:=λhs c hc=>by
  rcases hc with hc|hc
  ·exact Nat.lt_of_lt_of_le (bv c hc) hs
  ·exact hc.2
 simp only[go_sem,Nat.zero_add];have c0:aB h3 ⟨b3,0,none⟩=some (.int .i64 (bP d y e)):=ai r3;have c1:aB h3 ⟨b3,1,none⟩=some (.int .i64 (fY d y e)):=ai r3;simp only[go_sem,c0,c1];refine aj (λF=>?_) (λF=>?_)
 ·-- a row is filtered
  have ad:¬d.t.y+d.t.h≤y:=λh=>by unfold bP at F;rw[if_pos h]at F;cases F
  have ab:e<lnE d.s.y y:=by
   unfold bP at F;rw[if_neg ad]at F;rcases Int.lt_or_le e (lnE d.s.y y)with h|h
   ·exact h
   ·rw[if_neg (by omega)]at F;cases F
  have hj:fY d y e=e:=by unfold fY;rw[if_neg ad,if_pos ab]
  have hy:eU d y e=y:=by unfold eU;rw[if_neg (by omega)]
  have he:fZ d y e=e+1:=by unfold fZ;rw[if_pos F]
  obtain⟨H,a1,a2⟩:=hH (by omega);have hl:=oh W.s.y y;rw[hy,he]at fin ⊢;rw[hj]at fin ⊢;refine(U4 J3 W (j:=e) (by unfold lnF at a1;unfold lnE at ab;unfold I64;omega) R.small).mono λr U ⟨M',J4,f4,m4⟩=>?_
  have b5:=R.fit;have cp:=R.mono.m y;have a8:=J3.ring.nums;have a7:(By d e).length=w:=by
   have A:=R.wid;have hf:=cL W.m.fits;have cc:=W.w1;unfold By;rw[yE];have:((d.t.w.toNat*d.m.c.toNat:Nat):Int)=d.t.w*d.m.c:=by rw[Int.natCast_mul,Int.toNat_of_nonneg (by omega),Int.toNat_of_nonneg (by omega)]
   omega
  have HP:=H.put (E:=lnE d.s.y y) (room:=room) (w:=w) a1 ab (by unfold lnF lnE;omega) R.one a8.2.2.2.1 a7;have ap1:=ap ar l1 m4;have ay:=f4.1;refine fin (f4.mono λc hc G=>⟨.inr (an c G),λA=>by have:=J.ring.lt G;omega,λA=>by have:=J.ring.lt G;omega⟩) ⟨λ_=>rfl,λA=>by omega⟩ λA u5=>
   ⟨⟨M',_,J4.frq u5.fr ap1.1 ap1.2.1 ap1.2.2.1 ap1.2.2.2.1 ap1.2.2.2.2,λc hc=>?_,λ_=>⟨HP.1,by omega,by omega⟩⟩,.inl al,gl (by rw[u5.1];omega),gz,hO⟩
  rcases m4 c hc with h6|h6
  ·exact .inl (an c h6)
  ·have:=J4.ring.lt hc;exact .inr ⟨by omega,by rw[u5.1];exact this⟩
 refine aj (λD=>?_) (λD=>?_)
 ·-- a row is written
  have ad:¬d.t.y+d.t.h≤y:=λh=>by unfold bP at D;rw[if_pos h]at D;cases D
  obtain⟨H,a1,a2⟩:=hH (by omega);have bo:e=lnE d.s.y y:=by
   unfold bP at F;rw[if_neg ad]at F;rcases Int.lt_or_le e (lnE d.s.y y)with h|h
   ·rw[if_pos h]at F;exact absurd rfl F
   ·omega
  have hy:eU d y e=y+1:=by unfold eU;rw[if_pos D]
  have he:fZ d y e=max e (lnF d.s.y (y+1)):=by unfold fZ;rw[if_neg F,if_pos D]
  rw[hy,he]at fin ⊢;refine(Wv J3 W hO R.small (by omega) R.wid λk b4=>H.inn _ (by unfold lnF;omega) (by rw[bo];unfold lnE;omega)).mono λr U ⟨n',J4,O4,A4,f4⟩=>?_
  have ap1:=ap (M':=M) ar l1 λc hc=>.inl hc
  have G:=R.mono;have b8:=J.y0;have cb:=W.y0;have ca:=W.yh;have ay:=f4.1;refine fin (f4.mono λc hc G=>?_) ⟨λA=>absurd D A,λ_=>A4⟩ λA u5=>
   ⟨⟨M,_,J4.frq u5.fr ap1.1 ap1.2.1 ap1.2.2.1 ap1.2.2.2.1 ap1.2.2.2.2,λc hc=>.inl (an c hc),λab=>?_⟩,.inl al,gl (by rw[u5.1];omega),gz,O4⟩
  ·rcases G with G|G
   ·have:=J.out.ltv G;exact⟨.inl G,by omega,by omega⟩
   ·have:=aW J.row;exact⟨.inr (G▸al),by omega,by omega⟩
  ·have g1:=G.f y (y+1) (by omega) (by omega) (by omega);have g2:=G.e y (y+1) (by omega) (by omega) (by omega);refine⟨H.move g1,by omega,?_⟩;have:lnF d.s.y (y+1)≤lnE d.s.y (y+1):=by unfold lnF lnE;omega
   omega
 ·-- it is over
  have ci:bP d y e=0:=by
   unfold bP at*;by_cases U:d.t.y+d.t.h≤y
   ·rw[if_pos U]
   ·rw[if_neg U]at*;by_cases A:e<lnE d.s.y y
    ·rw[if_pos A]at F;exact absurd rfl F
    ·rw[if_neg A]at D;exact absurd rfl D
  have hy:eU d y e=y:=by unfold eU;rw[if_neg D]
  have he:fZ d y e=e:=by unfold fZ;rw[if_neg F,if_neg D]
  rw[hy,he]at fin ⊢;have ap1:=ap (M':=M) ar l1 λc hc=>.inl hc
  exact fin (Fr.refl _ _) ⟨λ_=>rfl,λA=>absurd A D⟩ λA u5=>⟨⟨M,rs,J3.frq u5.fr ap1.1 ap1.2.1 ap1.2.2.1 ap1.2.2.2.1 ap1.2.2.2.2,λc hc=>.inl (an c hc),hH⟩,.inl al,gl (by rw[u5.1];omega),gz,hO⟩
end
end
theorem pe_ne {h:af}{a b:Nat}{c c':Array Value}{t F:TypeId}(D:h[a]? =some (.cells c t (0,0)))(I:h[b]? =some (.cells c' F (0,0)))(A:a≠b):peV h .neq (ptr a) (ptr b)=some (.bool true):=by
 have h1:¬(⟨a,0,none⟩:Addr)=⟨b,0,none⟩:=λhh=>A (by injection hh)
 have H:lQ h a=true:=by unfold lQ;rw[D];rfl
 have G:lQ h b=true:=by unfold lQ;rw[I];rfl
 show(if(⟨a,0,none⟩:Addr)=⟨b,0,none⟩then some (Value.bool false)else if lQ h a&&lQ h b then some (.bool true)else none)=_;rw[if_neg h1,H,G];rfl
def jJ (m n:Pic)(s:Stg):Prop:=lG m s∧n.w=s.x.lines.length∧n.h=s.y.lines.length∧n.c=m.c∧n.most=m.most
instance (m n:Pic)(s:Stg):Decidable (jJ m n s):=by unfold jJ;infer_instance
theorem UN {h:af}(G:dr h){Z:Nat→Prop}{bf bt:Nat}{vf vt sv:Value}{m n:Pic}{s:Stg}(I:cA h bf vf m)(O:cA h bt vt n)(W:bf≠bt)(HS:nh Z h sv s):
  ae prog sJ #[ptr bf,ptr bt,sv] h λr h'=>r=.bool (decide (jJ m n s))∧Ext h h':=by
 apply FZ;unfold xa;obtain⟨p,q,rfl,hp,hq,aa⟩:=gS HS;simp only[bG];refine aC λb1 h1 r1 H n1=>?_
 refine aI (λh'=>h'=h1) rfl ?_;simp only[go_sem,P8];refine ao (.bool true) (λh' e=>by rw[e];exact pe_ne (H.row I.row) (H.row O.row) W) ?_
 try simp only[go_sem]
 refine ao (.agg #[p,q,.int .i64 s.border]) (λh' e=>by rw[e];exact aM (l:=[p,q,.int .i64 s.border]) r1 3 rfl) ?_;refine ae.to (GA (G.ext H) (I.ext H) (HS.ext H)) λF e2=>?_
 have A:=H.trans e2;have r2:=e2.row r1;have c0:aB F ⟨b1,0,none⟩=some p:=ai r2;have c1:aB F ⟨b1,1,none⟩=some q:=ai r2;by_cases g1:lG m s
 case neg=>
  rw[decide_eq_false g1,decide_eq_false λD:jJ m n s=>g1 D.1];refine aI (λh'=>h'=F) rfl ?_;simp only[go_sem];refine ao undef (λ_ _=>rfl) ?_
  try simp only[go_sem]
  refine⟨trivial,?_⟩
  try simp only[go_sem]
  refine aI (λh'=>h'=F) rfl ?_;simp only[go_sem];refine ao undef (λ_ _=>rfl) ?_
  try simp only[go_sem]
  refine⟨trivial,?_⟩
  try simp only[go_sem]
  exact⟨trivial,A⟩
 rw[decide_eq_true g1];refine aI (λh'=>h'=F) rfl ?_;simp only[go_sem,Nat.zero_add];refine ao p (λh' e=>by rw[e];exact c0) ?_
 try simp only[go_sem]
 refine ae.at (qU (O.ext A)) ?_;refine⟨rfl,?_⟩
 try simp only[go_sem]
 refine ae.at (Ax (hp.ext A)) ?_;refine aI (λh'=>h'=F) rfl ?_;by_cases g2:n.w=s.x.lines.length
 case neg=>
  rw[decide_eq_false λD:jJ m n s=>g2 D.2.1];simp only[go_sem,decide_eq_false g2];refine ao undef (λ_ _=>rfl) ?_
  try simp only[go_sem]
  refine⟨trivial,?_⟩
  try simp only[go_sem]
  exact⟨trivial,A⟩
 simp only[go_sem,Nat.zero_add,g2,eqT];refine ao q (λh' e=>by rw[e];exact c1) ?_
 try simp only[go_sem]
 refine ae.at (pP (O.ext A)) ?_;refine⟨rfl,?_⟩
 try simp only[go_sem]
 refine ae.at (Ax (hq.ext A)) ?_;by_cases L:n.h=s.y.lines.length
 case neg=>
  rw[decide_eq_false λD:jJ m n s=>L D.2.2.1];simp only[go_sem,decide_eq_false L];exact⟨trivial,A⟩
 simp only[go_sem,Nat.zero_add,L,eqT];refine ae.at (dA (O.ext A)) (ae.at (dA (I.ext A)) ?_);by_cases U:n.c=m.c
 case neg=>
  rw[decide_eq_false λD:jJ m n s=>U D.2.2.2.1];simp only[go_sem,decide_eq_false U];exact⟨trivial,A⟩
 simp only[go_sem,Nat.zero_add,U,eqT];refine ae.at (rn (O.ext A)) (ae.at (rn (I.ext A)) ?_);simp only[go_sem];refine⟨?_,A⟩
 congr 1
 rw[decide_eq_decide];exact⟨λg5=>⟨g1,g2,L,U,g5⟩,λD=>D.2.2.2.2⟩
abbrev rectV (x y w hh:Int):Value:=.agg #[.int .i64 x,.int .i64 y,.int .i64 w,.int .i64 hh]
def dG (s:Stg)(x y w hh:Int):Prop:=1≤w∧1≤hh∧0≤x∧0≤y∧x<s.x.lines.length∧y<s.y.lines.length∧w≤s.x.lines.length-x∧hh≤s.y.lines.length-y
instance (s:Stg)(x y w hh:Int):Decidable (dG s x y w hh):=by unfold dG;infer_instance
theorem Pa {h:af}{Z:Nat→Prop}{sv:Value}{s:Stg}(HS:nh Z h sv s)(W:s.Wf){x y w hh:Int}:
  ae prog kH #[sv,rectV x y w hh] h λr h'=>r=.bool (decide (dG s x y w hh))∧Ext h h':=by
 apply Ep;unfold uV;obtain⟨p,q,rfl,L,hq,aa⟩:=gS HS;have lx:=W.x.len;have ly:=W.y.len;simp only[bG];refine aC λb1 h1 r1 e1 n1=>aC λb2 h2 r2 U n2=>?_
 have r1:=U.row r1;have E:=e1.trans U;have np:=(Ef L).1;have nq:=(Ef hq).1;refine aI (λh'=>h'=h2) rfl ?_;simp only[go_sem,Nat.zero_add];refine ao p (λh' e=>by rw[e];exact ai r1) ?_;simp only[go_sem,Nat.zero_add,np];refine ao q (λh' e=>by rw[e];exact ai r1) ?_;simp only[go_sem,Nat.zero_add,nq];refine ao (.int .i64 w) (λh' e=>by rw[e];exact ai r2) ?_;by_cases g1:1≤w
 case neg=>
  rw[decide_eq_false λA:dG s x y w hh=>g1 A.1];simp only[go_sem,decide_eq_false g1]
  repeat(first|refine ao undef (λ_ _=>rfl) ?_ |(refine⟨trivial,?_⟩)|simp only[go_sem])
  first|exact E|exact⟨trivial,E⟩|exact⟨rfl,E⟩
 simp only[go_sem,Nat.zero_add,decide_eq_true g1];refine ao (.int .i64 hh) (λh' e=>by rw[e];exact ai r2) ?_;by_cases g2:1≤hh
 case neg=>
  rw[decide_eq_false λA:dG s x y w hh=>g2 A.2.1];simp only[go_sem,decide_eq_false g2]
  repeat(first|refine ao undef (λ_ _=>rfl) ?_ |(refine⟨trivial,?_⟩)|simp only[go_sem])
  first|exact E|exact⟨trivial,E⟩|exact⟨rfl,E⟩
 simp only[go_sem,Nat.zero_add,decide_eq_true g2];refine ao (.int .i64 x) (λh' e=>by rw[e];exact ai r2) ?_;by_cases F:0≤x
 case neg=>
  rw[decide_eq_false λA:dG s x y w hh=>F A.2.2.1];simp only[go_sem,decide_eq_false F]
  repeat(first|refine ao undef (λ_ _=>rfl) ?_ |(refine⟨trivial,?_⟩)|simp only[go_sem])
  first|exact E|exact⟨trivial,E⟩|exact⟨rfl,E⟩
 simp only[go_sem,Nat.zero_add,decide_eq_true F];refine ao (.int .i64 y) (λh' e=>by rw[e];exact ai r2) ?_;by_cases G:0≤y
 case neg=>
  rw[decide_eq_false λA:dG s x y w hh=>G A.2.2.2.1];simp only[go_sem,decide_eq_false G]
  repeat(first|refine ao undef (λ_ _=>rfl) ?_ |(refine⟨trivial,?_⟩)|simp only[go_sem])
  first|exact E|exact⟨trivial,E⟩|exact⟨rfl,E⟩
 simp only[go_sem,Nat.zero_add,decide_eq_true G];refine ao (.int .i64 x) (λh' e=>by rw[e];exact ai r2) ?_;refine ao p (λh' e=>by rw[e];exact ai r1) ?_
 try simp only[go_sem]
 refine ae.at (Ax (L.ext E)) ?_;refine⟨rfl,?_⟩;by_cases D:x<(s.x.lines.length:Int)
 case neg=>
  rw[decide_eq_false λA:dG s x y w hh=>D A.2.2.2.2.1];simp only[go_sem,decide_eq_false D]
  repeat(first|refine ao undef (λ_ _=>rfl) ?_ |(refine⟨trivial,?_⟩)|simp only[go_sem])
  first|exact E|exact⟨trivial,E⟩|exact⟨rfl,E⟩
 simp only[go_sem,Nat.zero_add,decide_eq_true D];refine ao (.int .i64 y) (λh' e=>by rw[e];exact ai r2) ?_;refine ao q (λh' e=>by rw[e];exact ai r1) ?_
 try simp only[go_sem]
 refine ae.at (Ax (hq.ext E)) ?_;refine⟨rfl,?_⟩;by_cases H:y<(s.y.lines.length:Int)
 case neg=>
  rw[decide_eq_false λA:dG s x y w hh=>H A.2.2.2.2.2.1];simp only[go_sem,decide_eq_false H]
  repeat(first|refine ao undef (λ_ _=>rfl) ?_ |(refine⟨trivial,?_⟩)|simp only[go_sem])
  first|exact E|exact⟨trivial,E⟩|exact⟨rfl,E⟩
 simp only[go_sem,Nat.zero_add,decide_eq_true H];refine ao (.int .i64 w) (λh' e=>by rw[e];exact ai r2) ?_;refine ao p (λh' e=>by rw[e];exact ai r1) ?_;refine ao (.int .i64 x) (λh' e=>by rw[e];exact ai r2) ?_
 try simp only[go_sem]
 refine ae.at (Ax (L.ext E)) ?_;refine⟨rfl,?_⟩;simp only[go_sem,Nat.zero_add];rw[w64 (by omega) (by omega)];by_cases I:w≤(s.x.lines.length:Int)-x
 case neg=>
  rw[decide_eq_false λA:dG s x y w hh=>I A.2.2.2.2.2.2.1];simp only[go_sem,decide_eq_false I]
  repeat(first|refine ao undef (λ_ _=>rfl) ?_ |(refine⟨trivial,?_⟩)|simp only[go_sem])
  first|exact E|exact⟨trivial,E⟩|exact⟨rfl,E⟩
 simp only[go_sem,Nat.zero_add,decide_eq_true I];refine ao (.int .i64 hh) (λh' e=>by rw[e];exact ai r2) ?_;refine ao q (λh' e=>by rw[e];exact ai r1) ?_;refine ao (.int .i64 y) (λh' e=>by rw[e];exact ai r2) ?_
 try simp only[go_sem]
 refine ae.at (Ax (hq.ext E)) ?_;refine⟨rfl,?_⟩;simp only[go_sem,Nat.zero_add];rw[w64 (by omega) (by omega)];refine⟨?_,E⟩
 congr 1
 rw[decide_eq_decide];exact⟨λg8=>⟨g1,g2,F,G,D,H,I,g8⟩,λA=>A.2.2.2.2.2.2.2⟩
abbrev Xl:Array Value:=#[(.pointer none),(.pointer none),(.pointer none),(.pointer none),(.int .i64 0),(.int .i64 0),(.int .i64 0),(.int .i64 0),(.int .i64 0),(.int .i64 0),(.int .i64 0),(.int .i64 0),(.int .i64 0),(.int .i64 0),(.int .i64 0),(.pointer none),(.int .i64 0)]
theorem UB {bf bt:Nat}{p q rv:Value}{d:ef}{y:Int}(A:aJ rv=true):
  aF Xl [(0,1,ptr bf),(1,1,ptr bt),(2,3,.agg #[p,q,.int .i64 d.s.border]),(5,10,.agg (cS d.t).toArray),(15,1,rv),(16,1,.int .i64 y)]=some (Qt bf bt p q rv d y).toArray:=by
 refine(bI (n:=1) (l:=[ptr bf]) rfl rfl (by simp)).trans ?_;refine(bI (n:=1) (l:=[ptr bt]) rfl rfl (by simp[bX])).trans ?_;refine(bI (n:=3) (l:=[p,q,.int .i64 d.s.border]) rfl rfl (by simp[bX])).trans ?_;refine(bI (n:=10) (l:=cS d.t) rfl rfl (by simp[bX])).trans ?_;refine(bI (n:=1) (l:=[rv]) (bT A) rfl (by simp[bX])).trans ?_;refine(bI (n:=1) (l:=[.int .i64 y]) rfl rfl (by simp[bX])).trans ?_;rw[fo];simp[wrL,cS,Qt]
theorem IP {h:af}{b:Nat}{l:List Value}{t:TypeId}{f:Nat×Nat}(r:h[b]? =some (.cells l.toArray t f))(o n:Nat)(m:List Value)(G:(l.drop o).take n=m)(D:m.length=n):aH n h (.pointer (some ⟨b,o,none⟩))=some (.agg m.toArray):=by
 subst G;refine DO _ n D λj A=>?_
 rw[ai r];rw[List.length_take,List.length_drop]at A;have F:o+j<l.length:=by omega
 rw[List.getElem_take,List.getElem_drop];simp[F]
def lE (m n:Pic)(s:Stg)(t:co):Int:=if¬jJ m n s then 6 else if¬dG s t.x t.y t.w t.h then 9 else 0
theorem nA {m n:Pic}{s:Stg}{t:co}:lE m n s t=0↔jJ m n s∧dG s t.x t.y t.w t.h:=by
 unfold lE;by_cases h1:jJ m n s
 ·rw[if_neg (by simpa using h1)];by_cases A:dG s t.x t.y t.w t.h
  ·rw[if_neg (by simpa using A)];exact⟨λ_=>⟨h1,A⟩,λ_=>rfl⟩
  ·rw[if_pos A];exact⟨λh=>absurd h (by decide),λh=>absurd h.2 A⟩
 ·rw[if_pos h1];exact⟨λh=>absurd h (by decide),λh=>absurd h.1 h1⟩
theorem IY {m n:Pic}{s:Stg}{t:co}(W:m.Wf)(A:s.Wf)(hc:lE m n s t=0):ef.Wf ⟨m,s,t⟩:=by
 obtain⟨h1,D⟩:=nA.1 hc;obtain⟨a1,a2,a3,a4,a5,a6,F,G⟩:=D;exact⟨W,A,h1.1,a1,a2,a3,a4,by show t.x+t.w≤(s.x.lines.length:Int);omega,by show t.y+t.h≤(s.y.lines.length:Int);omega⟩
theorem Ry {m n:Pic}{s:Stg}{t:co}(W:n.Wf)(hc:lE m n s t=0):Ea ⟨m,s,t⟩ n:=by
 obtain⟨h1,A⟩:=nA.1 hc;exact⟨W,h1.2.1,h1.2.2.1,h1.2.2.2.1,h1.2.2.2.2⟩
def Rb (Z:Nat→Prop)(h:af)(bf:Nat)(vf:Value)(bt:Nat)(vt p q:Value)(m n:Pic)(s:Stg)(t:co)(r:Value)(h':af):Prop:=
 Ext h h'∧∃v,r=.tuple #[v,.int .i64 (lE m n s t)]∧(lE m n s t≠0→v=.pointer none)∧
  (lE m n s t=0→∃bj rv,v=ptr bj∧jm Z (nP (λ_=>False) h h') h' bj bf vf bt vt p q rv ⟨m,s,t⟩ t.y (lnF s.y t.y) n (gj (bu s.y.lines)) (dP (t.w*m.c)))
theorem Yc {h:af}(G:dr h){Z:Nat→Prop}{bf bt:Nat}{vf vt p q:Value}{m n:Pic}{s:Stg}{t:co}(I:cA h bf vf m)(O:cA h bt vt n)(aa:bf≠bt)(W:m.Wf)(WO:n.Wf)(hp:dY Z h p s.x)(hq:dY Z h q s.y)(WS:s.Wf)
  (zf:Z bf∧∀c,blk vf c→Z c) (zz:∀c,Z c→¬blk vt c) (zl:∀c,Z c→c<h.size):
  ae prog me #[ptr bf,ptr bt,.agg #[p,q,.int .i64 s.border],.agg (cS t).toArray] h (Rb Z h bf vf bt vt p q m n s t):=by
 apply Kf;unfold AA;simp only[bG];have HS:nh Z h (.agg #[p,q,.int .i64 s.border]) s:=⟨p,q,rfl,hp,hq⟩
 refine aC λb1 h1 r1 e1 n1=>aC λb2 h2 r2 e2 n2=>?_
 have U:=e1.trans e2;have r1:=e2.row r1;rw[aM (l:=[p,q,.int .i64 s.border]) r1 3 rfl,ah];refine ae.to (UN (G.ext U) (I.ext U) (O.ext U) aa (HS.ext U)) λh3 e3=>?_
 have E3:=U.trans e3;by_cases g1:jJ m n s
 case neg=>
  have hc:lE m n s t=6:=by unfold lE;rw[if_pos g1]
  simp only[go_sem,decide_eq_false g1];exact⟨E3,_,by rw[hc],λ_=>rfl,λh0=>absurd (h0.symm.trans hc) (by decide)⟩
 simp only[go_sem,decide_eq_true g1];have r1:=e3.row r1;have r2:=e3.row r2;rw[aM (l:=[p,q,.int .i64 s.border]) r1 3 rfl,ah,IP r2 (0+1) 4 [.int .i64 t.x,.int .i64 t.y,.int .i64 t.w,.int .i64 t.h] rfl rfl,ah];refine ae.to (Pa (HS.ext E3) WS) λh4 e4=>?_
 have H:=E3.trans e4;by_cases g2:dG s t.x t.y t.w t.h
 case neg=>
  have hc:lE m n s t=9:=by unfold lE;rw[if_neg (by simpa using g1),if_pos g2]
  simp only[go_sem,decide_eq_false g2];exact⟨H,_,by rw[hc],λ_=>rfl,λh0=>absurd (h0.symm.trans hc) (by decide)⟩
 simp only[go_sem,decide_eq_true g2];have hc:lE m n s t=0:=nA.2 ⟨g1,g2⟩;have r1:=e4.row r1;have r2:=e4.row r2;have WJ:=IY (t:=t) W WS hc;have hb:=ef.bd WJ;have ad:=WJ.w1;have ab:=WJ.x0;have hf:=cL W.fits;refine aI (Ext h4) (Ext.refl _) ?_;refine ao (.agg #[p,q,.int .i64 s.border]) (λh' e=>aM (l:=[p,q,.int .i64 s.border]) (e.row r1) 3 rfl) ?_;refine ao (.agg (cS t).toArray) (λh' e=>aM (e.row r2) 10 rfl) ?_
 try simp only[go_sem,Nat.zero_add]
 refine ao q (λh' e=>ai (e.row r1)) ?_
 try simp only[go_sem,Nat.zero_add]
 refine ao (.int .i64 t.w) (λh' e=>ai (e.row r2)) ?_
 try simp only[go_sem,Nat.zero_add]
 refine ao (.int .i64 t.y) (λh' e=>ai (e.row r2)) ?_;refine ae.at (Nl (hq.ext H)) ?_;refine⟨Ext.refl _,?_⟩;refine ae.at (dA (I.ext H)) ?_;refine⟨Ext.refl _,?_⟩;have aw:0≤t.w*m.c∧t.w*m.c≤65536*3:=by
  have h1:(1:Int)≤t.w:=ad;have h2:t.x+t.w≤65536:=hb.1;have h3:0≤t.x:=ab;have:=Int.mul_le_mul (show t.w≤65536 by omega) hf.2.2.2.2.2.1 (by omega) (by omega);exact⟨Int.mul_nonneg (by omega) (by omega),this⟩
 simp only[go_sem];rw[w64 (n:=t.w*m.c) (by omega) (by omega)];refine(Yn (bu s.y.lines) (t.w*m.c)).mono λrv h5 ⟨M,R,e5,hM⟩=>?_
 refine⟨e5,?_⟩;have E5:=H.trans e5;have hr:aJ rv=true:=by obtain⟨_,_,_,_,_,_,e,_⟩:=R;rw[e];rfl
 have al:aF Xl [(0,1,ptr bf),(1,1,ptr bt),(2,3,.agg #[p,q,.int .i64 s.border]),(5,10,.agg (cS t).toArray),(15,1,rv),(16,1,.int .i64 t.y)]=some (Qt bf bt p q rv ⟨m,s,t⟩ t.y).toArray:=UB (d:=⟨m,s,t⟩) hr;rw[al,bi,ah];refine aC λbj h6 r6 e6 n6=>?_
 have F:=E5.trans e6;have au:=O.lt;have ar:=E5.1;have an:=H.1;refine⟨F,_,by rw[hc],λh0=>absurd hc h0,λ_=>⟨bj,rv,rfl,⟨M,[],⟨r6,I.ext F,hp.ext F,hq.ext F,R.ext e6,O.ext F,zf,λc D=>⟨λA=>?_,λhe=>?_,zz c D⟩,⟨λA=>?_,λA=>?_,λc L A=>?_⟩,⟨by omega,λL=>?_⟩,Int.le_refl _,?_,λc D=>Nat.lt_of_lt_of_le (zl c D) F.1⟩,λc A=>.inr ⟨?_,?_⟩,λ_=>⟨Eb.start _ _,Int.le_refl _,?_⟩⟩,.inr ⟨by omega,aW r6⟩,λc hc=>hc.elim (λh=>h.elim) λh=>h.2,λc hc=>?_,Ry WO hc⟩⟩
 ·have:=hM c A;have:=zl c D;omega
 ·have:=zl c D;omega
 ·have:=R.lt A;omega
 ·have:=hM bt A;omega
 ·have:=hM c A;have:=O.ltv L;omega
 ·have:=O.ltv L;omega
 ·show t.y≤t.y+t.h;have:=WJ.h1;have:(1:Int)≤t.h:=this;omega
 ·have:=hM c A;omega
 ·have:=R.lt A;have:=e6.1;omega
 ·show lnF s.y t.y≤lnE s.y t.y;unfold lnF lnE;omega
 ·rcases hc with h|h
  ·exact h.elim
  ·exact⟨λD=>by have:=zl c D;omega,by omega,λL=>by have:=O.ltv L;omega⟩
section
theorem GH {a b:Int}(A:1≤a)(D:1≤b):max a b≤a*b:=by
 have h1:a*1≤a*b:=Int.mul_le_mul_of_nonneg_left D (by omega);have F:1*b≤a*b:=Int.mul_le_mul_of_nonneg_right A (by omega);omega
theorem span0 (X:Int){n m:Int}(H:1≤n)(U:1≤m): -(-(X+n)/m)-X/m≤6*n+4:=by
 have a1:=Int.mul_ediv_add_emod (-(X+n)) m;have a2:=Int.mul_ediv_add_emod X m;have F:=Int.emod_lt_of_pos (-(X+n)) (show 0<m by omega);have G:=Int.emod_lt_of_pos X (show 0<m by omega);have W:=GH H U
 revert a1 a2 F G
 generalize-(X+n)/m=A;generalize X/m=D;generalize-(X+n)%m=r1;generalize X%m=r2;intro a1 a2 F G;rcases Int.lt_or_le (6*n+4) (-A-D)with h|h
 ·exfalso;have h1:m*(6*n+5)≤m*(-A-D):=Int.mul_le_mul_of_nonneg_left (by omega) (by omega);have L:m*(6*n+5)=6*(n*m)+5*m:=by grind
  have I:m*(-A-D)= -(m*A)-m*D:=by grind
  rw[L,I]at h1;omega
 ·omega
theorem span1 (X R:Int){n m:Int}(W:1≤n)(L:1≤m)(U:R≤6*(n*m)): -(-(X+R)/(2*m))-((X-R)/(2*m)+1)≤6*n+4:=by
 have a1:=Int.mul_ediv_add_emod (-(X+R)) (2*m);have a2:=Int.mul_ediv_add_emod (X-R) (2*m);have F:=Int.emod_lt_of_pos (-(X+R)) (show 0<2*m by omega);have G:=Int.emod_lt_of_pos (X-R) (show 0<2*m by omega)
 revert a1 a2 F G
 generalize-(X+R)/(2*m)=A;generalize(X-R)/(2*m)=D;generalize-(X+R)%(2*m)=r1;generalize(X-R)%(2*m)=r2;intro a1 a2 F G;rcases Int.lt_or_le (6*n+4) (-A-(D+1))with h|h
 ·exfalso;have h1:2*m*(6*n+5)≤2*m*(-A-(D+1)):=Int.mul_le_mul_of_nonneg_left (by omega) (by omega);have I:2*m*(6*n+5)=12*(n*m)+10*m:=by grind
  have H:2*m*(-A-(D+1))= -(2*m*A)-2*m*D-2*m:=by grind
  rw[I,H]at h1;omega
 ·omega
theorem VF {f n m i:Int}(H:0≤f∧f<3)(A:1≤n)(D:1≤m):lg f n m i-nH f n m i≤6*n+4:=by
 have G:=GH A D;unfold lg nH Jq;by_cases h0:f=0
 ·rw[if_pos h0,if_pos h0];rw[show(i+1)*n=i*n+n by rw[Int.add_mul,Int.one_mul]];exact span0 (i*n) A D
 ·rw[if_neg h0,if_neg h0];have F:cj f*2*max n m≤6*(n*m)∧0≤cj f*2*max n m:=by
   have:(cj f=2∨cj f=3):=by unfold cj;rw[if_neg h0];split<;>simp
   rcases this with h|h<;>rw[h]<;>omega
  generalize cj f*2*max n m=R at*;exact span1 _ _ A D F.1
theorem BY {ls:List (Int×List Int)}{c:Int}(h0:0≤c)(h:∀x∈ls,(x.2.length:Int)≤c):bu ls≤c:=by
 unfold bu;have:∀(l:List (Int×List Int)) (a:Int),a≤c→(∀x∈l,(x.2.length:Int)≤c)→l.foldl (λm x=>max m (x.2.length:Int)) a≤c:=by
  intro l;induction l with
  |nil=>intro a A _;exact A
  |cons y l F=>
   intro a A D;rw[List.foldl_cons];exact F _ (by have:=D y (by simp);omega) λx G=>D x (by simp[G])
 exact this ls 0 h0 h
theorem MW (ls:List (Int×List Int)):0≤bu ls:=(DK ls 0).1
theorem Dl {f n m:Int}(hc:cP f n m=0):bu (dT f n m).lines≤6*n+4:=by
 have h0:¬(¬(0≤f∧f<3)∨¬aT n∨¬aT m):=λh=>by unfold cP at hc;rw[if_pos h]at hc;cases hc
 have F:=hc;unfold cP at F;rw[if_neg h0]at F;have G:0≤f∧f<3:=Decidable.of_not_not λh=>h0 (.inl h)
 have A:aT n:=Decidable.of_not_not λh=>h0 (.inr (.inl h))
 have D:aT m:=Decidable.of_not_not λh=>h0 (.inr (.inr h))
 unfold aT at A D;refine BY (by omega) λx I=>?_
 obtain⟨i,hi,rfl⟩:=List.mem_map.1 I;have hi:=List.mem_range.1 hi;have H:=oA F i hi;show((bN (cq f n m i)).length:Int)≤_;rw[sH H];unfold cq;rw[if_pos ⟨G.1,G.2,A.1,A.2,D.1,D.2,by omega,by omega⟩];unfold Al;rw[List.length_map,List.length_range];have:=VF (i:=i) G A.1 D.1;omega
theorem NW {f n m:Int}(hc:cP f n m=0)(A:n≤10000):bu (dT f n m).lines≤65536:=by have:=Dl hc;omega
theorem DX (l:List Int)(n:Int)(hc:gn l n=0):bu (iI l n).lines≤l.length:=by
 refine BY (by omega) λx A=>?_
 obtain⟨i,hi,rfl⟩:=List.mem_map.1 A;show((bN l).length:Int)≤_;have h0:ck l=0:=by
  unfold gn at hc;split at hc
  ·cases hc
  ·split at hc
   ·cases hc
   ·exact hc
 rw[sH h0];omega
theorem OR (l:List Int)(A:l.length≤1024)(n:Int)(hc:gn l n=0):bu (iI l n).lines≤65536:=by have:=DX l n hc;omega
theorem Qp {o:OpD}{w h:Int}(hc:dD o w h=0)(F:h≤10000):bu (bM o w h).y.lines≤65536:=by
 have A:gh o w h=0:=by
  unfold dD at hc;split at hc
  ·cases hc
  ·exact hc
 show bu (dI o h).lines≤_;unfold gh at A;unfold dI;split
 ·rename_i D;rw[if_pos D]at A;by_cases h1:cP o.filter w o.w=0
  ·rw[if_neg (by simpa using h1)]at A;exact NW A F
  ·rw[if_pos h1]at A;exact absurd A h1
 ·rename_i D;rw[if_neg D]at A;refine OR _ (xM o).2 _ ?_;split at A
  ·exact absurd A (by assumption)
  ·split at A
   ·exact absurd A (by assumption)
   ·exact A
structure zy (s:Stg):Prop where
 wf:s.Wf
 mono:Ai s.y
 most:bu s.y.lines≤65536
 side:s.x.lines.length≤300
theorem II {o:OpD}{w h:Int}(hc:dD o w h=0)(A:h≤10000)(D:mN o w≤300):zy (bM o w h):=
 ⟨(vA hc).1,Qq hc,Qp hc A,by have:=(EH hc).1;omega⟩
theorem zy.room {s:Stg}(H:zy s){m n:Pic}{t:co}(W:m.Wf)(hc:lE m n s t=0):Vp ⟨m,s,t⟩ (gj (bu s.y.lines)) (dP (t.w*m.c)):=by
 have A:=IY (t:=t) W H.wf hc;have F:=cL W.fits;have h1:1≤t.w:=A.w1;have U:0≤t.x:=A.x0;have I:t.x+t.w≤s.x.lines.length:=A.xw;have L:=H.side;have G:=H.most;have D:0≤t.w*m.c∧t.w*m.c≤300*3:=⟨Int.mul_nonneg (by omega) (by omega),Int.mul_le_mul (show t.w≤300 by omega) F.2.2.2.2.2.1 (by omega) (by omega)⟩
 refine⟨H.mono,?_,?_,?_,?_⟩
 ·unfold gj;show bu s.y.lines≤_;omega
 ·unfold gj;omega
 ·unfold dP;show _=t.w*m.c;omega
 ·show t.w≤300;omega
def ko (d:ef):Nat→Int→Int→Nat
 |0,_,_=>0
 |k+1,y,e=>(lnE d.s.y y-e).toNat+1+ko d k (y+1) (max (lnE d.s.y y) (lnF d.s.y (y+1)))
def pH (d:ef)(y e:Int):Nat:=ko d (d.t.y+d.t.h-y).toNat y e
theorem Lr {d:ef}{y e:Int}(h:d.t.y+d.t.h≤y):pH d y e=0:=by
 unfold pH;rw[show(d.t.y+d.t.h-y).toNat=0 by omega];rfl
theorem EN {d:ef}{y e:Int}(h:y<d.t.y+d.t.h):pH d y e=(lnE d.s.y y-e).toNat+1+pH d (y+1) (max (lnE d.s.y y) (lnF d.s.y (y+1))):=by
 unfold pH;rw[show(d.t.y+d.t.h-y).toNat=(d.t.y+d.t.h-(y+1)).toNat+1 by omega];rfl
theorem SD {d:ef}{y e:Int}(U:bP d y e≠0)(W:e≤lnE d.s.y y):pH d (eU d y e) (fZ d y e)+1=pH d y e:=by
 have A:¬d.t.y+d.t.h≤y:=λh=>U (by unfold bP;rw[if_pos h])
 have H:=EN (e:=e) (show y<d.t.y+d.t.h by omega);by_cases h1:e<lnE d.s.y y
 ·have L:bP d y e=1:=by unfold bP;rw[if_neg A,if_pos h1]
  have G:eU d y e=y:=by unfold eU;rw[if_neg (by omega)]
  have D:fZ d y e=e+1:=by unfold fZ;rw[if_pos L]
  rw[G,D,H,EN (e:=e+1) (by omega)];omega
 ·have I:bP d y e=2:=by unfold bP;rw[if_neg A,if_neg h1]
  have G:eU d y e=y+1:=by unfold eU;rw[if_pos I]
  have D:fZ d y e=max e (lnF d.s.y (y+1)):=by unfold fZ;rw[if_neg (by omega),if_pos I]
  have F:e=lnE d.s.y y:=by omega
  rw[G,D,H,F];omega
theorem Ug {d:ef}{y e:Int}:pH d y e=0↔bP d y e=0:=by
 unfold bP;by_cases h:d.t.y+d.t.h≤y
 ·rw[if_pos h,Lr h];simp
 ·rw[if_neg h,EN (by omega)];constructor
  ·intro h;omega
  ·split<;>intro h<;>cases h
theorem DN {d:ef}(W:d.s.y.Wf):∀(k:Nat) (y e:Int),lnF d.s.y y≤e→ko d k y e≤k*1048577
 |0,_,_,_=>Nat.le_refl _
 |k+1,y,e,he=>by
  have h1:=DN W k (y+1) (max (lnE d.s.y y) (lnF d.s.y (y+1))) (by omega);have A:=oh W y;unfold ko;unfold lnE lnF at*;omega
theorem left_bd {d:ef}(W:d.Wf){y e:Int}(G:d.t.y≤y)(A:y<d.t.y+d.t.h→lnF d.s.y y≤e):pH d y e≤68719542272:=by
 by_cases h:y<d.t.y+d.t.h
 ·have h1:=DN W.s.y (d.t.y+d.t.h-y).toNat y e (A h);have F:=ef.bd W;have D:=W.y0;unfold pH;omega
 ·rw[Lr (by omega)];omega
theorem Ac {B:Nat→Prop}{h:af}:nP B h h=B:=by
 funext c
 unfold nP;apply propext;constructor
 ·rintro(h|h)
  ·exact h
  ·omega
 ·exact .inl
section
variable {Z B:Nat→Prop}{h:af}{bj bf:Nat}{vf:Value}{bt:Nat}{vt p q rv:Value}{d:ef}{y e:Int}{n:Pic}{room w:Nat}
theorem JD (S:jm Z B h bj bf vf bt vt p q rv d y e n room w):ae prog iK #[ptr bj] h λr h'=>r=.int .i64 ((room:Int)*w)∧h'=h:=by
 apply An;unfold qs;obtain⟨⟨M,rs,J,a,b⟩,_⟩:=S;simp only[go_sem,J.c15 (Ext.refl _)];exact Va J.ring
end
def vV (s:Stg)(t:co)(m:Pic):Nat:=pH ⟨m,s,t⟩ t.y (lnF s.y t.y)
theorem WX {Z:Nat→Prop}{h:af}{p q:Value}{s:Stg}{t:co}(m:Pic)(hp:dY Z h p s.x)(hq:dY Z h q s.y)(F:zy s):
  ae prog sK #[.agg #[p,q,.int .i64 s.border],.agg (cS t).toArray] h λr h'=>r=.int .i64 (if dG s t.x t.y t.w t.h then(vV s t m:Int)else 0)∧Ext h h':=by
 apply F0;unfold xb;simp only[bG];have HS:nh Z h (.agg #[p,q,.int .i64 s.border]) s:=⟨p,q,rfl,hp,hq⟩
 refine aC λb1 h1 r1 e1 n1=>aC λI h2 r2 e2 n2=>?_
 have E2:=e1.trans e2;have r1:=e2.row r1;rw[aM (l:=[p,q,.int .i64 s.border]) r1 3 rfl,ah,OQ,ah,IP r2 (0+1) 4 [.int .i64 t.x,.int .i64 t.y,.int .i64 t.w,.int .i64 t.h] rfl rfl,ah];refine ae.to (Pa (HS.ext E2) F.wf) λh4 e4=>?_
 have E4:=E2.trans e4;have r1:=e4.row r1;have r2:=e4.row r2;by_cases g:dG s t.x t.y t.w t.h
 case neg=>
  rw[if_neg g];simp only[go_sem,decide_eq_false g];exact⟨trivial,E4⟩
 rw[if_pos g];obtain⟨g1,g2,g3,g4,g5,g6,g7,g8⟩:=g;have q1:aB h4 ⟨b1,1,none⟩=some q:=ai r1;have t4:aB h4 ⟨I,4,none⟩=some (.int .i64 t.h):=ai r2;have t2:aB h4 ⟨I,2,none⟩=some (.int .i64 t.y):=ai r2;simp only[go_sem,decide_eq_true (show dG s t.x t.y t.w t.h from⟨g1,g2,g3,g4,g5,g6,g7,g8⟩),t4,q1,t2];refine(zt (hq.ext E4) F.wf.y).mono λr h5 ⟨u,e,S,e5⟩=>?_
 subst e;have E5:=E4.trans e5;have ay:mZ false 1 0 (.agg #[.int .i64 (aZ s.y t.y).1,u])=some (.int .i64 (lnF s.y t.y)):=rfl;have t4:aB h5 ⟨I,4,none⟩=some (.int .i64 t.h):=ai (e5.row r2);simp only[go_sem,ay,t4];obtain⟨H,hH⟩:∃H:Nat,t.h=(H:Int):=⟨t.h.toNat,by omega⟩
 have be:=F.wf.y.len;have a8:=F.mono;obtain⟨d,hd⟩:∃d:ef,d=⟨m,s,t⟩:=⟨_,rfl⟩
 have G:d.s=s:=by rw[hd]
 have ab:vV s t m=ko d H t.y (lnF s.y t.y):=by
  unfold vV pH;rw[hd];show ko _ (t.y+t.h-t.y).toNat _ _=_;rw[show(t.y+t.h-t.y).toNat=H by omega]
 have aa:∀k y e,lnF s.y y≤e→ko d k y e≤k*1048577:=λk y e he=>DN (by rw[G];exact F.wf.y) k y e (by rw[G];exact he)
 have bk:=aa H t.y (lnF s.y t.y) (Int.le_refl _);rw[hH];refine bA (α:=Int×Int) H 0 (λk a=>[.int .i64 a.1,.int .i64 a.2,.int .i64 (k:Int)])
  (λk a h'=>Ext h h'∧h'[b1]? =some (.cells #[p,q,.int .i64 s.border] 81 (0,0))∧h'[I]? =some (.cells (cS t).toArray 116 (0,0))∧0≤a.1∧a.1+ko d (H-k) (t.y+k) (max a.2 (lnF s.y (t.y+k)))-(H-k:Nat)=vV s t m∧(k<H→a.2≤lnE s.y (t.y+k)∧lnF s.y t.y≤a.2)) ((H:Int),lnF s.y t.y) rfl (Nat.zero_le _)
  ⟨E5,e5.row r1,e5.row r2,by show(0:Int)≤(H:Int);omega,by
   show((H:Int)+(ko d (H-0) (t.y+(0:Nat)) (max (lnF s.y t.y) (lnF s.y (t.y+(0:Nat)))):Int))-_=_;rw[show t.y+((0:Nat):Int)=t.y by omega,show max (lnF s.y t.y) (lnF s.y t.y)=lnF s.y t.y by omega,ab,Nat.sub_zero];omega,λ_=>by
   show lnF s.y t.y≤lnE s.y (t.y+(0:Nat))∧_;rw[show t.y+((0:Nat):Int)=t.y by omega];exact⟨by unfold lnE lnF;omega,Int.le_refl _⟩⟩ λk a h6 again ρ1 _ hk ⟨E6,ad,W,a0,hI,hL⟩ an=>?_
 obtain⟨n,A⟩:=a;have a0:0≤n:=a0;have hI:n+ko d (H-k) (t.y+k) (max A (lnF s.y (t.y+k)))-(H-k:Nat)=vV s t m:=hI;have hL:k<H→A≤lnE s.y (t.y+k)∧lnF s.y t.y≤A:=hL;simp only[go_sem];refine aj (λh7=>?_) (λh7=>?_)
 ·have U:k<H:=by omega
  obtain⟨hL,bv⟩:=hL U;have q1:aB h6 ⟨b1,1,none⟩=some q:=ai ad;have t2:aB h6 ⟨I,2,none⟩=some (.int .i64 t.y):=ai W;simp only[go_sem,q1,t2];rw[w64 (n:=t.y+(k:Int)) (by omega) (by omega)];refine(zt (hq.ext E6) F.wf.y).mono λr h7 ⟨u,e,S,e7⟩=>?_
  subst e;have hl:=oh F.wf.y (t.y+k);refine cD (cs:=[.int .i64 (aZ s.y (t.y+k)).1,u]) rfl (ak rfl (ak S.one aQ)) rfl λb8 h8 r8 e8 n8=>?_
  obtain⟨au,cu,eu⟩:=S.isSl;have a7:aq u=some (.int .i64 ((aZ s.y (t.y+k)).2.length:Int)):=by rw[eu];rfl
  have c0:aB h8 ⟨b8,0,none⟩=some (.int .i64 (aZ s.y (t.y+k)).1):=ai r8;have c1:aB h8 ⟨b8,1,none⟩=some u:=ai r8;simp only[go_sem,Nat.zero_add,c0,c1,a7];have ax:(aZ s.y (t.y+k)).1+((aZ s.y (t.y+k)).2.length:Int)=lnE s.y (t.y+k):=rfl;have ar:(aZ s.y (t.y+k)).1=lnF s.y (t.y+k):=rfl;have b0:lnF s.y (t.y+k)≤lnE s.y (t.y+k):=by unfold lnE lnF;omega
  have bc: -70368744177664≤lnE s.y (t.y+k)∧lnE s.y (t.y+k)≤70368745226240:=by unfold lnE;omega
  have L:=oh F.wf.y t.y;have a9: -70368744177664≤lnF s.y t.y∧lnF s.y t.y≤70368744177664:=⟨L.2.1,L.2.2⟩
  have bg: -70368744177664≤lnF s.y (t.y+k):=hl.2.1;rw[w64 (n:=(aZ s.y (t.y+k)).1+((aZ s.y (t.y+k)).2.length:Int)) (by omega) (by omega),ax,ar];have D:ko d (H-k) (t.y+k) (max A (lnF s.y (t.y+k)))=(lnE s.y (t.y+k)-max A (lnF s.y (t.y+k))).toNat+1+ko d (H-(k+1)) (t.y+(k+1:Nat)) (max (lnE s.y (t.y+k)) (lnF s.y (t.y+(k+1:Nat)))):=by
   rw[show H-k=(H-(k+1))+1 by omega];rw[ko,G,show t.y+(k:Int)+1=t.y+((k+1:Nat):Int)by omega]
  have bd:=aa (H-(k+1)) (t.y+(k+1:Nat)) (max (lnE s.y (t.y+k)) (lnF s.y (t.y+(k+1:Nat)))) (by omega);rw[D]at hI;generalize aw:ko d (H-(k+1)) (t.y+(k+1:Nat)) (max (lnE s.y (t.y+k)) (lnF s.y (t.y+(k+1:Nat))))=LL at*;rw[w64 (n:=lnE s.y (t.y+k)-max A (lnF s.y (t.y+k))) (by omega) (by omega),w64 (n:=n+max 0 (lnE s.y (t.y+k)-max A (lnF s.y (t.y+k)))) (by omega) (by omega),w64 (n:=(k:Int)+1) (by omega) (by omega)];refine an (n+max 0 (lnE s.y (t.y+k)-max A (lnF s.y (t.y+k))),max A (lnE s.y (t.y+k))) h8 U ⟨E6.trans (e7.trans e8),(e7.trans e8).row ad,(e7.trans e8).row W,?_,?_,λbo=>?_⟩
  ·show 0≤n+max 0 (lnE s.y (t.y+k)-max A (lnF s.y (t.y+k)));omega
  ·show n+max 0 (lnE s.y (t.y+k)-max A (lnF s.y (t.y+k)))+(ko d (H-(k+1)) (t.y+(k+1:Nat)) (max (max A (lnE s.y (t.y+k))) (lnF s.y (t.y+(k+1:Nat)))):Int)-_=_;rw[show max A (lnE s.y (t.y+k))=lnE s.y (t.y+k)by omega,aw];omega
  ·have:=a8.e (t.y+k) (t.y+(k+1:Nat)) (by omega) (by omega) (by omega);show max A (lnE s.y (t.y+k))≤lnE s.y (t.y+(k+1:Nat))∧lnF s.y t.y≤max A (lnE s.y (t.y+k));omega
 ·have al:k=H:=by omega
  subst al;refine⟨?_,E6⟩;rw[Nat.sub_self]at hI;have:n=vV s t m:=by unfold ko at hI;omega
  rw[this]
end
end Go.Proofs.YtjljhnandbbldaaGreatDoor
namespace Go.Proofs.YtjljhnandbbldaaGreatDoor
open Go Go.Crisp
attribute [local irreducible] ae cE aP stK aA vK qK bC gK dK aU mkK cF Ch DH zZ bsK clK qQ lW Rw
theorem OD {t:Tbl}{i:Nat}(hi:i<t.lines.length):t.lines[i]=aZ t (i:Int):=by
 unfold aZ;rw[if_pos (by omega)];simp[List.getD_eq_getElem?_getD,hi]
def XI (m:Pic)(s:Stg)(i:Nat):Int:=ut m s ((i/m.c.toNat%s.x.lines.length:Nat):Int) ((i/m.c.toNat/s.x.lines.length:Nat):Int) ((i%m.c.toNat:Nat):Int)
def zw (m:Pic)(s:Stg):Pic:=⟨s.x.lines.length,s.y.lines.length,m.c,m.most,(List.range (s.y.lines.length*s.x.lines.length*m.c.toNat)).map λi:Nat=>XI m s i⟩
theorem VS {m:Pic}{s:Stg}{x y c:Nat}(A:x<s.x.lines.length)(hc:c<m.c.toNat):XI m s ((y*s.x.lines.length+x)*m.c.toNat+c)=ut m s x y c:=by
 unfold XI;have D:((y*s.x.lines.length+x)*m.c.toNat+c)/m.c.toNat=y*s.x.lines.length+x:=by
  rw[Nat.mul_comm,Nat.mul_add_div (by omega),Nat.div_eq_of_lt hc,Nat.add_zero]
 have F:((y*s.x.lines.length+x)*m.c.toNat+c)%m.c.toNat=c:=by
  rw[Nat.mul_comm,Nat.mul_add_mod,Nat.mod_eq_of_lt hc]
 rw[D,F];have H:(y*s.x.lines.length+x)%s.x.lines.length=x:=by rw[Nat.mul_comm,Nat.mul_add_mod,Nat.mod_eq_of_lt A]
 have G:(y*s.x.lines.length+x)/s.x.lines.length=y:=by rw[Nat.mul_comm,Nat.mul_add_div (by omega),Nat.div_eq_of_lt A,Nat.add_zero]
 rw[H,G]
theorem Tu {m:Pic}{s:Stg}{x y c:Int}(hi:inP (zw m s) x y c):atP (zw m s) x y c=ut m s x y c:=by
 unfold atP;rw[if_pos hi];obtain⟨x0,A,y0,y1,H,D⟩:=hi;have A:x<s.x.lines.length:=A;have y1:y<s.y.lines.length:=y1;have D:c<m.c:=D;obtain⟨a,rfl⟩:∃a:Nat,x=a:=⟨x.toNat,by omega⟩
 obtain⟨b,rfl⟩:∃b:Nat,y=b:=⟨y.toNat,by omega⟩
 obtain⟨e,rfl⟩:∃e:Nat,c=e:=⟨c.toNat,by omega⟩
 have F:(mI (zw m s) a b e).toNat=(b*s.x.lines.length+a)*m.c.toNat+e:=by
  show(((b:Int)*(s.x.lines.length:Int)+a)*m.c+e).toNat=_;have:((((b*s.x.lines.length+a)*m.c.toNat+e:Nat)):Int)=((b:Int)*(s.x.lines.length:Int)+a)*m.c+e:=by
   rw[Int.natCast_add,Int.natCast_mul,Int.natCast_add,Int.natCast_mul,Int.toNat_of_nonneg (by omega)]
  omega
 rw[F];have h1:b*s.x.lines.length+a<s.y.lines.length*s.x.lines.length:=by
  have:(b+1)*s.x.lines.length≤s.y.lines.length*s.x.lines.length:=Nat.mul_le_mul_right _ (by omega);rw[Nat.add_mul,Nat.one_mul]at this;omega
 have G:(b*s.x.lines.length+a)*m.c.toNat+e<s.y.lines.length*s.x.lines.length*m.c.toNat:=by
  have:(b*s.x.lines.length+a+1)*m.c.toNat≤s.y.lines.length*s.x.lines.length*m.c.toNat:=Nat.mul_le_mul_right _ (by omega);rw[Nat.add_mul,Nat.one_mul]at this;omega
 show((List.range _).map _).getD _ 0=_;rw[List.getD_eq_getElem?_getD,List.getElem?_map,List.getElem?_range G];exact VS (by omega) (by omega)
end Go.Proofs.YtjljhnandbbldaaGreatDoor
