/- Several texts of this session, one behind the other, without what this claim does not need (put together by its program pack.py). Conditions: none. -/
import Derived.Test.YtjljhnandbbldaaGreatDoorMu3
set_option linter.unusedVariables false
set_option linter.unusedSimpArgs false
set_option maxRecDepth 100000
namespace Go.Proofs.YtjljhnandbbldaaGreatDoor
open Go Go.Crisp
attribute [local irreducible] ag di aW stK aF vK qK bK gK fo bA mkK dk Fm GM CJ bsK clK tW oA V0
open _root_.Go.Proofs.Tryz
section
theorem jf.fr {Q:Nat→Prop}{h h':ah}{E:Option WE}{n:Pic}(I:jf h E n)(f:Fr Q h h')(hq:∀c,Q c→c<h.size→AA E c∧¬dQ E c):jf h' E n:=λF G=>by
 subst G;have A:=(I F rfl).1;exact⟨A.fr f (λhc=>(hq _ hc A.lt).1 rfl) (λc D hc=>(hq c hc (A.ltv D)).2 D),(I F rfl).2⟩
theorem jf.ext {h h':ah}{E:Option WE}{n:Pic}(I:jf h E n)(e:Ext h h'):jf h' E n:=I.fr (Q:=λ_=>False) e.fr λ_ h=>h.elim
theorem jf.new {h:ah}{E:Option WE}{n:Pic}(I:jf h E n){c:Nat}(hc:h.size≤c):AA E c∧¬dQ E c:=by
 cases E with
 |none=>exact⟨trivial,id⟩
 |some E=>exact⟨λD=>by have:=(I E rfl).1.lt;rw[D]at hc;omega,λA=>by have:=(I E rfl).1.ltv A;omega⟩
def stJ:Option (cZ×Int×Int)→Int
 |none=>0
 |some _=>1
theorem jD.upd {Z B:Nat→Prop}{h h':ah}{bw:Nat}{E:Option WE}{n:Pic}{D:Value}{jo:Option (cZ×Int×Int)}(H:jD Z B h E n D jo)(u:Upd bw h h')(L:¬Z bw)(G:¬B bw)(h1:AA E bw)(F:¬dQ E bw)(I:jf h E n):jD Z B h' E n D jo:=
 H.other u.fr (λc hc A=>L (A▸hc)) (λc hc A=>G (A▸hc)) (I.fr u.fr λc hc _=>by rw[show c=bw from hc];exact⟨h1,F⟩) (eE.refl n)
section
variable {Z B:Nat→Prop}{h:ah}{bw:Nat}{E:Option WE}{n:Pic}{w:WD}
theorem TX {W:Nat→Prop}{st wd:Int}{tv L:Value}{jo:Option (cZ×Int×Int)}(r:h[bw]? =some (.cells #[af st,tv,L,af wd] 182 (0,0)))(J:jD Z W h E n L jo)(hz:¬Z bw)(hb:¬W bw)(F:AA E bw)(G:¬dQ E bw)(I:jf h E n):
  ag prog dJ #[ptr bw] h λr h'=>∃A,h'[bw]? =some (.cells #[af (stJ (cH E jo)),tv,A,af wd] 182 (0,0))∧jD Z W h' E n A (cH E jo)∧Fr (λc=>c=bw) h h':=by
 apply yr;unfold ni;simp only[go_sem];refine bZ r (by simp) rfl λh1 r1 u1=>?_
 have r1:h1[bw]? =some (.cells #[aH,tv,L,af wd] 182 (0,0)):=r1;have J1:=J.upd u1 hz hb F G I;have I1:=I.fr u1.fr λc hc _=>by rw[show c=bw from hc];exact⟨F,G⟩
 have c2:aG h1 ⟨bw,2,none⟩=some L:=am r1;simp only[go_sem,aK,c2]
 -- it goes
 have gone:∀{U:ah},Ext h1 U→cH E jo=none→stK 1 (.pointer (some ⟨bw,0,none⟩)) ai U λab aa=>stK 1 (.pointer (some ⟨bw,2,none⟩)) (.pointer none) aa λ_ h'=>∃A,h'[bw]? =some (.cells #[af (stJ (cH E jo)),tv,A,af wd] 182 (0,0))∧jD Z W h' E n A (cH E jo)∧Fr (λc=>c=bw) h h':=by
  intro U D hs;refine bZ (D.row r1) (by simp) rfl λh3 r3 u3=>?_
  refine bZ r3 (by simp) rfl λh4 r4 u4=>?_
  rw[hs];exact⟨_,r4,rfl,((u1.fr.ext_r D).trans u3.fr).trans u4.fr⟩
 cases jo with
 |none=>
  have hj:L=.pointer none:=J;subst hj;simp only[go_sem,c2,zcs];exact gone (Ext.refl _) rfl
 | some x=>
  obtain⟨t,y,e⟩:=x;obtain⟨H,rfl,ok,hc,bj,rv,rfl,S⟩:=J1;simp only[go_sem,c2,UN];refine ag.to (Ny S (MU ok.m ok.s.wf hc)) λU D=>?_
  have hp:pV false 1 0 (BP (cn (H.d t) y e) (iq (H.d t) y e))=some (af (cn (H.d t) y e)):=rfl;simp only[go_sem,hp];refine ao (λhk=>?_) (λhk=>?_)
  ·exact gone D (aA hk)
  ·have hs:cH (some H) (some (t,y,e))=some (t,y,e):=az hk;rw[hs];exact⟨_,D.row r1,⟨H,rfl,ok,hc,bj,rv,rfl,S.ext D⟩,u1.fr.ext_r D⟩
def Yz (E:Option WE)(jo:Option (cZ×Int×Int))(k:Int):Int:=match jo,E with|some (t,_,_),some E=>max k ((iG (bH E.s.y.lines):Int)*(fB (t.w*E.m.c):Int))|_,_=>k
def Ac (E:Option WE)(w:WD)(x:Int)(jo:Option (cZ×Int×Int)):WD:=⟨stJ (cH E jo),w.tiles++[x],cH E jo,Yz E jo w.words⟩
def zcd (Z:Nat→Prop)(E:Option WE)(n:Pic)(ov:Value)(x:Int)(jo:Option (cZ×Int×Int))(Qo M:Nat→Prop)(P0 P1:ah→Prop)(h:ah):Prop:=
 (ov=.nilFunc∧jo=none∧∀g,P0 g→P1 g)∨(aj .f .neq ov .nilFunc=some (.bool true)∧∀h1,Fr M h h1→P0 h1→clK prog ov #[.int .i64 x] h1 λr h2=>∃Bj,(∀c,Bj c→h1.size≤c∧c<h2.size)∧jD Z Bj h2 E n r jo∧Fr Qo h1 h2∧P1 h2)
abbrev Vd (k t mk mr:Int):Value:=.agg #[.int .i64 k,.int .i64 t,.int .i64 mk,.int .i64 mr]
theorem ZJ {v:Value}{args:Array Value}{h:ah}{K A:Value→ah→Prop}(H:clK prog v args h K)(k:∀r h',K r h'→A r h'):clK prog v args h A:=by
 unfold clK at H ⊢;split at H
 ·exact H.mono k
 ·exact H.elim
theorem Bs {E:Option WE}{jo:Option (cZ×Int×Int)}:(stJ (cH E jo)=1∧uo E (cH E jo))∨((stJ (cH E jo)=0∨stJ (cH E jo)=2)∧cH E jo=none):=by
 rcases Ip E jo with⟨h1,A,D⟩|h
 ·left;refine⟨?_,A⟩
  revert h1
  cases cH E jo with
  |none=>exact λh=>absurd rfl h
  |some x=>exact λ_=>rfl
 ·rw[h];exact .inr ⟨.inl rfl,rfl⟩
theorem zcR {x:Int}{ov:Value}{jo:Option (cZ×Int×Int)}{Qo:Nat→Prop}{P0 P1:ah→Prop}(H:IsW Z B h bw E n w)(hw:w.state=0)(ht:w.tiles.length≤1000000)(HO:zcd Z E n ov x jo Qo B P0 P1 h)
  (qo:∀c,Qo c→c<h.size∧¬B c∧¬Z c∧AA E c∧¬dQ E c) (hP:∀g g',Fr (λc=>B c∨h.size≤c) g g'→(P0 g→P0 g')∧(P1 g→P1 g')) (p0:P0 h):
  ag prog kX #[ptr bw,af x,ov] h λr h'=>r=Vd 1 x 0 0∧IsW Z (qE B h h') h' bw E n (Ac E w x jo)∧Fr (λc=>B c∨Qo c) h h'∧P1 h':=by
 apply AC;unfold pJ;have H0:=H;obtain⟨⟨tv,jv,U,r,o,J,a1,a2,a3⟩,w0,bl,bz,zl,I,st⟩:=H;have bc:w.job=none:=by
  rcases st with h|h
  ·omega
  ·exact h.2
 rw[bc]at J;have hj:jv=.pointer none:=J;subst hj;refine aI λb1 h1 r1 e1 n1=>?_
 have c1:aG h1 ⟨bw,1,none⟩=some tv:=am (e1.row r);simp only[go_sem,aK,c1];refine dc (Rp.fill_one rfl) λb2 h2 r2 e2 n2=>?_
 have E2:=e1.trans e2;refine vM (m:=1) (o.fr (M:=λ_=>False) E2.fr λ_ _=>id) (Rp.SlC.single (cs:=[af x]) r2) (aq rfl aX) rfl ae ae λv3 h3 o3 f3 n3=>?_
 have b0:=bC r;have ca:=E2.1;have b5:=f3.1;have r3:=f3.row (E2.row r) λhc=>(a1 _ hc).2.2 rfl
 have al:∀c,blk v3 c→(B c∧c≠bw)∨h.size≤c:=λc hc=>(n3 c hc).imp (λh=>⟨(a1 c h).1,(a1 c h).2.2⟩) λh=>ae
 have F:¬blk v3 bw:=λhc=>(al _ hc).elim (λh=>h.2 rfl) λh=>ae
 try simp only[go_sem]
 refine bZ r3 (by simp) o3.sl.isSl_one λh4 r4 u4=>?_
 have r4:h4[bw]? =some (.cells #[af w.state,v3,.pointer none,af w.words] 182 (0,0)):=r4;have o4:=o3.fr u4.fr λc hc W=>F (W▸hc)
 have cb:=u4.1;have F4:Fr B h h4:=(E2.fr.after f3 λc _ hc=>(a1 c hc).1).after u4.fr λc _ hc=>hc▸w0
 have I4:jf h4 E n:=I.fr F4 λc hc _=>(bz c hc).2
 have au:P0 h4:=(hP h h4 (F4.mono λc _ hc=>.inl hc)).1 p0;have b4:=e1.1;have bv:=e2.1;have b3:=bC r1;have an:h.size≤b1:=n1;have e4:h4[b1]? =some (.cells #[ai,ai,ai,ai] 148 (0,0)):=u4.row ae (f3.row (e2.row r1) λhc=>by have:=bl _ (a1 _ hc).1;omega)
 -- with a job, or with none
 refine bB (λxs A=>∃jv U,A[bw]? =some (.cells #[af w.state,v3,jv,af w.words] 182 (0,0))∧jD Z U A E n jv jo∧(∀c,U c→h4.size≤c)∧(∀c,U c→c<A.size)∧Fr (λc=>B c∨Qo c) h A∧h4.size≤A.size∧Own 1 A v3 (w.tiles.length+1) (w.tiles.map (λn=>af n)++[af x])∧P1 A∧A[b1]? =some (.cells #[ai,ai,ai,ai] 148 (0,0))) ?_ ?_
 ·rcases HO with⟨rfl,rfl,hp⟩|⟨bd,ax⟩
  ·have e0:aj .f .neq Value.nilFunc Value.nilFunc=some (.bool false):=rfl;simp only[go_sem,e0];exact⟨_,λ_=>False,r4,rfl,λc hc=>hc.elim,λc hc=>hc.elim,F4.mono λc _ hc=>.inl hc,cq _,o4,hp _ au,e4⟩
  ·simp only[go_sem,bd];refine ZJ (ax h4 F4 au) λv5 A ⟨U,k1,k2,k3,k4⟩=>?_
   have r5:=k3.row r4 λhc=>(qo _ hc).2.1 w0
   have o5:=o4.fr k3 λc hc hq=>(al c hc).elim (λh=>(qo c hq).2.1 h.1) λh=>by have:=(qo c hq).1;omega
   have bk:=k3.1
   try simp only[go_sem]
   refine bZ r5 (by simp) k2.one λG r6 L=>?_
   have ar:=L.1;have aa:¬U bw:=λhc=>by have:=(k1 _ hc).1;omega
   have I5:jf A E n:=I4.fr k3 λc hc _=>(qo c hc).2.2.2
   refine⟨v5,U,r6,k2.upd L (bz _ w0).1 aa (bz _ w0).2.1 (bz _ w0).2.2 I5,λc hc=>(k1 c hc).1,λc hc=>by rw[ar];exact(k1 c hc).2,?_,ae,o5.fr L.fr λc hc W=>F (W▸hc),?_⟩
   ·exact((F4.mono λc _ hc=>.inl hc).after k3 λc _ hc=>.inr hc).after L.fr λc _ hc=>.inl (hc▸w0)
   ·exact⟨(hP A G (L.fr.mono λc _ hc=>.inl (hc▸w0))).2 k4,L.row ae (k3.row e4 λhc=>by have:=(qo _ hc).1;omega)⟩
 ·rintro xs ρ A ⟨jv,U,r5,J5,k1,k2,F5,bk,o5,p5,e5⟩;have aa:¬U bw:=λhc=>by have:=k1 _ hc;omega
  have I5:jf A E n:=I.fr F5 λc hc _=>hc.elim (λh=>(bz c h).2) λh=>(qo c h).2.2.2
  have c2:aG A ⟨bw,2,none⟩=some jv:=am r5;have c3:aG A ⟨bw,3,none⟩=some (af w.words):=am r5
  -- the end: settled, and told
  have fin:∀{G:ah},G[bw]? =some (.cells #[af w.state,v3,jv,af (Yz E jo w.words)] 182 (0,0))→jD Z U G E n jv jo→Fr (λc=>B c∨Qo c) h G→A.size≤G.size→jf G E n→P1 G→
    Own 1 G v3 (w.tiles.length+1) (w.tiles.map (λn=>af n)++[af x])→G[b1]? =some (.cells #[ai,ai,ai,ai] 148 (0,0))→
    ag prog dJ #[ptr bw] G λcc bg=>vK ((aM #[ai,ai,ai,ai] [(0,1,aH),(1,1,af x)]).map .agg) λbo=>stK 4 (ptr b1) bo bg λb8 ab=>vK (aP 4 ab (ptr b1)) λay=>
     ay=Vd 1 x 0 0∧IsW Z (qE B h ab) ab bw E n (Ac E w x jo)∧Fr (λc=>B c∨Qo c) h ab∧P1 ab:=by
   intro G r6 J6 F6 ar I6 p6 o6 e6;refine(TX r6 J6 (bz _ w0).1 aa (bz _ w0).2.1 (bz _ w0).2.2 I6).mono λ_ h7 ⟨aw,r7,J7,f7⟩=>?_
   have hf:∀z:Int,aM #[ai,ai,ai,ai] [(0,1,aH),(1,1,af z)]=some #[aH,af z,ai,ai]:=λ_=>rfl
   have b6:=f7.1;simp only[go_sem,hf,bG];refine cT (l:=[aH,af x,ai,ai]) (f7.row e6 λhc=>ae) rfl (aq rfl (aq rfl (aq rfl (aq rfl aX)))) rfl λh8 r8 u8=>?_
   rw[aU (l:=[aH,af x,ai,ai]) r8 4 rfl,ak];have b7:=u8.1;have I7:jf h7 E n:=I6.fr f7 λc hc _=>by rw[show c=bw from hc];exact(bz _ w0).2
   have F7:Fr (λc=>B c∨Qo c) h h7:=F6.after f7 λc _ hc=>.inl (hc▸w0)
   have F8:Fr (λc=>B c∨Qo c) h h8:=F7.upd_new u8 an;have ad:=I.new an;have a8:¬Z b1:=λhz=>by have:=zl _ hz;omega
   have be:¬U b1:=λhc=>by have:=k1 _ hc;omega
   have o8:=(o6.fr f7 λc hc W=>F (W▸hc)).fr u8.fr λc hc W=>by
    have W:c=b1:=W;rcases n3 c hc with D|D
    ·have:=bl _ (a1 c D).1;omega
    ·omega
   have ho:jf h8 E n:=I7.fr u8.fr λc hc _=>by rw[show c=b1 from hc];exact ad
   refine⟨rfl,⟨⟨v3,aw,U,u8.row ae r7,?_,J7.upd u8 a8 be ad.1 ad.2 I7,λc hc=>⟨?_,λhj=>?_,λW=>F (W▸hc)⟩,λc hc=>.inr ⟨?_,?_⟩,aa⟩,.inl w0,K4 bl ae,λc hc=>?_,λc hc=>bX (zl c hc) F8.1,ho,?_⟩,F8,?_⟩
   ·show Own 1 h8 v3 (w.tiles++[x]).length ((w.tiles++[x]).map λn=>af n);rw[cz,jT];exact o8
   ·rcases al c hc with D|D
    ·exact .inl D.1
    ·exact .inr ⟨D,o8.lt hc⟩
   ·have:=k1 c hj;rcases n3 c hc with D|D
    ·have:=bl _ (a1 c D).1;omega
    ·have:=o3.lt hc;omega
   ·have:=k1 c hc;omega
   ·have:=k2 c hc;omega
   ·rcases hc with D|D
    ·exact bz c D
    ·exact⟨λhz=>by have:=zl c hz;omega,I.new D.1⟩
   ·rcases Bs (E:=E) (jo:=jo)with⟨D,a7⟩|D
    ·exact .inl ⟨D,a7,by simp[Ac]⟩
    ·exact .inr D
   ·exact(hP h7 h8 (u8.fr.mono λc _ hc=>.inr (by have hc:c=b1:=hc;omega))).2 ((hP G h7 (f7.mono λc _ hc=>.inl (hc▸w0))).2 p6)
  cases jo with
  |none=>
   have hj:jv=.pointer none:=J5;subst hj;simp only[go_sem,c2,zcr];exact fin r5 rfl F5 (cq _) I5 p5 o5 e5
  | some y=>
   obtain⟨t,yy,e⟩:=y;have a9:=J5;obtain⟨E',rfl,ok,hc,bj,rv,rfl,S⟩:=J5;simp only[go_sem,c2,UM];refine aQ (λg=>g=A) rfl ?_;refine aC (af w.words) (λg e=>by rw[e];exact c3) ?_
   try simp only[go_sem]
   refine aC (ptr bj) (λg e=>by rw[e];exact c2) ?_;refine ag.at (Nx S) ⟨rfl,?_⟩;refine aC (af (max w.words ((iG (bH E'.s.y.lines):Int)*(fB (t.w*E'.m.c):Int)))) (λ_ _=>MF _ _ _) ?_
   try simp only[go_sem]
   refine bZ r5 (by simp) rfl λG r6 L=>?_
   exact fin r6 (a9.upd L (bz _ w0).1 aa (bz _ w0).2.1 (bz _ w0).2.2 I5) (F5.after L.fr λc _ hc=>.inl (hc▸w0)) (by rw[L.1];exact cq _) (I5.fr L.fr λc hc _=>by rw[show c=bw from hc];exact(bz _ w0).2) ((hP A G (L.fr.mono λc _ hc=>.inl (hc▸w0))).2 p5)
    (o5.fr L.fr λc hc W=>F (W▸hc)) (L.row ae e5)
abbrev EvD:=Int×Int×Int×Int
abbrev evV (e:EvD):Value:=Vd e.1 e.2.1 e.2.2.1 e.2.2.2
def cW (E:Option WE)(jo:Option (cZ×Int×Int))(w:WD)(d:QD):WD×QD×EvD:=
 if w.state=1 then
  match w.job,E with
  |some (t,y,e),some E'=>
   let j:=cH E (some (t,gj (E'.d t) y e,ir (E'.d t) y e))
   (⟨stJ j,w.tiles,j,w.words⟩,d,(2,w.tiles.getLast?.getD 0,cn (E'.d t) y e,iq (E'.d t) y e))
  |_,_=>(w,d,(0,0,0,0))
 else if w.state=2 then(w,d,(0,0,0,0))
 else if dX d=0 then(Ac E w (bR d) jo,pT d,(1,bR d,0,0))
 else if dX d=2 then({w with state:=2},pT d,(3,0,0,0))
 else(w,pT d,(0,0,0,0))
def uL (w:WD)(d:QD):Prop:=w.state=0∧dX d=0
def Cz (E:Option WE)(w:WD)(n n':Pic):Prop:=
 eE n n'∧match w.job,E with
  |some (t,y,e),some E=>Ih (E.d t) n∧Ih (E.d t) n'∧(cn (E.d t) y e≠2→n'=n)∧(cn (E.d t) y e=2→∀x' y' c',inP n x' y' c'→atP n' x' y' c'=if xV (E.d t) y (fB (t.w*E.m.c)) x' y' c' then xr E.m E.s x' y' c' else atP n x' y' c')
  |_,_=>n'=n
theorem Cz.same {E:Option WE}{w:WD}{n:Pic}(h:w.job=none):Cz E w n n:=⟨eE.refl n,by rw[h]⟩
structure Xf (Z B Q Qo:Nat→Prop)(h h':ah)(bw bq:Nat)(E:Option WE)(n:Pic)(w w':WD)(d':QD):Prop where
 ex:∃n' B' Q',IsW Z B' h' bw E n' w'∧IsQ Q' h' bq d'∧(∀c,B' c→B c∨h.size≤c)∧(∀c,Q' c→Q c∨h.size≤c)∧(∀c,B' c→¬Q' c)∧Cz E w n n'
 fr:Fr (λc=>dQ E c∨B c∨Q c∨Qo c) h h'
theorem WV {Q:Nat→Prop}{bq:Nat}{d:QD}{ov:Value}{jo:Option (cZ×Int×Int)}{Qo:Nat→Prop}{P0 P1:ah→Prop}(H:IsW Z B h bw E n w)(HQ:IsQ Q h bq d)(ht:w.tiles.length≤1000000)
  (HO:uL w d→zcd Z E n ov (bR d) jo Qo (λc=>B c∨Q c) P0 P1 h) (ab:∀c,B c→¬Q c) (qz:∀c,Q c→¬Z c∧AA E c∧¬dQ E c) (qo:∀c,Qo c→c<h.size∧¬B c∧¬Q c∧¬Z c∧AA E c∧¬dQ E c)
  (hP:∀g g',Fr (λc=>dQ E c∨B c∨Q c∨h.size≤c) g g'→(P0 g→P0 g')∧(P1 g→P1 g')) (p0:P0 h):
  ag prog cN #[ptr bw,ptr bq,ov] h λr h'=>r=evV (cW E jo w d).2.2∧Xf Z B Q Qo h h' bw bq E n w (cW E jo w d).1 (cW E jo w d).2.1∧(uL w d→P1 h')∧(¬uL w d→P0 h'):=by
 apply AD;unfold pK;have H0:=H;obtain⟨⟨tv,jv,Bj,r,o,J,a1,a2,a3⟩,w0,bl,bz,zl,I,st⟩:=H;refine aI λb1 h1 r1 e1 n1=>?_
 have b0:=e1.1;have c3:=bC r1;have bc:h.size≤b1:=n1;have c8:=bC r;have r':=e1.row r;have H1:=H0.ext e1;have ay:=HQ.ext e1;have I1:=I.ext e1;have a7:=I.new bc;have ar:∀c,Q c→c<h.size:=HQ.ql;have c0:aG h1 ⟨bw,0,none⟩=some (af w.state):=am r';simp only[go_sem,aK,c0];have L:∀{F:ah} {ev:EvD} {w':WD} {d':QD} {n':Pic} {B' Q':Nat→Prop},F[b1]? =some (.cells #[ai,ai,ai,ai] 148 (0,0))→Fr (λc=>dQ E c∨B c∨Q c∨Qo c) h F→IsW Z B' F bw E n' w'→IsQ Q' F bq d'→(∀c,B' c→(B c∨h.size≤c)∧c≠b1)→(∀c,Q' c→(Q c∨h.size≤c)∧c≠b1)→(∀c,B' c→¬Q' c)→Cz E w n n'→
   (uL w d→P1 F)→(¬uL w d→P0 F)→cW E jo w d=(w',d',ev)→
   stK 4 (ptr b1) (evV ev) F λ_ U=>vK (aP 4 U (ptr b1)) λv=>v=evV (cW E jo w d).2.2∧Xf Z B Q Qo h U bw bq E n w (cW E jo w d).1 (cW E jo w d).2.1∧(uL w d→P1 U)∧(¬uL w d→P0 U):=by
  intro F ev w' d' n' B' Q' e2 F2 W2 Q2 k1 k2 k3 D p1 p0 he;refine cT (l:=[af ev.1,af ev.2.1,af ev.2.2.1,af ev.2.2.2]) e2 rfl (aq rfl (aq rfl (aq rfl (aq rfl aX)))) rfl λU r3 u3=>?_
  rw[aU (l:=[af ev.1,af ev.2.1,af ev.2.2.1,af ev.2.2.2]) r3 4 rfl,ak,he];have b8:∀c,Z c→¬c=b1:=λc hz he=>by have:=zl _ hz;omega
  have hp:=hP F U (u3.fr.mono λc _ hc=>.inr (.inr (.inr (by have hc:c=b1:=hc;omega))));refine⟨rfl,⟨⟨n',B',Q',W2.other u3.fr b8 (λc hc=>(k1 c hc).2) (W2.out.fr u3.fr λc hc _=>by rw[show c=b1 from hc];exact a7) (eE.refl n'),Q2.fr u3.fr λc hc=>(k2 c hc).2,λc hc=>(k1 c hc).1,λc hc=>(k2 c hc).1,k3,D⟩,F2.upd_new u3 bc⟩,λh=>hp.2 (p1 h),λh=>hp.1 (p0 h)⟩
 have fE:aM #[ai,ai,ai,ai] []=some #[ai,ai,ai,ai]:=rfl;have fL:aM #[ai,ai,ai,ai] [(0,1,af 3)]=some #[af 3,ai,ai,ai]:=rfl;have aa:∀c,B c→(B c∨h.size≤c)∧c≠b1:=λc hc=>⟨.inl hc,λhe=>by have:=bl c hc;omega⟩
 have ax:∀c,Q c→(Q c∨h.size≤c)∧c≠b1:=λc hc=>⟨.inl hc,λhe=>by have:=ar c hc;omega⟩
 by_cases s1:w.state=1
 ·-- a job goes on
  have ad:¬uL w d:=λh=>by have:=h.1;omega
  obtain⟨hg,a9⟩:uo E w.job∧w.tiles≠[]:=by
   rcases st with h|h
   ·exact h.2
   ·have:=h.1;omega
  cases an:w.job with
  |none=>rw[an]at hg;exact hg.elim
  | some q=>
   obtain⟨t,y,e⟩:=q;rw[an]at J hg;obtain⟨A,rfl,ok,hc,bj,rv,rfl,S⟩:=J;have hg:cn (A.d t) y e≠0:=hg;have b2:=MU ok.m ok.s.wf hc;have c2:aG h1 ⟨bw,2,none⟩=some (ptr bj):=am r';simp only[go_sem,da s1,c2];refine(Sd (S.ext e1) b2 (ok.s.room ok.m hc)).mono λrm F ⟨er,n',S2,f2,cw,bo⟩=>?_
   subst er;have b7:=f2.1;refine dh (cs:=[af (cn (A.d t) y e),af (iq (A.d t) y e)]) rfl (aq rfl (aq rfl aX)) rfl λb3 U r3 e3 n3=>?_
   have S3:=S2.ext e3;have al:=e3.1;have OO:=S3.out;have D:eE n n':=⟨by rw[OO.w,S.out.w],by rw[OO.h,S.out.h],by rw[OO.c,S.out.c],by rw[OO.m,S.out.m]⟩
   have fq:∀c,(blk A.vt c∨Bj c)→dQ (some A) c∨B c:=λc hc=>hc.imp id λh=>a2 c h
   have nw:¬(blk A.vt bw∨Bj bw):=λhc=>hc.elim (bz _ w0).2.2 a3
   have cb:=e3.row (f2.row r' nw);have I3:jf U (some A) n':=λE2 hE=>by cases hE;exact⟨S3.img,OO.wf⟩
   have bd:¬qE Bj h1 F bw:=λhc=>hc.elim a3 λh=>ae
   have J3:jD Z (qE Bj h1 F) U (some A) n' (ptr bj) (some (t,gj (A.d t) y e,ir (A.d t) y e)):=⟨A,rfl,ok,D.newC hc,bj,rv,rfl,S3⟩
   refine(TX cb J3 (bz _ w0).1 bd (bz _ w0).2.1 (bz _ w0).2.2 I3).mono λ_ h4 ⟨bv,r4,J4,f4⟩=>?_
   have c7:=f4.1;have I4:jf h4 (some A) n':=I3.fr f4 λc hc _=>by rw[show c=bw from hc];exact(bz _ w0).2
   have ct:∀c,blk tv c→¬(blk A.vt c∨Bj c):=λc hc h=>h.elim (bz c (a1 c hc).1).2.2 (a1 c hc).2.1
   have o4:=(((o.fr (M:=λ_=>False) e1.fr λ_ _=>id).fr f2 ct).fr (M:=λ_=>False) e3.fr λ_ _=>id).fr f4 λc hc he=>(a1 c hc).2.2 he
   have c4:=bC r3;have cr:¬(blk A.vt b1∨Bj b1):=λhc=>hc.elim a7.2 λh=>by have:=bl _ (a2 _ h);omega
   have e4:=f4.row (e3.row (f2.row r1 cr)) λhc=>ae
   have cc:=f4.row r3 λhc=>ae
   have c1:aG h4 ⟨bw,1,none⟩=some tv:=am r4;obtain⟨a,cp,et⟩:=o4.isSl;have el:aD tv=some (af (w.tiles.length:Int)):=by rw[et];rfl
   have c6:0<w.tiles.length:=w6.2 a9;obtain⟨pp,p1,p2⟩:=(EA (k:=.i64) (l:=w.tiles) o4).int_at (k':=.i64) (i:=w.tiles.length-1) ae;have p1:bh 1 tv (af ((w.tiles.length:Int)-1))=some pp:=by rw[show(w.tiles.length:Int)-1=((w.tiles.length-1:Nat):Int)by omega];exact p1
   refine aQ (λg=>g=h4) rfl ?_
   try simp only[go_sem,aK]
   refine aC tv (λg e=>by rw[e];exact c1) ?_
   try simp only[go_sem]
   refine aC tv (λg e=>by rw[e];exact c1) ?_;refine aC (af (w.tiles.length:Int)) (λ_ _=>el) ?_;simp only[go_sem];rw[w64 (n:=(w.tiles.length:Int)-1) ae ae,p1,ak];refine aC (af (w.tiles.getLast?.getD 0)) (λg e=>by rw[e,p2,List.getLast?_eq_getElem?,iY];rfl) ?_;refine aC (BP (cn (A.d t) y e) (iq (A.d t) y e)) (λg e=>by rw[e];exact aU (l:=[_,_]) cc 2 rfl) ?_;have hf:∀z a b:Int,aM #[ai,ai,ai,ai] [(0,1,af 2),(1,1,af z),(2,2,BP a b)]=some #[af 2,af z,af a,af b]:=λ_ _ _=>rfl
   simp only[go_sem,hf,bG];have F4:Fr (λc=>dQ (some A) c∨B c) h h4:=((e1.fr.trans (f2.mono λc _ hc=>fq c hc)).ext_r e3).trans (f4.mono λc _ hc=>.inr (hc▸w0));have hp:=(hP h h4 (F4.mono λc _ hc=>hc.imp id .inl)).1 p0;have nq:∀c,Q c→¬(dQ (some A) c∨B c):=λc hc h=>h.elim (qz c hc).2.2 λh=>ab c h hc
   refine L (ev:=(2,w.tiles.getLast?.getD 0,cn (A.d t) y e,iq (A.d t) y e)) (w':=⟨stJ (cH (some A) (some (t,gj (A.d t) y e,ir (A.d t) y e))),w.tiles,cH (some A) (some (t,gj (A.d t) y e,ir (A.d t) y e)),w.words⟩) (B':=qE B h1 h4) (Q':=Q) e4 (F4.mono λc _ hc=>hc.imp id .inl)
    ⟨⟨tv,bv,qE Bj h1 F,r4,o4,J4,λc hc=>⟨.inl (a1 c hc).1,λG=>?_,(a1 c hc).2.2⟩,λc hc=>hc.imp (a2 c) λh=>⟨h.1,ae⟩,bd⟩,.inl w0,K4 (λc hc=>bX (bl c hc) b0) ae,λc hc=>?_,λc hc=>bX (zl c hc) F4.1,I4,?_⟩
    (HQ.fr F4 nq) (λc hc=>⟨?_,λhe=>?_⟩) ax (λc hc hq=>?_) ⟨D,?_⟩ (λh=>absurd h ad) (λ_=>hp) ?_
   ·rcases G with G|G
    ·exact(a1 c hc).2.1 G
    ·have:=bl c (a1 c hc).1;omega
   ·rcases hc with G|G
    ·exact bz c G
    ·exact⟨λhz=>by have:=zl c hz;omega,I.new ae⟩
   ·rcases Bs (E:=some A) (jo:=some (t,gj (A.d t) y e,ir (A.d t) y e))with⟨G,b6⟩|G
    ·exact .inl ⟨G,b6,a9⟩
    ·exact .inr G
   ·exact hc.imp id λh=>ae
   ·rcases hc with G|G
    ·exact(aa c G).2 he
    ·omega
   ·rcases hc with G|G
    ·exact ab c G hq
    ·have:=ar c hq;omega
   ·rw[an];exact⟨S.out,OO,cw,bo⟩
   ·unfold cW;rw[aA s1,an]
 ·have W:w.job=none:=by
   rcases st with h|h
   ·exact absurd h.1 s1
   ·exact h.2
  simp only[go_sem,cG s1];refine ao (λs2=>?_) (λs2=>?_)
  ·-- it is gone
   simp only[go_sem,fE,bG];have ad:¬uL w d:=λh=>by have:=h.1;omega
   exact L (ev:=(0,0,0,0)) (r1) e1.fr H1 ay aa ax ab (Cz.same W) (λh=>absurd h ad) (λ_=>(hP h h1 e1.fr).1 p0) (by unfold cW;rw[az s1,aA s2])
  ·have s0:w.state=0:=by
    rcases st with h|h
    ·exact absurd h.1 s1
    ·exact h.1.resolve_right s2
   refine(Vs ay).mono λrr F ⟨er,Q2,f2⟩=>?_
   subst er;have b7:=f2.1;have x0:aL (.tuple #[af (bR d),af (dX d)]) 0=some (af (bR d)):=rfl;have x1:aL (.tuple #[af (bR d),af (dX d)]) 1=some (af (dX d)):=rfl;have H2:IsW Z B F bw E n w:=H1.other f2 (λc hz hq=>(qz c hq).1 hz) ab (I1.fr f2 λc hc _=>(qz c hc).2) (eE.refl n);have e2:=f2.row r1 λhc=>by have:=ar _ hc;omega
   have F2:Fr (λc=>dQ E c∨B c∨Q c∨h.size≤c) h F:=e1.fr.trans (f2.mono λc _ hc=>.inr (.inr (.inl hc)));have au:Fr (λc=>dQ E c∨B c∨Q c∨Qo c) h F:=e1.fr.trans (f2.mono λc _ hc=>.inr (.inr (.inl hc)));have aw:∀c,qE Q h1 F c→(Q c∨h.size≤c)∧c≠b1:=λc hc=>hc.elim (λh=>ax c h) λh=>⟨.inr ae,ae⟩
   have bg:∀c,B c→¬qE Q h1 F c:=λc hc hq=>hq.elim (ab c hc) λh=>by have:=bl c hc;omega
   simp only[go_sem,x0,x1];refine ao (λg0=>?_) (λg0=>?_)
   ·have bk:uL w d:=⟨s0,g0⟩
    refine(zcR H2 s0 ht (jo:=jo) (Qo:=Qo) (P0:=P0) (P1:=P1) ?_ ?_ ?_ ((hP h F F2).1 p0)).mono λrr U ⟨er,W3,f3,p3⟩=>?_
    ·rcases HO bk with ho|⟨b4,b5⟩
     ·exact .inl ho
     ·refine .inr ⟨b4,λU f3 p3=>b5 U ?_ p3⟩;exact(e1.fr.trans (f2.mono λc _ hc=>.inr hc)).after f3 λc _ hc=>.inl hc
    ·exact λc hc=>by have:=qo c hc;exact⟨ae,this.2.1,this.2.2.2⟩
    ·exact λg g' f=>hP g g' (f.mono λc _ hc=>hc.elim (λh=>.inr (.inl h)) λh=>.inr (.inr (.inr ae)))
    ·subst er;have al:=f3.1;have q3:∀c,qE Q h1 F c→¬(B c∨Qo c):=λc hc hb=>hc.elim (λh=>hb.elim (λhb=>ab c hb h) λhb=>(qo c hb).2.2.1 h) λh=>hb.elim (λhb=>by have:=bl c hb;omega) λhb=>by have:=(qo c hb).1;omega
     refine L (ev:=(1,bR d,0,0)) (f3.row e2 λhc=>hc.elim (λh=>(aa _ h).2 rfl) λh=>by have:=(qo _ h).1;omega) (au.trans (f3.mono λc _ hc=>hc.elim (λh=>.inr (.inl h)) λh=>.inr (.inr (.inr h)))) W3 (Q2.fr f3 q3)
      (λc hc=>hc.elim (λh=>aa c h) λh=>⟨.inr ae,ae⟩) aw (λc hc hq=>?_) (Cz.same W) (λ_=>p3) (λh=>absurd bk h) (by unfold cW;rw[az s1,az s2,aA g0])
     rcases hc with G|G
     ·exact bg c G hq
     ·rcases hq with h8|h8
      ·have:=ar c h8;omega
      ·omega
   ·have ad:¬uL w d:=λh=>g0 h.2
    refine ao (λg2=>?_) (λg2=>?_)
    ·obtain⟨⟨a8,ci,be,r2,o2,J2,k1,k2,k3⟩,_,l2,z2,ca,I2,_⟩:=H2;rw[W]at J2;have cu:ci=.pointer none:=J2;subst cu
     try simp only[go_sem]
     refine bZ r2 (by simp) rfl λU r3 u3=>?_
     have r3:U[bw]? =some (.cells #[af 2,a8,.pointer none,af w.words] 182 (0,0)):=r3;have al:=u3.1;simp only[go_sem,fL,bG];refine L (ev:=(3,0,0,0)) (w':={w with state:=2}) (B':=B) (u3.row ae e2) (au.after u3.fr λc _ hc=>.inr (.inl (hc▸w0))) ⟨⟨a8,.pointer none,be,r3,o2.fr u3.fr λc hc he=>(k1 c hc).2.2 he,?_,k1,k2,k3⟩,w0,λc hc=>by rw[al];exact l2 c hc,bz,λc hc=>by rw[al];exact ca c hc,I2.fr u3.fr λc hc _=>by rw[show c=bw from hc];exact(bz _ w0).2,.inr ⟨.inr rfl,W⟩⟩
      (Q2.fr u3.fr λc hc he=>bg bw w0 (he▸hc)) aa aw bg (Cz.same W) (λh=>absurd h ad) (λ_=>(hP F U (u3.fr.mono λc _ hc=>.inr (.inl (hc▸w0)))).1 ((hP h F F2).1 p0)) (by unfold cW;rw[az s1,az s2,az g0,aA g2])
     show jD Z be U E n (.pointer none) w.job;rw[W];rfl
    ·simp only[go_sem,fE,bG];exact L (ev:=(0,0,0,0)) e2 au H2 Q2 aa aw bg (Cz.same W) (λh=>absurd h ad) (λ_=>(hP h F F2).1 p0) (by unfold cW;rw[az s1,az s2,az g0,az g2])
theorem zag {h:ah}{Z:Nat→Prop}{v:Value}{l:List Int}(H:Rp.Sl (Rp.int .i64) Z h v l)(hl:l.length≤1000000000):
  ag prog iD #[v] h λr h'=>New (Rp.int .i64) h h' r l:=by
 apply vv;unfold kQ;obtain⟨ds,⟨A,a,cap,rfl,D⟩,hz,he⟩:=H;rw[Jf,ak];cases a with
 | none=>
  have:l=[]:=by
   rcases D with D|⟨b,o,h0,_⟩
   ·subst D;have U:([]:List Value).length=l.length*1:=A;exact mW (by simpa using U.symm)
   ·cases h0
  subst this;simp only[Rs,go_sem];exact New.nil (Ext.refl _)
 |some a=>
  simp only[Rq,go_sem];refine dc (c':=#[]) rfl λb h1 r1 L n1=>?_
  have O:Rp.Ow (Rp.int .i64) (λ_=>False) h1 (.slice (some ⟨b,0,none⟩) 0 0) []:=⟨[],.inr ⟨b,0,[],_,rfl,cq _,rfl,rfl,r1⟩,λb W F=>F,λi hi=>absurd hi (by simp)⟩
  have S1:SlC 1 h1 (.slice (some a) l.length cap) l.length ds:=SlC.ext ⟨A,some a,cap,rfl,D⟩ L;refine Rp.app_ow (e:=(Rp.int .i64)) (l:=[]) (l2:=l) O S1 (λi hi=>he i hi) rfl (by simp;omega) (by simp;omega) (λb W=>W.elim) λv2 U O2 f2 n2=>?_
  rw[fG]at O2;have nb:∀k,blk (.slice (some ⟨b,0,none⟩) 0 0) k→h.size≤k:=λk G=>by have:k=b:=G;omega
  refine⟨O2,L.then_fr f2 nb,λk G=>?_⟩;rcases n2 k G with I|I
  ·exact nb k I
  ·exact aZ L.1 I
theorem zbG (H:IsW Z B h bw E n w)(G:w.tiles.length≤1000000):ag prog kA #[ptr bw] h λr h'=>New (Rp.int .i64) h h' r w.tiles:=by
 apply yU;unfold nM;obtain⟨⟨tv,D,F,r,o,J,a1,a2,a3⟩,w0,bl,bz,zl,I,st⟩:=H;have A:aG h ⟨bw,1,none⟩=some tv:=am r;simp only[go_sem,A];exact zag (EA (k:=.i64) (l:=w.tiles) o) ae
end
end
section
theorem ev_ne (a b:EvD):aj (.st [(0,1,.i),(1,1,.i),(2,2,(.st [(0,1,.i),(1,1,.i)]))]) .neq (evV a) (evV b)=some (.bool (decide (a≠b))):=by
 obtain⟨a1,a2,a3,a4⟩:=a;obtain⟨F,A,D,G⟩:=b;have e1:(a1==F)=decide (a1=F):=rfl;have e2:(a2==A)=decide (a2=A):=rfl;have H:(a3==D)=decide (a3=D):=rfl;have U:(a4==G)=decide (a4=G):=rfl;simp only[aj,eqV,Gl,Lw,Lz,pV,cond_false,cond_true,List.getElem?_toArray,List.getElem?_cons_zero,List.getElem?_cons_succ,if_true,e1,e2,Prod.mk.injEq,ne_eq];by_cases h1:a1=F<;>by_cases L:a2=A<;>by_cases I:a3=D<;>by_cases W:a4=G<;>simp[h1,L,I,W,H,U]
theorem zb7 (a b:EvD):aj (.st [(0,1,.i),(1,1,.i),(2,2,(.st [(0,1,.i),(1,1,.i)]))]) .eql (evV a) (evV b)=some (.bool (decide (a=b))):=by
 obtain⟨a1,a2,a3,a4⟩:=a;obtain⟨F,A,D,G⟩:=b;have e1:(a1==F)=decide (a1=F):=rfl;have e2:(a2==A)=decide (a2=A):=rfl;have H:(a3==D)=decide (a3=D):=rfl;have U:(a4==G)=decide (a4=G):=rfl;simp only[aj,eqV,Gl,Lw,Lz,pV,cond_false,cond_true,List.getElem?_toArray,List.getElem?_cons_zero,List.getElem?_cons_succ,if_true,e1,e2,Prod.mk.injEq,ne_eq];by_cases h1:a1=F<;>by_cases L:a2=A<;>by_cases I:a3=D<;>by_cases W:a4=G<;>simp[h1,L,I,W,H,U]
abbrev Y2:Pic:=⟨0,0,0,0,[]⟩
abbrev noZ:Nat→Prop:=λ_=>False
theorem Cz.none {w:WD}{n n':Pic}(D:Cz none w n n'):n'=n:=by
 have:=D.2;cases h:w.job<;>simp only[h]at this<;>exact this
def StepN (B Q:Nat→Prop)(M:Nat→Prop)(h h':ah)(bw bq:Nat)(w:WD)(d:QD):Prop:=
 ∃B' Q',IsW noZ B' h' bw none Y2 w∧IsQ Q' h' bq d∧(∀c,B' c→B c∨h.size≤c)∧(∀c,Q' c→Q c∨h.size≤c)∧(∀c,B' c→¬Q' c)∧Fr (λc=>B c∨Q c∨M c) h h'
section
variable {B Q:Nat→Prop}{h:ah}{bw bq:Nat}{w:WD}{d:QD}
theorem IZ (H:IsW noZ B h bw none Y2 w)(G:IsQ Q h bq d)(U:w.tiles.length≤1000000)(A:∀c,B c→¬Q c):
  ag prog cN #[ptr bw,ptr bq,.nilFunc] h λr h'=>r=evV (cW none none w d).2.2∧StepN B Q noZ h h' bw bq (cW none none w d).1 (cW none none w d).2.1:=
 (WV (Z:=noZ) (ov:=.nilFunc) (jo:=none) (Qo:=noZ) (P0:=λ_=>True) (P1:=λ_=>True) H G U (λ_=>.inl ⟨rfl,rfl,λ_ h=>h⟩) A (λ_ _=>⟨id,trivial,id⟩) (λ_ h=>h.elim) (λ_ _ _=>⟨id,id⟩) trivial).mono
  λr h' ⟨e,⟨⟨n',B',Q',W,q,I,F,L,D⟩,f⟩,_⟩=>by
   have:=D.none;subst this;exact⟨e,B',Q',W,q,I,F,L,f.mono λc _ hc=>hc.elim (λh=>h.elim) id⟩
end
theorem Vu {h:ah}(G:eF h):ag prog xK #[] h λr h'=>r=.bool true∧Ext h h':=by
 apply Mg;unfold A9;refine JN.mono λr h1 ⟨bw,A,r1,W,n1⟩=>?_
 subst A;refine ZW.mono λr h2 ⟨bq,A,Q2,e2,n2⟩=>?_
 subst A;have E2:=W.trans e2;refine ag.to (Vv (G.ext E2)) λh3 L=>?_
 have U:=E2.trans L;have lw:=bC r1;have W3:IsW noZ (λc=>c=bw) h3 bw none Y2 ⟨0,[],none,0⟩:=IsW.new ((e2.trans L).row r1) id trivial id (λ_ h=>h.elim) λ_ h=>by cases h
 have Q3:=Q2.ext L;simp only[go_sem,UN];refine(IZ W3 Q3 (by simp) λc hc hq=>by have hq:c=bq:=hq;have hc:c=bw:=hc;omega).mono λr h4 ⟨A,B4,q4,I,H,k1,k2,k3,f4⟩=>?_
 subst A;have s1:cW none none ⟨0,[],none,0⟩ ⟨min (max 1 1) 4096,[],false⟩=(⟨0,[],none,0⟩,⟨1,[],false⟩,(0,0,0,0)):=rfl;rw[s1]at I H ⊢;have E4:Ext h h4:=U.then_fr f4 λc hc=>by
  rcases hc with hc|hc|hc
  ·rw[show c=bw from hc];exact n1
  ·rw[show c=bq from hc];exact aZ W.1 n2
  ·exact hc.elim
 have F:∀c,B4 c→h.size≤c:=λc hc=>(k1 c hc).elim (λh=>by rw[h];exact n1) λh=>aZ U.1 h
 have D:∀c,q4 c→h.size≤c:=λc hc=>(k2 c hc).elim (λh=>by rw[h];exact aZ W.1 n2) λh=>aZ U.1 h
 have f0:aM #[ai,ai,ai,ai] []=some #[ai,ai,ai,ai]:=rfl;have f3:aM #[ai,ai,ai,ai] [(0,1,af 3)]=some #[af 3,ai,ai,ai]:=rfl;have n0:=ev_ne (0,0,0,0) (0,0,0,0);have q0:=zb7 (0,0,0,0) (0,0,0,0);have q3:=zb7 (3,0,0,0) (3,0,0,0);simp only[go_sem,f0,bG,n0,ne_eq,not_true,KO];refine ag.at (Fv I H) ?_;have d1:decide ((0:Int)=1∨((0:Int)=0∧dX ⟨1,[],false⟩≠1))=false:=rfl;rw[d1];simp only[go_sem];refine(T9 H).mono λ_ h5 ⟨_,Q5,f5⟩=>?_
 have W5:=I.other f5 (λc h=>h.elim) k3 (λ_ h=>by cases h) (eE.refl _);have E5:=E4.then_fr f5 D;refine ag.at (Fv W5 Q5) ?_;have d2:decide ((0:Int)=1∨((0:Int)=0∧dX ⟨1,[],true⟩≠1))=true:=rfl;rw[d2];simp only[go_sem];refine(IZ W5 Q5 (by simp) k3).mono λr h6 ⟨A,B6,q6,W6,Q6,l1,l2,l3,f6⟩=>?_
 subst A;have s2:cW none none ⟨0,[],none,0⟩ ⟨1,[],true⟩=(⟨2,[],none,0⟩,⟨1,[],true⟩,(3,0,0,0)):=rfl;rw[s2]at W6 Q6 ⊢;have E6:Ext h h6:=E5.then_fr f6 λc hc=>hc.elim (F c) λhc=>hc.elim (D c) λhc=>hc.elim
 simp only[go_sem,f3,bG,q3,gn];refine(IZ W6 Q6 (by simp) l3).mono λr h7 ⟨A,B7,q7,W7,Q7,m1,m2,m3,f7⟩=>?_
 subst A;have s3:cW none none ⟨2,[],none,0⟩ ⟨1,[],true⟩=(⟨2,[],none,0⟩,⟨1,[],true⟩,(0,0,0,0)):=rfl;rw[s3]at W7 Q7 ⊢;have E7:Ext h h7:=E6.then_fr f7 λc hc=>by
  have hs:=E5.1;rcases hc with hc|hc|hc
  ·exact(l1 c hc).elim (F c) λh=>ae
  ·exact(l2 c hc).elim (D c) λh=>ae
  ·exact hc.elim
 simp only[go_sem,f0,bG,q0,gn];refine ag.at (zbI W7) ?_;simp only[go_sem];exact⟨trivial,E7⟩
end
end Go.Proofs.YtjljhnandbbldaaGreatDoor
namespace Go.Proofs.YtjljhnandbbldaaGreatDoor
open Go Go.Crisp
attribute [local irreducible] ag di aW stK aF vK qK bK gK fo bA mkK dk Fm GM CJ bsK clK tW oA V0
structure zdd (h0:ah)(T:TypeId)(N:Pic)(im:Option (Nat×Value))(va:Option (Nat×Bool))(g:ah):Prop where
 ext:Ext h0 g
 mi:∀p,im=some p→dd g p.1 p.2 N∧h0.size≤p.1∧∀c,blk p.2 c→h0.size≤c
 av:∀q,va=some q→h0.size≤q.1∧g[q.1]? =some (.cells #[if q.2 then(match im with|some p=>ptr p.1|none=>.pointer none)else .pointer none] T (0,0))
 dis:∀p q,im=some p→va=some q→p.1≠q.1∧¬blk p.2 q.1
theorem zdd.st {h0 g:ah}{T:TypeId}{N:Pic}{b bt:Nat}{vt:Value}{K:Value→ah→Prop}(M:zdd h0 T N (some (bt,vt)) (some (b,false)) g)(H:∀A,zdd h0 T N (some (bt,vt)) (some (b,true)) A→K undef A):stK 1 (ptr b) (ptr bt) g K:=by
 obtain⟨a1,a2⟩:=M.av _ rfl;obtain⟨d1,d2⟩:=M.dis _ _ rfl rfl;refine bZ a2 (by simp) rfl λA r u=>H A ⟨M.ext.upd a1 u,λp D=>?_,λq hq=>?_,λp q D hq=>?_⟩
 ·cases D;obtain⟨I,G⟩:=M.mi _ rfl;exact⟨I.fr u.fr d1 λc F L=>d2 (L▸F),G⟩
 ·cases hq;exact⟨a1,r⟩
 ·cases D;cases hq;exact⟨d1,d2⟩
theorem zaB {Z:Nat→Prop}{h:ah}{sv:Value}{s:Stg}(H:Rp.Sl Ee Z h sv [s]):∃p q b o,bh 3 sv ai=some (.pointer (some ⟨b,o,none⟩))∧aG h ⟨b,o,none⟩=some p∧aG h ⟨b,o+1,none⟩=some q∧SlC 3 h sv 1 [p,q,af s.border]∧(∀c,blk sv c→Z c)∧fJ Z h p s.x∧fJ Z h q s.y:=by
 obtain⟨ds,⟨D,a,cap,rfl,A⟩,L,I⟩:=H;have D:ds.length=3:=D;have F:Ee.R Z h (Rp.el 3 ds 0) s:=I 0 (by simp);rw[Rp.el_self D]at F;obtain⟨p,q,rfl,G,hq⟩:=F;rcases A with h0|⟨b,o,rfl,A⟩
 ·cases h0
 ·exact⟨p,q,b,o,rfl,A 0 (by simp),A 1 (by simp),⟨rfl,_,cap,rfl,.inr ⟨b,o,rfl,A⟩⟩,λc hc=>L (by simp) c hc,G,hq⟩
abbrev Qx (a:si)(o:OpD)(tw th:Int):dm:=⟨bgS a o,1+tw%13,1+th%13⟩
section
theorem jJ {d:dm}(W:d.Wf){i:Int}(h0:0≤i)(h1:i<ck d):fh d.s (aO d i).x (aO d i).y (aO d i).w (aO d i).h:=by
 have D:=Lg W h0 h1;have A:=W.w;have hh:=W.h;unfold fC at A hh;unfold dm.X dm.Y at D;show 1≤tN d i∧1≤vY d i∧0≤jq d i∧0≤kh d i∧jq d i<_∧kh d i<_∧tN d i≤d.s.x.lines.length-jq d i∧vY d i≤d.s.y.lines.length-kh d i;unfold tN vY dm.X dm.Y;omega
def PE (d:dm)(i:Int):cZ×Int×Int:=(aO d i,(aO d i).y,lnF d.s.y (aO d i).y)
structure C21 where
 bm:Nat
 bn:Nat
 bs:Nat
 bp:Nat
 bf:Nat
 vf:Value
 bt:Nat
 vt:Value
 p:Value
 q:Value
 rv:Value
 bl:Nat
 pp:Value
 pq:Value
 m:Pic
 d:dm
 bw:Nat
 bq:Nat
abbrev C21.E (C:C21):WE:=⟨C.bf,C.vf,C.bt,C.vt,C.p,C.q,C.m,C.d.s⟩
structure C21.Ok (C:C21):Prop where
 m:C.m.Wf
 d:C.d.Wf
 s:Cj C.d.s
abbrev C21.jo (C:C21)(i:Int):Option (cZ×Int×Int):=some (PE C.d i)
abbrev C21.suits (C:C21)(n:Pic):Prop:=n.Wf∧lB C.m n C.d.s
theorem C21.newC {C:C21}(O:C.Ok){n:Pic}(S:C.suits n){i:Int}(h0:0≤i)(h1:i<ck C.d):nH C.m n C.d.s (aO C.d i)=0:=qa.2 ⟨S.2,jJ O.d h0 h1⟩
section
variable {C:C21}{Z:Nat→Prop}{g:ah}{n:Pic}{x:Int}
theorem VH.has {h':ah}{r:Value}(O:C.Ok)(S:C.suits n)(h0:0≤x)(h1:x<ck C.d)(H:VH Z g C.bf C.vf C.bt C.vt C.p C.q C.m n C.d.s (aO C.d x) r h'):
  ∃bj rv,r=.tuple #[ptr bj,ai]∧Ext g h'∧jD Z (qE (λ_=>False) g h') h' (some C.E) n (ptr bj) (C.jo x)∧kK Z (qE (λ_=>False) g h') h' bj C.bf C.vf C.bt C.vt C.p C.q rv ⟨C.m,C.d.s,aO C.d x⟩ (aO C.d x).y (lnF C.d.s.y (aO C.d x).y) n (iG (bH C.d.s.y.lines)) (fB ((aO C.d x).w*C.m.c)):=by
 have hc:=C21.newC O S h0 h1;obtain⟨bj,rv,A,e,J⟩:=H.go hc;exact⟨bj,rv,A,e,⟨C.E,rfl,⟨O.m,O.s⟩,hc,bj,rv,rfl,J⟩,J⟩
end
end
def muJ (E:WE):Option (cZ×Int×Int)→Nat
 |none=>0
 |some (t,y,e)=>rV (E.d t) y e
def qf (C:C21)(i:Int):Nat:=rV (C.E.d (aO C.d i)) (aO C.d i).y (lnF C.d.s.y (aO C.d i).y)
theorem Pr {E:WE}{t:cZ}{y e:Int}:muJ E (cH (some E) (some (t,y,e)))=rV (E.d t) y e:=by
 show muJ E (if cn (E.d t) y e=0 then none else some (t,y,e))=_;split
 ·rename_i h;rw[Y9.2 h];rfl
 ·rfl
theorem Sp {o:OpD}(h:¬my 12 o):(cK o).length≤41:=by
 unfold my at h;have hu:∀l:List Int,(rj l).length≤l.length:=λl=>by unfold rj;split<;>simp
 unfold cK;split
 ·unfold oF;split
  ·simp
  ·rename_i A;unfold mm at A;rw[cQ,eN];unfold gF;omega
 split
 ·unfold yB;split
  ·simp
  ·rename_i A;unfold ut at A;have:=hu (List.replicate (2*o.radius+1).toNat 1);rw[vx]at this;omega
 ·have:=hu o.y;omega
theorem Ps {o:OpD}{w h:Int}(hc:eZ o w h=0)(G:¬my 12 o)(I:h≤12):bH (ch o w h).y.lines≤80:=by
 have A:iE o w h=0:=by
  unfold eZ at hc;split at hc
  ·cases hc
  ·exact hc
 show bH (fj o h).lines≤_;unfold iE at A;unfold fj;split
 ·rename_i D;rw[aA D]at A;by_cases h1:dy o.filter w o.w=0
  ·rw[az (by simpa using h1)]at A;have:=Gr A;omega
  ·rw[aA h1]at A;exact absurd A h1
 ·rename_i D;rw[az D]at A;have H:=Sp G;have F:iJ (cK o) h=0:=by
   split at A
   ·exact absurd A (by assumption)
   ·split at A
    ·exact absurd A (by assumption)
    ·exact A
  have:=HT _ _ F;omega
theorem Pz {d:fO}{M:Nat}(A:bH d.s.y.lines≤M):∀(k:Nat) (y e:Int),lnF d.s.y y≤e→ml d k y e≤k*(M+1)
 |0,_,_,_=>by unfold ml;omega
 |k+1,y,e,he=>by
  have h1:=Pz A k (y+1) (max (lnE d.s.y y) (lnF d.s.y (y+1))) ae;have D:=IP d.s.y y;rw[em,sH];unfold ml;unfold lnE lnF at*;omega
def jg (C:C21):Nat→Nat→Nat
 |0,_=>0
 |j+1,i=>qf C i+jg C j (i+1)
theorem SC {C:C21}{H M:Nat}(A:bH C.d.s.y.lines≤M)(hh:∀i:Nat,(aO C.d i).h≤H):∀j i,jg C j i≤j*(H*(M+1))
 |0,_=>by simp[jg]
 | j+1,i=>by
  have h1:=SC A hh j (i+1);have D:qf C i≤H*(M+1):=by
   unfold qf rV;refine aZ (Pz (d:=C.E.d (aO C.d i)) A _ _ _ (fT _)) (iz _ ?_);have:=hh i;show((aO C.d i).y+(aO C.d i).h-(aO C.d i).y).toNat≤H;omega
  unfold jg;rw[em,sH];omega
theorem Pp {n size:Int}(G:1≤n∧n≤12)(D:1≤size∧size≤13):1≤dH n size∧dH n size≤12∧dH n size*min size n≤24:=by
 unfold dH;have h1:=vy (n+size-1) size;have I:=kz (n+size-1) (show size≠0 by omega);have H:=iB (n+size-1) (show 0<size by omega);generalize(n+size-1)/size=k at*;generalize(n+size-1)%size=r at*;rcases mT n size with h|h
 ·have:k=1:=by
   have a1:k<2:=by
    refine Rh λA=>?_
    have:size*2≤size*k:=sI A ae;omega
   have a2:0<k:=by
    refine Rh λA=>?_
    have:size*k≤size*0:=sI A ae;omega
   omega
  subst this;omega
 ·have F:k*min size n=size*k:=by rw[show min size n=size by omega,fU]
  rw[F];have a2:0<k:=by
   refine Rh λA=>?_
   have:size*k≤size*0:=sI A ae;omega
  have a3:1*k≤size*k:=oB D.1 ae;refine⟨ae,?_,ae⟩;refine Int.le_of_not_gt λA=>?_
  have:size*13≤size*k:=sI ae ae;omega
theorem zda {a:si}{o:OpD}(B:Ky a o){tw th:Int}(hw:0≤tw)(hh:0≤th){C:C21}(W:C.d=Qx a o tw th):∃N:Nat,(N:Int)=ck C.d∧1≤N∧N≤144∧jg C N 0≤23328:=by
 have ad:=B.sx;have ab:=B.sy;have aa:0≤tw%13∧tw%13<13:=⟨kz _ ae,iB _ ae⟩
 have al:0≤th%13∧th%13<13:=⟨kz _ ae,iB _ ae⟩
 have px:=Pp (n:=(bgS a o).x.lines.length) (size:=1+tw%13) ae ae;have U:=Pp (n:=(bgS a o).y.lines.length) (size:=1+th%13) ae ae;have hc:ck C.d=dH (bgS a o).x.lines.length (1+tw%13)*dH (bgS a o).y.lines.length (1+th%13):=by rw[W];rfl
 have hm:bH C.d.s.y.lines≤((80:Nat):Int):=by
  rw[W];exact Ps B.made B.little (by have:=xb a;omega)
 obtain⟨H,I⟩:∃H:Nat,(H:Int)=min (1+th%13) (bgS a o).y.lines.length:=⟨(min (1+th%13) (bgS a o).y.lines.length).toNat,ae⟩
 have hH:∀i:Nat,(aO C.d i).h≤H:=by
  intro i;rw[I,W];show min (1+th%13) ((bgS a o).y.lines.length-kh _ _)≤_;have:0≤kh (Qx a o tw th) i:=by
   unfold kh;refine ku (zc ae ?_) (by show 0≤1+th%13;omega);show 0≤dH (bgS a o).x.lines.length (1+tw%13);omega
  omega
 have L:=SC (C:=C) hm hH;rw[hc]
 revert L px U I
 generalize dH (bgS a o).x.lines.length (1+tw%13)=A;generalize dH (bgS a o).y.lines.length (1+th%13)=D;intro px U I L;obtain⟨G,rfl⟩:∃G:Nat,(G:Int)=A:=⟨A.toNat,ae⟩
 obtain⟨F,rfl⟩:∃F:Nat,(F:Int)=D:=⟨D.toNat,ae⟩
 have e1:G*F≤12*12:=zi ae ae;have e2:1*1≤G*F:=zi ae ae;have e3:F*H≤24:=by
  have:((F*H:Nat):Int)≤24:=by rw[lR,I];exact U.2.2
  omega
 refine⟨G*F,by rw[lR],ae,e1,aZ (L _ _) ?_⟩;have e4:G*F*(H*81)=G*(F*H)*81:=by rw[ue,←ue F H 81,←ue]
 have e5:G*(F*H)≤12*24:=zi ae e3;show G*F*(H*81)≤_;omega
def rH (d:dm)(c:Int):Int:=bH d.s.y.lines*min d.w d.X*max 0 c
theorem Yy {C:C21}(O:C.Ok)(h1:1≤bH C.d.s.y.lines){i:Int}(h0:0≤i)(hi:i<ck C.d):1≤(iG (bH C.d.s.y.lines):Int)*(fB ((aO C.d i).w*C.m.c):Int)∧(iG (bH C.d.s.y.lines):Int)*(fB ((aO C.d i).w*C.m.c):Int)≤rH C.d C.m.c:=by
 have I:=du O.m.fits;have D:=jJ O.d h0 hi;have W:=O.s.most;have L:=O.s.side;unfold fh at D;have G:(iG (bH C.d.s.y.lines):Int)=bH C.d.s.y.lines:=by unfold iG;omega
 have U:1*1≤(aO C.d i).w*C.m.c:=ks ae ae ae ae;have H:(aO C.d i).w*C.m.c≤300*3:=ks ae ae ae ae;have F:(fB ((aO C.d i).w*C.m.c):Int)=(aO C.d i).w*C.m.c:=by unfold fB;omega
 rw[G,F];have A:(aO C.d i).w≤min C.d.w C.d.X:=by
  show min C.d.w (C.d.X-jq C.d i)≤_;have:0≤jq C.d i:=D.2.2.1;omega
 refine⟨?_,?_⟩
 ·have:1*1≤bH C.d.s.y.lines*((aO C.d i).w*C.m.c):=ks h1 ae ae ae;omega
 ·unfold rH;rw[show max 0 C.m.c=C.m.c by omega,←mU];refine oB ?_ ae;exact sI A ae
end Go.Proofs.YtjljhnandbbldaaGreatDoor
namespace Go.Proofs.YtjljhnandbbldaaGreatDoor
open Go Go.Crisp
attribute [local irreducible] ag di aW stK aF vK qK bK gK fo bA mkK dk Fm GM CJ bsK clK tW oA V0
open _root_.Go.Proofs.Tryz
def YO:Rp cZ where
 w:=10
 R:=λ_ _ cs t=>cs=dC t
 len:=by rintro _ _ _ _ rfl;rfl
 one:=by rintro _ _ _ _ rfl;exact km _
 fr:=by rintro _ _ _ _ _ _ rfl _ _;rfl
 mono:=by rintro _ _ _ _ _ rfl _;rfl
def dB (d:dm)(N:Nat):List cZ:=(List.range N).map λi:Nat=>aO d i
theorem X8 {Z:Nat→Prop}{h:ah}{b:Nat}{d:dm}{p q:Value}(H:sS Z h b d p q)(W:d.Wf){N:Nat}(U:(N:Int)=ck d)(aa:N≤4096):ag prog sY #[ptr b] h λr h'=>New YO h h' r (dB d N):=by
 apply II;unfold yj;refine ag.at (Dc H W) ?_;rw[←U];refine bI (α:=Value) N 0 (λi v=>[v,af (i:Int)]) (λi v g=>New YO h g v (dB d i)) (.slice none 0 0) rfl (b9 _) (New.nil (Ext.refl _)) λi v g again ρ _ hi G F=>?_
 simp only[iC,xC];rw[cD,ak];refine ao (λg1=>?_) (λg1=>?_)
 ·have I:i<N:=ae;refine ag.to (vH (H.ext G.2.1) W (i:=i) ae ae) λg2 e2=>?_
  have x0:aL (.tuple #[.agg (dC (aO d i)).toArray,.bool true]) 0=some (.agg (dC (aO d i)).toArray):=rfl;have x1:aL (.tuple #[.agg (dC (aO d i)).toArray,.bool true]) 1=some (.bool true):=rfl;simp only[go_sem,x0,x1];refine dh (cs:=dC (aO d i)) rfl (km _) rfl λb3 g3 r3 e3 n3=>?_
  rw[aU r3 10 rfl,ak];have A:=G.ext (e2.trans e3);have L:(dB d i).length=i:=by simp[dB]
  refine Rp.push_ow (e:=YO) (x:=aO d i) A.1 rfl rfl rfl (by rw[L];omega) (by rw[L];omega) (λ_ h=>h.elim) λv4 g4 o4 f4 n4=>?_
  have D:(i:Int)+1=((i+1:Nat):Int):=ae
  try simp only[go_sem]
  rw[w64 (n:=(i:Int)+1) ae ae,D];have e1:dB d (i+1)=dB d i++[aO d i]:=by simp[dB,qp]
  have ab:=A.2.1.1;refine F v4 g4 I ⟨by rw[e1];exact o4,A.2.1.then_fr f4 A.2.2,λc hc=>(n4 c hc).elim (A.2.2 c) λh=>ae⟩
 ·have:i=N:=ae;subst this;exact G
def MW (t:cZ)(x y:Int):Prop:=t.x≤x∧x<t.x+t.w∧t.y≤y∧y<t.y+t.h
theorem Uw {d:dm}(W:d.Wf){x y:Int}(x0:0≤x)(L:x<d.X)(y0:0≤y)(y1:y<d.Y):∃i:Nat,(i:Int)<ck d∧MW (aO d i) x y:=by
 have H:=W.w;have hh:=W.h;unfold fC at H hh;have a1:=vy x d.w;have a2:=kz x (show d.w≠0 by omega);have a3:=iB x (show 0<d.w by omega);have b1:=vy y d.h;have U:=kz y (show d.h≠0 by omega);have I:=iB y (show 0<d.h by omega);have F:0≤x/d.w:=zc x0 ae;have G:0≤y/d.h:=zc y0 ae;have D:x/d.w<dE d:=by
  unfold dE dH;apply V5;rw[uf ae,jw,kr,fU];omega
 have r1:y/d.h<dH d.Y d.h:=by
  unfold dH;apply V5;rw[uf ae,jw,kr,fU];omega
 have hc:(y/d.h+1)*dE d≤dH d.Y d.h*dE d:=oB ae ae;rw[jw,kr]at hc;have A:0≤y/d.h*dE d+x/d.w:=by
  have:=ku G (show 0≤dE d by omega);omega
 refine⟨(y/d.h*dE d+x/d.w).toNat,?_,?_⟩
 ·rw[wU A];unfold ck;rw[fU (dE d)];omega
 ·rw[wU A];have m1:(y/d.h*dE d+x/d.w)%dE d=x/d.w:=by
   rw[Int.add_comm,Int.add_mul_emod_self_right,Int.emod_eq_of_lt F D]
  have m2:(y/d.h*dE d+x/d.w)/dE d=y/d.h:=by
   rw[Int.add_comm,Rn _ _ ae,qR F D,Int.zero_add]
  show jq d _≤x∧x<jq d _+tN d _∧kh d _≤y∧y<kh d _+vY d _;unfold tN vY jq kh;rw[m1,m2,fU (x/d.w),fU (y/d.h)];omega
def zbY (C:C21)(k:Nat)(jo:Option (cZ×Int×Int))(n:Pic):Prop:=
 ∀x y c,inP n x y c→∀i:Nat,i<k→MW (aO C.d i) x y→(∀t yy e,jo=some (t,yy,e)→i+1=k→y<yy)→atP n x y c=xr C.m C.d.s x y c
theorem S6 {C:C21}(O:C.Ok){N:Nat}{n:Pic}(hN:(N:Int)=ck C.d)(P:zbY C N none n)(su:C.suits n):n.l=(Ci C.m C.d.s).l:=by
 obtain⟨s1,I,H,L,s5⟩:=su.2;have hf:=du O.m.fits;refine YV su.1 ?_ ⟨I.symm,H.symm,L.symm,s5.symm⟩ λx y c hi=>?_
 ·show(((List.range (C.d.s.y.lines.length*C.d.s.x.lines.length*C.m.c.toNat)).map _).length:Int)=(C.d.s.x.lines.length:Int)*(C.d.s.y.lines.length:Int)*C.m.c;rw[cQ,eN,lR,lR,wU ae,fU (C.d.s.y.lines.length:Int)]
 ·obtain⟨h1,A,F,D,W,U⟩:=hi;obtain⟨i,aa,G⟩:=Uw O.d h1 (by show x<(C.d.s.x.lines.length:Int);rw[←I];exact A) F (by show y<(C.d.s.y.lines.length:Int);rw[←H];exact D);rw[P x y c ⟨h1,A,F,D,W,U⟩ i ae G λ_ _ _ h=>by cases h];rw[Ys];exact⟨h1,by show x<(C.d.s.x.lines.length:Int);rw[←I];exact A,F,by show y<(C.d.s.y.lines.length:Int);rw[←H];exact D,W,by show c<C.m.c;rw[←L];exact U⟩
section
theorem JQ {h:ah}{Z:Nat→Prop}{v:Value}{l:List (Int×List Int)}(H:Rp.Sl mg Z h v l)(hl:l.length≤1000000000)(hb:∀x∈l,x.2.length≤1073741824){a b:Int}:ag prog qU #[v,af a,af b] h λr h'=>(∃x y c,r=.tuple #[af x,af y,.bool c])∧Ext h h':=by
 apply LZ;unfold AR;obtain⟨av,cv,ev⟩:=H.isSl;have el:aD v=some (af (l.length:Int)):=by rw[ev];rfl
 rw[el,ak];refine bI (α:=Int×Int×Bool) l.length 0 (λi s=>[af s.1,af s.2.1,.bool s.2.2,af (i:Int)]) (λi s g=>Ext h g) (0,0,false) rfl (b9 _) (Ext.refl _) λi s g again ρ _ hi E U=>?_
 simp only[iC,xC,za2,zcu];rw[cD,ak];refine ao (λg1=>?_) (λg1=>?_)
 ·have D:i<l.length:=ae;have L:(i:Int)+1=((i+1:Nat):Int):=ae;obtain⟨pt,cs,q1,q2,u,q3,q4⟩:=(H.ext E).atw (show 0<2 by omega) (k:=.i64) (i:=i) D;have q1:bh 2 v (af (i:Int))=some pt:=q1;have q2:aP 2 g pt=some (.agg cs.toArray):=q2;subst q3;rw[q1,ak,q2,ak];refine dh (cs:=[af l[i].1,u]) rfl (aq rfl (aq q4.one aX)) rfl λb5 g5 r5 e5 n5=>?_
  have c0:aG g5 ⟨b5,0,none⟩=some (af l[i].1):=am r5;have c1:aG g5 ⟨b5,1,none⟩=some u:=am r5;obtain⟨au,cu,eu⟩:=q4.isSl;have aa:aD u=some (af (l[i].2.length:Int)):=by rw[eu];rfl
  simp only[go_sem,aK,c1,aa];refine ao (λg2=>?_) (λg2=>?_)
  ·rw[w64 (n:=(i:Int)+1) ae ae,L];exact U s g5 D (E.trans e5)
  ·have ab:=hb l[i] (cO D);refine bI (α:=Int×Int×Bool) l[i].2.length 0 (λj s=>[af s.1,af s.2.1,.bool s.2.2,af (j:Int)]) (λj s g'=>g'=g5) s rfl (b9 _) rfl λj s' g' W ρ' _ hj eg A=>?_
   subst eg;simp only[iC,xC,za2,zcu];rw[cD,ak];refine ao (λg3=>?_) (λg3=>?_)
   ·have F:j<l[i].2.length:=ae;have G:(j:Int)+1=((j+1:Nat):Int):=ae;simp only[go_sem,aK,c0];refine bB (λxs I=>(∃n,xs=[af n])∧I=g') ?_ ?_
    ·obtain⟨s1,s2,s3⟩:=s';cases s3<;>simp only[go_sem]
     ·exact⟨⟨_,rfl⟩,trivial⟩
     ·refine ao (λ_=>?_) (λ_=>?_)
      ·exact⟨⟨_,rfl⟩,trivial⟩
      ·exact⟨⟨_,rfl⟩,trivial⟩
    ·rintro xs ρ'' I ⟨⟨n,rfl⟩,rfl⟩;obtain⟨s1,s2,s3⟩:=s';simp only[iC];cases s3<;>simp only[go_sem]
     ·rw[w64 (n:=(j:Int)+1) ae ae,G];exact A (n,_,true) _ F rfl
     ·refine ao (λ_=>?_) (λ_=>?_)
      ·rw[w64 (n:=(j:Int)+1) ae ae,G];exact A (n,_,true) _ F rfl
      ·rw[w64 (n:=(j:Int)+1) ae ae,G];exact A (n,s2,true) _ F rfl
   ·rw[w64 (n:=(i:Int)+1) ae ae,L];exact U s' _ D (E.trans e5)
 ·exact⟨⟨_,_,_,rfl⟩,E⟩
theorem S5 {n size:Int}(A:1≤size)(j:Int):j*size<n↔j<dH n size:=by
 unfold dH;rw[show(j<(n+size-1)/size)↔(j+1≤(n+size-1)/size)from Iff.rfl,uf ae,jw,kr];omega
structure VD where
 state:Int
 tiles:List Int
 left:List (Int×Int)
def rVD:Rp VD where
 w:=3
 R:=λZ h cs v=>∃t l,cs=[.int .i64 v.state,t,l]∧Rp.Sl (Rp.int .i64) Z h t v.tiles∧Rp.Sl Ax Z h l v.left∧Rp.SlCap l
 len:=by rintro _ _ _ _ ⟨_,_,rfl,_⟩;rfl
 one:=by
  rintro _ _ _ _ ⟨_,_,rfl,H,K,_⟩;exact aq rfl (aq H.one (aq K.one aX))
 fr:=by rintro _ _ _ _ _ _ ⟨t,l,rfl,H,K,c⟩ f q;exact⟨t,l,rfl,H.fr f q,K.fr f q,c⟩
 mono:=by rintro _ _ _ _ _ ⟨t,l,rfl,H,K,c⟩ q;exact⟨t,l,rfl,H.mono q,K.mono q,c⟩
def zcl:Rp (List (Int×Int)) where
 w:=1
 R:=λZ h cs l=>∃v,cs=[v]∧Rp.Sl Ax Z h v l∧Rp.SlCap v
 len:=by rintro _ _ _ _ ⟨_,rfl,_⟩;rfl
 one:=by
  rintro _ _ _ _ ⟨_,rfl,H,_⟩;exact aq H.one aX
 fr:=by rintro _ _ _ _ _ _ ⟨v,rfl,H,c⟩ f q;exact⟨v,rfl,H.fr f q,c⟩
 mono:=by rintro _ _ _ _ _ ⟨v,rfl,H,c⟩ q;exact⟨v,rfl,H.mono q,c⟩
section
variable {Z:Nat→Prop}{h:ah}{cs ds:List Value}{v:VD}{d:QD}{mv:Value}{M:List (List (Int×Int))}
end
end
theorem X4 {h:ah}{Z:Nat→Prop}{v:Value}{l:List (Int×List Int)}(H:Rp.Sl mg Z h v l)(hl:l.length≤1000000000):ag prog zK #[v] h λr h'=>r=af (bH l)∧Ext h h':=by
 apply Oh;unfold DE;obtain⟨av,cv,ev⟩:=H.isSl;have el:aD v=some (af (l.length:Int)):=by rw[ev];rfl
 rw[el,ak];refine bI (α:=Int) l.length 0 (λi s=>[af s,af (i:Int)]) (λi s g=>s=bH (l.take i)∧Ext h g) 0 rfl (b9 _) ⟨rfl,Ext.refl _⟩ λi s g again ρ _ hi E F=>?_
 obtain⟨W,E⟩:=E;simp only[iC,xC];rw[cD,ak];refine ao (λg1=>?_) (λg1=>?_)
 ·have A:i<l.length:=ae;have hm:bH (l.take (i+1))=max s (l[i].2.length:Int):=by rw[jU A,Fb,W]
  have D:(i:Int)+1=((i+1:Nat):Int):=ae;obtain⟨pt,cs,U,I,u,q3,q4⟩:=(H.ext E).atw (show 0<2 by omega) (k:=.i64) (i:=i) A;have U:bh 2 v (af (i:Int))=some pt:=U;have I:aP 2 g pt=some (.agg cs.toArray):=I;subst q3;rw[U,ak,I,ak];refine dh (cs:=[af l[i].1,u]) rfl (aq rfl (aq q4.one aX)) rfl λb5 G r5 e5 n5=>?_
  have c1:aG G ⟨b5,1,none⟩=some u:=am r5;obtain⟨au,cu,eu⟩:=q4.isSl;have L:aD u=some (af (l[i].2.length:Int)):=by rw[eu];rfl
  simp only[go_sem,aK,c1,L];refine ao (λg2=>?_) (λg2=>?_)
  ·rw[w64 (n:=(i:Int)+1) ae ae,D];exact F _ G A ⟨by rw[hm];omega,E.trans e5⟩
  ·rw[w64 (n:=(i:Int)+1) ae ae,D];exact F s G A ⟨by rw[hm];omega,E.trans e5⟩
 ·have:i=l.length:=ae;rw[W,this,KD];exact⟨rfl,E⟩
theorem Zx (a b c d e f:Int):aM #[ai,ai,ai,ai,ai,ai,ai,ai,ai,ai] [(0,1,af a),(1,1,af b),(2,1,af c),(3,1,af d),(4,1,af e),(9,1,af f)]=
  some [af a,af b,af c,af d,af e,ai,ai,ai,ai,af f].toArray:=by
 refine(bS (n:=1) (l:=[af a]) rfl rfl (by simp)).trans ?_;refine(bS (n:=1) (l:=[af b]) rfl rfl (by simp[cF])).trans ?_;refine(bS (n:=1) (l:=[af c]) rfl rfl (by simp[cF])).trans ?_;refine(bS (n:=1) (l:=[af d]) rfl rfl (by simp[cF])).trans ?_;refine(bS (n:=1) (l:=[af e]) rfl rfl (by simp[cF])).trans ?_;refine(bS (n:=1) (l:=[af f]) rfl rfl (by simp[cF])).trans ?_;rw[gC];simp[wrL]
def Ed:Rp cZ where
 w:=10
 R:=λ_ _ cs t=>∃a b c d,cs=[.int .i64 t.number,.int .i64 t.x,.int .i64 t.y,.int .i64 t.w,.int .i64 t.h,.int .i64 a,.int .i64 b,.int .i64 c,.int .i64 d,.int .i64 t.ring]
 len:=by rintro _ _ _ _ ⟨_,_,_,_,rfl⟩;rfl
 one:=by
  rintro _ _ _ _ ⟨_,_,_,_,rfl⟩;exact aq rfl (aq rfl (aq rfl (aq rfl (aq rfl (aq rfl (aq rfl (aq rfl (aq rfl (aq rfl aX)))))))))
 fr:=by rintro _ _ _ _ _ _ h _ _;exact h
 mono:=by rintro _ _ _ _ _ h _;exact h
theorem St (d:dm)(k:Nat):dB d (k+1)=dB d k++[aO d k]:=by simp[dB,qp]
theorem X5 {h:ah}{Z:Nat→Prop}{cs:List Value}{d:dm}(K:xp.R Z h cs d.s)(W:d.Wf)(few:∀x∈d.s.x.lines++d.s.y.lines,x.2.length≤1073741824){N:Nat}(hN:(N:Int)=ck d)(et:N≤4096)(hX:1≤d.X)(hY:1≤d.Y):
  ag prog lk #[.agg cs.toArray,af d.w,af d.h] h λr h'=>New Ed h h' r (dB d N):=by
 apply QK;unfold FS;obtain⟨X,Y,rfl,HX,HY⟩:=K;have es:=dm.bd W;have hw:=W.w;have hh:=W.h;unfold fC at hw hh;have pc:=nW (n:=d.X) (size:=d.w) ae W.w;have pr:=nW (n:=d.Y) (size:=d.h) ae W.h;obtain⟨A,eA⟩:∃A:Nat,(A:Int)=dE d:=⟨(dE d).toNat,by have:=pc.1;unfold dE;omega⟩
 obtain⟨D,eD⟩:∃D:Nat,(D:Int)=dH d.Y d.h:=⟨(dH d.Y d.h).toNat,by have:=pr.1;omega⟩
 have ec:1≤A:=by have:=pc.2.2 hX;have e:dE d=dH d.X d.w:=rfl;omega
 have bk:N=D*A:=by
  have:(N:Int)=((D*A:Nat):Int):=by rw[hN,lR,eA,eD,fU];rfl
  omega
 simp only[bP];refine aI λG h1 r1 e1 n1=>?_
 obtain⟨ax,cx,ex⟩:=HX.isSl;obtain⟨ay,cy,ey⟩:=HY.isSl;have bv:aD X=some (af d.X):=by rw[ex];rfl
 have bc:aD Y=some (af d.Y):=by rw[ey];rfl
 have L:∀i:Nat,(i:Int)*d.w<d.X↔i<A:=λi=>by rw[S5 hw.1];show(i:Int)<dE d↔_;omega
 have H:∀j:Nat,(j:Int)*d.h<d.Y↔j<D:=λj=>by rw[S5 hh.1];omega
 refine bI (α:=Value) D 0 (λj v=>[v,af ((j:Int)*d.h)]) (λj v g=>New Ed h1 g v (dB d (j*A))) (.slice none 0 0) (by rw[show((0:Nat):Int)*d.h=0 by omega]) (b9 _) (by rw[zk];exact New.nil (Ext.refl _)) λj v g again ρ _ hj NT c6=>?_
 have c1:aG g ⟨G,1,none⟩=some Y:=am (NT.2.1.row r1);simp only[iC,xC,go_sem,aK,c1,bc];refine ao (λg1=>?_) (λg1=>?_)
 ·have be:j<D:=(H j).1 g1;have c4:(j+1)*A≤N:=by rw[bk];exact iz _ be
  rw[em,sH]at c4;have ek:0≤(j:Int)*d.h:=ku ae ae;refine bI (α:=Value) A 0 (λi v=>[v,af ((i:Int)*d.w)]) (λi v g=>New Ed h1 g v (dB d (j*A+i))) v (by rw[show((0:Nat):Int)*d.w=0 by omega]) (b9 _) NT λi v2 g2 b0 ρ2 _ hi N2 au=>?_
  have c0:aG g2 ⟨G,0,none⟩=some X:=am (N2.2.1.row r1);simp only[iC,xC,go_sem,aK,c0,bv];refine ao (λg3=>?_) (λg3=>?_)
  ·have aa:i<A:=(L i).1 g3;have eh:0≤(i:Int)*d.w:=ku ae ae;obtain⟨a2,ej,e2⟩:=N2.sl.isSl;have ad:(dB d (j*A+i)).length=j*A+i:=by simp[dB]
   have ci:aD v2=some (af ((j*A+i:Nat):Int)):=by rw[e2,ad];rfl
   have dl:aG g2 ⟨G,1,none⟩=some Y:=am (N2.2.1.row r1);simp only[ci,ak,go_sem,aK,dl];refine(X4 (HY.ext (e1.trans N2.2.1)) (by have e:d.Y=d.s.y.lines.length:=rfl;omega)).mono λrr g4 ⟨er,e4⟩=>?_
   subst er;have N4:=N2.ext e4;have cr:=N4.2.1.row r1;rw[Zx,bG,ak];have an:∀a b c d' e f g k l m:Int,∀v∈[af a,af b,af c,af d',af e,af f,af g,af k,af l,af m],aR v=true:=λ_ _ _ _ _ _ _ _ _ _=>aq rfl (aq rfl (aq rfl (aq rfl (aq rfl (aq rfl (aq rfl (aq rfl (aq rfl (aq rfl aX)))))))))
   refine aI λbt g5 r5 e5 n5=>?_
   refine cT r5 rfl (an _ _ _ _ _ _ _ _ _ _) rfl λg6 r6 u6=>?_
   have ep:=N4.2.1.1;have e0:=e5.1;have ei:=u6.1;have ea:=bC r1;have cp:g4.size≤bt:=n5;have a8:g6[G]? =some (.cells [X,Y,af d.s.x.n,af d.s.y.n,af d.s.border].toArray 38 (0,0)):=u6.row ae (e5.row cr);have E6:Ext g4 g6:=e5.upd cp u6;have b4:aG g6 ⟨G,0,none⟩=some X:=am a8
   -- the width
   have hH:(aO d ((j*A+i:Nat):Int)).y=(j:Int)*d.h∧(aO d ((j*A+i:Nat):Int)).h=min d.h (d.Y-(j:Int)*d.h):=by
    have q:((j*A+i:Nat):Int)/dE d=(j:Int):=by
     rw[←eA,←Int.natCast_ediv]
     congr 1
     rw[eO,Ri ae,sJ aa,iA]
    constructor
    ·show kh d _=_;unfold kh;rw[q]
    ·show vY d _=_;unfold vY kh;rw[q]
   have hq:((j*A+i:Nat):Int)%dE d=(i:Int):=by
    rw[←eA,←Int.natCast_emod]
    congr 1
    rw[eO,KG,vA aa]
   have c7:(aO d ((j*A+i:Nat):Int)).x=(i:Int)*d.w:=by
    show jq d _=_;unfold jq;rw[hq]
   have I:(aO d ((j*A+i:Nat):Int)).w=min d.w (d.X-(i:Int)*d.w):=by
    show tN d _=_;unfold tN jq;rw[hq]
   refine bB (λxs g=>xs=[]∧g[bt]? =some (.cells [af ((j*A+i:Nat):Int),af ((i:Int)*d.w),af ((j:Int)*d.h),af (aO d ((j*A+i:Nat):Int)).w,af d.h,ai,ai,ai,ai,af (bH d.s.y.lines)].toArray 59 (0,0))∧Fr (λc=>c=bt) g6 g) ?_ ?_
   ·simp only[go_sem,aK,b4,bv];rw[w64 (n:=(i:Int)*d.w+d.w) ae ae];refine ao (λU=>?_) (λU=>?_)
    ·rw[w64 (n:=d.X-(i:Int)*d.w) ae ae];refine bZ r6 (by simp) rfl λg7 r7 u7=>⟨trivial,?_,u7.fr⟩
     rw[I,show min d.w (d.X-(i:Int)*d.w)=d.X-(i:Int)*d.w by omega];exact r7
    ·refine⟨trivial,?_,Fr.refl _ _⟩;rw[I,show min d.w (d.X-(i:Int)*d.w)=d.w by omega];exact r6
   rintro xs ρ7 g7 ⟨rfl,r7,f7⟩;have eb:=f7.1;have a7:=f7.row a8 (show¬G=bt by omega);have cc:aG g7 ⟨G,1,none⟩=some Y:=am a7
   -- the height
   refine bB (λxs g=>xs=[]∧g[bt]? =some (.cells [af ((j*A+i:Nat):Int),af ((i:Int)*d.w),af ((j:Int)*d.h),af (aO d ((j*A+i:Nat):Int)).w,af (aO d ((j*A+i:Nat):Int)).h,ai,ai,ai,ai,af (bH d.s.y.lines)].toArray 59 (0,0))∧Fr (λc=>c=bt) g7 g) ?_ ?_
   ·simp only[go_sem,aK,cc,bc];rw[w64 (n:=(j:Int)*d.h+d.h) ae ae];refine ao (λU=>?_) (λU=>?_)
    ·rw[w64 (n:=d.Y-(j:Int)*d.h) ae ae];refine bZ r7 (by simp) rfl λg9 r9 u9=>⟨trivial,?_,u9.fr⟩
     rw[hH.2,show min d.h (d.Y-(j:Int)*d.h)=d.Y-(j:Int)*d.h by omega];exact r9
    ·refine⟨trivial,?_,Fr.refl _ _⟩;rw[hH.2,show min d.h (d.Y-(j:Int)*d.h)=d.h by omega];exact r7
   rintro xs ρ8 U ⟨rfl,r8,f8⟩;have eg:=f8.1;have F8:Fr (λc=>c=bt) g6 U:=f7.trans f8;have E8:Ext g4 U:=E6.then_fr F8 λc hc=>by have hc:c=bt:=hc;omega
   have a9:=f8.row a7 (show¬G=bt by omega);have c3:aG U ⟨G,0,none⟩=some X:=am a9;have cw:aG U ⟨bt,3,none⟩=some (af (aO d ((j*A+i:Nat):Int)).w):=am r8;simp only[go_sem,aK,c3,cw];refine(JQ ((HX.ext e1).ext (N4.2.1.trans E8)) (by have e:d.X=d.s.x.lines.length:=rfl;omega) λx hx=>few x (KF _ hx)).mono λrr g9 ⟨⟨x1,y1,z1,er⟩,e9⟩=>?_
   subst er;have x0:∀x y:Int,∀z,aL (.tuple #[af x,af y,.bool z]) 0=some (af x):=λ_ _ _=>rfl
   have bo:∀x y:Int,∀z,aL (.tuple #[af x,af y,.bool z]) 1=some (af y):=λ_ _ _=>rfl
   have ar:∀x y:Int,∀z,aL (.tuple #[af x,af y,.bool z]) 2=some (.bool z):=λ_ _ _=>rfl
   have aw:=e9.row r8;have b6:aG g9 ⟨G,1,none⟩=some Y:=am (e9.row a9);have b7:aG g9 ⟨bt,4,none⟩=some (af (aO d ((j*A+i:Nat):Int)).h):=am aw;simp only[go_sem,aK,x0,bo,ar,b6,b7];refine(JQ ((HY.ext e1).ext (N4.2.1.trans (E8.trans e9))) (by have e:d.Y=d.s.y.lines.length:=rfl;omega) λx hx=>few x (List.mem_append_right _ hx)).mono λrr cb ⟨⟨x3,y3,z3,er⟩,ab⟩=>?_
   subst er;have ew:=e9.1;have dz:=ab.1;simp only[go_sem,aK,x0,bo,ar];refine bZ (ab.row aw) (by simp) rfl λez cu ct=>?_
   try simp only[go_sem,aK]
   refine bZ cu (by simp) rfl λee c8 ca=>?_
   try simp only[go_sem,aK]
   refine bZ c8 (by simp) rfl λeu b3 c2=>?_
   try simp only[go_sem,aK]
   refine bZ b3 (by simp) rfl λal bg b5=>?_
   have b8:Fr (λc=>c=bt) cb al:=ct.fr.trans (ca.fr.trans (c2.fr.trans b5.fr));have c9:Ext g4 al:=(E8.trans (e9.trans ab)).then_fr b8 λc hc=>by have hc:c=bt:=hc;omega
   rw[aU (l:=[af ((j*A+i:Nat):Int),af ((i:Int)*d.w),af ((j:Int)*d.h),af (aO d ((j*A+i:Nat):Int)).w,af (aO d ((j*A+i:Nat):Int)).h,af x1,af x3,af (IntKind.i64.wrap (y1-x1)),af (IntKind.i64.wrap (y3-x3)),af (bH d.s.y.lines)]) bg 10 rfl,ak];have F:=N4.ext c9;refine Rp.push_ow (e:=Ed) (x:=aO d ((j*A+i:Nat):Int)) F.1 ⟨_,_,_,_,by rw[hH.1,c7];rfl⟩ rfl rfl (by rw[ad];omega) (by rw[ad];omega) (λ_ h=>h.elim) λv4 b2 o4 f4 n4=>?_
   have dq:=F.2.1.1;have e3:(i:Int)*d.w+d.w=((i+1:Nat):Int)*d.w:=by rw[KE,jw];simp
   try simp only[go_sem]
   rw[w64 (n:=(i:Int)*d.w+d.w) ae ae,e3];refine au v4 b2 aa ⟨?_,F.2.1.then_fr f4 F.2.2,λc hc=>(n4 c hc).elim (F.2.2 c) λh=>ae⟩;rw[←ui,St];exact o4
  ·have:i=A:=by
    have:=mt (L i).2 g3;omega
   subst this;have e3:(j:Int)*d.h+d.h=((j+1:Nat):Int)*d.h:=by rw[KE,jw];simp
   rw[w64 (n:=(j:Int)*d.h+d.h) ae ae,e3];refine c6 v2 g2 be ?_;rw[em,sH];exact N2
 ·have:j=D:=by
   have:=mt (H j).2 g1;omega
  subst this;rw[bk];exact⟨NT.1,e1.trans NT.2.1,λc hc=>aZ e1.1 (NT.2.2 c hc)⟩
end Go.Proofs.YtjljhnandbbldaaGreatDoor
namespace Go.Proofs.YtjljhnandbbldaaGreatDoor
open Go Go.Crisp
attribute [local irreducible] ag di aW stK aF vK qK bK gK fo bA mkK dk Fm GM CJ bsK clK tW oA V0
def RX (E:WE):Option (cZ×Int×Int)→List (Int×Int)
 |none=>[]
 |some (t,y,e)=>Rc (E.d t) y e
def vOf (E:WE)(w:WD):VD:=⟨w.state,w.tiles,RX E w.job⟩
def EZ (C:C21)(N:Nat):List (List (Int×Int)):=(List.range N).map λi:Nat=>RX C.E (some (PE C.d i))
end Go.Proofs.YtjljhnandbbldaaGreatDoor
namespace Go.Crisp
open Go
open _root_.Go.Proofs.YtjljhnandbbldaaGreatDoor
theorem jC.push1 {α:Type}{e:Rp α}{z U c:Value}{t t':TypeId}{bytes:Nat}{h h1:ah}{v:Value}{l:List α}{x:α}{Y:Nat→Prop}{K:Value→ah→Prop}(hw:e.w=1)(H:jC e h h1 v l)
  (hx:e.R Y h1 [c] x) (hY:∀b,Y b→h.size≤b∧b<h1.size∧¬blk v b) (D:z.cells.size=1) (A:(l.length+1)*bytes≤140737488355328) (hn:l.length+1≤9223372036854775807)
  (HK:∀F h',jC e h h' F (l++[x])→K F h'):di #[U] t 1 [(0,1,c)] h1 λW h3=>dk z t' 1 bytes v W h3 K:=by
 obtain⟨Z,o,ex,n,zf⟩:=H;have L:∀b,blk v b→¬Z b:=by obtain⟨ds,_,d,_⟩:=o;exact d
 have o2:Rp.Ow e (λb=>Z b∨Y b) h1 v l:=o.mono (λb _ A=>.inl A) λb A D=>by
  rcases D with D|D
  ·exact L b A D
  ·exact(hY b D).2.2 A
 refine Rp.push_ow1 hw o2 (e.mono hx λb _ A=>.inr A) D A hn (λb A=>?_) λF h' o' I n'=>HK F h' ⟨λb=>Z b∨Y b,o',ex.then_fr I n,λb A=>?_,λb A=>?_⟩
 ·rcases A with A|A
  ·exact(zf b A).2
  ·exact(hY b A).2.1
 ·rcases n' b A with G|G
  ·exact n b G
  ·exact aZ ex.1 G
 ·have hl:=I.1;rcases A with A|A
  ·have:=zf b A;omega
  ·have:=hY b A;omega
end Go.Crisp
namespace Go.Proofs.YtjljhnandbbldaaGreatDoor
open Go Go.Crisp
attribute [local irreducible] ag di aW stK aF vK qK bK gK fo bA mkK dk Fm GM CJ bsK clK tW oA V0
theorem Tn (C:C21)(k:Nat):EZ C (k+1)=EZ C k++[RX C.E (some (PE C.d k))]:=by simp[EZ,qp]
theorem Lj (C:C21):∀a b i:Nat,jg C (a+b) i=jg C a i+jg C b (i+a)
 |0,b,i=>by rw[aK,iA];show _=0+_;omega
 |a+1,b,i=>by
  have h:=Lj C a b (i+1);rw[show a+1+b=(a+b)+1 by omega];show qf C i+jg C (a+b) (i+1)=qf C i+jg C a (i+1)+_;rw[h,show i+1+a=i+(a+1)by omega];omega
section
theorem IsW.job_e {Z B:Nat→Prop}{h:ah}{bw:Nat}{E:WE}{n:Pic}{w:WD}(H:IsW Z B h bw (some E) n w):∀t y e,w.job=some (t,y,e)→e≤lnE E.s.y y:=by
 obtain⟨⟨tv,I,L,r,o,J,_⟩,_,_,_,_,_,st⟩:=H;intro t y e D;rw[D]at J st;obtain⟨G,F,ok,hc,bj,rv,_,S⟩:=J;cases F;obtain⟨⟨M,rs,_,_,k⟩,_⟩:=S;rcases st with⟨_,A,_⟩|⟨_,h⟩
 ·have A:cn (E.d t) y e≠0:=A;unfold cn at A;split at A
  ·exact absurd rfl A
  ·exact(k ae).2.2
 ·cases h
section
variable {a:Bool}{C:C21}{Z X Zd:Nat→Prop}{N:Nat}{h0 h:ah}{mv:Value}{bQ bW bV:Nat}{TW TV:TypeId}{n:Pic}{ba bb:Nat}{wa wb:WD}{q:QD}
end
end
theorem SD {E:Option WE}{jo:Option (cZ×Int×Int)}{w:WD}{d:QD}:(cW E jo w d).1.tiles.length≤w.tiles.length+1:=by
 obtain⟨st,tl,j,A⟩:=w;unfold cW;split
 ·split
  ·exact KC _
  ·exact KC _
 ·split
  ·exact KC _
  ·split
   ·simp[Ac]
   ·split<;>exact KC _
theorem Sr {t m:Int}(h:B8 t)(D:0<m∧m≤100){K:Value→Prop}(H:K (af (1+t%m))):vK (aj .i .rem (.int .u8 t) (.int .u8 m)) λa=>vK (gh .i64 a) λb=>vK (aj .i .add aH b) λc=>K c:=by
 have A:0≤t%m∧t%m<m:=⟨kz _ ae,iB _ ae⟩
 rw[dP _ _ _ _ ae,ak,jV h.1];simp only[go_sem];rw[w64 (n:=t%m) ae ae,w64 (n:=1+t%m) ae ae];exact H
end Go.Proofs.YtjljhnandbbldaaGreatDoor
namespace Go.Proofs.YtjljhnandbbldaaGreatDoor
open Go Go.Crisp
theorem Uz {h:ah}{v:Value}{l:List Int}(H:SlC 1 h v l.length (l.map (Value.int .u8))):Rp.Sl (Rp.int .u8) (λ_=>True) h v l:=
 ⟨_,H,λ_ _ _=>trivial,λi hi=>by
  show Rp.el 1 _ i=[.int .u8 l[i]];rw[Rp.el_one (by simpa using hi),eT]⟩
theorem YB {h:ah}{ts:List TS}{l:List Value}(R:vW (.sl (.int .u8) 1::ts) h l):∃v,∃k:List Int,∃r,l=v::r∧Rp.Sl (Rp.int .u8) (λ_=>True) h v k∧(∀x∈k,B8 x)∧k.length≤1000000000000000∧vW ts h r:=by
 obtain⟨v,r,D,⟨x,F⟩,h0⟩:=R;obtain⟨u,hu,h1,G,A⟩:=zch (l:=x) (show Rd (.sl (.int .u8) 1) h [v] x from F);obtain rfl:v=u:=by simpa using hu
 have A:List.length (α:=Int) x*1≤140737488351232:=A;exact⟨v,x,r,D,Uz h1,G,ae,h0⟩
end Go.Proofs.YtjljhnandbbldaaGreatDoor
namespace Go.Proofs.YtjljhnandbbldaaGreatDoor
open Go Go.Crisp
attribute [local irreducible] ag di aW stK aF vK qK bK gK fo bA mkK dk Fm
open _root_.Go.Proofs.Tryz
def OS (a:Int):Nat:=(min (max 1 a) 512).toNat
def tS (n:Nat)(j:Nat):List Int:=(List.range n).map λm=>if m=j then 1 else 0
theorem MG (n:Nat)(f g:Nat→Value)(h:∀k,k<n→f k=g k):(List.range n).map f=(List.range n).map g:=
 K3 λk A=>h k (sO.1 A)
theorem c_New {h:ah}(a:Int):ag prog nF #[af a] h λr h'=>∃M,fI M h' r (OS a) (tS (OS a))∧Ext h h'∧∀b,M b→h.size≤b:=by
 apply Ra;unfold Gj;have bd:min (max 1 a) 512=((OS a:Nat):Int):=by unfold OS;omega
 have an:1≤OS a∧OS a≤512:=by unfold OS;omega
 simp only[go_sem,bd];generalize OS a=n at an;refine og rfl ae ae λs h1 o1 e1 n1=>?_
 have bo:=o1.sl;obtain⟨_,L,I,rfl,_⟩:=bo;rw[Lb _ #[.slice L n I] (by kernel_rfl)];refine aI (c:=#[.slice L n I]) λbc W ax e2 n2=>?_
 obtain⟨t0,r2⟩:∃t,W[bc]? =some (.cells #[.slice L n I] t (0,0)):=⟨_,ax⟩
 clear ax
 simp only[go_sem,am r2];have ay:¬blk (.slice L n I) bc:=λA=>by have:=o1.lt A;omega
 refine Fc n (λk h'=>k≤n∧Ext h h'∧∃sv:Nat→Value,h'[bc]? =some (.cells #[.slice L n I] t0 (0,0))∧Own 1 h' (.slice L n I) n ((List.range n).map λj=>if j<k then sv j else .slice none 0 0)∧
   (∀j,j<k→kj h' (sv j) (tS n j))∧(∀j,j<k→∀b,blk (sv j) b→h.size≤b∧b≠bc∧¬blk (.slice L n I) b)∧∀i j,i<k→j<k→i≠j→∀b,blk (sv i) b→¬blk (sv j) b)
  ⟨b9 _,e1.trans e2,λ_=>.nilFunc,r2,?_,λj F=>ae,λj F=>ae,λi j hi=>ae⟩ ?_
 ·have:=o1.fr (M:=λ_=>False) e2.fr λ_ _=>id
  rw[show List.replicate n (Value.slice none 0 0)=(List.range n).map λj=>if j<0 then Value.nilFunc else .slice none 0 0 by
   apply qw<;>simp]at this
  exact this
 rintro k h3 again ρj ⟨b4,e3,sv,r3,o3,G,H,a8⟩ bg;simp only[go_sem];refine ao (λhk=>?_) (λhk=>?_)
 ·have hk:k<n:=ae;refine PO ?_;refine aC (.slice L n I) (λh' e=>by rw[am (e.row r3)];rfl) ?_;refine og rfl ae ae λs4 h4 o4 e4 n4=>?_
  refine⟨e4,?_⟩;obtain⟨p,hp,hq,b1⟩:=(o3.fr (M:=λ_=>False) e4.fr λ_ _=>id).at1 (k:=.i64) hk;simp only[go_sem,hp];have aw:kj h4 s4 (List.replicate n 0):=by
   unfold kj;rw[vx,Ro];exact o4
  refine b1 _ _ (CL aw) λh5 o5 f5 _=>?_
  rw[Lu]at o5;have ad:∀b,blk s4 b→¬blk (.slice L n I) b:=λb A D=>by have:=n4 b A;have:=o3.lt D;omega
  have o6:kj h5 s4 (List.replicate n 0):=aw.fr f5 λb A=>ad b A
  have r5:h5[bc]? =some (.cells #[.slice L n I] t0 (0,0)):=f5.row (e4.row r3) ay;obtain⟨p6,a9,a7⟩:=o5.sl.at1 (k:=.i64) hk;rw[hp]at a9;cases a9;rw[eT,y7,aA rfl]at a7;obtain⟨p7,bk,b3,ar⟩:=Own.at1 o6 (k:=.i64) (i:=k) (by simpa using hk);simp only[go_sem,am r5,hp,a7,bk];refine ar _ _ rfl λh8 o8 f8 _=>?_
  rw[w64 ae ae];have f58:Fr (blk s4) h5 h8:=f8;have U:∀b,blk s4 b→h3.size≤b:=n4;have bv:Ext h h8:=((e3.trans e4).then_fr f5 n1).then_fr f58 λb A=>aZ e3.1 (U b A)
  have au:∀b,blk s4 b→h.size≤b∧b≠bc∧¬blk (.slice L n I) b:=λb A=>
   ⟨aZ e3.1 (U b A),λb2=>by
    have h1:=U b A;have W:=(lU.1 r3).1;omega,ad b A⟩
  have aa:∀j,j<k→∀b,blk (sv j) b→¬blk s4 b:=λj F b A D=>by
   have h1:=U b D;have W:=(G j F).lt A;omega
  refine bg h8 hk ⟨hk,bv,λj=>if j=k then s4 else sv j,?_,?_,?_,?_,?_⟩
  ·exact f58.row r5 λA=>(au _ A).2.1 rfl
  ·have:=o5.fr f58 λb A D=>ad b D A
   rw[MG n _ (λj=>if j<k+1 then(if j=k then s4 else sv j)else .slice none 0 0) ?_]at this
   ·exact this
   ·intro j F;by_cases h1:j=k
    ·subst h1;simp
    ·by_cases W:j<k
     ·simp[h1,W,za0 W]
     ·simp[h1,W,show¬j<k+1 by omega]
  ·intro j F;by_cases h1:j=k
   ·subst h1;simp only[cJ];have o9:Own 1 h8 s4 (tS n j).length ((tS n j).map vi):=by
     refine(congr (congrArg (Own 1 h8 s4) ?_) ?_).mp o8
     ·simp[tS]
     ·apply qw
      ·simp[tS]
      ·intro m h1 W;rw[GY];simp only[tS,eT,Wy,y7,vi, @eq_comm _ m j];split<;>rfl
    exact o9
   ·simp only[h1,cE];have al:j<k:=ae;have h9:=((G j al).fr (M:=λ_=>False) e4.fr λ_ _=>id)
    have be:kj h5 (sv j) (tS n j):=h9.fr f5 λb A=>(H j al b A).2.2
    exact be.fr f58 λb A=>aa j al b A
  ·intro j F b A;by_cases h1:j=k
   ·simp only[h1,cJ]at A;exact au b A
   ·simp only[h1,cE]at A;exact H j ae b A
  ·intro i j hi F ab b A D;by_cases h1:i=k
   ·simp only[h1,cJ]at A;have W:j≠k:=λh=>ab (h1.trans h.symm)
    simp only[W,cE]at D;exact aa j ae b D A
   ·simp only[h1,cE]at A;by_cases W:j=k
    ·simp only[W,cJ]at D;exact aa i ae b A D
    ·simp only[W,cE]at D;exact a8 i j ae ae ab b A D
 ·obtain rfl:k=n:=ae;have b0:Own 1 h3 (.slice L k I) k ((List.range k).map sv):=by
   rw[MG k _ sv (λj F=>by simp[F])]at o3;exact o3
  refine⟨λb=>b=bc∨blk (.slice L k I) b∨∃j,j<k∧blk (sv j) b,⟨bc,.slice L k I,sv,t0,rfl,?_⟩,e3,?_⟩
  ·exact{
    var:=r3,arr:=b0,row:=G,len:=λi hi=>by simp[tS],pos:=an
    inM:=⟨.inl rfl,λb A=>.inr (.inl A),λi hi b A=>.inr (.inr ⟨i,hi,A⟩)⟩
    ap1:=ay,ap2:=λi hi b A=>(H i hi b A).2,ap3:=λi j hi F ab b=>a8 i j hi F ab b
    lt:=λb A=>by
     rcases A with rfl|A|⟨j,F,A⟩
     ·exact(lU.1 r3).1
     ·exact o3.lt A
     ·exact(G j F).lt A}
  ·intro b A;rcases A with rfl|A|⟨j,F,A⟩
   ·exact aZ e1.1 n2
   ·exact n1 b A
   ·exact(H j F b A).1
end Go.Proofs.YtjljhnandbbldaaGreatDoor
namespace Go.Proofs.YtjljhnandbbldaaGreatDoor
open Go Go.Crisp
open _root_.Go.Proofs.Tryz
structure Acc where
 who:Int
 when_:List Int
 buf:Int
 lo:Int
 hi:Int
 wr:Bool
def yF (h:ah)(v:Value)(a:Acc):Prop:=∃s,v=.agg #[.int .i64 a.who,s,.int .i64 a.buf,.int .i64 a.lo,.int .i64 a.hi,.bool a.wr]∧lH h s a.when_
theorem yF.ext {h h':ah}{v:Value}{a:Acc}(H:yF h v a)(e:Ext h h'):yF h' v a:=by
 obtain⟨s,rfl,A⟩:=H;exact⟨s,rfl,A.ext e⟩
def MD (a b:Acc):Bool:=decide (a.buf=b.buf)&&decide (max a.lo b.lo<min a.hi b.hi)
def JB (a b:Acc):Bool:= !decide (a.who=b.who)&&(a.wr||b.wr)&&MD a b&& !Ji a.when_ b.when_&& !Ji b.when_ a.when_
theorem zbA {h:ah}{v u:Value}{a b:Acc}(H:yF h v a)(F:yF h u b):
  ag prog vS #[v,u] h λr h'=>r=.bool (MD a b)∧Ext h h':=by
 apply Km;unfold Ao;obtain⟨s,rfl,W⟩:=H;obtain⟨U,rfl,G⟩:=F;simp only[bP];refine aI λb1 h1 r1 I _=>aI λb2 L r2 D _=>?_
 have r1:=D.row r1;have e:=I.trans D;simp only[go_sem,am r1,am r2];by_cases A:a.buf=b.buf
 ·simp only[go_sem,A,am r1,am r2];exact⟨by simp[MD,A],e⟩
 ·simp only[go_sem,A];exact⟨by simp[MD,A],e⟩
theorem Z8 {h:ah}{v u:Value}{a b:Acc}(ha:yF h v a)(hb:yF h u b)(hn:a.when_.length≤9223372036854775807)(hm:b.when_.length≤9223372036854775807):
  ag prog qY #[v,u] h λr h'=>r=.bool (JB a b)∧Ext h h':=by
 apply Mb;unfold A3;have L:=ha;have W:=hb;obtain⟨s,rfl,hs⟩:=ha;obtain⟨s',rfl,H⟩:=hb;simp only[bP];refine aI λb1 h1 r1 e1 _=>aI λb2 h2 r2 e2 _=>?_
 have r1:=e2.row r1;have e:=e1.trans e2;have l1:=aU r1 6 rfl;have l2:=aU r2 6 rfl;simp only[go_sem,am r1,am r2];by_cases I:a.who=b.who
 ·simp only[go_sem,I];exact⟨by simp[JB,I],e⟩
 cases D:a.wr<;>cases A:b.wr<;>simp only[go_sem,I,am r1,am r2,l1,l2,D,A]
 ·exact⟨by simp[JB,D,A],e⟩
 all_goals
  refine(zbA (a:=a) (b:=b) ?_ ?_).mono ?_
  ·rw[←D];exact L.ext e
  ·rw[←A];exact W.ext e
  rintro _ h3 ⟨rfl,U⟩;have r1:=U.row r1;have r2:=U.row r2;have e:=e.trans U;cases F:MD a b with
  |false=>simp only[go_sem];exact⟨by simp[JB,F],e⟩
  | true=>
   simp only[go_sem,am r1,am r2];refine(Xb (hs.ext e) (H.ext e) hn).mono ?_;rintro _ _ ⟨rfl,rfl⟩;cases G:Ji a.when_ b.when_ with
   |true=>simp only[go_sem];exact⟨by simp[JB,G],e⟩
   |false=>
    simp only[go_sem,am r1,am r2];refine(Xb (H.ext e) (hs.ext e) hm).mono ?_;rintro _ _ ⟨rfl,rfl⟩;simp only[go_sem];exact⟨by simp[JB,I,F,G,D,A],e⟩
end Go.Proofs.YtjljhnandbbldaaGreatDoor
namespace Go.Proofs.YtjljhnandbbldaaGreatDoor
open Go Go.Crisp
attribute [local irreducible] ag di aW stK aF vK qK bK gK fo bA
open _root_.Go.Proofs.Tryz
theorem TB {h:ah}{b:Nat}{l:List Int}{t:TypeId}{f:Nat×Nat}{cap:Nat}(r:h[b]? =some (.cells (l.map vi).toArray t f)):lH h (.slice (some ⟨b,0,none⟩) l.length cap) l:=
 ⟨_,cap,rfl,.inr ⟨b,0,rfl,λi hi=>by rw[aK,am r];simp[hi]⟩⟩
theorem zbM {h:ah}:ag prog xL #[] h λr h'=>r=.bool true∧Ext h h':=by
 apply Mh;unfold Ba;refine dc (c':=#[aH,ai]) (by kernel_rfl) λG h1 r1 e1 _=>?_
 rw[Lb _ #[ai,.slice (some ⟨G,0,none⟩) 2 2,ai,af 3,af 4,.bool true] (by kernel_rfl)];refine aI λb2 h2 r2 e2 n2=>?_
 refine cT (l:=[ai,.slice (some ⟨G,0,none⟩) 2 2,ai,af 3,af 4,.bool true]) r2 rfl (by simp[aR]) rfl λU r3 u3=>?_
 have L:Ext h1 U:=e2.upd n2 u3;refine dc (c':=#[ai,aH]) (by kernel_rfl) λH h4 r4 e4 _=>?_
 rw[Lb _ #[aH,.slice (some ⟨H,0,none⟩) 2 2,ai,af 2,af 9,.bool true] (by kernel_rfl)];refine aI λb5 h5 r5 e5 n5=>?_
 refine cT (l:=[aH,.slice (some ⟨H,0,none⟩) 2 2,ai,af 2,af 9,.bool true]) r5 rfl (by simp[aR]) rfl λD r6 u6=>?_
 have W:Ext h4 D:=e5.upd n5 u6;have A:Ext U D:=e4.trans W;have l3:=aU (A.row r3) 6 rfl;have l6:=aU r6 6 rfl;have i1:lH D (.slice (some ⟨G,0,none⟩) 2 2) [1,0]:=TB (l:=[1,0]) ((L.trans A).row r1);have i4:lH D (.slice (some ⟨H,0,none⟩) 2 2) [0,1]:=TB (l:=[0,1]) (W.row r4);have I:yF D (.agg #[ai,.slice (some ⟨G,0,none⟩) 2 2,ai,af 3,af 4,.bool true]) ⟨0,[1,0],0,3,4,true⟩:=⟨_,rfl,i1⟩
 have A4:yF D (.agg #[aH,.slice (some ⟨H,0,none⟩) 2 2,ai,af 2,af 9,.bool true]) ⟨1,[0,1],0,2,9,true⟩:=⟨_,rfl,i4⟩
 have e:Ext h D:=e1.trans (L.trans A);simp only[go_sem,l3,l6];refine(Z8 I A4 (by simp) (by simp)).mono ?_;rintro _ h7 ⟨rfl,F⟩;rw[show JB ⟨0,[1,0],0,3,4,true⟩ ⟨1,[0,1],0,2,9,true⟩=true from by decide];simp only[go_sem,F.lds l3,F.lds l6];refine(Z8 (A4.ext F) (I.ext F) (by simp) (by simp)).mono ?_;rintro _ h8 ⟨rfl,e8⟩;rw[show JB ⟨1,[0,1],0,2,9,true⟩ ⟨0,[1,0],0,3,4,true⟩=true from by decide];simp only[go_sem];exact⟨trivial,e.trans (F.trans e8)⟩
end Go.Proofs.YtjljhnandbbldaaGreatDoor
namespace Go.Proofs.YtjljhnandbbldaaGreatDoor
open Go Go.Crisp
attribute [local irreducible] ag di aW stK aF vK qK bK gK fo bA mkK dk Fm
open _root_.Go.Proofs.Tryz
abbrev rIa:Rp Int:=Rp.int .i64
theorem Qi {Z:Nat→Prop}{h:ah}{v:Value}{l:List Int}(H:Rp.Sl rIa Z h v l):lH h v l:=by
 obtain⟨ds,D,_,G⟩:=H;have I:ds.length=l.length:=by have:=D.1;simpa[Rp.int]using this
 have:ds=l.map vi:=by
  apply qw (by simp[I]);intro i h1 L;have F:=G i ae;have A:Rp.el 1 ds i=[af l[i]]:=F;rw[Rp.el_one h1]at A;rw[eT];simpa[vi]using A
 subst this;exact WG D
theorem zy {Z:Nat→Prop}{h:ah}{v:Value}{l:List Int}(H:lH h v l)(A:l≠[]→∀b,blk v b→Z b):Rp.Sl rIa Z h v l:=by
 refine⟨l.map vi,H.sl,λh0=>A (by simpa using h0),λi hi=>?_⟩;show Rp.el 1 (l.map vi) i=[af l[i]];rw[Rp.el_one (by simpa using hi)];simp[vi]
def xq:Rp Acc where
 w:=6
 R:=λZ h cs a=>∃s,cs=[.int .i64 a.who,s,.int .i64 a.buf,.int .i64 a.lo,.int .i64 a.hi,.bool a.wr]∧Rp.Sl rIa Z h s a.when_
 len:=by rintro _ _ _ _ ⟨s,rfl,_⟩;rfl
 one:=by
  rintro _ _ _ _ ⟨s,rfl,H⟩ v hv;have:=H.one;simp only[List.mem_cons,List.not_mem_nil,or_false]at hv;rcases hv with rfl|rfl|rfl|rfl|rfl|rfl<;>first|rfl|exact this
 fr:=by rintro _ _ _ _ _ _ ⟨s,rfl,H⟩ f q;exact⟨s,rfl,H.fr f q⟩
 mono:=by rintro _ _ _ _ _ ⟨s,rfl,H⟩ q;exact⟨s,rfl,H.mono q⟩
def UZ (a:Acc):Bool:=decide (0≤a.who)&&(decide (0≤a.buf)&&(decide (0≤a.lo)&&decide (a.lo<a.hi)))
theorem c_may {h:ah}{v:Value}{a:Acc}(H:yF h v a):ag prog zW #[v] h λr h'=>r=.bool (UZ a)∧Ext h h':=by
 obtain⟨s,rfl,_⟩:=H;apply OH;unfold D0;simp only[bP];refine aI λb h1 r1 G I=>?_
 by_cases A:0≤a.who
 ·by_cases D:0≤a.buf
  ·by_cases F:0≤a.lo
   ·simp only[go_sem,am r1,A,D,F];exact⟨by simp[UZ,A,D,F],G⟩
   ·simp only[go_sem,am r1,A,D,F];exact⟨by simp[UZ,A,D,F],G⟩
  ·simp only[go_sem,am r1,A,D];exact⟨by simp[UZ,A,D],G⟩
 ·simp only[go_sem,am r1,A];exact⟨by simp[UZ,A],G⟩
theorem zbF {h:ah}{v:Value}{a:Acc}(ha:yF h v a)(hl:a.when_.length≤4398046511104):
  ag prog vT #[v] h λr h'=>∃ds,r=.agg (List.toArray ds)∧xq.R (λb=>h.size≤b∧b<h'.size) h' ds a∧Ext h h':=by
 obtain⟨s,rfl,hs⟩:=ha;apply Kn;unfold Ap;simp only[bP];refine aI λb1 h1 r1 I n1=>aI λb3 h3 r3 H n3=>?_
 have D:=H.row r1;simp only[go_sem,am D];refine(W9 ((hs.ext I).ext H) hl).mono ?_;rintro F h4 ⟨o4,L,n4⟩;have U:=CL o4;refine bZ (o:=1) (L.row D) (by simp) U λh5 r5 u5=>?_
 have r5:h5[b1]? =some (.cells (List.toArray [af a.who,F,af a.buf,af a.lo,af a.hi,.bool a.wr]) _ (0,0)):=r5;rw[aU r5 6 rfl,ak];have aa:b3≠b1:=by have:=bC r1;omega
 refine cT (l:=[af a.who,F,af a.buf,af a.lo,af a.hi,.bool a.wr]) (u5.row aa (L.row r3)) rfl (by repeat' (first|rfl|assumption|exact aX|refine aq ?_ ?_)) rfl λh6 r6 u6=>?_
 rw[aU r6 6 rfl,ak];have W:Ext h h6:=(((I.trans H).trans L).upd n1 u5).upd (aZ I.1 n3) u6;refine⟨_,rfl,⟨F,rfl,?_⟩,W⟩;have G:∀b,blk F b→b≠b1∧b≠b3:=λb A=>by
  have h1:=n4 b A;have h2:=bC D;have h3:=bC r3;exact⟨ae,ae⟩
 have o6:kj h6 F a.when_:=(o4.fr u5.fr λb A=>(G b A).1).fr u6.fr λb A=>(G b A).2
 exact zy o6.ints λ_ b A=>⟨aZ (I.trans H).1 (n4 b A),o6.lt A⟩
end Go.Proofs.YtjljhnandbbldaaGreatDoor
namespace Go.Proofs.YtjljhnandbbldaaGreatDoor
open Go Go.Crisp
attribute [local irreducible] ag di aW stK aF vK qK bK gK fo bA mkK dk Fm
instance:Inhabited Acc:=⟨⟨0,[],0,0,0,false⟩⟩
end Go.Proofs.YtjljhnandbbldaaGreatDoor
namespace Go.Proofs.YtjljhnandbbldaaGreatDoor
open Go Go.Crisp
attribute [local irreducible] ag di aW stK aF vK qK bK gK fo bA mkK dk Fm tW oA V0
open _root_.Go.Proofs.Tryz
section
section
variable {Z:Nat→Prop}{h:ah}{bx o:Nat}{cs:Array Value}{t:TypeId}{sl:Value}{l:List Acc}
structure zar (Z:Nat→Prop)(h:ah)(bx o:Nat)(cs:Array Value)(t:TypeId)(sl:Value)(l:List Acc):Prop where
 var:h[bx]? =some (.cells cs t (0,0))
 pl:cs[o]? =some sl
 own:Rp.Ow xq Z h sl l
 ap:¬blk sl bx∧¬Z bx
 zlt:∀b,Z b→b<h.size
theorem zc8 {u:Value}{a:Acc}(L:zar Z h bx o cs t sl l)(hu:yF h u a)(ha:a.when_.length≤4398046511104)(hl:l.length≤1000000)(hm:UZ a=true):
  ag prog l9 #[.pointer (some ⟨bx,o,none⟩),u] h λr h'=>∃s' Z',zar Z' h' bx o (cs.setIfInBounds o s') t s' (l++[a])∧Fr (λb=>b=bx∨blk sl b) h h'∧(∀b,blk s' b→blk sl b∨h.size≤b)∧∀b,Z' b→Z b∨h.size≤b:=by
 have ar:=bC L.var;have ho:o<cs.size:=(lU.1 L.pl).1;obtain⟨s,rfl,hs⟩:=hu;apply BJ;unfold rE;simp only[bP];refine aI λb1 h1 r1 e1 n1=>?_
 rw[aU (l:=[af a.who,s,af a.buf,af a.lo,af a.hi,.bool a.wr]) r1 6 rfl,ak];have A1:yF h1 (.agg #[af a.who,s,af a.buf,af a.lo,af a.hi,.bool a.wr]) a:=⟨s,rfl,hs.ext e1⟩
 refine(c_may A1).mono ?_;rintro _ h2 ⟨rfl,e2⟩;have I:=e1.trans e2;simp only[hm,go_sem,iA];have F:=e2.row r1;have v2:=I.row L.var;refine aQ (λhh=>hh[bx]? =some (.cells cs t (0,0))∧aP 6 hh (.pointer (some ⟨b1,0,none⟩))=some (.agg #[af a.who,s,af a.buf,af a.lo,af a.hi,.bool a.wr]))
  ⟨v2,aU (l:=[af a.who,s,af a.buf,af a.lo,af a.hi,.bool a.wr]) F 6 rfl⟩ ?_
 refine aC sl (λhh S=>by rw[am S.1,L.pl]) ?_;refine aC _ (λhh S=>S.2) ?_;refine(zbF (A1.ext e2) ha).mono ?_;rintro _ h3 ⟨ds,rfl,ab,e3⟩;have al:=I.trans e3;refine⟨⟨e3.row v2,aU (l:=[af a.who,s,af a.buf,af a.lo,af a.hi,.bool a.wr]) (e3.row F) 6 rfl⟩,?_⟩;have U:ds.length=6:=xq.len ab;refine dc (Rp.fill_whole rfl U) λb4 h4 r4 G n4=>?_
 have D:=al.trans G;refine⟨⟨G.row (e3.row v2),G.lds (aU (l:=[af a.who,s,af a.buf,af a.lo,af a.hi,.bool a.wr]) (e3.row F) 6 rfl)⟩,?_⟩;have S1:=Rp.SlC.single r4;rw[U]at S1;have dz:∀b,blk sl b→¬Z b:=by obtain⟨_,_,d,_⟩:=L.own;exact d
 have o4:Rp.Ow xq (λb=>Z b∨(h.size≤b∧b<h3.size)) h4 sl l:=(L.own.ext D).mono (λb _ A=>.inl A) λb A hz=>by
  rcases hz with hz|hz
  ·exact dz b A hz
  ·have:=L.own.lt A;omega
 refine Rp.app_ow (e:=xq) (l2:=[a]) o4 S1 (λi hi=>?_) rfl (by simp;omega) (by simp;omega) (λb A=>?_) λs' h5 o5 f5 n5=>?_
 ·have hi:i=0:=by simpa using hi
  subst hi;rw[show Rp.el xq.w ds 0=ds from Rp.el_self U];exact xq.mono (xq.ext ab G) λb _ A=>.inr ⟨aZ I.1 A.1,A.2⟩
 ·rcases A with A|A
  ·exact bX (L.zlt b A) D.1
  ·exact bX A.2 G.1
 have v5:h5[bx]? =some (.cells cs t (0,0)):=f5.row (D.row L.var) L.ap.1;have an:¬blk sl b1:=λA=>by have:=L.own.lt A;omega
 refine⟨⟨v5,aU (l:=[af a.who,s,af a.buf,af a.lo,af a.hi,.bool a.wr]) (f5.row ((e3.trans G).row F) an) 6 rfl⟩,?_⟩;refine bZ v5 ho o5.one λh6 r6 u6=>?_
 have ad:∀b,blk s' b→b≠bx:=λb A W=>by
  rcases n5 b A with H|H
  ·exact L.ap.1 (W▸H)
  ·have:=D.1;omega
 have aa:∀b,(Z b∨(h.size≤b∧b<h3.size))→b≠bx:=λb A W=>by
  rcases A with A|A
  ·exact L.ap.2 (W▸A)
  ·omega
 have o6:=o5.fr u6.fr (λb _ A=>aa b A) ad;refine⟨s',λb=>Z b∨(h.size≤b∧b<h3.size),⟨r6,by simp[ho],o6,⟨λA=>ad bx A rfl,λA=>aa bx A rfl⟩,λb A=>?_⟩,?_,λb A=>?_,λb A=>A.imp id And.left⟩
 ·have H:h4.size≤h6.size:=by rw[u6.1];exact f5.1
  rcases A with A|A
  ·have:=L.zlt b A;have:=D.1;omega
  ·have:=G.1;omega
 ·exact(D.fr.trans (f5.mono λb _ A=>.inr A)).trans (u6.fr.mono λb _ A=>.inl A)
 ·rcases n5 b A with H|H
  ·exact .inl H
  ·exact .inr (aZ D.1 H)
end
end
end Go.Proofs.YtjljhnandbbldaaGreatDoor
namespace Go.Proofs.YtjljhnandbbldaaGreatDoor
open Go Go.Crisp
attribute [local irreducible] ag di aW stK aF vK qK bK gK fo bA mkK dk Fm GM CJ bsK clK tW oA V0
section
def rIs:Rp (List Int) where
 w:=1
 R:=λZ h cs l=>∃v,cs=[v]∧Rp.Sl (Rp.int .i64) Z h v l
 len:=by rintro _ _ _ _ ⟨_,rfl,_⟩;rfl
 one:=by
  rintro _ _ _ _ ⟨_,rfl,H⟩;exact aq H.one aX
 fr:=by rintro _ _ _ _ _ _ ⟨v,rfl,H⟩ f q;exact⟨v,rfl,H.fr f q⟩
 mono:=by rintro _ _ _ _ _ ⟨v,rfl,H⟩ q;exact⟨v,rfl,H.mono q⟩
structure PV where
 vc:Value
 sl:Value
 wv:Value
 dv:Value
 sv:Value
 ev:Value
 lv:Value
structure ce where
 q:QD
 rows:Nat→List Int
 acc:List Acc
 ws:Nat→WD
 words:Nat→Int
 sent:Int
 stamps:List (List Int)
 fin:List Int
 left:List (List Int)
 ret:Bool
 picks:Int
def iH (C:C21)(V:PV)(P:ce):Array Value:=#[ptr C.bf,ptr C.bt,ptr C.bl,ptr C.bq,V.vc,V.sl,V.wv,V.dv,.int .i64 P.sent,V.sv,V.ev,V.lv,.bool P.ret,.int .i64 P.picks]
def tJ (o:Nat→Nat)(k:Nat)(h:ah)(v:Value)(l:List (List Int)):Prop:=∃Z:Nat→Prop,Rp.Ow rIs Z h v l∧(∀c,Z c→o c=k)∧∀c,blk v c→o c=k
structure aT (X:Nat→Prop)(C:C21)(Z:Nat→Prop)(K:Nat)(h0:ah)(bw:Nat→Nat)(bp:Nat)(o:Nat→Nat)(n:Pic)(V:PV)(P:ce)(h:ah):Prop where
 q:¬X 1→IsQ (λc=>o c=1) h C.bq P.q
 c:¬X 2→fI (λc=>o c=2) h V.vc (K+1) P.rows
 l:¬X 3→∃Zl:Nat→Prop,Rp.Ow xq Zl h V.sl P.acc∧(∀c,Zl c→o c=3)∧∀c,blk V.sl c→o c=3
 p:¬X 4→h[bp]? =some (.cells (iH C V P) 106 (0,0))
 w:¬X 5→Own 1 h V.dv K ((List.range K).map λi=>.int .i64 (P.words i))∧∀c,blk V.dv c→o c=5
 s:¬X 6→tJ o 6 h V.sv P.stamps
 f:¬X 7→tJ o 7 h V.lv P.left
 e:¬X 8→Rp.Sl (Rp.int .i64) (λc=>o c=8) h V.ev P.fin
 wk:¬X 9→SlC 1 h V.wv K ((List.range K).map λi=>ptr (bw i))∧∀c,blk V.wv c→o c=9
 ws:∀i,i<K→¬X (10+i)→IsW Z (λc=>o c=10+i) h (bw i) (some C.E) n (P.ws i)
 po:o bp=4
 set:Az Z h C.bf C.vf C.bt C.vt C.p C.q C.m n C.d.s
 pl:sS Z h C.bl C.d C.pp C.pq
 zl:Z C.bl∧C.pp=C.p∧C.pq=C.q
 sui:C.suits n
 ow:∀c,o c≠0→c<h.size∧h0.size≤c∧¬Z c∧AA (some C.E) c∧¬dQ (some C.E) c
 ext:Ext h0 h
 few:1≤K∧K≤256
section
variable {X:Nat→Prop}{C:C21}{Z:Nat→Prop}{K:Nat}{h0 h h':ah}{bw:Nat→Nat}{bp:Nat}{o:Nat→Nat}{n:Pic}{V:PV}{P:ce}
theorem tJ.fr {k:Nat}{v:Value}{l:List (List Int)}{M:Nat→Prop}(H:tJ o k h v l)(f:Fr M h h')(q:∀c,o c=k→¬M c):tJ o k h' v l:=by
 obtain⟨Z,F,A,D⟩:=H;exact⟨Z,F.fr f (λc _ hc=>q c (A c hc)) λc hc=>q c (D c hc),A,D⟩
theorem aT.chgO (H:aT X C Z K h0 bw bp o n V P h){A:Nat→Prop}(ha:¬A 0){n':Pic}(hb:∀c,dQ (some C.E) c→h0.size≤c)(f:Fr (λc=>A (o c)∨dQ (some C.E) c) h h')(W:jf h' (some C.E) n')(D:eE n n'):aT (λk=>X k∨A k) C Z K h0 bw bp o n' V P h':=by
 have no:∀c,o c≠0→¬dQ (some C.E) c:=λc hc=>(H.ow c hc).2.2.2.2
 have g:∀k,k≠0→¬A k→∀c,o c=k→¬(A (o c)∨dQ (some C.E) c):=λk h0 hk c hc h=>h.elim (by rw[hc];exact hk) (no c (by rw[hc];exact h0))
 have G:∀{k},¬(X k∨A k)→¬X k∧¬A k:=λh=>⟨λx=>h (.inl x),λx=>h (.inr x)⟩
 have oa:∀c,A (o c)→c<h.size∧h0.size≤c∧¬Z c∧AA (some C.E) c∧¬dQ (some C.E) c:=λc hc=>H.ow c λh=>ha (h▸hc)
 have L:∀c,Z c→¬(A (o c)∨dQ (some C.E) c):=λc hz hc=>hc.elim (λhc=>(oa c hc).2.2.1 hz) (H.set.zz c hz)
 obtain⟨p1,p2,p3⟩:=H.pl;obtain⟨I,wf⟩:=W C.E rfl;obtain⟨s1,s2,s3,s4,s5⟩:=H.sui.2;refine⟨λF=>(H.q (G F).1).fr f (g 1 ae (G F).2),λF=>(H.c (G F).1).fr f λc _=>g 2 ae (G F).2 c,λF=>?_,λF=>f.row (H.p (G F).1) (g 4 ae (G F).2 bp H.po),λF=>⟨(H.w (G F).1).1.fr f λc hc=>g 5 ae (G F).2 c ((H.w (G F).1).2 c hc),(H.w (G F).1).2⟩,λF=>(H.s (G F).1).fr f (g 6 ae (G F).2),λF=>(H.f (G F).1).fr f (g 7 ae (G F).2),λF=>(H.e (G F).1).fr f λc _=>g 8 ae (G F).2 c,
  λF=>⟨(H.wk (G F).1).1.fr f λc _ hc=>g 9 ae (G F).2 c ((H.wk (G F).1).2 c hc),(H.wk (G F).1).2⟩,λi hi F=>(H.ws i hi (G F).1).other f L (g (10+i) ae (G F).2) W D,H.po,H.set.chg f L I,⟨f.row p1 (L _ H.zl.1),p2.fr f λc _=>L c,p3.fr f λc _=>L c⟩,H.zl,⟨wf,s1,by rw[D.w];exact s2,by rw[D.h];exact s3,by rw[D.c];exact s4,by rw[D.m];exact s5⟩,λc hc=>⟨bX (H.ow c hc).1 f.1,(H.ow c hc).2⟩,H.ext.then_fr f λc hc=>hc.elim (λh=>(oa c h).2.1) (hb c),H.few⟩
 obtain⟨Zl,o1,z1,U⟩:=H.l (G F).1;exact⟨Zl,o1.fr f (λc _ hc=>g 3 ae (G F).2 c (z1 c hc)) λc hc=>g 3 ae (G F).2 c (U c hc),z1,U⟩
theorem aT.ex0 (H:aT X C Z K h0 bw bp o n V P h):jf h (some C.E) n:=λD A=>by cases A;exact⟨H.set.out,H.sui.1⟩
theorem aT.chgM (H:aT X C Z K h0 bw bp o n V P h){A M:Nat→Prop}(f:Fr M h h')(I:∀c,M c→(A (o c)∨o c=0)∧h0.size≤c∧¬Z c∧AA (some C.E) c∧¬dQ (some C.E) c):aT (λk=>X k∨A k) C Z K h0 bw bp o n V P h':=by
 have U:jf h' (some C.E) n:=H.ex0.fr f λc hc _=>(I c hc).2.2.2
 have G:∀c,Z c→¬M c:=λc hz hc=>(I c hc).2.2.1 hz
 have g:∀k,k≠0→¬A k→∀c,o c=k→¬M c:=λk k0 hk c hc hm=>(I c hm).1.elim (by rw[hc];exact hk) λh=>k0 (by rw[←hc,h])
 have F:∀{k},¬(X k∨A k)→¬X k∧¬A k:=λh=>⟨λx=>h (.inl x),λx=>h (.inr x)⟩
 obtain⟨p1,p2,p3⟩:=H.pl;refine⟨λD=>(H.q (F D).1).fr f (g 1 ae (F D).2),λD=>(H.c (F D).1).fr f λc _=>g 2 ae (F D).2 c,λD=>?_,λD=>f.row (H.p (F D).1) (g 4 ae (F D).2 bp H.po),λD=>⟨(H.w (F D).1).1.fr f λc hc=>g 5 ae (F D).2 c ((H.w (F D).1).2 c hc),(H.w (F D).1).2⟩,λD=>(H.s (F D).1).fr f (g 6 ae (F D).2),λD=>(H.f (F D).1).fr f (g 7 ae (F D).2),λD=>(H.e (F D).1).fr f λc _=>g 8 ae (F D).2 c,
  λD=>⟨(H.wk (F D).1).1.fr f λc _ hc=>g 9 ae (F D).2 c ((H.wk (F D).1).2 c hc),(H.wk (F D).1).2⟩,λi hi D=>(H.ws i hi (F D).1).other f G (g (10+i) ae (F D).2) U (eE.refl n),H.po,H.set.chg f G (U C.E rfl).1,⟨f.row p1 (G _ H.zl.1),p2.fr f λc _=>G c,p3.fr f λc _=>G c⟩,H.zl,H.sui,λc hc=>⟨bX (H.ow c hc).1 f.1,(H.ow c hc).2⟩,H.ext.then_fr f λc hc=>(I c hc).2.1,H.few⟩
 obtain⟨Zl,o1,W,L⟩:=H.l (F D).1;exact⟨Zl,o1.fr f (λc _ hc=>g 3 ae (F D).2 c (W c hc)) λc hc=>g 3 ae (F D).2 c (L c hc),W,L⟩
theorem aT.chg (H:aT X C Z K h0 bw bp o n V P h){A:Nat→Prop}(D:¬A 0)(f:Fr (λc=>A (o c)) h h'):aT (λk=>X k∨A k) C Z K h0 bw bp o n V P h':=
 H.chgM f λc hc=>⟨.inl hc,(H.ow c λh=>D (h▸hc)).2⟩
theorem aT.less {Y:Nat→Prop}(H:aT X C Z K h0 bw bp o n V P h)(k:∀i,X i→Y i):aT Y C Z K h0 bw bp o n V P h:=
 ⟨λA=>H.q (A∘k _),λA=>H.c (A∘k _),λA=>H.l (A∘k _),λA=>H.p (A∘k _),λA=>H.w (A∘k _),λA=>H.s (A∘k _),λA=>H.f (A∘k _),λA=>H.e (A∘k _),λA=>H.wk (A∘k _),λi hi A=>H.ws i hi (A∘k _),H.po,H.set,H.pl,H.zl,H.sui,H.ow,H.ext,H.few⟩
theorem aT.loc (H:aT X C Z K h0 bw bp o n V P h){b:Nat}(u:Upd b h h')(D:o b=0∧h0.size≤b∧¬Z b∧AA (some C.E) b∧¬dQ (some C.E) b):aT X C Z K h0 bw bp o n V P h':=
 (H.chgM (A:=λ_=>False) u.fr λc hc=>by rw[show c=b from hc];exact⟨.inr D.1,D.2⟩).less λk F=>F.elim id False.elim
theorem aT.ex (H:aT X C Z K h0 bw bp o n V P h)(e:Ext h h'):aT X C Z K h0 bw bp o n V P h':=by
 obtain⟨F,W,D⟩:=H.pl;have I2:jf h' (some C.E) n:=λE' L=>by cases L;exact⟨H.set.out.ext e,H.sui.1⟩
 refine⟨λA=>(H.q A).ext e,λA=>(H.c A).ext e,λA=>?_,λA=>e.row (H.p A),λA=>⟨(H.w A).1.fr (M:=λ_=>False) e.fr λ_ _=>id,(H.w A).2⟩,λA=>(H.s A).fr (M:=λ_=>False) e.fr λ_ _=>id,λA=>(H.f A).fr (M:=λ_=>False) e.fr λ_ _=>id,λA=>(H.e A).ext e,λA=>⟨(H.wk A).1.ext e,(H.wk A).2⟩,λi hi A=>(H.ws i hi A).ext e,H.po,H.set.ext e,⟨e.row F,W.ext e,D.ext e⟩,H.zl,H.sui,λc hc=>⟨bX (H.ow c hc).1 e.1,(H.ow c hc).2⟩,H.ext.trans e,H.few⟩;obtain⟨U,G,z1,I⟩:=H.l A;exact⟨U,G.ext e,z1,I⟩
def grow (o:Nat→Nat)(b lo hi:Nat):Nat→Nat:=λc=>if lo≤c∧c<hi then b else o c
theorem iI {b lo hi c:Nat}(h:c<lo):grow o b lo hi c=o c:=az ae
theorem aT.relab (H:aT X C Z K h0 bw bp o n V P h){B:Nat→Prop}{o':Nat→Nat}{lo:Nat}(e:∀c,c<lo→o' c=o c)(hl:∀c,lo≤c→o c=0)(hb:∀c,lo≤c→o' c≠0→B (o' c)∧c<h.size)(h1:h0.size≤lo)(h2:∀c,lo≤c→¬Z c∧AA (some C.E) c∧¬dQ (some C.E) c):aT (λk=>X k∨B k) C Z K h0 bw bp o' n V P h:=by
 have D:∀{k},¬(X k∨B k)→¬X k∧¬B k:=λh=>⟨λx=>h (.inl x),λx=>h (.inr x)⟩
 have g:∀k,¬B k→k≠0→∀c,o' c=k↔o c=k:=λk F h0 c=>by
  rcases oE c lo with h|h
  ·rw[e c h]
  ·rw[hl c h];exact⟨λU=>absurd (by rw[←U];exact(hb c h ae).1) F,λU=>absurd U.symm h0⟩
 have G:∀k,¬B k→k≠0→(λc=>o' c=k)=λc=>o c=k:=λk F h0=>funext λc=>propext (g k F h0 c)
 have gr:∀{k v l},¬B k→k≠0→tJ o k h v l→tJ o' k h v l:=λF h0 ⟨Z1,I,W,L⟩=>⟨Z1,I,λc hc=>(g _ F h0 c).2 (W c hc),λc hc=>(g _ F h0 c).2 (L c hc)⟩
 have lb:bp<lo:=Nat.lt_of_not_le λh=>by have:=hl bp h;have:=H.po;omega
 refine⟨λA=>by rw[G 1 (D A).2 ae];exact H.q (D A).1,λA=>by rw[G 2 (D A).2 ae];exact H.c (D A).1,λA=>?_,λA=>H.p (D A).1,λA=>⟨(H.w (D A).1).1,λc hc=>(g 5 (D A).2 ae c).2 ((H.w (D A).1).2 c hc)⟩,λA=>gr (D A).2 ae (H.s (D A).1),λA=>gr (D A).2 ae (H.f (D A).1),λA=>by rw[G 8 (D A).2 ae];exact H.e (D A).1,λA=>⟨(H.wk (D A).1).1,λc hc=>(g 9 (D A).2 ae c).2 ((H.wk (D A).1).2 c hc)⟩,
  λi hi A=>by rw[G (10+i) (D A).2 ae];exact H.ws i hi (D A).1,by rw[e bp lb];exact H.po,H.set,H.pl,H.zl,H.sui,λc hc=>?_,H.ext,H.few⟩
 ·obtain⟨Zl,I,W,L⟩:=H.l (D A).1;exact⟨Zl,I,λc hc=>(g 3 (D A).2 ae c).2 (W c hc),λc hc=>(g 3 (D A).2 ae c).2 (L c hc)⟩
 ·rcases oE c lo with h|h
  ·rw[e c h]at hc;exact H.ow c hc
  ·exact⟨(hb c h hc).2,ae,h2 c h⟩
theorem aT.own (H:aT X C Z K h0 bw bp o n V P h){b lo:Nat}(D:∀c,lo≤c→o c=0)(h1:h0.size≤lo)(F:∀c,lo≤c→¬Z c∧AA (some C.E) c∧¬dQ (some C.E) c):aT (λk=>X k∨k=b) C Z K h0 bw bp (grow o b lo h.size) n V P h:=
 H.relab (λc hc=>iI hc) D (λc hc h=>by
  unfold grow at h ⊢;split at h
  ·rename_i A;rw[aA A];exact⟨rfl,A.2⟩
  ·exact absurd (D c hc) h) h1 F
theorem aT.fresh (H:aT X C Z K h0 bw bp o n V P h){c:Nat}(hc:h.size≤c):o c=0∧¬Z c∧AA (some C.E) c∧¬dQ (some C.E) c:=by
 have D:jf h (some C.E) n:=λG A=>by cases A;exact⟨H.set.out,H.sui.1⟩
 refine⟨Rg λh=>?_,λF=>?_,D.new hc⟩
 ·have:=(H.ow c h).1;omega
 ·have:=H.set.zl c F;omega
theorem aT.take (H:aT X C Z K h0 bw bp o n V P h){D:PV}{P1:ce}{A:Pic}{F:Nat→Prop}(G:aT F C Z K h0 bw bp o A D P1 h'){b:Nat}:aT (λk=>F k∨k=b) C Z K h0 bw bp (grow o b h.size h'.size) A D P1 h':=
 G.own (λc hc=>(H.fresh hc).1) H.ext.1 λc hc=>(H.fresh hc).2
theorem aT.fq (H:aT (λk=>X k∨k=1) C Z K h0 bw bp o n V P h){q:QD}(hq:IsQ (λc=>o c=1) h C.bq q):aT X C Z K h0 bw bp o n V {P with q:=q} h:=
 have D:∀{k},¬X k→k≠1→¬(X k∨k=1):=λa b h=>h.elim a b
 ⟨λ_=>hq,λA=>H.c (D A ae),λA=>H.l (D A ae),λA=>H.p (D A ae),λA=>H.w (D A ae),λA=>H.s (D A ae),λA=>H.f (D A ae),λA=>H.e (D A ae),λA=>H.wk (D A ae),λi hi A=>H.ws i hi (D A ae),H.po,H.set,H.pl,H.zl,H.sui,H.ow,H.ext,H.few⟩
theorem aT.fc (H:aT (λk=>X k∨k=2) C Z K h0 bw bp o n V P h){r:Nat→List Int}(hc:fI (λc=>o c=2) h V.vc (K+1) r):aT X C Z K h0 bw bp o n V {P with rows:=r} h:=
 have D:∀{k},¬X k→k≠2→¬(X k∨k=2):=λa b h=>h.elim a b
 ⟨λA=>H.q (D A ae),λ_=>hc,λA=>H.l (D A ae),λA=>H.p (D A ae),λA=>H.w (D A ae),λA=>H.s (D A ae),λA=>H.f (D A ae),λA=>H.e (D A ae),λA=>H.wk (D A ae),λi hi A=>H.ws i hi (D A ae),H.po,H.set,H.pl,H.zl,H.sui,H.ow,H.ext,H.few⟩
theorem aT.fl (H:aT (λk=>X k∨k=3) C Z K h0 bw bp o n V P h)(G:X 4){sl:Value}{acc:List Acc}(I:∃F:Nat→Prop,Rp.Ow xq F h sl acc∧(∀c,F c→o c=3)∧∀c,blk sl c→o c=3):aT X C Z K h0 bw bp o n {V with sl:=sl} {P with acc:=acc} h:=
 have D:∀{k},¬X k→k≠3→¬(X k∨k=3):=λa b h=>h.elim a b
 ⟨λA=>H.q (D A ae),λA=>H.c (D A ae),λA=>I,λA=>absurd G A,λA=>H.w (D A ae),λA=>H.s (D A ae),λA=>H.f (D A ae),λA=>H.e (D A ae),λA=>H.wk (D A ae),λi hi A=>H.ws i hi (D A ae),H.po,H.set,H.pl,H.zl,H.sui,H.ow,H.ext,H.few⟩
theorem aT.fp (H:aT (λk=>X k∨k=4) C Z K h0 bw bp o n V P h){st:Int}{rt:Bool}{pk:Int}(F:h[bp]? =some (.cells (iH C V {P with sent:=st,ret:=rt,picks:=pk}) 106 (0,0))):aT X C Z K h0 bw bp o n V {P with sent:=st,ret:=rt,picks:=pk} h:=
 have D:∀{k},¬X k→k≠4→¬(X k∨k=4):=λa b h=>h.elim a b
 ⟨λA=>H.q (D A ae),λA=>H.c (D A ae),λA=>H.l (D A ae),λ_=>F,λA=>H.w (D A ae),λA=>H.s (D A ae),λA=>H.f (D A ae),λA=>H.e (D A ae),λA=>H.wk (D A ae),λi hi A=>H.ws i hi (D A ae),H.po,H.set,H.pl,H.zl,H.sui,H.ow,H.ext,H.few⟩
theorem aT.fs (H:aT (λk=>X k∨k=6) C Z K h0 bw bp o n V P h)(G:X 4){sv:Value}{l:List (List Int)}(F:tJ o 6 h sv l):aT X C Z K h0 bw bp o n {V with sv:=sv} {P with stamps:=l} h:=
 have D:∀{k},¬X k→k≠6→¬(X k∨k=6):=λa b h=>h.elim a b
 ⟨λA=>H.q (D A ae),λA=>H.c (D A ae),λA=>H.l (D A ae),λA=>absurd G A,λA=>H.w (D A ae),λ_=>F,λA=>H.f (D A ae),λA=>H.e (D A ae),λA=>H.wk (D A ae),λi hi A=>H.ws i hi (D A ae),H.po,H.set,H.pl,H.zl,H.sui,H.ow,H.ext,H.few⟩
theorem aT.ff (H:aT (λk=>X k∨k=7) C Z K h0 bw bp o n V P h)(G:X 4){lv:Value}{l:List (List Int)}(F:tJ o 7 h lv l):aT X C Z K h0 bw bp o n {V with lv:=lv} {P with left:=l} h:=
 have D:∀{k},¬X k→k≠7→¬(X k∨k=7):=λa b h=>h.elim a b
 ⟨λA=>H.q (D A ae),λA=>H.c (D A ae),λA=>H.l (D A ae),λA=>absurd G A,λA=>H.w (D A ae),λA=>H.s (D A ae),λ_=>F,λA=>H.e (D A ae),λA=>H.wk (D A ae),λi hi A=>H.ws i hi (D A ae),H.po,H.set,H.pl,H.zl,H.sui,H.ow,H.ext,H.few⟩
theorem aT.fe (H:aT (λk=>X k∨k=8) C Z K h0 bw bp o n V P h)(G:X 4){ev:Value}{l:List Int}(F:Rp.Sl (Rp.int .i64) (λc=>o c=8) h ev l):aT X C Z K h0 bw bp o n {V with ev:=ev} {P with fin:=l} h:=
 have D:∀{k},¬X k→k≠8→¬(X k∨k=8):=λa b h=>h.elim a b
 ⟨λA=>H.q (D A ae),λA=>H.c (D A ae),λA=>H.l (D A ae),λA=>absurd G A,λA=>H.w (D A ae),λA=>H.s (D A ae),λA=>H.f (D A ae),λ_=>F,λA=>H.wk (D A ae),λi hi A=>H.ws i hi (D A ae),H.po,H.set,H.pl,H.zl,H.sui,H.ow,H.ext,H.few⟩
end
end
end Go.Proofs.YtjljhnandbbldaaGreatDoor
namespace Go.Crisp
open Go
section
structure Cp {α:Type}(e:Rp α)(Z:Nat→Prop)(h0:ah)(r:Option (Value×List α))(o:Option (Value×α))(g:ah):Prop where
 ext:Ext h0 g
 zl:∀b,Z b→b<h0.size
 row:∀p,r=some p→Rp.Ow e Z g p.1 p.2∧∀b,blk p.1 b→h0.size≤b
 el:∀p,o=some p→(∃cs,SlC e.w g p.1 1 cs∧e.R Z g (Rp.el e.w cs 0) p.2)∧∀b,blk p.1 b→h0.size≤b∧b<g.size
 apart:∀p q,r=some p→o=some q→∀b,blk p.1 b→¬blk q.1 b
section
variable {α:Type}{e:Rp α}{Z:Nat→Prop}{h0 g:ah}{r:Option (Value×List α)}{o:Option (Value×α)}{K:Value→ah→Prop}
theorem Cp.start (h:ah)(zl:∀b,Z b→b<h.size):Cp e Z h none none h:=⟨Ext.refl _,zl,by simp,by simp,by simp⟩
theorem Cp.row0 {t:TypeId}(C:Cp e Z h0 none o g)(H:∀v I,Cp e Z h0 (some (v,[])) o I→K v I):di #[] t 0 [] g K:=by
 refine dc (c':=#[]) rfl λb I r1 G U=>H _ _ ⟨C.ext.trans G,C.zl,λp A=>?_,λp A=>?_,λp q A hq F D L=>?_⟩
 ·cases A;refine⟨⟨[],.inr ⟨b,0,[],t,rfl,cq _,by simp,by simp,r1⟩,λc hc W=>?_,λi hi=>absurd hi (by simp)⟩,λc hc=>?_⟩
  ·have h1:=C.zl c W;have:=C.ext.1;rw[show c=b from hc]at h1;omega
  ·rw[show c=b from hc];exact aZ C.ext.1 U
 ·obtain⟨⟨cs,a,F⟩,c⟩:=C.el p A;exact⟨⟨cs,a.fr G.fr λ_ _ _=>id,e.ext F G⟩,λb D=>⟨(c b D).1,bX (c b D).2 G.1⟩⟩
 ·cases A;have:=((C.el q hq).2 F L).2;rw[show F=b from D]at this;omega
theorem Cp.row1 {t:TypeId}{c:Array Value}{cs:List Value}{x:α}(C:Cp e Z h0 r none g)(D:e.R Z h0 cs x)(hc:c.size=e.w)(H:∀v F,Cp e Z h0 r (some (v,x)) F→K v F):di c t 1 [(0,e.w,.agg cs.toArray)] g K:=by
 refine dc (Rp.fill_whole hc (e.len D)) λb F r1 I U=>H _ _ ⟨C.ext.trans I,C.zl,λp A=>⟨(C.row p A).1.ext I,(C.row p A).2⟩,λp A=>?_,λp q A hq b' W G=>?_⟩
 ·cases A;have L:=Rp.SlC.single r1;rw[e.len D]at L;refine⟨⟨cs,L,?_⟩,λk hk=>?_⟩
  ·rw[Rp.el_self (e.len D)];exact e.ext D (C.ext.trans I)
  ·rw[show k=b from hk];exact⟨aZ C.ext.1 U,bC r1⟩
 ·cases hq;have:=(C.row p A).1.lt W;rw[show b'=b from G]at this;omega
theorem Cp.app {t:TypeId}{z v u:Value}{l l2:List α}{bytes:Nat}(C:Cp e Z h0 (some (v,l)) o g)(hu:Rp.Sl e Z h0 u l2)(W:z.cells.size=e.w)(A:(l.length+l2.length)*bytes≤140737488355328)(hn:l.length+l2.length≤9223372036854775807)
  (H:∀I G,Cp e Z h0 (some (I,l++l2)) o G→K I G):dk z t e.w bytes v u g K:=by
 obtain⟨o1,n1⟩:=C.row _ rfl;obtain⟨ds,hs,_,he⟩:=hu.ext C.ext;refine Rp.app_ow (l2:=l2) o1 hs he W A hn (λb A=>bX (C.zl b A) C.ext.1) λI G o' L n'=>H I G ⟨C.ext.then_fr L n1,C.zl,λp D=>?_,λp D=>?_,λp q D hq b A F=>?_⟩
 ·cases D;refine⟨o',λb A=>?_⟩;rcases n' b A with h|h
  ·exact n1 b h
  ·exact aZ C.ext.1 h
 ·obtain⟨⟨cs,a,b'⟩,c⟩:=C.el p D;obtain⟨aa,_,U,_⟩:=o1;refine⟨⟨cs,a.fr L λb _ A hv=>C.apart _ _ rfl D b hv A,e.fr b' L λb _ W A=>U b A W⟩,λb A=>⟨(c b A).1,bX (c b A).2 L.1⟩⟩
 ·cases D;rcases n' b A with h|h
  ·exact C.apart _ _ rfl hq b h F
  ·have:=((C.el q hq).2 b F).2;omega
theorem Cp.app1 {t:TypeId}{z v u:Value}{l:List α}{x:α}{bytes:Nat}(C:Cp e Z h0 (some (v,l)) (some (u,x)) g)(hz:z.cells.size=e.w)(A:(l.length+1)*bytes≤140737488355328)(L:l.length+1≤9223372036854775807)
  (H:∀F D,Rp.Ow e Z D F (l++[x])→Ext h0 D→(∀b,blk F b→h0.size≤b)→K F D):dk z t e.w bytes v u g K:=by
 obtain⟨I,G⟩:=C.row _ rfl;obtain⟨⟨cs,a,W⟩,c⟩:=C.el _ rfl;refine Rp.app_ow (l2:=[x]) I a (λi hi=>?_) hz A L (λb A=>bX (C.zl b A) C.ext.1) λF D o' U n'=>H F D o' (C.ext.then_fr U G) λb A=>?_
 ·have h0:i=0:=by simpa using hi
  subst h0;exact W
 rcases n' b A with h|h
 ·exact G b h
 ·exact aZ C.ext.1 h
end
end
end Go.Crisp
namespace Go.Proofs.YtjljhnandbbldaaGreatDoor
open Go Go.Crisp
attribute [local irreducible] ag di aW stK aF vK qK bK gK fo bA mkK dk Fm GM CJ bsK clK tW oA V0
open _root_.Go.Proofs.Tryz
section
theorem Ft {h:ah}{b:Nat}{v:Value}{m:Pic}(H:dd h b v m)(A:jA m.w m.h m.c):ag prog sA #[ptr b] h λr h'=>r=af (m.w*m.h*m.c)∧h'=h:=by
 apply QV;unfold Gb;have D:=du A;refine ag.at (ur H) (ag.at (sh H) ?_);simp only[go_sem];rw[w64 (n:=m.w*m.h) ae ae];refine ag.at (eU H) ?_;simp only[go_sem];rw[w64 (n:=m.w*m.h*m.c) ae ae];exact⟨rfl,trivial⟩
def fm (C:C21)(Z:Nat→Prop)(K:Nat)(h0:ah)(bw:Nat→Nat)(bp:Nat)(o:Nat→Nat)(n:Pic)(P:ce)(h:ah):Prop:=∃V,aT (λ_=>False) C Z K h0 bw bp o n V P h
def PTo (C:C21)(Z:Nat→Prop)(K:Nat)(h0:ah)(bw:Nat→Nat)(bp:Nat)(o:Nat→Nat)(h:ah)(n':Pic)(P':ce)(h':ah):Prop:=∃o',fm C Z K h0 bw bp o' n' P' h'∧(∀c,c<h.size→o' c=o c)∧Fr (λc=>o c≠0∨dQ (some C.E) c) h h'
def tH (P:ce)(who:Nat)(buf lo cnt:Int)(wr:Bool):ce:={P with acc:=P.acc++[⟨who,P.rows who,buf,lo,lo+cnt,wr⟩]}
section
variable {C:C21}{Z:Nat→Prop}{K:Nat}{h0 h:ah}{bw:Nat→Nat}{bp:Nat}{o:Nat→Nat}{n:Pic}{P:ce}
theorem fm.row (H:fm C Z K h0 bw bp o n P h):∃V,aT (λ_=>False) C Z K h0 bw bp o n V P h∧h[bp]? =some (.cells (iH C V P) 106 (0,0)):=by
 obtain⟨V,H⟩:=H;exact⟨V,H,H.p id⟩
theorem PTo.refl (H:fm C Z K h0 bw bp o n P h):PTo C Z K h0 bw bp o h n P h:=⟨o,H,λ_ _=>rfl,Fr.refl _ _⟩
theorem fm.ext {h':ah}(H:fm C Z K h0 bw bp o n P h)(e:Ext h h'):fm C Z K h0 bw bp o n P h':=by
 obtain⟨V,H⟩:=H;exact⟨V,H.ex e⟩
theorem PTo.trans {A:Nat→Nat}{h1 D:ah}{H G:Pic}{P1 F:ce}(a:fm C Z K h0 bw bp A H P1 h1∧(∀c,c<h.size→A c=o c)∧Fr (λc=>o c≠0∨dQ (some C.E) c) h h1)(b:PTo C Z K h0 bw bp A h1 G F D):PTo C Z K h0 bw bp o h G F D:=by
 obtain⟨L,a1,f1⟩:=a;obtain⟨o2,I,a2,f2⟩:=b;have s:=f1.1;exact⟨o2,I,λc hc=>(a2 c ae).trans (a1 c hc),f1.after f2 λc hc h=>h.imp (λh=>by rwa [a1 c hc]at h) id⟩
theorem TK {r:Value}(A:aR r=true)(a b c d:Int)(w:Bool):aM #[ai,(.slice none 0 0),ai,ai,ai,(.bool false)] [(0,1,af a),(1,1,r),(2,1,af b),(3,1,af c),(4,1,af d),(5,1,.bool w)]=some #[af a,r,af b,af c,af d,.bool w]:=by
 refine(bS (n:=1) (l:=[af a]) rfl rfl (by simp)).trans ?_;refine(bS (n:=1) (l:=[r]) (cB A) rfl (by simp[cF])).trans ?_;refine(bS (n:=1) (l:=[af b]) rfl rfl (by simp[cF])).trans ?_;refine(bS (n:=1) (l:=[af c]) rfl rfl (by simp[cF])).trans ?_;refine(bS (n:=1) (l:=[af d]) rfl rfl (by simp[cF])).trans ?_;refine(bS (n:=1) (l:=[.bool w]) rfl rfl (by simp[cF])).trans ?_;rw[gC];simp[wrL]
theorem Fu (H:fm C Z K h0 bw bp o n P h){who:Nat}(hw:who≤K){buf lo cnt:Int}{wr:Bool}(hl:P.acc.length≤1000000)(hb:0≤buf)(h1:0≤lo)(h2:1≤cnt)(h3:lo+cnt≤1000000000000):
  ag prog dO #[ptr bp,af (who:Int),af buf,af lo,af cnt,.bool wr] h λr h'=>r=.tuple #[]∧PTo C Z K h0 bw bp o h n (tH P who buf lo cnt wr) h':=by
 obtain⟨V,H,row⟩:=H.row;apply GF;unfold wG;have c4:aG h ⟨bp,4,none⟩=some V.vc:=am row;refine aQ (λk=>k=h) rfl ?_;simp only[go_sem,aK];refine aC V.vc (λk e=>by rw[e];exact c4) ?_;rw[w64 (n:=lo+cnt) ae ae];refine(zca (H.c id) who).mono λr g1 ⟨I,G,n1⟩=>?_
 have D:Ku (K+1) P.rows (who:Int)=P.rows who:=by
  unfold Ku;rw[aA ae,eo]
 rw[D]at I;have ab:(P.rows who).length=K+1:=by
  obtain⟨bc,sl,sv,t,_,CA⟩:=H.c id;exact CA.len who ae
 have hK:=H.few;rw[Lb _ #[af (who:Int),r,af buf,af lo,af (lo+cnt),.bool wr] (TK (CL I) _ _ _ _ _)];have H1:=H.ex G;obtain⟨Zl,ol,z1,U⟩:=H1.l id;have aa:=H.po;have L:zar Zl g1 bp 5 (iH C V P) 106 V.sl P.acc:=⟨G.row row,rfl,ol,⟨λh=>by have:=U _ h;omega,λh=>by have:=z1 _ h;omega⟩,λc hc=>(H1.ow c (by rw[z1 c hc];omega)).1⟩
 refine(zc8 (a:=⟨who,P.rows who,buf,lo,lo+cnt,wr⟩) L ⟨r,rfl,I.ints⟩ (by show(P.rows who).length≤_;omega) hl (by simp[UZ];omega)).mono λ_ g2 ⟨s',Z',F,f2,n2,nz⟩=>?_
 have A0:Fr (λc=>(λk=>k=3∨k=4) (o c)) g1 g2:=f2.mono λc _ hc=>hc.elim (λh=>.inr (by rw[h];exact aa)) λh=>.inl (U c h)
 have H2:=H.take ((H1.chg (A:=λk=>k=3∨k=4) ae A0)) (b:=3);have s1:=G.1;have s2:=f2.1;have g3:∀c,blk s' c∨Z' c→grow o 3 h.size g2.size c=3:=λc hc=>by
  have lt:c<g2.size:=hc.elim (λh=>F.own.lt h) λh=>F.zlt c h
  unfold grow;split
  ·rfl
  ·rcases hc with h9|h9
   ·exact(n2 c h9).elim (U c) λh=>ae
   ·exact(nz c h9).elim (z1 c) λh=>ae
 have H3:=(H2.less (Y:=λk=>k=4∨k=3) λk W=>by rcases W with (h|h|h)|h<;>first|exact h.elim|exact .inr h|exact .inl h).fl (X:=λk=>k=4) rfl ⟨Z',F.own,λc hc=>g3 c (.inr hc),λc hc=>g3 c (.inl hc)⟩;have H4:=(H3.less (Y:=λk=>False∨k=4) λk W=>.inr W).fp (X:=λ_=>False) (st:=P.sent) (rt:=P.ret) (pk:=P.picks) F.var;exact⟨trivial,_,⟨_,H4⟩,λc hc=>iI hc,(G.fr (M:=λc=>o c≠0∨dQ (some C.E) c)).after A0 λc _ hc=>.inl (by rcases hc with h|h<;>omega)⟩
end
end
section
def jp (C:C21)(K:Nat)(P:ce)(i:Int):Bool:=
 if i<0∨(K:Int)<i then false
 else if 0<i then decide ((P.ws (i-1).toNat).state=1∨((P.ws (i-1).toNat).state=0∧dX P.q≠1))
 else if P.ret=true then false
 else if P.sent<ck C.d then decide (vl P.q≠1)
 else !P.q.closed||decide (P.left.length=K)
section
variable {C:C21}{Z:Nat→Prop}{K:Nat}{h0 h:ah}{bw:Nat→Nat}{bp:Nat}{o:Nat→Nat}{n:Pic}{P:ce}
theorem SlC.len {w:Nat}{h:ah}{v:Value}{n:Nat}{cs:List Value}(H:SlC w h v n cs):aD v=some (af (n:Int)):=by
 obtain⟨a,c,e⟩:=H.isSl;rw[e];rfl
theorem tJ.len {k:Nat}{v:Value}{l:List (List Int)}(H:tJ o k h v l):aD v=some (af (l.length:Int)):=by
 obtain⟨Z,A,_⟩:=H;obtain⟨a,c,e⟩:=A.isSl;rw[e];rfl
theorem aT.wat {X:Nat→Prop}{V:PV}(H:aT X C Z K h0 bw bp o n V P h)(A:¬X 9){i:Nat}(hi:i<K):∃p,bh 1 V.wv (af (i:Int))=some p∧ldV h p=some (ptr (bw i)):=by
 obtain⟨p,a1,a2⟩:=(H.wk A).1.at1 (k:=.i64) hi;refine⟨p,a1,?_⟩;rw[a2];simp[hi]
theorem zcW (H:fm C Z K h0 bw bp o n P h):ag prog qO #[ptr bp] h λr h'=>r=.bool (decide (P.left.length=K))∧h'=h:=by
 obtain⟨V,H,row⟩:=H.row;apply GH;unfold wI;have F:aG h ⟨bp,6,none⟩=some V.wv:=am row;have A:aG h ⟨bp,11,none⟩=some V.lv:=am row;have G:=SlC.len (H.wk id).1;have D:=(H.f id).len;simp only[go_sem,aK,F,A,G,D];exact⟨by congr 1;simp;omega,trivial⟩
theorem ZN (O:C.Ok)(H:fm C Z K h0 bw bp o n P h){i:Int}(hi:I64 i):ag prog lK #[ptr bp,af i] h λr h'=>r=.bool (jp C K P i)∧h'=h:=by
 have HP:=H;obtain⟨V,H,row⟩:=H.row;apply GD;unfold wE;have D:aG h ⟨bp,6,none⟩=some V.wv:=am row;have U:aG h ⟨bp,3,none⟩=some (ptr C.bq):=am row;have L:aG h ⟨bp,12,none⟩=some (.bool P.ret):=am row;have c8:aG h ⟨bp,8,none⟩=some (af P.sent):=am row;have c2:aG h ⟨bp,2,none⟩=some (ptr C.bl):=am row;have W:=SlC.len (H.wk id).1;have hq:=H.q id;unfold jp;unfold I64 at hi;by_cases h1:i<0
 ·simp only[go_sem,h1];exact⟨by simp,trivial⟩
 by_cases I:(K:Int)<i
 ·simp only[go_sem,aK,h1,D,W,I];exact⟨by simp,trivial⟩
 rw[az ae];by_cases G:0<i
 ·rw[aA G];simp only[go_sem,aK,h1,D,W,I,G];refine aQ (λk=>k=h) rfl ?_;refine aC V.wv (λk e=>by rw[e];exact D) ?_;rw[w64 (n:=i-1) ae ae];obtain⟨m,hm⟩:∃m:Nat,i-1=(m:Int):=⟨(i-1).toNat,ae⟩
  have A:m<K:=ae;obtain⟨p,a1,a2⟩:=H.wat id A;rw[hm,a1,ak];refine aC (ptr (bw m)) (λk e=>by rw[e];exact a2) ?_
  try simp only[go_sem,aK]
  refine aC (ptr C.bq) (λk e=>by rw[e];exact U) ?_;refine(Fv (H.ws m A id) hq).mono λr h' ⟨er,eh⟩=>?_
  subst eh;exact⟨by rw[er,eo],rfl⟩
 ·rw [az G];simp only[go_sem,aK,h1,D,W,I,G,L];by_cases F:P.ret=true
  ·rw[aA F,F];simp only[go_sem];exact⟨trivial,trivial⟩
  ·rw[az F];have h5:P.ret=false:=by simpa using F
   rw[h5];simp only[go_sem,aK];refine aQ (λk=>k=h) rfl ?_;refine aC (af P.sent) (λk e=>by rw[e];exact c8) ?_
   try simp only[go_sem,aK]
   refine aC (ptr C.bl) (λk e=>by rw[e];exact c2) ?_;refine ag.at (Dc H.pl O.d) ⟨rfl,?_⟩;rw[cD,ak];refine ao (λg=>?_) (λg=>?_)
   ·rw[aA g];simp only[go_sem,aK,U];exact P9 hq
   ·rw[az g];simp only[go_sem,aK,U];refine ag.at (P3 hq) ?_;cases hc:P.q.closed with
    |true=>
     simp only[go_sem];refine ag.at (zcW HP) ?_;simp only[go_sem];exact⟨by simp,trivial⟩
    |false=>
     simp only[go_sem];exact⟨by simp,trivial⟩
end
end
section
def Ev (C:C21)(K:Nat)(P:ce)(k:Nat):List Int:=((List.range k).map λi:Nat=>(i:Int)).filter λi=>jp C K P i
theorem Xt (C:C21)(K:Nat)(P:ce)(k:Nat):Ev C K P (k+1)=Ev C K P k++if jp C K P (k:Int)=true then[(k:Int)]else[]:=by
 unfold Ev;rw[qp,jT,List.filter_append]
 congr 1
 simp[List.filter_cons]
theorem LG (C:C21)(K:Nat)(P:ce)(k:Nat):(Ev C K P k).length≤k:=by
 unfold Ev;exact aZ (List.length_filter_le _ _) (by simp)
section
variable {C:C21}{Z:Nat→Prop}{K:Nat}{h0 h:ah}{bw:Nat→Nat}{bp:Nat}{o:Nat→Nat}{n:Pic}{P:ce}
theorem NE (H:fm C Z K h0 bw bp o n P h):ag prog ie #[ptr bp] h λr h'=>r=af ((K+1:Nat):Int)∧h'=h:=by
 obtain⟨V,H,row⟩:=H.row;apply Ds;unfold tD;have A:aG h ⟨bp,6,none⟩=some V.wv:=am row;have D:=SlC.len (H.wk id).1;have F:=H.few;simp only[go_sem,aK,A,D];rw[w64 (n:=(K:Int)+1) ae ae];exact⟨rfl,trivial⟩
theorem JT (O:C.Ok)(H:fm C Z K h0 bw bp o n P h):ag prog iR #[ptr bp] h λr h'=>New (Rp.int .i64) h h' r (Ev C K P (K+1)):=by
 apply AH;unfold pP;have W:K≤256:=by obtain⟨V,H⟩:=H;exact H.few.2
 refine ag.at (NE H) ?_;refine bI (α:=Value) (K+1) 0 (λi v=>[v,af (i:Int)]) (λi v g=>New (Rp.int .i64) h g v (Ev C K P i)) (.slice none 0 0) rfl (b9 _) (New.nil (Ext.refl _)) λi v g again ρ _ hi N D=>?_
 simp only[iC,xC];rw[cD,ak];refine ao (λg1=>?_) (λg1=>?_)
 ·have F:i<K+1:=ae;have A:(i:Int)+1=((i+1:Nat):Int):=ae;have hl:=LG C K P i;refine ag.at (ZN O (H.ext N.2.1) (by unfold I64;omega)) ?_;have G:=Xt C K P i;cases I:jp C K P (i:Int)with
  |true=>
   rw[I,aA rfl]at G;rw[gR];refine New.push_int N rfl ae ae λL g2 U=>?_
   simp only[go_sem];rw[w64 (n:=(i:Int)+1) ae ae,A];exact D L g2 F (by rw[G];exact U)
  |false=>
   rw[I]at G;rw[cR];simp only[go_sem];rw[w64 (n:=(i:Int)+1) ae ae,A];exact D v g F (by rw[G];simpa using N)
 ·have:i=K+1:=ae;subst this;exact N
theorem Nr (H:fm C Z K h0 bw bp o n P h):ag prog ll #[ptr bp] h λr h'=>r=.bool P.ret∧h'=h:=by
 obtain⟨V,H,row⟩:=H.row;apply AI;unfold pQ;have c:aG h ⟨bp,12,none⟩=some (.bool P.ret):=am row;simp only[go_sem,aK,c];exact⟨trivial,trivial⟩
def Il (K:Nat)(P:ce)(i:Int):List Int:=if i<1∨(K:Int)<i then[]else(P.ws (i-1).toNat).tiles
def nR (K:Nat)(P:ce)(i:Int):Int:=if i<1∨(K:Int)<i then 0 else(P.ws (i-1).toNat).words
theorem Ub (H:fm C Z K h0 bw bp o n P h){i:Int}(hi:I64 i)(L:∀j,j<K→(P.ws j).tiles.length≤1000000):ag prog pA #[ptr bp,af i] h λr h'=>New (Rp.int .i64) h h' r (Il K P i):=by
 obtain⟨V,H,row⟩:=H.row;apply ES;unfold uZ;have F:aG h ⟨bp,6,none⟩=some V.wv:=am row;have G:=SlC.len (H.wk id).1;unfold Il;unfold I64 at hi;by_cases h1:i<1
 ·rw[aA (.inl h1)];simp only[go_sem,h1];exact New.nil (Ext.refl _)
 by_cases D:(K:Int)<i
 ·rw[aA (.inr D)];simp only[go_sem,aK,h1,F,G,D];exact New.nil (Ext.refl _)
 rw[az ae];simp only[go_sem,aK,h1,F,G,D];rw[w64 (n:=i-1) ae ae];obtain⟨m,I⟩:∃m:Nat,i-1=(m:Int):=⟨(i-1).toNat,ae⟩
 have A:m<K:=ae;obtain⟨p,a1,a2⟩:=H.wat id A;rw[I,a1,ak,a2,ak];exact zbG (H.ws m A id) (L m A)
theorem OZ (H:fm C Z K h0 bw bp o n P h){i:Int}(hi:I64 i):ag prog l8 #[ptr bp,af i] h λr h'=>r=af (nR K P i)∧h'=h:=by
 obtain⟨V,H,row⟩:=H.row;apply BH;unfold rC;have F:aG h ⟨bp,6,none⟩=some V.wv:=am row;have G:=SlC.len (H.wk id).1;unfold nR;unfold I64 at hi;by_cases h1:i<1
 ·rw[aA (.inl h1)];simp only[go_sem,h1];exact⟨trivial,trivial⟩
 by_cases D:(K:Int)<i
 ·rw[aA (.inr D)];simp only[go_sem,aK,h1,F,G,D];exact⟨trivial,trivial⟩
 rw[az ae];simp only[go_sem,aK,h1,F,G,D];rw[w64 (n:=i-1) ae ae];obtain⟨m,I⟩:∃m:Nat,i-1=(m:Int):=⟨(i-1).toNat,ae⟩
 have A:m<K:=ae;obtain⟨p,a1,a2⟩:=H.wat id A;rw[I,a1,ak,a2,ak,eo];exact Yh (H.ws m A id)
theorem Sa (H:fm C Z K h0 bw bp o n P h):ag prog ng #[ptr bp] h λr h'=>(P.ret=false∧r=.tuple #[.pointer none,.bool false]∧h'=h)∨(P.ret=true∧∃p,r=.tuple #[p,.bool true]∧sQ h h' p n):=by
 obtain⟨V,H,row⟩:=H.row;apply Dq;unfold tC;have A:aG h ⟨bp,12,none⟩=some (.bool P.ret):=am row;have D:aG h ⟨bp,1,none⟩=some (ptr C.bt):=am row;simp only[go_sem,aK,A];cases P.ret with
 |false=>
  simp only[go_sem];exact .inl ⟨trivial,trivial,trivial⟩
 |true=>
  simp only[go_sem,aK,D];exact(zc6 H.set.out H.sui.1).mono λr h' N=>.inr ⟨trivial,r,rfl,N⟩
theorem VQ {p:Value}{t:Tbl}(H:fJ Z h p t):aR p=true:=by
 obtain⟨b,lv,rfl,_⟩:=H.open;rfl
theorem Se {b:Nat}{d:dm}{p q:Value}(H:sS Z h b d p q):ag prog iS #[ptr b] h λr h'=>r=.agg #[p,q,af d.s.border]∧Ext h h':=by
 apply ET;unfold vd;refine aI λI h1 r1 A D=>?_
 simp only[go_sem];rw[MN (A.row H.row) 0 3 [p,q,af d.s.border] rfl rfl,ak];refine cT (l:=[p,q,af d.s.border]) r1 rfl (aq (VQ H.x) (aq (VQ H.y) (aq rfl aX))) rfl λG r2 F=>?_
 rw[aU r2 3 rfl,ak];exact⟨rfl,A.upd D F⟩
end
end
end Go.Proofs.YtjljhnandbbldaaGreatDoor
namespace Go.Proofs.YtjljhnandbbldaaGreatDoor
open Go Go.Crisp
open _root_.Go.Proofs.Tryz
section
theorem clK12 {f:FuncId}{a A D:Value}{h:ah}{K:Value→ah→Prop}:clK prog (.func (.func f) #[] #[A,D]) #[a] h K=ag prog f #[a,A,D] h K:=rfl
attribute [local irreducible] ag di aW stK aF vK qK bK gK fo bA mkK dk Fm GM CJ bsK clK tW oA V0
def sD (C:C21)(x:Int):Int:=(iG (bH C.d.s.y.lines):Int)*(fB ((aO C.d x).w*C.m.c):Int)
section
variable {X:Nat→Prop}{C:C21}{Z:Nat→Prop}{K:Nat}{h0 h g:ah}{bw:Nat→Nat}{bp:Nat}{o:Nat→Nat}{n:Pic}{V:PV}{P:ce}{x:Int}
theorem zcT (O:C.Ok)(G:eF h0)(H:aT X C Z K h0 bw bp o n V P g)(x4:¬X 4)(h1:0≤x)(W:x<ck C.d):ag prog qM #[ptr bp,af x] g λr g2=>
  ∃U bj rv,r=ptr bj∧Ext g g2∧(∀c,U c→g.size≤c∧c<g2.size)∧jD Z U g2 (some C.E) n (ptr bj) (C.jo x)∧kK Z U g2 bj C.bf C.vf C.bt C.vt C.p C.q rv ⟨C.m,C.d.s,aO C.d x⟩ (aO C.d x).y (lnF C.d.s.y (aO C.d x).y) n (iG (bH C.d.s.y.lines)) (fB ((aO C.d x).w*C.m.c)):=by
 have row:=H.p x4;apply GE;unfold wF;have c2:aG g ⟨bp,2,none⟩=some (ptr C.bl):=am row;simp only[go_sem,aK,c2];refine ag.to (vH H.pl O.d h1 W) λg1 e1=>?_
 have x0:aL (.tuple #[.agg (dC (aO C.d x)).toArray,.bool true]) 0=some (.agg (dC (aO C.d x)).toArray):=rfl;have x1:aL (.tuple #[.agg (dC (aO C.d x)).toArray,.bool true]) 1=some (.bool true):=rfl;simp only[x0,x1,ak];refine dh (cs:=dC (aO C.d x)) rfl (km _) rfl λb g2 r2 e2 n2=>?_
 have I:=e1.trans e2;have A:=I.row row;have H2:=H.ex I;refine aQ (Ext g2) (Ext.refl _) ?_
 try simp only[go_sem,aK]
 refine aC (ptr C.bf) (λk e=>am (e.row A)) ?_;refine aC (ptr C.bt) (λk e=>am (e.row A)) ?_;refine aC (ptr C.bl) (λk e=>am (e.row A)) ?_;refine aC (.agg (dC (aO C.d x)).toArray) (λk e=>aU (e.row r2) 10 rfl) ?_;refine(Se H2.pl).mono λr g3 ⟨L,D⟩=>?_
 subst L;refine⟨D,?_⟩;rw[H.zl.2.1,H.zl.2.2];have F:=H2.ex D;refine(WW (G.ext F.ext) F.set O.m F.sui.1 O.s.wf).mono λr g4 HW=>?_
 obtain⟨bj,rv,L,e4,J,JS⟩:=VH.has O F.sui h1 W HW;subst L;have y0:aL (.tuple #[ptr bj,ai]) 0=some (ptr bj):=rfl;have y1:aL (.tuple #[ptr bj,ai]) 1=some ai:=rfl;simp only[go_sem,y0,y1,ne_eq,eqT,not_true,KO];have le:g.size≤g3.size:=(I.trans D).1;exact⟨_,bj,rv,rfl,(I.trans D).trans e4,λc hc=>hc.elim False.elim λh=>⟨ae,h.2⟩,J,JS⟩
theorem zaT (O:C.Ok)(G:eF h0)(H:aT X C Z K h0 bw bp o n V P g)(x4:¬X 4)(U:¬X 5)(h1:0≤x)(h2:x<ck C.d){W b3 k:Nat}{T1 T3:TypeId}(hk:k<K)(r1:g[W]? =some (.cells #[ptr bp] T1 (0,0)))(r3:g[b3]? =some (.cells #[af ((k:Int)+1)] T3 (0,0))):
  clK prog (.func (.func gH) #[] #[ptr W,ptr b3]) #[af x] g λr g2=>∃D,(∀c,D c→g.size≤c∧c<g2.size)∧jD Z D g2 (some C.E) n r (C.jo x)∧Fr (blk V.dv) g g2∧Own 1 g2 V.dv K ((List.range K).map λi=>af (if i=k then sD C x else P.words i)):=by
 rw[clK12];apply BG;unfold rB;have hK:=H.few;have c1:aG g ⟨W,0,none⟩=some (ptr bp):=am r1;simp only[go_sem,c1];refine(zcT O G H x4 h1 h2).mono λr g2 ⟨D,bj,rv,er,A,L,J,JS⟩=>?_
 subst er;rw[UM,ak,gR];have row:=A.row (H.p x4);have c7:aG g2 ⟨bp,7,none⟩=some V.dv:=am row;refine aQ (λk=>k=g2) rfl ?_;refine aC (ptr bp) (λk e=>by rw[e];exact am (A.row r1)) ?_
 try simp only[go_sem,aK]
 refine aC V.dv (λk e=>by rw[e];exact c7) ?_;refine aC (af ((k:Int)+1)) (λk e=>by rw[e];exact am (A.row r3)) ?_;simp only[go_sem];rw[w64 (n:=(k:Int)+1-1) ae ae,show(k:Int)+1-1=(k:Int)by omega];refine ag.at (Nx JS) ⟨rfl,?_⟩;have o2:Own 1 g2 V.dv K ((List.range K).map λi=>af (P.words i)):=(H.w U).1.fr (M:=λ_=>False) A.fr λ_ _=>id
 obtain⟨p,a1,a2,a3⟩:=Own.at_map o2 (k:=.i64) hk;rw[a1,ak];refine a3 _ _ λg3 o3 f3=>?_
 have I:∀c,blk V.dv c→c<g.size:=λc hc=>(H.w U).1.lt hc
 have F:∀c,blk V.dv c→o c=5:=(H.w U).2;have sz:=A.1;have J3:=J.other f3 (λc hz hc=>(H.ow c (by rw[F c hc];omega)).2.2.1 hz) (λc hb hc=>by have:=L c hb;have:=I c hc;omega) (λE' hE=>by cases hE;exact⟨((H.ex A).set.out).fr f3 (λhc=>(H.ow _ (by rw[F _ hc];omega)).2.2.2.1 rfl) λc hv hc=>(H.ow c (by rw[F c hc];omega)).2.2.2.2 hv,H.sui.1⟩) (eE.refl n);exact⟨D,λc hc=>⟨(L c hc).1,bX (L c hc).2 f3.1⟩,J3,A.after f3,o3⟩
end
end
end Go.Proofs.YtjljhnandbbldaaGreatDoor
namespace Go.Proofs.YtjljhnandbbldaaGreatDoor
open Go Go.Crisp
attribute [local irreducible] ag di aW stK aF vK qK bK gK fo bA mkK dk Fm GM CJ bsK clK tW oA V0
open _root_.Go.Proofs.Tryz
section
theorem IsW.bmono {Z B B':Nat→Prop}{h:ah}{bw:Nat}{E:Option WE}{n:Pic}{w:WD}(H:IsW Z B h bw E n w)(A:∀c,B c→B' c)(L:∀c,B' c→c<h.size)(U:∀c,B' c→¬Z c∧AA E c∧¬dQ E c):IsW Z B' h bw E n w:=by
 obtain⟨⟨tv,D,F,r,o,J,a1,a2,a3⟩,G,b2,W,zl,I,st⟩:=H;exact⟨⟨tv,D,F,r,o,J,λc hc=>⟨A c (a1 c hc).1,(a1 c hc).2⟩,λc hc=>A c (a2 c hc),a3⟩,A _ G,L,U,zl,I,st⟩
theorem IsQ.bmono {Q Q':Nat→Prop}{h:ah}{b:Nat}{d:QD}(H:IsQ Q h b d)(A:∀c,Q c→Q' c)(D:∀c,Q' c→c<h.size):IsQ Q' h b d:=by
 obtain⟨⟨v,r,o,c,n,s⟩,qb,ql,w⟩:=H;exact⟨⟨v,r,o,c,n,λc hc=>A c (s c hc)⟩,A _ qb,D,w⟩
theorem fI.bmono {M M':Nat→Prop}{h:ah}{v:Value}{n:Nat}{rows:Nat→List Int}(H:fI M h v n rows)(A:∀c,M c→M' c)(F:∀c,M' c→c<h.size):fI M' h v n rows:=by
 obtain⟨D,sl,sv,t,e,L⟩:=H;exact⟨D,sl,sv,t,e,L.var,L.arr,L.row,L.len,L.pos,⟨A _ L.inM.1,λb hc=>A b (L.inM.2.1 b hc),λi hi b hc=>A b (L.inM.2.2 i hi b hc)⟩,L.ap1,L.ap2,L.ap3,F⟩
def jl (C:C21)(P:ce)(k:Nat):ce:=
 {P with q:=(cW (some C.E) (C.jo (bR P.q)) (P.ws k) P.q).2.1,ws:=λi=>if i=k then(cW (some C.E) (C.jo (bR P.q)) (P.ws k) P.q).1 else P.ws i,words:=λi=>if i=k∧(P.ws k).state=0∧dX P.q=0 then sD C (bR P.q)else P.words i}
section
variable {C:C21}{Z:Nat→Prop}{K:Nat}{h0 h:ah}{bw:Nat→Nat}{bp:Nat}{o:Nat→Nat}{n:Pic}{V:PV}{P:ce}
theorem WX (O:C.Ok)(G:eF h0)(H:aT (λ_=>False) C Z K h0 bw bp o n V P h){k:Nat}(hk:k<K){b1 b3:Nat}{T1 T3:TypeId}(r1:h[b1]? =some (.cells #[ptr bp] T1 (0,0)))(r3:h[b3]? =some (.cells #[af ((k:Int)+1)] T3 (0,0)))(p1:o b1=0)(p3:o b3=0)(ht:(P.ws k).tiles.length≤1000000)(hb:∀c,dQ (some C.E) c→h0.size≤c)
  (hx:uL (P.ws k) P.q→0≤bR P.q∧bR P.q<ck C.d):
  ag prog cN #[ptr (bw k),ptr C.bq,.func (.func gH) #[] #[ptr b1,ptr b3]] h λr h'=>r=evV (cW (some C.E) (C.jo (bR P.q)) (P.ws k) P.q).2.2∧
   ∃n' o',aT (λ_=>False) C Z K h0 bw bp o' n' V (jl C P k) h'∧(∀c,c<h.size→o' c=o c)∧Fr (λc=>(o c=10+k∨o c=1∨o c=5)∨dQ (some C.E) c) h h'∧Cz (some C.E) (P.ws k) n n':=by
 have W:=H.ws k hk id;have Q:=H.q id;obtain⟨L,F⟩:=H.w id;have U:∀c,blk V.dv c→c<h.size:=λc hc=>L.lt hc
 have aa:∀c,o c≠0→¬dQ (some C.E) c:=λc hc=>(H.ow c hc).2.2.2.2
 refine(WV (jo:=C.jo (bR P.q)) (Qo:=blk V.dv) (P0:=λg=>Own 1 g V.dv K ((List.range K).map λi=>af (P.words i))) (P1:=λg=>Own 1 g V.dv K ((List.range K).map λi=>af (if i=k then sD C (bR P.q)else P.words i))) W Q ht (λtk=>.inr ⟨rfl,λh1 f1 w1=>?_⟩) (λc hc h=>ae) (λc hc=>(H.ow c ae).2.2) (λc hc=>?_) (λg g' f=>?_) L).mono λr h' ⟨er,⟨⟨n',B',Q',W',q',j1,j2,j3,Dr⟩,f⟩,ab,al⟩=>?_
 ·have f2:Fr (λc=>(λj=>j=10+k∨j=1) (o c)) h h1:=f1;have H1:=H.chg (A:=λj=>j=10+k∨j=1) ae f2;have nx:∀{j},j≠10+k→j≠1→¬(False∨(j=10+k∨j=1)):=λa b h=>by rcases h with h|h|h<;>first|exact h|exact a h|exact b h
  exact zaT O G H1 (nx ae ae) (nx ae ae) (hx tk).1 (hx tk).2 hk (f1.row r1 ae) (f1.row r3 ae)
 ·have h5:=F c hc;have:=H.ow c ae;exact⟨this.1,ae,ae,this.2.2⟩
 ·have q:∀c,blk V.dv c→¬(dQ (some C.E) c∨o c=10+k∨o c=1∨h.size≤c):=λc hc hh=>by
   have h5:=F c hc;have:=U c hc;rcases hh with hh|hh
   ·exact aa c ae hh
   ·omega
  exact⟨λw=>w.fr f q,λw=>w.fr f q⟩
 ·have f2:Fr (λc=>(λj=>j=10+k∨j=1∨j=5) (o c)∨dQ (some C.E) c) h h':=f.mono λc _ hc=>by
   rcases hc with hc|hc|hc|hc
   ·exact .inr hc
   ·exact .inl (.inl hc)
   ·exact .inl (.inr (.inl hc))
   ·exact .inl (.inr (.inr (F c hc)))
  have sz:=f.1;have H2:=H.chgO (A:=λj=>j=10+k∨j=1∨j=5) ae hb f2 W'.out Dr.1;have Bl:=W'.bl;have Ql:=q'.ql;obtain⟨o',oo,on,ob,oq⟩:∃o':Nat→Nat,(∀c,c<h.size→o' c=o c)∧(∀c,h.size≤c→o' c≠0→(o' c=10+k∨o' c=1)∧c<h'.size)∧(∀c,B' c→o' c=10+k)∧∀c,Q' c→o' c=1:=by
   classical
   refine⟨λc=>if c<h.size then o c else if B' c then 10+k else if Q' c then 1 else 0,λc hc=>aA hc,λc hc h1=>?_,λc hc=>?_,λc hc=>?_⟩
   ·have I:¬c<h.size:=ae;simp only[az I]at h1 ⊢;by_cases b:B' c
    ·simp only[aA b];exact⟨.inl trivial,Bl c b⟩
    ·simp only[az b]at h1 ⊢;by_cases q:Q' c
     ·simp only[aA q];exact⟨.inr trivial,Ql c q⟩
     ·simp only[az q]at h1;exact absurd rfl h1
   ·by_cases I:c<h.size
    ·simp only[aA I];exact(j1 c hc).elim id λh=>ae
    ·simp only[az I,aA hc]
   ·have nb:¬B' c:=λhb=>j3 c hb hc
    by_cases I:c<h.size
    ·simp only[aA I];exact(j2 c hc).elim id λh=>ae
    ·simp only[az I,az nb,aA hc]
  have D:=H2.relab (B:=λj=>j=10+k∨j=1) (o':=o') oo (λc hc=>(H.fresh hc).1) on H.ext.1 λc hc=>(H.fresh hc).2
  have q3:IsQ (λc=>o' c=1) h' C.bq _:=q'.bmono oq λc hc=>(D.ow c (by rw[hc];omega)).1
  have W3:IsW Z (λc=>o' c=10+k) h' (bw k) (some C.E) n' _:=W'.bmono ob (λc hc=>(D.ow c (by rw[hc];omega)).1) λc hc=>(D.ow c (by rw[hc];omega)).2.2
  have w3:Own 1 h' V.dv K ((List.range K).map λi=>af ((jl C P k).words i)):=by
   by_cases tk:(P.ws k).state=0∧dX P.q=0
   ·have e:(λi=>af ((jl C P k).words i))=λi=>af (if i=k then sD C (bR P.q)else P.words i):=by
     funext i
     show af (if i=k∧(P.ws k).state=0∧dX P.q=0 then _ else _)=_;by_cases hi:i=k
     ·rw[aA ⟨hi,tk⟩,aA hi]
     ·rw[az (λh=>hi h.1),az hi]
    rw[e];exact ab tk
   ·have e:(λi=>af ((jl C P k).words i))=λi=>af (P.words i):=by
     funext i
     show af (if i=k∧(P.ws k).state=0∧dX P.q=0 then _ else _)=_;rw[az λh=>tk h.2]
    rw[e];exact al tk
  have ad:∀c,blk V.dv c→o' c=5:=λc hc=>by rw[oo c (U c hc)];exact F c hc
  have nx:∀{j},j≠10+k→j≠1→j≠5→¬((False∨(j=10+k∨j=1∨j=5))∨(j=10+k∨j=1)):=λa b c h=>by rcases h with (h|h|h|h)|h|h<;>first|exact h|exact a h|exact b h|exact c h
  refine⟨er,n',o',⟨λ_=>q3,λ_=>D.c (nx ae ae ae),λ_=>D.l (nx ae ae ae),λ_=>D.p (nx ae ae ae),λ_=>⟨w3,ad⟩,λ_=>D.s (nx ae ae ae),λ_=>D.f (nx ae ae ae),λ_=>D.e (nx ae ae ae),λ_=>D.wk (nx ae ae ae),λi hi _=>?_,D.po,D.set,D.pl,D.zl,D.sui,D.ow,D.ext,D.few⟩,oo,f2,Dr⟩;by_cases he:i=k
  ·subst he;show IsW Z _ h' _ _ n' (if i=i then _ else _);rw[aA rfl];exact W3
  ·show IsW Z _ h' _ _ n' (if i=k then _ else _);rw[az he];exact D.ws i hi (nx ae ae ae)
end
end
section
def yZ (C:C21)(P:ce)(k:Nat)(e:EvD):ce:=
 if e.2.2.1=1 then tH (tH P (k+1) 0 (atZ C.d.s.border e.2.2.2 C.m.h*(C.m.w*C.m.c)) (C.m.w*C.m.c) false) (k+1) (k+2) 0 (P.words k) true
 else tH (tH P (k+1) (k+2) 0 (P.words k) false) (k+1) 1 ((e.2.2.2*C.d.X+(aO C.d e.2.1).x)*C.m.c) ((aO C.d e.2.1).w*C.m.c) true
section
variable {C:C21}{Z:Nat→Prop}{K:Nat}{h0 h:ah}{bw:Nat→Nat}{bp:Nat}{o:Nat→Nat}{n:Pic}{P:ce}
theorem zbz (O:C.Ok)(H:fm C Z K h0 bw bp o n P h){k:Nat}(hk:k<K){e:EvD}(hl:P.acc.length≤999999)(hx:0≤e.2.1∧e.2.1<ck C.d)(hr:I64 e.2.2.2)(hy:e.2.2.1≠1→0≤e.2.2.2∧e.2.2.2<C.d.Y)(hw:1≤P.words k∧P.words k≤100000000000):
  ag prog pg #[ptr bp,af ((k:Int)+1),evV e] h λr h'=>r=.tuple #[]∧PTo C Z K h0 bw bp o h n (yZ C P k e) h':=by
 obtain⟨ek,G,W,D⟩:=e;have HP:=H;obtain⟨V,H,row⟩:=H.row;apply EQ;unfold uX;have x0:aL (.tuple #[.agg (dC (aO C.d G)).toArray,.bool true]) 0=some (.agg (dC (aO C.d G)).toArray):=rfl;have x1:aL (.tuple #[.agg (dC (aO C.d G)).toArray,.bool true]) 1=some (.bool true):=rfl;refine aI λb1 h1 r1 e1 n1=>?_
 have r1:h1[b1]? =some (.cells #[af ek,af G,af W,af D] 148 (0,0)):=r1;refine bB (λxs g=>∃bt,xs=[ptr bt]∧h.size≤bt∧Ext h1 g∧g[bt]? =some (.cells (dC (aO C.d G)).toArray 116 (0,0))) ?_ ?_
 ·refine aQ (Ext h1) (Ext.refl _) ?_;simp only[go_sem,aK];refine aC (ptr C.bl) (λg e=>am (e.row (e1.row row))) ?_;refine aC (af G) (λg e=>am (e.row r1)) ?_;have one:∀v∈dC (aO C.d G),aR v=true:=km _;refine⟨?_,?_⟩
  ·refine ag.to (vH (H.ex e1).pl O.d hx.1 hx.2) λg2 I=>⟨I,?_⟩
   simp only[x0,x1,ak];refine aI λbt g3 r3 L n3=>⟨I.trans L,?_⟩
   refine cT (l:=dC (aO C.d G)) r3 rfl one rfl λg4 r4 u4=>?_
   have E:=(I.trans L).upd (aZ I.1 n3) u4;have s1:=e1.1;have s2:=I.1;exact⟨E,bt,rfl,ae,E,r4⟩
  ·refine aI λbt g2 r2 I n2=>⟨I,?_⟩
   refine ag.to (vH ((H.ex e1).ex I).pl O.d hx.1 hx.2) λg3 L=>⟨I.trans L,?_⟩
   simp only[x0,x1,ak];refine cT (l:=dC (aO C.d G)) (L.row r2) rfl one rfl λg4 r4 u4=>?_
   have E:=(I.trans L).upd n2 u4;have s1:=e1.1;exact⟨E,bt,rfl,ae,E,r4⟩
 rintro xs ρ g ⟨bt,rfl,au,I,rt⟩;have E:=e1.trans I;have rg:=I.row r1;have F:=E.row row;have c7:aG g ⟨bp,7,none⟩=some V.dv:=am F;have c1:aG g ⟨bp,1,none⟩=some (ptr C.bt):=am F;have m2:aG g ⟨b1,2,none⟩=some (af W):=am rg;have hK:=H.few;have Hg:=H.ex E;have U:=HP.ext E;simp only[iC,go_sem,aK,c7];rw[w64 (n:=(k:Int)+1-1) ae ae,show(k:Int)+1-1=(k:Int)by omega];obtain⟨p,a1,a2,_⟩:=Own.at_map (Hg.w id).1 (k:=.i64) hk;rw[a1,ak,a2,ak,m2,ak,vJ,ak];have bf:=du O.m.fits;have sui:=H.sui.2;obtain⟨s1,s2,s3,s4,s5⟩:=sui;have who:((k:Int)+1)=((k+1:Nat):Int):=ae;have aa:∀{h'} {P'},PTo C Z K h0 bw bp o g n P' h'→PTo C Z K h0 bw bp o h n P' h':=λ{h' P'} T=>PTo.trans (h1:=g) ⟨U,λ_ _=>rfl,E.fr⟩ T
 refine ao (λhm=>?_) (λhm=>?_)
 ·have hm:W=1:=hm;subst hm;refine aQ (λk=>k=g) rfl ?_;refine aC (ptr C.bf) (λk e=>by rw[e];exact am F) ?_;refine aC (ptr C.bf) (λk e=>by rw[e];exact am F) ?_;refine ag.at (ur Hg.set.src) ⟨rfl,?_⟩;refine ag.at (eU Hg.set.src) ?_;have wc:1≤C.m.w*C.m.c∧C.m.w*C.m.c≤65536*3:=⟨wT ae ae,ks ae ae ae ae⟩
  simp only[go_sem];rw[w64 (n:=C.m.w*C.m.c) ae ae];refine aQ (Ext g) (Ext.refl _) ?_;refine aC (ptr C.bl) (λk e=>am (e.row F)) ?_
  try simp only[go_sem,aK]
  refine aC (af D) (λk e=>am (e.row rg)) ?_
  try simp only[go_sem,aK]
  refine aC (ptr C.bf) (λk e=>am (e.row F)) ?_;refine(Se Hg.pl).mono λr g3 ⟨er,L⟩=>?_
  subst er;refine⟨L,?_⟩;have pv:pV false 1 2 (.agg #[C.pp,C.pq,af C.d.s.border])=some (af C.d.s.border):=rfl;rw[pv,ak];have H3:=Hg.ex L;refine ag.at (sh H3.set.src) ⟨L,?_⟩;refine ag.at (vI hr) ?_;have ha:=zdb (p:=C.d.s.border) (j:=D) (n:=C.m.h) ae ae;have ar:=mS (a:=atZ C.d.s.border D C.m.h) (A:=65536) (b:=C.m.w*C.m.c) (B:=65536*3) ae ae ae ae;simp only[go_sem];rw[w64 (n:=atZ C.d.s.border D C.m.h*(C.m.w*C.m.c)) ae ae,who];refine(Fu (U.ext L) (who:=k+1) ae ae ae ar.1 wc.1 ae).mono λr g4 ⟨er,o4,H4,q4,f4⟩=>?_
  rw[w64 (n:=1+((k+1:Nat):Int)) ae ae,show 1+((k+1:Nat):Int)=(k:Int)+2 by omega];refine(Fu H4 (who:=k+1) ae (by simp[tH];omega) ae ae hw.1 ae).mono λr g5 ⟨er,T⟩=>?_
  have T2:=PTo.trans (h1:=g4) ⟨H4,q4,f4⟩ T;have T3:=PTo.trans (h1:=g3) (P1:=P) ⟨U.ext L,λ_ _=>rfl,L.fr⟩ T2;refine⟨trivial,?_⟩;unfold yZ;rw[aA rfl];exact aa T3
 ·have hy:0≤D∧D<C.d.Y:=hy hm;rw[c1,ak];refine ag.at (eU Hg.set.out) ?_;rw[w64 (n:=1+((k:Int)+1)) ae ae,show 1+((k:Int)+1)=(k:Int)+2 by omega,who];refine(Fu U (who:=k+1) ae ae ae ae hw.1 ae).mono λr g4 ⟨er,o4,H4,q4,f4⟩=>?_
  have nf:∀{c},h.size≤c→¬(o c≠0∨dQ (some C.E) c):=λhc h=>h.elim (λh=>h (H.fresh hc).1) (H.fresh hc).2.2.2
  have aw:=f4.row rg (nf n1);have ad:=f4.row rt (nf au);obtain⟨V4,B4,ab⟩:=H4.row;have wf:=jJ O.d (i:=G) hx.1 hx.2;unfold fh at wf;refine aQ (λk=>k=g4) rfl ?_;refine aC (af D) (λk e=>by rw[e];exact am aw) ?_
  try simp only[go_sem,aK]
  refine aC (ptr C.bt) (λk e=>by rw[e];exact am ab) ?_
  try simp only[go_sem,aK]
  refine aC (af (aO C.d G).x) (λk e=>by rw[e];exact am ad) ?_
  try simp only[go_sem,aK]
  refine aC (af (aO C.d G).w) (λk e=>by rw[e];exact am ad) ?_;have bd:=dm.bd O.d;have wX:(aO C.d G).x+(aO C.d G).w≤C.d.X:=by show _≤((C.d.s.x.lines.length:Nat):Int);omega
  have nc:n.c=C.m.c:=s4;have ay:=mS (a:=(aO C.d G).w) (A:=65536) (b:=C.m.c) (B:=3) ae ae ae ae;have al:1≤(aO C.d G).w*C.m.c:=wT ae ae;have ax:=mS (a:=D) (A:=65536) (b:=C.d.X) (B:=65536) ae ae ae ae;have an:=mS (a:=D*C.d.X+(aO C.d G).x) (A:=65536*65536+65536) (b:=C.m.c) (B:=3) ae ae ae ae;rw[nc];simp only[go_sem];rw[w64 (n:=(aO C.d G).w*C.m.c) ae ae];refine ag.at (ur B4.set.out) ⟨rfl,?_⟩;rw[show n.w=C.d.X from s2];simp only[go_sem];rw[w64 (n:=D*C.d.X) ae ae,w64 (n:=D*C.d.X+(aO C.d G).x) ae ae,w64 (n:=(D*C.d.X+(aO C.d G).x)*C.m.c) ae ae];refine(Fu H4 (who:=k+1) ae (by simp[tH];omega) ae an.1 al ae).mono λr g5 ⟨er,T⟩=>?_
  have T2:=PTo.trans (h1:=g4) ⟨H4,q4,f4⟩ T;refine⟨trivial,?_⟩;unfold yZ;rw[az hm];exact aa T2
end
end
section
section
variable {C:C21}{Z:Nat→Prop}{K:Nat}{h0 g g1 g2:ah}{bw:Nat→Nat}{bp:Nat}{o:Nat→Nat}{n:Pic}{V:PV}{P:ce}
theorem aT.setrow (H:aT (λ_=>False) C Z K h0 bw bp o n V P g)(u:Upd bp g g1){st:Int}{rt:Bool}{pk:Int}(r:g1[bp]? =some (.cells (iH C V {P with sent:=st,ret:=rt,picks:=pk}) 106 (0,0))):aT (λ_=>False) C Z K h0 bw bp o n V {P with sent:=st,ret:=rt,picks:=pk} g1:=by
 have D:=H.po;exact(H.chg (A:=λk=>k=4) ae (u.fr.mono λc _ hc=>by rw[show c=bp from hc];exact D)).fp r
theorem aT.putS (H:aT (λk=>k=6) C Z K h0 bw bp o n V P g){s:Value}{l:List (List Int)}(I:tJ o 6 g s l)(u:Upd bp g g1)(r:g1[bp]? =some (.cells (iH C {V with sv:=s} P) 106 (0,0))):aT (λ_=>False) C Z K h0 bw bp o n {V with sv:=s} {P with stamps:=l} g1:=by
 have L:=H.po;have f:Fr (λc=>(λk=>k=4) (o c)) g g1:=u.fr.mono λc _ hc=>by rw[show c=bp from hc];exact L
 have G:=(H.chg (A:=λk=>k=4) ae f).less (Y:=λk=>k=4∨k=6) λk D=>D.symm
 have F:=G.fs (X:=λk=>k=4) rfl (I.fr f λc hc h=>by have h:o c=4:=h;omega);exact(F.less (Y:=λk=>False∨k=4) λk D=>.inr D).fp (X:=λ_=>False) (st:=P.sent) (rt:=P.ret) (pk:=P.picks) r
theorem aT.putL (H:aT (λk=>k=7) C Z K h0 bw bp o n V P g){s:Value}{l:List (List Int)}(I:tJ o 7 g s l)(u:Upd bp g g1)(r:g1[bp]? =some (.cells (iH C {V with lv:=s} P) 106 (0,0))):aT (λ_=>False) C Z K h0 bw bp o n {V with lv:=s} {P with left:=l} g1:=by
 have L:=H.po;have f:Fr (λc=>(λk=>k=4) (o c)) g g1:=u.fr.mono λc _ hc=>by rw[show c=bp from hc];exact L
 have G:=(H.chg (A:=λk=>k=4) ae f).less (Y:=λk=>k=4∨k=7) λk D=>D.symm
 have F:=G.ff (X:=λk=>k=4) rfl (I.fr f λc hc h=>by have h:o c=4:=h;omega);exact(F.less (Y:=λk=>False∨k=4) λk D=>.inr D).fp (X:=λ_=>False) (st:=P.sent) (rt:=P.ret) (pk:=P.picks) r
theorem aT.putE (H:aT (λk=>k=8) C Z K h0 bw bp o n V P g){s:Value}{l:List Int}(I:Rp.Sl (Rp.int .i64) (λc=>o c=8) g s l)(u:Upd bp g g1)(r:g1[bp]? =some (.cells (iH C {V with ev:=s} P) 106 (0,0))):aT (λ_=>False) C Z K h0 bw bp o n {V with ev:=s} {P with fin:=l} g1:=by
 have L:=H.po;have f:Fr (λc=>(λk=>k=4) (o c)) g g1:=u.fr.mono λc _ hc=>by rw[show c=bp from hc];exact L
 have G:=(H.chg (A:=λk=>k=4) ae f).less (Y:=λk=>k=4∨k=8) λk D=>D.symm
 have F:=G.fe (X:=λk=>k=4) rfl (I.fr f λc _ hc h=>by have h:o c=4:=h;omega);exact(F.less (Y:=λk=>False∨k=4) λk D=>.inr D).fp (X:=λ_=>False) (st:=P.sent) (rt:=P.ret) (pk:=P.picks) r
theorem Zf {o:Nat→Nat}{j k lo hi:Nat}(h:∀c,lo≤c→o c=0)(F:k≠j)(D:k≠0):(λc=>grow o j lo hi c=k)=λc=>o c=k:=by
 funext c
 refine propext ?_;unfold grow;split
 ·rename_i A;rw[h c A.1];omega
 ·exact Iff.rfl
theorem aT.rs_push (H:aT (λ_=>False) C Z K h0 bw bp o n V P g){j:Nat}(hj:j≠0∧j≠2){v:Value}{l:List (List Int)}(HR:tJ o j g v l){rows:Nat→List Int}{r:Value}{x:List Int}(o1:kj g1 r x)(c1:fI (λc=>o c=2) g1 V.vc (K+1) rows)(f1:Fr (λc=>o c=2) g g1)(n1:∀b,blk r b→g.size≤b)
  {Q:ah→Prop} {z z':Value} {t t':TypeId} {K':Value→ah→Prop} (I:z.cells.size=1) (hl:l.length≤1000000000) (hQ:∀h',Ext g1 h'→Q h')
  (HK:∀L g2,tJ (grow o j g.size g2.size) j g2 L (l++[x])→aT (λk=>k=j) C Z K h0 bw bp (grow o j g.size g2.size) n V {P with rows:=rows} g2→Fr (λc=>o c=2∨o c=j) g g2→Fr (λc=>o c=j) g1 g2→K' L g2):
  di #[z'] t 1 [(0,1,r)] g1 λv2 h3=>Q h3∧dk z t' 1 24 v v2 h3 K':=by
 obtain⟨W,ow,z1,U⟩:=HR;have s1:=f1.1;have q1:∀c,W c∨blk v c→¬o c=2:=λc hc=>by have:=hc.elim (z1 c) (U c);omega
 have aa:=ow.fr f1 (λc _ hc=>q1 c (.inl hc)) λc hc=>q1 c (.inr hc)
 have dz:∀b,blk v b→¬W b:=by obtain⟨_,_,d,_⟩:=ow;exact d
 have ob:∀c,o c=j→c<g.size:=λc hc=>(H.ow c ae).1
 have o2:Rp.Ow rIs (λb=>W b∨blk r b) g1 v l:=aa.mono (λb _ D=>.inl D) λb D I=>by
  rcases I with I|I
  ·exact dz b D I
  ·have:=ob b (U b D);have:=n1 b I;omega
 refine Rp.push_ow1S (P:=λ_=>False) (e:=rIs) (x:=x) rfl o2 ⟨r,rfl,zy o1.ints λ_ b D=>.inr D⟩ I ae ae (λb D=>?_) hQ λL g2 o3 f3 n3=>?_
 ·rcases D with D|D
  ·have:=ob b (z1 b D);omega
  ·exact Own.lt o1 D
 have G:Fr (λc=>o c=j) g1 g2:=f3.mono λc _ hc=>U c hc
 have s3:=f3.1;have fA:Fr (λc=>(λk=>k=2∨k=j) (o c)) g g2:=(f1.mono λc _ hc=>.inl hc).after G λc _ hc=>.inr hc
 have H2:=H.take (H.chg (A:=λk=>k=2∨k=j) ae fA) (b:=j);have F:∀c,c<g2.size→(o c=j∨g.size≤c)→grow o j g.size g2.size c=j:=λc hl hc=>by
  unfold grow;split
  ·rfl
  ·exact hc.elim id λh=>ae
 have hR:tJ (grow o j g.size g2.size) j g2 L (l++[x]):=by
  refine⟨λb=>W b∨blk r b,o3,λc hc=>?_,λc hc=>F c (o3.lt hc) ?_⟩
  ·rcases hc with hc|hc
   ·exact F c (by have:=ob c (z1 c hc);omega) (.inl (z1 c hc))
   ·exact F c (by have:=Own.lt o1 hc;omega) (.inr (n1 c hc))
  ·rcases n3 c hc with h|h
   ·exact .inl (U c h)
   ·exact .inr ae
 have c2:fI (λc=>grow o j g.size g2.size c=2) g2 V.vc (K+1) rows:=by
  have e:(λc=>grow o j g.size g2.size c=2)=λc=>o c=2:=by
   funext c
   refine propext ?_;unfold grow;split
   ·rename_i h3;rw[(H.fresh h3.1).1];omega
   ·exact Iff.rfl
  rw[e];exact c1.fr G λc _ hc h=>by have h:o c=j:=h;omega
 have H3:=(H2.less (Y:=λk=>k=j∨k=2) λk hk=>by rcases hk with (h|h|h)|h<;>first|exact h.elim|exact .inr h|exact .inl h).fc c2;exact HK L g2 hR H3 fA G
theorem Vt (H:aT (λ_=>False) C Z K h0 bw bp o n V P g){i:Nat}{u:Value}{s:List Int}(hu:lH g u s)(I:s.length≤4398046511104):
  ag prog gb #[V.vc,af (i:Int),u] g λr g1=>aT (λ_=>False) C Z K h0 bw bp (grow o 2 g.size g1.size) n V {P with rows:=oh (K+1) P.rows i s} g1∧Fr (λc=>o c=2) g g1:=by
 refine(zc3 (H.c id) i hu I).mono λr g1 ⟨_,M',G,f1,m1⟩=>?_
 have D:Fr (λc=>(λk=>k=2) (o c)) g g1:=f1;have F:=H.take (H.chg (A:=λk=>k=2) ae D) (b:=2);refine⟨(F.less (Y:=λk=>False∨k=2) λk U=>by rcases U with (h|h)|h<;>first|exact h.elim|exact .inr h).fc (G.bmono (λc hc=>?_) λc hc=>(F.ow c (by rw[hc];omega)).1),f1⟩;unfold grow;split
 ·rfl
 ·rename_i W;have lt:c<g1.size:=by
   obtain⟨bc,sl,sv,t,_,L⟩:=G;exact L.lt c hc
  rcases m1 c hc with h|h
  ·exact h
  ·omega
end
end
section
def evP (C:C21)(P:ce)(k:Nat):EvD:=(cW (some C.E) (C.jo (bR P.q)) (P.ws k) P.q).2.2
def Za (K:Nat)(P:ce)(k:Nat):ce:=
 {P with rows:=FH (K+1) (oh (K+1) P.rows (k+1:Nat) P.fin) (k+1:Nat),left:=P.left++[oh (K+1) P.rows (k+1:Nat) P.fin (k+1)]}
def td (C:C21)(K:Nat)(P:ce)(k:Nat):ce:=
 if(evP C P k).1=1 then{jl C P k with rows:=oh (K+1) P.rows (k+1:Nat) (P.stamps.getD (evP C P k).2.1.toNat [])}
 else if(evP C P k).1=2 then yZ C (jl C P k) k (evP C P k)
 else if(evP C P k).1=3 then Za K (jl C P k) k
 else jl C P k
section
variable {C:C21}{Z:Nat→Prop}{K:Nat}{h0 h:ah}{bw:Nat→Nat}{bp:Nat}{o:Nat→Nat}{n:Pic}{P:ce}
theorem zcP (O:C.Ok)(G:eF h0)(H:fm C Z K h0 bw bp o n P h){k:Nat}(hk:k<K)(ht:(P.ws k).tiles.length≤1000000)(hb:∀c,dQ (some C.E) c→h0.size≤c)(hl:P.acc.length≤999999)(bd:P.left.length≤1000000000)
  (hx:uL (P.ws k) P.q→0≤bR P.q∧bR P.q<ck C.d)
  (h1:(evP C P k).1=1→0≤(evP C P k).2.1∧(evP C P k).2.1<P.stamps.length)
  (hs:∀s∈P.stamps,s.length≤4398046511104) (hf:P.fin.length≤4398046511104)
  (h2:(evP C P k).1=2→(0≤(evP C P k).2.1∧(evP C P k).2.1<ck C.d)∧I64 (evP C P k).2.2.2∧((evP C P k).2.2.1≠1→0≤(evP C P k).2.2.2∧(evP C P k).2.2.2<C.d.Y)∧1≤(jl C P k).words k∧(jl C P k).words k≤100000000000):
  ag prog qL #[ptr bp,af ((k:Int)+1)] h λr h'=>∃n',PTo C Z K h0 bw bp o h n' (td C K P k) h'∧Cz (some C.E) (P.ws k) n n':=by
 have HP:=H;obtain⟨V,H,row⟩:=H.row;apply GC;unfold wD;have hK:=H.few;refine aI λb1 g1 r1 e1 n1=>aI λb3 g3 r3 e3 n3=>?_
 have r1:g1[b1]? =some (.cells #[ptr bp] _ (0,0)):=r1;have r3:g3[b3]? =some (.cells #[af ((k:Int)+1)] _ (0,0)):=r3;have r1:=e3.row r1;have E:=e1.trans e3;have H3:=H.ex E;have U:=E.row row;have s1:=e1.1;have s3:=e3.1;have f1:=H.fresh (c:=b1) n1;have f3:=H.fresh (c:=b3) ae;have who:((k:Int)+1)=((k+1:Nat):Int):=ae;generalize au:evP C P k=e at*;have aa:(cW (some C.E) (C.jo (bR P.q)) (P.ws k) P.q).2.2=e:=au;refine bB (λxs g=>∃A n' o' T,xs=[ptr A]∧g[A]? =some (.cells #[af e.1,af e.2.1,af e.2.2.1,af e.2.2.2] T (0,0))∧aT (λ_=>False) C Z K h0 bw bp o' n' V (jl C P k) g∧(∀c,c<h.size→o' c=o c)∧Fr (λc=>o c≠0∨dQ (some C.E) c) h g∧g[b1]? =some (.cells #[ptr bp] 35 (0,0))∧g[b3]? =some (.cells #[af ((k:Int)+1)] 3 (0,0))∧o' b1=0∧o' b3=0∧o' A=0∧Cz (some C.E) (P.ws k) n n') ?_ ?_
 ·have nS:∀{c},o c=4∨o c=9→¬((o c=10+k∨o c=1∨o c=5)∨dQ (some C.E) c):=λ{c} hc h=>h.elim ae (H.ow c ae).2.2.2.2
  have nL:∀{c},h.size≤c→¬((o c=10+k∨o c=1∨o c=5)∨dQ (some C.E) c):=λ{c} hc h=>h.elim (by have:=(H.fresh hc).1;omega) (H.fresh hc).2.2.2
  have M0:Fr (λc=>o c≠0∨dQ (some C.E) c) h g3:=E.fr;have hM:∀c,((o c=10+k∨o c=1∨o c=5)∨dQ (some C.E) c)→o c≠0∨dQ (some C.E) c:=λc hc=>hc.imp ae id
  have tc:evV e=.agg [af e.1,af e.2.1,af e.2.2.1,af e.2.2.2].toArray:=rfl;have one:∀v∈[af e.1,af e.2.1,af e.2.2.1,af e.2.2.2],aR v=true:=aq rfl (aq rfl (aq rfl (aq rfl aX)));refine aQ (Fr (λc=>(o c=10+k∨o c=1∨o c=5)∨dQ (some C.E) c) g3) (Fr.refl _ _) ?_;refine aC (ptr bp) (λg f=>am (f.row r1 (nL n1))) ?_;simp only[go_sem,aK];refine aC V.wv (λg f=>am (f.row U (nS (.inl H.po)))) ?_;refine aC (af ((k:Int)+1)) (λg f=>am (f.row r3 (nL ae))) ?_;simp only[go_sem];rw[w64 (n:=(k:Int)+1-1) ae ae,show(k:Int)+1-1=(k:Int)by omega];obtain⟨p,a1,a2⟩:=H3.wat id hk;rw[a1,ak];refine aC (ptr (bw k)) (λg f=>?_) ?_
  ·obtain⟨p',c1,c2⟩:=((H3.wk id).1.fr f λc _ hc=>nS (.inr ((H3.wk id).2 c hc))).at1 (k:=.i64) hk;rw[a1]at c1;cases c1;rw[c2];simp[hk]
  refine aC (ptr bp) (λg f=>am (f.row r1 (nL n1))) ?_
  try simp only[go_sem,aK]
  refine aC (ptr C.bq) (λg f=>am (f.row U (nS (.inl H.po)))) ?_;have l1:=bC r1;have l3:=bC r3;refine⟨?_,?_⟩
  ·refine(WX O G H3 hk r1 r3 f1.1 f3.1 ht hb hx).mono λr g4 ⟨er,n',o',I,L,f4,Dr⟩=>⟨f4,?_⟩
   rw[aa]at er;subst er;have s4:=f4.1;refine aI λA g5 r5 e5 n5=>⟨f4.ext_r e5,?_⟩
   refine cT (l:=[af e.1,af e.2.1,af e.2.2.1,af e.2.2.2]) r5 rfl one rfl λg6 r6 u6=>?_
   have E6:=e5.upd n5 u6;have f6:=f4.ext_r E6;exact⟨f6,A,n',o',_,rfl,r6,I.ex E6,λc hc=>L c ae,M0.after f6 λc _ hc=>hM c hc,f6.row r1 (nL n1),f6.row r3 (nL ae),by rw[L _ l1];exact f1.1,by rw[L _ l3];exact f3.1,(I.fresh n5).1,Dr⟩
  ·refine aI λA g4 r4 e4 n4=>⟨e4.fr,?_⟩
   have s4:=e4.1;have l4:=bC r4;refine(WX O G (H3.ex e4) hk (e4.row r1) (e4.row r3) f1.1 f3.1 ht hb hx).mono λr g5 ⟨er,n',o',I,L,f5,Dr⟩=>⟨e4.fr.trans f5,?_⟩
   rw[aa]at er;subst er;have s5:=f5.1;refine cT (l:=[af e.1,af e.2.1,af e.2.2.1,af e.2.2.2]) (f5.row r4 (nL ae)) rfl one rfl λg6 r6 u6=>?_
   have f6:=(e4.fr.trans f5).upd_new u6 (x:=A) n4;have bc:=H.fresh (c:=A) ae;have ob:o' A=0:=by rw[L A l4];exact bc.1
   exact⟨f6,A,n',o',_,rfl,r6,I.loc u6 ⟨ob,by have:=H.ext.1;omega,bc.2⟩,λc hc=>L c ae,M0.after f6 λc _ hc=>hM c hc,f6.row r1 (nL n1),f6.row r3 (nL ae),by rw[L _ ae];exact f1.1,by rw[L _ ae];exact f3.1,ob,Dr⟩
 rintro xs ρ g ⟨A,n',o',T,rfl,re,I,L,fr,W,q3,z1,z3,ze,Dr⟩;have k0:aG g ⟨A,0,none⟩=some (af e.1):=am re;have k1:aG g ⟨A,1,none⟩=some (af e.2.1):=am re;have F:=I.p id;have bv:=fr.1;have D:∀{o2:Nat→Nat} {P2:ce} {g2:ah},fm C Z K h0 bw bp o2 n' P2 g2→(∀c,c<g.size→o2 c=o' c)→Fr (λc=>o' c≠0∨dQ (some C.E) c) g g2→PTo C Z K h0 bw bp o h n' P2 g2:=λ{o2 P2 g2} a b c=>⟨o2,a,λc hc=>(b c ae).trans (L c hc),fr.after c λc hc h=>h.imp (λh=>by rwa [L c hc]at h) id⟩
 have wP:td C K P k=if e.1=1 then{jl C P k with rows:=oh (K+1) P.rows (k+1:Nat) (P.stamps.getD e.2.1.toNat [])}else if e.1=2 then yZ C (jl C P k) k e else if e.1=3 then Za K (jl C P k) k else jl C P k:=by
  unfold td;rw[au]
 rw[wP];simp only[iC,go_sem,aK,k0];refine ao (λc1=>?_) (λc1=>?_)
 ·rw[aA c1];obtain⟨m1,m2⟩:=h1 c1;obtain⟨m,hm⟩:∃m:Nat,e.2.1=(m:Int):=⟨e.2.1.toNat,ae⟩
  have al:m<P.stamps.length:=ae;obtain⟨Zr,ow,_,_⟩:=I.s id;obtain⟨p,c,a1,a2,a3⟩:=ow.sl.at1 rfl (k:=.i64) (i:=m) al;obtain⟨v,hv,hS⟩:=a3;cases hv;have hi:=Qi hS;refine aQ (λk=>k=g) rfl ?_;refine aC (ptr bp) (λk e=>by rw[e];exact am W) ?_
  try simp only[go_sem,aK]
  refine aC V.vc (λk e=>by rw[e];exact am F) ?_;refine aC (af ((k:Int)+1)) (λk e=>by rw[e];exact am q3) ?_;refine aC (ptr bp) (λk e=>by rw[e];exact am W) ?_
  try simp only[go_sem,aK]
  refine aC V.sv (λk e=>by rw[e];exact am F) ?_;refine aC (af e.2.1) (λk e=>by rw[e];exact k1) ?_;rw[hm,a1,ak];refine aC c (λk e=>by rw[e];exact a2) ?_;rw[who];have bk:=hs _ (cO al);refine(Vt I (i:=k+1) hi bk).mono λr g2 ⟨H2,f2⟩=>⟨n',D (o2:=grow o' 2 g.size g2.size) ⟨V,?_⟩ (λc hc=>iI hc) (f2.mono λc _ hc=>.inl (by have hc:o' c=2:=hc;omega)),Dr⟩
  have e1:P.stamps.getD (m:Int).toNat []=P.stamps[m]:=by rw[eo,dS,iY al];rfl
  rw[e1];exact H2
 rw[az c1];refine ao (λc2=>?_) (λc2=>?_)
 ·rw[aA c2];obtain⟨m1,m2,m3,m4⟩:=h2 c2;have b0:ldV g (ptr b1)=some (ptr bp):=am W;have bo:ldV g (ptr b3)=some (af ((k:Int)+1)):=am q3;have le:aP 4 g (ptr A)=some (evV e):=aU (l:=[af e.1,af e.2.1,af e.2.2.1,af e.2.2.2]) re 4 rfl;have a8:aG g ⟨b1,0,none⟩=some (ptr bp):=am W;have ax:aG g ⟨b3,0,none⟩=some (af ((k:Int)+1)):=am q3;rw[a8,ak,ax,ak,le,ak];refine(zbz O (P:=jl C P k) ⟨V,I⟩ hk hl m1 m2 m3 m4).mono λr g2 ⟨_,o2,a,b,c⟩=>⟨n',D a b c,Dr⟩
 rw[az c2];refine ao (λc3=>?_) (λc3=>?_)
 ·rw[aA c3];refine aQ (λk=>k=g) rfl ?_;refine aC (ptr bp) (λk e=>by rw[e];exact am W) ?_
  try simp only[go_sem,aK]
  refine aC V.vc (λk e=>by rw[e];exact am F) ?_;refine aC (af ((k:Int)+1)) (λk e=>by rw[e];exact am q3) ?_;refine aC (ptr bp) (λk e=>by rw[e];exact am W) ?_
  try simp only[go_sem,aK]
  refine aC V.ev (λk e=>by rw[e];exact am F) ?_;rw[who];refine(Vt I (i:=k+1) (Qi (I.e id)) hf).mono λr g2 ⟨H2,f2⟩=>?_
  have ar:∀{c},o' c=0→¬o' c=2:=λh=>ae
  have a9:=bC W;have aw:=bC q3;have a7:=f2.row W (ar z1);have an:=f2.row q3 (ar z3);have ab:=H2.p id;have hp:=H2.po;rw[who]at an;refine aQ (λk'=>k'[b1]? =some (.cells #[ptr bp] 35 (0,0))∧k'[b3]? =some (.cells #[af ((k+1:Nat):Int)] 3 (0,0))∧k'[bp]? =some (.cells (iH C V {jl C P k with rows:=oh (K+1) (jl C P k).rows (k+1:Nat) (jl C P k).fin}) 106 (0,0))) ⟨a7,an,ab⟩ ?_;refine aC (ptr bp) (λk e=>am e.1) ?_;refine aC (ptr bp) (λk e=>am e.1) ?_
  try simp only[go_sem,aK]
  refine aC V.lv (λk e=>am e.2.2) ?_;refine aC (ptr bp) (λk e=>am e.1) ?_
  try simp only[go_sem,aK]
  refine aC V.vc (λk e=>am e.2.2) ?_;refine aC (af ((k+1:Nat):Int)) (λk e=>am e.2.1) ?_;refine(Vz (H2.c id) ((k+1:Nat):Int)).mono λr g3 ⟨o3,bg,f3,n3⟩=>?_
  have gz:∀{c},c<g.size→o' c=0→¬grow o' 2 g.size g2.size c=2:=λhl h=>by rw[iI hl];omega
  have gp:¬grow o' 2 g.size g2.size bp=2:=ae;have S3:=And.intro (f3.row a7 (gz a9 z1)) (And.intro (f3.row an (gz aw z3)) (f3.row ab gp));refine⟨S3,?_⟩;have ay:Ku (K+1) (oh (K+1) (jl C P k).rows (k+1:Nat) (jl C P k).fin) ((k+1:Nat):Int)=oh (K+1) P.rows (k+1:Nat) P.fin (k+1):=by
   unfold Ku;rw[aA ae,eo];rfl
  rw[ay]at o3;refine H2.rs_push (j:=7) ae (H2.f id) o3 bg f3 n3 rfl bd (λh' e=>⟨e.row S3.1,e.row S3.2.1,e.row S3.2.2⟩) λs' g4 hR H4 fA f4=>?_
  have g7:∀{c},c<g.size→o' c=0→¬grow o' 2 g.size g2.size c=7:=λhl h=>by rw[iI hl];omega
  have ad:=f4.row S3.2.2 (show¬grow o' 2 g.size g2.size bp=7 by omega);refine⟨⟨f4.row S3.1 (g7 a9 z1),f4.row S3.2.1 (g7 aw z3),ad⟩,?_⟩;have os:aR s'=true:=by
   obtain⟨_,o5,_⟩:=hR;exact o5.one
  refine bZ ad (show 11<_ from by simp[iH]) os λg5 r5 u5=>?_
  have H5:=H4.putL hR u5 r5;refine⟨n',D (o2:=grow (grow o' 2 g.size g2.size) 7 g2.size g4.size) ⟨_,H5⟩ (λc hc=>?_) ?_,Dr⟩
  ·have:=f2.1;rw[iI ae,iI hc]
  ·have s2:=f2.1;have F1:Fr (λc=>o' c≠0∨dQ (some C.E) c) g g2:=f2.mono λc _ hc=>.inl (by have hc:o' c=2:=hc;omega)
   have F2:=F1.after fA λc hc h=>.inl (by rw[iI hc]at h;omega)
   exact F2.after u5.fr λc hc h=>.inl (by
    have h:c=bp:=h;rw[h]at hc ⊢;rw[iI hc]at hp;omega)
 rw[az c3];exact⟨n',D ⟨V,I⟩ (λ_ _=>rfl) (Fr.refl _ _),Dr⟩
end
end
section
def zb3 (K:Nat)(P:ce):ce:={P with q:=pS P.q P.sent,rows:=FH (K+1) P.rows 0,stamps:=P.stamps++[P.rows 0],sent:=P.sent+1}
def ZI (K:Nat)(P:ce):ce:={P with q:={P.q with closed:=true},rows:=FH (K+1) P.rows 0,fin:=P.rows 0}
def y5 (K:Nat)(rows:Nat→List Int)(l:List (List Int)):Nat→List Int:=l.foldl (λr s=>oh (K+1) r 0 s) rows
def zb8 (C:C21)(K:Nat)(P:ce):ce:={tH {P with rows:=y5 K P.rows P.left} 0 1 0 (C.d.X*C.d.Y*C.m.c) false with ret:=true}
def GS (C:C21)(K:Nat)(P:ce):ce:=if P.sent<ck C.d then zb3 K P else if P.q.closed=false then ZI K P else zb8 C K P
def pU (C:C21)(K:Nat)(P:ce)(i:Int):ce:=
 if jp C K P i=false then P else if i=0 then GS C K {P with picks:=P.picks+1}else td C K {P with picks:=P.picks+1} (i-1).toNat
section
variable {C:C21}{Z:Nat→Prop}{K:Nat}{h0 h:ah}{bw:Nat→Nat}{bp:Nat}{o:Nat→Nat}{n:Pic}{P:ce}
theorem zcU (O:C.Ok)(H:fm C Z K h0 bw bp o n P h)(hl:P.acc.length≤999999)(bo:P.stamps.length≤1000000)(bg:0≤P.sent)(aw:∀s∈P.left,s.length≤4398046511104)(bk:P.left.length≤1000000)(b1:ck C.d≤1000000):
  ag prog qN #[ptr bp] h λr h'=>PTo C Z K h0 bw bp o h n (GS C K P) h':=by
 have HP:=H;obtain⟨V,H,row⟩:=H.row;apply GG;unfold wH;have hK:=H.few;have c8:aG h ⟨bp,8,none⟩=some (af P.sent):=am row;have c2:aG h ⟨bp,2,none⟩=some (ptr C.bl):=am row;have c3:aG h ⟨bp,3,none⟩=some (ptr C.bq):=am row;have ay:aG h ⟨bp,11,none⟩=some V.lv:=am row;have c4:aG h ⟨bp,4,none⟩=some V.vc:=am row;have c9:aG h ⟨bp,9,none⟩=some V.sv:=am row;have hp:=H.po;have aa:∀rows,Ku (K+1) rows (0:Int)=rows 0:=λrows=>by
  unfold Ku;rw[aA ae];rfl
 refine aQ (λk=>k=h) rfl ?_;simp only[go_sem,aK];refine aC (af P.sent) (λk e=>by rw[e];exact c8) ?_
 try simp only[go_sem,aK]
 refine aC (ptr C.bl) (λk e=>by rw[e];exact c2) ?_;refine ag.at (Dc H.pl O.d) ⟨rfl,?_⟩;unfold GS;rw[cD,ak];refine ao (λg1=>?_) (λg1=>?_)
 ·rw[aA g1];refine aQ (λk=>k=h) rfl ?_;refine aC (ptr C.bq) (λk e=>by rw[e];exact c3) ?_
  try simp only[go_sem,aK]
  refine aC (af P.sent) (λk e=>by rw[e];exact c8) ?_;refine(zbv (H.q id)).mono λr g2 ⟨_,q2,f2⟩=>?_
  have al:Fr (λc=>(λk=>k=1) (o c)) h g2:=f2;have F:=H.take (H.chg (A:=λk=>k=1) ae al) (b:=1);have F:=(F.less (Y:=λk=>False∨k=1) λk hk=>by rcases hk with (h|h)|h<;>first|exact h.elim|exact .inr h).fq (q:=pS P.q P.sent) (by
   have e:(λc=>grow o 1 h.size g2.size c=1)=qE (λc=>o c=1) h g2:=by
    funext c
    refine propext ?_;unfold grow;split
    ·rename_i h3;exact⟨λ_=>.inr h3,λ_=>rfl⟩
    ·rename_i h3;exact⟨.inl,λh=>h.elim id λh=>absurd h h3⟩
   rw[e];exact q2)
  have D:=F.p id;have b0:=F.po;have s2:=f2.1;refine aQ (λk=>k[bp]? =some (.cells (iH C V {P with q:=pS P.q P.sent}) 106 (0,0))) D ?_;refine aC V.sv (λk e=>am e) ?_
  try simp only[go_sem,aK]
  refine aC V.vc (λk e=>am e) ?_;refine(Vz (F.c id) 0).mono λr U ⟨W,an,f3,n3⟩=>?_
  rw[aa]at W;have S3:=f3.row D (show¬grow o 1 h.size g2.size bp=2 by omega);refine⟨S3,?_⟩;refine F.rs_push (j:=6) ae (F.s id) W an f3 n3 rfl (by show P.stamps.length≤_;omega) (λh' e=>e.row S3) λs' g4 hR H4 fA f4=>?_
  have au:=f4.row S3 (show¬grow o 1 h.size g2.size bp=6 by omega);have os:aR s'=true:=by
   obtain⟨_,o5,_⟩:=hR;exact o5.one
  try simp only[go_sem,aK]
  refine bZ au (show 9<_ from by simp[iH]) os λg5 r5 u5=>?_
  have H5:=H4.putS hR u5 r5;have bc:aG g5 ⟨bp,8,none⟩=some (af P.sent):=am (H5.p id);simp only[go_sem,aK,bc];rw[w64 (n:=P.sent+1) ae ae];refine bZ (H5.p id) (show 8<_ from by simp[iH]) rfl λg6 r6 u6=>?_
  have H6:=H5.setrow u6 (st:=P.sent+1) (rt:=P.ret) (pk:=P.picks) r6;refine⟨grow (grow o 1 h.size g2.size) 6 g2.size g4.size,⟨_,H6⟩,λc hc=>?_,?_⟩
  ·rw[iI ae,iI hc]
  ·have F1:Fr (λc=>o c≠0∨dQ (some C.E) c) h g2:=f2.mono λc _ hc=>.inl (by have hc:o c=1:=hc;omega)
   have F2:=F1.after fA λc hc h=>.inl (by rw[iI hc]at h;omega)
   have F3:=F2.after u5.fr λc hc h=>.inl (by have h:c=bp:=h;rw[h];omega)
   exact F3.after u6.fr λc hc h=>.inl (by have h:c=bp:=h;rw[h];omega)
 ·rw [az g1];rw[c3,ak];refine ag.at (P3 (H.q id)) ?_;cases hc:P.q.closed with
  | false=>
   rw[aA rfl];simp only[go_sem,aK,c3];refine(T9 (H.q id)).mono λr g2 ⟨_,q2,f2⟩=>?_
   have al:Fr (λc=>(λk=>k=1) (o c)) h g2:=f2;have F:=(H.chg (A:=λk=>k=1) ae al).fq q2;have D:=F.p id;have ad:aG g2 ⟨bp,4,none⟩=some V.vc:=am D;simp only[go_sem,aK,ad];refine(Vz (F.c id) 0).mono λr U ⟨W,an,f3,n3⟩=>?_
   rw[aa]at W;have a7:Fr (λc=>(λk=>k=2) (o c)) g2 U:=f3;have H3:=F.take (F.chg (A:=λk=>k=2) ae a7) (b:=8);have H3:=(H3.less (Y:=λk=>k=8∨k=2) λk hk=>by rcases hk with (h|h)|h<;>first|exact h.elim|exact .inr h|exact .inl h).fc (r:=FH (K+1) P.rows 0) (by rw[Zf (λc hc=>(F.fresh hc).1) ae ae];exact an);have G:=f3.row D (show¬o bp=2 by omega);have hs:Rp.Sl (Rp.int .i64) (λc=>grow o 8 g2.size U.size c=8) U r (P.rows 0):=zy W.ints λ_ c hc=>by
    unfold grow;rw[aA ⟨n3 c hc,Own.lt W hc⟩]
   refine bZ G (show 10<_ from by simp[iH]) (CL W) λg4 r4 u4=>?_
   have H4:=H3.putE hs u4 r4;have s2:=f2.1;refine⟨grow o 8 g2.size U.size,⟨_,H4⟩,λc hc=>iI ae,?_⟩;have F1:Fr (λc=>o c≠0∨dQ (some C.E) c) h g2:=f2.mono λc _ hc=>.inl (by have hc:o c=1:=hc;omega)
   have F2:=F1.after f3 λc hc h=>.inl ae
   exact F2.after u4.fr λc hc h=>.inl (by have h:c=bp:=h;rw[h];omega)
  | true=>
   rw[az (by simp)];simp only[go_sem,aK,ay];have bd:=(H.f id).len;rw[bd,ak];refine bI (α:=Unit) P.left.length 0 (λi _=>[af (i:Int)]) (λi _ g=>∃o',aT (λ_=>False) C Z K h0 bw bp o' n V {P with rows:=y5 K P.rows (P.left.take i)} g∧(∀c,c<h.size→o' c=o c)∧Fr (λc=>o c≠0∨dQ (some C.E) c) h g) () rfl (b9 _) ⟨o,H,λ_ _=>rfl,Fr.refl _ _⟩ λi _ g again ρ _ hi ⟨o',I,oo,f⟩ a9=>?_
   have ab:=I.p id;have ad:aG g ⟨bp,4,none⟩=some V.vc:=am ab;have be:aG g ⟨bp,1,none⟩=some (ptr C.bt):=am ab;have sg:=f.1;simp only[iC];rw[cD,ak];refine ao (λg2=>?_) (λg2=>?_)
   ·have L:i<P.left.length:=ae;have ax:(i:Int)+1=((i+1:Nat):Int):=ae;obtain⟨Zr,ow,_,_⟩:=I.f id;obtain⟨p,c,a1,a2,a3⟩:=ow.sl.at1 rfl (k:=.i64) (i:=i) L;obtain⟨v,hv,hS⟩:=a3;cases hv;have a8:=aw _ (cO L);rw[a1,ak,a2,ak];simp only[go_sem,aK,ad];refine(Vt I (i:=0) (Qi hS) a8).mono λr U ⟨H3,f3⟩=>?_
    rw[w64 (n:=(i:Int)+1) ae ae,ax];refine a9 () U L ⟨grow o' 2 g.size U.size,?_,λc hc=>by rw[iI ae];exact oo c hc,f.after f3 λc hc h=>.inl (by rw[←oo c hc];have h:o' c=2:=h;omega)⟩;have e:y5 K P.rows (P.left.take (i+1))=oh (K+1) (y5 K P.rows (P.left.take i)) 0 P.left[i]:=by
     unfold y5;rw[jU L,CP];rfl
    rw[e];exact H3
   ·have:i=P.left.length:=ae;subst this;rw[KD]at I;simp only[go_sem,aK,be];obtain⟨s1,s2,s3,s4,s5⟩:=I.sui.2;refine ag.at (Ft I.set.out I.sui.1.fits) ?_;have bf:=du I.sui.1.fits;have ar:1≤n.w*n.h*n.c:=wT (wT ae ae) ae;have en:n.w*n.h*n.c=C.d.X*C.d.Y*C.m.c:=by rw[s2,s3,s4];rfl
    rw[en]at ar bf ⊢;refine(Fu (P:={P with rows:=y5 K P.rows P.left}) ⟨V,I⟩ (who:=0) ae (by show P.acc.length≤_;omega) ae ae ar ae).mono λr U ⟨_,W,H3,q3,f3⟩=>?_
    obtain⟨V3,B3,G⟩:=H3.row
    try simp only[go_sem,aK]
    refine bZ G (show 12<_ from by simp[iH]) rfl λg4 r4 u4=>?_
    have bv:=B3.po;have H4:=B3.setrow u4 (st:=P.sent) (rt:=true) (pk:=P.picks) r4;refine⟨W,⟨_,H4⟩,λc hc=>(q3 c ae).trans (oo c hc),?_⟩;have F2:=f.after f3 λc hc h=>by rwa [oo c hc]at h
    exact F2.after u4.fr λc hc h=>.inl (by have h:c=bp:=h;rw[←oo c hc,←q3 c ae,h];omega)
end
end
end Go.Proofs.YtjljhnandbbldaaGreatDoor
namespace Go.Proofs.YtjljhnandbbldaaGreatDoor
open Go Go.Crisp
attribute [local irreducible] ag di aW stK aF vK qK bK gK fo bA mkK dk Fm GM CJ bsK clK tW oA V0
structure Sm (C:C21)(sent:Int)(w:WD)(words:Int):Prop where
 tl:∀x∈w.tiles,0≤x∧x<sent
 st:(w.state=1∧uo (some C.E) w.job∧w.tiles≠[])∨((w.state=0∨w.state=2)∧w.job=none)
 jb:∀t y e,w.job=some (t,y,e)→t=aO C.d (w.tiles.getLast?.getD 0)∧words=sD C (w.tiles.getLast?.getD 0)
structure lV (C:C21)(K:Nat)(P:ce):Prop where
 sent:0≤P.sent∧P.sent≤ck C.d
 st:(P.stamps.length:Int)=P.sent
 q:∀x∈P.q.l,0≤x∧x<P.sent
 w:∀i,i<K→Sm C P.sent (P.ws i) (P.words i)
 tn:∀i,i<K→((P.ws i).tiles.length:Int)≤P.picks
 rows:∀i,i≤K→(P.rows i).length=K+1
 ss:∀s∈P.stamps,s.length=K+1
 fn:P.fin.length≤K+1
 ls:∀s∈P.left,s.length=K+1
 ln:(P.left.length:Int)≤P.picks
 ac:(P.acc.length:Int)≤2+2*P.picks
 pk:0≤P.picks
 cl:P.q.closed=true→P.sent=ck C.d
theorem Lh {n:Nat}{rows:Nat→List Int}(h:∀i,i<n→(rows i).length=n)(i:Int):∀j,j<n→(FH n rows i j).length=n:=by
 intro j A;unfold FH;split
 ·rename_i hi;by_cases e:j=i.toNat
  ·simp only[e,cJ,GU];exact h _ ae
  ·simp only[e,cE];exact h j A
 ·exact h j A
theorem ME {n:Nat}{rows:Nat→List Int}(h:∀i,i<n→(rows i).length=n)(i:Int)(s:List Int):∀j,j<n→(oh n rows i s j).length=n:=by
 intro j D;unfold oh;split
 ·rename_i A;unfold Kw at A;simp only[dj,dI]at A;by_cases e:j=i.toNat
  ·simp only[e,cJ,zw];rw[h _ ae,A.2.1,Nat.max_self]
  ·simp only[e,cE];exact h j D
 ·exact h j D
theorem Yx {C:C21}(O:C.Ok){x:Int}(h1:0≤x)(A:x<ck C.d):1≤sD C x∧sD C x≤100000000000:=by
 have H:=du O.m.fits;have G:=jJ O.d h1 A;unfold fh at G;have I:1*1≤(aO C.d x).w*C.m.c:=ks ae ae ae ae;have D:1≤(iG (bH C.d.s.y.lines):Int)∧(iG (bH C.d.s.y.lines):Int)≤65536:=by unfold iG;omega
 have F:1≤(fB ((aO C.d x).w*C.m.c):Int)∧(fB ((aO C.d x).w*C.m.c):Int)≤262144:=by unfold fB;omega
 have h1:1*1≤(iG (bH C.d.s.y.lines):Int)*(fB ((aO C.d x).w*C.m.c):Int):=ks D.1 F.1 ae ae;have A:=ks D.2 F.2 ae (show(0:Int)≤65536 by omega);unfold sD;omega
theorem Ty {l:List Int}(h:l≠[]):l.getLast?.getD 0∈l:=by
 rw[List.getLast?_eq_some_getLast h];exact List.getLast_mem h
theorem Sm.step {C:C21}{sent:Int}{w:WD}{words:Int}{q:QD}(H:Sm C sent w words)(hq:∀x∈q.l,0≤x∧x<sent):
  Sm C sent (cW (some C.E) (C.jo (bR q)) w q).1 (if w.state=0∧dX q=0 then sD C (bR q)else words):=by
 have W:∀(jo:Option (cZ×Int×Int)) (tl:List Int),(jo≠none→tl≠[])→(stJ (cH (some C.E) jo)=1∧uo (some C.E) (cH (some C.E) jo)∧tl≠[])∨((stJ (cH (some C.E) jo)=0∨stJ (cH (some C.E) jo)=2)∧cH (some C.E) jo=none):=λjo tl h=>by
  rcases Ip (some C.E) jo with⟨h1,L,F⟩|h1
  ·refine .inl ⟨?_,L,h ?_⟩
   ·rcases Bs (E:=some C.E) (jo:=jo)with h|h
    ·exact h.1
    ·exact absurd h.2 h1
   ·rw[←F];exact h1
  ·refine .inr ⟨?_,h1⟩;rw[h1];exact .inl rfl
 have I:∀(jo:Option (cZ×Int×Int)) t y e,cH (some C.E) jo=some (t,y,e)→jo=some (t,y,e):=λjo t y e h=>by
  rcases Ip (some C.E) jo with⟨_,_,F⟩|h1
  ·rw[←F];exact h
  ·rw[h1]at h;cases h
 obtain⟨st,tl,jo,wd⟩:=w;obtain⟨h1,L,F⟩:=H;unfold cW;rcases L with⟨A,G,s3⟩|⟨A|A,G⟩
 ·have A:st=1:=A;subst A;cases jo with
  |none=>exact(show False from G).elim
  |some x=>
   obtain⟨t,y,e⟩:=x;rw[aA rfl,az (show¬((1:Int)=0∧_)from λh=>ae)];refine⟨h1,W _ _ λ_=>s3,λt' y' e' h=>?_⟩;have h:=I (some (t,gj (C.E.d t) y e,ir (C.E.d t) y e)) _ _ _ h;have h:some (t,gj (C.E.d t) y e,ir (C.E.d t) y e)=some (t',y',e'):=h;cases h;exact F t y e rfl
 ·have A:st=0:=A;subst A;have G:jo=none:=G;subst G;rw[az (show¬(0:Int)=1 by omega),az (show¬(0:Int)=2 by omega)];by_cases D:dX q=0
  ·rw[aA D,aA ⟨rfl,D⟩];have hm:bR q∈q.l:=by
    unfold dX at D;unfold bR;cases hl:q.l with
    |nil=>rw[hl,aA rfl]at D;split at D<;>omega
    |cons a l=>simp
   have hx:=hq _ hm;refine⟨λx U=>?_,W _ _ λ_=>by simp[Ac],λt y e h=>?_⟩
   ·rcases gX.1 U with h|h
    ·exact h1 x h
    ·rw[iy.1 h];exact hx
   ·have h:=I (C.jo (bR q)) _ _ _ h;have h:some (PE C.d (bR q))=some (t,y,e):=h;unfold PE at h;cases h;show _=aO C.d ((tl++[bR q]).getLast?.getD 0)∧_=sD C ((tl++[bR q]).getLast?.getD 0);simp
  ·rw[az D,az (show¬((0:Int)=0∧dX q=0)from λh=>D h.2)];split
   ·exact⟨h1,.inr ⟨.inr rfl,rfl⟩,λt y e h=>by cases h⟩
   ·exact⟨h1,.inr ⟨.inl rfl,rfl⟩,λt y e h=>by cases h⟩
 ·have A:st=2:=A;subst A;rw[az (show¬(2:Int)=1 by omega),aA rfl,az (show¬((2:Int)=0∧_)from λh=>ae)];exact⟨h1,.inr ⟨.inr rfl,G⟩,F⟩
end Go.Proofs.YtjljhnandbbldaaGreatDoor
namespace Go.Proofs.YtjljhnandbbldaaGreatDoor
open Go Go.Crisp
attribute [local irreducible] ag di aW stK aF vK qK bK gK fo bA mkK dk Fm GM CJ bsK clK tW oA V0
open _root_.Go.Proofs.Tryz
section
structure DV where
 X:Value
 Y:Value
 tv:Value
 mv:Value
 ql:Value
 cv:Value
 wv:Value
 av:Value
 st:Value
 en:Value
 lf:Value
def dpC (C:C21)(P:ce)(V:DV):List Value:=[V.X,V.Y,.int .i64 C.d.s.x.n,.int .i64 C.d.s.y.n,.int .i64 C.d.s.border,.int .i64 C.m.c,V.tv,V.mv,.int .i64 P.q.room,V.ql,.bool P.q.closed,V.cv,V.wv,V.av,.int .i64 P.sent,.bool P.q.closed,.bool P.ret,V.st,V.en,V.lf]
structure DAt (Z:Nat→Prop)(C:C21)(K N:Nat)(P:ce)(V:DV)(h:ah):Prop where
 x:Rp.Sl mg Z h V.X C.d.s.x.lines
 y:Rp.Sl mg Z h V.Y C.d.s.y.lines
 t:Rp.Sl Ed Z h V.tv (dB C.d N)
 m:Rp.Sl zcl Z h V.mv (EZ C N)
 q:Rp.Sl (Rp.int .i64) Z h V.ql P.q.l∧Rp.SlCap V.ql
 c:Rp.Sl rIs Z h V.cv ((List.range (K+1)).map P.rows)
 w:Rp.Sl rVD Z h V.wv ((List.range K).map λi=>vOf C.E (P.ws i))
 a:Rp.Sl xq Z h V.av P.acc
 s:Rp.Sl rIs Z h V.st P.stamps
 e:Rp.Sl (Rp.int .i64) Z h V.en P.fin
 f:Rp.Sl rIs Z h V.lf P.left
section
variable {Z:Nat→Prop}{C:C21}{K N:Nat}{P:ce}{V:DV}{h:ah}
theorem DAt.fr {M:Nat→Prop}{h':ah}(H:DAt Z C K N P V h)(f:Fr M h h')(q:∀b,b<h.size→Z b→¬M b):DAt Z C K N P V h':=
 ⟨H.x.fr f q,H.y.fr f q,H.t.fr f q,H.m.fr f q,⟨H.q.1.fr f q,H.q.2⟩,H.c.fr f q,H.w.fr f q,H.a.fr f q,H.s.fr f q,H.e.fr f q,H.f.fr f q⟩
theorem DAt.ext {h':ah}(H:DAt Z C K N P V h)(k:Ext h h'):DAt Z C K N P V h':=H.fr (M:=λ_=>False) k.fr λ_ _ _=>id
theorem DAt.mono {Z':Nat→Prop}(H:DAt Z C K N P V h)(q:∀b,b<h.size→Z b→Z' b):DAt Z' C K N P V h:=
 ⟨H.x.mono q,H.y.mono q,H.t.mono q,H.m.mono q,⟨H.q.1.mono q,H.q.2⟩,H.c.mono q,H.w.mono q,H.a.mono q,H.s.mono q,H.e.mono q,H.f.mono q⟩
theorem DAt.ones (H:DAt Z C K N P V h):∀v∈dpC C P V,aR v=true:=
 aq H.x.one (aq H.y.one (aq rfl (aq rfl (aq rfl (aq rfl (aq H.t.one (aq H.m.one (aq rfl (aq H.q.1.one (aq rfl (aq H.c.one (aq H.w.one (aq H.a.one (aq rfl (aq rfl (aq rfl (aq H.s.one (aq H.e.one (aq H.f.one aX)))))))))))))))))))
end
def DTo (Z:Nat→Prop)(C:C21)(K N:Nat)(h:ah)(P:ce)(r:Value)(h':ah):Prop:=∃Z' V,r=.agg (dpC C P V).toArray∧DAt Z' C K N P V h'∧(∀c,Z' c→(Z c∨h.size≤c)∧c<h'.size)∧Ext h h'
theorem zaJ {h:ah}{L F:Nat}{l:List Value}{T:TypeId}{A:Array Value}{n:Nat}{R:Value→ah→Prop}(r1:h[L]? =some (.cells l.toArray T (0,0)))(U:h[F]? =some (.cells A T (0,0)))(H:l.length=n)(ho:A.size=n)(h1:∀v∈l,aR v=true)
  (W:∀h',Upd F h h'→R (.agg l.toArray) h'):vK (aP n h (ptr L)) λG=>stK n (ptr F) G h λaa D=>vK (aP n D (ptr F)) λI=>R I D:=by
 rw[aU r1 n H,ak];refine cT U ae h1 H λh' r' u=>?_
 rw[aU r' n H,ak];exact W h' u
theorem zcm {Z:Nat→Prop}{h:ah}{v:Value}{l:List (List Int)}{k:IntKind}{i:Nat}(H:Rp.Sl rIs Z h v l)(hi:i<l.length):∃p s,bh 1 v (.int k (i:Int))=some p∧ldV h p=some s∧Rp.Sl (Rp.int .i64) Z h s l[i]:=by
 obtain⟨b,o,cs,h1,F,D,⟨s,rfl,A⟩,_⟩:=H.atp (show 0<rIs.w from Nat.one_pos) (k:=k) hi;refine⟨_,s,h1,?_,A⟩;rw[un];exact D 0 (by simp)
section
variable {Z:Nat→Prop}{C:C21}{K N:Nat}{P:ce}{V:DV}{h:ah}
theorem PU (H:DAt Z C K N P V h)(zl:∀c,Z c→c<h.size){who:Nat}(hw:who≤K){buf lo cnt:Int}{wr:Bool}(hl:P.acc.length≤1000000)(h1:0≤lo)(h2:0≤cnt)(h3:lo+cnt≤1000000000000):
  ag prog uz #[.agg (dpC C P V).toArray,af (who:Int),af buf,af lo,af cnt,.bool wr] h (DTo Z C K N h (tH P who buf lo cnt wr)):=by
 apply Og;unfold DD;rw[bP];refine aI λL g1 r1 e1 n1=>aI λb3 g3 r3 e3 n3=>?_
 have k1:=bC r1;have k3:=bC r3;have s1:=e1.1;have s3:=e3.1;have r1:=e3.row r1;have H3:=H.ext (e1.trans e3);have ab:aG g3 ⟨L,11,none⟩=some V.cv:=am r1;simp only[go_sem,aK,ab];have aa:who<((List.range (K+1)).map P.rows).length:=by simp;omega
 obtain⟨p,s,i1,i2,i3⟩:=zcm (k:=.i64) H3.c aa;have e0:((List.range (K+1)).map P.rows)[who]=P.rows who:=by simp
 rw[e0]at i3;simp only[go_sem,i1,i2];rw[w64 (n:=lo+cnt) ae ae,TK i3.one,bG,ak];have oa:∀v∈[af (who:Int),s,af buf,af lo,af (lo+cnt),.bool wr],aR v=true:=aq rfl (aq i3.one (aq rfl (aq rfl (aq rfl (aq rfl aX)))));refine dh (cs:=[af (who:Int),s,af buf,af lo,af (lo+cnt),.bool wr]) rfl oa rfl λb5 G r5 U n5=>?_
 have s5:=U.1;have k5:=bC r5;have E5:Ext h G:=e1.trans (e3.trans U);have H5:=H3.ext U;have W:=U.row r1;have an:=U.row r3;refine bB (λxs g=>xs=[]∧∃Z' A,DAt Z' C K N (tH P who buf lo cnt wr) {V with av:=A} g∧g[L]? =some (.cells (dpC C (tH P who buf lo cnt wr) {V with av:=A}).toArray 48 (0,0))∧g[b3]? =some (.cells aJ 48 (0,0))∧(∀c,Z' c→(Z c∨h.size≤c)∧c<g.size∧c≠b3)∧Ext h g) ?_ ?_
 ·refine aQ (Ext G) (Ext.refl _) ?_;have M0:Cp xq Z G none none G:=Cp.start G λc hc=>bX (zl c hc) E5.1
  have q1:∀D,Ext G D→aG D ⟨L,13,none⟩=some V.av:=λD e=>am (e.row W)
  have q2:∀D,Ext G D→aP 6 D (ptr b5)=some (.agg [af (who:Int),s,af buf,af lo,af (lo+cnt),.bool wr].toArray):=λD e=>aU (e.row r5) 6 rfl
  refine aC V.av q1 ?_;refine aC _ q2 ?_;have hx:xq.R Z G [af (who:Int),s,af buf,af lo,af (lo+cnt),.bool wr] ⟨who,P.rows who,buf,lo,lo+cnt,wr⟩:=⟨s,rfl,i3.ext U⟩
  have fin:∀A D,Rp.Ow xq Z D A (([]:List Acc)++P.acc++[⟨who,P.rows who,buf,lo,lo+cnt,wr⟩])→Ext G D→(∀b,blk A b→G.size≤b)→stK 1 (.pointer (some ⟨L,13,none⟩)) A D λ_ F=>([]:List Value)=[]∧∃Z' A,DAt Z' C K N (tH P who buf lo cnt wr) {V with av:=A} F∧F[L]? =some (.cells (dpC C (tH P who buf lo cnt wr) {V with av:=A}).toArray 48 (0,0))∧F[b3]? =some (.cells aJ 48 (0,0))∧(∀c,Z' c→(Z c∨h.size≤c)∧c<F.size∧c≠b3)∧Ext h F:=by
   intro A D o e n;have ad:=e.row W;refine bZ ad (by show 13<(dpC C P V).toArray.size;simp[dpC]) o.one λg7 r7 u7=>⟨rfl,λc=>(Z c∧c<h.size)∨blk A c,A,?_,r7,u7.row ae (e.row an),λc hc=>?_,(E5.trans e).upd n1 u7⟩
   ·have hz:∀c,Z c→¬c=L:=λc hc h=>by have:=zl c hc;omega
    have H7:=((H5.ext e).mono (Z':=λc=>(Z c∧c<h.size)∨blk A c) λc _ hc=>.inl ⟨hc,zl c hc⟩)
    have o7:Rp.Sl xq (λc=>(Z c∧c<h.size)∨blk A c) D A (P.acc++[⟨who,P.rows who,buf,lo,lo+cnt,wr⟩]):=o.sl.mono λc _ hc=>hc.imp (λhc=>⟨hc,zl c hc⟩) id
    have q:∀c,c<D.size→((Z c∧c<h.size)∨blk A c)→¬c=L:=λc _ hc h=>by
     rcases hc with hc|hc
     ·exact hz c hc.1 h
     ·have:=n c hc;omega
    have I:=H7.fr u7.fr q;exact⟨I.x,I.y,I.t,I.m,I.q,I.c,I.w,o7.fr u7.fr q,I.s,I.e,I.f⟩
   ·have s7:=u7.1;have se:=e.1;rcases hc with hc|hc
    ·exact⟨.inl hc.1,ae,ae⟩
    ·have:=n c hc;have:=o.lt hc;exact⟨.inr ae,ae,ae⟩
  repeat' first
   |exact fin _ _ ‹_› ‹_› ‹_›
   |exact Cp.ext ‹Cp _ _ _ _ _ _›
   |exact ‹Ext G _›
   |refine And.intro ?_ ?_
   |refine Cp.row0 ‹Cp _ _ _ none _ _› λv D M=>?_
   |refine Cp.row1 (e:=xq) ‹Cp xq _ _ _ none _› hx rfl λv D M=>?_
   |refine Cp.app (e:=xq) (l:=[]) ‹Cp xq _ _ (some (_,[])) _ _› H5.a rfl (by simp;omega) (by simp;omega) λv D M=>?_
   |refine Cp.app1 (e:=xq) (l:=[]++P.acc) ‹Cp xq _ _ (some (_,[]++P.acc)) (some _) _› rfl (by simp;omega) (by simp;omega) λv D o e n=>?_
 ·rintro xs ρ g6 ⟨rfl,Z',A,H6,r6,al,z6,E6⟩;refine zaJ r6 al rfl rfl H6.ones λg8 u8=>⟨Z',_,rfl,H6.fr u8.fr λc _ hc=>(z6 c hc).2.2,λc hc=>⟨(z6 c hc).1,by rw[u8.1];exact(z6 c hc).2.1⟩,E6.upd ae u8⟩
end
end
section
section
variable {C:C21}{K:Nat}{P:ce}
theorem Sm.more {s A:Int}{w:WD}{k:Int}(H:Sm C s w k)(h:s≤A):Sm C A w k:=⟨λx D=>by have:=H.tl x D;omega,H.st,H.jb⟩
theorem zaF (H:lV C K P)(h:P.sent<ck C.d):lV C K (zb3 K {P with picks:=P.picks+1}):=by
 have h1:=H.sent;have G:=H.st;have F:=H.pk;refine⟨⟨by show 0≤P.sent+1;omega,by show P.sent+1≤_;omega⟩,by show((P.stamps++[P.rows 0]).length:Int)=P.sent+1;rw[cz];simp only[oD,kS];omega,λx A=>?_,λi hi=>(H.w i hi).more (by show P.sent≤P.sent+1;omega),λi hi=>by have:=H.tn i hi;show _≤P.picks+1;exact y8 this ae,λi hi=>Lh (λj I=>H.rows j ae) 0 i ae,λs D=>?_,H.fn,H.ls,by have:=H.ln;show _≤P.picks+1;exact y8 this ae,by have:=H.ac;show(P.acc.length:Int)≤2+2*(P.picks+1);omega,by show 0≤P.picks+1;omega,λhc=>?_⟩
 ·have A:x∈(pS P.q P.sent).l:=A;show 0≤x∧x<P.sent+1;unfold pS at A;split at A
  ·have:=H.q x A;omega
  ·split at A
   ·have:=H.q x A;omega
   ·rcases gX.1 A with A|A
    ·have:=H.q x A;omega
    ·have:=iy.1 A;omega
 ·rcases gX.1 D with D|D
  ·exact H.ss s D
  ·rw[iy.1 D];exact H.rows 0 ae
 ·have hc:(pS P.q P.sent).closed=true:=hc;have hc:P.q.closed=true:=by
   unfold pS at hc;split at hc
   ·exact hc
   ·split at hc<;>exact hc
  have:=H.cl hc;omega
theorem ZH (H:lV C K P)(h:¬P.sent<ck C.d):lV C K (ZI K {P with picks:=P.picks+1}):=by
 have h1:=H.sent;have A:=H.pk;exact⟨H.sent,H.st,H.q,H.w,λi hi=>by have:=H.tn i hi;show _≤P.picks+1;exact y8 this ae,λi hi=>Lh (λj D=>H.rows j ae) 0 i ae,H.ss,by show(P.rows 0).length≤_;rw[H.rows 0 ae];exact cq _,H.ls,by have:=H.ln;show _≤P.picks+1;exact y8 this ae,by have:=H.ac;show(P.acc.length:Int)≤2+2*(P.picks+1);omega,by show 0≤P.picks+1;omega,λ_=>by show P.sent=_;omega⟩
theorem zbX {rows:Nat→List Int}(h:∀i,i≤K→(rows i).length=K+1):∀(l:List (List Int)) i,i≤K→(y5 K rows l i).length=K+1:=by
 intro l;induction l generalizing rows with
 |nil=>exact h
 |cons s l A=>exact A (rows:=oh (K+1) rows 0 s) λi hi=>ME (λj D=>h j ae) 0 s i ae
theorem zbj (H:lV C K P):lV C K (zb8 C K {P with picks:=P.picks+1}):=by
 have A:=H.pk;exact⟨H.sent,H.st,H.q,H.w,λi hi=>by have:=H.tn i hi;show _≤P.picks+1;exact y8 this ae,zbX H.rows P.left,H.ss,H.fn,H.ls,by have:=H.ln;show _≤P.picks+1;exact y8 this ae,by have:=H.ac;show((P.acc++[_]).length:Int)≤2+2*(P.picks+1);rw[cz];simp only[oD,kS];omega,by show 0≤P.picks+1;omega,H.cl⟩
theorem zaD {E:Option WE}{jo:Option (cZ×Int×Int)}{w:WD}{q:QD}:(∀x∈(cW E jo w q).2.1.l,x∈q.l)∧(cW E jo w q).2.1.closed=q.closed:=by
 have A:(∀x∈(pT q).l,x∈q.l)∧(pT q).closed=q.closed:=⟨λx D=>List.mem_of_mem_tail D,rfl⟩
 unfold cW;split
 ·split
  ·exact⟨λ_ h=>h,rfl⟩
  ·exact⟨λ_ h=>h,rfl⟩
 ·split
  ·exact⟨λ_ h=>h,rfl⟩
  ·split
   ·exact A
   ·split<;>exact A
theorem zaC (H:lV C K P){k:Nat}(A:k<K):lV C K (jl C {P with picks:=P.picks+1} k):=by
 have G:=H.pk;have hq:=zaD (E:=some C.E) (jo:=C.jo (bR P.q)) (w:=P.ws k) (q:=P.q);have F:=(H.w k A).step H.q;have I:=SD (E:=some C.E) (jo:=C.jo (bR P.q)) (w:=P.ws k) (d:=P.q);refine⟨H.sent,H.st,λx D=>H.q x (hq.1 x D),λi hi=>?_,λi hi=>?_,H.rows,H.ss,H.fn,H.ls,by have:=H.ln;show _≤P.picks+1;exact y8 this ae,by have:=H.ac;show(P.acc.length:Int)≤2+2*(P.picks+1);omega,by show 0≤P.picks+1;omega,λhc=>H.cl (by rw[←hq.2];exact hc)⟩
 ·by_cases e:i=k
  ·subst e;show Sm C P.sent (if i=i then(cW (some C.E) (C.jo (bR P.q)) (P.ws i) P.q).1 else P.ws i) (if i=i∧(P.ws i).state=0∧dX P.q=0 then sD C (bR P.q)else P.words i);simp only[cJ,CX];exact F
  ·show Sm C P.sent (if i=k then _ else P.ws i) (if i=k∧_ then _ else P.words i);rw[az e,az λh=>e h.1];exact H.w i hi
 ·by_cases e:i=k
  ·subst e;show(((if i=i then(cW (some C.E) (C.jo (bR P.q)) (P.ws i) P.q).1 else P.ws i).tiles.length:Nat):Int)≤P.picks+1;rw[aA rfl];have:=H.tn i A;omega
  ·show(((if i=k then(cW (some C.E) (C.jo (bR P.q)) (P.ws k) P.q).1 else P.ws i).tiles.length:Nat):Int)≤P.picks+1;rw[az e];have:=H.tn i hi;omega
theorem zaw (H:lV C K P){k:Nat}(I:k<K):lV C K (td C K {P with picks:=P.picks+1} k):=by
 have S:=zaC H I;have L:=H.ac;have U:=H.ln;unfold td;split
 ·exact⟨S.sent,S.st,S.q,S.w,S.tn,λi hi=>ME (λj G=>H.rows j ae) _ _ i ae,S.ss,S.fn,S.ls,S.ln,S.ac,S.pk,S.cl⟩
 ·split
  ·have D:((yZ C (jl C {P with picks:=P.picks+1} k) k (evP C {P with picks:=P.picks+1} k)).acc.length:Int)≤2+2*(P.picks+1):=by
    unfold yZ;split
    ·show(((P.acc++[_])++[_]).length:Int)≤_;simp only[cz,oD,kS];omega
    ·show(((P.acc++[_])++[_]).length:Int)≤_;simp only[cz,oD,kS];omega
   unfold yZ at D ⊢;split at D
   ·rename_i hc;rw[aA hc];exact⟨S.sent,S.st,S.q,S.w,S.tn,S.rows,S.ss,S.fn,S.ls,S.ln,D,S.pk,S.cl⟩
   ·rename_i hc;rw[az hc];exact⟨S.sent,S.st,S.q,S.w,S.tn,S.rows,S.ss,S.fn,S.ls,S.ln,D,S.pk,S.cl⟩
  ·split
   ·have F:∀i,i≤K→(oh (K+1) P.rows (k+1:Nat) P.fin i).length=K+1:=λi hi=>ME (λj G=>H.rows j ae) _ _ i ae
    refine⟨S.sent,S.st,S.q,S.w,S.tn,λi hi=>Lh (λj G=>F j ae) _ i ae,S.ss,S.fn,λs A=>?_,?_,S.ac,S.pk,S.cl⟩
    ·rcases gX.1 A with A|A
     ·exact H.ls s A
     ·rw[iy.1 A];exact F (k+1) ae
    ·show((P.left++[_]).length:Int)≤P.picks+1;rw[cz];simp only[oD,kS];omega
   ·exact S
theorem VX (H:lV C K P)(i:Int):lV C K (pU C K P i):=by
 unfold pU;split
 ·exact H
 ·rename_i A;split
  ·unfold GS;split
   ·rename_i h;exact zaF H h
   ·rename_i h;split
    ·exact ZH H h
    ·exact zbj H
  ·rename_i h0;have hi:0<i∧i≤K:=by
    unfold jp at A;split at A
    ·exact absurd rfl A
    ·omega
   exact zaw H ae
end
section
variable {C:C21}{Z:Nat→Prop}{K:Nat}{h0 h:ah}{bw:Nat→Nat}{bp:Nat}{o:Nat→Nat}{n:Pic}{P:ce}
theorem IsW.job_at {Z B:Nat→Prop}{h:ah}{bw:Nat}{E:WE}{n:Pic}{w:WD}(H:IsW Z B h bw (some E) n w):∀t y e,w.job=some (t,y,e)→t.y≤y∧y<t.y+t.h∧lnF E.s.y y≤e∧e≤lnE E.s.y y:=by
 obtain⟨⟨tv,L,U,r,o,J,_⟩,_,_,_,_,_,st⟩:=H;intro t y e F;rw[F]at J st;obtain⟨I,G,ok,hc,bj,rv,_,S⟩:=J;cases G;obtain⟨⟨M,rs,J,_,k⟩,_⟩:=S;rcases st with⟨_,A,_⟩|⟨_,h⟩
 ·have A:cn (E.d t) y e≠0:=A;unfold cn at A;split at A
  ·exact absurd rfl A
  ·rename_i D;have D:¬t.y+t.h≤y:=D;have:=k (by show y<t.y+t.h;omega);exact⟨J.y0,ae,this.2⟩
 ·cases h
theorem LN {q:QD}(h:dX q=0):bR q∈q.l:=by
 unfold dX at h;unfold bR;cases A:q.l with
 |nil=>rw[A,aA rfl]at h;split at h<;>omega
 |cons a l=>simp
theorem zaA {E:WE}{jo:Option (cZ×Int×Int)}{w:WD}{q:QD}(h:(w.state=1∧uo (some E) w.job∧w.tiles≠[])∨((w.state=0∨w.state=2)∧w.job=none))(D:(cW (some E) jo w q).2.2.1=1):(cW (some E) jo w q).2.2.2.1=bR q∧w.state=0∧dX q=0:=by
 obtain⟨st,tl,j,H⟩:=w;unfold cW at D ⊢;rcases h with⟨A,G,_⟩|⟨A|A,G⟩
 ·have A:st=1:=A;subst A;cases j with
  |none=>exact(show False from G).elim
  |some x=>exact absurd (show(2:Int)=1 from D) ae
 ·have A:st=0:=A;subst A;rw[az (show¬(0:Int)=1 by omega),az (show¬(0:Int)=2 by omega)]at D ⊢;by_cases F:dX q=0
  ·rw[aA F];exact⟨rfl,rfl,F⟩
  ·rw[az F]at D;split at D
   ·exact absurd (show(3:Int)=1 from D) ae
   ·exact absurd (show(0:Int)=1 from D) ae
 ·have A:st=2:=A;subst A;rw[az (show¬(2:Int)=1 by omega),aA rfl]at D;exact absurd (show(0:Int)=1 from D) ae
theorem Y4 {E:WE}{jo:Option (cZ×Int×Int)}{w:WD}{q:QD}(h:(w.state=1∧uo (some E) w.job∧w.tiles≠[])∨((w.state=0∨w.state=2)∧w.job=none))(D:(cW (some E) jo w q).2.2.1=2):
  ∃t y e,w.job=some (t,y,e)∧w.state=1∧(cW (some E) jo w q).2.2=(2,w.tiles.getLast?.getD 0,cn (E.d t) y e,iq (E.d t) y e)∧cn (E.d t) y e≠0:=by
 obtain⟨st,tl,j,H⟩:=w;unfold cW at D ⊢;rcases h with⟨A,F,_⟩|⟨A|A,F⟩
 ·have A:st=1:=A;subst A;cases j with
  |none=>exact(show False from F).elim
  |some x=>exact⟨x.1,x.2.1,x.2.2,rfl,rfl,rfl,F⟩
 ·have A:st=0:=A;subst A;rw[az (show¬(0:Int)=1 by omega),az (show¬(0:Int)=2 by omega)]at D;by_cases G:dX q=0
  ·rw[aA G]at D;exact absurd (show(1:Int)=2 from D) ae
  ·rw[az G]at D;split at D
   ·exact absurd (show(3:Int)=2 from D) ae
   ·exact absurd (show(0:Int)=2 from D) ae
 ·have A:st=2:=A;subst A;rw[az (show¬(2:Int)=1 by omega),aA rfl]at D;exact absurd (show(0:Int)=2 from D) ae
theorem Y8 {t:Tbl}(W:t.Wf)(y:Int): -70368744177664≤(bE t y).1∧(bE t y).1≤70368744177664∧(bE t y).2.length≤1048576:=by
 unfold bE;split
 ·rw[dS];by_cases h:y.toNat<t.lines.length
  ·rw[iY h];have:=W.taps _ (cO h);exact⟨this.2.1,this.2.2,this.1⟩
  ·rw[GV ae];exact⟨by decide,by decide,by decide⟩
 ·exact⟨by decide,by decide,by decide⟩
def Xi (C:C21)(K:Nat)(P:ce)(i:Int)(n n':Pic):Prop:=if jp C K P i=true∧i≠0 then Cz (some C.E) (P.ws (i-1).toNat) n n' else n'=n
theorem zc2 (O:C.Ok)(G:eF h0)(H:fm C Z K h0 bw bp o n P h)(W:lV C K P){i:Int}(hi:I64 i)(ar:P.picks≤400000)(ab:ck C.d≤1000000)(hb:∀c,dQ (some C.E) c→h0.size≤c):
  ag prog jG #[ptr bp,af i] h λr h'=>r=.bool (jp C K P i)∧∃n',PTo C Z K h0 bw bp o h n' (pU C K P i) h'∧Xi C K P i n n':=by
 apply GI;unfold wJ;refine ag.at (ZN O H hi) ?_;unfold pU Xi;have w1:=W.pk;have w2:=W.ac;have w3:=W.ln;have w4:=W.sent;have w5:=W.st;cases hr:jp C K P i with
 |false=>
  simp only[go_sem];exact⟨trivial,n,by simpa using PTo.refl H,by simp⟩
 | true=>
  obtain⟨V,HB,row⟩:=H.row;have hp:=HB.po;have hK:=HB.few;have ad:aG h ⟨bp,13,none⟩=some (af P.picks):=am row;simp only[go_sem,aK,ad];rw[w64 (n:=P.picks+1) ae ae];refine bZ row (show 13<_ from by simp[iH]) rfl λg r u=>?_
  have aa:=HB.setrow u (st:=P.sent) (rt:=P.ret) (pk:=P.picks+1) r;have H1:fm C Z K h0 bw bp o n {P with picks:=P.picks+1} g:=⟨V,aa⟩
  have F1:Fr (λc=>o c≠0∨dQ (some C.E) c) h g:=u.fr.mono λc _ hc=>.inl (by have hc:c=bp:=hc;rw[hc];omega)
  have T:∀{n' P' h'},PTo C Z K h0 bw bp o g n' P' h'→PTo C Z K h0 bw bp o h n' P' h':=λ{n' P' h'} t=>PTo.trans (h1:=g) ⟨H1,λ_ _=>rfl,F1⟩ t
  rw[az (by simp)];by_cases A:i=0
  ·subst A;simp only[go_sem];refine(zcU O H1 (by show P.acc.length≤_;omega) (by show P.stamps.length≤_;omega) w4.1 (λs hs=>by have:=W.ls s hs;omega) (by show P.left.length≤_;omega) ab).mono λr g2 t=>⟨trivial,n,T t,?_⟩
   simp
  ·simp only[go_sem,A];have an:0<i∧i≤K:=by
    unfold jp at hr;split at hr
    ·cases hr
    ·omega
   obtain⟨k,rfl⟩:∃k:Nat,i=(k:Int)+1:=⟨(i-1).toNat,ae⟩
   have hk:k<K:=ae;have ek:((k:Int)+1-1).toNat=k:=ae;rw[ek];have U:=W.w k hk;have tk:=W.tn k hk;have IW:=HB.ws k hk id;refine(zcP O G H1 hk (by show(P.ws k).tiles.length≤_;omega) hb (by show P.acc.length≤_;omega) (by show P.left.length≤_;omega) (λD=>?_) (λF=>?_) (λs hs=>by have:=W.ss s hs;omega) (by have:=W.fn;show P.fin.length≤_;omega) λF=>?_).mono λr g2 ⟨n',t,Dr⟩=>⟨trivial,n',by rw[az (λh:False=>h)];exact T t,?_⟩
   ·have D:(P.ws k).state=0∧dX P.q=0:=D;have hm:=LN D.2;have:=W.q _ hm;show 0≤bR P.q∧bR P.q<ck C.d;omega
   ·have F:(cW (some C.E) (C.jo (bR P.q)) (P.ws k) P.q).2.2.1=1:=F;obtain⟨e1,e2⟩:=zaA U.st F;have hm:=LN e2.2;have:=W.q _ hm;have ee:(evP C {P with picks:=P.picks+1} k).2.1=bR P.q:=e1;rw[ee];show 0≤bR P.q∧bR P.q<(P.stamps.length:Int);omega
   ·have F:(cW (some C.E) (C.jo (bR P.q)) (P.ws k) P.q).2.2.1=2:=F;obtain⟨t,y,e,hj,s1,ev,L⟩:=Y4 U.st F;have al:(P.ws k).tiles≠[]:=by
     rcases U.st with h|h
     ·exact h.2.2
     ·rw[h.2]at hj;cases hj
    have hl:=U.tl _ (Ty al);obtain⟨j1,j2⟩:=U.jb t y e hj;obtain⟨a1,a2,a3,a4⟩:=IW.job_at t y e hj;have I:0≤(P.ws k).tiles.getLast?.getD 0∧(P.ws k).tiles.getLast?.getD 0<ck C.d:=ae;have wt:=jJ O.d I.1 I.2;rw[←j1]at wt;unfold fh at wt;have ew:(jl C {P with picks:=P.picks+1} k).words k=sD C ((P.ws k).tiles.getLast?.getD 0):=by
     show(if k=k∧(P.ws k).state=0∧dX P.q=0 then _ else P.words k)=_;rw[az ae];exact j2
    have wi:=Yx O I.1 I.2;rw[ew];have ee:evP C {P with picks:=P.picks+1} k=(2,(P.ws k).tiles.getLast?.getD 0,cn (C.E.d t) y e,iq (C.E.d t) y e):=ev;rw[ee];have bl:=Y8 O.s.wf.y y;have sj:iq (C.E.d t) y e=if cn (C.E.d t) y e=1 then e else y:=by
     have L:=L;unfold cn at L;unfold iq cn;by_cases q1:(C.E.d t).t.y+(C.E.d t).t.h≤y
     ·rw[aA q1]at L;exact absurd rfl L
     ·rw[az q1,az q1];by_cases q2:e<lnE (C.E.d t).s.y y
      ·rw[aA q2,aA q2,aA rfl]
      ·rw[az q2,az q2,az ae]
    have hY:C.d.Y=((C.d.s.y.lines.length:Nat):Int):=rfl;have bY:=dm.bd O.d;refine⟨I,?_,λh1=>?_,wi⟩
    ·show I64 (iq (C.E.d t) y e);rw[sj];unfold I64;unfold lnF at a3;unfold lnE at a4;have bl: -70368744177664≤(bE C.E.s.y y).1∧(bE C.E.s.y y).1≤70368744177664∧(bE C.E.s.y y).2.length≤1048576:=bl;split<;>omega
    ·have h1:cn (C.E.d t) y e≠1:=h1;show 0≤iq (C.E.d t) y e∧iq (C.E.d t) y e<C.d.Y;rw[sj,az h1];omega
   ·rw[aA ⟨trivial,A⟩];exact Dr
end
end
section
theorem zaV {K:Nat}(h:1≤K∧K≤256):OS ((K:Int)+1)=K+1:=by unfold OS;omega
theorem YL {α:Type}(n:Nat)(x:α):List.replicate n x=(List.range n).map λ_=>x:=by rw[List.map_const',eN]
structure kV (h0:ah)(K:Nat)(room:Int)(q:Option Nat)(c:Option (Value×(Nat→Prop)))(d:Option Value)(g:ah):Prop where
 ext:Ext h0 g
 hq:∀b,q=some b→IsQ (λc=>c=b) g b ⟨min (max 1 room) 4096,[],false⟩∧h0.size≤b
 hc:∀p,c=some p→fI p.2 g p.1 (K+1) (tS (K+1))∧∀b,p.2 b→h0.size≤b∧b<g.size
 hd:∀v,d=some v→Own 1 g v K ((List.range K).map λ_=>.int .i64 0)∧∀b,blk v b→h0.size≤b
 qc:∀b p,q=some b→c=some p→¬p.2 b
 qd:∀b v,q=some b→d=some v→¬blk v b
 cd:∀p v b,c=some p→d=some v→p.2 b→¬blk v b
section
variable {h0 g:ah}{K:Nat}{room:Int}{q:Option Nat}{c:Option (Value×(Nat→Prop))}{d:Option Value}{X:Value→ah→Prop}
theorem kV.start (h:ah)(K:Nat)(room:Int):kV h K room none none none h:=⟨Ext.refl _,by simp,by simp,by simp,by simp,by simp,by simp⟩
theorem kV.ex {A:ah}(M:kV h0 K room q c d g)(e:Ext g A):kV h0 K room q c d A:=
 ⟨M.ext.trans e,λb h=>⟨(M.hq b h).1.ext e,(M.hq b h).2⟩,λp h=>⟨(M.hc p h).1.ext e,λb D=>⟨((M.hc p h).2 b D).1,bX ((M.hc p h).2 b D).2 e.1⟩⟩,λv h=>⟨(M.hd v h).1.fr (M:=λ_=>False) e.fr λ_ _=>id,(M.hd v h).2⟩,M.qc,M.qd,M.cd⟩
theorem kV.queue (M:kV h0 K room none c d g)(H:∀b A,kV h0 K room (some b) c d A→X (ptr b) A):ag prog nD #[af room] g X:=by
 refine ZW.mono λr A ⟨b,L,Q,e,n⟩=>?_
 subst L;have M':=M.ex e;have s:=M.ext.1;refine H b A ⟨M'.ext,λF h=>by cases h;exact⟨Q,ae⟩,M'.hc,M'.hd,λF p h I D=>?_,λF v h G D=>?_,M.cd⟩
 ·cases h;have:=((M.hc p I).2 b D).2;omega
 ·cases h;have:=(M.hd v G).1.lt D;omega
theorem kV.clock (W:1≤K∧K≤256)(M:kV h0 K room q none d g)(H:∀p D,kV h0 K room q (some p) d D→X p.1 D):ag prog nF #[af ((K:Int)+1)] g X:=by
 refine(c_New ((K:Int)+1)).mono λr D ⟨U,I,e,n⟩=>?_
 rw[zaV W]at I;have M':=M.ex e;have s:=M.ext.1;refine H (r,U) D ⟨M'.ext,M'.hq,λp h=>by cases h;exact⟨I,λb A=>⟨by have:=n b A;omega,by obtain⟨_,_,_,_,_,L⟩:=I;exact L.lt b A⟩⟩,M'.hd,λb p h G A=>?_,M.qd,λp v b G hv A F=>?_⟩
 ·cases G;have:=n b A;have:=(M.hq b h).1.ql b rfl;omega
 ·cases G;have:=n b A;have:=(M.hd v hv).1.lt F;omega
theorem kV.words (U:1≤K∧K≤256)(M:kV h0 K room q c none g){t:TypeId}(H:∀v D,kV h0 K room q c (some v) D→X v D):mkK ai t 1 8 (af (K:Int)) (af (K:Int)) g X:=by
 refine og rfl ae ae λv D o e n=>?_
 rw[YL]at o;have M':=M.ex e;have s:=M.ext.1;refine H v D ⟨M'.ext,M'.hq,M'.hc,λI h=>by cases h;exact⟨o,λb A=>by have:=n b A;omega⟩,M.qc,λb I h G A=>?_,λp I b L G A F=>?_⟩
 ·cases G;have:=n b A;have:=(M.hq b h).1.ql b rfl;omega
 ·cases G;have:=n b F;have:=((M.hc p L).2 b A).2;omega
end
theorem XT {vc dv:Value}{a b c d:Nat}(hc:aR vc=true)(hd:aR dv=true):(aM #[(.pointer none),(.pointer none),(.pointer none),(.pointer none),(.pointer none),(.slice none 0 0),(.slice none 0 0),(.slice none 0 0),ai,(.slice none 0 0),(.slice none 0 0),(.slice none 0 0),(.bool false),ai] [(0,1,ptr a),(1,1,ptr b),(2,1,ptr c),(3,1,ptr d),(4,1,vc),(7,1,dv)]).map Value.agg=
  some (.agg #[ptr a,ptr b,ptr c,ptr d,vc,.slice none 0 0,.slice none 0 0,dv,ai,.slice none 0 0,.slice none 0 0,.slice none 0 0,.bool false,ai]):=by
 have:aM #[(.pointer none),(.pointer none),(.pointer none),(.pointer none),(.pointer none),(.slice none 0 0),(.slice none 0 0),(.slice none 0 0),ai,(.slice none 0 0),(.slice none 0 0),(.slice none 0 0),(.bool false),ai] [(0,1,ptr a),(1,1,ptr b),(2,1,ptr c),(3,1,ptr d),(4,1,vc),(7,1,dv)]=some #[ptr a,ptr b,ptr c,ptr d,vc,.slice none 0 0,.slice none 0 0,dv,ai,.slice none 0 0,.slice none 0 0,.slice none 0 0,.bool false,ai]:=by
  refine(bS (n:=1) (l:=[ptr a]) rfl rfl (by simp)).trans ?_;refine(bS (n:=1) (l:=[ptr b]) rfl rfl (by simp[cF])).trans ?_;refine(bS (n:=1) (l:=[ptr c]) rfl rfl (by simp[cF])).trans ?_;refine(bS (n:=1) (l:=[ptr d]) rfl rfl (by simp[cF])).trans ?_;refine(bS (n:=1) (l:=[vc]) (cB hc) rfl (by simp[cF])).trans ?_;refine(bS (n:=1) (l:=[dv]) (cB hd) rfl (by simp[cF])).trans ?_;rw[gC];simp[wrL]
 rw[this];rfl
structure zdc (hL:ah)(bp:Nat)(row:Value→Array Value)(T:TypeId)(i:Nat)(wv:Value)(bw:Nat→Nat)(g:ah):Prop where
 fr:Fr (λc=>c=bp) hL g
 own:Own 1 g wv i ((List.range i).map λj=>ptr (bw j))
 ws:∀j,j<i→g[bw j]? =some (.cells #[.int .i64 0,.slice none 0 0,.pointer none,.int .i64 0] 182 (0,0))∧hL.size≤bw j
 ne:∀j k,j<k→k<i→bw j≠bw k
 nw:∀b,blk wv b→hL.size≤b∧∀j,j<i→b≠bw j
 p:g[bp]? =some (.cells (row wv) T (0,0))
theorem zau {hL:ah}{bp:Nat}{row:Value→Array Value}{T:TypeId}{K:Nat}(hK:1≤K∧K≤256)(r0:hL[bp]? =some (.cells (row (.slice none 0 0)) T (0,0)))(h6:∀v,(row v)[6]? =some v)(G:∀v v',(row v).setIfInBounds 6 v'=row v'){tA tB:TypeId}{X:ah→Prop}
  (HX:∀wv bw g,zdc hL bp row T K wv bw g→X g):
  bA [ai] hL λI bv D A=>vK (aj .i .lss (ix I 0) (af (K:Int))) λbc=>aF bc (
  bK D λS=>vK (aS (ptr bp)) λal=>vK (aB 6 al) λbk=>qK S (λD=>ldV D bk) λab=>
  ag prog oM #[] D λaw L=>S L∧(di #[(.pointer none)] tA 1 [(0,1,aw)] L λbe H=>S H∧(dk (.pointer none) tB 1 8 ab be H λa7 a9=>
  vK (aS (ptr bp)) λar=>vK (aB 6 ar) λau=>stK 1 au a7 a9 λbo ay=>vK (aj .i .add (ix I 0) aH) λad=>A [ad] ay))) (X D):=by
 have b0:=bC r0;refine bI (α:=Value×(Nat→Nat)) K 0 (λi _=>[af (i:Int)]) (λi s g=>zdc hL bp row T i s.1 s.2 g) (.slice none 0 0,λ_=>0) rfl (b9 _) ⟨Fr.refl _ _,.inl ⟨rfl,rfl,rfl⟩,by simp,ae,λb F=>F.elim,r0⟩ λi s g again ρ _ hi M bg=>?_
 obtain⟨wv,bw⟩:=s;have M:zdc hL bp row T i wv bw g:=M;simp only[iC];rw[cD,ak];refine ao (λg1=>?_) (λg1=>?_)
 ·have ax:i<K:=ae;have an:(i:Int)+1=((i+1:Nat):Int):=ae;have sg:=M.fr.1;refine aQ (Ext g) (Ext.refl _) ?_;simp only[go_sem,aK];refine aC wv (λk e=>by rw[am (e.row M.p)];exact h6 wv) ?_;refine JN.mono λr g2 ⟨b,er,r2,e2,n2⟩=>⟨e2,?_⟩
  subst er;have l2:=bC r2;refine dc (Rp.fill_one rfl) λb3 g3 r3 e3 n3=>⟨e2.trans e3,?_⟩
  have E3:=e2.trans e3;have o3:Own 1 g3 wv i ((List.range i).map λj=>ptr (bw j)):=M.own.fr (M:=λ_=>False) E3.fr λ_ _=>id
  have S1:=Rp.SlC.single (cs:=[ptr b]) r3;have W:∀c,blk wv c→c<g.size:=λc hc=>M.own.lt hc
  refine vM o3 S1 (aq rfl aX) rfl ae ae λs' g4 o4 f4 n4=>?_
  have aa:¬blk wv bp:=λF=>by have:=(M.nw bp F).1;omega
  have r4:=f4.row (E3.row M.p) aa;have os:aR s'=true:=by obtain⟨a,c,e⟩:=Own.isSl o4;rw[e];rfl
  have a8:6<(row wv).size:=(lU.1 (h6 wv)).1;refine bZ r4 a8 os λg5 r5 u5=>?_
  rw[G]at r5;have s2:=e2.1;have s3:=e3.1;have s4:=f4.1;rw[w64 (n:=(i:Int)+1) ae ae,an];have b5:b≠bp:=ae;have U:∀c,blk s' c→c≠bp∧hL.size≤c:=λc hc=>by
   rcases n4 c hc with h|h
   ·have:=(M.nw c h).1;exact⟨ae,ae⟩
   ·exact⟨ae,ae⟩
  refine bg (s',λj=>if j=i then b else bw j) g5 ax ⟨?_,?_,λj hj=>?_,λj k bd hk=>?_,λc hc=>⟨(U c hc).2,λj hj=>?_⟩,r5⟩
  ·exact(((M.fr.trans E3.fr).after f4 λc hc F=>by have:=(M.nw c F).1;omega)).trans u5.fr
  ·have e:(List.range (i+1)).map (λj=>ptr (if j=i then b else bw j))=(List.range i).map (λj=>ptr (bw j))++[ptr b]:=by
    rw[qp,jT]
    congr 1
    ·refine K3 λj hj=>?_
     rw[az (by have:=sO.1 hj;omega)]
    ·simp
   rw[e];exact o4.fr u5.fr λc hc=>(U c hc).1
  ·by_cases e:j=i
   ·subst e;simp only[cJ];exact⟨u5.row b5 (f4.row (e3.row r2) λF=>by have:=W b F;omega),ae⟩
   ·simp only[az e];obtain⟨w1,w2⟩:=M.ws j ae;exact⟨u5.row ae (f4.row (E3.row w1) λF=>(M.nw _ F).2 j ae rfl),w2⟩
  ·show(if j=i then b else bw j)≠(if k=i then b else bw k);have lj:∀m,m<i→bw m<g.size:=λm hm=>bC (M.ws m hm).1
   by_cases e:k=i
   ·rw[az ae,aA e];have:=lj j ae;omega
   ·rw[az ae,az e];exact M.ne j k bd ae
  ·show c≠(if j=i then b else bw j);by_cases e:j=i
   ·rw[aA e];rcases n4 c hc with h|h
    ·have:=W c h;omega
    ·omega
   ·rw[az e];rcases n4 c hc with h|h
    ·exact(M.nw c h).2 j ae
    ·have:=bC (M.ws j ae).1;omega
 ·have:i=K:=ae;subst this;exact HX wv bw g M
end
def Ef (K:Nat)(room:Int):ce:=⟨⟨min (max 1 room) 4096,[],false⟩,tS (K+1),[],λ_=>⟨0,[],none,0⟩,λ_=>0,0,[],[],[],false,0⟩
def Gu (K:Nat)(room a b:Int):ce:=tH (tH (Ef K room) 0 0 0 a true) 0 1 0 b true
theorem YS {C:C21}{K:Nat}{room:Int}(h:0≤ck C.d):lV C K (Ef K room):=
 ⟨⟨fT _,h⟩,rfl,(λx A=>by cases A),(λi _=>⟨(λx A=>by cases A),.inr ⟨.inl rfl,rfl⟩,(λt y e h=>by cases h)⟩),(λi _=>fT _),(λi _=>by simp[Ef,tS]),(λs D=>by cases D),b9 _,(λs D=>by cases D),fT _,(by show(0:Int)≤2+2*0;omega),fT _,(λh=>by cases h)⟩
theorem YR {C:C21}{K:Nat}{room a b:Int}(h:0≤ck C.d):lV C K (Gu K room a b):=by
 have H:=YS (C:=C) (K:=K) (room:=room) h;exact⟨H.sent,H.st,H.q,H.w,H.tn,H.rows,H.ss,H.fn,H.ls,H.ln,(by show(2:Int)≤2+2*0;omega),H.pk,H.cl⟩
theorem label {P:Nat→Nat→Prop}(h0:∀c,¬P 0 c)(u:∀k k' c,P k c→P k' c→k=k'):∃o:Nat→Nat,∀k,k≠0→∀c,o c=k↔P k c:=by
 classical
 refine⟨λc=>if h:∃k,P k c then Classical.choose h else 0,λk A c=>?_⟩;by_cases h:∃k,P k c
 ·simp only[Hb h];have hc:=Wt h;exact⟨λe=>e▸hc,λe=>u _ _ c hc e⟩
 ·simp only[dif_neg h];exact⟨λe=>absurd e.symm A,λe=>absurd ⟨k,e⟩ h⟩
def zaq (Z0:Nat→Prop)(h:ah)(m:Pic)(s:Stg)(tw th room:Int)(bf:Nat)(K:Nat)(r:Value)(h':ah):Prop:=
 ∃bp C Z bw o,r=.tuple #[ptr bp,.int .i64 0]∧C.m=m∧C.d=⟨s,tw,th⟩∧C.bf=bf∧C.Ok∧fm C Z K h bw bp o (uq s.x.lines.length s.y.lines.length m.c m.most) (Gu K room (m.w*m.h*m.c) ((s.x.lines.length:Int)*s.y.lines.length*m.c)) h'∧(∀c,dQ (some C.E) c→h.size≤c)∧Ext h h'∧(∀c,o c≠0→h.size≤c)∧(∀c,Z c→Z0 c∨h.size≤c)∧h.size≤C.bt
def Un (h4:ah)(K:Nat)(room:Int)(bf bt bl:Nat)(xs:List Value)(g:ah):Prop:=
 ∃bp bq pc dv,xs=[ptr bp]∧kV h4 K room (some bq) (some pc) (some dv) g∧g[bp]? =some (.cells #[ptr bf,ptr bt,ptr bl,ptr bq,pc.1,.slice none 0 0,.slice none 0 0,dv,.int .i64 0,.slice none 0 0,.slice none 0 0,.slice none 0 0,.bool false,.int .i64 0] 106 (0,0))∧h4.size≤bp∧bp≠bq∧¬pc.2 bp∧¬blk dv bp
theorem Ix {D g:ah}{K:Nat}{room:Int}{bf bt bl bq:Nat}{pc:Value×(Nat→Prop)}{dv:Value}(M:kV D K room (some bq) (some pc) (some dv) g):
  vK ((aM #[(.pointer none),(.pointer none),(.pointer none),(.pointer none),(.pointer none),(.slice none 0 0),(.slice none 0 0),(.slice none 0 0),ai,(.slice none 0 0),(.slice none 0 0),(.slice none 0 0),(.bool false),ai] [(0,1,ptr bf),(1,1,ptr bt),(2,1,ptr bl),(3,1,ptr bq),(4,1,pc.1),(7,1,dv)]).map .agg) λG=>aW (Value.cells G) 106 g λF A=>Ext D A∧Un D K room bf bt bl [F] A:=by
 have I:aR pc.1=true:=by obtain⟨_,_,_,_,e,_⟩:=(M.hc pc rfl).1;rw[e];rfl
 have L:aR dv=true:=by obtain⟨a,c,e⟩:=Own.isSl (M.hd dv rfl).1;rw[e];rfl
 rw[XT I L,ak];refine aI λbp W U H n'=>⟨M.ext.trans H,bp,bq,pc,dv,rfl,M.ex H,U,by have:=M.ext.1;omega,by have:=(M.hq bq rfl).1.ql bq rfl;omega,λh=>by have:=((M.hc pc rfl).2 bp h).2;omega,λh=>by have:=(M.hd dv rfl).1.lt h;omega⟩
theorem P5 {h:ah}(G:eF h){Z0:Nat→Prop}{bf:Nat}{vf sv:Value}{m:Pic}{s:Stg}(I:dd h bf vf m)(W:m.Wf)(HS:pX Z0 h sv s)(WS:Cj s)(a8:nJ m s)(zf:Z0 bf∧∀c,blk vf c→Z0 c)(zl:∀c,Z0 c→c<h.size)(fit:BT s.x.lines.length s.y.lines.length m.c m.most=0){tw th wk room:Int}:
  ag prog zT #[ptr bf,sv,af tw,af th,af wk,af room] h λr h'=>
   (¬(fC tw∧fC th)→r=.tuple #[.pointer none,af 9]∧Ext h h')∧(fC tw∧fC th→¬(1≤wk∧wk≤256)→r=.tuple #[.pointer none,af 10]∧Ext h h')∧
   (fC tw∧fC th→∀K:Nat,wk=K→1≤K∧K≤256→zaq Z0 h m s tw th room bf K r h'):=by
 apply Ti;unfold Jw;have bg:=HS;obtain⟨p,q,rfl,hp,hq,b6⟩:=jk HS;simp only[bP];refine aI λD h1 r1 e1 n1=>?_
 have nf:aj .p .eql (ptr bf) (.pointer none)=some (.bool false):=rfl;have l3:aP 3 h1 (ptr D)=some (.agg #[p,q,af s.border]):=aU (l:=[p,q,af s.border]) r1 3 rfl;simp only[go_sem,nf,l3];refine(K7 (G.ext e1) (I.ext e1) (bg.ext e1)).mono λr h2 ⟨er,e2⟩=>?_
 rw[da a8]at er;subst er;simp only[go_sem];have E2:=e1.trans e2;have r2:=e2.row r1;refine aQ (λk=>k=h2) rfl ?_;refine aC p (λk e=>by rw[e];exact am r2) ?_;refine aC q (λk e=>by rw[e];exact am r2) ?_;have b4:=hp.ext E2;have bo:=hq.ext E2;refine ag.at (Dv b4) ⟨rfl,?_⟩;refine ag.at (Dv bo) ?_;have I2:=I.ext E2;refine ag.at (eU I2) ?_;refine ag.at (uH I2) ?_;refine yA.mono λr h3 ⟨pt,er,e3,_,hN⟩=>?_
 subst er;obtain⟨bt,vt,bk,It,cr,a9,_⟩:=hN fit;subst bk;rw[fit];have x0:∀a b:Value,aL (.tuple #[a,b]) 0=some a:=λ_ _=>rfl
 have x1:∀a b:Value,aL (.tuple #[a,b]) 1=some b:=λ_ _=>rfl
 simp only[x0,x1,ak];have ay:aj .i .neq ai ai=some (.bool false):=rfl;rw[ay,ak,cR];have E3:=E2.trans e3;have s1:=e1.1;have s2:=e2.1;have s3:=e3.1;rw[aU (l:=[p,q,af s.border]) (e3.row r2) 3 rfl,ak];refine(P7 (Z:=Z0) (s:=s) ⟨p,q,rfl,hp.ext E3,hq.ext E3⟩).mono λr h4 ⟨e4,be,b5⟩=>?_
 have E4:=E3.trans e4;by_cases F:fC tw∧fC th
 ·obtain⟨bl,pp,pq,er,cu,PL⟩:=be F;subst er;simp only[x0,x1,ak];rw[ay,ak,cR];by_cases ad:wk<1
  ·simp only[go_sem,ad];exact⟨λh=>absurd F h,λ_ _=>⟨trivial,E4⟩,λ_ K U h=>ae⟩
  by_cases an:256<wk
  ·simp only[go_sem,ad,an];exact⟨λh=>absurd F h,λ_ _=>⟨trivial,E4⟩,λ_ K U h=>ae⟩
  simp only[go_sem,ad,an];obtain⟨K,U⟩:∃K:Nat,wk=(K:Int):=⟨wk.toNat,ae⟩
  subst U;have U:1≤K∧K≤256:=ae;have fin:∀{r h'},zaq Z0 h m s tw th room bf K r h'→(¬(fC tw∧fC th)→r=.tuple #[.pointer none,af 9]∧Ext h h')∧(fC tw∧fC th→¬(1≤(K:Int)∧(K:Int)≤256)→r=.tuple #[.pointer none,af 10]∧Ext h h')∧(fC tw∧fC th→∀K':Nat,(K:Int)=K'→1≤K'∧K'≤256→zaq Z0 h m s tw th room bf K' r h'):=λ{r h'} M=>⟨λh=>absurd F h,λ_ h=>absurd ae h,λ_ K' e _=>by
   obtain rfl:K=K':=ae;exact M⟩
  have cw:=It.lt;have ci:=bC PL.row;have s4:=e4.1;refine bB (Un h4 K room bf bt bl) ?_ ?_
  ·refine aQ (Ext h4) (Ext.refl _) ?_
   try simp only[go_sem]
   rw[w64 (n:=(K:Int)+1) ae ae];have M0:=kV.start h4 K room;refine⟨?_,?_⟩
   ·refine M0.queue λbq g1 M1=>⟨M1.ext,?_,?_⟩
    ·refine M1.clock U λpc g2 M2=>⟨M2.ext,?_⟩
     refine M2.words U λdv g3 M3=>⟨M3.ext,?_⟩
     exact Ix M3
    ·refine M1.words U λdv g2 M2=>⟨M2.ext,?_⟩
     refine M2.clock U λpc g3 M3=>⟨M3.ext,?_⟩
     exact Ix M3
   ·refine M0.words U λdv g1 M1=>⟨M1.ext,?_⟩
    refine M1.queue λbq g2 M2=>⟨M2.ext,?_⟩
    refine M2.clock U λpc g3 M3=>⟨M3.ext,?_⟩
    exact Ix M3
  rintro xs ρ g ⟨bp,bq,pc,dv,rfl,M,row,b7,bv,ax,au⟩;simp only[iC];refine zau (row:=λv=>#[ptr bf,ptr bt,ptr bl,ptr bq,pc.1,.slice none 0 0,v,dv,ai,.slice none 0 0,.slice none 0 0,.slice none 0 0,.bool false,ai]) U row (λv=>rfl) (λv v'=>rfl) λwv bw g2 WM=>?_
  have c0:=M.ext;have sM:=c0.1;obtain⟨Qk,cp⟩:=M.hq bq rfl;obtain⟨Ck,cM⟩:=M.hc pc rfl;obtain⟨Dk,nd⟩:=M.hd dv rfl;have cc:=Qk.ql bq rfl;have aw:∀c,blk dv c→c<g.size:=λc hc=>Dk.lt hc
  have c1:=bC row;have e0:=WM.fr;have se:=e0.1;have wl:∀j,j<K→bw j<g2.size:=λj hj=>bC (WM.ws j hj).1
  have bd:∀c,blk wv c→c<g2.size:=λc hc=>WM.own.lt hc
  have wi:∀i j,i<K→j<K→bw i=bw j→i=j:=λi j hi hj h=>by
   rcases Nat.lt_trichotomy i j with h1|h1|h1
   ·exact absurd h (WM.ne i j h1 hj)
   ·exact h1
   ·exact absurd h.symm (WM.ne j i h1 hi)
  have u:∀k k' c,((k=1∧c=bq)∨(k=2∧pc.2 c)∨(k=4∧c=bp)∨(k=5∧blk dv c)∨(k=9∧blk wv c)∨∃j,j<K∧k=10+j∧c=bw j)→((k'=1∧c=bq)∨(k'=2∧pc.2 c)∨(k'=4∧c=bp)∨(k'=5∧blk dv c)∨(k'=9∧blk wv c)∨∃j,j<K∧k'=10+j∧c=bw j)→k=k':=by
   intro k k' c h1 h2;have q1:pc.2 c→c<g.size∧c≠bq∧c≠bp∧¬blk dv c:=λh=>⟨(cM c h).2,λe=>M.qc bq pc rfl rfl (e▸h),λe=>ax (e▸h),M.cd pc dv c rfl rfl h⟩
   have q2:blk dv c→c<g.size∧c≠bq∧c≠bp:=λh=>⟨aw c h,λe=>M.qd bq dv rfl rfl (e▸h),λe=>au (e▸h)⟩
   have q3:blk wv c→g.size≤c∧∀j,j<K→c≠bw j:=λh=>WM.nw c h
   have q4:∀j,j<K→g.size≤bw j:=λj hj=>(WM.ws j hj).2
   rcases h1 with⟨a1,D⟩|⟨a1,D⟩|⟨a1,D⟩|⟨a1,D⟩|⟨a1,D⟩|⟨i,i1,a1,D⟩<;>rcases h2 with⟨a2,H⟩|⟨a2,H⟩|⟨a2,H⟩|⟨a2,H⟩|⟨a2,H⟩|⟨j,j1,a2,H⟩<;>
    first
    |omega
    |(exfalso;exact(q1 D).2.2.2 H)
    |(exfalso;exact(q1 H).2.2.2 D)
    |(exfalso;have:=q1 D;have:=q3 H;omega)
    |(exfalso;have:=q1 H;have:=q3 D;omega)
    |(exfalso;have:=q2 D;have:=q3 H;omega)
    |(exfalso;have:=q2 H;have:=q3 D;omega)
    |(exfalso;have:=q1 D;omega)
    |(exfalso;have:=q1 H;omega)
    |(exfalso;have:=q2 D;omega)
    |(exfalso;have:=q2 H;omega)
    |(exfalso;have:=(q3 D).1;omega)
    |(exfalso;have:=(q3 H).1;omega)
    |(exfalso;exact(q3 D).2 _ j1 H)
    |(exfalso;exact(q3 H).2 _ i1 D)
    |(exfalso;have:=q1 D;have:=q4 _ j1;omega)
    |(exfalso;have:=q1 H;have:=q4 _ i1;omega)
    |(exfalso;have:=q2 D;have:=q4 _ j1;omega)
    |(exfalso;have:=q2 H;have:=q4 _ i1;omega)
    |(exfalso;have:=q4 _ j1;omega)
    |(exfalso;have:=q4 _ i1;omega)
    |(have:=wi i j i1 j1 (D.symm.trans H);omega)
  obtain⟨o,ho⟩:=label (λc h=>by rcases h with⟨a,_⟩|⟨a,_⟩|⟨a,_⟩|⟨a,_⟩|⟨a,_⟩|⟨j,_,a,_⟩<;>omega) u;have A:∀c,o c≠0→h4.size≤c∧c<g2.size:=λc hc=>by
   rcases(ho _ hc c).1 rfl with⟨_,e⟩|⟨_,e⟩|⟨_,e⟩|⟨_,e⟩|⟨_,e⟩|⟨j,j1,_,e⟩
   ·omega
   ·have:=cM c e;omega
   ·omega
   ·have:=nd c e;have:=aw c e;omega
   ·have:=(WM.nw c e).1;have:=bd c e;omega
   ·have:=(WM.ws j j1).2;have:=wl j j1;omega
  have b8:h4.size≤g2.size:=ae;have L:Ext h4 g2:=c0.then_fr e0 λc hc=>by have hc:c=bp:=hc;omega
  have E:=E4.trans L;obtain⟨C,hC⟩:∃C:C21,C=⟨0,0,0,0,bf,vf,bt,vt,pp,pq,.pointer none,bl,pp,pq,m,⟨s,tw,th⟩,0,bq⟩:=⟨_,rfl⟩
  have b0:dd g2 bt vt (uq s.x.lines.length s.y.lines.length m.c m.most):=(It.ext e4).ext L;have I0:=I.lt;have Iv:∀c,blk vf c→c<h.size:=λc hc=>I.ltv hc
  have Tv:∀c,blk vt c→c<h3.size:=λc hc=>It.ltv hc
  have al:(uq s.x.lines.length s.y.lines.length m.c m.most).Wf:=C7 fit;have ab:jA s.x.lines.length s.y.lines.length m.c:=al.fits;have hZ:∀c,(Z0 c∨c=bl)→c<g2.size∧c≠bt∧¬blk vt c:=λc hc=>by
   have h1:=a9 c;rcases hc with hc|hc
   ·have:=zl c hc;exact⟨ae,ae,λh=>by have:=h1 h;omega⟩
   ·exact⟨ae,ae,λh=>by have:=Tv c h;omega⟩
  have SU:Az (λc=>Z0 c∨c=bl) g2 C.bf C.vf C.bt C.vt C.p C.q C.m (uq s.x.lines.length s.y.lines.length m.c m.most) C.d.s:=by
   rw[hC];exact⟨I.ext E,b0,(by show bf≠bt;omega),(PL.x.ext L).mono λc _ hc=>.inl hc,(PL.y.ext L).mono λc _ hc=>.inl hc,⟨.inl zf.1,λc hc=>.inl (zf.2 c hc)⟩,λc hc=>(hZ c hc).2.2,λc hc=>(hZ c hc).2.1,λc hc=>(hZ c hc).1⟩
  have b3:sS (λc=>Z0 c∨c=bl) g2 C.bl C.d C.pp C.pq:=by
   rw[hC];exact⟨L.row PL.row,(PL.x.ext L).mono λc _ hc=>.inl hc,(PL.y.ext L).mono λc _ hc=>.inl hc⟩
  have CO:C.Ok:=by
   rw[hC];exact⟨W,⟨WS.wf,F.1,F.2⟩,WS⟩
  have SW:C.suits (uq s.x.lines.length s.y.lines.length m.c m.most):=by
   rw[hC];exact⟨al,a8,rfl,rfl,rfl,rfl⟩
  have eC:C.m=m∧C.d=⟨s,tw,th⟩∧C.bf=bf∧C.bq=bq∧C.bt=bt∧C.bl=bl∧C.vt=vt∧C.pp=C.p∧C.pq=C.q:=by rw[hC];exact⟨rfl,rfl,rfl,rfl,rfl,rfl,rfl,rfl,rfl⟩
  clear hC
  obtain⟨k1,k2,k3,k4,k5,k6,k7,k8,k9⟩:=eC;have ar:jf g2 (some C.E) (uq s.x.lines.length s.y.lines.length m.c m.most):=λE' hE=>by cases hE;exact⟨SU.out,al⟩
  have aa:∀c,h4.size≤c→¬(Z0 c∨c=bl)∧AA (some C.E) c∧¬dQ (some C.E) c:=λc hc=>by
   refine⟨λh=>?_,?_,λh=>?_⟩
   ·rcases h with h|h
    ·have:=zl c h;omega
    ·omega
   ·show c≠C.bt;omega
   ·have h:blk C.vt c:=h;rw[k7]at h;have:=Tv c h;omega
  have ca:∀c,c≠bp→¬(λc=>c=bp) c:=λc h=>h
  have PB:aT (λ_=>False) C (λc=>Z0 c∨c=bl) K h bw bp o (uq s.x.lines.length s.y.lines.length m.c m.most) ⟨pc.1,.slice none 0 0,wv,dv,.slice none 0 0,.slice none 0 0,.slice none 0 0⟩ (Ef K room) g2:=by
   refine⟨λ_=>?_,λ_=>?_,λ_=>⟨λ_=>False,Rp.Ow.nil,λc h=>h.elim,λc h=>h.elim⟩,λ_=>?_,λ_=>⟨?_,λc hc=>(ho 5 ae c).2 (.inr (.inr (.inr (.inl ⟨rfl,hc⟩))))⟩,λ_=>⟨λ_=>False,Rp.Ow.nil,λc h=>h.elim,λc h=>h.elim⟩,λ_=>⟨λ_=>False,Rp.Ow.nil,λc h=>h.elim,λc h=>h.elim⟩,λ_=>Rp.Sl.nil,λ_=>⟨WM.own.sl,λc hc=>(ho 9 ae c).2 (.inr (.inr (.inr (.inr (.inl ⟨rfl,hc⟩)))))⟩,λi hi _=>?_,(ho 4 ae bp).2 (.inr (.inr (.inl ⟨rfl,rfl⟩))),SU,b3,⟨.inr k6,k8,k9⟩,SW,λc hc=>⟨(A c hc).2,by have:=(A c hc).1;have:=E4.1;omega,aa c (A c hc).1⟩,E,U⟩
   ·rw[k4];exact(Qk.fr e0 λc hc h=>bv (h.symm.trans hc)).bmono (λc hc=>(ho 1 ae c).2 (.inl ⟨rfl,hc⟩)) λc hc=>(A c (by rw[hc];omega)).2
   ·exact(Ck.fr e0 λc _ hc h=>ax (by have h:c=bp:=h;rw[←h];exact hc)).bmono (λc hc=>(ho 2 ae c).2 (.inr (.inl ⟨rfl,hc⟩))) λc hc=>(A c (by rw[hc];omega)).2
   ·have:=WM.p;unfold iH;rw[k3,k5,k6,k4];exact this
   ·exact Dk.fr e0 λc hc h=>au (by have h:c=bp:=h;rw[←h];exact hc)
   ·have hw:=WM.ws i hi;have hn:=aa (bw i) ae;exact(IsW.new hw.1 hn.1 hn.2.1 hn.2.2 (λc hc=>(hZ c hc).1) ar).bmono (λc hc=>(ho (10+i) ae c).2 (.inr (.inr (.inr (.inr (.inr ⟨i,hi,rfl,hc⟩)))))) (λc hc=>(A c (by rw[hc];omega)).2) λc hc=>aa c (A c (by rw[hc];omega)).1
  have HP:fm C (λc=>Z0 c∨c=bl) K h bw bp o _ (Ef K room) g2:=⟨_,PB⟩
  -- the two notes
  have cb:=du W.fits;have ct:=du ab;have m1:1≤m.w*m.h*m.c:=wT (wT ae ae) ae;have m2:1≤(s.x.lines.length:Int)*s.y.lines.length*m.c:=wT (wT ae ae) ae;refine ag.at (Ft (I.ext E) W.fits) ?_;refine(Fu HP (who:=0) ae (by show 0≤1000000;omega) (fT 0) (fT 0) m1 ae).mono λr g3 ⟨_,o3,H3,q3,f3⟩=>?_
  have B3:=H3;obtain⟨V3,B3⟩:=B3;have a7:=B3.set.out;rw[k5,k7]at a7;refine ag.at (Ft a7 ab) ?_;refine(Fu H3 (who:=0) ae (by show 1≤1000000;omega) ae (fT 0) m2 ae).mono λr g4 ⟨_,o4,H4,q4,f4⟩=>?_
  refine fin ⟨bp,C,λc=>Z0 c∨c=bl,bw,o4,rfl,k1,k2,k3,CO,H4,λc hc=>?_,?_,λc hc=>?_,λc hc=>hc.elim .inl λh=>.inr ae,ae⟩
  ·have hc:blk C.vt c:=hc;rw[k7]at hc;have:=a9 c hc;omega
  ·obtain⟨V4,B4⟩:=H4;exact B4.ext
  ·obtain⟨V4,B4⟩:=H4;exact(B4.ow c hc).2.1
 ·have er:=b5 F;subst er;simp only[x0,x1,ak];have bc:aj .i .neq (af 9) ai=some (.bool true):=rfl;rw[bc,ak,gR];exact⟨λ_=>⟨trivial,E4⟩,λh=>absurd h F,λh=>absurd h F⟩
section
theorem ZT {h:ah}{n:Nat}(h1:1≤n)(h2:n≤512):ag prog lg #[af (n:Int)] h λr h'=>jC rIs h h' r ((List.range n).map (tS n)):=by
 apply QI;unfold FQ;refine bB (λD g=>D=[af (n:Int)]∧g=h) ?_ ?_
 ·rw[cD,ak];exact ao (λc=>absurd c ae) λ_=>by simp
 rintro D ρ g ⟨rfl,rfl⟩;refine bB (λD H=>D=[af (n:Int)]∧H=g) ?_ ?_
 ·simp only[iC];rw[oJ,ak];exact ao (λc=>absurd c ae) λ_=>by simp
 rintro D ρ H ⟨rfl,rfl⟩;simp only[iC];refine bI (α:=Value) n 0 (λi v=>[v,af (i:Int)]) (λi v g=>jC rIs H g v ((List.range i).map (tS n))) (.slice none 0 0) rfl (b9 _) (jC.nil (Ext.refl _)) λi v g again ρ _ hi G L=>?_
 simp only[iC,xC];rw[cD,ak];refine ao (λg1=>?_) (λg1=>?_)
 ·have F:i<n:=ae;refine og rfl ae ae λs g2 o2 e2 U=>?_
  obtain⟨p,q1,_,q3⟩:=Own.at1 o2 (k:=.i64) F;rw[q1,ak];refine q3 _ _ rfl λg3 o3 f3 s3=>?_
  have E3:Ext g g3:=e2.then_fr f3 U;have hx:(List.replicate n (af 0)).set i aH=(tS n i).map vi:=by
   apply qw (by simp[tS]);intro j h1 h2;rw[GY];simp only[eT,Wy,tS,y7,vi];by_cases h:i=j
   ·subst h;simp
   ·rw[az h,az (gY h)]
  rw[hx]at o3;have hl:(tS n i).length=n:=by simp[tS]
  have W:kj g3 s (tS n i):=by unfold kj;rw[hl];exact o3
  have N3:=G.ext E3;have sE:=G.exts.1;refine jC.push1 (e:=rIs) (x:=tS n i) (Y:=blk s) rfl N3 ⟨s,rfl,zy (kj.ints W) λ_ b A=>A⟩ (λb A=>⟨?_,W.lt A,λhv=>?_⟩) rfl (by simp;omega) (by simp;omega) λv7 g7 N7=>?_
  ·have:=U b A;omega
  ·have h1:=U b A;have h2:=G.lt hv;omega
  have I:(i:Int)+1=((i+1:Nat):Int):=ae
  try simp only[go_sem]
  rw[w64 (n:=(i:Int)+1) ae ae,I];refine L v7 g7 F ?_;rw[qp,jT];exact N7
 ·have:i=n:=ae;subst this;exact G
theorem UK {α:Type}{e:Rp α}{Z P:Nat→Prop}{Q:ah→Prop}{z z' c:Value}{t t':TypeId}{bytes:Nat}{s:Value}{h:ah}{l:List α}{x:α}{K:Value→ah→Prop}(hw:e.w=1)(G:Rp.Ow e Z h s l)(hx:e.R P h [c] x)(D:z.cells.size=1)(A:(l.length+1)*bytes≤140737488355328)(hn:l.length+1≤9223372036854775807)(U:∀b,Z b→b<h.size)(L:∀b,P b→b<h.size∧¬blk s b)(hQ:∀h',Ext h h'→Q h')
  (H:∀F h',Rp.Ow e (λb=>Z b∨P b) h' F (l++[x])→Fr (blk s) h h'→(∀b,blk F b→blk s b∨h.size≤b)→K F h'):di #[z'] t 1 [(0,1,c)] h λv2 I=>Q I∧dk z t' 1 bytes s v2 I K:=by
 have W:∀b,blk s b→¬Z b:=by obtain⟨ds,_,d,_⟩:=G;exact d
 exact Rp.push_ow1S (P:=λ_=>True) hw (G.mono (λb _ A=>.inl A) λb A D=>D.elim (W b A) λD=>(L b D).2 A) (e.mono hx λb _ A=>.inr A) D A hn (λb A=>A.elim (U b) λh=>(L b h).1) hQ H
structure StN (C:C21)(K N:Nat)(room:Int)(h0:ah)(t q c w:Option Value)(p:Option Nat)(g:ah):Prop where
 ext:Ext h0 g
 parts:∃Zr:Nat→Prop,(∀k,Zr k→h0.size≤k∧k<g.size∧∀x,p=some x→k≠x)∧(∀v,t=some v→Rp.Sl Ed Zr g v (dB C.d N))∧(∀v,c=some v→Rp.Sl rIs Zr g v ((List.range (K+1)).map (tS (K+1))))∧∀v,w=some v→Rp.Sl rVD Zr g v ((List.range K).map λ_=>⟨0,[],[]⟩)
 qq:∀v,q=some v→v=.agg #[.int .i64 (min (max 1 room) 4096),.slice none 0 0,.bool false]
 var:∀x,p=some x→h0.size≤x∧g[x]? =some (.cells aJ 48 (0,0))
section
variable {C:C21}{K N:Nat}{room:Int}{h0 g:ah}{t q c w:Option Value}{p:Option Nat}{J:Value→ah→Prop}
theorem StN.start (C:C21)(K N:Nat)(room:Int)(h:ah):StN C K N room h none none none none none h:=⟨Ext.refl _,⟨λ_=>False,by simp,by simp,by simp,by simp⟩,by simp,by simp⟩
theorem StN.grow {F:ah}(S:StN C K N room h0 t q c w p g)(e:Ext g F):StN C K N room h0 t q c w p F:=by
 obtain⟨a,⟨U,z,L,H,I⟩,d,f⟩:=S;exact⟨a.trans e,⟨U,λk D=>⟨(z k D).1,bX (z k D).2.1 e.1,(z k D).2.2⟩,λv A=>(L v A).ext e,λv A=>(H v A).ext e,λv A=>(I v A).ext e⟩,d,λx G=>⟨(f x G).1,e.row (f x G).2⟩⟩
theorem StN.more {H c' w':Option Value}{D:ah}{Y:Nat→Prop}(S:StN C K N room h0 t q c w p g)(e:Ext g D)(hY:∀k,Y k→g.size≤k∧k<D.size)(ht:∀v,H=some v→t=some v∨Rp.Sl Ed Y D v (dB C.d N))(hc:∀v,c'=some v→c=some v∨Rp.Sl rIs Y D v ((List.range (K+1)).map (tS (K+1))))(W:∀v,w'=some v→w=some v∨Rp.Sl rVD Y D v ((List.range K).map λ_=>⟨0,[],[]⟩)):StN C K N room h0 H q c' w' p D:=by
 obtain⟨a,⟨L,z,b1,U,I⟩,d,f⟩:=S;have se:=a.1;refine⟨a.trans e,⟨λk=>L k∨Y k,λk A=>?_,λv F=>?_,λv F=>?_,λv F=>?_⟩,d,λx G=>⟨(f x G).1,e.row (f x G).2⟩⟩
 ·rcases A with A|A
  ·exact⟨(z k A).1,bX (z k A).2.1 e.1,(z k A).2.2⟩
  ·have:=hY k A;exact⟨ae,this.2,λx G=>by have:=bC (f x G).2;omega⟩
 ·exact(ht v F).elim (λh=>((b1 v h).ext e).mono λ_ _ h=>.inl h) λh=>h.mono λ_ _ h=>.inr h
 ·exact(hc v F).elim (λh=>((U v h).ext e).mono λ_ _ h=>.inl h) λh=>h.mono λ_ _ h=>.inr h
 ·exact(W v F).elim (λh=>((I v h).ext e).mono λ_ _ h=>.inl h) λh=>h.mono λ_ _ h=>.inr h
theorem StN.call_t {Z:Nat→Prop}{cs:List Value}(S:StN C K N room h0 none q c w p g)(U:xp.R Z h0 cs C.d.s)(O:C.Ok)(I:(N:Int)=ck C.d)(F:N≤4096)(L:1≤C.d.X)(hY:1≤C.d.Y)(few:∀x∈C.d.s.x.lines++C.d.s.y.lines,x.2.length≤1073741824)(H:∀v A,StN C K N room h0 (some v) q c w p A→J v A):ag prog lk #[.agg cs.toArray,af C.d.w,af C.d.h] g J:=
 (X5 (xp.ext U S.ext) O.d few I F L hY).mono λv A D=>H v A (S.more (Y:=blk v) D.2.1 (λk G=>⟨D.2.2 k G,D.lt G⟩) (λu hu=>by cases hu;exact .inr D.sl) (λu hu=>.inl hu) λu hu=>.inl hu)
theorem StN.call_q (S:StN C K N room h0 t none c w p g)(H:∀v A,StN C K N room h0 t (some v) c w p A→J v A):ag prog lh #[af room] g J:=
 ZU.mono λv A ⟨F,e⟩=>H v A (by
  have D:=S.grow e;exact⟨D.ext,D.parts,λu hu=>by cases hu;exact F,D.var⟩)
theorem StN.call_c (S:StN C K N room h0 t q none w p g)(G:K≤511)(H:∀v A,StN C K N room h0 t q (some v) w p A→J v A):ag prog lg #[af ((K:Int)+1)] g J:=by
 rw[show(K:Int)+1=((K+1:Nat):Int)by omega];exact(ZT ae ae).mono λv A D=>H v A (S.more (Y:=fQ g A) D.exts (λk F=>F) (λu hu=>.inl hu) (λu hu=>by cases hu;exact .inr D.sl) λu hu=>.inl hu)
theorem StN.mk_w {bytes:Nat}{T:TypeId}(S:StN C K N room h0 t q c none p g)(U:K≤511)(F:bytes≤1000)(H:∀v G,StN C K N room h0 t q c (some v) p G→J v G):mkK (.agg #[ai,.slice none 0 0,.slice none 0 0]) T 3 bytes (af (K:Int)) (af (K:Int)) g J:=by
 unfold mkK;have I:IntKind.i64.wrap (K:Int)=K:=w64 ae ae;simp only[I];refine⟨ae,ae,?_,?_⟩
 ·have:(bytes:Int)*(K:Int)≤1000*511:=ks ae ae ae ae;omega
 rw[eo];have L:∀j,j<K*3→(jh (.agg #[ai,.slice none 0 0,.slice none 0 0]) (K*3)).toList[j]? =some ([af 0,.slice none 0 0,.slice none 0 0][j%3]'(by simp;omega)):=by
  intro j D;unfold jh;simp only[bP,RV,w7,Array.toList_range,V6 D,cI];have:j%3<3:=gN _ ae
  congr 1
  rcases(show j%3=0∨j%3=1∨j%3=2 by omega)with h|h|h<;>simp[h]
 have W:(jh (.agg #[ai,.slice none 0 0,.slice none 0 0]) (K*3)).toList.length=K*3:=by simp[jh]
 refine H _ _ (S.more (Y:=λk=>k=g.size) (Ext.push g _) (λk A=>by rw[A];simp) (λu hu=>.inl hu) (λu hu=>.inl hu) λu hu=>by
  cases hu;refine .inr ⟨(jh (.agg #[ai,.slice none 0 0,.slice none 0 0]) (K*3)).toList,⟨by simp[jh];rfl,_,K,by rw[cQ,eN],.inr ⟨g.size,0,rfl,λj D=>?_⟩⟩,λ_ b F=>F,λi hi=>?_⟩
  ·rw[aK,am (t:=T) (f:=(0,0)) rK,iY D |>.symm,uj]
  ·have hi:i<K:=by simpa using hi
   refine⟨.slice none 0 0,.slice none 0 0,?_,by simpa using Rp.Sl.nil,by simpa using Rp.Sl.nil,_,_,_,rfl,cq _⟩;apply List.ext_getElem?;intro k;by_cases A:k<3
   ·show((List.drop (i*3) _).take 3)[k]? =_;rw[Wl A,List.getElem?_drop,L _ ae];rcases(show k=0∨k=1∨k=2 by omega)with h|h|h<;>subst h<;>simp<;>rfl
   ·show((List.drop (i*3) _).take 3)[k]? =_;rw[GV (by simp;omega),GV (by simp;omega)])
theorem StN.new_p (S:StN C K N room h0 t q c w none g)(H:∀x D,StN C K N room h0 t q c w (some x) D→J (ptr x) D):aW aJ 48 g J:=by
 have hs:=S.ext.1;refine aI λx D r e n=>H x D ?_
 obtain⟨a,⟨L,z,W,U,I⟩,d,f⟩:=S;exact⟨a.trans e,⟨L,λk F=>⟨(z k F).1,bX (z k F).2.1 e.1,λy G=>by cases G;have:=(z k F).2.1;omega⟩,λv A=>(W v A).ext e,λv A=>(U v A).ext e,λv A=>(I v A).ext e⟩,d,λy G=>by cases G;exact⟨ae,r⟩⟩
theorem StN.vk_fill {X Y tv H cv wv:Value}{A G D F:Int}{J:Value→Prop}(S:StN C K N room h0 (some tv) (some H) (some cv) (some wv) p g)(oX:aR X=true)(oY:aR Y=true)(L:J (.agg [X,Y,af A,af G,af D,af F,tv,.slice none 0 0,af (min (max 1 room) 4096),.slice none 0 0,.bool false,cv,wv,.slice none 0 0,ai,.bool false,.bool false,.slice none 0 0,.slice none 0 0,.slice none 0 0].toArray)):
  vK ((aM aJ [(0,5,.agg [X,Y,af A,af G,af D].toArray),(5,1,af F),(6,1,tv),(8,3,H),(11,1,cv),(12,1,wv)]).map .agg) J:=by
 obtain⟨Zr,z,W,U,I⟩:=S.parts;have e:=S.qq _ rfl;subst e;have f:aM aJ [(0,5,.agg [X,Y,af A,af G,af D].toArray),(5,1,af F),(6,1,tv),(8,3,.agg #[af (min (max 1 room) 4096),.slice none 0 0,.bool false]),(11,1,cv),(12,1,wv)]=some [X,Y,af A,af G,af D,af F,tv,.slice none 0 0,af (min (max 1 room) 4096),.slice none 0 0,.bool false,cv,wv,.slice none 0 0,ai,.bool false,.bool false,.slice none 0 0,.slice none 0 0,.slice none 0 0].toArray:=by
  refine(bS (n:=5) (l:=[X,Y,af A,af G,af D]) rfl rfl (by simp)).trans ?_;refine(bS (n:=1) (l:=[af F]) rfl rfl (by simp[cF])).trans ?_;refine(bS (n:=1) (l:=[tv]) (cB (W _ rfl).one) rfl (by simp[cF])).trans ?_;refine(bS (n:=3) (l:=[af (min (max 1 room) 4096),.slice none 0 0,.bool false]) rfl rfl (by simp[cF])).trans ?_;refine(bS (n:=1) (l:=[cv]) (cB (U _ rfl).one) rfl (by simp[cF])).trans ?_;refine(bS (n:=1) (l:=[wv]) (cB (I _ rfl).one) rfl (by simp[cF])).trans ?_;rw[gC];simp[wrL]
 rw[f,bG,ak];exact L
end
abbrev BO:Value:=.slice none 0 0
def PreN (C:C21)(K N:Nat)(room:Int)(X Y:Value)(h0:ah)(x:Nat)(tv cv wv:Value)(Zr:Nat→Prop)(g:ah):Prop:=
 g[x]? =some (.cells (dpC C (Ef K room) ⟨X,Y,tv,BO,BO,cv,wv,BO,BO,BO,BO⟩).toArray 48 (0,0))∧Ext h0 g∧h0.size≤x∧(∀k,Zr k→h0.size≤k∧k<g.size∧k≠x)∧
 Rp.Sl Ed Zr g tv (dB C.d N)∧Rp.Sl rIs Zr g cv ((List.range (K+1)).map (tS (K+1)))∧Rp.Sl rVD Zr g wv ((List.range K).map λ_=>⟨0,[],[]⟩)
theorem StN.fin {C:C21}{K N:Nat}{room:Int}{h0 g:ah}{X Y tv qv cv wv:Value}{x:Nat}{J:Value→ah→Prop}(S:StN C K N room h0 (some tv) (some qv) (some cv) (some wv) (some x) g)(oX:aR X=true)(L:aR Y=true)(W:∀F D,PreN C K N room X Y h0 x tv cv wv F D→J undef D):
  stK 20 (ptr x) (.agg [X,Y,af C.d.s.x.n,af C.d.s.y.n,af C.d.s.border,af C.m.c,tv,.slice none 0 0,af (min (max 1 room) 4096),.slice none 0 0,.bool false,cv,wv,.slice none 0 0,ai,.bool false,.bool false,.slice none 0 0,.slice none 0 0,.slice none 0 0].toArray) g J:=by
 obtain⟨F,z,b1,b2,U⟩:=S.parts;obtain⟨n,r⟩:=S.var x rfl;have I:=b1 _ rfl;have G:=b2 _ rfl;have H:=U _ rfl;refine cT (l:=[X,Y,af C.d.s.x.n,af C.d.s.y.n,af C.d.s.border,af C.m.c,tv,.slice none 0 0,af (min (max 1 room) 4096),.slice none 0 0,.bool false,cv,wv,.slice none 0 0,ai,.bool false,.bool false,.slice none 0 0,.slice none 0 0,.slice none 0 0]) r rfl ?_ rfl λD r' u=>?_
 ·exact aq oX (aq L (aq rfl (aq rfl (aq rfl (aq rfl (aq I.one (aq rfl (aq rfl (aq rfl (aq rfl (aq G.one (aq H.one (aq rfl (aq rfl (aq rfl (aq rfl (aq rfl (aq rfl (aq rfl aX)))))))))))))))))))
 ·have q:∀k,k<g.size→F k→¬k=x:=λk _ A=>(z k A).2.2 x rfl
  exact W F D ⟨r',S.ext.upd n u,n,λk A=>⟨(z k A).1,by rw[u.1];exact(z k A).2.1,(z k A).2.2 x rfl⟩,I.fr u.fr q,G.fr u.fr q,H.fr u.fr q⟩
theorem ZS {C:C21}{K N:Nat}{room:Int}{h:ah}{Z:Nat→Prop}{cs:List Value}(HK:xp.R Z h cs C.d.s)(zl:∀c,Z c→c<h.size)(O:C.Ok)(hN:(N:Int)=ck C.d)(b6:N≤4096)(hX:1≤C.d.X)(hY:1≤C.d.Y)(few:∀x∈C.d.s.x.lines++C.d.s.y.lines,x.2.length≤1073741824)(hK:1≤K∧K≤256)
  (b1:0≤C.d.s.x.n*C.d.s.y.n*C.m.c∧C.d.s.x.n*C.d.s.y.n*C.m.c≤1000000000000) (b2:0≤C.d.X*C.d.Y*C.m.c∧C.d.X*C.d.Y*C.m.c≤1000000000000) (b3:0≤C.d.s.x.n*C.d.s.y.n∧C.d.s.x.n*C.d.s.y.n≤1000000000000) (b4:0≤C.d.X*C.d.Y∧C.d.X*C.d.Y≤1000000000000):
  ag prog Co #[.agg cs.toArray,af C.m.c,af C.d.w,af C.d.h,af (K:Int),af room] h (DTo Z C K N h (Gu K room (C.d.s.x.n*C.d.s.y.n*C.m.c) (C.d.X*C.d.Y*C.m.c))):=by
 apply QH;unfold FP;have bo:=HK;obtain⟨X,Y,rfl,HX,HY⟩:=HK;rw[bP];refine aI λbs g1 r1 e1 n1=>aI λb3 g3 r3 e3 n3=>?_
 have k1:=bC r1;have k3:=bC r3;have s1:=e1.1;have s3:=e3.1;have r1:=e3.row r1;have E3:=e1.trans e3;have a9:=xp.ext bo E3;have oX:=HX.one;have oY:=HY.one;refine bB (λxs g=>∃x tv cv wv Zr,xs=[ptr x]∧PreN C K N room X Y g3 x tv cv wv Zr g) ?_ ?_
 ·refine aQ (Ext g3) (Ext.refl _) ?_;have q2:∀U,Ext g3 U→aP 5 U (ptr bs)=some (.agg [X,Y,af C.d.s.x.n,af C.d.s.y.n,af C.d.s.border].toArray):=λU e=>aU (e.row r1) 5 rfl
  refine aC _ q2 ?_;refine aC _ q2 ?_;have ek:aj .i .add (af (K:Int)) aH=some (af ((K:Int)+1)):=by
   show some (af (IntKind.i64.wrap ((K:Int)+1)))=_;rw[w64 ae ae]
  rw[ek,ak];have M0:=StN.start C K N room g3
  repeat' first
   |exact StN.ext ‹StN _ _ _ _ _ _ _ _ _ _ _›
   |refine And.intro ?_ ?_
   |refine StN.call_t ‹StN _ _ _ _ _ none _ _ _ _ _› a9 O hN b6 hX hY few λv U M=>?_
   |refine StN.call_q ‹StN _ _ _ _ _ _ none _ _ _ _› λv U M=>?_
   |refine StN.call_c ‹StN _ _ _ _ _ _ _ none _ _ _› ae λv U M=>?_
   |refine StN.mk_w ‹StN _ _ _ _ _ _ _ _ none _ _› ae ae λv U M=>?_
   |refine StN.new_p ‹StN _ _ _ _ _ _ _ _ _ none _› λx U M=>?_
   |refine StN.vk_fill ‹StN _ _ _ _ _ (some _) (some _) (some _) (some _) _ _› oX oY ?_
   |refine StN.fin ‹StN _ _ _ _ _ (some _) (some _) (some _) (some _) (some _) _› oX oY λZr U H=>⟨_,_,_,_,Zr,rfl,H⟩
 rintro xs ρ g ⟨x,tv,cv,wv,Zr,rfl,rx,eg,nx,zr,Ht,Hc,Hw⟩;have kx:=bC rx;have sg:=eg.1;have c6:aG g ⟨x,6,none⟩=some tv:=am rx;have bv:aD tv=some (af (N:Int)):=by obtain⟨a,c,e⟩:=Ht.isSl;rw[e];simp[aD,dB]
 have ad:∀c,Z c→¬c=x:=λc hc h=>by have:=zl c hc;omega
 simp only[iC,go_sem,aK,c6,bv];refine bI (α:=Unit) N 0 (λi _=>[af (i:Int)]) (λi _ F=>∃mv Zm,F[x]? =some (.cells (dpC C (Ef K room) ⟨X,Y,tv,mv,BO,cv,wv,BO,BO,BO,BO⟩).toArray 48 (0,0))∧Fr (λk=>k=x) g F∧Rp.Ow zcl Zm F mv (EZ C i)∧∀k,(blk mv k∨Zm k)→g.size≤k∧k<F.size) () rfl (b9 _) ⟨BO,λ_=>False,rx,Fr.refl _ _,Rp.Ow.nil,λk A=>A.elim (λh=>h.elim) False.elim⟩ λi _ F again ρ' _ hi ⟨mv,Zm,W,fx,om,zm⟩ cb=>?_
 have sx:=fx.1;have rS:=fx.row (eg.row r1) (show¬bs=x by omega);simp only[iC];rw[cD,ak];refine ao (λc1=>?_) (λc1=>?_)
 ·have be:i<N:=ae;have bg:=Ht.fr fx λk _ A=>(zr k A).2.2
  obtain⟨pt,cs,a1,a2,a3⟩:=bg.atw (show 0<10 by omega) (k:=.i64) (i:=i) (by simp[dB];omega);have a1:bh 10 tv (af (i:Int))=some pt:=a1;have a2:aP 10 F pt=some (.agg cs.toArray):=a2;have et:(dB C.d N)[i]'(by simp[dB];omega)=aO C.d i:=by simp[dB]
  rw[et]at a3;obtain⟨f0,f1,f3,f5,ec⟩:=a3;rw[a1,ak,a2,ak];refine dh (cs:=cs) (by rw[ec];rfl) (Ed.one (Z:=Zr) (h:=F) (x:=aO C.d i) ⟨f0,f1,f3,f5,ec⟩) (by rw[ec];rfl) λb5 g5 r5 e5 n5=>?_
  rw[ec]at r5;have s5:=e5.1;refine aQ (Ext g5) (Ext.refl _) ?_;simp only[go_sem,aK];refine aC mv (λk e=>am (e.row (e5.row W))) ?_;refine aC (.agg [X,Y,af C.d.s.x.n,af C.d.s.y.n,af C.d.s.border].toArray) (λk e=>aU (e.row (e5.row rS)) 5 rfl) ?_
  try simp only[go_sem,aK]
  refine aC (af (aO C.d i).y) (λk e=>am (e.row r5)) ?_
  try simp only[go_sem,aK]
  refine aC (af (aO C.d i).h) (λk e=>am (e.row r5)) ?_;have hw:=jJ O.d (i:=(i:Int)) ae ae;unfold fh at hw;have K5:xp.R Z g5 [X,Y,af C.d.s.x.n,af C.d.s.y.n,af C.d.s.border] C.d.s:=xp.ext (xp.fr (xp.ext a9 eg) fx λk _ A=>ad k A) e5;refine(Vr (m:=C.m) (t:=aO C.d i) K5 O.s hw.2.2.2.1 hw.2.1 ae).mono λsv g6 G=>⟨G.2.1,?_⟩
  have s6:=G.2.1.1;have au:(EZ C i).length=i:=by simp[EZ]
  refine UK (e:=zcl) (x:=RX C.E (some (PE C.d i))) (P:=blk sv) (Q:=Ext g5) rfl (om.ext (e5.trans G.2.1)) ⟨sv,rfl,G.sl,G.1.slcap⟩ rfl (by rw[au];omega) (by rw[au];omega) (λb hb=>by have:=(zm b (.inr hb)).2;omega) (λb hb=>⟨G.lt hb,λhv=>by have:=G.2.2 b hb;have:=(zm b (.inl hv)).2;omega⟩) (λh' e=>G.2.1.trans e) λv7 g7 o7 f7 n7=>?_
  have s7:=f7.1;have bk:=f7.row ((e5.trans G.2.1).row W) (show¬blk mv x from λh=>by have:=(zm x (.inl h)).1;omega);have bc:(i:Int)+1=((i+1:Nat):Int):=ae
  try simp only[go_sem,aK]
  refine bZ bk (by simp[dpC]) o7.one λg8 r8 u8=>?_
  have s8:=u8.1
  try simp only[go_sem]
  rw[w64 (n:=(i:Int)+1) ae ae,bc];have hz:∀k,(blk v7 k∨(Zm k∨blk sv k))→g.size≤k∧k<g7.size:=λk A=>by
   rcases A with A|A|A
   ·refine⟨?_,o7.lt A⟩;rcases n7 k A with h|h
    ·exact(zm k (.inl h)).1
    ·omega
   ·have:=zm k (.inr A);omega
   ·have:=G.2.2 k A;have:=G.lt A;omega
  refine cb () g8 be ⟨v7,λb=>Zm b∨blk sv b,r8,((fx.after (e5.trans G.2.1).fr λ_ _ h=>False.elim h).after f7 λc hc h=>by have:=(zm c (.inl h)).1;omega).after u8.fr λc _ h=>h,?_,λk A=>by rw[s8];exact hz k A⟩;rw[Tn];exact o7.fr u8.fr (λk _ A h=>by have:=(hz k (.inr A)).1;omega) λk A h=>by have:=(hz k (.inl A)).1;omega
 ·have:i=N:=ae;subst this;have q0:∀k,k<g.size→Zr k→¬k=x:=λk _ A=>(zr k A).2.2
  have EG:=E3.trans eg
  let Z':Nat→Prop:=λk=>(Z k∨Zr k∨blk mv k∨Zm k)∧k<F.size
  have zz:∀k,Z' k→(Z k∨h.size≤k)∧k<F.size∧k≠x∧k≠b3:=λk A=>by
   obtain⟨A,lt⟩:=A;rcases A with A|A|A|A
   ·have:=zl k A;exact⟨.inl A,lt,ae,ae⟩
   ·have:=zr k A;exact⟨.inr ae,lt,ae,ae⟩
   ·have:=zm k (.inl A);exact⟨.inr ae,lt,ae,ae⟩
   ·have:=zm k (.inr A);exact⟨.inr ae,lt,ae,ae⟩
  have D:DAt Z' C K i (Ef K room) ⟨X,Y,tv,mv,BO,cv,wv,BO,BO,BO,BO⟩ F:=
   ⟨((HX.ext EG).fr fx λk _ A=>ad k A).mono λk lt A=>⟨.inl A,lt⟩,((HY.ext EG).fr fx λk _ A=>ad k A).mono λk lt A=>⟨.inl A,lt⟩,(Ht.fr fx q0).mono λk lt A=>⟨.inr (.inl A),lt⟩,om.sl.mono λk lt A=>⟨.inr (.inr (A.elim .inr .inl)),lt⟩,⟨Rp.Sl.nil,_,_,_,rfl,cq _⟩,
    (Hc.fr fx q0).mono λk lt A=>⟨.inr (.inl A),lt⟩,(Hw.fr fx q0).mono λk lt A=>⟨.inr (.inl A),lt⟩,Rp.Sl.nil,Rp.Sl.nil,Rp.Sl.nil,Rp.Sl.nil⟩
  have c2:aG F ⟨bs,2,none⟩=some (af C.d.s.x.n):=am rS;have c3:aG F ⟨bs,3,none⟩=some (af C.d.s.y.n):=am rS;rw[aU W 20 rfl,ak];simp only[go_sem,aK,c2,c3];rw[w64 (n:=C.d.s.x.n*C.d.s.y.n) ae ae,w64 (n:=C.d.s.x.n*C.d.s.y.n*C.m.c) ae ae];refine(PU (who:=0) D (λc hc=>(zz c hc).2.1) (b9 _) (by simp[Ef]) (fT _) b1.1 ae).mono λr g9 D9=>?_
  obtain⟨Z9,V9,er,H9,z9,e9⟩:=D9;subst er;have s9:=e9.1;have al:∀k,Z9 k→(Z k∨h.size≤k)∧k<g9.size∧k≠x∧k≠b3:=λk A=>by
   rcases(z9 k A).1 with h1|h1
   ·have:=zz k h1;exact⟨this.1,(z9 k A).2,this.2.2⟩
   ·exact⟨.inr ae,(z9 k A).2,ae,ae⟩
  refine cT (e9.row W) (by rfl) H9.ones (by rfl) λaw cp L=>?_
  have cu:=L.1;have aa:=L.row (show bs≠x by omega) (e9.row rS);have cc:=H9.fr L.fr λk _ A=>(al k A).2.2.1
  obtain⟨ax,cx,ex⟩:=HX.isSl;obtain⟨ay,cy,ey⟩:=HY.isSl;have ci:aD X=some (af C.d.X):=by rw[ex];rfl
  have b0:aD Y=some (af C.d.Y):=by rw[ey];rfl
  have c0:aG aw ⟨bs,0,none⟩=some X:=am aa;have cr:aG aw ⟨bs,1,none⟩=some Y:=am aa;rw[aU cp 20 rfl,ak];simp only[go_sem,aK,c0,cr,ci,b0];rw[w64 (n:=C.d.X*C.d.Y) ae ae,w64 (n:=C.d.X*C.d.Y*C.m.c) ae ae];refine(PU (who:=0) cc (λc hc=>by have:=(al c hc).2.1;omega) (b9 _) (by simp[Ef,tH]) (fT _) b2.1 ae).mono λr b8 b7=>?_
  obtain⟨a7,bd,er,a8,an,ar⟩:=b7;subst er;have cw:=ar.1;have ct:=ar.row (L.row (show b3≠x by omega) (e9.row (fx.row (eg.row r3) (show¬b3=x by omega))));have I:∀k,a7 k→(Z k∨h.size≤k)∧k<b8.size∧k≠b3:=λk A=>by
   rcases(an k A).1 with h1|h1
   ·have:=al k h1;exact⟨this.1,(an k A).2,this.2.2.2⟩
   ·exact⟨.inr ae,(an k A).2,ae⟩
  refine cT ct (by rfl) a8.ones (by rfl) λc4 ca ab=>?_
  rw[aU ca 20 rfl,ak];have EX:Ext h F:=EG.then_fr fx λc hc=>by have hc:c=x:=hc;omega
  exact⟨a7,bd,rfl,a8.fr ab.fr λk _ A=>(I k A).2.2,λk A=>⟨(I k A).1,by rw[ab.1];exact(I k A).2.1⟩,(((EX.trans e9).upd ae L).trans ar).upd ae ab⟩
end
section
section
variable {C:C21}{Z:Nat→Prop}{K:Nat}{h0 h:ah}{bw:Nat→Nat}{bp:Nat}{o:Nat→Nat}{n:Pic}{P:ce}
theorem Ua (O:C.Ok)(H:fm C Z K h0 bw bp o n P h){N:Nat}(hN:(N:Int)=ck C.d)(ay:N≤4096)(hs:jg C N 0≤1000000000):
  ag prog pu #[ptr bp] h λr h'=>r=af ((2*N+K+2+jg C N 0:Nat):Int)∧Ext h h':=by
 have HP:=H;obtain⟨V,H,row⟩:=H.row;apply ER;unfold uY;have hK:=H.few;have c2:aG h ⟨bp,2,none⟩=some (ptr C.bl):=am row;have c6:aG h ⟨bp,6,none⟩=some V.wv:=am row;have F:=SlC.len (H.wk id).1;refine aQ (λk=>k=h) rfl ?_;simp only[go_sem,aK];refine aC (ptr C.bl) (λk e=>by rw[e];exact c2) ?_
 try simp only[go_sem,aK]
 refine aC V.wv (λk e=>by rw[e];exact c6) ?_;refine aC (af (K:Int)) (λ_ _=>F) ?_;refine ag.at (Dc H.pl O.d) ⟨rfl,?_⟩;rw[←hN];simp only[go_sem];rw[w64 (n:=2*(N:Int)) ae ae,w64 (n:=2*(N:Int)+K) ae ae,w64 (n:=2*(N:Int)+K+2) ae ae,c2,ak];refine(X8 H.pl O.d hN ae).mono λav g3 NA=>?_
 obtain⟨aa,ca,ea⟩:=NA.sl.isSl;have W:(dB C.d N).length=N:=by simp[dB]
 have au:aD av=some (af (N:Int)):=by rw[ea];show some (af ((dB C.d N).length:Int))=_;rw[W]
 rw[au,ak];refine bI (α:=Unit) N 0 (λi _=>[af (2*(N:Int)+K+2+(jg C i 0:Nat)),af (i:Int)]) (λi _ g=>Ext g3 g) () (by simp[jg]) (b9 _) (Ext.refl _) λi _ g4 again ρ _ hi I al=>?_
 simp only[iC,xC];have E4:=NA.2.1.trans I;have H4:=H.ex E4;rw[cD,ak];refine ao (λg1=>?_) (λg1=>?_)
 ·have ar:i<N:=ae;obtain⟨pt,D,q1,q2,G⟩:=(NA.sl.ext I).atw (show 0<10 by omega) (k:=.i64) (i:=i) ae;have q1:bh 10 av (af (i:Int))=some pt:=q1;have q2:aP 10 g4 pt=some (.agg D.toArray):=q2;have G:D=dC (dB C.d N)[i]:=G;have q4:(dB C.d N)[i]=aO C.d i:=by simp[dB]
  rw[q4]at G;subst G;rw[q1,ak,q2,ak];refine dh (cs:=dC (aO C.d i)) rfl (km _) rfl λb5 g5 r5 e5 n5=>?_
  have U:=H4.ex e5;have A:=U.p id;refine aQ (Ext g5) (Ext.refl _) ?_
  try simp only[go_sem,aK]
  refine aC (ptr C.bl) (λk e=>am (e.row A)) ?_;refine aC (.agg (dC (aO C.d i)).toArray) (λk e=>aU (e.row r5) 10 rfl) ?_;refine(Se U.pl).mono λr g6 ⟨er,F⟩=>?_
  subst er;refine⟨F,?_⟩;have H6:=U.ex F;rw[H.zl.2.1,H.zl.2.2];refine ag.to (zbH C.m H6.set.tx H6.set.ty O.s) λg7 e7=>?_
  rw[aA (jJ O.d ae ae)];have an:yP C.d.s (aO C.d i) C.m=qf C i:=rfl;rw[an];have ax:jg C (i+1) 0=jg C i 0+qf C i:=by
   rw[Lj C i 1 0,aK];show _+(qf C i+0)=_;omega
  have aw:jg C N 0=jg C (i+1) 0+jg C (N-(i+1)) (0+(i+1)):=by rw[←Lj];congr 1;omega
  have L:2*(N:Int)+K+2+(jg C i 0:Nat)+(qf C i:Int)=2*(N:Int)+K+2+(jg C (i+1) 0:Nat):=ae;have ad:(i:Int)+1=((i+1:Nat):Int):=ae
  try simp only[go_sem]
  rw[L,w64 (n:=2*(N:Int)+K+2+(jg C (i+1) 0:Nat)) ae ae,w64 (n:=(i:Int)+1) ae ae,ad];exact al () g7 ar (I.trans (e5.trans (F.trans e7)))
 ·have ab:i=N:=ae;subst ab;refine⟨?_,E4⟩
  congr 1
end
end
end Go.Proofs.YtjljhnandbbldaaGreatDoor
namespace Go.Proofs.YtjljhnandbbldaaGreatDoor
open Go Go.Crisp
attribute [local irreducible] ag di aW stK aF vK qK bK gK fo bA mkK dk Fm GM CJ bsK clK tW oA V0
section
def BM (a b:Nat):List Int:=(List.range' a (b-a)).map λi:Nat=>(i:Int)
theorem XC {a b:Nat}(h:a≤b):BM a (b+1)=BM a b++[(b:Int)]:=by
 unfold BM;rw[show b+1-a=(b-a)+1 by omega,List.range'_concat,jT]
 congr 1
 simp;omega
theorem Tl {a b:Nat}(h:a<b):BM a b=(a:Int)::BM (a+1) b:=by
 unfold BM;rw[show b-a=(b-(a+1))+1 by omega,List.range'_succ];rfl
theorem Pq {a b:Nat}:BM a b=[]↔b≤a:=by
 unfold BM;simp;omega
def vX (K:Nat)(f:Nat→Nat):Nat:=((List.range K).map f).sum
theorem uG (K:Nat)(f:Nat→Nat):vX (K+1) f=vX K f+f K:=by simp[vX,qp]
theorem Io {K:Nat}{f g:Nat→Nat}(h:∀i,i<K→f i=g i):vX K f=vX K g:=by
 unfold vX
 congr 1
 exact K3 λi hi=>h i (sO.1 hi)
theorem YC {f g:Nat→Nat}{k:Nat}(h:∀i,i≠k→g i=f i):∀K,k<K→vX K g+f k=vX K f+g k:=by
 intro K;induction K with
 |zero=>intro A;omega
 | succ K D=>
  intro A;rw[uG,uG];by_cases e:k=K
  ·subst e;rw[Io (f:=g) (g:=f) λi hi=>h i ae];omega
  ·have:=D ae;rw[h K ae];omega
def ki (w:WD):Nat:=if w.state=2 then 1 else 0
theorem R1 (K:Nat)(ws:Nat→WD):vX K (λk=>ki (ws k))≤K:=by
 induction K with
 |zero=>exact cq _
 |succ K A=>rw[uG];unfold ki at A ⊢;split<;>omega
theorem Zh {K:Nat}{ws:Nat→WD}(h:vX K (λk=>ki (ws k))=K):∀k,k<K→(ws k).state=2:=by
 induction K with
 |zero=>intro k A;omega
 | succ K D=>
  rw[uG]at h;have h1:=R1 K ws;have F:ki (ws K)≤1:=by unfold ki;split<;>omega
  intro k A;by_cases e:k=K
  ·subst e;have:ki (ws k)=1:=ae;unfold ki at this;split at this
   ·assumption
   ·omega
  ·exact D ae k ae
def qD (C:C21)(w:WD)(n:Pic):Prop:=
 ∀x y c,inP n x y c→∀i∈w.tiles,MW (aO C.d i) x y→(∀t yy e,w.job=some (t,yy,e)→i=w.tiles.getLast?.getD 0→y<yy)→atP n x y c=xr C.m C.d.s x y c
structure mG (C:C21)(K N tk:Nat)(P:ce)(n:Pic):Prop where
 ok:lV C K P
 nn:(N:Int)=ck C.d
 sn:(tk:Int)≤P.sent
 ql:P.q.l=BM tk P.sent.toNat
 rm:1≤P.q.room
 cov:∀x:Nat,x<tk→∃k,k<K∧(x:Int)∈(P.ws k).tiles
 gone:∀k,k<K→(P.ws k).state=2→P.q.l=[]∧P.q.closed=true
 cnt:P.left.length=vX K λk=>ki (P.ws k)
 rt:P.ret=true→P.q.closed=true∧P.left.length=K
 rem:P.picks+((N-P.sent.toNat)+(if P.q.closed=true then 0 else 1)+(if P.ret=true then 0 else 1)+(N-tk)+jg C (N-tk) tk+vX K (λk=>muJ C.E (P.ws k).job)+(K-P.left.length):Nat)=(2*N+K+2+jg C N 0:Nat)
 paint:∀k,k<K→qD C (P.ws k) n
theorem La (C:C21)(K:Nat)(P:ce)(k:Nat):(td C K P k).q=(jl C P k).q∧(td C K P k).ws=(jl C P k).ws∧(td C K P k).words=(jl C P k).words∧(td C K P k).sent=P.sent∧(td C K P k).ret=P.ret∧(td C K P k).picks=P.picks∧(td C K P k).left.length=P.left.length+if(evP C P k).1=3 then 1 else 0:=by
 unfold td;split
 ·rename_i h;rw[h];exact⟨rfl,rfl,rfl,rfl,rfl,rfl,rfl⟩
 ·split
  ·rename_i h1 A;rw[az ae];unfold yZ;split<;>exact⟨rfl,rfl,rfl,rfl,rfl,rfl,rfl⟩
  ·split
   ·refine⟨rfl,rfl,rfl,rfl,rfl,rfl,?_⟩;show(P.left++[_]).length=_;simp
   ·exact⟨rfl,rfl,rfl,rfl,rfl,rfl,rfl⟩
section
variable {C:C21}{K N tk:Nat}{P:ce}{n n':Pic}
theorem Y7 (H:mG C K N tk P n)(h1:jp C K P 0=true):mG C K N tk (pU C K P 0) n:=by
 have A:=VX H.ok 0;have hs:=H.ok.sent;have hn:=H.nn;have aa:=H.sn;have G:=H.rem;have D:P.ret=false:=by
  unfold jp at h1;rw[az ae,az ae]at h1;split at h1
  ·cases h1
  ·rename_i h;simpa using h
 rw[D]at G;have I:(if P.sent<ck C.d then decide (vl P.q≠1)else !P.q.closed||decide (P.left.length=K))=true:=by
  unfold jp at h1;rw[az ae,az ae,D]at h1;simpa using h1
 have e:pU C K P 0=GS C K {P with picks:=P.picks+1}:=by
  unfold pU;rw[h1,az (by simp),aA rfl]
 rw[e]at A ⊢;unfold GS at A ⊢;by_cases g:P.sent<ck C.d
 ·have hc:P.q.closed=false:=by
   cases h:P.q.closed with
   |false=>rfl
   |true=>have:=H.ok.cl h;omega
  rw[aA g]at A I ⊢;have F:vl P.q≠1:=by simpa using I
  have hq:pS P.q P.sent={P.q with l:=P.q.l++[P.sent]}:=by
   unfold vl at F;unfold pS;rw[hc]at F ⊢;simp only[gB,cE]at F ⊢;split at F
   ·exact absurd rfl F
   ·rename_i h;rw[az h];simp[hc]
  have U:(P.sent+1).toNat=P.sent.toNat+1:=ae;have W:((P.sent.toNat:Nat):Int)=P.sent:=ae;refine⟨A,H.nn,by show(tk:Int)≤P.sent+1;omega,?_,?_,H.cov,λk L h=>?_,H.cnt,λh=>?_,?_,H.paint⟩
  ·show(pS P.q P.sent).l=BM tk (P.sent+1).toNat;rw[hq,U,XC ae,←H.ql,W]
  ·show 1≤(pS P.q P.sent).room;rw[hq];exact H.rm
  ·have:=(H.gone k L h).2;rw[hc]at this;cases this
  ·have h:P.ret=true:=h;rw[D]at h;cases h
  ·show P.picks+1+((N-(P.sent+1).toNat)+(if(pS P.q P.sent).closed=true then 0 else 1)+(if P.ret=true then 0 else 1)+(N-tk)+jg C (N-tk) tk+vX K (λk=>muJ C.E (P.ws k).job)+(K-P.left.length):Nat)=(2*N+K+2+jg C N 0:Nat);rw[hq,D,hc];rw[hc]at G;simp only[gB,cE]at G ⊢;omega
 ·rw[az g]at A I ⊢;cases hc:P.q.closed with
  | false=>
   rw[hc]at A G;rw[aA rfl]at A ⊢;refine⟨A,H.nn,H.sn,H.ql,H.rm,H.cov,λk L h=>?_,H.cnt,λh=>?_,?_,H.paint⟩
   ·have:=(H.gone k L h).2;rw[hc]at this;cases this
   ·have h:P.ret=true:=h;rw[D]at h;cases h
   ·show P.picks+1+((N-P.sent.toNat)+(if true=true then 0 else 1)+(if P.ret=true then 0 else 1)+(N-tk)+jg C (N-tk) tk+vX K (λk=>muJ C.E (P.ws k).job)+(K-P.left.length):Nat)=(2*N+K+2+jg C N 0:Nat);rw[D];simp only[gB,cE,cJ]at G ⊢;omega
  |true=>
   rw[hc]at A G I;rw[az (by simp)]at A ⊢;have hl:P.left.length=K:=by simpa using I
   refine⟨A,H.nn,H.sn,H.ql,H.rm,H.cov,H.gone,H.cnt,λ_=>⟨hc,hl⟩,?_,H.paint⟩;show P.picks+1+((N-P.sent.toNat)+(if P.q.closed=true then 0 else 1)+(if true=true then 0 else 1)+(N-tk)+jg C (N-tk) tk+vX K (λk=>muJ C.E (P.ws k).job)+(K-P.left.length):Nat)=(2*N+K+2+jg C N 0:Nat);rw[hc];simp only[gB,cE,cJ]at G ⊢;omega
theorem qD.keep {w:WD}(H:qD C w n)(D:eE n n')(k:∀x y c,inP n x y c→atP n x y c=xr C.m C.d.s x y c→atP n' x y c=xr C.m C.d.s x y c):qD C w n':=
 λx y c hi i h1 F A=>k x y c (D.inP.1 hi) (H x y c (D.inP.1 hi) i h1 F A)
theorem PN {w:WD}(D:Cz (some C.E) w n n'):∀x y c,inP n x y c→atP n x y c=xr C.m C.d.s x y c→atP n' x y c=xr C.m C.d.s x y c:=by
 intro x y c hi h;obtain⟨I,A⟩:=D;cases G:w.job with
 |none=>rw[G]at A;rw[A];exact h
 | some j=>
  obtain⟨t,H,e⟩:=j;rw[G]at A;obtain⟨_,_,d1,d2⟩:=A;by_cases F:cn (C.E.d t) H e=2
  ·rw[d2 F x y c hi];split
   ·rfl
   ·exact h
  ·rw[d1 F];exact h
theorem qD.move (O:C.Ok){w:WD}{t:cZ}{y e:Int}(hj:w.job=some (t,y,e))(h0:0≤w.tiles.getLast?.getD 0)(h1:w.tiles.getLast?.getD 0<ck C.d)(ht:t=aO C.d (w.tiles.getLast?.getD 0))(su:C.suits n)(H:qD C w n)(D:Cz (some C.E) w n n'){w':WD}(ad:w'.tiles=w.tiles)(ab:w'.job=cH (some C.E) (some (t,gj (C.E.d t) y e,ir (C.E.d t) y e))):qD C w' n':=by
 have U:=PN D;obtain⟨D1,D2⟩:=D;rw[hj]at D2;obtain⟨O1,O2,d1,d2⟩:=D2;have hr:=(C21.newC O su h0 h1)
 have RO:=O.s.room (m:=C.m) (n:=n) (t:=t) O.m (by rw[ht];exact hr);intro W I c' hi i aa F hl;rw[ad]at aa hl;rw[ab]at hl;have A:inP n W I c':=D1.inP.1 hi;by_cases L:i=w.tiles.getLast?.getD 0
 ·rw [L,←ht]at F;have hy:I<gj (C.E.d t) y e:=by
   by_cases h0:cn (C.E.d t) (gj (C.E.d t) y e) (ir (C.E.d t) y e)=0
   ·unfold cn at h0;split at h0
    ·rename_i h1;have h1:t.y+t.h≤gj (C.E.d t) y e:=h1;unfold MW at F;omega
    ·split at h0<;>omega
   ·exact hl t _ _ (az h0) L
  rcases mT I y with h2|h2
  ·exact U W I c' A (H W I c' A i aa (by rw[L,←ht];exact F) λt2 yy e2 h3 _=>by rw[hj]at h3;cases h3;exact h2)
  ·have hK:cn (C.E.d t) y e=2:=by
    unfold gj at hy;split at hy
    ·assumption
    ·omega
   have hY:gj (C.E.d t) y e=y+1:=aA hK;have ey:I=y:=ae;rw[d2 hK W I c' A,aA];refine⟨ey,F.1,F.2.1,?_⟩;have G:=RO.wid;have G:(fB (t.w*C.m.c):Int)=t.w*C.m.c:=G;rw[G];show(W-t.x)*C.m.c+c'<t.w*C.m.c;have hc:c'<C.m.c:=by have:=A.2.2.2.2.2;rw[←su.2.2.2.2.1];exact this
   have hx:=F.2.1;have:(W-t.x+1)*C.m.c≤t.w*C.m.c:=oB ae (by have:=A.2.2.2.2.1;omega);rw[jw,kr]at this;omega
 ·exact U W I c' A (H W I c' A i aa F λt2 yy e2 _ h3=>absurd h3 L)
theorem qD.take (O:C.Ok){w:WD}{x:Int}(h0:0≤x)(h1:x<ck C.d)(hj:w.job=none)(H:qD C w n){w':WD}(U:w'.tiles=w.tiles++[x])(L:w'.job=cH (some C.E) (C.jo x)):qD C w' n:=by
 intro x' y' c' hi i A F G;rw[U]at A G;rw[L]at G;by_cases D:i=x
 ·subst D;have hw:=jJ O.d h0 h1;have I:cn (C.E.d (aO C.d i)) (aO C.d i).y (lnF C.d.s.y (aO C.d i).y)≠0:=by
   unfold cn;rw[az (by show¬(aO C.d i).y+(aO C.d i).h≤(aO C.d i).y;unfold fh at hw;omega)];split<;>omega
  have hs:cH (some C.E) (C.jo i)=C.jo i:=az I;rw[hs]at G;have:=G _ _ _ rfl (by simp);unfold MW at F;omega
 ·rcases gX.1 A with h|h
  ·exact H x' y' c' hi i h F λt yy e W _=>by rw[hj]at W;cases W
  ·exact absurd (iy.1 h) D
end
end
section
section
variable {C:C21}{K N tk:Nat}{P:ce}{n n':Pic}
theorem YD (K:Nat):vX K (λ_=>1)=K:=by
 induction K with
 |zero=>rfl
 |succ K A=>rw[uG,A]
theorem Li (K:Nat):vX K (λ_=>0)=0:=by
 induction K with
 |zero=>rfl
 |succ K A=>rw[uG,A]
theorem Yw (O:C.Ok)(H:mG C K N tk P n){k:Nat}(hk:k<K)(h1:jp C K P ((k:Int)+1)=true)(bd:∀t y e,(P.ws k).job=some (t,y,e)→e≤lnE C.d.s.y y)(su:C.suits n)(D:Cz (some C.E) (P.ws k) n n'):∃bk,mG C K N bk (pU C K P ((k:Int)+1)) n':=by
 have ad:=VX H.ok ((k:Int)+1);have ek:((k:Int)+1-1).toNat=k:=ae;have aw:pU C K P ((k:Int)+1)=td C K {P with picks:=P.picks+1} k:=by
  unfold pU;rw[h1,az (by simp),az ae,ek]
 rw[aw]at ad ⊢
 clear aw
 obtain⟨f1,f2,f3,f4,f5,f6,f7⟩:=La C K {P with picks:=P.picks+1} k;generalize td C K {P with picks:=P.picks+1} k=Q at ad f1 f2 f3 f4 f5 f6 f7 ⊢;have f4:Q.sent=P.sent:=f4;have f5:Q.ret=P.ret:=f5;have f6:Q.picks=P.picks+1:=f6;have f1:Q.q=(cW (some C.E) (C.jo (bR P.q)) (P.ws k) P.q).2.1:=f1;have f2:Q.ws=λi=>if i=k then(cW (some C.E) (C.jo (bR P.q)) (P.ws k) P.q).1 else P.ws i:=f2
 have f7:Q.left.length=P.left.length+if(cW (some C.E) (C.jo (bR P.q)) (P.ws k) P.q).2.2.1=3 then 1 else 0:=f7
 have hs:=H.ok.sent;have hn:=H.nn;have ax:=H.sn;have hr:=H.rem;have Wk:=H.ok.w k hk;have au:(P.ws k).state=1∨((P.ws k).state=0∧dX P.q≠1):=by
  unfold jp at h1;split at h1
  ·cases h1
  ·rw[aA ae,ek]at h1;simpa using h1
 have U:∀(f:WD→Nat),vX K (λi=>f (Q.ws i))+f (P.ws k)=vX K (λi=>f (P.ws i))+f (cW (some C.E) (C.jo (bR P.q)) (P.ws k) P.q).1:=λf=>by
  have:=YC (f:=λi=>f (P.ws i)) (g:=λi=>f (Q.ws i)) (k:=k) (λi hi=>by rw[f2];simp only[az hi]) K hk;rw[f2]at this ⊢;simp only[cJ]at this;exact this
 have F:∀j,j<K→j≠k→Q.ws j=P.ws j:=λj _ h=>by rw[f2];simp only[az h]
 have A:Q.ws k=(cW (some C.E) (C.jo (bR P.q)) (P.ws k) P.q).1:=by rw[f2];simp only[cJ]
 have ay:=PN D;have pO:∀j,j<K→j≠k→qD C (Q.ws j) n':=λj hj h=>by rw[F j hj h];exact(H.paint j hj).keep D.1 ay
 rcases Wk.st with⟨s1,s2,s3⟩|⟨s1,s2⟩
 ·-- it moves
  cases hj:(P.ws k).job with
  |none=>rw[hj]at s2;exact(show False from s2).elim
  | some jj=>
   obtain⟨t,y,e⟩:=jj;rw[hj]at s2;have s2:cn (C.E.d t) y e≠0:=s2;have es:cW (some C.E) (C.jo (bR P.q)) (P.ws k) P.q=(⟨stJ (cH (some C.E) (some (t,gj (C.E.d t) y e,ir (C.E.d t) y e))),(P.ws k).tiles,cH (some C.E) (some (t,gj (C.E.d t) y e,ir (C.E.d t) y e)),(P.ws k).words⟩,P.q,(2,(P.ws k).tiles.getLast?.getD 0,cn (C.E.d t) y e,iq (C.E.d t) y e)):=by
    unfold cW;rw[aA s1,hj]
   rw[es]at f1 f7 A U;have f1:Q.q=P.q:=f1;have f7:Q.left.length=P.left.length:=by rw[f7];simp
   have hl:=Wk.tl _ (Ty s3);obtain⟨j1,j2⟩:=Wk.jb t y e hj;have al:=U λw=>muJ C.E w.job
   have ab:=U ki;have g0:ki (P.ws k)=0:=by unfold ki;rw[az ae]
   have gs:∀jo,ki ⟨stJ jo,(P.ws k).tiles,jo,(P.ws k).words⟩=0:=λjo=>by unfold ki;rw[az];cases jo with|none=>exact(by decide:¬(0:Int)=2)|some x=>exact(by decide:¬(1:Int)=2)
   simp only[Pr,hj]at al;have b2:muJ C.E (some (t,y,e))=rV (C.E.d t) y e:=rfl;have bv:=XJ (d:=C.E.d t) s2 (bd t y e hj);simp only[gs,g0]at ab;refine⟨tk,ad,H.nn,by rw[f4];exact ax,by rw[f1,f4];exact H.ql,by rw[f1];exact H.rm,λx hx=>?_,λj G h=>?_,by rw[f7,H.cnt];omega,λh=>by rw[f5]at h;rw[f1,f7];exact H.rt h,?_,λj G=>?_⟩
   ·obtain⟨j,W,aa⟩:=H.cov x hx;refine⟨j,W,?_⟩;by_cases I:j=k
    ·subst I;rw[A];exact aa
    ·rw[F j W I];exact aa
   ·rw[f1];by_cases I:j=k
    ·subst I;rw[A]at h;have:=gs (cH (some C.E) (some (t,gj (C.E.d t) y e,ir (C.E.d t) y e)));unfold ki at this;rw[aA h]at this;omega
    ·rw[F j G I]at h;exact H.gone j G h
   ·rw[f1,f4,f5,f6,f7];omega
   ·by_cases e':j=k
    ·subst e';exact qD.move O hj hl.1 ae j1 su (H.paint j G) D (by rw[A]) (by rw[A])
    ·exact pO j G e'
 ·have s0:(P.ws k).state=0∧dX P.q≠1:=by
   rcases au with h|h
   ·omega
   ·exact h
  have bg:n'=n:=by
   obtain⟨_,D2⟩:=D;rw[s2]at D2;exact D2
  subst bg;have g0:ki (P.ws k)=0:=by unfold ki;rw[az ae]
  have m0:muJ C.E (P.ws k).job=0:=by rw[s2];rfl
  by_cases L:dX P.q=0
  ·-- it uL a tile
   have ar:P.q.l≠[]:=λh=>by unfold dX at L;rw[aA h]at L;split at L<;>omega
   have a8:tk<P.sent.toNat:=by
    rw[H.ql]at ar;exact Nat.lt_of_not_le λh=>ar (Pq.2 h)
   have hx:bR P.q=(tk:Int):=by unfold bR;rw[H.ql,Tl a8];rfl
   have es:cW (some C.E) (C.jo (bR P.q)) (P.ws k) P.q=(Ac (some C.E) (P.ws k) (bR P.q) (C.jo (bR P.q)),pT P.q,(1,bR P.q,0,0)):=by
    unfold cW;rw[az ae,az ae,aA L]
   rw[es]at f1 f7 A U;have f1:Q.q=pT P.q:=f1;have f7:Q.left.length=P.left.length:=by rw[f7];simp
   have be:(pT P.q).l=BM (tk+1) P.sent.toNat:=by
    unfold pT;show P.q.l.tail=_;rw[H.ql,Tl a8];rfl
   have ab:=U ki;have al:=U λw=>muJ C.E w.job
   have gs:∀jo wd tl,ki ⟨stJ jo,tl,jo,wd⟩=0:=λjo wd tl=>by unfold ki;rw[az];cases jo with|none=>exact(by decide:¬(0:Int)=2)|some x=>exact(by decide:¬(1:Int)=2)
   have g1:ki (Ac (some C.E) (P.ws k) (bR P.q) (C.jo (bR P.q)))=0:=gs _ _ _;have m1:muJ C.E (Ac (some C.E) (P.ws k) (bR P.q) (C.jo (bR P.q))).job=qf C tk:=by
    rw[hx];show muJ C.E (cH (some C.E) (some ((aO C.d tk),(aO C.d tk).y,lnF C.d.s.y (aO C.d tk).y)))=_;rw[Pr];rfl
   have b0:jg C (N-tk) tk=qf C tk+jg C (N-(tk+1)) (tk+1):=by
    rw[show N-tk=(N-(tk+1))+1 by omega];rfl
   have a7:(Ac (some C.E) (P.ws k) (bR P.q) (C.jo (bR P.q))).tiles=(P.ws k).tiles++[bR P.q]:=rfl;simp only[m0,m1]at al;simp only[g0,g1]at ab;refine⟨tk+1,ad,H.nn,by rw[f4];omega,by rw[f1,f4];exact be,by rw[f1];exact H.rm,λx b3=>?_,λj G h=>?_,by rw[f7,H.cnt];omega,λh=>by rw[f5]at h;rw[f1,f7];exact H.rt h,?_,λj G=>?_⟩
   ·by_cases ex:x=tk
    ·refine⟨k,hk,?_⟩;rw[A,a7,hx,ex];simp
    ·obtain⟨j,W,aa⟩:=H.cov x ae;refine⟨j,W,?_⟩;by_cases I:j=k
     ·subst I;rw[A,a7];exact KF _ aa
     ·rw[F j W I];exact aa
   ·by_cases I:j=k
    ·subst I;rw[A]at h;unfold ki at g1;rw[aA h]at g1;omega
    ·rw[F j G I]at h;exact absurd (H.gone j G h).1 ar
   ·rw[f1,f4,f5,f6,f7];have a9:(pT P.q).closed=P.q.closed:=rfl;rw[a9];omega
   ·by_cases e':j=k
    ·subst e';exact qD.take O (x:=bR P.q) (by rw[hx];omega) (by rw[hx];omega) s2 (H.paint j G) (by rw[A];rfl) (by rw[A];rfl)
    ·exact pO j G e'
  ·-- it leaves
   have an:dX P.q=2:=by
    have:=s0.2;unfold dX at this L ⊢;split
    ·rename_i h;rw[aA h]at this L;split<;>simp_all
    ·rename_i h;rw[az h]at L;exact absurd rfl L
   have hq:P.q.l=[]∧P.q.closed=true:=by
    unfold dX at an;split at an
    ·rename_i h;refine⟨h,?_⟩;split at an
     ·assumption
     ·omega
    ·omega
   have bc:pT P.q=P.q:=by
    unfold pT;rw[hq.1];cases h:P.q;rw[h]at hq
    simp_all
   have es:cW (some C.E) (C.jo (bR P.q)) (P.ws k) P.q=({P.ws k with state:=2},pT P.q,(3,0,0,0)):=by
    unfold cW;rw[az ae,az ae,az L,aA an]
   rw[es]at f1 f7 A U;have f1:Q.q=P.q:=by rw[f1];exact bc
   have f7:Q.left.length=P.left.length+1:=by rw[f7];simp
   have ab:=U ki;have al:=U λw=>muJ C.E w.job
   have g1:ki {P.ws k with state:=2}=1:=rfl;have gl:=R1 K Q.ws;simp only[m0,s2]at al;simp only[g0,g1]at ab;have b1:muJ C.E none=0:=rfl;have bo:=H.cnt;refine⟨tk,ad,H.nn,by rw[f4];exact ax,by rw[f1,f4];exact H.ql,by rw[f1];exact H.rm,λx hx=>?_,λj G h=>by rw[f1];exact hq,by rw[f7,H.cnt];omega,λh=>?_,?_,λj G=>?_⟩
   ·obtain⟨j,W,aa⟩:=H.cov x hx;refine⟨j,W,?_⟩;by_cases I:j=k
    ·subst I;rw[A];exact aa
    ·rw[F j W I];exact aa
   ·rw[f5]at h;have:=(H.rt h).2;have:=R1 K P.ws;omega
   ·rw[f1,f4,f5,f6,f7];omega
   ·by_cases e':j=k
    ·subst e';have hp:=H.paint j G;rw[A];exact hp
    ·exact pO j G e'
theorem YT (O:C.Ok)(H:mG C K N tk P n){i:Int}(G:∀k,k<K→∀t y e,(P.ws k).job=some (t,y,e)→e≤lnE C.d.s.y y)(su:C.suits n)(D:Xi C K P i n n'):∃F,mG C K N F (pU C K P i) n':=by
 unfold Xi at D;by_cases A:jp C K P i=true
 ·by_cases h0:i=0
  ·rw[az (λh=>h.2 h0)]at D;subst h0 D;exact⟨tk,Y7 H A⟩
  ·rw[aA ⟨A,h0⟩]at D;have hi:0<i∧i≤K:=by
    unfold jp at A;split at A
    ·cases A
    ·omega
   obtain⟨k,rfl⟩:∃k:Nat,i=(k:Int)+1:=⟨(i-1).toNat,ae⟩
   rw[show((k:Int)+1-1).toNat=k by omega]at D;exact Yw O H ae A (G k ae) su D
 ·rw[az (λh=>A h.1)]at D;subst D;refine⟨tk,?_⟩;have:pU C K P i=P:=by unfold pU;rw[aA (by simpa using A)]
  rw[this];exact H
theorem YE (H:mG C K N tk P n)(hK:1≤K)(hr:P.ret=false):∃i:Nat,i≤K∧jp C K P (i:Int)=true:=by
 have hs:=H.ok.sent;have wk:∀k,k<K→((P.ws k).state=1∨((P.ws k).state=0∧dX P.q≠1))→∃i:Nat,i≤K∧jp C K P (i:Int)=true:=λk A h=>by
  refine⟨k+1,ae,?_⟩;unfold jp;rw[az ae,aA ae,show(((k+1:Nat):Int)-1).toNat=k by omega];exact da h
 have L:(if P.sent<ck C.d then decide (vl P.q≠1)else !P.q.closed||decide (P.left.length=K))=true→∃i:Nat,i≤K∧jp C K P (i:Int)=true:=λh=>by
  refine⟨0,ae,?_⟩;unfold jp;rw[az ae,az ae,az (by rw[hr];simp)];exact h
 by_cases g:P.sent<ck C.d
 ·by_cases F:vl P.q=1
  ·have D:P.q.l≠[]:=λh=>by
    unfold vl at F;split at F
    ·omega
    ·split at F
     ·rename_i hh;rw[h]at hh;have:=H.rm;simp only[kS]at hh;omega
     ·omega
   have W:dX P.q=0:=az D;rcases(H.ok.w 0 ae).st with h|⟨h|h,_⟩
   ·exact wk 0 ae (.inl h.1)
   ·exact wk 0 ae (.inr ⟨h,ae⟩)
   ·exact absurd (H.gone 0 ae h).1 D
  ·exact L (by rw[aA g];exact da F)
 ·cases hc:P.q.closed with
  |false=>exact L (by rw[az g,hc];rfl)
  | true=>
   by_cases U:P.left.length=K
   ·exact L (by rw[az g,hc];simpa using U)
   ·have:∃k,k<K∧(P.ws k).state≠2:=Rg λh=>U (by
     rw[H.cnt];have:∀k,k<K→ki (P.ws k)=1:=λk A=>by
      unfold ki;rw[aA (Rg λG=>h ⟨k,A,G⟩)]
     rw[Io (g:=λ_=>1) this,YD])
    obtain⟨k,A,G⟩:=this;have I:dX P.q≠1:=by
     unfold dX;rw[hc];split<;>simp
    rcases(H.ok.w k A).st with h|⟨h|h,_⟩
    ·exact wk k A (.inl h.1)
    ·exact wk k A (.inr ⟨h,I⟩)
    ·exact absurd h G
theorem WF (O:C.Ok)(H:mG C K N tk P n)(su:C.suits n)(hK:1≤K)(U:P.ret=true):n.l=(Ci C.m C.d.s).l∧P.picks=(2*N+K+2+jg C N 0:Nat)∧tk=N:=by
 obtain⟨h1,h2⟩:=H.rt U;have hs:=H.ok.cl h1;have W:=H.cnt;have D:=Zh (K:=K) (ws:=P.ws) ae;have hn:=H.nn;have A:=H.rem;have F:∀k,k<K→(P.ws k).job=none:=λk G=>by
  rcases(H.ok.w k G).st with h|h
  ·have:=D k G;omega
  ·exact h.2
 have L:vX K (λk=>muJ C.E (P.ws k).job)=0:=by
  rw[Io (g:=λ_=>0) λk G=>by rw[F k G];rfl,Li]
 have I:tk=N:=by
  have:=(H.gone 0 ae (D 0 ae)).1;rw[H.ql]at this;have:=Pq.1 this;have:=H.sn;omega
 refine⟨?_,?_,I⟩
 ·refine S6 O H.nn (λx y c hi i aa ht _=>?_) su;obtain⟨k,G,hm⟩:=H.cov i ae;exact H.paint k G x y c hi i hm ht λt yy e h _=>by rw[F k G]at h;cases h
 ·rw[I,L,h1,U]at A;simp only[cJ]at A;have e0:jg C (N-N) N=0:=by rw[Rj];rfl
  rw[e0]at A;omega
end
end
end Go.Proofs.YtjljhnandbbldaaGreatDoor
namespace Go.Proofs.YtjljhnandbbldaaGreatDoor
open Go Go.Crisp
attribute [local irreducible] ag di aW stK aF vK qK bK gK fo bA mkK dk Fm GM CJ bsK clK tW oA V0
open _root_.Go.Proofs.Tryz
section
def GoP (C:C21)(Z:Nat→Prop)(K N:Nat)(h0:ah)(bw:Nat→Nat)(bp:Nat)(o:Nat→Nat)(n:Pic)(P:ce)(h:ah):Prop:=fm C Z K h0 bw bp o n P h∧∃tk,mG C K N tk P n
theorem Qq {C:C21}{K:Nat}{P:ce}{k:Nat}{x:Int}:x∈Ev C K P k↔ ∃i:Nat,i<k∧x=(i:Int)∧jp C K P x=true:=by
 unfold Ev;rw[List.mem_filter,gO];constructor
 ·rintro⟨⟨i,hi,rfl⟩,h⟩;exact⟨i,sO.1 hi,rfl,h⟩
 ·rintro⟨i,hi,rfl,h⟩;exact⟨⟨i,sO.2 hi,rfl⟩,h⟩
theorem Pn {C:C21}{K:Nat}{P:ce}{i:Int}(h:jp C K P i=true):(pU C K P i).picks=P.picks+1:=by
 unfold pU;rw[h,az (by simp)];split
 ·unfold GS;split
  ·rfl
  ·split<;>rfl
 ·exact(La C K {P with picks:=P.picks+1} (i-1).toNat).2.2.2.2.2.1
section
variable {C:C21}{Z:Nat→Prop}{K N:Nat}{h0 h:ah}{bw:Nat→Nat}{bp:Nat}{o:Nat→Nat}{n:Pic}{P:ce}
theorem GoP.ext {h':ah}(H:GoP C Z K N h0 bw bp o n P h)(e:Ext h h'):GoP C Z K N h0 bw bp o n P h':=⟨H.1.ext e,H.2⟩
theorem GoP.picks (H:GoP C Z K N h0 bw bp o n P h):0≤P.picks∧P.picks≤(2*N+K+2+jg C N 0:Nat):=by
 obtain⟨_,tk,I⟩:=H;have:=I.rem;have:=I.ok.pk;omega
theorem GoP.few (H:GoP C Z K N h0 bw bp o n P h):1≤K∧K≤256∧Ext h0 h∧C.suits n:=by
 obtain⟨⟨V,H⟩,_⟩:=H;exact⟨H.few.1,H.few.2,H.ext,H.sui⟩
theorem WZ (O:C.Ok)(G:eF h0)(H:GoP C Z K N h0 bw bp o n P h){i:Int}(hi:I64 i)(few:2*N+K+2+jg C N 0≤300000)(L:∀c,dQ (some C.E) c→h0.size≤c):
  ag prog jG #[ptr bp,af i] h λr h'=>r=.bool (jp C K P i)∧∃o' n',GoP C Z K N h0 bw bp o' n' (pU C K P i) h'∧(∀c,c<h.size→o' c=o c)∧Fr (λc=>o c≠0∨dQ (some C.E) c) h h':=by
 have hp:=H.picks;obtain⟨F,tk,I⟩:=H;have hN:=I.nn;refine(zc2 O G F I.ok hi ae ae L).mono λr h' ⟨W,n',⟨o',a,b,c⟩,D⟩=>?_
 obtain⟨V,B⟩:=F;obtain⟨A,U⟩:=YT O I (λk hk=>(B.ws k hk id).job_e) B.sui D;exact⟨W,o',n',⟨a,A,U⟩,b,c⟩
theorem GoP.runs (H:GoP C Z K N h0 bw bp o n P h)(A:P.ret=false):Ev C K P (K+1)≠[]:=by
 have D:=H.few.1;obtain⟨_,tk,I⟩:=H;obtain⟨i,hi,h1⟩:=YE I D A;intro F;have:((i:Nat):Int)∈Ev C K P (K+1):=Qq.2 ⟨i,ae,rfl,h1⟩;rw[F]at this;cases this
def JobI (C:C21)(K:Nat)(P:ce):Prop:=∀k,k<K→∀t y e,(P.ws k).job=some (t,y,e)→t.y≤y∧y<t.y+t.h∧lnF C.d.s.y y≤e∧e≤lnE C.d.s.y y
theorem fm.jobI (H:fm C Z K h0 bw bp o n P h):JobI C K P:=by
 obtain⟨V,B⟩:=H;exact λk A=>(B.ws k A id).job_at
inductive Yu (C:C21)(K N:Nat):ce→ce→Prop
 |refl (P:ce):Yu C K N P P
 |pick {P P':ce} {n:Pic} {tk:Nat} {i:Int}:Yu C K N P P'→mG C K N tk P' n→jp C K P' i=true→JobI C K P'→Yu C K N P (pU C K P' i)
theorem zbD (O:C.Ok)(G:eF h0)(H:GoP C Z K N h0 bw bp o n P h)(few:2*N+K+2+jg C N 0≤190000)(hb:∀c,dQ (some C.E) c→h0.size≤c){Zd:Nat→Prop}{dv:Value}{l:List Int}(HD:Rp.Sl (Rp.int .u8) Zd h0 dv l)(h8:∀x∈l,B8 x)(hl:l.length≤600):
  ag prog xJ #[ptr bp,dv] h λr h'=>r=.bool true∧∃o' n' A,GoP C Z K N h0 bw bp o' n' A h'∧A.ret=true∧(∀c,c<h.size→o' c=o c)∧Fr (λc=>o c≠0∨dQ (some C.E) c) h h'∧Yu C K N P A:=by
 apply Md;unfold A5;have hK:=H.few;obtain⟨av,cv,ev⟩:=HD.isSl;have ax:aD dv=some (af (l.length:Int)):=by rw[ev];rfl
 refine bI (α:=Unit) 200000 0 (λi _=>[af (i:Int)]) (λi _ g=>∃o' n' A,GoP C Z K N h0 bw bp o' n' A g∧(i:Int)≤A.picks∧(∀c,c<h.size→o' c=o c)∧Fr (λc=>o c≠0∨dQ (some C.E) c) h g∧Yu C K N P A) () rfl (b9 _) ⟨o,n,P,H,by have:=H.picks;omega,λ_ _=>rfl,Fr.refl _ _,.refl P⟩ λi _ g again ρ _ hi ⟨o',n',A,H',a9,oo,f,D⟩ aw=>?_
 simp only[iC];have a8:=H'.picks;rw[cD,ak];refine ao (λg1=>?_) (λg1=>?_)
 ·refine(JT O H'.1).mono λrv g2 NR=>?_
  have e2:=NR.2.1;have I:=H'.ext e2;have f2:=f.ext_r e2;refine ag.at (Nr I.1) ?_;cases hr:A.ret with
  |true=>
   rw[gR];exact⟨trivial,o',n',A,I,hr,oo,f2,D⟩
  | false=>
   rw[cR];have ad:=I.runs hr;generalize hL:Ev C K A (K+1)=L at NR ad;have ay:L.length≠0:=λh=>ad (mW h)
   have a7:L.length≤K+1:=by rw[←hL];exact LG _ _ _ _
   obtain⟨ar,cr,er⟩:=NR.1.sl.isSl;have an:aD rv=some (af (L.length:Int)):=by rw[er];rfl
   have Eg:Ext h0 g2:=I.few.2.2.1;rw[an,ak,vJ,ak,cG ae,cR];refine bB (λxs g'=>g'=g2∧∃m:Nat,xs=[af (m:Int)]) ?_ ?_
   ·rw[ax,ak,cD,ak];refine ao (λc1=>?_) (λc1=>?_)
    ·have ab:i<l.length:=ae;obtain⟨p,a1,a2⟩:=(HD.ext Eg).int_at (k':=.i64) ab;have U:=h8 _ (cO ab);unfold B8 at U;rw[a1,ak,a2,ak,B9,ak,w64 (n:=l[i]) ae ae];exact⟨rfl,l[i].toNat,by rw[wU U.1]⟩
    ·exact⟨rfl,i,rfl⟩
   ·rintro xs ρ' g' ⟨rfl,m,rfl⟩;simp only[iC];rw[ak,zaK _ _ _ _ ae,ak];have aa:m%L.length<L.length:=gN _ ae;obtain⟨p,a1,a2⟩:=NR.1.sl.int_at (k':=.i64) aa;rw[a1,ak,a2,ak];have W:L[m%L.length]∈Ev C K A (K+1):=by rw[hL];exact cO aa
    obtain⟨j,hj,ej,F⟩:=Qq.1 W;refine(WZ O G I (by unfold I64;omega) ae hb).mono λr g3 ⟨er,o3,n3,H3,au,f3⟩=>?_
    rw[F]at er;subst er;have al:(i:Int)+1=((i+1:Nat):Int):=ae;simp only[go_sem];rw[w64 (n:=(i:Int)+1) ae ae,al];have s2:=f2.1;refine aw () g3 ae ⟨o3,n3,_,H3,by rw[Pn F];omega,λc hc=>(au c ae).trans (oo c hc),f2.after f3 λc hc h=>h.imp (λh=>by rwa [oo c hc]at h) id,D.pick I.2.choose_spec F I.1.jobI⟩
 ·omega
end
end
def LQ:Pic:=⟨1,1,1,255,[9]⟩
def yp:OpD:=⟨1,0,0,0,[],[],0,0,0⟩
theorem XO:eZ yp 1 1=0∧pI yp 1=1∧nJ LQ (ch yp 1 1)∧BT (ch yp 1 1).x.lines.length (ch yp 1 1).y.lines.length 1 255=0∧(ch yp 1 1).x.lines.length=1∧(ch yp 1 1).y.lines.length=1∧xr LQ (ch yp 1 1) 0 0 0=9∧ck ⟨ch yp 1 1,1,1⟩=1∧yP (ch yp 1 1) (aO ⟨ch yp 1 1,1,1⟩ 0) LQ=2:=by
 decide+kernel
theorem at22:atP (Ci LQ (ch yp 1 1)) 0 0 0=9:=by decide+kernel
theorem Pm {C:C21}{K N:Nat}{room a b:Int}{n:Pic}(D:(N:Int)=ck C.d):mG C K N 0 (Gu K room a b) n:=by
 refine⟨YR ae,D,fT _,rfl,(by show 1≤min (max 1 room) 4096;omega),(λx F=>ae),λk A h=>?_,?_,(λh=>by cases h),?_,(λk A x y c _ i hi=>by cases hi)⟩
 ·have h:(0:Int)=2:=h;omega
 ·show 0=vX K λ_=>0
  rw[Li]
 ·show(0:Int)+((N-0)+1+1+(N-0)+jg C (N-0) 0+vX K (λ_=>0)+(K-0):Nat)=(2*N+K+2+jg C N 0:Nat);rw[Li,zg];omega
theorem zbh {C:C21}{K N tk:Nat}{P:ce}{n:Pic}(O:C.Ok)(H:mG C K N tk P n)(su:C.suits n)(L:1≤K)(I:P.ret=true):n=Ci C.m C.d.s:=by
 have h:=(WF O H su L I).1;obtain⟨U,F,A,G,D⟩:=su.2;cases n;simp only at h F A G D;subst h F A G D;rfl
theorem Nt {h:ah}(G:eF h):ag prog kn #[] h λr h'=>r=.bool true∧Ext h h':=by
 apply Me;unfold A7;obtain⟨a1,a2,a3,a4,a5,a6,a7,a8,a9⟩:=XO;have a0:BT 1 1 1 255=0:=by decide+kernel
 refine dc (Rp.fill_one rfl) λb1 h1 r1 e1 n1=>?_
 have S1:=Rp.SlC.single (cs:=[.int .u16 9]) r1;have SU:Rp.Sl rU (λ_=>True) h1 (.slice (some ⟨b1,0,none⟩) 1 1) [9]:=⟨_,S1,λ_ _ _=>trivial,λi hi=>by
  have hi:i=0:=by simpa using hi
  subst hi;rfl⟩
 refine(Sb SU a0 rfl (λx hx=>by have:=iy.1 hx;omega)).mono λr h2 ⟨pm,A,bm,vm,ax,I,b4,b7,e2⟩=>?_
 subst A ax;have I:dd h2 bm vm LQ:=I;have W:LQ.Wf:=⟨by decide,by decide,by decide,rfl,λx hx=>by have:=iy.1 hx;show 0≤x∧x≤255;omega⟩
 have E2:=e1.trans e2;have hf:(aM #[ai,ai,ai,ai,(.slice none 0 0),(.slice none 0 0),ai,ai,ai] [(0,1,aH)])=some #[aH,ai,ai,ai,.slice none 0 0,.slice none 0 0,ai,ai,ai]:=rfl;simp only[go_sem,hf,bG];have wf:yp.Wf:=Bw (by simp[I64]);refine(Jc (Z:=λ_=>True) (o:=yp) (G.ext E2) Bx wf (by simp[yp]) (by simp[yp]) (by unfold I64;omega) (by unfold I64;omega)).mono λw h3 ⟨sv,e,e3,_,s2⟩=>?_
 subst e;have HS:=s2 a1;rw[a1];obtain⟨p,q,rfl,hp,hq,au⟩:=jk HS;simp only[go_sem];refine dh (cs:=[p,q,af _]) rfl au rfl λb3 h4 r4 e4 n4=>?_
 have E4:=E2.trans (e3.trans e4);refine ag.to zbM λh5 e5=>?_
 simp only[go_sem];have E5:=E4.trans e5;refine ag.to (Vu (G.ext E5)) λh6 e6=>?_
 have E6:=E5.trans e6;simp only[go_sem,eqT];rw[aU (l:=[p,q,af _]) ((e5.trans e6).row r4) 3 rfl,ak];have OK:Cj (ch yp 1 1):=MH a1 ae (by rw[a2];omega);have s3:=e3.1;have b8:=(e4.trans (e5.trans e6)).1;have I6:=(I.ext (e3.trans (e4.trans (e5.trans e6))))
 have bg:pX (λc=>c<h6.size) h6 (.agg #[p,q,af (ch yp 1 1).border]) (ch yp 1 1):=(HS.ext (e4.trans (e5.trans e6))).mono λc hc _=>hc
 refine(P5 (wk:=1) (G.ext E6) I6 W bg OK a3 ⟨I6.lt,λc hc=>I6.ltv hc⟩ (λc hc=>hc) a4).mono λr h7 ⟨_,_,hM⟩=>?_
 obtain⟨bp,C,Z,bw,o,A,k1,k2,k3,CO,HP,an,e7,b5,_⟩:=hM (by unfold fC;omega) 1 rfl ae;subst A;have ct:ck C.d=1:=by rw[k2];exact a8
 have st:jg C 1 0=2:=by
  have:qf C (0:Nat)=yP C.d.s (aO C.d 0) C.m:=rfl;show qf C (0:Nat)+0=2;rw[this,k1,k2];exact a9
 have GP:GoP C Z 1 1 h6 bw bp o _ _ h7:=⟨HP,0,Pm (by rw[ct];rfl)⟩
 have pn:aj .p .eql (ptr bp) (.pointer none)=some (.bool false):=rfl;simp only[go_sem,eqT,pn];refine ag.to (Ua CO GP.1 (N:=1) (by rw[ct];rfl) ae ae) λh8 e8=>?_
 rw[st];have n7:aj .i .neq (af ((2*1+1+2+2:Nat):Int)) (af 7)=some (.bool false):=rfl;simp only[go_sem,n7];have aa:=GP.ext e8;refine ag.at (NE aa.1) ?_;have n2:aj .i .neq (af ((1+1:Nat):Int)) (af 2)=some (.bool false):=rfl;simp only[go_sem,n2];have E8:=E6.trans (e7.trans e8);refine bI (α:=Unit) 7 0 (λi _=>[af (i:Int)]) (λi _ g=>∃o n P,GoP C Z 1 1 h6 bw bp o n P g∧P.picks=(i:Int)) () rfl (b9 _) ⟨o,_,_,aa,rfl⟩ λi _ g again ρ _ hi ⟨o',n',F,H,bo⟩ bv=>?_
 simp only[iC];rw[cD,ak];refine ao (λg1=>?_) (λg1=>?_)
 ·have hr:F.ret=false:=by
   cases h:F.ret with
   |false=>rfl
   |true=>
    have su:=H.few.2.2.2;obtain⟨_,tk,J⟩:=H;have:=(WF CO J su ae h).2.1;omega
  refine(JT CO H.1).mono λrv g2 NR=>?_
  have e9:=NR.2.1;have H2:=H.ext e9;have aw:=H2.runs hr;generalize hL:Ev C 1 F (1+1)=L at NR aw;have b0:L.length≠0:=λh=>aw (mW h)
  obtain⟨ar,cr,A⟩:=NR.1.sl.isSl;have bd:aD rv=some (af (L.length:Int)):=by rw[A];rfl
  have b2:L.length≤2:=by rw[←hL];exact LG _ _ _ _
  have l0:aj .i .eql (af (L.length:Int)) ai=some (.bool false):=by rw[vJ,cG ae]
  obtain⟨p0,c1,c2⟩:=NR.1.sl.int_at (k':=.i64) (i:=0) (show 0<L.length by omega);have c1:bh 1 rv ai=some p0:=c1;simp only[go_sem,bd,l0,c1,c2];have ad:L[0]∈Ev C 1 F (1+1):=by rw[hL];exact cO _
  obtain⟨j,hj,ej,U⟩:=Qq.1 ad;refine(WZ CO (G.ext E6) H2 (by unfold I64;omega) ae an).mono λr g3 ⟨A,o3,n3,H3,b6,f3⟩=>?_
  rw[U]at A;subst A;have ay:(i:Int)+1=((i+1:Nat):Int):=ae;simp only[go_sem];rw[w64 (n:=(i:Int)+1) ae ae,ay];exact bv () g3 ae ⟨o3,n3,_,H3,by rw[Pn U];omega⟩
 ·have bc:i=7:=ae;have hF:=H.few;obtain⟨bk,tk,J⟩:=H;have D:=J.rem;have hr:F.ret=true:=by
   cases h:F.ret with
   |true=>rfl
   |false=>
    rw[h,bo,bc,st]at D;simp only[gB,cE]at D;omega
  have en:=zbh CO J hF.2.2.2 ae hr;rw[k1,k2]at en;refine(Sa bk).mono λr g2 ab=>?_
  rcases ab with⟨h0,_⟩|⟨_,p2,A,bn,vn,ep,I2,_,_,e9⟩
  ·rw[hr]at h0;cases h0
  ·subst A ep;have be:aj .p .neq (ptr bn) (.pointer none)=some (.bool true):=rfl;have al:=hF.2.2.2.1;rw[en]at I2 al;simp only[go_sem,be];refine ag.at (zbR I2 al) ?_;rw[show atP (Ci LQ (⟨ch yp 1 1,1,1⟩:dm).s) 0 0 0=9 from at22];simp only[go_sem,eqT,gn];exact⟨trivial,E6.trans (hF.2.2.1.trans e9)⟩
structure Bg22 (h6:ah)(a:si)(o:OpD)(bf:Nat)(vf sv rv:Value)(Z1:Nat→Prop)(h':ah):Prop where
 ok:Ky a o
 ext:Ext h6 h'
 img:dd h' bf vf (eB a)
 nb:h6.size≤bf∧∀c,blk vf c→h6.size≤c
 st:Rp.Sl Ee Z1 h' sv [bgS a o]
 rf:Rp.Sl xp Z1 h' rv [bgS a o]
 zl:∀c,Z1 c→h6.size≤c∧c<h'.size
theorem zbU {F:ah}(G:eF F){Z1 Z2:Nat→Prop}{cs os:List Value}{a:si}{o:OpD}(H:nT.R Z1 F cs a)(WA:a.Wf)(HO:rOp.R Z2 F os o)(WO:Eo [o]){b1 b3:Nat}{t1 t3:TypeId}(r1:F[b1]? =some (.cells cs.toArray t1 (0,0)))(r3:F[b3]? =some (.cells os.toArray t3 (0,0))){Y:Value→Value→Value→Value→ah→Prop}
  (Y0:∀bf sv rv h',Ext F h'→¬(nr 12 [o]∧AB [o] (eB a).w (eB a).h (eB a).c=0)→Y (ptr bf) sv rv (.bool false) h') (Y1:∀bf vf sv rv Z1 h',Bg22 F a o bf vf sv rv Z1 h'→Y (ptr bf) sv rv (.bool true) h'):
  vK (aP 5 F (ptr b1)) λv8=>ag prog fb #[v8] F λv9 D=>vK (aP 9 D (ptr b3)) λau=>
  di #[ai,ai,ai,ai,(.slice none 0 0),(.slice none 0 0),ai,ai,ai] 31 1 [(0,9,au)] D λa7 ax=>
  ag prog ii #[a7,v9] ax λU aa=>vK (aL U 0) λar=>vK (aL U 1) λaw=>vK (aL U 2) λa9=>Y v9 ar aw a9 aa:=by
 have lc:=nT.len H;have lo:=rOp.len HO;rw[aU r1 5 lc,ak];refine(Ja (nT.mono H λ_ _ h=>h) WA).mono λpm h7 N7=>?_
 obtain⟨bf,vf,rfl,I7,ad,ab,e7⟩:=N7;rw[aU (e7.row r3) 9 lo,ak];refine dc (Rp.fill_whole (by rfl) lo) λb5 D a8 W n10=>?_
 have A:=e7.trans W;have ay:Rp.Sl rOp (λc=>Z2 c∨c=b5) D (.slice (some ⟨b5,0,none⟩) 1 1) [o]:=by
  refine⟨os,?_,λ_ b hb=>.inr hb,λi hi=>?_⟩
  ·have:=Rp.SlC.single (cs:=os) a8;rw[lo]at this;exact this
  ·have:i=0:=by simpa using hi
   subst this;rw[Rp.el_self lo];exact rOp.mono (rOp.ext HO A) λb _ hb=>.inl hb
 refine(Uc (G.ext A) ay (by simp) WO (I7.ext W) (vG a)).mono λr al ⟨L,sv,rv,ok,er,bc,I,hS⟩=>?_
 subst er;have x0:aL (.tuple #[sv,rv,.bool ok]) 0=some sv:=rfl;have x1:aL (.tuple #[sv,rv,.bool ok]) 1=some rv:=rfl;have x2:aL (.tuple #[sv,rv,.bool ok]) 2=some (.bool ok):=rfl;rw[x0,ak,x1,ak,x2,ak];have an:=A.1;cases hk:ok with
 |false=>exact Y0 _ _ _ _ (A.trans L) λh=>by have:=I.2 h;rw[hk]at this;cases this
 |true=>
  subst hk;obtain⟨T1,T2⟩:=hS rfl;exact Y1 bf vf sv rv _ al ⟨bg_ok (I.1 rfl).1 (I.1 rfl).2,A.trans L,I7.ext (W.trans L),⟨ad,ab⟩,T1,T2,λc hc=>⟨aZ an hc.1,hc.2⟩⟩
theorem aT.base {X:Nat→Prop}{C:C21}{Z:Nat→Prop}{K:Nat}{h0 A h:ah}{bw:Nat→Nat}{bp:Nat}{o:Nat→Nat}{n:Pic}{V:PV}{P:ce}(H:aT X C Z K h0 bw bp o n V P h)(e:Ext A h0):aT X C Z K A bw bp o n V P h:=
 ⟨H.q,H.c,H.l,H.p,H.w,H.s,H.f,H.e,H.wk,H.ws,H.po,H.set,H.pl,H.zl,H.sui,λc hc=>⟨(H.ow c hc).1,aZ e.1 (H.ow c hc).2.1,(H.ow c hc).2.2⟩,e.trans H.ext,H.few⟩
structure Bgn (h:ah)(a:si)(o:OpD)(tw th wk room:Int)(C:C21)(Z:Nat→Prop)(K N:Nat)(bw:Nat→Nat)(bp:Nat)(ow:Nat→Nat)(n:Pic)(P:ce)(Zd:Nat→Prop)(V:DV)(h':ah):Prop where
 ok:Ky a o
 O:C.Ok
 cm:C.m=eB a
 cd:C.d=Qx a o tw th
 k:(K:Int)=1+wk%5
 nn:(N:Int)=ck C.d∧1≤N∧N≤144∧jg C N 0≤23328
 go:GoP C Z K N h bw bp ow n P h'
 p:P=Gu K (1+room%4) (C.m.w*C.m.h*C.m.c) (C.d.X*C.d.Y*C.m.c)
 d:DAt Zd C K N P V h'
 ob:∀c,dQ (some C.E) c→h.size≤c
 zd:∀c,Zd c→h.size≤c∧c<h'.size∧ow c=0∧¬dQ (some C.E) c
 ext:Ext h h'
def Y6 (a:si)(o:OpD):Prop:=nr 12 [o]∧AB [o] (eB a).w (eB a).h (eB a).c=0
theorem zbB {h:ah}(G:eF h){Z1 Z2:Nat→Prop}{cs os:List Value}{a:si}{o:OpD}(H:nT.R Z1 h cs a)(WA:a.Wf)(HO:rOp.R Z2 h os o)(WO:Eo [o]):ag prog xi #[.agg cs.toArray,.agg os.toArray] h λr h'=>(¬Y6 a o→r=.bool false)∧Ext h h':=by
 apply QY;unfold Ge;simp only[bP];refine aI λb1 h1 r1 e1 n1=>aI λb3 W r3 e3 n3=>?_
 have U:=e1.trans e3;have lc:=nT.len H;have lo:=rOp.len HO;have G3:=G.ext U;have r1:=e3.row r1;refine aQ (Ext W) (Ext.refl _) ?_;refine aC (.agg os.toArray) (λk e=>aU (e.row r3) 9 lo) ?_;refine aC (.agg cs.toArray) (λk e=>aU (e.row r1) 5 lc) ?_;have x0:∀a b c:Value,aL (.tuple #[a,b,c]) 0=some a:=λ_ _ _=>rfl
 have x1:∀a b c:Value,aL (.tuple #[a,b,c]) 1=some b:=λ_ _ _=>rfl
 have x2:∀a b c:Value,aL (.tuple #[a,b,c]) 2=some c:=λ_ _ _=>rfl
 have row:∀{g:ah} {F:Nat} {t:TypeId},Ext W g→g[F]? =some (.cells os.toArray t (0,0))→Rp.Sl rOp (λc=>Z2 c∨c=F) g (.slice (some ⟨F,0,none⟩) 1 1) [o]:=λ{g F t} e r=>by
  refine⟨os,?_,λ_ b hb=>.inr hb,λi hi=>?_⟩
  ·have:=Rp.SlC.single (cs:=os) r;rw[lo]at this;exact this
  ·have:i=0:=by simpa using hi
   subst this;rw[Rp.el_self lo];exact rOp.mono (rOp.ext HO (U.trans e)) λb _ hb=>.inl hb
 have fin:∀{g:ah} {bf:Nat} {vf ov:Value} {Y:Nat→Prop},Ext W g→dd g bf vf (eB a)→Rp.Sl rOp Y g ov [o]→ag prog ii #[ov,ptr bf] g λv h'=>Ext W h'∧(vK (aL v 0) λ_=>vK (aL v 1) λ_=>vK (aL v 2) λr=>(¬Y6 a o→r=.bool false)∧Ext h h'):=λ{g bf vf ov Y} e I S=>by
  refine(Uc (G3.ext e) S (by simp) WO I (vG a)).mono λr an ⟨L,sv,rv,ok,er,al,ad,hS⟩=>?_
  subst er;refine⟨e.trans L,?_⟩;rw[x0,ak,x1,ak,x2,ak];refine⟨λhn=>?_,U.trans (e.trans L)⟩;cases hk:ok with
  |false=>rfl
  |true=>exact absurd (ad.1 hk) hn
 refine⟨?_,?_⟩
 ·refine dc (Rp.fill_whole (by rfl) lo) λF g5 r5 A n5=>⟨A,?_⟩
  refine(Ja (nT.mono (nT.ext H (U.trans A)) λ_ _ h=>h) WA).mono λpm h7 N7=>?_
  obtain⟨bf,vf,rfl,I7,aa,ab,D⟩:=N7;exact⟨A.trans D,fin (A.trans D) I7 (row (A.trans D) (D.row r5))⟩
 ·refine(Ja (nT.mono (nT.ext H U) λ_ _ h=>h) WA).mono λpm h7 N7=>?_
  obtain⟨bf,vf,rfl,I7,aa,ab,D⟩:=N7;refine⟨D,?_⟩;refine dc (Rp.fill_whole (by rfl) lo) λF g5 r5 A n5=>⟨D.trans A,?_⟩
  exact fin (D.trans A) (I7.ext A) (row (D.trans A) r5)
theorem Yg {h:ah}(G:eF h){cs os:List Value}{a:si}{o:OpD}{Z1 Z2:Nat→Prop}(H:nT.R Z1 h cs a)(WA:a.Wf)(HO:rOp.R Z2 h os o)(WO:Eo [o]){tw th wk room:Int}(h1:B8 tw)(h2:B8 th)(h3:B8 wk)(h4:B8 room):
  ag prog qZ #[.agg cs.toArray,.agg os.toArray,.int .u8 tw,.int .u8 th,.int .u8 wk,.int .u8 room] h λr h'=>
   (¬Y6 a o∧Ext h h'∧∃bf,∃u:List Value,r=.tuple #[ptr bf,.pointer none,.agg u.toArray,.bool false]∧u.length=20∧∀v∈u,aR v=true)∨
   ∃C Z K N bw bp ow n P Zd V,r=.tuple #[ptr C.bf,ptr bp,.agg (dpC C P V).toArray,.bool true]∧Bgn h a o tw th wk room C Z K N bw bp ow n P Zd V h':=by
 apply Mf;unfold A8;simp only[bP];refine aI λb1 g1 r1 e1 n1=>aI λb3 g3 r3 e3 n3=>aI λU g5 r5 e5 n5=>?_
 have k5:=bC r5;have s1:=e1.1;have s3:=e3.1;have E5:=e1.trans (e3.trans e5);have s5:=E5.1;refine zbU (G.ext E5) (nT.ext H E5) WA (rOp.ext HO E5) WO ((e3.trans e5).row r1) (e5.row r3) (λbf sv rv h' e hn=>?_) (λbf vf sv rv Z1 h7 B=>?_)
 ·have hf:aM aJ []=some aJ.toList.toArray:=by rfl
  have on:∀v∈aJ.toList,aR v=true:=by decide
  simp only[go_sem];rw[hf,bG,ak];refine cT (e.row r5) (by rfl) on (by rfl) λg9 r9 u9=>?_
  rw[aU r9 20 (by rfl),ak];exact .inl ⟨hn,(E5.trans e).upd ae u9,bf,_,rfl,by rfl,on⟩
 have nt:unV .not (.bool true)=some (.bool false):=rfl;rw[nt,ak,cR];refine Sr h1 ae ?_;refine Sr h2 ae ?_;refine Sr h3 ae ?_;refine Sr h4 ae ?_;have hw:=h1;have hh:=h2;unfold B8 at h1 h2 h3 h4;obtain⟨K,hK⟩:∃K:Nat,1+wk%5=(K:Int):=⟨(1+wk%5).toNat,ae⟩
 rw[hK];obtain⟨p,q,bs,be,q1,k0,bc,aw,bd,hp,hq⟩:=zaB B.st;obtain⟨sp,w1,w2⟩:=aw.atw (show 0<3 by omega) (k:=.i64) (i:=0) ae;have w1:bh 3 sv ai=some sp:=w1;have w2:aP 3 h7 sp=some (.agg #[p,q,af (bgS a o).border]):=w2;rw[w1,ak,w2,ak];have sd:fC (1+tw%13)∧fC (1+th%13):=by unfold fC;omega
 have zb:∀c,c<h7.size→Z1 c→g5.size≤c∧c<h7.size:=λc hc hz=>⟨(B.zl c hz).1,hc⟩
 refine(P5 (wk:=(K:Int)) (Z0:=λc=>g5.size≤c∧c<h7.size) (G.ext (E5.trans B.ext)) B.img (vG a) ⟨p,q,rfl,hp.mono zb,hq.mono zb⟩ B.ok.stg B.ok.suits.1 ⟨⟨B.nb.1,B.img.lt⟩,λc hc=>⟨B.nb.2 c hc,B.img.ltv hc⟩⟩ (λc hc=>hc.2) B.ok.imgc).mono λr h8 ⟨_,_,f3⟩=>?_
 obtain⟨bp,C,Z,bw,ow,er,y1,y2,y3,CO,HP,L,e8,an,nz,bk⟩:=f3 sd K rfl ae;subst er;have x0:∀a b:Value,aL (.tuple #[a,b]) 0=some a:=λ_ _=>rfl
 have x1:∀a b:Value,aL (.tuple #[a,b]) 1=some b:=λ_ _=>rfl
 have ax:aj .i .neq ai ai=some (.bool false):=rfl;rw[x0,ak,x1,ak,ax,ak,cR];obtain⟨rp,ab,w3,w4,w5⟩:=(B.rf.ext e8).atw (show 0<5 by omega) (k:=.i64) (i:=0) (by simp);have w3:bh 5 rv ai=some rp:=w3;have w4:aP 5 h8 rp=some (.agg ab.toArray):=w4;have w5:xp.R Z1 h8 ab (bgS a o):=w5;refine aQ (Ext h8) (Ext.refl _) ?_;rw[w3,ak];refine aC (.agg ab.toArray) (λk e=>e.lds w4) ?_;refine ag.at (eU (B.img.ext e8)) ⟨Ext.refl _,?_⟩;have I:C.d=Qx a o tw th:=y2;obtain⟨N,hN,N1,N2,ar⟩:=zda (C:=C) B.ok hw.1 hh.1 I;have al:C.d.s=bgS a o:=by rw[I]
 have few:∀x∈C.d.s.x.lines++C.d.s.y.lines,x.2.length≤1073741824:=λx hx=>by
  rcases gX.1 hx with h|h
  ·have:=(CO.s.wf.x.taps x h).1;omega
  ·have:=(CO.s.wf.y.taps x h).1;omega
 have hX:1≤C.d.X:=by rw[I];show 1≤((bgS a o).x.lines.length:Int);have:=B.ok.sx;omega
 have hY:1≤C.d.Y:=by rw[I];show 1≤((bgS a o).y.lines.length:Int);have:=B.ok.sy;omega
 have ay:nJ C.m C.d.s:=by rw[y1,al];exact B.ok.suits.1
 obtain⟨z1,z2,_⟩:=ay;have mw:=(vG a).fits;have A:=du mw;have F:=du B.ok.fit;have A:0≤C.d.s.x.n*C.d.s.y.n∧C.d.s.x.n*C.d.s.y.n≤4294967296∧0≤C.d.s.x.n*C.d.s.y.n*C.m.c∧C.d.s.x.n*C.d.s.y.n*C.m.c≤268435456:=by
  rw[z1,z2,y1];exact⟨A.2.2.2.2.2.2.1,A.2.2.2.2.2.2.2.1,A.2.2.2.2.2.2.2.2.1,A.2.2.2.2.2.2.2.2.2⟩
 have F:0≤C.d.X*C.d.Y∧C.d.X*C.d.Y≤4294967296∧0≤C.d.X*C.d.Y*C.m.c∧C.d.X*C.d.Y*C.m.c≤268435456:=by
  rw[I,y1];exact⟨F.2.2.2.2.2.2.1,F.2.2.2.2.2.2.2.1,F.2.2.2.2.2.2.2.2.1,F.2.2.2.2.2.2.2.2.2⟩
 have ea:(af (eB a).c:Value)=af C.m.c∧(af (1+tw%13):Value)=af C.d.w∧(af (1+th%13):Value)=af C.d.h:=by rw[y1,I];exact⟨rfl,rfl,rfl⟩
 rw[ea.1,ea.2.1,ea.2.2];rw[←al]at w5;have s8:=e8.1;have sB:=B.ext.1;refine(ZS (room:=1+room%4) w5 (λc hc=>bX (B.zl c hc).2 s8) CO hN ae hX hY few ae ⟨A.2.2.1,ae⟩ ⟨F.2.2.1,ae⟩ ⟨A.1,ae⟩ ⟨F.1,ae⟩).mono λr h9 ⟨Zd,V,er,D,zd,e9⟩=>?_
 subst er;have s9:=e9.1;refine cT ((B.ext.trans (e8.trans e9)).row r5) (by rfl) D.ones (by rfl) λbg a9 aa=>?_
 rw[aU a9 20 (by rfl),ak];right;have eP:Gu K (1+room%4) (C.d.s.x.n*C.d.s.y.n*C.m.c) (C.d.X*C.d.Y*C.m.c)=Gu K (1+room%4) (C.m.w*C.m.h*C.m.c) (C.d.X*C.d.Y*C.m.c):=by rw[z1,z2]
 rw[eP]at D ⊢;have eQ:Gu K (1+room%4) ((eB a).w*(eB a).h*(eB a).c) (((bgS a o).x.lines.length:Int)*(bgS a o).y.lines.length*(eB a).c)=Gu K (1+room%4) (C.m.w*C.m.h*C.m.c) (C.d.X*C.d.Y*C.m.c):=by rw[y1,I];rfl
 rw[eQ]at HP;have a8:=HP;obtain⟨V8,ad⟩:=a8;have au:∀c,dQ (some C.E) c→c<h8.size:=λc hc=>ad.set.out.ltv hc
 have bv:U<g5.size:=k5;have bo:g3.size≤U:=n5;have u0:ow U=0:=by
  by_cases h:ow U=0
  ·exact h
  ·have:=an U h;omega
 have a7:=((ad.ex e9).base (E5.trans B.ext)).loc aa ⟨u0,ae,λhz=>by rcases nz U hz with h|h<;>omega,by show U≠C.bt;omega,λhb=>by have:=L U hb;omega⟩;have E9:=E5.trans (B.ext.trans (e8.trans e9));have W:∀c,Zd c→g5.size≤c∧c<h9.size∧ow c=0∧¬dQ (some C.E) c:=λc hc=>by
  obtain⟨h1,h2⟩:=zd c hc;have q:g5.size≤c∧(c<h7.size∨h8.size≤c):=by
   rcases h1 with h1|h1
   ·exact⟨(B.zl c h1).1,.inl (B.zl c h1).2⟩
   ·exact⟨ae,.inr h1⟩
  refine⟨q.1,h2,?_,λhb=>?_⟩
  ·by_cases h:ow c=0
   ·exact h
   ·have h3:=an c h;have h4:=(ad.ow c h).1;omega
  ·have h3:=L c hb;have h4:=au c hb;omega
 exact⟨C,Z,K,N,bw,bp,ow,_,_,Zd,V,by rw[y3],⟨B.ok,CO,y1,y2,hK.symm,⟨hN,N1,N2,ar⟩,⟨⟨V8,a7⟩,0,Pm hN⟩,rfl,D.fr aa.fr λc _ hc h=>by have:=(W c hc).1;have h:c=U:=h;omega,λc hc=>by have:=L c hc;omega,λc hc=>⟨by have:=(W c hc).1;omega,by rw[aa.1];exact(W c hc).2.1,(W c hc).2.2⟩,E9.upd ae aa⟩⟩
end Go.Proofs.YtjljhnandbbldaaGreatDoor
namespace Go.Proofs.YtjljhnandbbldaaGreatDoor
open Go Go.Crisp
attribute [local irreducible] ag di aW stK aF vK qK bK gK fo bA mkK dk Fm GM CJ bsK clK tW oA V0
section
section
variable {h:ah}{a:si}{o:OpD}{tw th wk room:Int}{C:C21}{Z:Nat→Prop}{K N:Nat}{bw:Nat→Nat}{bp:Nat}{ow:Nat→Nat}{n:Pic}{P:ce}{Zd:Nat→Prop}{V:DV}{h':ah}
theorem Bgn.lt (B:Bgn h a o tw th wk room C Z K N bw bp ow n P Zd V h'):(∀c,ow c≠0→h.size≤c∧c<h'.size)∧∀c,dQ (some C.E) c→h.size≤c∧c<h'.size:=by
 obtain⟨⟨D,A⟩,_⟩:=B.go;exact⟨λc hc=>⟨(A.ow c hc).2.1,(A.ow c hc).1⟩,λc hc=>⟨B.ob c hc,A.set.out.ltv hc⟩⟩
theorem Bgn.few (B:Bgn h a o tw th wk room C Z K N bw bp ow n P Zd V h')(A:B8 wk):1≤K∧K≤5∧2*N+K+2+jg C N 0≤190000:=by
 have:=B.k;obtain⟨_,_,F,D⟩:=B.nn;unfold B8 at A;have:0≤wk%5∧wk%5<5:=⟨kz _ ae,iB _ ae⟩
 omega
end
end
end Go.Proofs.YtjljhnandbbldaaGreatDoor
namespace Go.Proofs.YtjljhnandbbldaaGreatDoor
open Go Go.Crisp
attribute [local irreducible] ag di aW stK aF vK qK bK gK fo bA mkK dk Fm GM CJ bsK clK tW oA V0
open _root_.Go.Proofs.Tryz
def Yv (C:C21)(w:WD):Prop:=0≤w.words∧w.words≤rH C.d C.m.c∧(0<w.words↔w.tiles≠[])
theorem Yv.step {C:C21}{w:WD}{d:QD}(O:C.Ok)(h1:1≤bH C.d.s.y.lines)(H:Yv C w)(F:uL w d→0≤bR d∧bR d<ck C.d)(G:w.state=0∨w.state=1∨w.state=2):Yv C (cW (some C.E) (C.jo (bR d)) w d).1:=by
 unfold cW;split
 ·split
  ·exact H
  ·exact H
 split
 ·exact H
 split
 ·rename_i a b c;obtain⟨D,A⟩:=F ⟨ae,c⟩;obtain⟨w1,I⟩:=Yy O h1 D A;have e:(Ac (some C.E) w (bR d) (C.jo (bR d))).words=max w.words ((iG (bH C.d.s.y.lines):Int)*(fB ((aO C.d (bR d)).w*C.m.c):Int)):=rfl;have t:(Ac (some C.E) w (bR d) (C.jo (bR d))).tiles=w.tiles++[bR d]:=rfl;obtain⟨a1,a2,a3⟩:=H;refine⟨by rw[e];omega,by rw[e];omega,?_⟩;rw[e,t];exact⟨λ_=>by simp,λ_=>ae⟩
 split
 ·exact H
 ·exact H
theorem YG {C:C21}{K N:Nat}{P F:ce}(O:C.Ok)(h1:1≤bH C.d.s.y.lines)(H:Yu C K N P F)(h0:∀k,k<K→Yv C (P.ws k)):∀k,k<K→Yv C (F.ws k):=by
 induction H with
 |refl=>exact h0
 | pick a I L W D=>
  rename_i P1 n tk i;intro k A;unfold pU;rw[L,az (by decide)];split
  ·have e:(GS C K {P1 with picks:=P1.picks+1}).ws=P1.ws:=by
    unfold GS;split
    ·rfl
    split
    ·rfl
    ·rfl
   rw[e];exact D k A
  ·rw[(La C K _ _).2.1];show Yv C (if k=(i-1).toNat then(cW (some C.E) (C.jo (bR P1.q)) (P1.ws (i-1).toNat) P1.q).1 else P1.ws k);split
   ·rename_i e;rw[←e];refine(D k A).step O h1 (λU=>?_) ?_
    ·have:=I.ok.q;have G:=LN U.2;have:=this _ G;have:=I.ok.sent;omega
    ·rcases(I.ok.w k A).st with h|h
     ·exact .inr (.inl h.1)
     ·exact h.1.elim .inl λh=>.inr (.inr h)
   ·exact D k A
theorem zcp {h:ah}(G:eF h){cs os:List Value}{a:si}{o:OpD}{Z1 Z2 Z3:Nat→Prop}(H:nT.R Z1 h cs a)(WA:a.Wf)(HO:rOp.R Z2 h os o)(WO:Eo [o]){tw th wk room:Int}(h1:B8 tw)(h2:B8 th)(h3:B8 wk)(h4:B8 room){dv:Value}{l:List Int}(HD:Rp.Sl (Rp.int .u8) Z3 h dv l){M:Nat}{F:Value→Value→Value→ah→Prop}
    (HF:∀I h9 A C Z K N bw bp ow n P Zd V bv,Ext h I→l.length≤M→Bgn I a o tw th wk room C Z K N bw bp ow n P Zd V h9→Ext h9 A→h9.size≤bv→A[bv]? =some (.cells (dpC C P V).toArray 48 (0,0))→F (ptr C.bf) (ptr bp) (ptr bv) A):
 aW (Value.cells (.agg cs.toArray)) 25 h λv1 h2=>
 aW (Value.cells (.agg os.toArray)) 31 h2 λv3 h4=>
 ag prog kn #[] h4 λv5 I=>
 vK (unV .not v5) λv7=>
 vK (gV v7 false (some dv)) λv8=>
 vK (gV v7 false (aD v8)) λv9=>
 vK (gV v7 false (aj .i .gtr v9 (af (M:Int)))) λa9=>
 vK (aE v7 (.bool true) a9) λa7=>
 aF a7 (
 ag prog kn #[] I λaw bo=>
  (aw=.bool true∧Ext h bo)) (
 vK (aP 5 I v1) λbd=>
 vK (aP 9 I v3) λb0=>
 ag prog qZ #[bd,b0,.int .u8 tw,.int .u8 th,.int .u8 wk,.int .u8 room] I λW bc=>
 vK (aL W 0) λax=>
 vK (aL W 1) λbg=>
 vK (aL W 2) λar=>
 vK (aL W 3) λbk=>
 aW aJ 48 bc λal ay=>
 stK 20 al ar ay λcb U=>
 vK (unV .not bk) λau=>
 aF au (
 vK (aP 5 U v1) λb2=>
 vK (aP 9 U v3) λb4=>
 ag prog xi #[b2,b4] U λbe ca=>
 vK (unV .not be) λb5=>
 (b5=.bool true∧Ext h ca)) (F ax bg al U)):=by
  simp only[bP];refine aI λb1 g1 r1 e1 n1=>aI λb3 g3 r3 e3 n3=>?_
  have E3:=e1.trans e3;have lc:=nT.len H;have lo:=rOp.len HO;refine ag.to (Nt (G.ext E3)) λI e6=>?_
  have L:=E3.trans e6;obtain⟨av,cv,ev⟩:=HD.isSl;have b6:aD dv=some (af (l.length:Int)):=by rw[ev];rfl
  simp only[go_sem,b6];refine ao (λg=>?_) (λg=>?_)
  · refine ag.to (Nt (G.ext L)) λh7 e7=>?_
    exact⟨rfl,L.trans e7⟩
  rw[aU ((e3.trans e6).row r1) 5 lc,ak,aU (e6.row r3) 9 lo,ak];have x0:∀a b c d:Value,aL (.tuple #[a,b,c,d]) 0=some a:=λ_ _ _ _=>rfl
  have x1:∀a b c d:Value,aL (.tuple #[a,b,c,d]) 1=some b:=λ_ _ _ _=>rfl
  have x2:∀a b c d:Value,aL (.tuple #[a,b,c,d]) 2=some c:=λ_ _ _ _=>rfl
  have x3:∀a b c d:Value,aL (.tuple #[a,b,c,d]) 3=some d:=λ_ _ _ _=>rfl
  have nt:unV .not (.bool true)=some (.bool false):=rfl;have nf:unV .not (.bool false)=some (.bool true):=rfl;refine(Yg (G.ext L) (nT.ext H L) WA (rOp.ext HO L) WO h1 h2 h3 h4).mono λr h9 hB=>?_
  rcases hB with⟨hn,e9,bf,u,er,lu,ou⟩|⟨C,Z,K,N,bw,bp,ow,n,P,Zd,V,er,B⟩
  · subst er
    rw[x0,ak,x1,ak,x2,ak,x3,ak];refine aI λbv a8 ad aa n10=>?_
    refine cT ad lu ou lu λA an ab=>?_
    have D:Ext I A:=(e9.trans aa).upd (by have:=e9.1;omega) ab;rw[nf,ak,gR];rw[aU (D.row ((e3.trans e6).row r1)) 5 lc,ak,aU (D.row (e6.row r3)) 9 lo,ak];refine(zbB (G.ext (L.trans D)) (nT.ext H (L.trans D)) WA (rOp.ext HO (L.trans D)) WO).mono λr cc ⟨er,b8⟩=>?_
    rw[er hn,nf,ak];exact⟨rfl,L.trans (D.trans b8)⟩
  subst er;rw[x0,ak,x1,ak,x2,ak,x3,ak];refine aI λbv a8 ad aa n10=>?_
  refine cT ad (by rfl) B.d.ones (by rfl) λA an ab=>?_
  have b7:Ext h9 A:=aa.upd n10 ab;rw[nt,ak,cR];exact HF I h9 A C Z K N bw bp ow n P Zd V bv L ae B b7 n10 an
theorem O0 {h:ah}(G:eF h){cs os:List Value}{a:si}{o:OpD}{Z1 Z2 Z3:Nat→Prop}(H:nT.R Z1 h cs a)(WA:a.Wf)(HO:rOp.R Z2 h os o)(WO:Eo [o]){tw th wk room:Int}(h1:B8 tw)(h2:B8 th)(h3:B8 wk)(h4:B8 room){dv:Value}{l:List Int}(HD:Rp.Sl (Rp.int .u8) Z3 h dv l)(h8:∀x∈l,B8 x)(hl:l.length≤1000000000000000):
  ag prog ma #[.agg cs.toArray,.agg os.toArray,.int .u8 tw,.int .u8 th,.int .u8 wk,.int .u8 room,dv] h λr h'=>r=.bool true∧Ext h h':=by
 apply BK;unfold rF;refine zcp (M:=600) G H WA HO WO h1 h2 h3 h4 HD λh6 h9 b6 C Z K N bw bp ow n P Zd V bv E6 cb B W b3 b1=>?_
 obtain⟨au,aa⟩:=B.lt;obtain⟨K1,K5,few⟩:=B.few h3;obtain⟨hN,N1,N2,hs⟩:=B.nn;have O:=B.O;have a8:Ext h6 b6:=B.ext.trans W;have GO:=B.go.ext W;have pn:aj .p .eql (ptr bp) (.pointer none)=some (.bool false):=rfl;have nt:unV .not (.bool true)=some (.bool false):=rfl;rw[pn,ak,jz,ak,jz,ak,M7];refine(zbD O (G.ext E6) GO ae B.ob (HD.ext E6) h8 cb).mono λr D ⟨er,o',n',A,b2,b7,oo,f17,ar⟩=>?_
 subst er;rw[jz,nt,ak,wR,ak,cR];have bd:∀c,h9.size≤c→¬(ow c≠0∨dQ (some C.E) c):=λc hc h=>h.elim (λh=>by have:=(au c h).2;omega) λh=>by have:=(aa c h).2;omega
 have b4:=f17.row b1 (bd bv b3);have al:=(B.d.ext W).fr f17 λc _ hc h=>h.elim (λh=>h (B.zd c hc).2.2.1) (B.zd c hc).2.2.2
 have bo:1≤bH C.d.s.y.lines:=by rw[B.cd];exact B.ok.most1
 have b0:bH C.d.s.y.lines≤80:=by rw[B.cd];exact Ps B.ok.made B.ok.little (by have:=xb a;omega)
 have ab:=Re C.d.s.y.lines;have cc:0≤tw%13∧tw%13<13:=⟨kz _ ae,iB _ ae⟩
 have bg:C.d.w=1+tw%13:=by rw[B.cd]
 have hX:1≤C.d.X:=by rw[B.cd];show 1≤((bgS a o).x.lines.length:Int);have:=B.ok.sx;omega
 have ci:=du O.m.fits;have ax:0≤rH C.d C.m.c∧rH C.d C.m.c≤bH C.d.s.y.lines*(1+tw%13)*C.m.c∧bH C.d.s.y.lines*(1+tw%13)≤1040∧0≤bH C.d.s.y.lines*(1+tw%13)∧0≤bH C.d.s.y.lines*(1+tw%13)*C.m.c∧bH C.d.s.y.lines*(1+tw%13)*C.m.c≤3120:=by
  unfold rH;rw[bg,show max 0 C.m.c=C.m.c by omega];have q1:bH C.d.s.y.lines*min (1+tw%13) C.d.X≤bH C.d.s.y.lines*(1+tw%13):=sI ae ab;have q2:bH C.d.s.y.lines*(1+tw%13)≤80*13:=ks b0 ae ae ae;have q3:0≤bH C.d.s.y.lines*min (1+tw%13) C.d.X:=ku ab ae;have q4:bH C.d.s.y.lines*(1+tw%13)*C.m.c≤1040*3:=ks ae ae ae ae;exact⟨ku q3 ae,oB q1 ae,ae,ae,ku ae ae,ae⟩
 have ca:=YG O bo ar λk hk=>by
  rw[B.p];exact⟨fT _,by
   show(0:Int)≤rH C.d C.m.c;have:=ax.1;exact this,by
   show(0:Int)<0↔([]:List Int)≠[];simp⟩
 obtain⟨F,tk,I⟩:=b2;obtain⟨V7,an⟩:=F;have F:fm C Z K h6 bw bp o' n' A D:=⟨V7,an⟩
 have cr:A.picks≤190000:=by have:=I.rem;have:=I.ok.pk;omega
 have a9:∀j,j<K→(A.ws j).tiles.length≤1000000:=λj hj=>by have:=I.ok.tn j hj;omega
 have key:∀i:Int,0≤nR K A i∧nR K A i≤rH C.d C.m.c∧(0<nR K A i↔0<(Il K A i).length):=λi=>by
  unfold nR Il;split
  ·exact⟨fT _,ax.1,by simp⟩
  ·obtain⟨a1,a2,a3⟩:=ca (i-1).toNat ae;exact⟨a1,a2,a3.trans w6.symm⟩
 have c6:aG D ⟨bv,6,none⟩=some V.tv:=am b4;have bk:aD V.tv=some (af (N:Int)):=by obtain⟨a,c,e⟩:=al.t.isSl;rw[e];simp[aD,dB]
 have f6:aB 6 (ptr bv)=some (.pointer (some ⟨bv,6,none⟩)):=rfl;rw[f6,ak,un,c6,ak,bk,ak];refine bI (α:=Int) N 0 (λi t=>[af t,af (i:Int)]) (λi t g=>(t=if i=0 then 0 else bH C.d.s.y.lines)∧Ext D g) 0 rfl (b9 _) ⟨rfl,Ext.refl _⟩ λi t g again ρ _ hi ⟨et,eg⟩ b8=>?_
 simp only[iC,xC];rw[cD,ak];refine ao (λc1=>?_) (λc1=>?_)
 ·have a7:i<N:=ae;obtain⟨pt,cs,a1,a2,a3⟩:=(al.t.ext eg).atw (show 0<10 by omega) (k:=.i64) (i:=i) (by simp[dB];omega);have a1:bh 10 V.tv (af (i:Int))=some pt:=a1;have a2:aP 10 g pt=some (.agg cs.toArray):=a2;have bc:(dB C.d N)[i]'(by simp[dB];omega)=aO C.d i:=by simp[dB]
  rw[bc]at a3;obtain⟨f0,f1,f3,f5,ec⟩:=a3;rw[a1,ak,a2,ak];refine dh (cs:=cs) (by rw[ec];rfl) (Ed.one (Z:=Zd) (h:=g) (x:=aO C.d i) ⟨f0,f1,f3,f5,ec⟩) (by rw[ec];rfl) λb5 g5 r5 e5 n5=>?_
  rw[ec]at r5;have c9:aG g5 ⟨b5,9,none⟩=some (af (aO C.d i).ring):=am r5;have f9:aB 9 (ptr b5)=some (.pointer (some ⟨b5,9,none⟩)):=rfl;have L:(i:Int)+1=((i+1:Nat):Int):=ae;have mx:ju (af t) (af (aO C.d i).ring)=some (af (if(aO C.d i).ring>t then(aO C.d i).ring else t)):=rfl;rw[f9,ak,un,c9,ak,mx,ak];simp only[go_sem];rw[w64 (n:=(i:Int)+1) ae ae,L];refine b8 _ g5 a7 ⟨?_,eg.trans e5⟩;have er:(aO C.d i).ring=bH C.d.s.y.lines:=rfl;rw[er,et,az (show¬i+1=0 by omega)];split<;>split<;>omega
 have:i=N:=ae;subst this;rw[az ae]at et;subst et;refine Sr h1 ae ?_;simp only[go_sem];rw[w64 (n:=bH C.d.s.y.lines*(1+tw%13)) ae ae];refine ag.at (eU (an.set.src.ext eg)) ?_;simp only[go_sem];rw[w64 (n:=bH C.d.s.y.lines*(1+tw%13)*C.m.c) ae ae];refine ag.at (NE (F.ext eg)) ?_;simp only[go_sem];rw[w64 (n:=((K+1:Nat):Int)+1) ae ae,show((K+1:Nat):Int)+1=((K+2:Nat):Int)by omega];have EF:Ext h D:=(E6.trans a8).then_fr f17 λc hc=>by
  have cp:=E6.1;rcases hc with hc|hc
  ·have:=(au c hc).1;omega
  ·have:=(aa c hc).1;omega
 refine bI (α:=Unit) (K+2) 0 (λi _=>[af (i:Int)]) (λi _ g'=>Ext g g') () rfl (b9 _) (Ext.refl _) λj _ g' again ρ' _ hj U aw=>?_
 simp only[iC];rw[cD,ak];refine ao (λc2=>?_) (λc2=>?_)
 ·have ad:=F.ext (eg.trans U);obtain⟨k1,k2,k3⟩:=key (j:Int);refine ag.at (OZ ad (by unfold I64;omega)) ?_;have q1:aj .i .gtr (af (nR K A j)) (af (bH C.d.s.y.lines*(1+tw%13)*C.m.c))=some (.bool false):=by rw[oJ,cG ae]
  have q2:aj .i .lss (af (nR K A j)) ai=some (.bool false):=by rw[cD,cG ae]
  rw[q1,ak,jz,ak,jz,q2,ak,wR,ak,jz,ak,jz,oJ,ak,jz,ak,jz,ak,M7];refine(Ub ad (by unfold I64;omega) a9).mono λrv g2 NT=>?_
  obtain⟨cu,ct,ay⟩:=NT.isSl;have be:aD rv=some (af ((Il K A j).length:Int)):=by rw[ay];rfl
  have bb:∀b:Bool,aj .b .neq (.bool b) (.bool b)=some (.bool false):=λb=>by cases b<;>rfl
  have eb:decide (0<nR K A j)=decide ((0:Int)<((Il K A j).length:Int)):=by
   apply RQ.2;simp only[dI];rw[k3];omega
  rw[jz,be,ak,jz,oJ,ak,jz,eb,bb,ak,wR,ak,cR];have L:(j:Int)+1=((j+1:Nat):Int):=ae;simp only[go_sem];rw[w64 (n:=(j:Int)+1) ae ae,L];exact aw () g2 ae (U.trans NT.2.1)
 ·exact⟨trivial,EF.trans (eg.trans U)⟩
end Go.Proofs.YtjljhnandbbldaaGreatDoor
namespace Go.Proofs.YtjljhnandbbldaaGreatDoor
open Go Go.Crisp
open _root_.Go.Proofs.Tryz
theorem r_PoolScratch {L:List (String×DataW Unit)}(l:VJ L)(h:ah)(args:Array Value)(H:Cl prog L h)(R:vW [.st Xn,.st tOp,.int .u8,.int .u8,.int .u8,.int .u8,.sl (.int .u8) 1] h args.toList):
  ag prog ma args h λr h'=>r=.bool true∧Ext h h':=by
 obtain⟨cs,os,a,o,r0,e0,A,R⟩:=Yr R;obtain⟨x,r1,e1,hx,R⟩:=VP R;obtain⟨y,r2,e2,hy,R⟩:=VP R;obtain⟨z,r3,G,hz,R⟩:=VP R;obtain⟨u,r4,F,hu,R⟩:=VP R;obtain⟨v,k,W,e5,S,h8,U,R⟩:=YB R;obtain rfl:W=[]:=R;subst e5 F G e2 e1;obtain rfl:args=#[.agg cs.toArray,.agg os.toArray,.int .u8 x,.int .u8 y,.int .u8 z,.int .u8 u,v]:=by cases args;simp_all
 obtain⟨⟨_,h1⟩,D,⟨_,h3⟩,I⟩:=A;exact O0 (l.glob H) h1 D h3 I hx hy hz hu S h8 U
end Go.Proofs.YtjljhnandbbldaaGreatDoor
