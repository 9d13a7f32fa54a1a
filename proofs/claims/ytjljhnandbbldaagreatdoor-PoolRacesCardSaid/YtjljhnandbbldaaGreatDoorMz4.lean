/- Several texts of this session, one behind the other, without what this claim does not need (put together by its program pack.py). Conditions: none. -/
import Derived.Test.YtjljhnandbbldaaGreatDoorMz3
set_option linter.unusedVariables false
set_option linter.unusedSimpArgs false
set_option maxRecDepth 100000
namespace Go.Proofs.YtjljhnandbbldaaGreatDoor
open Go Go.Crisp
attribute [local irreducible] ag du bh stK aE vK qK bO gK fR bA mkK dy GQ IQ DT bsK clK pG pH Q9
open _root_.Go.Proofs.Tryz
section
theorem jL.fr {Q:Nat→Prop}{h h':ah}{E:Option WE}{n:Pic}(I:jL h E n)(f:Fr Q h h')(hq:∀c,Q c→c<h.size→Bz E c∧¬eo E c):jL h' E n:=λG H=>by
 subst H;have A:=(I G rfl).1;exact⟨A.fr f (λhc=>(hq _ hc A.lt).1 rfl) (λc F hc=>(hq c hc (A.ltv F)).2 F),(I G rfl).2⟩
theorem jL.ext {h h':ah}{E:Option WE}{n:Pic}(I:jL h E n)(e:Ext h h'):jL h' E n:=I.fr (Q:=λ_=>False) e.fr λ_ h=>h.elim
theorem jL.new {h:ah}{E:Option WE}{n:Pic}(I:jL h E n){c:Nat}(hc:h.size≤c):Bz E c∧¬eo E c:=by
 cases E with
 |none=>exact⟨trivial,id⟩
 |some E=>exact⟨λA=>by have:=(I E rfl).1.lt;rw[A]at hc;omega,λF=>by have:=(I E rfl).1.ltv F;omega⟩
def stJ:Option (cP×Int×Int)→Int
 |none=>0
 |some _=>1
theorem kb.upd {Z B:Nat→Prop}{h h':ah}{bw:Nat}{E:Option WE}{n:Pic}{F:Value}{jo:Option (cP×Int×Int)}(H:kb Z B h E n F jo)(u:Upd bw h h')(G:¬Z bw)(L:¬B bw)(h1:Bz E bw)(U:¬eo E bw)(I:jL h E n):kb Z B h' E n F jo:=
 H.other u.fr (λc hc A=>G (A▸hc)) (λc hc A=>L (A▸hc)) (I.fr u.fr λc hc _=>by rw[show c=bw from hc];exact⟨h1,U⟩) (eU.refl n)
section
variable {Z B:Nat→Prop}{h:ah}{bw:Nat}{E:Option WE}{n:Pic}{w:WD}
theorem VK {W:Nat→Prop}{st wd:Int}{tv G:Value}{jo:Option (cP×Int×Int)}(r:h[bw]? =some (.cells #[af st,tv,G,af wd] 182 (0,0)))(J:kb Z W h E n G jo)(hz:¬Z bw)(hb:¬W bw)(U:Bz E bw)(L:¬eo E bw)(I:jL h E n):
  ag prog dY #[ptr bw] h λr h'=>∃A,h'[bw]? =some (.cells #[af (stJ (cn E jo)),tv,A,af wd] 182 (0,0))∧kb Z W h' E n A (cn E jo)∧Fr (λc=>c=bw) h h':=by
 apply zw;unfold oD;simp only[go_sem];refine ck r (by simp) rfl λh1 r1 u1=>?_
 have r1:h1[bw]? =some (.cells #[aG,tv,G,af wd] 182 (0,0)):=r1;have J1:=J.upd u1 hz hb U L I;have I1:=I.fr u1.fr λc hc _=>by rw[show c=bw from hc];exact⟨U,L⟩
 have c2:aH h1 ⟨bw,2,none⟩=some G:=am r1;simp only[go_sem,aO,c2]
 -- it goes
 have gone:∀{h2:ah},Ext h1 h2→cn E jo=none→stK 1 (.pointer (some ⟨bw,0,none⟩)) ai h2 λab aa=>stK 1 (.pointer (some ⟨bw,2,none⟩)) (.pointer none) aa λ_ h'=>∃A,h'[bw]? =some (.cells #[af (stJ (cn E jo)),tv,A,af wd] 182 (0,0))∧kb Z W h' E n A (cn E jo)∧Fr (λc=>c=bw) h h':=by
  intro h2 F hs;refine ck (F.row r1) (by simp) rfl λh3 r3 u3=>?_
  refine ck r3 (by simp) rfl λh4 r4 u4=>?_
  rw[hs];exact⟨_,r4,rfl,((u1.fr.ext_r F).trans u3.fr).trans u4.fr⟩
 cases jo with
 |none=>
  have hj:G=.pointer none:=J;subst hj;simp only[go_sem,c2,zeI];exact gone (Ext.refl _) rfl
 | some x=>
  obtain⟨t,y,e⟩:=x;obtain⟨H,rfl,ok,hc,bj,rv,rfl,S⟩:=J1;simp only[go_sem,c2,WR];refine ag.to (Pl S (OD ok.m ok.s.wf hc)) λh2 F=>?_
  have hp:qV false 1 0 (C5 (bR (H.d t) y e) (gh (H.d t) y e))=some (af (bR (H.d t) y e)):=rfl;simp only[go_sem,hp];refine ao (λhk=>?_) (λhk=>?_)
  ·exact gone F (aA hk)
  ·have hs:cn (some H) (some (t,y,e))=some (t,y,e):=aq hk;rw[hs];exact⟨_,F.row r1,⟨H,rfl,ok,hc,bj,rv,rfl,S.ext F⟩,u1.fr.ext_r F⟩
def Wq (E:Option WE)(jo:Option (cP×Int×Int))(k:Int):Int:=match jo,E with|some (t,_,_),some E=>max k ((lg (cJ E.s.y.lines):Int)*(iq (t.w*E.m.c):Int))|_,_=>k
def xn (E:Option WE)(w:WD)(x:Int)(jo:Option (cP×Int×Int)):WD:=⟨stJ (cn E jo),w.tiles++[x],cn E jo,Wq E jo w.words⟩
def zet (Z:Nat→Prop)(E:Option WE)(n:Pic)(ov:Value)(x:Int)(jo:Option (cP×Int×Int))(Qo M:Nat→Prop)(P0 P1:ah→Prop)(h:ah):Prop:=
 (ov=.nilFunc∧jo=none∧∀g,P0 g→P1 g)∨(ak .f .neq ov .nilFunc=some (.bool true)∧∀h1,Fr M h h1→P0 h1→clK prog ov #[.int .i64 x] h1 λr h2=>∃Bj,(∀c,Bj c→h1.size≤c∧c<h2.size)∧kb Z Bj h2 E n r jo∧Fr Qo h1 h2∧P1 h2)
abbrev Xl (k t mk mr:Int):Value:=.agg #[.int .i64 k,.int .i64 t,.int .i64 mk,.int .i64 mr]
theorem zb5 {v:Value}{args:Array Value}{h:ah}{K A:Value→ah→Prop}(H:clK prog v args h K)(k:∀r h',K r h'→A r h'):clK prog v args h A:=by
 unfold clK at H ⊢;split at H
 ·exact H.mono k
 ·exact H.elim
theorem Cz {E:Option WE}{jo:Option (cP×Int×Int)}:(stJ (cn E jo)=1∧sr E (cn E jo))∨((stJ (cn E jo)=0∨stJ (cn E jo)=2)∧cn E jo=none):=by
 rcases DQ E jo with⟨h1,A,F⟩|h
 ·left;refine⟨?_,A⟩
  revert h1
  cases cn E jo with
  |none=>exact λh=>absurd rfl h
  |some x=>exact λ_=>rfl
 ·rw[h];exact .inr ⟨.inl rfl,rfl⟩
theorem ze7 {x:Int}{ov:Value}{jo:Option (cP×Int×Int)}{Qo:Nat→Prop}{P0 P1:ah→Prop}(H:IsW Z B h bw E n w)(hw:w.state=0)(ht:w.tiles.length≤1000000)(HO:zet Z E n ov x jo Qo B P0 P1 h)
  (qo:∀c,Qo c→c<h.size∧¬B c∧¬Z c∧Bz E c∧¬eo E c) (hP:∀g g',Fr (λc=>B c∨h.size≤c) g g'→(P0 g→P0 g')∧(P1 g→P1 g')) (p0:P0 h):
  ag prog lS #[ptr bw,af x,ov] h λr h'=>r=Xl 1 x 0 0∧IsW Z (rL B h h') h' bw E n (xn E w x jo)∧Fr (λc=>B c∨Qo c) h h'∧P1 h':=by
 apply BB;unfold qM;have H0:=H;obtain⟨⟨tv,jv,Bj,r,o,J,a1,a2,a3⟩,w0,bl,bz,zl,I,st⟩:=H;have bo:w.job=none:=by
  rcases st with h|h
  ·omega
  ·exact h.2
 rw[bo]at J;have hj:jv=.pointer none:=J;subst hj;refine aJ λb1 h1 r1 e1 n1=>?_
 have c1:aH h1 ⟨bw,1,none⟩=some tv:=am (e1.row r);simp only[go_sem,aO,c1];refine di (Rp.fill_one rfl) λb2 h2 r2 e2 n2=>?_
 have E2:=e1.trans e2;refine w8 (m:=1) (o.fr (M:=λ_=>False) E2.fr λ_ _=>id) (Rp.SlC.single (cs:=[af x]) r2) (az rfl bi) rfl ae ae λv3 h3 o3 f3 n3=>?_
 have ca:=bD r;have b8:=E2.1;have ci:=f3.1;have r3:=f3.row (E2.row r) λhc=>(a1 _ hc).2.2 rfl
 have al:∀c,blk v3 c→(B c∧c≠bw)∨h.size≤c:=λc hc=>(n3 c hc).imp (λh=>⟨(a1 c h).1,(a1 c h).2.2⟩) λh=>ae
 have F:¬blk v3 bw:=λhc=>(al _ hc).elim (λh=>h.2 rfl) λh=>ae
 try simp only[go_sem]
 refine ck r3 (by simp) o3.sl.isSl_one λh4 r4 u4=>?_
 have r4:h4[bw]? =some (.cells #[af w.state,v3,.pointer none,af w.words] 182 (0,0)):=r4;have o4:=o3.fr u4.fr λc hc W=>F (W▸hc)
 have b5:=u4.1;have F4:Fr B h h4:=(E2.fr.after f3 λc _ hc=>(a1 c hc).1).after u4.fr λc _ hc=>hc▸w0
 have I4:jL h4 E n:=I.fr F4 λc hc _=>(bz c hc).2
 have an:P0 h4:=(hP h h4 (F4.mono λc _ hc=>.inl hc)).1 p0;have b4:=e1.1;have b0:=e2.1;have b3:=bD r1;have au:h.size≤b1:=n1;have e4:h4[b1]? =some (.cells #[ai,ai,ai,ai] 148 (0,0)):=u4.row ae (f3.row (e2.row r1) λhc=>by have:=bl _ (a1 _ hc).1;omega)
 -- with a job, or with none
 refine bF (λxs A=>∃jv Bj,A[bw]? =some (.cells #[af w.state,v3,jv,af w.words] 182 (0,0))∧kb Z Bj A E n jv jo∧(∀c,Bj c→h4.size≤c)∧(∀c,Bj c→c<A.size)∧Fr (λc=>B c∨Qo c) h A∧h4.size≤A.size∧Own 1 A v3 (w.tiles.length+1) (w.tiles.map (λn=>af n)++[af x])∧P1 A∧A[b1]? =some (.cells #[ai,ai,ai,ai] 148 (0,0))) ?_ ?_
 ·rcases HO with⟨rfl,rfl,hp⟩|⟨bc,a8⟩
  ·have e0:ak .f .neq Value.nilFunc Value.nilFunc=some (.bool false):=rfl;simp only[go_sem,e0];exact⟨_,λ_=>False,r4,rfl,λc hc=>hc.elim,λc hc=>hc.elim,F4.mono λc _ hc=>.inl hc,cf _,o4,hp _ an,e4⟩
  ·simp only[go_sem,bc];refine zb5 (a8 h4 F4 an) λv5 A ⟨Bj,k1,k2,k3,k4⟩=>?_
   have r5:=k3.row r4 λhc=>(qo _ hc).2.1 w0
   have o5:=o4.fr k3 λc hc hq=>(al c hc).elim (λh=>(qo c hq).2.1 h.1) λh=>by have:=(qo c hq).1;omega
   have bv:=k3.1
   try simp only[go_sem]
   refine ck r5 (by simp) k2.one λL r6 U=>?_
   have ar:=U.1;have aa:¬Bj bw:=λhc=>by have:=(k1 _ hc).1;omega
   have I5:jL A E n:=I4.fr k3 λc hc _=>(qo c hc).2.2.2
   refine⟨v5,Bj,r6,k2.upd U (bz _ w0).1 aa (bz _ w0).2.1 (bz _ w0).2.2 I5,λc hc=>(k1 c hc).1,λc hc=>by rw[ar];exact(k1 c hc).2,?_,ae,o5.fr U.fr λc hc W=>F (W▸hc),?_⟩
   ·exact((F4.mono λc _ hc=>.inl hc).after k3 λc _ hc=>.inr hc).after U.fr λc _ hc=>.inl (hc▸w0)
   ·exact⟨(hP A L (U.fr.mono λc _ hc=>.inl (hc▸w0))).2 k4,U.row ae (k3.row e4 λhc=>by have:=(qo _ hc).1;omega)⟩
 ·rintro xs ρ A ⟨jv,Bj,r5,J5,k1,k2,F5,bv,o5,p5,e5⟩;have aa:¬Bj bw:=λhc=>by have:=k1 _ hc;omega
  have I5:jL A E n:=I.fr F5 λc hc _=>hc.elim (λh=>(bz c h).2) λh=>(qo c h).2.2.2
  have c2:aH A ⟨bw,2,none⟩=some jv:=am r5;have c3:aH A ⟨bw,3,none⟩=some (af w.words):=am r5
  -- the end: settled, and told
  have fin:∀{L:ah},L[bw]? =some (.cells #[af w.state,v3,jv,af (Wq E jo w.words)] 182 (0,0))→kb Z Bj L E n jv jo→Fr (λc=>B c∨Qo c) h L→A.size≤L.size→jL L E n→P1 L→
    Own 1 L v3 (w.tiles.length+1) (w.tiles.map (λn=>af n)++[af x])→L[b1]? =some (.cells #[ai,ai,ai,ai] 148 (0,0))→
    ag prog dY #[ptr bw] L λb6 a7=>vK ((aQ #[ai,ai,ai,ai] [(0,1,aG),(1,1,af x)]).map .agg) λay=>stK 4 (ptr b1) ay a7 λb7 ab=>vK (aR 4 ab (ptr b1)) λax=>
     ax=Xl 1 x 0 0∧IsW Z (rL B h ab) ab bw E n (xn E w x jo)∧Fr (λc=>B c∨Qo c) h ab∧P1 ab:=by
   intro L r6 J6 F6 ar I6 p6 o6 e6;refine(VK r6 J6 (bz _ w0).1 aa (bz _ w0).2.1 (bz _ w0).2.2 I6).mono λ_ h7 ⟨a9,r7,J7,f7⟩=>?_
   have hf:∀z:Int,aQ #[ai,ai,ai,ai] [(0,1,aG),(1,1,af z)]=some #[aG,af z,ai,ai]:=λ_=>rfl
   have cb:=f7.1;simp only[go_sem,hf,bJ];refine da (l:=[aG,af x,ai,ai]) (f7.row e6 λhc=>ae) rfl (az rfl (az rfl (az rfl (az rfl bi)))) rfl λh8 r8 u8=>?_
   rw[aW (l:=[aG,af x,ai,ai]) r8 4 rfl,aj];have cc:=u8.1;have I7:jL h7 E n:=I6.fr f7 λc hc _=>by rw[show c=bw from hc];exact(bz _ w0).2
   have F7:Fr (λc=>B c∨Qo c) h h7:=F6.after f7 λc _ hc=>.inl (hc▸w0)
   have F8:Fr (λc=>B c∨Qo c) h h8:=F7.upd_new u8 au;have ad:=I.new au;have bg:¬Z b1:=λhz=>by have:=zl _ hz;omega
   have bk:¬Bj b1:=λhc=>by have:=k1 _ hc;omega
   have o8:=(o6.fr f7 λc hc W=>F (W▸hc)).fr u8.fr λc hc W=>by
    have W:c=b1:=W;rcases n3 c hc with G|G
    ·have:=bl _ (a1 c G).1;omega
    ·omega
   have ho:jL h8 E n:=I7.fr u8.fr λc hc _=>by rw[show c=b1 from hc];exact ad
   refine⟨rfl,⟨⟨v3,a9,Bj,u8.row ae r7,?_,J7.upd u8 bg bk ad.1 ad.2 I7,λc hc=>⟨?_,λhj=>?_,λW=>F (W▸hc)⟩,λc hc=>.inr ⟨?_,?_⟩,aa⟩,.inl w0,Mw bl ae,λc hc=>?_,λc hc=>ce (zl c hc) F8.1,ho,?_⟩,F8,?_⟩
   ·show Own 1 h8 v3 (w.tiles++[x]).length ((w.tiles++[x]).map λn=>af n);rw[co,jA];exact o8
   ·rcases al c hc with G|G
    ·exact .inl G.1
    ·exact .inr ⟨G,o8.lt hc⟩
   ·have:=k1 c hj;rcases n3 c hc with G|G
    ·have:=bl _ (a1 c G).1;omega
    ·have:=o3.lt hc;omega
   ·have:=k1 c hc;omega
   ·have:=k2 c hc;omega
   ·rcases hc with G|G
    ·exact bz c G
    ·exact⟨λhz=>by have:=zl c hz;omega,I.new G.1⟩
   ·rcases Cz (E:=E) (jo:=jo)with⟨G,be⟩|G
    ·exact .inl ⟨G,be,by simp[xn]⟩
    ·exact .inr G
   ·exact(hP h7 h8 (u8.fr.mono λc _ hc=>.inr (by have hc:c=b1:=hc;omega))).2 ((hP L h7 (f7.mono λc _ hc=>.inl (hc▸w0))).2 p6)
  cases jo with
  |none=>
   have hj:jv=.pointer none:=J5;subst hj;simp only[go_sem,c2,zeH];exact fin r5 rfl F5 (cf _) I5 p5 o5 e5
  | some y=>
   obtain⟨t,yy,e⟩:=y;have bd:=J5;obtain⟨E',rfl,ok,hc,bj,rv,rfl,S⟩:=J5;simp only[go_sem,c2,WQ];refine aS (λg=>g=A) rfl ?_;refine aD (af w.words) (λg e=>by rw[e];exact c3) ?_
   try simp only[go_sem]
   refine aD (ptr bj) (λg e=>by rw[e];exact c2) ?_;refine ag.at (Pk S) ⟨rfl,?_⟩;refine aD (af (max w.words ((lg (cJ E'.s.y.lines):Int)*(iq (t.w*E'.m.c):Int)))) (λ_ _=>Oi _ _ _) ?_
   try simp only[go_sem]
   refine ck r5 (by simp) rfl λL r6 U=>?_
   exact fin r6 (bd.upd U (bz _ w0).1 aa (bz _ w0).2.1 (bz _ w0).2.2 I5) (F5.after U.fr λc _ hc=>.inl (hc▸w0)) (by rw[U.1];exact cf _) (I5.fr U.fr λc hc _=>by rw[show c=bw from hc];exact(bz _ w0).2) ((hP A L (U.fr.mono λc _ hc=>.inl (hc▸w0))).2 p5)
    (o5.fr U.fr λc hc W=>F (W▸hc)) (U.row ae e5)
abbrev EvD:=Int×Int×Int×Int
abbrev evV (e:EvD):Value:=Xl e.1 e.2.1 e.2.2.1 e.2.2.2
def cg (E:Option WE)(jo:Option (cP×Int×Int))(w:WD)(d:QD):WD×QD×EvD:=
 if w.state=1 then
  match w.job,E with
  |some (t,y,e),some E'=>
   let j:=cn E (some (t,dP (E'.d t) y e,fm (E'.d t) y e))
   (⟨stJ j,w.tiles,j,w.words⟩,d,(2,w.tiles.getLast?.getD 0,bR (E'.d t) y e,gh (E'.d t) y e))
  |_,_=>(w,d,(0,0,0,0))
 else if w.state=2 then(w,d,(0,0,0,0))
 else if cV d=0 then(xn E w (bC d) jo,kI d,(1,bC d,0,0))
 else if cV d=2 then({w with state:=2},kI d,(3,0,0,0))
 else(w,kI d,(0,0,0,0))
def xp (w:WD)(d:QD):Prop:=w.state=0∧cV d=0
def DK (E:Option WE)(w:WD)(n n':Pic):Prop:=
 eU n n'∧match w.job,E with
  |some (t,y,e),some E=>JT (E.d t) n∧JT (E.d t) n'∧(bR (E.d t) y e≠2→n'=n)∧(bR (E.d t) y e=2→∀x' y' c',inP n x' y' c'→atP n' x' y' c'=if yZ (E.d t) y (iq (t.w*E.m.c)) x' y' c' then yx E.m E.s x' y' c' else atP n x' y' c')
  |_,_=>n'=n
theorem DK.same {E:Option WE}{w:WD}{n:Pic}(h:w.job=none):DK E w n n:=⟨eU.refl n,by rw[h]⟩
structure Zn (Z B Q Qo:Nat→Prop)(h h':ah)(bw bq:Nat)(E:Option WE)(n:Pic)(w w':WD)(d':QD):Prop where
 ex:∃n' B' Q',IsW Z B' h' bw E n' w'∧IsQ Q' h' bq d'∧(∀c,B' c→B c∨h.size≤c)∧(∀c,Q' c→Q c∨h.size≤c)∧(∀c,B' c→¬Q' c)∧DK E w n n'
 fr:Fr (λc=>eo E c∨B c∨Q c∨Qo c) h h'
theorem Y4 {Q:Nat→Prop}{bq:Nat}{d:QD}{ov:Value}{jo:Option (cP×Int×Int)}{Qo:Nat→Prop}{P0 P1:ah→Prop}(H:IsW Z B h bw E n w)(HQ:IsQ Q h bq d)(ht:w.tiles.length≤1000000)
  (HO:xp w d→zet Z E n ov (bC d) jo Qo (λc=>B c∨Q c) P0 P1 h) (ab:∀c,B c→¬Q c) (qz:∀c,Q c→¬Z c∧Bz E c∧¬eo E c) (qo:∀c,Qo c→c<h.size∧¬B c∧¬Q c∧¬Z c∧Bz E c∧¬eo E c)
  (hP:∀g g',Fr (λc=>eo E c∨B c∨Q c∨h.size≤c) g g'→(P0 g→P0 g')∧(P1 g→P1 g')) (p0:P0 h):
  ag prog cU #[ptr bw,ptr bq,ov] h λr h'=>r=evV (cg E jo w d).2.2∧Zn Z B Q Qo h h' bw bq E n w (cg E jo w d).1 (cg E jo w d).2.1∧(xp w d→P1 h')∧(¬xp w d→P0 h'):=by
 apply BC;unfold qN;have H0:=H;obtain⟨⟨tv,jv,Bj,r,o,J,a1,a2,a3⟩,w0,bl,bz,zl,I,st⟩:=H;refine aJ λb1 h1 r1 e1 n1=>?_
 have b0:=e1.1;have c6:=bD r1;have be:h.size≤b1:=n1;have c8:=bD r;have r':=e1.row r;have H1:=H0.ext e1;have bo:=HQ.ext e1;have I1:=I.ext e1;have a9:=I.new be;have al:∀c,Q c→c<h.size:=HQ.ql;have c0:aH h1 ⟨bw,0,none⟩=some (af w.state):=am r';simp only[go_sem,aO,c0];have L:∀{F:ah} {ev:EvD} {w':WD} {d':QD} {n':Pic} {B' Q':Nat→Prop},F[b1]? =some (.cells #[ai,ai,ai,ai] 148 (0,0))→Fr (λc=>eo E c∨B c∨Q c∨Qo c) h F→IsW Z B' F bw E n' w'→IsQ Q' F bq d'→(∀c,B' c→(B c∨h.size≤c)∧c≠b1)→(∀c,Q' c→(Q c∨h.size≤c)∧c≠b1)→(∀c,B' c→¬Q' c)→DK E w n n'→
   (xp w d→P1 F)→(¬xp w d→P0 F)→cg E jo w d=(w',d',ev)→
   stK 4 (ptr b1) (evV ev) F λ_ U=>vK (aR 4 U (ptr b1)) λv=>v=evV (cg E jo w d).2.2∧Zn Z B Q Qo h U bw bq E n w (cg E jo w d).1 (cg E jo w d).2.1∧(xp w d→P1 U)∧(¬xp w d→P0 U):=by
  intro F ev w' d' n' B' Q' e2 F2 W2 Q2 k1 k2 k3 D p1 p0 he;refine da (l:=[af ev.1,af ev.2.1,af ev.2.2.1,af ev.2.2.2]) e2 rfl (az rfl (az rfl (az rfl (az rfl bi)))) rfl λU r3 u3=>?_
  rw[aW (l:=[af ev.1,af ev.2.1,af ev.2.2.1,af ev.2.2.2]) r3 4 rfl,aj,he];have cc:∀c,Z c→¬c=b1:=λc hz he=>by have:=zl _ hz;omega
  have hp:=hP F U (u3.fr.mono λc _ hc=>.inr (.inr (.inr (by have hc:c=b1:=hc;omega))));refine⟨rfl,⟨⟨n',B',Q',W2.other u3.fr cc (λc hc=>(k1 c hc).2) (W2.out.fr u3.fr λc hc _=>by rw[show c=b1 from hc];exact a9) (eU.refl n'),Q2.fr u3.fr λc hc=>(k2 c hc).2,λc hc=>(k1 c hc).1,λc hc=>(k2 c hc).1,k3,D⟩,F2.upd_new u3 be⟩,λh=>hp.2 (p1 h),λh=>hp.1 (p0 h)⟩
 have fE:aQ #[ai,ai,ai,ai] []=some #[ai,ai,ai,ai]:=rfl;have fL:aQ #[ai,ai,ai,ai] [(0,1,af 3)]=some #[af 3,ai,ai,ai]:=rfl;have aa:∀c,B c→(B c∨h.size≤c)∧c≠b1:=λc hc=>⟨.inl hc,λhe=>by have:=bl c hc;omega⟩
 have au:∀c,Q c→(Q c∨h.size≤c)∧c≠b1:=λc hc=>⟨.inl hc,λhe=>by have:=al c hc;omega⟩
 by_cases s1:w.state=1
 ·-- a job goes on
  have ad:¬xp w d:=λh=>by have:=h.1;omega
  obtain⟨hg,bk⟩:sr E w.job∧w.tiles≠[]:=by
   rcases st with h|h
   ·exact h.2
   ·have:=h.1;omega
  cases an:w.job with
  |none=>rw[an]at hg;exact hg.elim
  | some q=>
   obtain⟨t,y,e⟩:=q;rw[an]at J hg;obtain⟨A,rfl,ok,hc,bj,rv,rfl,S⟩:=J;have hg:bR (A.d t) y e≠0:=hg;have c3:=OD ok.m ok.s.wf hc;have c2:aH h1 ⟨bw,2,none⟩=some (ptr bj):=am r';simp only[go_sem,cL s1,c2];refine(T9 (S.ext e1) c3 (ok.s.room ok.m hc)).mono λrm F ⟨er,n',S2,f2,ci,bv⟩=>?_
   subst er;have b6:=f2.1;refine dh (cs:=[af (bR (A.d t) y e),af (gh (A.d t) y e)]) rfl (az rfl (az rfl bi)) rfl λb3 U r3 e3 n3=>?_
   have S3:=S2.ext e3;have ar:=e3.1;have OO:=S3.out;have D:eU n n':=⟨by rw[OO.w,S.out.w],by rw[OO.h,S.out.h],by rw[OO.c,S.out.c],by rw[OO.m,S.out.m]⟩
   have fq:∀c,(blk A.vt c∨Bj c)→eo (some A) c∨B c:=λc hc=>hc.imp id λh=>a2 c h
   have nw:¬(blk A.vt bw∨Bj bw):=λhc=>hc.elim (bz _ w0).2.2 a3
   have cu:=e3.row (f2.row r' nw);have I3:jL U (some A) n':=λE2 hE=>by cases hE;exact⟨S3.img,OO.wf⟩
   have a7:¬rL Bj h1 F bw:=λhc=>hc.elim a3 λh=>ae
   have J3:kb Z (rL Bj h1 F) U (some A) n' (ptr bj) (some (t,dP (A.d t) y e,fm (A.d t) y e)):=⟨A,rfl,ok,D.newC hc,bj,rv,rfl,S3⟩
   refine(VK cu J3 (bz _ w0).1 a7 (bz _ w0).2.1 (bz _ w0).2.2 I3).mono λ_ h4 ⟨b7,r4,J4,f4⟩=>?_
   have c7:=f4.1;have I4:jL h4 (some A) n':=I3.fr f4 λc hc _=>by rw[show c=bw from hc];exact(bz _ w0).2
   have cr:∀c,blk tv c→¬(blk A.vt c∨Bj c):=λc hc h=>h.elim (bz c (a1 c hc).1).2.2 (a1 c hc).2.1
   have o4:=(((o.fr (M:=λ_=>False) e1.fr λ_ _=>id).fr f2 cr).fr (M:=λ_=>False) e3.fr λ_ _=>id).fr f4 λc hc he=>(a1 c hc).2.2 he
   have c9:=bD r3;have cw:¬(blk A.vt b1∨Bj b1):=λhc=>hc.elim a9.2 λh=>by have:=bl _ (a2 _ h);omega
   have e4:=f4.row (e3.row (f2.row r1 cw)) λhc=>ae
   have b5:=f4.row r3 λhc=>ae
   have c1:aH h4 ⟨bw,1,none⟩=some tv:=am r4;obtain⟨a,cp,et⟩:=o4.isSl;have el:aC tv=some (af (w.tiles.length:Int)):=by rw[et];rfl
   have c4:0<w.tiles.length:=vw.2 bk;obtain⟨pp,p1,p2⟩:=(Gb (k:=.i64) (l:=w.tiles) o4).int_at (k':=.i64) (i:=w.tiles.length-1) ae;have p1:bu 1 tv (af ((w.tiles.length:Int)-1))=some pp:=by rw[show(w.tiles.length:Int)-1=((w.tiles.length-1:Nat):Int)by omega];exact p1
   refine aS (λg=>g=h4) rfl ?_
   try simp only[go_sem,aO]
   refine aD tv (λg e=>by rw[e];exact c1) ?_
   try simp only[go_sem]
   refine aD tv (λg e=>by rw[e];exact c1) ?_;refine aD (af (w.tiles.length:Int)) (λ_ _=>el) ?_;simp only[go_sem];rw[w64 (n:=(w.tiles.length:Int)-1) ae ae,p1,aj];refine aD (af (w.tiles.getLast?.getD 0)) (λg e=>by rw[e,p2,List.getLast?_eq_getElem?,iI];rfl) ?_;refine aD (C5 (bR (A.d t) y e) (gh (A.d t) y e)) (λg e=>by rw[e];exact aW (l:=[_,_]) b5 2 rfl) ?_;have hf:∀z a b:Int,aQ #[ai,ai,ai,ai] [(0,1,af 2),(1,1,af z),(2,2,C5 a b)]=some #[af 2,af z,af a,af b]:=λ_ _ _=>rfl
   simp only[go_sem,hf,bJ];have F4:Fr (λc=>eo (some A) c∨B c) h h4:=((e1.fr.trans (f2.mono λc _ hc=>fq c hc)).ext_r e3).trans (f4.mono λc _ hc=>.inr (hc▸w0));have hp:=(hP h h4 (F4.mono λc _ hc=>hc.imp id .inl)).1 p0;have nq:∀c,Q c→¬(eo (some A) c∨B c):=λc hc h=>h.elim (qz c hc).2.2 λh=>ab c h hc
   refine L (ev:=(2,w.tiles.getLast?.getD 0,bR (A.d t) y e,gh (A.d t) y e)) (w':=⟨stJ (cn (some A) (some (t,dP (A.d t) y e,fm (A.d t) y e))),w.tiles,cn (some A) (some (t,dP (A.d t) y e,fm (A.d t) y e)),w.words⟩) (B':=rL B h1 h4) (Q':=Q) e4 (F4.mono λc _ hc=>hc.imp id .inl)
    ⟨⟨tv,b7,rL Bj h1 F,r4,o4,J4,λc hc=>⟨.inl (a1 c hc).1,λG=>?_,(a1 c hc).2.2⟩,λc hc=>hc.imp (a2 c) λh=>⟨h.1,ae⟩,a7⟩,.inl w0,Mw (λc hc=>ce (bl c hc) b0) ae,λc hc=>?_,λc hc=>ce (zl c hc) F4.1,I4,?_⟩
    (HQ.fr F4 nq) (λc hc=>⟨?_,λhe=>?_⟩) au (λc hc hq=>?_) ⟨D,?_⟩ (λh=>absurd h ad) (λ_=>hp) ?_
   ·rcases G with G|G
    ·exact(a1 c hc).2.1 G
    ·have:=bl c (a1 c hc).1;omega
   ·rcases hc with G|G
    ·exact bz c G
    ·exact⟨λhz=>by have:=zl c hz;omega,I.new ae⟩
   ·rcases Cz (E:=some A) (jo:=some (t,dP (A.d t) y e,fm (A.d t) y e))with⟨G,cb⟩|G
    ·exact .inl ⟨G,cb,bk⟩
    ·exact .inr G
   ·exact hc.imp id λh=>ae
   ·rcases hc with G|G
    ·exact(aa c G).2 he
    ·omega
   ·rcases hc with G|G
    ·exact ab c G hq
    ·have:=al c hq;omega
   ·rw[an];exact⟨S.out,OO,ci,bv⟩
   ·unfold cg;rw[aA s1,an]
 ·have W:w.job=none:=by
   rcases st with h|h
   ·exact absurd h.1 s1
   ·exact h.2
  simp only[go_sem,cE s1];refine ao (λs2=>?_) (λs2=>?_)
  ·-- it is gone
   simp only[go_sem,fE,bJ];have ad:¬xp w d:=λh=>by have:=h.1;omega
   exact L (ev:=(0,0,0,0)) (r1) e1.fr H1 bo aa au ab (DK.same W) (λh=>absurd h ad) (λ_=>(hP h h1 e1.fr).1 p0) (by unfold cg;rw[aq s1,aA s2])
  ·have s0:w.state=0:=by
    rcases st with h|h
    ·exact absurd h.1 s1
    ·exact h.1.resolve_right s2
   refine(XE bo).mono λrr F ⟨er,Q2,f2⟩=>?_
   subst er;have b6:=f2.1;have x0:aP (.tuple #[af (bC d),af (cV d)]) 0=some (af (bC d)):=rfl;have x1:aP (.tuple #[af (bC d),af (cV d)]) 1=some (af (cV d)):=rfl;have H2:IsW Z B F bw E n w:=H1.other f2 (λc hz hq=>(qz c hq).1 hz) ab (I1.fr f2 λc hc _=>(qz c hc).2) (eU.refl n);have e2:=f2.row r1 λhc=>by have:=al _ hc;omega
   have F2:Fr (λc=>eo E c∨B c∨Q c∨h.size≤c) h F:=e1.fr.trans (f2.mono λc _ hc=>.inr (.inr (.inl hc)));have ax:Fr (λc=>eo E c∨B c∨Q c∨Qo c) h F:=e1.fr.trans (f2.mono λc _ hc=>.inr (.inr (.inl hc)));have ay:∀c,rL Q h1 F c→(Q c∨h.size≤c)∧c≠b1:=λc hc=>hc.elim (λh=>au c h) λh=>⟨.inr ae,ae⟩
   have bg:∀c,B c→¬rL Q h1 F c:=λc hc hq=>hq.elim (ab c hc) λh=>by have:=bl c hc;omega
   simp only[go_sem,x0,x1];refine ao (λg0=>?_) (λg0=>?_)
   ·have bc:xp w d:=⟨s0,g0⟩
    refine(ze7 H2 s0 ht (jo:=jo) (Qo:=Qo) (P0:=P0) (P1:=P1) ?_ ?_ ?_ ((hP h F F2).1 p0)).mono λrr U ⟨er,W3,f3,p3⟩=>?_
    ·rcases HO bc with ho|⟨b4,b2⟩
     ·exact .inl ho
     ·refine .inr ⟨b4,λU f3 p3=>b2 U ?_ p3⟩;exact(e1.fr.trans (f2.mono λc _ hc=>.inr hc)).after f3 λc _ hc=>.inl hc
    ·exact λc hc=>by have:=qo c hc;exact⟨ae,this.2.1,this.2.2.2⟩
    ·exact λg g' f=>hP g g' (f.mono λc _ hc=>hc.elim (λh=>.inr (.inl h)) λh=>.inr (.inr (.inr ae)))
    ·subst er;have ar:=f3.1;have q3:∀c,rL Q h1 F c→¬(B c∨Qo c):=λc hc hb=>hc.elim (λh=>hb.elim (λhb=>ab c hb h) λhb=>(qo c hb).2.2.1 h) λh=>hb.elim (λhb=>by have:=bl c hb;omega) λhb=>by have:=(qo c hb).1;omega
     refine L (ev:=(1,bC d,0,0)) (f3.row e2 λhc=>hc.elim (λh=>(aa _ h).2 rfl) λh=>by have:=(qo _ h).1;omega) (ax.trans (f3.mono λc _ hc=>hc.elim (λh=>.inr (.inl h)) λh=>.inr (.inr (.inr h)))) W3 (Q2.fr f3 q3)
      (λc hc=>hc.elim (λh=>aa c h) λh=>⟨.inr ae,ae⟩) ay (λc hc hq=>?_) (DK.same W) (λ_=>p3) (λh=>absurd bc h) (by unfold cg;rw[aq s1,aq s2,aA g0])
     rcases hc with G|G
     ·exact bg c G hq
     ·rcases hq with h8|h8
      ·have:=al c h8;omega
      ·omega
   ·have ad:¬xp w d:=λh=>g0 h.2
    refine ao (λg2=>?_) (λg2=>?_)
    ·obtain⟨⟨a8,b8,bd,r2,o2,J2,k1,k2,k3⟩,_,l2,z2,ca,I2,_⟩:=H2;rw[W]at J2;have ct:b8=.pointer none:=J2;subst ct
     try simp only[go_sem]
     refine ck r2 (by simp) rfl λU r3 u3=>?_
     have r3:U[bw]? =some (.cells #[af 2,a8,.pointer none,af w.words] 182 (0,0)):=r3;have ar:=u3.1;simp only[go_sem,fL,bJ];refine L (ev:=(3,0,0,0)) (w':={w with state:=2}) (B':=B) (u3.row ae e2) (ax.after u3.fr λc _ hc=>.inr (.inl (hc▸w0))) ⟨⟨a8,.pointer none,bd,r3,o2.fr u3.fr λc hc he=>(k1 c hc).2.2 he,?_,k1,k2,k3⟩,w0,λc hc=>by rw[ar];exact l2 c hc,bz,λc hc=>by rw[ar];exact ca c hc,I2.fr u3.fr λc hc _=>by rw[show c=bw from hc];exact(bz _ w0).2,.inr ⟨.inr rfl,W⟩⟩
      (Q2.fr u3.fr λc hc he=>bg bw w0 (he▸hc)) aa ay bg (DK.same W) (λh=>absurd h ad) (λ_=>(hP F U (u3.fr.mono λc _ hc=>.inr (.inl (hc▸w0)))).1 ((hP h F F2).1 p0)) (by unfold cg;rw[aq s1,aq s2,aq g0,aA g2])
     show kb Z bd U E n (.pointer none) w.job;rw[W];rfl
    ·simp only[go_sem,fE,bJ];exact L (ev:=(0,0,0,0)) e2 ax H2 Q2 aa ay bg (DK.same W) (λh=>absurd h ad) (λ_=>(hP h F F2).1 p0) (by unfold cg;rw[aq s1,aq s2,aq g0,aq g2])
theorem zcx {h:ah}{Z:Nat→Prop}{v:Value}{l:List Int}(H:Rp.Sl (Rp.int .i64) Z h v l)(hl:l.length≤1000000000):
  ag prog jc #[v] h λr h'=>New (Rp.int .i64) h h' r l:=by
 apply wJ;unfold lK;obtain⟨ds,⟨A,a,cap,rfl,F⟩,hz,he⟩:=H;rw[KM,aj];cases a with
 | none=>
  have:l=[]:=by
   rcases F with F|⟨b,o,h0,_⟩
   ·subst F;have h2:([]:List Value).length=l.length*1:=A;exact nZ (by simpa using h2.symm)
   ·cases h0
  subst this;simp only[Tl,go_sem];exact New.nil (Ext.refl _)
 |some a=>
  simp only[Tk,go_sem];refine di (c':=#[]) rfl λb h1 r1 G n1=>?_
  have O:Rp.Ow (Rp.int .i64) (λ_=>False) h1 (.slice (some ⟨b,0,none⟩) 0 0) []:=⟨[],.inr ⟨b,0,[],_,rfl,cf _,rfl,rfl,r1⟩,λb hb L=>L,λi hi=>absurd hi (by simp)⟩
  have S1:SlC 1 h1 (.slice (some a) l.length cap) l.length ds:=SlC.ext ⟨A,some a,cap,rfl,F⟩ G;refine Rp.app_ow (e:=(Rp.int .i64)) (l:=[]) (l2:=l) O S1 (λi hi=>he i hi) rfl (by simp;omega) (by simp;omega) (λb hb=>hb.elim) λv2 h2 W f2 n2=>?_
  rw[fX]at W;have nb:∀k,blk (.slice (some ⟨b,0,none⟩) 0 0) k→h.size≤k:=λk I=>by have:k=b:=I;omega
  refine⟨W,G.then_fr f2 nb,λk I=>?_⟩;rcases n2 k I with U|U
  ·exact nb k U
  ·exact bB G.1 U
theorem zdV (H:IsW Z B h bw E n w)(F:w.tiles.length≤1000000):ag prog kT #[ptr bw] h λr h'=>New (Rp.int .i64) h h' r w.tiles:=by
 apply Ae;unfold oU;obtain⟨⟨tv,G,L,r,o,J,a1,a2,a3⟩,w0,bl,bz,zl,I,st⟩:=H;have A:aH h ⟨bw,1,none⟩=some tv:=am r;simp only[go_sem,A];exact zcx (Gb (k:=.i64) (l:=w.tiles) o) ae
end
end
section
theorem ev_ne (a b:EvD):ak (.st [(0,1,.i),(1,1,.i),(2,2,(.st [(0,1,.i),(1,1,.i)]))]) .neq (evV a) (evV b)=some (.bool (decide (a≠b))):=by
 obtain⟨a1,a2,a3,a4⟩:=a;obtain⟨G,H,A,F⟩:=b;have W:(a1==G)=decide (a1=G):=rfl;have e2:(a2==H)=decide (a2=H):=rfl;have e3:(a3==A)=decide (a3=A):=rfl;have L:(a4==F)=decide (a4=F):=rfl;simp only[ak,eqV,Io,MV,MW,qV,cond_false,cond_true,List.getElem?_toArray,List.getElem?_cons_zero,List.getElem?_cons_succ,if_true,W,e2,Prod.mk.injEq,ne_eq];by_cases h1:a1=G<;>by_cases h2:a2=H<;>by_cases I:a3=A<;>by_cases U:a4=F<;>simp[h1,h2,I,U,e3,L]
theorem zen (a b:EvD):ak (.st [(0,1,.i),(1,1,.i),(2,2,(.st [(0,1,.i),(1,1,.i)]))]) .eql (evV a) (evV b)=some (.bool (decide (a=b))):=by
 obtain⟨a1,a2,a3,a4⟩:=a;obtain⟨G,H,A,F⟩:=b;have W:(a1==G)=decide (a1=G):=rfl;have e2:(a2==H)=decide (a2=H):=rfl;have e3:(a3==A)=decide (a3=A):=rfl;have L:(a4==F)=decide (a4=F):=rfl;simp only[ak,eqV,Io,MV,MW,qV,cond_false,cond_true,List.getElem?_toArray,List.getElem?_cons_zero,List.getElem?_cons_succ,if_true,W,e2,Prod.mk.injEq,ne_eq];by_cases h1:a1=G<;>by_cases h2:a2=H<;>by_cases I:a3=A<;>by_cases U:a4=F<;>simp[h1,h2,I,U,e3,L]
abbrev zbo:Pic:=⟨0,0,0,0,[]⟩
abbrev noZ:Nat→Prop:=λ_=>False
theorem DK.none {w:WD}{n n':Pic}(D:DK none w n n'):n'=n:=by
 have:=D.2;cases h:w.job<;>simp only[h]at this<;>exact this
def StepN (B Q:Nat→Prop)(M:Nat→Prop)(h h':ah)(bw bq:Nat)(w:WD)(d:QD):Prop:=
 ∃B' Q',IsW noZ B' h' bw none zbo w∧IsQ Q' h' bq d∧(∀c,B' c→B c∨h.size≤c)∧(∀c,Q' c→Q c∨h.size≤c)∧(∀c,B' c→¬Q' c)∧Fr (λc=>B c∨Q c∨M c) h h'
section
variable {B Q:Nat→Prop}{h:ah}{bw bq:Nat}{w:WD}{d:QD}
theorem KF (H:IsW noZ B h bw none zbo w)(I:IsQ Q h bq d)(G:w.tiles.length≤1000000)(A:∀c,B c→¬Q c):
  ag prog cU #[ptr bw,ptr bq,.nilFunc] h λr h'=>r=evV (cg none none w d).2.2∧StepN B Q noZ h h' bw bq (cg none none w d).1 (cg none none w d).2.1:=
 (Y4 (Z:=noZ) (ov:=.nilFunc) (jo:=none) (Qo:=noZ) (P0:=λ_=>True) (P1:=λ_=>True) H I G (λ_=>.inl ⟨rfl,rfl,λ_ h=>h⟩) A (λ_ _=>⟨id,trivial,id⟩) (λ_ h=>h.elim) (λ_ _ _=>⟨id,id⟩) trivial).mono
  λr h' ⟨e,⟨⟨n',B',Q',W,q,L,F,U,D⟩,f⟩,_⟩=>by
   have:=D.none;subst this;exact⟨e,B',Q',W,q,L,F,U,f.mono λc _ hc=>hc.elim (λh=>h.elim) id⟩
end
theorem XG {h:ah}(G:eW h):ag prog yO #[] h λr h'=>r=.bool true∧Ext h h':=by
 apply NH;unfold Cf;refine Lk.mono λr h1 ⟨bw,A,r1,I,n1⟩=>?_
 subst A;refine zci.mono λr h2 ⟨bq,A,Q2,e2,n2⟩=>?_
 subst A;have E2:=I.trans e2;refine ag.to (XH (G.ext E2)) λh3 e3=>?_
 have L:=E2.trans e3;have lw:=bD r1;have W3:IsW noZ (λc=>c=bw) h3 bw none zbo ⟨0,[],none,0⟩:=IsW.new ((e2.trans e3).row r1) id trivial id (λ_ h=>h.elim) λ_ h=>by cases h
 have Q3:=Q2.ext e3;simp only[go_sem,WR];refine(KF W3 Q3 (by simp) λc hc hq=>by have hq:c=bq:=hq;have hc:c=bw:=hc;omega).mono λr h4 ⟨A,B4,q4,U,W,k1,k2,k3,f4⟩=>?_
 subst A;have s1:cg none none ⟨0,[],none,0⟩ ⟨min (max 1 1) 4096,[],false⟩=(⟨0,[],none,0⟩,⟨1,[],false⟩,(0,0,0,0)):=rfl;rw[s1]at U W ⊢;have E4:Ext h h4:=L.then_fr f4 λc hc=>by
  rcases hc with hc|hc|hc
  ·rw[show c=bw from hc];exact n1
  ·rw[show c=bq from hc];exact bB I.1 n2
  ·exact hc.elim
 have H:∀c,B4 c→h.size≤c:=λc hc=>(k1 c hc).elim (λh=>by rw[h];exact n1) λh=>bB L.1 h
 have F:∀c,q4 c→h.size≤c:=λc hc=>(k2 c hc).elim (λh=>by rw[h];exact bB I.1 n2) λh=>bB L.1 h
 have f0:aQ #[ai,ai,ai,ai] []=some #[ai,ai,ai,ai]:=rfl;have f3:aQ #[ai,ai,ai,ai] [(0,1,af 3)]=some #[af 3,ai,ai,ai]:=rfl;have n0:=ev_ne (0,0,0,0) (0,0,0,0);have q0:=zen (0,0,0,0) (0,0,0,0);have q3:=zen (3,0,0,0) (3,0,0,0);simp only[go_sem,f0,bJ,n0,ne_eq,not_true,Mh];refine ag.at (GX U W) ?_;have d1:decide ((0:Int)=1∨((0:Int)=0∧cV ⟨1,[],false⟩≠1))=false:=rfl;rw[d1];simp only[go_sem];refine(VU W).mono λ_ h5 ⟨_,Q5,f5⟩=>?_
 have W5:=U.other f5 (λc h=>h.elim) k3 (λ_ h=>by cases h) (eU.refl _);have E5:=E4.then_fr f5 F;refine ag.at (GX W5 Q5) ?_;have d2:decide ((0:Int)=1∨((0:Int)=0∧cV ⟨1,[],true⟩≠1))=true:=rfl;rw[d2];simp only[go_sem];refine(KF W5 Q5 (by simp) k3).mono λr h6 ⟨A,B6,q6,W6,Q6,l1,l2,l3,f6⟩=>?_
 subst A;have s2:cg none none ⟨0,[],none,0⟩ ⟨1,[],true⟩=(⟨2,[],none,0⟩,⟨1,[],true⟩,(3,0,0,0)):=rfl;rw[s2]at W6 Q6 ⊢;have E6:Ext h h6:=E5.then_fr f6 λc hc=>hc.elim (H c) λhc=>hc.elim (F c) λhc=>hc.elim
 simp only[go_sem,f3,bJ,q3,gM];refine(KF W6 Q6 (by simp) l3).mono λr h7 ⟨A,B7,q7,W7,Q7,m1,m2,m3,f7⟩=>?_
 subst A;have s3:cg none none ⟨2,[],none,0⟩ ⟨1,[],true⟩=(⟨2,[],none,0⟩,⟨1,[],true⟩,(0,0,0,0)):=rfl;rw[s3]at W7 Q7 ⊢;have E7:Ext h h7:=E6.then_fr f7 λc hc=>by
  have hs:=E5.1;rcases hc with hc|hc|hc
  ·exact(l1 c hc).elim (H c) λh=>ae
  ·exact(l2 c hc).elim (F c) λh=>ae
  ·exact hc.elim
 simp only[go_sem,f0,bJ,q0,gM];refine ag.at (zdX W7) ?_;simp only[go_sem];exact⟨trivial,E7⟩
end
end Go.Proofs.YtjljhnandbbldaaGreatDoor
namespace Go.Proofs.YtjljhnandbbldaaGreatDoor
open Go Go.Crisp
attribute [local irreducible] ag du bh stK aE vK qK bO gK fR bA mkK dy GQ IQ DT bsK clK pG pH Q9
structure zfv (h0:ah)(T:TypeId)(N:Pic)(im:Option (Nat×Value))(va:Option (Nat×Bool))(g:ah):Prop where
 ext:Ext h0 g
 mi:∀p,im=some p→dp g p.1 p.2 N∧h0.size≤p.1∧∀c,blk p.2 c→h0.size≤c
 av:∀q,va=some q→h0.size≤q.1∧g[q.1]? =some (.cells #[if q.2 then(match im with|some p=>ptr p.1|none=>.pointer none)else .pointer none] T (0,0))
 dis:∀p q,im=some p→va=some q→p.1≠q.1∧¬blk p.2 q.1
theorem zfv.st {h0 g:ah}{T:TypeId}{N:Pic}{b bt:Nat}{vt:Value}{K:Value→ah→Prop}(M:zfv h0 T N (some (bt,vt)) (some (b,false)) g)(H:∀A,zfv h0 T N (some (bt,vt)) (some (b,true)) A→K undef A):stK 1 (ptr b) (ptr bt) g K:=by
 obtain⟨a1,a2⟩:=M.av _ rfl;obtain⟨d1,d2⟩:=M.dis _ _ rfl rfl;refine ck a2 (by simp) rfl λA r u=>H A ⟨M.ext.upd a1 u,λp F=>?_,λq hq=>?_,λp q F hq=>?_⟩
 ·cases F;obtain⟨I,U⟩:=M.mi _ rfl;exact⟨I.fr u.fr d1 λc L G=>d2 (G▸L),U⟩
 ·cases hq;exact⟨a1,r⟩
 ·cases F;cases hq;exact⟨d1,d2⟩
theorem zcR {Z:Nat→Prop}{h:ah}{sv:Value}{s:Stg}(H:Rp.Sl FI Z h sv [s]):∃p q b o,bu 3 sv ai=some (.pointer (some ⟨b,o,none⟩))∧aH h ⟨b,o,none⟩=some p∧aH h ⟨b,o+1,none⟩=some q∧SlC 3 h sv 1 [p,q,af s.border]∧(∀c,blk sv c→Z c)∧gi Z h p s.x∧gi Z h q s.y:=by
 obtain⟨ds,⟨F,a,cap,rfl,A⟩,U,L⟩:=H;have F:ds.length=3:=F;have G:FI.R Z h (Rp.el 3 ds 0) s:=L 0 (by simp);rw[Rp.el_self F]at G;obtain⟨p,q,rfl,I,hq⟩:=G;rcases A with h0|⟨b,o,rfl,A⟩
 ·cases h0
 ·exact⟨p,q,b,o,rfl,A 0 (by simp),A 1 (by simp),⟨rfl,_,cap,rfl,.inr ⟨b,o,rfl,A⟩⟩,λc hc=>U (by simp) c hc,I,hq⟩
abbrev Sg (a:uv)(o:OpD)(tw th:Int):dn:=⟨bgS a o,1+tw%13,1+th%13⟩
section
theorem gI {d:dn}(W:d.Wf){i:Int}(h0:0≤i)(h1:i<bU d):eF d.s (aL d i).x (aL d i).y (aL d i).w (aL d i).h:=by
 have A:=MG W h0 h1;have F:=W.w;have hh:=W.h;unfold fP at F hh;unfold dn.X dn.Y at A;show 1≤tz d i∧1≤uZ d i∧0≤jM d i∧0≤jT d i∧jM d i<_∧jT d i<_∧tz d i≤d.s.x.lines.length-jM d i∧uZ d i≤d.s.y.lines.length-jT d i;unfold tz uZ dn.X dn.Y;omega
def JD (d:dn)(i:Int):cP×Int×Int:=(aL d i,(aL d i).y,lnF d.s.y (aL d i).y)
structure C21 where
 bm:Nat
 bn:Nat
 bs:Nat
 bp:Nat
 bf:Nat
 vf:Value
 bt:Nat
 vt:Value
 p:Value
 q:Value
 rv:Value
 bl:Nat
 pp:Value
 pq:Value
 m:Pic
 d:dn
 bw:Nat
 bq:Nat
abbrev C21.E (C:C21):WE:=⟨C.bf,C.vf,C.bt,C.vt,C.p,C.q,C.m,C.d.s⟩
structure C21.Ok (C:C21):Prop where
 m:C.m.Wf
 d:C.d.Wf
 s:Dw C.d.s
abbrev C21.jo (C:C21)(i:Int):Option (cP×Int×Int):=some (JD C.d i)
abbrev C21.suits (C:C21)(n:Pic):Prop:=n.Wf∧l8 C.m n C.d.s
theorem C21.newC {C:C21}(O:C.Ok){n:Pic}(S:C.suits n){i:Int}(h0:0≤i)(h1:i<bU C.d):oQ C.m n C.d.s (aL C.d i)=0:=rh.2 ⟨S.2,gI O.d h0 h1⟩
section
variable {C:C21}{Z:Nat→Prop}{g:ah}{n:Pic}{x:Int}
theorem XU.has {h':ah}{r:Value}(O:C.Ok)(S:C.suits n)(h0:0≤x)(h1:x<bU C.d)(H:XU Z g C.bf C.vf C.bt C.vt C.p C.q C.m n C.d.s (aL C.d x) r h'):
  ∃bj rv,r=.tuple #[ptr bj,ai]∧Ext g h'∧kb Z (rL (λ_=>False) g h') h' (some C.E) n (ptr bj) (C.jo x)∧lD Z (rL (λ_=>False) g h') h' bj C.bf C.vf C.bt C.vt C.p C.q rv ⟨C.m,C.d.s,aL C.d x⟩ (aL C.d x).y (lnF C.d.s.y (aL C.d x).y) n (lg (cJ C.d.s.y.lines)) (iq ((aL C.d x).w*C.m.c)):=by
 have hc:=C21.newC O S h0 h1;obtain⟨bj,rv,A,e,J⟩:=H.go hc;exact⟨bj,rv,A,e,⟨C.E,rfl,⟨O.m,O.s⟩,hc,bj,rv,rfl,J⟩,J⟩
end
end
def muJ (E:WE):Option (cP×Int×Int)→Nat
 |none=>0
 |some (t,y,e)=>tJ (E.d t) y e
def rl (C:C21)(i:Int):Nat:=tJ (C.E.d (aL C.d i)) (aL C.d i).y (lnF C.d.s.y (aL C.d i).y)
theorem Ra {E:WE}{t:cP}{y e:Int}:muJ E (cn (some E) (some (t,y,e)))=tJ (E.d t) y e:=by
 show muJ E (if bR (E.d t) y e=0 then none else some (t,y,e))=_;split
 ·rename_i h;rw[zby.2 h];rfl
 ·rfl
theorem Uk {o:OpD}(h:¬nh 12 o):(dm o).length≤41:=by
 unfold nh at h;have hu:∀l:List Int,(sP l).length≤l.length:=λl=>by unfold sP;split<;>simp
 unfold dm;split
 ·unfold pS;split
  ·simp
  ·rename_i A;unfold mT at A;rw[cS,ft];unfold ie;omega
 split
 ·unfold zN;split
  ·simp
  ·rename_i A;unfold vE at A;have:=hu (List.replicate (2*o.radius+1).toNat 1);rw[pM]at this;omega
 ·have:=hu o.y;omega
theorem ZY {o:OpD}{w h:Int}(hc:fF o w h=0)(G:¬nh 12 o)(I:h≤12):cJ (cz o w h).y.lines≤80:=by
 have A:jd o w h=0:=by
  unfold fF at hc;split at hc
  ·cases hc
  ·exact hc
 show cJ (fU o h).lines≤_;unfold jd at A;unfold fU;split
 ·rename_i F;rw[aA F]at A;by_cases h1:dH o.filter w o.w=0
  ·rw[aq (by simpa using h1)]at A;have:=Iu A;omega
  ·rw[aA h1]at A;exact absurd A h1
 ·rename_i F;rw[aq F]at A;have L:=Uk G;have H:jh (dm o) h=0:=by
   split at A
   ·exact absurd A (by assumption)
   ·split at A
    ·exact absurd A (by assumption)
    ·exact A
  have:=JI _ _ H;omega
theorem Rh {d:gb}{M:Nat}(A:cJ d.s.y.lines≤M):∀(k:Nat) (y e:Int),lnF d.s.y y≤e→mR d k y e≤k*(M+1)
 |0,_,_,_=>by unfold mR;omega
 |k+1,y,e,he=>by
  have h1:=Rh A k (y+1) (max (lnE d.s.y y) (lnF d.s.y (y+1))) ae;have F:=Kx d.s.y y;rw[eO,uj];unfold mR;unfold lnE lnF at*;omega
def jx (C:C21):Nat→Nat→Nat
 |0,_=>0
 |j+1,i=>rl C i+jx C j (i+1)
theorem Ux {C:C21}{H M:Nat}(A:cJ C.d.s.y.lines≤M)(hh:∀i:Nat,(aL C.d i).h≤H):∀j i,jx C j i≤j*(H*(M+1))
 |0,_=>by simp[jx]
 | j+1,i=>by
  have h1:=Ux A hh j (i+1);have F:rl C i≤H*(M+1):=by
   unfold rl tJ;refine bB (Rh (d:=C.E.d (aL C.d i)) A _ _ _ (dT _)) (ja _ ?_);have:=hh i;show((aL C.d i).y+(aL C.d i).h-(aL C.d i).y).toNat≤H;omega
  unfold jx;rw[eO,uj];omega
theorem Q8 {n size:Int}(H:1≤n∧n≤12)(G:1≤size∧size≤13):1≤dS n size∧dS n size≤12∧dS n size*min size n≤24:=by
 unfold dS;have h1:=pP (n+size-1) size;have I:=kA (n+size-1) (show size≠0 by omega);have L:=iJ (n+size-1) (show 0<size by omega);generalize(n+size-1)/size=k at*;generalize(n+size-1)%size=r at*;rcases nT n size with h|h
 ·have:k=1:=by
   have a1:k<2:=by
    refine S6 λA=>?_
    have:size*2≤size*k:=sf A ae;omega
   have a2:0<k:=by
    refine S6 λA=>?_
    have:size*k≤size*0:=sf A ae;omega
   omega
  subst this;omega
 ·have F:k*min size n=size*k:=by rw[show min size n=size by omega,fM]
  rw[F];have a2:0<k:=by
   refine S6 λA=>?_
   have:size*k≤size*0:=sf A ae;omega
  have a3:1*k≤size*k:=ui G.1 ae;refine⟨ae,?_,ae⟩;refine Int.le_of_not_gt λA=>?_
  have:size*13≤size*k:=sf ae ae;omega
theorem zfs {a:uv}{o:OpD}(B:QK a o){tw th:Int}(hw:0≤tw)(hh:0≤th){C:C21}(W:C.d=Sg a o tw th):∃N:Nat,(N:Int)=bU C.d∧1≤N∧N≤144∧jx C N 0≤23328:=by
 have aa:=B.sx;have al:=B.sy;have ad:0≤tw%13∧tw%13<13:=⟨kA _ ae,iJ _ ae⟩
 have ab:0≤th%13∧th%13<13:=⟨kA _ ae,iJ _ ae⟩
 have px:=Q8 (n:=(bgS a o).x.lines.length) (size:=1+tw%13) ae ae;have U:=Q8 (n:=(bgS a o).y.lines.length) (size:=1+th%13) ae ae;have hc:bU C.d=dS (bgS a o).x.lines.length (1+tw%13)*dS (bgS a o).y.lines.length (1+th%13):=by rw[W];rfl
 have hm:cJ C.d.s.y.lines≤((80:Nat):Int):=by
  rw[W];exact ZY B.made B.little (by have:=Di a;omega)
 obtain⟨H,I⟩:∃H:Nat,(H:Int)=min (1+th%13) (bgS a o).y.lines.length:=⟨(min (1+th%13) (bgS a o).y.lines.length).toNat,ae⟩
 have hH:∀i:Nat,(aL C.d i).h≤H:=by
  intro i;rw[I,W];show min (1+th%13) ((bgS a o).y.lines.length-jT _ _)≤_;have:0≤jT (Sg a o tw th) i:=by
   unfold jT;refine nU (vj ae ?_) (by show 0≤1+th%13;omega);show 0≤dS (bgS a o).x.lines.length (1+tw%13);omega
  omega
 have L:=Ux (C:=C) hm hH;rw[hc]
 revert L px U I
 generalize dS (bgS a o).x.lines.length (1+tw%13)=A;generalize dS (bgS a o).y.lines.length (1+th%13)=D;intro px U I L;obtain⟨G,rfl⟩:∃G:Nat,(G:Int)=A:=⟨A.toNat,ae⟩
 obtain⟨F,rfl⟩:∃F:Nat,(F:Int)=D:=⟨D.toNat,ae⟩
 have e1:G*F≤12*12:=vu ae ae;have e2:1*1≤G*F:=vu ae ae;have e3:F*H≤24:=by
  have:((F*H:Nat):Int)≤24:=by rw[mB,I];exact U.2.2
  omega
 refine⟨G*F,by rw[mB],ae,e1,bB (L _ _) ?_⟩;have e4:G*F*(H*81)=G*(F*H)*81:=by rw[vv,←vv F H 81,←vv]
 have e5:G*(F*H)≤12*24:=vu ae e3;show G*F*(H*81)≤_;omega
end Go.Proofs.YtjljhnandbbldaaGreatDoor
namespace Go.Proofs.YtjljhnandbbldaaGreatDoor
open Go Go.Crisp
attribute [local irreducible] ag du bh stK aE vK qK bO gK fR bA mkK dy GQ IQ DT bsK clK pG pH Q9
open _root_.Go.Proofs.Tryz
def zbc:Rp cP where
 w:=10
 R:=λ_ _ cs t=>cs=dK t
 len:=by rintro _ _ _ _ rfl;rfl
 one:=by rintro _ _ _ _ rfl;exact kM _
 fr:=by rintro _ _ _ _ _ _ rfl _ _;rfl
 mono:=by rintro _ _ _ _ _ rfl _;rfl
def dJ (d:dn)(N:Nat):List cP:=(List.range N).map λi:Nat=>aL d i
theorem zau {Z:Nat→Prop}{h:ah}{b:Nat}{d:dn}{p q:Value}(H:uz Z h b d p q)(W:d.Wf){N:Nat}(hN:(N:Int)=bU d)(ab:N≤4096):ag prog uF #[ptr b] h λr h'=>New zbc h h' r (dJ d N):=by
 apply Kq;unfold zk;refine ag.at (Ep H W) ?_;rw[←hN];refine bK (α:=Value) N 0 (λi v=>[v,af (i:Int)]) (λi v g=>New zbc h g v (dJ d i)) (.slice none 0 0) rfl (b9 _) (New.nil (Ext.refl _)) λi v g again ρ _ hi L G=>?_
 simp only[iz,zJ];rw[cC,aj];refine ao (λg1=>?_) (λg1=>?_)
 ·have F:i<N:=ae;refine ag.to (wZ (H.ext L.2.1) W (i:=i) ae ae) λg2 e2=>?_
  have x0:aP (.tuple #[.agg (dK (aL d i)).toArray,.bool true]) 0=some (.agg (dK (aL d i)).toArray):=rfl;have x1:aP (.tuple #[.agg (dK (aL d i)).toArray,.bool true]) 1=some (.bool true):=rfl;simp only[go_sem,x0,x1];refine dh (cs:=dK (aL d i)) rfl (kM _) rfl λb3 g3 r3 e3 n3=>?_
  rw[aW r3 10 rfl,aj];have A:=L.ext (e2.trans e3);have U:(dJ d i).length=i:=by simp[dJ]
  refine Rp.push_ow (e:=zbc) (x:=aL d i) A.1 rfl rfl rfl (by rw[U];omega) (by rw[U];omega) (λ_ h=>h.elim) λv4 g4 o4 f4 n4=>?_
  have I:(i:Int)+1=((i+1:Nat):Int):=ae
  try simp only[go_sem]
  rw[w64 (n:=(i:Int)+1) ae ae,I];have e1:dJ d (i+1)=dJ d i++[aL d i]:=by simp[dJ,mA]
  have aa:=A.2.1.1;refine G v4 g4 F ⟨by rw[e1];exact o4,A.2.1.then_fr f4 A.2.2,λc hc=>(n4 c hc).elim (A.2.2 c) λh=>ae⟩
 ·have:i=N:=ae;subst this;exact L
def ut (t:cP)(x y:Int):Prop:=t.x≤x∧x<t.x+t.w∧t.y≤y∧y<t.y+t.h
theorem MH {d:dn}(W:d.Wf){x y:Int}(x0:0≤x)(x1:x<d.X)(y0:0≤y)(y1:y<d.Y):∃i:Nat,(i:Int)<bU d∧ut (aL d i) x y:=by
 have H:=W.w;have hh:=W.h;unfold fP at H hh;have a1:=pP x d.w;have a2:=kA x (show d.w≠0 by omega);have a3:=iJ x (show 0<d.w by omega);have U:=pP y d.h;have I:=kA y (show d.h≠0 by omega);have L:=iJ y (show 0<d.h by omega);have G:0≤x/d.w:=vj x0 ae;have r0:0≤y/d.h:=vj y0 ae;have F:x/d.w<dB d:=by
  unfold dB dS;apply Yr;rw[wN ae,iZ,kR,fM];omega
 have r1:y/d.h<dS d.Y d.h:=by
  unfold dS;apply Yr;rw[wN ae,iZ,kR,fM];omega
 have hc:(y/d.h+1)*dB d≤dS d.Y d.h*dB d:=ui ae ae;rw[iZ,kR]at hc;have A:0≤y/d.h*dB d+x/d.w:=by
  have:=nU r0 (show 0≤dB d by omega);omega
 refine⟨(y/d.h*dB d+x/d.w).toNat,?_,?_⟩
 ·rw[xU A];unfold bU;rw[fM (dB d)];omega
 ·rw[xU A];have m1:(y/d.h*dB d+x/d.w)%dB d=x/d.w:=by
   rw[Int.add_comm,Int.add_mul_emod_self_right,Int.emod_eq_of_lt G F]
  have m2:(y/d.h*dB d+x/d.w)/dB d=y/d.h:=by
   rw[Int.add_comm,Ti _ _ ae,rZ G F,Int.zero_add]
  show jM d _≤x∧x<jM d _+tz d _∧jT d _≤y∧y<jT d _+uZ d _;unfold tz uZ jM jT;rw[m1,m2,fM (x/d.w),fM (y/d.h)];omega
def zed (C:C21)(k:Nat)(jo:Option (cP×Int×Int))(n:Pic):Prop:=
 ∀x y c,inP n x y c→∀i:Nat,i<k→ut (aL C.d i) x y→(∀t yy e,jo=some (t,yy,e)→i+1=k→y<yy)→atP n x y c=yx C.m C.d.s x y c
theorem UV {C:C21}(O:C.Ok){N:Nat}{n:Pic}(hN:(N:Int)=bU C.d)(P:zed C N none n)(su:C.suits n):n.l=(Dv C.m C.d.s).l:=by
 obtain⟨s1,G,A,U,s5⟩:=su.2;have hf:=dx O.m.fits;refine zbj su.1 ?_ ⟨G.symm,A.symm,U.symm,s5.symm⟩ λx y c hi=>?_
 ·show(((List.range (C.d.s.y.lines.length*C.d.s.x.lines.length*C.m.c.toNat)).map _).length:Int)=(C.d.s.x.lines.length:Int)*(C.d.s.y.lines.length:Int)*C.m.c;rw[cS,ft,mB,mB,xU ae,fM (C.d.s.y.lines.length:Int)]
 ·obtain⟨h1,I,L,F,h5,W⟩:=hi;obtain⟨i,aa,H⟩:=MH O.d h1 (by show x<(C.d.s.x.lines.length:Int);rw[←G];exact I) L (by show y<(C.d.s.y.lines.length:Int);rw[←A];exact F);rw[P x y c ⟨h1,I,L,F,h5,W⟩ i ae H λ_ _ _ h=>by cases h];rw[zaN];exact⟨h1,by show x<(C.d.s.x.lines.length:Int);rw[←G];exact I,L,by show y<(C.d.s.y.lines.length:Int);rw[←A];exact F,h5,by show c<C.m.c;rw[←U];exact W⟩
section
theorem Ln {h:ah}{Z:Nat→Prop}{v:Value}{l:List (Int×List Int)}(H:Rp.Sl mP Z h v l)(hl:l.length≤1000000000)(hb:∀x∈l,x.2.length≤1073741824){a b:Int}:ag prog sD #[v,af a,af b] h λr h'=>(∃x y c,r=.tuple #[af x,af y,.bool c])∧Ext h h':=by
 apply Nq;unfold BT;obtain⟨av,cv,ev⟩:=H.isSl;have el:aC v=some (af (l.length:Int)):=by rw[ev];rfl
 rw[el,aj];refine bK (α:=Int×Int×Bool) l.length 0 (λi s=>[af s.1,af s.2.1,.bool s.2.2,af (i:Int)]) (λi s g=>Ext h g) (0,0,false) rfl (b9 _) (Ext.refl _) λi s g again ρ _ hi E L=>?_
 simp only[iz,zJ,zdj,zeK];rw[cC,aj];refine ao (λg1=>?_) (λg1=>?_)
 ·have F:i<l.length:=ae;have U:(i:Int)+1=((i+1:Nat):Int):=ae;obtain⟨pt,cs,q1,q2,u,q3,q4⟩:=(H.ext E).atw (show 0<2 by omega) (k:=.i64) (i:=i) F;have q1:bu 2 v (af (i:Int))=some pt:=q1;have q2:aR 2 g pt=some (.agg cs.toArray):=q2;subst q3;rw[q1,aj,q2,aj];refine dh (cs:=[af l[i].1,u]) rfl (az rfl (az q4.one bi)) rfl λb5 g5 r5 e5 n5=>?_
  have c0:aH g5 ⟨b5,0,none⟩=some (af l[i].1):=am r5;have c1:aH g5 ⟨b5,1,none⟩=some u:=am r5;obtain⟨au,cu,eu⟩:=q4.isSl;have ab:aC u=some (af (l[i].2.length:Int)):=by rw[eu];rfl
  simp only[go_sem,aO,c1,ab];refine ao (λg2=>?_) (λg2=>?_)
  ·rw[w64 (n:=(i:Int)+1) ae ae,U];exact L s g5 F (E.trans e5)
  ·have ad:=hb l[i] (cG F);refine bK (α:=Int×Int×Bool) l[i].2.length 0 (λj s=>[af s.1,af s.2.1,.bool s.2.2,af (j:Int)]) (λj s g'=>g'=g5) s rfl (b9 _) rfl λj s' g' aa ρ' _ hj eg A=>?_
   subst eg;simp only[iz,zJ,zdj,zeK];rw[cC,aj];refine ao (λg3=>?_) (λg3=>?_)
   ·have G:j<l[i].2.length:=ae;have I:(j:Int)+1=((j+1:Nat):Int):=ae;simp only[go_sem,aO,c0];refine bF (λxs W=>(∃n,xs=[af n])∧W=g') ?_ ?_
    ·obtain⟨s1,s2,s3⟩:=s';cases s3<;>simp only[go_sem]
     ·exact⟨⟨_,rfl⟩,trivial⟩
     ·refine ao (λ_=>?_) (λ_=>?_)
      ·exact⟨⟨_,rfl⟩,trivial⟩
      ·exact⟨⟨_,rfl⟩,trivial⟩
    ·rintro xs ρ'' W ⟨⟨n,rfl⟩,rfl⟩;obtain⟨s1,s2,s3⟩:=s';simp only[iz];cases s3<;>simp only[go_sem]
     ·rw[w64 (n:=(j:Int)+1) ae ae,I];exact A (n,_,true) _ G rfl
     ·refine ao (λ_=>?_) (λ_=>?_)
      ·rw[w64 (n:=(j:Int)+1) ae ae,I];exact A (n,_,true) _ G rfl
      ·rw[w64 (n:=(j:Int)+1) ae ae,I];exact A (n,s2,true) _ G rfl
   ·rw[w64 (n:=(i:Int)+1) ae ae,U];exact L s' _ F (E.trans e5)
 ·exact⟨⟨_,_,_,rfl⟩,E⟩
theorem UU {n size:Int}(A:1≤size)(j:Int):j*size<n↔j<dS n size:=by
 unfold dS;rw[show(j<(n+size-1)/size)↔(j+1≤(n+size-1)/size)from DZ,wN ae,iZ,kR];omega
structure VD where
 state:Int
 tiles:List Int
 left:List (Int×Int)
def rVD:Rp VD where
 w:=3
 R:=λZ h cs v=>∃t l,cs=[.int .i64 v.state,t,l]∧Rp.Sl (Rp.int .i64) Z h t v.tiles∧Rp.Sl Bu Z h l v.left∧Rp.SlCap l
 len:=by rintro _ _ _ _ ⟨_,_,rfl,_⟩;rfl
 one:=by
  rintro _ _ _ _ ⟨_,_,rfl,H,K,_⟩;exact az rfl (az H.one (az K.one bi))
 fr:=by rintro _ _ _ _ _ _ ⟨t,l,rfl,H,K,c⟩ f q;exact⟨t,l,rfl,H.fr f q,K.fr f q,c⟩
 mono:=by rintro _ _ _ _ _ ⟨t,l,rfl,H,K,c⟩ q;exact⟨t,l,rfl,H.mono q,K.mono q,c⟩
def zeB:Rp (List (Int×Int)) where
 w:=1
 R:=λZ h cs l=>∃v,cs=[v]∧Rp.Sl Bu Z h v l∧Rp.SlCap v
 len:=by rintro _ _ _ _ ⟨_,rfl,_⟩;rfl
 one:=by
  rintro _ _ _ _ ⟨_,rfl,H,_⟩;exact az H.one bi
 fr:=by rintro _ _ _ _ _ _ ⟨v,rfl,H,c⟩ f q;exact⟨v,rfl,H.fr f q,c⟩
 mono:=by rintro _ _ _ _ _ ⟨v,rfl,H,c⟩ q;exact⟨v,rfl,H.mono q,c⟩
section
variable {Z:Nat→Prop}{h:ah}{cs ds:List Value}{v:VD}{d:QD}{mv:Value}{M:List (List (Int×Int))}
end
end
theorem zaq {h:ah}{Z:Nat→Prop}{v:Value}{l:List (Int×List Int)}(H:Rp.Sl mP Z h v l)(hl:l.length≤1000000000):ag prog AJ #[v] h λr h'=>r=af (cJ l)∧Ext h h':=by
 apply P3;unfold EW;obtain⟨av,cv,ev⟩:=H.isSl;have el:aC v=some (af (l.length:Int)):=by rw[ev];rfl
 rw[el,aj];refine bK (α:=Int) l.length 0 (λi s=>[af s,af (i:Int)]) (λi s g=>s=cJ (l.take i)∧Ext h g) 0 rfl (b9 _) ⟨rfl,Ext.refl _⟩ λi s g again ρ _ hi E F=>?_
 obtain⟨es,E⟩:=E;simp only[iz,zJ];rw[cC,aj];refine ao (λg1=>?_) (λg1=>?_)
 ·have A:i<l.length:=ae;have hm:cJ (l.take (i+1))=max s (l[i].2.length:Int):=by rw[iY A,GA,es]
  have G:(i:Int)+1=((i+1:Nat):Int):=ae;obtain⟨pt,cs,U,I,u,q3,q4⟩:=(H.ext E).atw (show 0<2 by omega) (k:=.i64) (i:=i) A;have U:bu 2 v (af (i:Int))=some pt:=U;have I:aR 2 g pt=some (.agg cs.toArray):=I;subst q3;rw[U,aj,I,aj];refine dh (cs:=[af l[i].1,u]) rfl (az rfl (az q4.one bi)) rfl λb5 W r5 e5 n5=>?_
  have c1:aH W ⟨b5,1,none⟩=some u:=am r5;obtain⟨au,cu,eu⟩:=q4.isSl;have L:aC u=some (af (l[i].2.length:Int)):=by rw[eu];rfl
  simp only[go_sem,aO,c1,L];refine ao (λg2=>?_) (λg2=>?_)
  ·rw[w64 (n:=(i:Int)+1) ae ae,G];exact F _ W A ⟨by rw[hm];omega,E.trans e5⟩
  ·rw[w64 (n:=(i:Int)+1) ae ae,G];exact F s W A ⟨by rw[hm];omega,E.trans e5⟩
 ·have:i=l.length:=ae;rw[es,this,An];exact⟨rfl,E⟩
theorem zbR (a b c d e f:Int):aQ #[ai,ai,ai,ai,ai,ai,ai,ai,ai,ai] [(0,1,af a),(1,1,af b),(2,1,af c),(3,1,af d),(4,1,af e),(9,1,af f)]=
  some [af a,af b,af c,af d,af e,ai,ai,ai,ai,af f].toArray:=by
 refine(bX (n:=1) (l:=[af a]) rfl rfl (by simp)).trans ?_;refine(bX (n:=1) (l:=[af b]) rfl rfl (by simp[cO])).trans ?_;refine(bX (n:=1) (l:=[af c]) rfl rfl (by simp[cO])).trans ?_;refine(bX (n:=1) (l:=[af d]) rfl rfl (by simp[cO])).trans ?_;refine(bX (n:=1) (l:=[af e]) rfl rfl (by simp[cO])).trans ?_;refine(bX (n:=1) (l:=[af f]) rfl rfl (by simp[cO])).trans ?_;rw[ia];simp[wrL]
def FH:Rp cP where
 w:=10
 R:=λ_ _ cs t=>∃a b c d,cs=[.int .i64 t.number,.int .i64 t.x,.int .i64 t.y,.int .i64 t.w,.int .i64 t.h,.int .i64 a,.int .i64 b,.int .i64 c,.int .i64 d,.int .i64 t.ring]
 len:=by rintro _ _ _ _ ⟨_,_,_,_,rfl⟩;rfl
 one:=by
  rintro _ _ _ _ ⟨_,_,_,_,rfl⟩;exact az rfl (az rfl (az rfl (az rfl (az rfl (az rfl (az rfl (az rfl (az rfl (az rfl bi)))))))))
 fr:=by rintro _ _ _ _ _ _ h _ _;exact h
 mono:=by rintro _ _ _ _ _ h _;exact h
theorem Uo (d:dn)(k:Nat):dJ d (k+1)=dJ d k++[aL d k]:=by simp[dJ,mA]
theorem zar {h:ah}{Z:Nat→Prop}{cs:List Value}{d:dn}(K:yw.R Z h cs d.s)(W:d.Wf)(few:∀x∈d.s.x.lines++d.s.y.lines,x.2.length≤1073741824){N:Nat}(hN:(N:Int)=bU d)(eh:N≤4096)(hX:1≤d.X)(hY:1≤d.Y):
  ag prog lX #[.agg cs.toArray,af d.w,af d.h] h λr h'=>New FH h h' r (dJ d N):=by
 apply St;unfold HG;obtain⟨X,Y,rfl,HX,HY⟩:=K;have eg:=dn.bd W;have hw:=W.w;have hh:=W.h;unfold fP at hw hh;have pc:=pB (n:=d.X) (size:=d.w) ae W.w;have pr:=pB (n:=d.Y) (size:=d.h) ae W.h;obtain⟨A,eA⟩:∃A:Nat,(A:Int)=dB d:=⟨(dB d).toNat,by have:=pc.1;unfold dB;omega⟩
 obtain⟨D,eD⟩:∃D:Nat,(D:Int)=dS d.Y d.h:=⟨(dS d.Y d.h).toNat,by have:=pr.1;omega⟩
 have ei:1≤A:=by have:=pc.2.2 hX;have e:dB d=dS d.X d.w:=rfl;omega
 have bg:N=D*A:=by
  have:(N:Int)=((D*A:Nat):Int):=by rw[hN,mB,eA,eD,fM];rfl
  omega
 simp only[bT];refine aJ λG h1 r1 e1 n1=>?_
 obtain⟨ax,cx,ex⟩:=HX.isSl;obtain⟨ay,cy,ey⟩:=HY.isSl;have a8:aC X=some (af d.X):=by rw[ex];rfl
 have bv:aC Y=some (af d.Y):=by rw[ey];rfl
 have U:∀i:Nat,(i:Int)*d.w<d.X↔i<A:=λi=>by rw[UU hw.1];show(i:Int)<dB d↔_;omega
 have I:∀j:Nat,(j:Int)*d.h<d.Y↔j<D:=λj=>by rw[UU hh.1];omega
 refine bK (α:=Value) D 0 (λj v=>[v,af ((j:Int)*d.h)]) (λj v g=>New FH h1 g v (dJ d (j*A))) (.slice none 0 0) (by rw[show((0:Nat):Int)*d.h=0 by omega]) (b9 _) (by rw[Ar];exact New.nil (Ext.refl _)) λj v g again ρ _ hj NT dl=>?_
 have c1:aH g ⟨G,1,none⟩=some Y:=am (NT.2.1.row r1);simp only[iz,zJ,go_sem,aO,c1,bv];refine ao (λg1=>?_) (λg1=>?_)
 ·have au:j<D:=(I j).1 g1;have ct:(j+1)*A≤N:=by rw[bg];exact ja _ au
  rw[eO,uj]at ct;have e0:0≤(j:Int)*d.h:=nU ae ae;refine bK (α:=Value) A 0 (λi v=>[v,af ((i:Int)*d.w)]) (λi v g=>New FH h1 g v (dJ d (j*A+i))) v (by rw[show((0:Nat):Int)*d.w=0 by omega]) (b9 _) NT λi v2 g2 b2 ρ2 _ hi N2 al=>?_
  have c0:aH g2 ⟨G,0,none⟩=some X:=am (N2.2.1.row r1);simp only[iz,zJ,go_sem,aO,c0,a8];refine ao (λg3=>?_) (λg3=>?_)
  ·have ad:i<A:=(U i).1 g3;have es:0≤(i:Int)*d.w:=nU ae ae;obtain⟨a2,eb,e2⟩:=N2.sl.isSl;have aa:(dJ d (j*A+i)).length=j*A+i:=by simp[dJ]
   have c7:aC v2=some (af ((j*A+i:Nat):Int)):=by rw[e2,aa];rfl
   have cu:aH g2 ⟨G,1,none⟩=some Y:=am (N2.2.1.row r1);simp only[c7,aj,go_sem,aO,cu];refine(zaq (HY.ext (e1.trans N2.2.1)) (by have e:d.Y=d.s.y.lines.length:=rfl;omega)).mono λrr g4 ⟨er,e4⟩=>?_
   subst er;have N4:=N2.ext e4;have cp:=N4.2.1.row r1;rw[zbR,bJ,aj];have an:∀a b c d' e f g k l m:Int,∀v∈[af a,af b,af c,af d',af e,af f,af g,af k,af l,af m],aV v=true:=λ_ _ _ _ _ _ _ _ _ _=>az rfl (az rfl (az rfl (az rfl (az rfl (az rfl (az rfl (az rfl (az rfl (az rfl bi)))))))))
   refine aJ λbt g5 r5 e5 n5=>?_
   refine da r5 rfl (an _ _ _ _ _ _ _ _ _ _) rfl λg6 r6 u6=>?_
   have ee:=N4.2.1.1;have e6:=e5.1;have ek:=u6.1;have ec:=bD r1;have c3:g4.size≤bt:=n5;have a7:g6[G]? =some (.cells [X,Y,af d.s.x.n,af d.s.y.n,af d.s.border].toArray 38 (0,0)):=u6.row ae (e5.row cp);have E6:Ext g4 g6:=e5.upd c3 u6;have b7:aH g6 ⟨G,0,none⟩=some X:=am a7
   -- the width
   have hH:(aL d ((j*A+i:Nat):Int)).y=(j:Int)*d.h∧(aL d ((j*A+i:Nat):Int)).h=min d.h (d.Y-(j:Int)*d.h):=by
    have q:((j*A+i:Nat):Int)/dB d=(j:Int):=by
     rw[←eA,←Int.natCast_ediv]
     congr 1
     rw[fu,S7 ae,ul ad,gN]
    constructor
    ·show jT d _=_;unfold jT;rw[q]
    ·show uZ d _=_;unfold uZ jT;rw[q]
   have hq:((j*A+i:Nat):Int)%dB d=(i:Int):=by
    rw[←eA,←Int.natCast_emod]
    congr 1
    rw[fu,L9,wO ad]
   have c9:(aL d ((j*A+i:Nat):Int)).x=(i:Int)*d.w:=by
    show jM d _=_;unfold jM;rw[hq]
   have L:(aL d ((j*A+i:Nat):Int)).w=min d.w (d.X-(i:Int)*d.w):=by
    show tz d _=_;unfold tz jM;rw[hq]
   refine bF (λxs g=>xs=[]∧g[bt]? =some (.cells [af ((j*A+i:Nat):Int),af ((i:Int)*d.w),af ((j:Int)*d.h),af (aL d ((j*A+i:Nat):Int)).w,af d.h,ai,ai,ai,ai,af (cJ d.s.y.lines)].toArray 59 (0,0))∧Fr (λc=>c=bt) g6 g) ?_ ?_
   ·simp only[go_sem,aO,b7,a8];rw[w64 (n:=(i:Int)*d.w+d.w) ae ae];refine ao (λH=>?_) (λH=>?_)
    ·rw[w64 (n:=d.X-(i:Int)*d.w) ae ae];refine ck r6 (by simp) rfl λg7 r7 u7=>⟨trivial,?_,u7.fr⟩
     rw[L,show min d.w (d.X-(i:Int)*d.w)=d.X-(i:Int)*d.w by omega];exact r7
    ·refine⟨trivial,?_,Fr.refl _ _⟩;rw[L,show min d.w (d.X-(i:Int)*d.w)=d.w by omega];exact r6
   rintro xs ρ7 g7 ⟨rfl,r7,f7⟩;have ej:=f7.1;have ar:=f7.row a7 (show¬G=bt by omega);have c2:aH g7 ⟨G,1,none⟩=some Y:=am ar
   -- the height
   refine bF (λxs g=>xs=[]∧g[bt]? =some (.cells [af ((j*A+i:Nat):Int),af ((i:Int)*d.w),af ((j:Int)*d.h),af (aL d ((j*A+i:Nat):Int)).w,af (aL d ((j*A+i:Nat):Int)).h,ai,ai,ai,ai,af (cJ d.s.y.lines)].toArray 59 (0,0))∧Fr (λc=>c=bt) g7 g) ?_ ?_
   ·simp only[go_sem,aO,c2,bv];rw[w64 (n:=(j:Int)*d.h+d.h) ae ae];refine ao (λH=>?_) (λH=>?_)
    ·rw[w64 (n:=d.Y-(j:Int)*d.h) ae ae];refine ck r7 (by simp) rfl λg9 r9 u9=>⟨trivial,?_,u9.fr⟩
     rw[hH.2,show min d.h (d.Y-(j:Int)*d.h)=d.Y-(j:Int)*d.h by omega];exact r9
    ·refine⟨trivial,?_,Fr.refl _ _⟩;rw[hH.2,show min d.h (d.Y-(j:Int)*d.h)=d.h by omega];exact r7
   rintro xs ρ8 H ⟨rfl,r8,f8⟩;have ep:=f8.1;have F8:Fr (λc=>c=bt) g6 H:=f7.trans f8;have E8:Ext g4 H:=E6.then_fr F8 λc hc=>by have hc:c=bt:=hc;omega
   have bk:=f8.row ar (show¬G=bt by omega);have ci:aH H ⟨G,0,none⟩=some X:=am bk;have cb:aH H ⟨bt,3,none⟩=some (af (aL d ((j*A+i:Nat):Int)).w):=am r8;simp only[go_sem,aO,ci,cb];refine(Ln ((HX.ext e1).ext (N4.2.1.trans E8)) (by have e:d.X=d.s.x.lines.length:=rfl;omega) λx hx=>few x (xT _ hx)).mono λrr g9 ⟨⟨x1,y1,z1,er⟩,e9⟩=>?_
   subst er;have x0:∀x y:Int,∀z,aP (.tuple #[af x,af y,.bool z]) 0=some (af x):=λ_ _ _=>rfl
   have bc:∀x y:Int,∀z,aP (.tuple #[af x,af y,.bool z]) 1=some (af y):=λ_ _ _=>rfl
   have a9:∀x y:Int,∀z,aP (.tuple #[af x,af y,.bool z]) 2=some (.bool z):=λ_ _ _=>rfl
   have be:=e9.row r8;have b4:aH g9 ⟨G,1,none⟩=some Y:=am (e9.row bk);have cc:aH g9 ⟨bt,4,none⟩=some (af (aL d ((j*A+i:Nat):Int)).h):=am be;simp only[go_sem,aO,x0,bc,a9,b4,cc];refine(Ln ((HY.ext e1).ext (N4.2.1.trans (E8.trans e9))) (by have e:d.Y=d.s.y.lines.length:=rfl;omega) λx hx=>few x (List.mem_append_right _ hx)).mono λrr c6 ⟨⟨x3,y3,z3,er⟩,ab⟩=>?_
   subst er;have eu:=e9.1;have dz:=ab.1;simp only[go_sem,aO,x0,bc,a9];refine ck (ab.row be) (by simp) rfl λet dq b6=>?_
   try simp only[go_sem,aO]
   refine ck dq (by simp) rfl λez b3 cw=>?_
   try simp only[go_sem,aO]
   refine ck b3 (by simp) rfl λew c4 cr=>?_
   try simp only[go_sem,aO]
   refine ck c4 (by simp) rfl λb0 bo b5=>?_
   have b8:Fr (λc=>c=bt) c6 b0:=b6.fr.trans (cw.fr.trans (cr.fr.trans b5.fr));have c8:Ext g4 b0:=(E8.trans (e9.trans ab)).then_fr b8 λc hc=>by have hc:c=bt:=hc;omega
   rw[aW (l:=[af ((j*A+i:Nat):Int),af ((i:Int)*d.w),af ((j:Int)*d.h),af (aL d ((j*A+i:Nat):Int)).w,af (aL d ((j*A+i:Nat):Int)).h,af x1,af x3,af (IntKind.i64.wrap (y1-x1)),af (IntKind.i64.wrap (y3-x3)),af (cJ d.s.y.lines)]) bo 10 rfl,aj];have F:=N4.ext c8;refine Rp.push_ow (e:=FH) (x:=aL d ((j*A+i:Nat):Int)) F.1 ⟨_,_,_,_,by rw[hH.1,c9];rfl⟩ rfl rfl (by rw[aa];omega) (by rw[aa];omega) (λ_ h=>h.elim) λv4 ca o4 f4 n4=>?_
   have ea:=F.2.1.1;have e3:(i:Int)*d.w+d.w=((i+1:Nat):Int)*d.w:=by rw[L8,iZ];simp
   try simp only[go_sem]
   rw[w64 (n:=(i:Int)*d.w+d.w) ae ae,e3];refine al v4 ca ad ⟨?_,F.2.1.then_fr f4 F.2.2,λc hc=>(n4 c hc).elim (F.2.2 c) λh=>ae⟩;rw[←vz,Uo];exact o4
  ·have:i=A:=by
    have:=mt (U i).2 g3;omega
   subst this;have e3:(j:Int)*d.h+d.h=((j+1:Nat):Int)*d.h:=by rw[L8,iZ];simp
   rw[w64 (n:=(j:Int)*d.h+d.h) ae ae,e3];refine dl v2 g2 au ?_;rw[eO,uj];exact N2
 ·have:j=D:=by
   have:=mt (I j).2 g1;omega
  subst this;rw[bg];exact⟨NT.1,e1.trans NT.2.1,λc hc=>bB e1.1 (NT.2.2 c hc)⟩
end Go.Proofs.YtjljhnandbbldaaGreatDoor
namespace Go.Proofs.YtjljhnandbbldaaGreatDoor
open Go Go.Crisp
attribute [local irreducible] ag du bh stK aE vK qK bO gK fR bA mkK dy GQ IQ DT bsK clK pG pH Q9
def TN (E:WE):Option (cP×Int×Int)→List (Int×Int)
 |none=>[]
 |some (t,y,e)=>SX (E.d t) y e
def vOf (E:WE)(w:WD):VD:=⟨w.state,w.tiles,TN E w.job⟩
def Gy (C:C21)(N:Nat):List (List (Int×Int)):=(List.range N).map λi:Nat=>TN C.E (some (JD C.d i))
end Go.Proofs.YtjljhnandbbldaaGreatDoor
namespace Go.Crisp
open Go
open _root_.Go.Proofs.YtjljhnandbbldaaGreatDoor
theorem ka.push1 {α:Type}{e:Rp α}{z z' c:Value}{t W:TypeId}{bytes:Nat}{h h1:ah}{v:Value}{l:List α}{x:α}{Y:Nat→Prop}{K:Value→ah→Prop}(hw:e.w=1)(H:ka e h h1 v l)
  (hx:e.R Y h1 [c] x) (hY:∀b,Y b→h.size≤b∧b<h1.size∧¬blk v b) (F:z.cells.size=1) (A:(l.length+1)*bytes≤140737488355328) (hn:l.length+1≤9223372036854775807)
  (HK:∀G h',ka e h h' G (l++[x])→K G h'):du #[z'] t 1 [(0,1,c)] h1 λv2 h3=>dy z W 1 bytes v v2 h3 K:=by
 obtain⟨Z,o,ex,n,zf⟩:=H;have U:∀b,blk v b→¬Z b:=by obtain⟨ds,_,d,_⟩:=o;exact d
 have o2:Rp.Ow e (λb=>Z b∨Y b) h1 v l:=o.mono (λb _ A=>.inl A) λb A F=>by
  rcases F with F|F
  ·exact U b A F
  ·exact(hY b F).2.2 A
 refine Rp.push_ow1 hw o2 (e.mono hx λb _ A=>.inr A) F A hn (λb A=>?_) λG h' o' L n'=>HK G h' ⟨λb=>Z b∨Y b,o',ex.then_fr L n,λb A=>?_,λb A=>?_⟩
 ·rcases A with A|A
  ·exact(zf b A).2
  ·exact(hY b A).2.1
 ·rcases n' b A with I|I
  ·exact n b I
  ·exact bB ex.1 I
 ·have hl:=L.1;rcases A with A|A
  ·have:=zf b A;omega
  ·have:=hY b A;omega
end Go.Crisp
namespace Go.Proofs.YtjljhnandbbldaaGreatDoor
open Go Go.Crisp
attribute [local irreducible] ag du bh stK aE vK qK bO gK fR bA mkK dy GQ IQ DT bsK clK pG pH Q9
theorem Vf (C:C21)(k:Nat):Gy C (k+1)=Gy C k++[TN C.E (some (JD C.d k))]:=by simp[Gy,mA]
theorem MJ (C:C21):∀a b i:Nat,jx C (a+b) i=jx C a i+jx C b (i+a)
 |0,b,i=>by rw[aO,gN];show _=0+_;omega
 |a+1,b,i=>by
  have h:=MJ C a b (i+1);rw[show a+1+b=(a+b)+1 by omega];show rl C i+jx C (a+b) (i+1)=rl C i+jx C a (i+1)+_;rw[h,show i+1+a=i+(a+1)by omega];omega
section
theorem IsW.job_e {Z B:Nat→Prop}{h:ah}{bw:Nat}{E:WE}{n:Pic}{w:WD}(H:IsW Z B h bw (some E) n w):∀t y e,w.job=some (t,y,e)→e≤lnE E.s.y y:=by
 obtain⟨⟨tv,I,L,r,o,J,_⟩,_,_,_,_,_,st⟩:=H;intro t y e F;rw[F]at J st;obtain⟨U,G,ok,hc,bj,rv,_,S⟩:=J;cases G;obtain⟨⟨M,rs,_,_,k⟩,_⟩:=S;rcases st with⟨_,A,_⟩|⟨_,h⟩
 ·have A:bR (E.d t) y e≠0:=A;unfold bR at A;split at A
  ·exact absurd rfl A
  ·exact(k ae).2.2
 ·cases h
section
variable {a:Bool}{C:C21}{Z X Zd:Nat→Prop}{N:Nat}{h0 h:ah}{mv:Value}{bQ bW bV:Nat}{TW TV:TypeId}{n:Pic}{ba bb:Nat}{wa wb:WD}{q:QD}
end
end
theorem Uy {E:Option WE}{jo:Option (cP×Int×Int)}{w:WD}{d:QD}:(cg E jo w d).1.tiles.length≤w.tiles.length+1:=by
 obtain⟨st,tl,j,A⟩:=w;unfold cg;split
 ·split
  ·exact L7 _
  ·exact L7 _
 ·split
  ·exact L7 _
  ·split
   ·simp[xn]
   ·split<;>exact L7 _
theorem X3 {t m:Int}(h:B8 t)(F:0<m∧m≤100){K:Value→Prop}(H:K (af (1+t%m))):vK (ak .i .rem (.int .u8 t) (.int .u8 m)) λa=>vK (gP .i64 a) λb=>vK (ak .i .add aG b) λc=>K c:=by
 have A:0≤t%m∧t%m<m:=⟨kA _ ae,iJ _ ae⟩
 rw[em _ _ _ _ ae,aj,kz h.1];simp only[go_sem];rw[w64 (n:=t%m) ae ae,w64 (n:=1+t%m) ae ae];exact H
end Go.Proofs.YtjljhnandbbldaaGreatDoor
namespace Go.Proofs.YtjljhnandbbldaaGreatDoor
open Go Go.Crisp
theorem Ww {h:ah}{v:Value}{l:List Int}(H:SlC 1 h v l.length (l.map (Value.int .u8))):Rp.Sl (Rp.int .u8) (λ_=>True) h v l:=
 ⟨_,H,λ_ _ _=>trivial,λi hi=>by
  show Rp.el 1 _ i=[.int .u8 l[i]];rw[Rp.el_one (by simpa using hi),dX]⟩
theorem zaV {h:ah}{ts:List TS}{l:List Value}(R:xi (.sl (.int .u8) 1::ts) h l):∃v,∃k:List Int,∃r,l=v::r∧Rp.Sl (Rp.int .u8) (λ_=>True) h v k∧(∀x∈k,B8 x)∧k.length≤1000000000000000∧xi ts h r:=by
 obtain⟨v,r,F,⟨x,G⟩,h0⟩:=R;obtain⟨u,hu,h1,H,A⟩:=zex (l:=x) (show Rd (.sl (.int .u8) 1) h [v] x from G);obtain rfl:v=u:=by simpa using hu
 have A:List.length (α:=Int) x*1≤140737488351232:=A;exact⟨v,x,r,F,Ww h1,H,ae,h0⟩
end Go.Proofs.YtjljhnandbbldaaGreatDoor
namespace Go.Proofs.YtjljhnandbbldaaGreatDoor
open Go Go.Crisp
attribute [local irreducible] ag du bh stK aE vK qK bO gK fR bA mkK dy GQ
open _root_.Go.Proofs.Tryz
def QB (a:Int):Nat:=(min (max 1 a) 512).toNat
def iV (n:Nat)(j:Nat):List Int:=(List.range n).map λm=>if m=j then 1 else 0
theorem Oj (n:Nat)(f g:Nat→Value)(h:∀k,k<n→f k=g k):(List.range n).map f=(List.range n).map g:=
 Mu λk A=>h k (mE.1 A)
theorem c_New {h:ah}(a:Int):ag prog oO #[af a] h λr h'=>∃M,fZ M h' r (QB a) (iV (QB a))∧Ext h h'∧∀b,M b→h.size≤b:=by
 apply SR;unfold Il;have bk:min (max 1 a) 512=((QB a:Nat):Int):=by unfold QB;omega
 have a9:1≤QB a∧QB a≤512:=by unfold QB;omega
 simp only[go_sem,bk];generalize QB a=n at a9;refine pF rfl ae ae λs h1 o1 e1 n1=>?_
 have bg:=o1.sl;obtain⟨_,I,W,rfl,_⟩:=bg;rw[JW _ #[.slice I n W] (by kernel_rfl)];refine aJ (c:=#[.slice I n W]) λbc h2 ax e2 n2=>?_
 obtain⟨t0,r2⟩:∃t,h2[bc]? =some (.cells #[.slice I n W] t (0,0)):=⟨_,ax⟩
 clear ax
 simp only[go_sem,am r2];have bd:¬blk (.slice I n W) bc:=λA=>by have:=o1.lt A;omega
 refine Al n (λk h'=>k≤n∧Ext h h'∧∃sv:Nat→Value,h'[bc]? =some (.cells #[.slice I n W] t0 (0,0))∧Own 1 h' (.slice I n W) n ((List.range n).map λj=>if j<k then sv j else .slice none 0 0)∧
   (∀j,j<k→jE h' (sv j) (iV n j))∧(∀j,j<k→∀b,blk (sv j) b→h.size≤b∧b≠bc∧¬blk (.slice I n W) b)∧∀i j,i<k→j<k→i≠j→∀b,blk (sv i) b→¬blk (sv j) b)
  ⟨b9 _,e1.trans e2,λ_=>.nilFunc,r2,?_,λj G=>ae,λj G=>ae,λi j hi=>ae⟩ ?_
 ·have:=o1.fr (M:=λ_=>False) e2.fr λ_ _=>id
  rw[show List.replicate n (Value.slice none 0 0)=(List.range n).map λj=>if j<0 then Value.nilFunc else .slice none 0 0 by
   apply rE<;>simp]at this
  exact this
 rintro k h3 again ρj ⟨b3,e3,sv,r3,o3,H,U,a8⟩ b2;simp only[go_sem];refine ao (λhk=>?_) (λhk=>?_)
 ·have hk:k<n:=ae;refine KE ?_;refine aD (.slice I n W) (λh' e=>by rw[am (e.row r3)];rfl) ?_;refine pF rfl ae ae λs4 h4 o4 e4 n4=>?_
  refine⟨e4,?_⟩;obtain⟨p,hp,hq,bv⟩:=(o3.fr (M:=λ_=>False) e4.fr λ_ _=>id).at1 (k:=.i64) hk;simp only[go_sem,hp];have a7:jE h4 s4 (List.replicate n 0):=by
   unfold jE;rw[pM,Tj];exact o4
  refine bv _ _ (DU a7) λh5 o5 f5 _=>?_
  rw[MT]at o5;have al:∀b,blk s4 b→¬blk (.slice I n W) b:=λb A F=>by have:=n4 b A;have:=o3.lt F;omega
  have o6:jE h5 s4 (List.replicate n 0):=a7.fr f5 λb A=>al b A
  have r5:h5[bc]? =some (.cells #[.slice I n W] t0 (0,0)):=f5.row (e4.row r3) bd;obtain⟨p6,ay,an⟩:=o5.sl.at1 (k:=.i64) hk;rw[hp]at ay;cases ay;rw[dX,ur,aA rfl]at an;obtain⟨p7,b1,b4,au⟩:=Own.at1 o6 (k:=.i64) (i:=k) (by simpa using hk);simp only[go_sem,am r5,hp,an,b1];refine au _ _ rfl λh8 o8 f8 _=>?_
  rw[w64 ae ae];have f58:Fr (blk s4) h5 h8:=f8;have L:∀b,blk s4 b→h3.size≤b:=n4;have b0:Ext h h8:=((e3.trans e4).then_fr f5 n1).then_fr f58 λb A=>bB e3.1 (L b A)
  have ar:∀b,blk s4 b→h.size≤b∧b≠bc∧¬blk (.slice I n W) b:=λb A=>
   ⟨bB e3.1 (L b A),λb5=>by
    have h1:=L b A;have h2:=(mD.1 r3).1;omega,al b A⟩
  have aa:∀j,j<k→∀b,blk (sv j) b→¬blk s4 b:=λj G b A F=>by
   have h1:=L b F;have h2:=(H j G).lt A;omega
  refine b2 h8 hk ⟨hk,b0,λj=>if j=k then s4 else sv j,?_,?_,?_,?_,?_⟩
  ·exact f58.row r5 λA=>(ar _ A).2.1 rfl
  ·have:=o5.fr f58 λb A F=>al b F A
   rw[Oj n _ (λj=>if j<k+1 then(if j=k then s4 else sv j)else .slice none 0 0) ?_]at this
   ·exact this
   ·intro j G;by_cases h1:j=k
    ·subst h1;simp
    ·by_cases h2:j<k
     ·simp[h1,h2,zdg h2]
     ·simp[h1,h2,show¬j<k+1 by omega]
  ·intro j G;by_cases h1:j=k
   ·subst h1;simp only[cN];have o9:Own 1 h8 s4 (iV n j).length ((iV n j).map vi):=by
     refine(congr (congrArg (Own 1 h8 s4) ?_) ?_).mp o8
     ·simp[iV]
     ·apply rE
      ·simp[iV]
      ·intro m h1 h2;rw[D4];simp only[iV,dX,YN,ur,vi, @eq_comm _ m j];split<;>rfl
    exact o9
   ·simp only[h1,cH];have ad:j<k:=ae;have h9:=((H j ad).fr (M:=λ_=>False) e4.fr λ_ _=>id)
    have bo:jE h5 (sv j) (iV n j):=h9.fr f5 λb A=>(U j ad b A).2.2
    exact bo.fr f58 λb A=>aa j ad b A
  ·intro j G b A;by_cases h1:j=k
   ·simp only[h1,cN]at A;exact ar b A
   ·simp only[h1,cH]at A;exact U j ae b A
  ·intro i j hi G ab b A F;by_cases h1:i=k
   ·simp only[h1,cN]at A;have h2:j≠k:=λh=>ab (h1.trans h.symm)
    simp only[h2,cH]at F;exact aa j ae b F A
   ·simp only[h1,cH]at A;by_cases h2:j=k
    ·simp only[h2,cN]at F;exact aa i ae b A F
    ·simp only[h2,cH]at F;exact a8 i j ae ae ab b A F
 ·obtain rfl:k=n:=ae;have be:Own 1 h3 (.slice I k W) k ((List.range k).map sv):=by
   rw[Oj k _ sv (λj G=>by simp[G])]at o3;exact o3
  refine⟨λb=>b=bc∨blk (.slice I k W) b∨∃j,j<k∧blk (sv j) b,⟨bc,.slice I k W,sv,t0,rfl,?_⟩,e3,?_⟩
  ·exact{
    var:=r3,arr:=be,row:=H,len:=λi hi=>by simp[iV],pos:=a9
    inM:=⟨.inl rfl,λb A=>.inr (.inl A),λi hi b A=>.inr (.inr ⟨i,hi,A⟩)⟩
    ap1:=bd,ap2:=λi hi b A=>(U i hi b A).2,ap3:=λi j hi G ab b=>a8 i j hi G ab b
    lt:=λb A=>by
     rcases A with rfl|A|⟨j,G,A⟩
     ·exact(mD.1 r3).1
     ·exact o3.lt A
     ·exact(H j G).lt A}
  ·intro b A;rcases A with rfl|A|⟨j,G,A⟩
   ·exact bB e1.1 n2
   ·exact n1 b A
   ·exact(U j G b A).1
theorem XA {h:ah}{a b:Value}{F lb:List Int}(ha:kh h a F)(hb:kh h b lb)(hn:F.length≤9223372036854775807):
  ag prog yI #[a,b] h λv h'=>v=.bool (decide (F=lb))∧h'=h:=by
 apply No;unfold BQ;obtain⟨A,ca,rfl,U⟩:=ha;obtain⟨B,cb,rfl,W⟩:=hb;simp only[Ej,aj,pW];refine iK (λad=>?_) (λhe=>?_)
 ·refine⟨?_,trivial⟩;have:¬F=lb:=λe=>by subst e;simp at ad
  simp[this]
 ·have hl:F.length=lb.length:=by simp at he;omega
  refine c5 (λd xs h'=>h'=h∧∃k:Nat,k+d=F.length∧xs=[af k]∧∀i (hi:i<k) (h1:i<F.length),F[i]=lb[i]'(hl▸h1)) F.length ⟨rfl,0,ae,rfl,λi hi=>ae⟩ ?_;rintro d _ ρj _ again ⟨rfl,k,hk,rfl,H⟩ al;simp only[iz,cC,aj];refine ao (λan=>?_) (λar=>?_)
  ·have G:k<F.length:=ae;have I:k<lb.length:=ae;rcases U with rfl|⟨b1,o1,rfl,U⟩
   ·simp at G
   rcases W with rfl|⟨b2,o2,rfl,W⟩
   ·simp at I
   simp only[mS G,mS I,aj,mf,lN,U k G,W k I,vi,pW];refine iK (λaa=>?_) (λab=>?_)
   ·refine⟨?_,trivial⟩
    congr 1
    rw[D0,D7];intro L;have:=(My hl).1 L k G;simp[this]at aa
   ·simp only[dC,aj];rw[w64 ae ae];refine al _ _ (d-1) ae ⟨rfl,k+1,ae,rfl,λi hi h1=>?_⟩;rcases Tf.1 hi with hi|rfl
    ·exact H i hi h1
    ·simpa using ab
  ·refine⟨?_,trivial⟩
   congr 1
   rw[D0,dd,My hl];intro i hi;exact H i ae hi
end Go.Proofs.YtjljhnandbbldaaGreatDoor
namespace Go.Proofs.YtjljhnandbbldaaGreatDoor
open Go Go.Crisp
open _root_.Go.Proofs.Tryz
structure Acc where
 who:Int
 when_:List Int
 buf:Int
 lo:Int
 hi:Int
 wr:Bool
def yi (h:ah)(v:Value)(a:Acc):Prop:=∃s,v=.agg #[.int .i64 a.who,s,.int .i64 a.buf,.int .i64 a.lo,.int .i64 a.hi,.bool a.wr]∧kh h s a.when_
theorem yi.ext {h h':ah}{v:Value}{a:Acc}(H:yi h v a)(e:Ext h h'):yi h' v a:=by
 obtain⟨s,rfl,A⟩:=H;exact⟨s,rfl,A.ext e⟩
def GB (a b:Acc):Bool:=decide (a.buf=b.buf)&&decide (max a.lo b.lo<min a.hi b.hi)
def jK (a b:Acc):Bool:= !decide (a.who=b.who)&&(a.wr||b.wr)&&GB a b&& !uu a.when_ b.when_&& !uu b.when_ a.when_
theorem zdP {h:ah}{v u:Value}{a b:Acc}(G:yi h v a)(L:yi h u b):
  ag prog xe #[v,u] h λr h'=>r=.bool (GB a b)∧Ext h h':=by
 apply LO;unfold Bk;obtain⟨s,rfl,hs⟩:=G;obtain⟨U,rfl,I⟩:=L;simp only[bT];refine aJ λb1 h1 r1 H _=>aJ λW h2 r2 F _=>?_
 have r1:=F.row r1;have e:=H.trans F;simp only[go_sem,am r1,am r2];by_cases A:a.buf=b.buf
 ·simp only[go_sem,A,am r1,am r2];exact⟨by simp[GB,A],e⟩
 ·simp only[go_sem,A];exact⟨by simp[GB,A],e⟩
theorem XN {h:ah}{v u:Value}{a b:Acc}(ha:yi h v a)(hb:yi h u b)(hn:a.when_.length≤9223372036854775807)(hm:b.when_.length≤9223372036854775807):
  ag prog ng #[v,u] h λr h'=>r=.bool (jK a b)∧Ext h h':=by
 apply ND;unfold Cb;have U:=ha;have W:=hb;obtain⟨s,rfl,hs⟩:=ha;obtain⟨s',rfl,G⟩:=hb;simp only[bT];refine aJ λb1 h1 r1 e1 _=>aJ λb2 h2 r2 e2 _=>?_
 have r1:=e2.row r1;have e:=e1.trans e2;have l1:=aW r1 6 rfl;have l2:=aW r2 6 rfl;simp only[go_sem,am r1,am r2];by_cases L:a.who=b.who
 ·simp only[go_sem,L];exact⟨by simp[jK,L],e⟩
 cases F:a.wr<;>cases A:b.wr<;>simp only[go_sem,L,am r1,am r2,l1,l2,F,A]
 ·exact⟨by simp[jK,F,A],e⟩
 all_goals
  refine(zdP (a:=a) (b:=b) ?_ ?_).mono ?_
  ·rw[←F];exact U.ext e
  ·rw[←A];exact W.ext e
  rintro _ h3 ⟨rfl,e3⟩;have r1:=e3.row r1;have r2:=e3.row r2;have e:=e.trans e3;cases H:GB a b with
  |false=>simp only[go_sem];exact⟨by simp[jK,H],e⟩
  | true=>
   simp only[go_sem,am r1,am r2];refine(Zf (hs.ext e) (G.ext e) hn).mono ?_;rintro _ _ ⟨rfl,rfl⟩;cases I:uu a.when_ b.when_ with
   |true=>simp only[go_sem];exact⟨by simp[jK,I],e⟩
   |false=>
    simp only[go_sem,am r1,am r2];refine(Zf (G.ext e) (hs.ext e) hm).mono ?_;rintro _ _ ⟨rfl,rfl⟩;simp only[go_sem];exact⟨by simp[jK,L,H,I,F,A],e⟩
end Go.Proofs.YtjljhnandbbldaaGreatDoor
namespace Go.Proofs.YtjljhnandbbldaaGreatDoor
open Go Go.Crisp
attribute [local irreducible] ag du bh stK aE vK qK bO gK fR bA
open _root_.Go.Proofs.Tryz
theorem OF {h:ah}{b:Nat}{l:List Int}{t:TypeId}{f:Nat×Nat}{cap:Nat}(r:h[b]? =some (.cells (l.map vi).toArray t f)):kh h (.slice (some ⟨b,0,none⟩) l.length cap) l:=
 ⟨_,cap,rfl,.inr ⟨b,0,rfl,λi hi=>by rw[aO,am r];simp[hi]⟩⟩
theorem zd1 {h:ah}:ag prog yP #[] h λr h'=>r=.bool true∧Ext h h':=by
 apply NI;unfold Cg;refine di (c':=#[aG,ai]) (by kernel_rfl) λI h1 r1 e1 _=>?_
 rw[JW _ #[ai,.slice (some ⟨I,0,none⟩) 2 2,ai,af 3,af 4,.bool true] (by kernel_rfl)];refine aJ λb2 h2 r2 e2 n2=>?_
 refine da (l:=[ai,.slice (some ⟨I,0,none⟩) 2 2,ai,af 3,af 4,.bool true]) r2 rfl (by simp[aV]) rfl λh3 r3 u3=>?_
 have e3:Ext h1 h3:=e2.upd n2 u3;refine di (c':=#[ai,aG]) (by kernel_rfl) λH h4 r4 e4 _=>?_
 rw[JW _ #[aG,.slice (some ⟨H,0,none⟩) 2 2,ai,af 2,af 9,.bool true] (by kernel_rfl)];refine aJ λb5 h5 r5 e5 n5=>?_
 refine da (l:=[aG,.slice (some ⟨H,0,none⟩) 2 2,ai,af 2,af 9,.bool true]) r5 rfl (by simp[aV]) rfl λF r6 u6=>?_
 have U:Ext h4 F:=e5.upd n5 u6;have A:Ext h3 F:=e4.trans U;have L:=aW (A.row r3) 6 rfl;have l6:=aW r6 6 rfl;have i1:kh F (.slice (some ⟨I,0,none⟩) 2 2) [1,0]:=OF (l:=[1,0]) ((e3.trans A).row r1);have i4:kh F (.slice (some ⟨H,0,none⟩) 2 2) [0,1]:=OF (l:=[0,1]) (U.row r4);have W:yi F (.agg #[ai,.slice (some ⟨I,0,none⟩) 2 2,ai,af 3,af 4,.bool true]) ⟨0,[1,0],0,3,4,true⟩:=⟨_,rfl,i1⟩
 have A4:yi F (.agg #[aG,.slice (some ⟨H,0,none⟩) 2 2,ai,af 2,af 9,.bool true]) ⟨1,[0,1],0,2,9,true⟩:=⟨_,rfl,i4⟩
 have e:Ext h F:=e1.trans (e3.trans A);simp only[go_sem,L,l6];refine(XN W A4 (by simp) (by simp)).mono ?_;rintro _ h7 ⟨rfl,G⟩;rw[show jK ⟨0,[1,0],0,3,4,true⟩ ⟨1,[0,1],0,2,9,true⟩=true from by decide];simp only[go_sem,G.lds L,G.lds l6];refine(XN (A4.ext G) (W.ext G) (by simp) (by simp)).mono ?_;rintro _ h8 ⟨rfl,e8⟩;rw[show jK ⟨1,[0,1],0,2,9,true⟩ ⟨0,[1,0],0,3,4,true⟩=true from by decide];simp only[go_sem];exact⟨trivial,e.trans (G.trans e8)⟩
end Go.Proofs.YtjljhnandbbldaaGreatDoor
namespace Go.Proofs.YtjljhnandbbldaaGreatDoor
open Go Go.Crisp
attribute [local irreducible] ag du bh stK aE vK qK bO gK fR bA mkK dy GQ
open _root_.Go.Proofs.Tryz
abbrev rIa:Rp Int:=Rp.int .i64
theorem Hl {Z:Nat→Prop}{h:ah}{v:Value}{l:List Int}(H:Rp.Sl rIa Z h v l):kh h v l:=by
 obtain⟨ds,F,_,G⟩:=H;have I:ds.length=l.length:=by have:=F.1;simpa[Rp.int]using this
 have:ds=l.map vi:=by
  apply rE (by simp[I]);intro i h1 U;have L:=G i ae;have A:Rp.el 1 ds i=[af l[i]]:=L;rw[Rp.el_one h1]at A;rw[dX];simpa[vi]using A
 subst this;exact YR F
theorem wU {Z:Nat→Prop}{h:ah}{v:Value}{l:List Int}(H:kh h v l)(A:l≠[]→∀b,blk v b→Z b):Rp.Sl rIa Z h v l:=by
 refine⟨l.map vi,H.sl,λh0=>A (by simpa using h0),λi hi=>?_⟩;show Rp.el 1 (l.map vi) i=[af l[i]];rw[Rp.el_one (by simpa using hi)];simp[vi]
def lL:Rp Acc where
 w:=6
 R:=λZ h cs a=>∃s,cs=[.int .i64 a.who,s,.int .i64 a.buf,.int .i64 a.lo,.int .i64 a.hi,.bool a.wr]∧Rp.Sl rIa Z h s a.when_
 len:=by rintro _ _ _ _ ⟨s,rfl,_⟩;rfl
 one:=by
  rintro _ _ _ _ ⟨s,rfl,H⟩ v hv;have:=H.one;simp only[List.mem_cons,List.not_mem_nil,or_false]at hv;rcases hv with rfl|rfl|rfl|rfl|rfl|rfl<;>first|rfl|exact this
 fr:=by rintro _ _ _ _ _ _ ⟨s,rfl,H⟩ f q;exact⟨s,rfl,H.fr f q⟩
 mono:=by rintro _ _ _ _ _ ⟨s,rfl,H⟩ q;exact⟨s,rfl,H.mono q⟩
theorem lL.isAcc {Z:Nat→Prop}{h:ah}{cs:List Value}{a:Acc}(H:lL.R Z h cs a):yi h (.agg cs.toArray) a:=by
 obtain⟨s,rfl,A⟩:=H;exact⟨s,rfl,Hl A⟩
def W8 (a:Acc):Bool:=decide (0≤a.who)&&(decide (0≤a.buf)&&(decide (0≤a.lo)&&decide (a.lo<a.hi)))
theorem c_may {h:ah}{v:Value}{a:Acc}(I:yi h v a):ag prog AU #[v] h λr h'=>r=.bool (W8 a)∧Ext h h':=by
 obtain⟨s,rfl,_⟩:=I;apply Qr;unfold Fv;simp only[bT];refine aJ λb h1 r1 H L=>?_
 by_cases A:0≤a.who
 ·by_cases F:0≤a.buf
  ·by_cases G:0≤a.lo
   ·simp only[go_sem,am r1,A,F,G];exact⟨by simp[W8,A,F,G],H⟩
   ·simp only[go_sem,am r1,A,F,G];exact⟨by simp[W8,A,F,G],H⟩
  ·simp only[go_sem,am r1,A,F];exact⟨by simp[W8,A,F],H⟩
 ·simp only[go_sem,am r1,A];exact⟨by simp[W8,A],H⟩
theorem zdU {h:ah}{v:Value}{a:Acc}(ha:yi h v a)(hl:a.when_.length≤4398046511104):
  ag prog xf #[v] h λr h'=>∃ds,r=.agg (List.toArray ds)∧lL.R (λb=>h.size≤b∧b<h'.size) h' ds a∧Ext h h':=by
 obtain⟨s,rfl,hs⟩:=ha;apply LP;unfold Bm;simp only[bT];refine aJ λb1 h1 r1 I n1=>aJ λb3 h3 r3 L n3=>?_
 have F:=L.row r1;simp only[go_sem,am F];refine(Zc ((hs.ext I).ext L) hl).mono ?_;rintro G h4 ⟨o4,U,n4⟩;have W:=DU o4;refine ck (o:=1) (U.row F) (by simp) W λh5 r5 u5=>?_
 have r5:h5[b1]? =some (.cells (List.toArray [af a.who,G,af a.buf,af a.lo,af a.hi,.bool a.wr]) _ (0,0)):=r5;rw[aW r5 6 rfl,aj];have ab:b3≠b1:=by have:=bD r1;omega
 refine da (l:=[af a.who,G,af a.buf,af a.lo,af a.hi,.bool a.wr]) (u5.row ab (U.row r3)) rfl (by repeat' (first|rfl|assumption|exact bi|refine az ?_ ?_)) rfl λh6 r6 u6=>?_
 rw[aW r6 6 rfl,aj];have aa:Ext h h6:=(((I.trans L).trans U).upd n1 u5).upd (bB I.1 n3) u6;refine⟨_,rfl,⟨G,rfl,?_⟩,aa⟩;have H:∀b,blk G b→b≠b1∧b≠b3:=λb A=>by
  have h1:=n4 b A;have h2:=bD F;have h3:=bD r3;exact⟨ae,ae⟩
 have o6:jE h6 G a.when_:=(o4.fr u5.fr λb A=>(H b A).1).fr u6.fr λb A=>(H b A).2
 exact wU o6.ints λ_ b A=>⟨bB (I.trans L).1 (n4 b A),o6.lt A⟩
end Go.Proofs.YtjljhnandbbldaaGreatDoor
namespace Go.Proofs.YtjljhnandbbldaaGreatDoor
open Go Go.Crisp
attribute [local irreducible] ag du bh stK aE vK qK bO gK fR bA mkK dy GQ
def Yd:Rp (Int×Int) where
 w:=2
 R:=λ_ _ cs p=>cs=[.int .i64 p.1,.int .i64 p.2]
 len:=by rintro _ _ _ _ rfl;rfl
 one:=by
  rintro _ _ _ _ rfl
  repeat' (first|rfl|exact bi|refine az ?_ ?_)
 fr:=λH _ _=>H
 mono:=λH _=>H
instance:Inhabited Acc:=⟨⟨0,[],0,0,0,false⟩⟩
def pf (l:List Acc)(i k:Nat):List (Int×Int):=((List.range k).filter λ(m:Nat)=>decide (i<m)&&jK l[i]! l[m]!).map λ(m:Nat)=>((i:Int),(m:Int))
def wH (l:List Acc)(i:Nat):List (Int×Int):=(List.range i).flatMap λj=>pf l j l.length
theorem PP (l:List Acc)(i:Nat):pf l i (i+1)=[]:=by
 unfold pf;rw[Yq,Yp];intro m A;have:=mE.1 A;simp;omega
theorem Sb (l:List Acc){i k:Nat}(h:i<k):pf l i (k+1)=pf l i k++if jK l[i]! l[k]! =true then[((i:Int),(k:Int))]else[]:=by
 unfold pf;rw[mA,List.filter_append,jA]
 congr 1
 have F:(decide (i<k)&&jK l[i]! l[k]!)=jK l[i]! l[k]! :=by rw[cL h,xZ]
 by_cases A:jK l[i]! l[k]! =true
 ·rw[aA A,S5,F,aA A];rfl
 ·rw[aq A,S5,F,aq A];rfl
theorem La (l:List Acc)(i:Nat):wH l (i+1)=wH l i++pf l i l.length:=by
 unfold wH;rw[mA,Yo];simp
theorem bang {α:Type}[Inhabited α](l:List α){i:Nat}(h:i<l.length):l[i]! =l[i]:=IV l i h
theorem CI (l:List Acc)(i k:Nat):(pf l i k).length≤k:=by
 unfold pf;rw[cS];exact bB (Yn _ _) (by simp)
theorem Nd (l:List Acc)(i:Nat):(wH l i).length≤i*l.length:=by
 induction i with
 |zero=>simp[wH]
 |succ i A=>
  rw[La,co,Au];have:=CI l i l.length;omega
end Go.Proofs.YtjljhnandbbldaaGreatDoor
namespace Go.Proofs.YtjljhnandbbldaaGreatDoor
open Go Go.Crisp
attribute [local irreducible] ag du bh stK aE vK qK bO gK fR bA mkK dy GQ pG pH Q9
open _root_.Go.Proofs.Tryz
section
section
variable {Z:Nat→Prop}{h:ah}{bx o:Nat}{cs:Array Value}{t:TypeId}{sl:Value}{l:List Acc}
structure By (Z:Nat→Prop)(h:ah)(bx o:Nat)(cs:Array Value)(t:TypeId)(sl:Value)(l:List Acc):Prop where
 var:h[bx]? =some (.cells cs t (0,0))
 pl:cs[o]? =some sl
 own:Rp.Ow lL Z h sl l
 ap:¬blk sl bx∧¬Z bx
 zlt:∀b,Z b→b<h.size
theorem By.ext {h':ah}(H:By Z h bx o cs t sl l)(e:Ext h h'):By Z h' bx o cs t sl l:=⟨e.row H.var,H.pl,H.own.ext e,H.ap,λb A=>ce (H.zlt b A) e.1⟩
theorem By.cell (H:By Z h bx o cs t sl l):aH h ⟨bx,o,none⟩=some sl:=by rw[am H.var,H.pl]
theorem zfp {u:Value}{a:Acc}(L:By Z h bx o cs t sl l)(hu:yi h u a)(ha:a.when_.length≤4398046511104)(hl:l.length≤1000000)(hm:W8 a=true):
  ag prog mK #[.pointer (some ⟨bx,o,none⟩),u] h λr h'=>∃s' Z',By Z' h' bx o (cs.setIfInBounds o s') t s' (l++[a])∧Fr (λb=>b=bx∨blk sl b) h h'∧(∀b,blk s' b→blk sl b∨h.size≤b)∧∀b,Z' b→Z b∨h.size≤b:=by
 have au:=bD L.var;have ho:o<cs.size:=(mD.1 L.pl).1;obtain⟨s,rfl,hs⟩:=hu;apply CY;unfold te;simp only[bT];refine aJ λb1 h1 r1 e1 n1=>?_
 rw[aW (l:=[af a.who,s,af a.buf,af a.lo,af a.hi,.bool a.wr]) r1 6 rfl,aj];have A1:yi h1 (.agg #[af a.who,s,af a.buf,af a.lo,af a.hi,.bool a.wr]) a:=⟨s,rfl,hs.ext e1⟩
 refine(c_may A1).mono ?_;rintro _ h2 ⟨rfl,e2⟩;have I:=e1.trans e2;simp only[hm,go_sem,gN];have G:=e2.row r1;have v2:=I.row L.var;refine aS (λhh=>hh[bx]? =some (.cells cs t (0,0))∧aR 6 hh (.pointer (some ⟨b1,0,none⟩))=some (.agg #[af a.who,s,af a.buf,af a.lo,af a.hi,.bool a.wr]))
  ⟨v2,aW (l:=[af a.who,s,af a.buf,af a.lo,af a.hi,.bool a.wr]) G 6 rfl⟩ ?_
 refine aD sl (λhh S=>by rw[am S.1,L.pl]) ?_;refine aD _ (λhh S=>S.2) ?_;refine(zdU (A1.ext e2) ha).mono ?_;rintro _ h3 ⟨ds,rfl,ad,e3⟩;have ar:=I.trans e3;refine⟨⟨e3.row v2,aW (l:=[af a.who,s,af a.buf,af a.lo,af a.hi,.bool a.wr]) (e3.row G) 6 rfl⟩,?_⟩;have aa:ds.length=6:=lL.len ad;refine di (Rp.fill_whole rfl aa) λb4 h4 r4 H n4=>?_
 have F:=ar.trans H;refine⟨⟨H.row (e3.row v2),H.lds (aW (l:=[af a.who,s,af a.buf,af a.lo,af a.hi,.bool a.wr]) (e3.row G) 6 rfl)⟩,?_⟩;have S1:=Rp.SlC.single r4;rw[aa]at S1;have dz:∀b,blk sl b→¬Z b:=by obtain⟨_,_,d,_⟩:=L.own;exact d
 have o4:Rp.Ow lL (λb=>Z b∨(h.size≤b∧b<h3.size)) h4 sl l:=(L.own.ext F).mono (λb _ A=>.inl A) λb A hz=>by
  rcases hz with hz|hz
  ·exact dz b A hz
  ·have:=L.own.lt A;omega
 refine Rp.app_ow (e:=lL) (l2:=[a]) o4 S1 (λi hi=>?_) rfl (by simp;omega) (by simp;omega) (λb A=>?_) λs' h5 o5 f5 n5=>?_
 ·have hi:i=0:=by simpa using hi
  subst hi;rw[show Rp.el lL.w ds 0=ds from Rp.el_self aa];exact lL.mono (lL.ext ad H) λb _ A=>.inr ⟨bB I.1 A.1,A.2⟩
 ·rcases A with A|A
  ·exact ce (L.zlt b A) F.1
  ·exact ce A.2 H.1
 have v5:h5[bx]? =some (.cells cs t (0,0)):=f5.row (F.row L.var) L.ap.1;have an:¬blk sl b1:=λA=>by have:=L.own.lt A;omega
 refine⟨⟨v5,aW (l:=[af a.who,s,af a.buf,af a.lo,af a.hi,.bool a.wr]) (f5.row ((e3.trans H).row G) an) 6 rfl⟩,?_⟩;refine ck v5 ho o5.one λh6 r6 u6=>?_
 have ab:∀b,blk s' b→b≠bx:=λb A U=>by
  rcases n5 b A with W|W
  ·exact L.ap.1 (U▸W)
  ·have:=F.1;omega
 have al:∀b,(Z b∨(h.size≤b∧b<h3.size))→b≠bx:=λb A U=>by
  rcases A with A|A
  ·exact L.ap.2 (U▸A)
  ·omega
 have o6:=o5.fr u6.fr (λb _ A=>al b A) ab;refine⟨s',λb=>Z b∨(h.size≤b∧b<h3.size),⟨r6,by simp[ho],o6,⟨λA=>ab bx A rfl,λA=>al bx A rfl⟩,λb A=>?_⟩,?_,λb A=>?_,λb A=>A.imp id And.left⟩
 ·have W:h4.size≤h6.size:=by rw[u6.1];exact f5.1
  rcases A with A|A
  ·have:=L.zlt b A;have:=F.1;omega
  ·have:=H.1;omega
 ·exact(F.fr.trans (f5.mono λb _ A=>.inr A)).trans (u6.fr.mono λb _ A=>.inl A)
 ·rcases n5 b A with W|W
  ·exact .inl W
  ·exact .inr (bB F.1 W)
end
end
end Go.Proofs.YtjljhnandbbldaaGreatDoor
namespace Go.Proofs.YtjljhnandbbldaaGreatDoor
open Go Go.Crisp
attribute [local irreducible] ag du bh stK aE vK qK bO gK fR bA mkK dy GQ IQ DT bsK clK pG pH Q9
section
def rIs:Rp (List Int) where
 w:=1
 R:=λZ h cs l=>∃v,cs=[v]∧Rp.Sl (Rp.int .i64) Z h v l
 len:=by rintro _ _ _ _ ⟨_,rfl,_⟩;rfl
 one:=by
  rintro _ _ _ _ ⟨_,rfl,H⟩;exact az H.one bi
 fr:=by rintro _ _ _ _ _ _ ⟨v,rfl,H⟩ f q;exact⟨v,rfl,H.fr f q⟩
 mono:=by rintro _ _ _ _ _ ⟨v,rfl,H⟩ q;exact⟨v,rfl,H.mono q⟩
structure PV where
 vc:Value
 sl:Value
 wv:Value
 dv:Value
 sv:Value
 ev:Value
 lv:Value
structure bH where
 q:QD
 rows:Nat→List Int
 acc:List Acc
 ws:Nat→WD
 words:Nat→Int
 sent:Int
 stamps:List (List Int)
 fin:List Int
 left:List (List Int)
 ret:Bool
 picks:Int
def jf (C:C21)(V:PV)(P:bH):Array Value:=#[ptr C.bf,ptr C.bt,ptr C.bl,ptr C.bq,V.vc,V.sl,V.wv,V.dv,.int .i64 P.sent,V.sv,V.ev,V.lv,.bool P.ret,.int .i64 P.picks]
def uW (o:Nat→Nat)(k:Nat)(h:ah)(v:Value)(l:List (List Int)):Prop:=∃Z:Nat→Prop,Rp.Ow rIs Z h v l∧(∀c,Z c→o c=k)∧∀c,blk v c→o c=k
structure aX (X:Nat→Prop)(C:C21)(Z:Nat→Prop)(K:Nat)(h0:ah)(bw:Nat→Nat)(bp:Nat)(o:Nat→Nat)(n:Pic)(V:PV)(P:bH)(h:ah):Prop where
 q:¬X 1→IsQ (λc=>o c=1) h C.bq P.q
 c:¬X 2→fZ (λc=>o c=2) h V.vc (K+1) P.rows
 l:¬X 3→∃Zl:Nat→Prop,Rp.Ow lL Zl h V.sl P.acc∧(∀c,Zl c→o c=3)∧∀c,blk V.sl c→o c=3
 p:¬X 4→h[bp]? =some (.cells (jf C V P) 106 (0,0))
 w:¬X 5→Own 1 h V.dv K ((List.range K).map λi=>.int .i64 (P.words i))∧∀c,blk V.dv c→o c=5
 s:¬X 6→uW o 6 h V.sv P.stamps
 f:¬X 7→uW o 7 h V.lv P.left
 e:¬X 8→Rp.Sl (Rp.int .i64) (λc=>o c=8) h V.ev P.fin
 wk:¬X 9→SlC 1 h V.wv K ((List.range K).map λi=>ptr (bw i))∧∀c,blk V.wv c→o c=9
 ws:∀i,i<K→¬X (10+i)→IsW Z (λc=>o c=10+i) h (bw i) (some C.E) n (P.ws i)
 po:o bp=4
 set:Bx Z h C.bf C.vf C.bt C.vt C.p C.q C.m n C.d.s
 pl:uz Z h C.bl C.d C.pp C.pq
 zl:Z C.bl∧C.pp=C.p∧C.pq=C.q
 sui:C.suits n
 ow:∀c,o c≠0→c<h.size∧h0.size≤c∧¬Z c∧Bz (some C.E) c∧¬eo (some C.E) c
 ext:Ext h0 h
 few:1≤K∧K≤256
section
variable {X:Nat→Prop}{C:C21}{Z:Nat→Prop}{K:Nat}{h0 h h':ah}{bw:Nat→Nat}{bp:Nat}{o:Nat→Nat}{n:Pic}{V:PV}{P:bH}
theorem uW.fr {k:Nat}{v:Value}{l:List (List Int)}{M:Nat→Prop}(H:uW o k h v l)(f:Fr M h h')(q:∀c,o c=k→¬M c):uW o k h' v l:=by
 obtain⟨Z,F,z1,A⟩:=H;exact⟨Z,F.fr f (λc _ hc=>q c (z1 c hc)) λc hc=>q c (A c hc),z1,A⟩
theorem aX.chgO (H:aX X C Z K h0 bw bp o n V P h){A:Nat→Prop}(ha:¬A 0){n':Pic}(hb:∀c,eo (some C.E) c→h0.size≤c)(f:Fr (λc=>A (o c)∨eo (some C.E) c) h h')(U:jL h' (some C.E) n')(D:eU n n'):aX (λk=>X k∨A k) C Z K h0 bw bp o n' V P h':=by
 have no:∀c,o c≠0→¬eo (some C.E) c:=λc hc=>(H.ow c hc).2.2.2.2
 have g:∀k,k≠0→¬A k→∀c,o c=k→¬(A (o c)∨eo (some C.E) c):=λk h0 hk c hc h=>h.elim (by rw[hc];exact hk) (no c (by rw[hc];exact h0))
 have G:∀{k},¬(X k∨A k)→¬X k∧¬A k:=λh=>⟨λx=>h (.inl x),λx=>h (.inr x)⟩
 have W:∀c,A (o c)→c<h.size∧h0.size≤c∧¬Z c∧Bz (some C.E) c∧¬eo (some C.E) c:=λc hc=>H.ow c λh=>ha (h▸hc)
 have L:∀c,Z c→¬(A (o c)∨eo (some C.E) c):=λc hz hc=>hc.elim (λhc=>(W c hc).2.2.1 hz) (H.set.zz c hz)
 obtain⟨p1,p2,p3⟩:=H.pl;obtain⟨I,wf⟩:=U C.E rfl;obtain⟨s1,s2,s3,s4,s5⟩:=H.sui.2;refine⟨λF=>(H.q (G F).1).fr f (g 1 ae (G F).2),λF=>(H.c (G F).1).fr f λc _=>g 2 ae (G F).2 c,λF=>?_,λF=>f.row (H.p (G F).1) (g 4 ae (G F).2 bp H.po),λF=>⟨(H.w (G F).1).1.fr f λc hc=>g 5 ae (G F).2 c ((H.w (G F).1).2 c hc),(H.w (G F).1).2⟩,λF=>(H.s (G F).1).fr f (g 6 ae (G F).2),λF=>(H.f (G F).1).fr f (g 7 ae (G F).2),λF=>(H.e (G F).1).fr f λc _=>g 8 ae (G F).2 c,
  λF=>⟨(H.wk (G F).1).1.fr f λc _ hc=>g 9 ae (G F).2 c ((H.wk (G F).1).2 c hc),(H.wk (G F).1).2⟩,λi hi F=>(H.ws i hi (G F).1).other f L (g (10+i) ae (G F).2) U D,H.po,H.set.chg f L I,⟨f.row p1 (L _ H.zl.1),p2.fr f λc _=>L c,p3.fr f λc _=>L c⟩,H.zl,⟨wf,s1,by rw[D.w];exact s2,by rw[D.h];exact s3,by rw[D.c];exact s4,by rw[D.m];exact s5⟩,λc hc=>⟨ce (H.ow c hc).1 f.1,(H.ow c hc).2⟩,H.ext.then_fr f λc hc=>hc.elim (λh=>(W c h).2.1) (hb c),H.few⟩
 obtain⟨Zl,o1,z1,z2⟩:=H.l (G F).1;exact⟨Zl,o1.fr f (λc _ hc=>g 3 ae (G F).2 c (z1 c hc)) λc hc=>g 3 ae (G F).2 c (z2 c hc),z1,z2⟩
theorem aX.ex0 (H:aX X C Z K h0 bw bp o n V P h):jL h (some C.E) n:=λF A=>by cases A;exact⟨H.set.out,H.sui.1⟩
theorem aX.chgM (H:aX X C Z K h0 bw bp o n V P h){A M:Nat→Prop}(f:Fr M h h')(L:∀c,M c→(A (o c)∨o c=0)∧h0.size≤c∧¬Z c∧Bz (some C.E) c∧¬eo (some C.E) c):aX (λk=>X k∨A k) C Z K h0 bw bp o n V P h':=by
 have U:jL h' (some C.E) n:=H.ex0.fr f λc hc _=>(L c hc).2.2.2
 have I:∀c,Z c→¬M c:=λc hz hc=>(L c hc).2.2.1 hz
 have g:∀k,k≠0→¬A k→∀c,o c=k→¬M c:=λk k0 hk c hc hm=>(L c hm).1.elim (by rw[hc];exact hk) λh=>k0 (by rw[←hc,h])
 have G:∀{k},¬(X k∨A k)→¬X k∧¬A k:=λh=>⟨λx=>h (.inl x),λx=>h (.inr x)⟩
 obtain⟨p1,p2,p3⟩:=H.pl;refine⟨λF=>(H.q (G F).1).fr f (g 1 ae (G F).2),λF=>(H.c (G F).1).fr f λc _=>g 2 ae (G F).2 c,λF=>?_,λF=>f.row (H.p (G F).1) (g 4 ae (G F).2 bp H.po),λF=>⟨(H.w (G F).1).1.fr f λc hc=>g 5 ae (G F).2 c ((H.w (G F).1).2 c hc),(H.w (G F).1).2⟩,λF=>(H.s (G F).1).fr f (g 6 ae (G F).2),λF=>(H.f (G F).1).fr f (g 7 ae (G F).2),λF=>(H.e (G F).1).fr f λc _=>g 8 ae (G F).2 c,
  λF=>⟨(H.wk (G F).1).1.fr f λc _ hc=>g 9 ae (G F).2 c ((H.wk (G F).1).2 c hc),(H.wk (G F).1).2⟩,λi hi F=>(H.ws i hi (G F).1).other f I (g (10+i) ae (G F).2) U (eU.refl n),H.po,H.set.chg f I (U C.E rfl).1,⟨f.row p1 (I _ H.zl.1),p2.fr f λc _=>I c,p3.fr f λc _=>I c⟩,H.zl,H.sui,λc hc=>⟨ce (H.ow c hc).1 f.1,(H.ow c hc).2⟩,H.ext.then_fr f λc hc=>(L c hc).2.1,H.few⟩
 obtain⟨Zl,o1,z1,W⟩:=H.l (G F).1;exact⟨Zl,o1.fr f (λc _ hc=>g 3 ae (G F).2 c (z1 c hc)) λc hc=>g 3 ae (G F).2 c (W c hc),z1,W⟩
theorem aX.chg (H:aX X C Z K h0 bw bp o n V P h){A:Nat→Prop}(F:¬A 0)(f:Fr (λc=>A (o c)) h h'):aX (λk=>X k∨A k) C Z K h0 bw bp o n V P h':=
 H.chgM f λc hc=>⟨.inl hc,(H.ow c λh=>F (h▸hc)).2⟩
theorem aX.less {Y:Nat→Prop}(H:aX X C Z K h0 bw bp o n V P h)(k:∀i,X i→Y i):aX Y C Z K h0 bw bp o n V P h:=
 ⟨λA=>H.q (A∘k _),λA=>H.c (A∘k _),λA=>H.l (A∘k _),λA=>H.p (A∘k _),λA=>H.w (A∘k _),λA=>H.s (A∘k _),λA=>H.f (A∘k _),λA=>H.e (A∘k _),λA=>H.wk (A∘k _),λi hi A=>H.ws i hi (A∘k _),H.po,H.set,H.pl,H.zl,H.sui,H.ow,H.ext,H.few⟩
theorem aX.loc (H:aX X C Z K h0 bw bp o n V P h){b:Nat}(u:Upd b h h')(F:o b=0∧h0.size≤b∧¬Z b∧Bz (some C.E) b∧¬eo (some C.E) b):aX X C Z K h0 bw bp o n V P h':=
 (H.chgM (A:=λ_=>False) u.fr λc hc=>by rw[show c=b from hc];exact⟨.inr F.1,F.2⟩).less λk G=>G.elim id False.elim
theorem aX.ex (H:aX X C Z K h0 bw bp o n V P h)(e:Ext h h'):aX X C Z K h0 bw bp o n V P h':=by
 obtain⟨W,U,I⟩:=H.pl;have I2:jL h' (some C.E) n:=λE' hE=>by cases hE;exact⟨H.set.out.ext e,H.sui.1⟩
 refine⟨λA=>(H.q A).ext e,λA=>(H.c A).ext e,λA=>?_,λA=>e.row (H.p A),λA=>⟨(H.w A).1.fr (M:=λ_=>False) e.fr λ_ _=>id,(H.w A).2⟩,λA=>(H.s A).fr (M:=λ_=>False) e.fr λ_ _=>id,λA=>(H.f A).fr (M:=λ_=>False) e.fr λ_ _=>id,λA=>(H.e A).ext e,λA=>⟨(H.wk A).1.ext e,(H.wk A).2⟩,λi hi A=>(H.ws i hi A).ext e,H.po,H.set.ext e,⟨e.row W,U.ext e,I.ext e⟩,H.zl,H.sui,λc hc=>⟨ce (H.ow c hc).1 e.1,(H.ow c hc).2⟩,H.ext.trans e,H.few⟩;obtain⟨F,G,z1,L⟩:=H.l A;exact⟨F,G.ext e,z1,L⟩
def grow (o:Nat→Nat)(b lo hi:Nat):Nat→Nat:=λc=>if lo≤c∧c<hi then b else o c
theorem jg {b lo hi c:Nat}(h:c<lo):grow o b lo hi c=o c:=aq ae
theorem aX.relab (H:aX X C Z K h0 bw bp o n V P h){B:Nat→Prop}{o':Nat→Nat}{lo:Nat}(e:∀c,c<lo→o' c=o c)(hl:∀c,lo≤c→o c=0)(hb:∀c,lo≤c→o' c≠0→B (o' c)∧c<h.size)(h1:h0.size≤lo)(h2:∀c,lo≤c→¬Z c∧Bz (some C.E) c∧¬eo (some C.E) c):aX (λk=>X k∨B k) C Z K h0 bw bp o' n V P h:=by
 have F:∀{k},¬(X k∨B k)→¬X k∧¬B k:=λh=>⟨λx=>h (.inl x),λx=>h (.inr x)⟩
 have g:∀k,¬B k→k≠0→∀c,o' c=k↔o c=k:=λk G h0 c=>by
  rcases pK c lo with h|h
  ·rw[e c h]
  ·rw[hl c h];exact⟨λW=>absurd (by rw[←W];exact(hb c h ae).1) G,λW=>absurd W.symm h0⟩
 have I:∀k,¬B k→k≠0→(λc=>o' c=k)=λc=>o c=k:=λk G h0=>funext λc=>propext (g k G h0 c)
 have gr:∀{k v l},¬B k→k≠0→uW o k h v l→uW o' k h v l:=λG h0 ⟨Z1,L,z1,U⟩=>⟨Z1,L,λc hc=>(g _ G h0 c).2 (z1 c hc),λc hc=>(g _ G h0 c).2 (U c hc)⟩
 have lb:bp<lo:=Nat.lt_of_not_le λh=>by have:=hl bp h;have:=H.po;omega
 refine⟨λA=>by rw[I 1 (F A).2 ae];exact H.q (F A).1,λA=>by rw[I 2 (F A).2 ae];exact H.c (F A).1,λA=>?_,λA=>H.p (F A).1,λA=>⟨(H.w (F A).1).1,λc hc=>(g 5 (F A).2 ae c).2 ((H.w (F A).1).2 c hc)⟩,λA=>gr (F A).2 ae (H.s (F A).1),λA=>gr (F A).2 ae (H.f (F A).1),λA=>by rw[I 8 (F A).2 ae];exact H.e (F A).1,λA=>⟨(H.wk (F A).1).1,λc hc=>(g 9 (F A).2 ae c).2 ((H.wk (F A).1).2 c hc)⟩,
  λi hi A=>by rw[I (10+i) (F A).2 ae];exact H.ws i hi (F A).1,by rw[e bp lb];exact H.po,H.set,H.pl,H.zl,H.sui,λc hc=>?_,H.ext,H.few⟩
 ·obtain⟨Zl,L,z1,U⟩:=H.l (F A).1;exact⟨Zl,L,λc hc=>(g 3 (F A).2 ae c).2 (z1 c hc),λc hc=>(g 3 (F A).2 ae c).2 (U c hc)⟩
 ·rcases pK c lo with h|h
  ·rw[e c h]at hc;exact H.ow c hc
  ·exact⟨(hb c h hc).2,ae,h2 c h⟩
theorem aX.own (H:aX X C Z K h0 bw bp o n V P h){b lo:Nat}(F:∀c,lo≤c→o c=0)(h1:h0.size≤lo)(G:∀c,lo≤c→¬Z c∧Bz (some C.E) c∧¬eo (some C.E) c):aX (λk=>X k∨k=b) C Z K h0 bw bp (grow o b lo h.size) n V P h:=
 H.relab (λc hc=>jg hc) F (λc hc h=>by
  unfold grow at h ⊢;split at h
  ·rename_i A;rw[aA A];exact⟨rfl,A.2⟩
  ·exact absurd (F c hc) h) h1 G
theorem aX.fresh (H:aX X C Z K h0 bw bp o n V P h){c:Nat}(hc:h.size≤c):o c=0∧¬Z c∧Bz (some C.E) c∧¬eo (some C.E) c:=by
 have F:jL h (some C.E) n:=λI A=>by cases A;exact⟨H.set.out,H.sui.1⟩
 refine⟨S0 λh=>?_,λG=>?_,F.new hc⟩
 ·have:=(H.ow c h).1;omega
 ·have:=H.set.zl c G;omega
theorem aX.take (H:aX X C Z K h0 bw bp o n V P h){F:PV}{P1:bH}{A:Pic}{G:Nat→Prop}(I:aX G C Z K h0 bw bp o A F P1 h'){b:Nat}:aX (λk=>G k∨k=b) C Z K h0 bw bp (grow o b h.size h'.size) A F P1 h':=
 I.own (λc hc=>(H.fresh hc).1) H.ext.1 λc hc=>(H.fresh hc).2
theorem aX.fq (H:aX (λk=>X k∨k=1) C Z K h0 bw bp o n V P h){q:QD}(hq:IsQ (λc=>o c=1) h C.bq q):aX X C Z K h0 bw bp o n V {P with q:=q} h:=
 have F:∀{k},¬X k→k≠1→¬(X k∨k=1):=λa b h=>h.elim a b
 ⟨λ_=>hq,λA=>H.c (F A ae),λA=>H.l (F A ae),λA=>H.p (F A ae),λA=>H.w (F A ae),λA=>H.s (F A ae),λA=>H.f (F A ae),λA=>H.e (F A ae),λA=>H.wk (F A ae),λi hi A=>H.ws i hi (F A ae),H.po,H.set,H.pl,H.zl,H.sui,H.ow,H.ext,H.few⟩
theorem aX.fc (H:aX (λk=>X k∨k=2) C Z K h0 bw bp o n V P h){r:Nat→List Int}(hc:fZ (λc=>o c=2) h V.vc (K+1) r):aX X C Z K h0 bw bp o n V {P with rows:=r} h:=
 have F:∀{k},¬X k→k≠2→¬(X k∨k=2):=λa b h=>h.elim a b
 ⟨λA=>H.q (F A ae),λ_=>hc,λA=>H.l (F A ae),λA=>H.p (F A ae),λA=>H.w (F A ae),λA=>H.s (F A ae),λA=>H.f (F A ae),λA=>H.e (F A ae),λA=>H.wk (F A ae),λi hi A=>H.ws i hi (F A ae),H.po,H.set,H.pl,H.zl,H.sui,H.ow,H.ext,H.few⟩
theorem aX.fl (H:aX (λk=>X k∨k=3) C Z K h0 bw bp o n V P h)(L:X 4){sl:Value}{acc:List Acc}(I:∃G:Nat→Prop,Rp.Ow lL G h sl acc∧(∀c,G c→o c=3)∧∀c,blk sl c→o c=3):aX X C Z K h0 bw bp o n {V with sl:=sl} {P with acc:=acc} h:=
 have F:∀{k},¬X k→k≠3→¬(X k∨k=3):=λa b h=>h.elim a b
 ⟨λA=>H.q (F A ae),λA=>H.c (F A ae),λA=>I,λA=>absurd L A,λA=>H.w (F A ae),λA=>H.s (F A ae),λA=>H.f (F A ae),λA=>H.e (F A ae),λA=>H.wk (F A ae),λi hi A=>H.ws i hi (F A ae),H.po,H.set,H.pl,H.zl,H.sui,H.ow,H.ext,H.few⟩
theorem aX.fp (H:aX (λk=>X k∨k=4) C Z K h0 bw bp o n V P h){st:Int}{rt:Bool}{pk:Int}(G:h[bp]? =some (.cells (jf C V {P with sent:=st,ret:=rt,picks:=pk}) 106 (0,0))):aX X C Z K h0 bw bp o n V {P with sent:=st,ret:=rt,picks:=pk} h:=
 have F:∀{k},¬X k→k≠4→¬(X k∨k=4):=λa b h=>h.elim a b
 ⟨λA=>H.q (F A ae),λA=>H.c (F A ae),λA=>H.l (F A ae),λ_=>G,λA=>H.w (F A ae),λA=>H.s (F A ae),λA=>H.f (F A ae),λA=>H.e (F A ae),λA=>H.wk (F A ae),λi hi A=>H.ws i hi (F A ae),H.po,H.set,H.pl,H.zl,H.sui,H.ow,H.ext,H.few⟩
theorem aX.fs (H:aX (λk=>X k∨k=6) C Z K h0 bw bp o n V P h)(G:X 4){sv:Value}{l:List (List Int)}(I:uW o 6 h sv l):aX X C Z K h0 bw bp o n {V with sv:=sv} {P with stamps:=l} h:=
 have F:∀{k},¬X k→k≠6→¬(X k∨k=6):=λa b h=>h.elim a b
 ⟨λA=>H.q (F A ae),λA=>H.c (F A ae),λA=>H.l (F A ae),λA=>absurd G A,λA=>H.w (F A ae),λ_=>I,λA=>H.f (F A ae),λA=>H.e (F A ae),λA=>H.wk (F A ae),λi hi A=>H.ws i hi (F A ae),H.po,H.set,H.pl,H.zl,H.sui,H.ow,H.ext,H.few⟩
theorem aX.ff (H:aX (λk=>X k∨k=7) C Z K h0 bw bp o n V P h)(G:X 4){lv:Value}{l:List (List Int)}(I:uW o 7 h lv l):aX X C Z K h0 bw bp o n {V with lv:=lv} {P with left:=l} h:=
 have F:∀{k},¬X k→k≠7→¬(X k∨k=7):=λa b h=>h.elim a b
 ⟨λA=>H.q (F A ae),λA=>H.c (F A ae),λA=>H.l (F A ae),λA=>absurd G A,λA=>H.w (F A ae),λA=>H.s (F A ae),λ_=>I,λA=>H.e (F A ae),λA=>H.wk (F A ae),λi hi A=>H.ws i hi (F A ae),H.po,H.set,H.pl,H.zl,H.sui,H.ow,H.ext,H.few⟩
theorem aX.fe (H:aX (λk=>X k∨k=8) C Z K h0 bw bp o n V P h)(G:X 4){ev:Value}{l:List Int}(I:Rp.Sl (Rp.int .i64) (λc=>o c=8) h ev l):aX X C Z K h0 bw bp o n {V with ev:=ev} {P with fin:=l} h:=
 have F:∀{k},¬X k→k≠8→¬(X k∨k=8):=λa b h=>h.elim a b
 ⟨λA=>H.q (F A ae),λA=>H.c (F A ae),λA=>H.l (F A ae),λA=>absurd G A,λA=>H.w (F A ae),λA=>H.s (F A ae),λA=>H.f (F A ae),λ_=>I,λA=>H.wk (F A ae),λi hi A=>H.ws i hi (F A ae),H.po,H.set,H.pl,H.zl,H.sui,H.ow,H.ext,H.few⟩
end
end
end Go.Proofs.YtjljhnandbbldaaGreatDoor
namespace Go.Crisp
open Go
section
structure Cp {α:Type}(e:Rp α)(Z:Nat→Prop)(h0:ah)(r:Option (Value×List α))(o:Option (Value×α))(g:ah):Prop where
 ext:Ext h0 g
 zl:∀b,Z b→b<h0.size
 row:∀p,r=some p→Rp.Ow e Z g p.1 p.2∧∀b,blk p.1 b→h0.size≤b
 el:∀p,o=some p→(∃cs,SlC e.w g p.1 1 cs∧e.R Z g (Rp.el e.w cs 0) p.2)∧∀b,blk p.1 b→h0.size≤b∧b<g.size
 apart:∀p q,r=some p→o=some q→∀b,blk p.1 b→¬blk q.1 b
section
variable {α:Type}{e:Rp α}{Z:Nat→Prop}{h0 g:ah}{r:Option (Value×List α)}{o:Option (Value×α)}{K:Value→ah→Prop}
theorem Cp.start (h:ah)(zl:∀b,Z b→b<h.size):Cp e Z h none none h:=⟨Ext.refl _,zl,by simp,by simp,by simp⟩
theorem Cp.row0 {t:TypeId}(C:Cp e Z h0 none o g)(H:∀v U,Cp e Z h0 (some (v,[])) o U→K v U):du #[] t 0 [] g K:=by
 refine di (c':=#[]) rfl λb U r1 G n1=>H _ _ ⟨C.ext.trans G,C.zl,λp A=>?_,λp A=>?_,λp q A hq F I L=>?_⟩
 ·cases A;refine⟨⟨[],.inr ⟨b,0,[],t,rfl,cf _,by simp,by simp,r1⟩,λc hc W=>?_,λi hi=>absurd hi (by simp)⟩,λc hc=>?_⟩
  ·have h1:=C.zl c W;have:=C.ext.1;rw[show c=b from hc]at h1;omega
  ·rw[show c=b from hc];exact bB C.ext.1 n1
 ·obtain⟨⟨cs,a,F⟩,c⟩:=C.el p A;exact⟨⟨cs,a.fr G.fr λ_ _ _=>id,e.ext F G⟩,λb I=>⟨(c b I).1,ce (c b I).2 G.1⟩⟩
 ·cases A;have:=((C.el q hq).2 F L).2;rw[show F=b from I]at this;omega
theorem Cp.row1 {t:TypeId}{c:Array Value}{cs:List Value}{x:α}(C:Cp e Z h0 r none g)(F:e.R Z h0 cs x)(hc:c.size=e.w)(H:∀v L,Cp e Z h0 r (some (v,x)) L→K v L):du c t 1 [(0,e.w,.agg cs.toArray)] g K:=by
 refine di (Rp.fill_whole hc (e.len F)) λb L r1 I n1=>H _ _ ⟨C.ext.trans I,C.zl,λp A=>⟨(C.row p A).1.ext I,(C.row p A).2⟩,λp A=>?_,λp q A hq W hb G=>?_⟩
 ·cases A;have U:=Rp.SlC.single r1;rw[e.len F]at U;refine⟨⟨cs,U,?_⟩,λk hk=>?_⟩
  ·rw[Rp.el_self (e.len F)];exact e.ext F (C.ext.trans I)
  ·rw[show k=b from hk];exact⟨bB C.ext.1 n1,bD r1⟩
 ·cases hq;have:=(C.row p A).1.lt hb;rw[show W=b from G]at this;omega
theorem Cp.app {t:TypeId}{z v u:Value}{l l2:List α}{bytes:Nat}(C:Cp e Z h0 (some (v,l)) o g)(hu:Rp.Sl e Z h0 u l2)(W:z.cells.size=e.w)(A:(l.length+l2.length)*bytes≤140737488355328)(hn:l.length+l2.length≤9223372036854775807)
  (H:∀I L,Cp e Z h0 (some (I,l++l2)) o L→K I L):dy z t e.w bytes v u g K:=by
 obtain⟨o1,n1⟩:=C.row _ rfl;obtain⟨ds,hs,_,he⟩:=hu.ext C.ext;refine Rp.app_ow (l2:=l2) o1 hs he W A hn (λb A=>ce (C.zl b A) C.ext.1) λI L o' U n'=>H I L ⟨C.ext.then_fr U n1,C.zl,λp F=>?_,λp F=>?_,λp q F hq b A G=>?_⟩
 ·cases F;refine⟨o',λb A=>?_⟩;rcases n' b A with h|h
  ·exact n1 b h
  ·exact bB C.ext.1 h
 ·obtain⟨⟨cs,a,b'⟩,c⟩:=C.el p F;obtain⟨ab,_,aa,_⟩:=o1;refine⟨⟨cs,a.fr U λb _ A hv=>C.apart _ _ rfl F b hv A,e.fr b' U λb _ W A=>aa b A W⟩,λb A=>⟨(c b A).1,ce (c b A).2 U.1⟩⟩
 ·cases F;rcases n' b A with h|h
  ·exact C.apart _ _ rfl hq b h G
  ·have:=((C.el q hq).2 b G).2;omega
theorem Cp.app1 {t:TypeId}{z v u:Value}{l:List α}{x:α}{bytes:Nat}(C:Cp e Z h0 (some (v,l)) (some (u,x)) g)(W:z.cells.size=e.w)(G:(l.length+1)*bytes≤140737488355328)(hn:l.length+1≤9223372036854775807)
  (H:∀A F,Rp.Ow e Z F A (l++[x])→Ext h0 F→(∀b,blk A b→h0.size≤b)→K A F):dy z t e.w bytes v u g K:=by
 obtain⟨U,I⟩:=C.row _ rfl;obtain⟨⟨cs,a,L⟩,c⟩:=C.el _ rfl;refine Rp.app_ow (l2:=[x]) U a (λi hi=>?_) W G hn (λb G=>ce (C.zl b G) C.ext.1) λA F o' f' n'=>H A F o' (C.ext.then_fr f' I) λb G=>?_
 ·have h0:i=0:=by simpa using hi
  subst h0;exact L
 rcases n' b G with h|h
 ·exact I b h
 ·exact bB C.ext.1 h
end
end
end Go.Crisp
namespace Go.Proofs.YtjljhnandbbldaaGreatDoor
open Go Go.Crisp
attribute [local irreducible] ag du bh stK aE vK qK bO gK fR bA mkK dy GQ IQ DT bsK clK pG pH Q9
open _root_.Go.Proofs.Tryz
section
theorem GV {h:ah}{b:Nat}{v:Value}{m:Pic}(H:dp h b v m)(A:jZ m.w m.h m.c):ag prog ub #[ptr b] h λr h'=>r=af (m.w*m.h*m.c)∧h'=h:=by
 apply SJ;unfold Ic;have F:=dx A;refine ag.at (sA H) (ag.at (pV H) ?_);simp only[go_sem];rw[w64 (n:=m.w*m.h) ae ae];refine ag.at (eB H) ?_;simp only[go_sem];rw[w64 (n:=m.w*m.h*m.c) ae ae];exact⟨rfl,trivial⟩
def eV (C:C21)(Z:Nat→Prop)(K:Nat)(h0:ah)(bw:Nat→Nat)(bp:Nat)(o:Nat→Nat)(n:Pic)(P:bH)(h:ah):Prop:=∃V,aX (λ_=>False) C Z K h0 bw bp o n V P h
def PTo (C:C21)(Z:Nat→Prop)(K:Nat)(h0:ah)(bw:Nat→Nat)(bp:Nat)(o:Nat→Nat)(h:ah)(n':Pic)(P':bH)(h':ah):Prop:=∃o',eV C Z K h0 bw bp o' n' P' h'∧(∀c,c<h.size→o' c=o c)∧Fr (λc=>o c≠0∨eo (some C.E) c) h h'
def uV (P:bH)(who:Nat)(buf lo cnt:Int)(wr:Bool):bH:={P with acc:=P.acc++[⟨who,P.rows who,buf,lo,lo+cnt,wr⟩]}
section
variable {C:C21}{Z:Nat→Prop}{K:Nat}{h0 h:ah}{bw:Nat→Nat}{bp:Nat}{o:Nat→Nat}{n:Pic}{P:bH}
theorem eV.row (H:eV C Z K h0 bw bp o n P h):∃V,aX (λ_=>False) C Z K h0 bw bp o n V P h∧h[bp]? =some (.cells (jf C V P) 106 (0,0)):=by
 obtain⟨V,H⟩:=H;exact⟨V,H,H.p id⟩
theorem PTo.refl (H:eV C Z K h0 bw bp o n P h):PTo C Z K h0 bw bp o h n P h:=⟨o,H,λ_ _=>rfl,Fr.refl _ _⟩
theorem eV.ext {h':ah}(H:eV C Z K h0 bw bp o n P h)(e:Ext h h'):eV C Z K h0 bw bp o n P h':=by
 obtain⟨V,H⟩:=H;exact⟨V,H.ex e⟩
theorem PTo.trans {A:Nat→Nat}{h1 H:ah}{L G:Pic}{P1 F:bH}(a:eV C Z K h0 bw bp A L P1 h1∧(∀c,c<h.size→A c=o c)∧Fr (λc=>o c≠0∨eo (some C.E) c) h h1)(b:PTo C Z K h0 bw bp A h1 G F H):PTo C Z K h0 bw bp o h G F H:=by
 obtain⟨U,a1,f1⟩:=a;obtain⟨o2,I,a2,f2⟩:=b;have s:=f1.1;exact⟨o2,I,λc hc=>(a2 c ae).trans (a1 c hc),f1.after f2 λc hc h=>h.imp (λh=>by rwa [a1 c hc]at h) id⟩
theorem Vy {r:Value}(A:aV r=true)(a b c d:Int)(w:Bool):aQ #[ai,(.slice none 0 0),ai,ai,ai,(.bool false)] [(0,1,af a),(1,1,r),(2,1,af b),(3,1,af c),(4,1,af d),(5,1,.bool w)]=some #[af a,r,af b,af c,af d,.bool w]:=by
 refine(bX (n:=1) (l:=[af a]) rfl rfl (by simp)).trans ?_;refine(bX (n:=1) (l:=[r]) (cI A) rfl (by simp[cO])).trans ?_;refine(bX (n:=1) (l:=[af b]) rfl rfl (by simp[cO])).trans ?_;refine(bX (n:=1) (l:=[af c]) rfl rfl (by simp[cO])).trans ?_;refine(bX (n:=1) (l:=[af d]) rfl rfl (by simp[cO])).trans ?_;refine(bX (n:=1) (l:=[.bool w]) rfl rfl (by simp[cO])).trans ?_;rw[ia];simp[wrL]
theorem GW (H:eV C Z K h0 bw bp o n P h){who:Nat}(hw:who≤K){buf lo cnt:Int}{wr:Bool}(hl:P.acc.length≤1000000)(hb:0≤buf)(h1:0≤lo)(h2:1≤cnt)(h3:lo+cnt≤1000000000000):
  ag prog ef #[ptr bp,af (who:Int),af buf,af lo,af cnt,.bool wr] h λr h'=>r=.tuple #[]∧PTo C Z K h0 bw bp o h n (uV P who buf lo cnt wr) h':=by
 obtain⟨V,H,row⟩:=H.row;apply II;unfold xF;have c4:aH h ⟨bp,4,none⟩=some V.vc:=am row;refine aS (λk=>k=h) rfl ?_;simp only[go_sem,aO];refine aD V.vc (λk e=>by rw[e];exact c4) ?_;rw[w64 (n:=lo+cnt) ae ae];refine(zeq (H.c id) who).mono λr g1 ⟨U,G,n1⟩=>?_
 have F:LX (K+1) P.rows (who:Int)=P.rows who:=by
  unfold LX;rw[aA ae,dW]
 rw[F]at U;have aa:(P.rows who).length=K+1:=by
  obtain⟨bc,sl,sv,t,_,CA⟩:=H.c id;exact CA.len who ae
 have hK:=H.few;rw[JW _ #[af (who:Int),r,af buf,af lo,af (lo+cnt),.bool wr] (Vy (DU U) _ _ _ _ _)];have H1:=H.ex G;obtain⟨Zl,ol,z1,z2⟩:=H1.l id;have W:=H.po;have L:By Zl g1 bp 5 (jf C V P) 106 V.sl P.acc:=⟨G.row row,rfl,ol,⟨λh=>by have:=z2 _ h;omega,λh=>by have:=z1 _ h;omega⟩,λc hc=>(H1.ow c (by rw[z1 c hc];omega)).1⟩
 refine(zfp (a:=⟨who,P.rows who,buf,lo,lo+cnt,wr⟩) L ⟨r,rfl,U.ints⟩ (by show(P.rows who).length≤_;omega) hl (by simp[W8];omega)).mono λ_ g2 ⟨s',Z',I,f2,n2,nz⟩=>?_
 have A0:Fr (λc=>(λk=>k=3∨k=4) (o c)) g1 g2:=f2.mono λc _ hc=>hc.elim (λh=>.inr (by rw[h];exact W)) λh=>.inl (z2 c h)
 have H2:=H.take ((H1.chg (A:=λk=>k=3∨k=4) ae A0)) (b:=3);have s1:=G.1;have s2:=f2.1;have g3:∀c,blk s' c∨Z' c→grow o 3 h.size g2.size c=3:=λc hc=>by
  have lt:c<g2.size:=hc.elim (λh=>I.own.lt h) λh=>I.zlt c h
  unfold grow;split
  ·rfl
  ·rcases hc with h9|h9
   ·exact(n2 c h9).elim (z2 c) λh=>ae
   ·exact(nz c h9).elim (z1 c) λh=>ae
 have H3:=(H2.less (Y:=λk=>k=4∨k=3) λk hk=>by rcases hk with (h|h|h)|h<;>first|exact h.elim|exact .inr h|exact .inl h).fl (X:=λk=>k=4) rfl ⟨Z',I.own,λc hc=>g3 c (.inr hc),λc hc=>g3 c (.inl hc)⟩;have H4:=(H3.less (Y:=λk=>False∨k=4) λk hk=>.inr hk).fp (X:=λ_=>False) (st:=P.sent) (rt:=P.ret) (pk:=P.picks) I.var;exact⟨trivial,_,⟨_,H4⟩,λc hc=>jg hc,(G.fr (M:=λc=>o c≠0∨eo (some C.E) c)).after A0 λc _ hc=>.inl (by rcases hc with h|h<;>omega)⟩
end
end
section
def fQ (C:C21)(K:Nat)(P:bH)(i:Int):Bool:=
 if i<0∨(K:Int)<i then false
 else if 0<i then decide ((P.ws (i-1).toNat).state=1∨((P.ws (i-1).toNat).state=0∧cV P.q≠1))
 else if P.ret=true then false
 else if P.sent<bU C.d then decide (qU P.q≠1)
 else !P.q.closed||decide (P.left.length=K)
section
variable {C:C21}{Z:Nat→Prop}{K:Nat}{h0 h:ah}{bw:Nat→Nat}{bp:Nat}{o:Nat→Nat}{n:Pic}{P:bH}
theorem SlC.len {w:Nat}{h:ah}{v:Value}{n:Nat}{cs:List Value}(H:SlC w h v n cs):aC v=some (af (n:Int)):=by
 obtain⟨a,c,e⟩:=H.isSl;rw[e];rfl
theorem uW.len {k:Nat}{v:Value}{l:List (List Int)}(H:uW o k h v l):aC v=some (af (l.length:Int)):=by
 obtain⟨Z,A,_⟩:=H;obtain⟨a,c,e⟩:=A.isSl;rw[e];rfl
theorem aX.wat {X:Nat→Prop}{V:PV}(H:aX X C Z K h0 bw bp o n V P h)(A:¬X 9){i:Nat}(hi:i<K):∃p,bu 1 V.wv (af (i:Int))=some p∧ldV h p=some (ptr (bw i)):=by
 obtain⟨p,a1,a2⟩:=(H.wk A).1.at1 (k:=.i64) hi;refine⟨p,a1,?_⟩;rw[a2];simp[hi]
theorem zfd (H:eV C Z K h0 bw bp o n P h):ag prog rX #[ptr bp] h λr h'=>r=.bool (decide (P.left.length=K))∧h'=h:=by
 obtain⟨V,H,row⟩:=H.row;apply IK;unfold xH;have I:aH h ⟨bp,6,none⟩=some V.wv:=am row;have A:aH h ⟨bp,11,none⟩=some V.lv:=am row;have G:=SlC.len (H.wk id).1;have F:=(H.f id).len;simp only[go_sem,aO,I,A,G,F];exact⟨by congr 1;simp;omega,trivial⟩
theorem zb9 (O:C.Ok)(H:eV C Z K h0 bw bp o n P h){i:Int}(hi:I64 i):ag prog mo #[ptr bp,af i] h λr h'=>r=.bool (fQ C K P i)∧h'=h:=by
 have HP:=H;obtain⟨V,H,row⟩:=H.row;apply IG;unfold xD;have G:aH h ⟨bp,6,none⟩=some V.wv:=am row;have c3:aH h ⟨bp,3,none⟩=some (ptr C.bq):=am row;have L:aH h ⟨bp,12,none⟩=some (.bool P.ret):=am row;have c8:aH h ⟨bp,8,none⟩=some (af P.sent):=am row;have c2:aH h ⟨bp,2,none⟩=some (ptr C.bl):=am row;have U:=SlC.len (H.wk id).1;have hq:=H.q id;unfold fQ;unfold I64 at hi;by_cases h1:i<0
 ·simp only[go_sem,h1];exact⟨by simp,trivial⟩
 by_cases W:(K:Int)<i
 ·simp only[go_sem,aO,h1,G,U,W];exact⟨by simp,trivial⟩
 rw[aq ae];by_cases I:0<i
 ·rw[aA I];simp only[go_sem,aO,h1,G,U,W,I];refine aS (λk=>k=h) rfl ?_;refine aD V.wv (λk e=>by rw[e];exact G) ?_;rw[w64 (n:=i-1) ae ae];obtain⟨m,hm⟩:∃m:Nat,i-1=(m:Int):=⟨(i-1).toNat,ae⟩
  have A:m<K:=ae;obtain⟨p,a1,a2⟩:=H.wat id A;rw[hm,a1,aj];refine aD (ptr (bw m)) (λk e=>by rw[e];exact a2) ?_
  try simp only[go_sem,aO]
  refine aD (ptr C.bq) (λk e=>by rw[e];exact c3) ?_;refine(GX (H.ws m A id) hq).mono λr h' ⟨er,eh⟩=>?_
  subst eh;exact⟨by rw[er,dW],rfl⟩
 ·rw [aq I];simp only[go_sem,aO,h1,G,U,W,I,L];by_cases F:P.ret=true
  ·rw[aA F,F];simp only[go_sem];exact⟨trivial,trivial⟩
  ·rw[aq F];have h5:P.ret=false:=by simpa using F
   rw[h5];simp only[go_sem,aO];refine aS (λk=>k=h) rfl ?_;refine aD (af P.sent) (λk e=>by rw[e];exact c8) ?_
   try simp only[go_sem,aO]
   refine aD (ptr C.bl) (λk e=>by rw[e];exact c2) ?_;refine ag.at (Ep H.pl O.d) ⟨rfl,?_⟩;rw[cC,aj];refine ao (λg=>?_) (λg=>?_)
   ·rw[aA g];simp only[go_sem,aO,c3];exact RJ hq
   ·rw[aq g];simp only[go_sem,aO,c3];refine ag.at (RD hq) ?_;cases hc:P.q.closed with
    |true=>
     simp only[go_sem];refine ag.at (zfd HP) ?_;simp only[go_sem];exact⟨by simp,trivial⟩
    |false=>
     simp only[go_sem];exact⟨by simp,trivial⟩
end
end
section
def FY (C:C21)(K:Nat)(P:bH)(k:Nat):List Int:=((List.range k).map λi:Nat=>(i:Int)).filter λi=>fQ C K P i
theorem ZF (C:C21)(K:Nat)(P:bH)(k:Nat):FY C K P (k+1)=FY C K P k++if fQ C K P (k:Int)=true then[(k:Int)]else[]:=by
 unfold FY;rw[mA,jA,List.filter_append]
 congr 1
 simp[S5]
theorem M6 (C:C21)(K:Nat)(P:bH)(k:Nat):(FY C K P k).length≤k:=by
 unfold FY;exact bB (Yn _ _) (by simp)
section
variable {C:C21}{Z:Nat→Prop}{K:Nat}{h0 h:ah}{bw:Nat→Nat}{bp:Nat}{o:Nat→Nat}{n:Pic}{P:bH}
theorem Pr (H:eV C Z K h0 bw bp o n P h):ag prog iQ #[ptr bp] h λr h'=>r=af ((K+1:Nat):Int)∧h'=h:=by
 obtain⟨V,H,row⟩:=H.row;apply EI;unfold uR;have F:aH h ⟨bp,6,none⟩=some V.wv:=am row;have A:=SlC.len (H.wk id).1;have G:=H.few;simp only[go_sem,aO,F,A];rw[w64 (n:=(K:Int)+1) ae ae];exact⟨rfl,trivial⟩
theorem Lq (O:C.Ok)(H:eV C Z K h0 bw bp o n P h):ag prog jr #[ptr bp] h λr h'=>New (Rp.int .i64) h h' r (FY C K P (K+1)):=by
 apply BG;unfold qR;have hk:K≤256:=by obtain⟨V,H⟩:=H;exact H.few.2
 refine ag.at (Pr H) ?_;refine bK (α:=Value) (K+1) 0 (λi v=>[v,af (i:Int)]) (λi v g=>New (Rp.int .i64) h g v (FY C K P i)) (.slice none 0 0) rfl (b9 _) (New.nil (Ext.refl _)) λi v g again ρ _ hi N F=>?_
 simp only[iz,zJ];rw[cC,aj];refine ao (λg1=>?_) (λg1=>?_)
 ·have A:i<K+1:=ae;have G:(i:Int)+1=((i+1:Nat):Int):=ae;have hl:=M6 C K P i;refine ag.at (zb9 O (H.ext N.2.1) (by unfold I64;omega)) ?_;have I:=ZF C K P i;cases L:fQ C K P (i:Int)with
  |true=>
   rw[L,aA rfl]at I;rw[iC];refine New.push_int N rfl ae ae λW g2 U=>?_
   simp only[go_sem];rw[w64 (n:=(i:Int)+1) ae ae,G];exact F W g2 A (by rw[I];exact U)
  |false=>
   rw[L]at I;rw[cA];simp only[go_sem];rw[w64 (n:=(i:Int)+1) ae ae,G];exact F v g A (by rw[I];simpa using N)
 ·have:i=K+1:=ae;subst this;exact N
theorem Pg (H:eV C Z K h0 bw bp o n P h):ag prog lY #[ptr bp] h λr h'=>r=.bool P.ret∧h'=h:=by
 obtain⟨V,H,row⟩:=H.row;apply BH;unfold qS;have c:aH h ⟨bp,12,none⟩=some (.bool P.ret):=am row;simp only[go_sem,aO,c];exact⟨trivial,trivial⟩
theorem T6 (H:eV C Z K h0 bw bp o n P h):ag prog oB #[ptr bp] h λr h'=>r=.pointer (some ⟨bp,5,none⟩)∧h'=h:=by
 apply EH;unfold uQ;simp only[go_sem,aO];exact⟨trivial,trivial⟩
theorem eV.led (H:eV C Z K h0 bw bp o n P h):∃A cs sl,By A h bp 5 cs 106 sl P.acc:=by
 obtain⟨V,H,row⟩:=H.row;obtain⟨A,G,z1,F⟩:=H.l id;have I:=H.po;exact⟨A,_,V.sl,row,rfl,G,⟨λh=>by have:=F _ h;omega,λh=>by have:=z1 _ h;omega⟩,λc hc=>(H.ow c (by rw[z1 c hc];omega)).1⟩
def RV (K:Nat)(P:bH)(i:Int):List Int:=if i<1∨(K:Int)<i then[]else(P.ws (i-1).toNat).tiles
theorem Dq (H:eV C Z K h0 bw bp o n P h){i:Int}(hi:I64 i)(L:∀j,j<K→(P.ws j).tiles.length≤1000000):ag prog lG #[ptr bp,af i] h λr h'=>New (Rp.int .i64) h h' r (RV K P i):=by
 obtain⟨V,H,row⟩:=H.row;apply Gr;unfold wu;have G:aH h ⟨bp,6,none⟩=some V.wv:=am row;have I:=SlC.len (H.wk id).1;unfold RV;unfold I64 at hi;by_cases h1:i<1
 ·rw[aA (.inl h1)];simp only[go_sem,h1];exact New.nil (Ext.refl _)
 by_cases F:(K:Int)<i
 ·rw[aA (.inr F)];simp only[go_sem,aO,h1,G,I,F];exact New.nil (Ext.refl _)
 rw[aq ae];simp only[go_sem,aO,h1,G,I,F];rw[w64 (n:=i-1) ae ae];obtain⟨m,U⟩:∃m:Nat,i-1=(m:Int):=⟨(i-1).toNat,ae⟩
 have A:m<K:=ae;obtain⟨p,a1,a2⟩:=H.wat id A;rw[U,a1,aj,a2,aj];exact zdV (H.ws m A id) (L m A)
theorem T5 (H:eV C Z K h0 bw bp o n P h):ag prog oA #[ptr bp] h λr h'=>(P.ret=false∧r=.tuple #[.pointer none,.bool false]∧h'=h)∨(P.ret=true∧∃p,r=.tuple #[p,.bool true]∧uw h h' p n):=by
 obtain⟨V,H,row⟩:=H.row;apply EE;unfold uP;have A:aH h ⟨bp,12,none⟩=some (.bool P.ret):=am row;have F:aH h ⟨bp,1,none⟩=some (ptr C.bt):=am row;simp only[go_sem,aO,A];cases P.ret with
 |false=>
  simp only[go_sem];exact .inl ⟨trivial,trivial,trivial⟩
 |true=>
  simp only[go_sem,aO,F];exact(zfn H.set.out H.sui.1).mono λr h' N=>.inr ⟨trivial,r,rfl,N⟩
theorem X5 {p:Value}{t:Tbl}(H:gi Z h p t):aV p=true:=by
 obtain⟨b,lv,rfl,_⟩:=H.open;rfl
theorem Ua {b:Nat}{d:dn}{p q:Value}(H:uz Z h b d p q):ag prog js #[ptr b] h λr h'=>r=.agg #[p,q,af d.s.border]∧Ext h h':=by
 apply Gs;unfold ww;refine aJ λI h1 r1 A F=>?_
 simp only[go_sem];rw[Ox (A.row H.row) 0 3 [p,q,af d.s.border] rfl rfl,aj];refine da (l:=[p,q,af d.s.border]) r1 rfl (az (X5 H.x) (az (X5 H.y) (az rfl bi))) rfl λL r2 G=>?_
 rw[aW r2 3 rfl,aj];exact⟨rfl,A.upd F G⟩
end
end
end Go.Proofs.YtjljhnandbbldaaGreatDoor
namespace Go.Proofs.YtjljhnandbbldaaGreatDoor
open Go Go.Crisp
open _root_.Go.Proofs.Tryz
section
theorem clK12 {f:FuncId}{a A F:Value}{h:ah}{K:Value→ah→Prop}:clK prog (.func (.func f) #[] #[A,F]) #[a] h K=ag prog f #[a,A,F] h K:=rfl
attribute [local irreducible] ag du bh stK aE vK qK bO gK fR bA mkK dy GQ IQ DT bsK clK pG pH Q9
def ue (C:C21)(x:Int):Int:=(lg (cJ C.d.s.y.lines):Int)*(iq ((aL C.d x).w*C.m.c):Int)
section
variable {X:Nat→Prop}{C:C21}{Z:Nat→Prop}{K:Nat}{h0 h g:ah}{bw:Nat→Nat}{bp:Nat}{o:Nat→Nat}{n:Pic}{V:PV}{P:bH}{x:Int}
theorem ze9 (O:C.Ok)(G:eW h0)(H:aX X C Z K h0 bw bp o n V P g)(x4:¬X 4)(h1:0≤x)(h2:x<bU C.d):ag prog rV #[ptr bp,af x] g λr g2=>
  ∃W bj rv,r=ptr bj∧Ext g g2∧(∀c,W c→g.size≤c∧c<g2.size)∧kb Z W g2 (some C.E) n (ptr bj) (C.jo x)∧lD Z W g2 bj C.bf C.vf C.bt C.vt C.p C.q rv ⟨C.m,C.d.s,aL C.d x⟩ (aL C.d x).y (lnF C.d.s.y (aL C.d x).y) n (lg (cJ C.d.s.y.lines)) (iq ((aL C.d x).w*C.m.c)):=by
 have row:=H.p x4;apply IH;unfold xE;have c2:aH g ⟨bp,2,none⟩=some (ptr C.bl):=am row;simp only[go_sem,aO,c2];refine ag.to (wZ H.pl O.d h1 h2) λg1 e1=>?_
 have x0:aP (.tuple #[.agg (dK (aL C.d x)).toArray,.bool true]) 0=some (.agg (dK (aL C.d x)).toArray):=rfl;have x1:aP (.tuple #[.agg (dK (aL C.d x)).toArray,.bool true]) 1=some (.bool true):=rfl;simp only[x0,x1,aj];refine dh (cs:=dK (aL C.d x)) rfl (kM _) rfl λb g2 r2 e2 n2=>?_
 have I:=e1.trans e2;have A:=I.row row;have H2:=H.ex I;refine aS (Ext g2) (Ext.refl _) ?_
 try simp only[go_sem,aO]
 refine aD (ptr C.bf) (λk e=>am (e.row A)) ?_;refine aD (ptr C.bt) (λk e=>am (e.row A)) ?_;refine aD (ptr C.bl) (λk e=>am (e.row A)) ?_;refine aD (.agg (dK (aL C.d x)).toArray) (λk e=>aW (e.row r2) 10 rfl) ?_;refine(Ua H2.pl).mono λr g3 ⟨U,L⟩=>?_
 subst U;refine⟨L,?_⟩;rw[H.zl.2.1,H.zl.2.2];have F:=H2.ex L;refine(Y5 (G.ext F.ext) F.set O.m F.sui.1 O.s.wf).mono λr g4 HW=>?_
 obtain⟨bj,rv,U,e4,J,JS⟩:=XU.has O F.sui h1 h2 HW;subst U;have y0:aP (.tuple #[ptr bj,ai]) 0=some (ptr bj):=rfl;have y1:aP (.tuple #[ptr bj,ai]) 1=some ai:=rfl;simp only[go_sem,y0,y1,ne_eq,eqT,not_true,Mh];have le:g.size≤g3.size:=(I.trans L).1;exact⟨_,bj,rv,rfl,(I.trans L).trans e4,λc hc=>hc.elim False.elim λh=>⟨ae,h.2⟩,J,JS⟩
theorem zc9 (O:C.Ok)(G:eW h0)(H:aX X C Z K h0 bw bp o n V P g)(x4:¬X 4)(L:¬X 5)(h1:0≤x)(h2:x<bU C.d){W b3 k:Nat}{T1 T3:TypeId}(hk:k<K)(r1:g[W]? =some (.cells #[ptr bp] T1 (0,0)))(r3:g[b3]? =some (.cells #[af ((k:Int)+1)] T3 (0,0))):
  clK prog (.func (.func ii) #[] #[ptr W,ptr b3]) #[af x] g λr g2=>∃F,(∀c,F c→g.size≤c∧c<g2.size)∧kb Z F g2 (some C.E) n r (C.jo x)∧Fr (blk V.dv) g g2∧Own 1 g2 V.dv K ((List.range K).map λi=>af (if i=k then ue C x else P.words i)):=by
 rw[clK12];apply CW;unfold sY;have hK:=H.few;have c1:aH g ⟨W,0,none⟩=some (ptr bp):=am r1;simp only[go_sem,c1];refine(ze9 O G H x4 h1 h2).mono λr g2 ⟨F,bj,rv,er,A,I,J,JS⟩=>?_
 subst er;rw[WQ,aj,iC];have row:=A.row (H.p x4);have c7:aH g2 ⟨bp,7,none⟩=some V.dv:=am row;refine aS (λk=>k=g2) rfl ?_;refine aD (ptr bp) (λk e=>by rw[e];exact am (A.row r1)) ?_
 try simp only[go_sem,aO]
 refine aD V.dv (λk e=>by rw[e];exact c7) ?_;refine aD (af ((k:Int)+1)) (λk e=>by rw[e];exact am (A.row r3)) ?_;simp only[go_sem];rw[w64 (n:=(k:Int)+1-1) ae ae,show(k:Int)+1-1=(k:Int)by omega];refine ag.at (Pk JS) ⟨rfl,?_⟩;have o2:Own 1 g2 V.dv K ((List.range K).map λi=>af (P.words i)):=(H.w L).1.fr (M:=λ_=>False) A.fr λ_ _=>id
 obtain⟨p,a1,a2,a3⟩:=Own.at_map o2 (k:=.i64) hk;rw[a1,aj];refine a3 _ _ λg3 o3 f3=>?_
 have aa:∀c,blk V.dv c→c<g.size:=λc hc=>(H.w L).1.lt hc
 have U:∀c,blk V.dv c→o c=5:=(H.w L).2;have sz:=A.1;have J3:=J.other f3 (λc hz hc=>(H.ow c (by rw[U c hc];omega)).2.2.1 hz) (λc hb hc=>by have:=I c hb;have:=aa c hc;omega) (λE' hE=>by cases hE;exact⟨((H.ex A).set.out).fr f3 (λhc=>(H.ow _ (by rw[U _ hc];omega)).2.2.2.1 rfl) λc hv hc=>(H.ow c (by rw[U c hc];omega)).2.2.2.2 hv,H.sui.1⟩) (eU.refl n);exact⟨F,λc hc=>⟨(I c hc).1,ce (I c hc).2 f3.1⟩,J3,A.after f3,o3⟩
end
end
end Go.Proofs.YtjljhnandbbldaaGreatDoor
namespace Go.Proofs.YtjljhnandbbldaaGreatDoor
open Go Go.Crisp
attribute [local irreducible] ag du bh stK aE vK qK bO gK fR bA mkK dy GQ IQ DT bsK clK pG pH Q9
open _root_.Go.Proofs.Tryz
section
theorem IsW.bmono {Z B B':Nat→Prop}{h:ah}{bw:Nat}{E:Option WE}{n:Pic}{w:WD}(H:IsW Z B h bw E n w)(A:∀c,B c→B' c)(F:∀c,B' c→c<h.size)(U:∀c,B' c→¬Z c∧Bz E c∧¬eo E c):IsW Z B' h bw E n w:=by
 obtain⟨⟨tv,G,L,r,o,J,a1,a2,a3⟩,W,b2,b3,zl,I,st⟩:=H;exact⟨⟨tv,G,L,r,o,J,λc hc=>⟨A c (a1 c hc).1,(a1 c hc).2⟩,λc hc=>A c (a2 c hc),a3⟩,A _ W,F,U,zl,I,st⟩
theorem IsQ.bmono {Q Q':Nat→Prop}{h:ah}{b:Nat}{d:QD}(H:IsQ Q h b d)(A:∀c,Q c→Q' c)(F:∀c,Q' c→c<h.size):IsQ Q' h b d:=by
 obtain⟨⟨v,r,o,c,n,s⟩,qb,ql,w⟩:=H;exact⟨⟨v,r,o,c,n,λc hc=>A c (s c hc)⟩,A _ qb,F,w⟩
theorem fZ.bmono {M M':Nat→Prop}{h:ah}{v:Value}{n:Nat}{rows:Nat→List Int}(H:fZ M h v n rows)(A:∀c,M c→M' c)(F:∀c,M' c→c<h.size):fZ M' h v n rows:=by
 obtain⟨G,sl,sv,t,e,L⟩:=H;exact⟨G,sl,sv,t,e,L.var,L.arr,L.row,L.len,L.pos,⟨A _ L.inM.1,λb hc=>A b (L.inM.2.1 b hc),λi hi b hc=>A b (L.inM.2.2 i hi b hc)⟩,L.ap1,L.ap2,L.ap3,F⟩
def cB (C:C21)(P:bH)(k:Nat):bH:=
 {P with q:=(cg (some C.E) (C.jo (bC P.q)) (P.ws k) P.q).2.1,ws:=λi=>if i=k then(cg (some C.E) (C.jo (bC P.q)) (P.ws k) P.q).1 else P.ws i,words:=λi=>if i=k∧(P.ws k).state=0∧cV P.q=0 then ue C (bC P.q)else P.words i}
section
variable {C:C21}{Z:Nat→Prop}{K:Nat}{h0 h:ah}{bw:Nat→Nat}{bp:Nat}{o:Nat→Nat}{n:Pic}{V:PV}{P:bH}
theorem Y6 (O:C.Ok)(G:eW h0)(H:aX (λ_=>False) C Z K h0 bw bp o n V P h){k:Nat}(hk:k<K){b1 b3:Nat}{T1 T3:TypeId}(r1:h[b1]? =some (.cells #[ptr bp] T1 (0,0)))(r3:h[b3]? =some (.cells #[af ((k:Int)+1)] T3 (0,0)))(p1:o b1=0)(p3:o b3=0)(ht:(P.ws k).tiles.length≤1000000)(hb:∀c,eo (some C.E) c→h0.size≤c)
  (hx:xp (P.ws k) P.q→0≤bC P.q∧bC P.q<bU C.d):
  ag prog cU #[ptr (bw k),ptr C.bq,.func (.func ii) #[] #[ptr b1,ptr b3]] h λr h'=>r=evV (cg (some C.E) (C.jo (bC P.q)) (P.ws k) P.q).2.2∧
   ∃n' o',aX (λ_=>False) C Z K h0 bw bp o' n' V (cB C P k) h'∧(∀c,c<h.size→o' c=o c)∧Fr (λc=>(o c=10+k∨o c=1∨o c=5)∨eo (some C.E) c) h h'∧DK (some C.E) (P.ws k) n n':=by
 have W:=H.ws k hk id;have Q:=H.q id;obtain⟨U,I⟩:=H.w id;have aa:∀c,blk V.dv c→c<h.size:=λc hc=>U.lt hc
 have ab:∀c,o c≠0→¬eo (some C.E) c:=λc hc=>(H.ow c hc).2.2.2.2
 refine(Y4 (jo:=C.jo (bC P.q)) (Qo:=blk V.dv) (P0:=λg=>Own 1 g V.dv K ((List.range K).map λi=>af (P.words i))) (P1:=λg=>Own 1 g V.dv K ((List.range K).map λi=>af (if i=k then ue C (bC P.q)else P.words i))) W Q ht (λtk=>.inr ⟨rfl,λh1 f1 w1=>?_⟩) (λc hc h=>ae) (λc hc=>(H.ow c ae).2.2) (λc hc=>?_) (λg g' f=>?_) U).mono λr h' ⟨er,⟨⟨n',B',Q',W',q',j1,j2,j3,Dr⟩,f⟩,ad,al⟩=>?_
 ·have f2:Fr (λc=>(λj=>j=10+k∨j=1) (o c)) h h1:=f1;have H1:=H.chg (A:=λj=>j=10+k∨j=1) ae f2;have nx:∀{j},j≠10+k→j≠1→¬(False∨(j=10+k∨j=1)):=λa b h=>by rcases h with h|h|h<;>first|exact h|exact a h|exact b h
  exact zc9 O G H1 (nx ae ae) (nx ae ae) (hx tk).1 (hx tk).2 hk (f1.row r1 ae) (f1.row r3 ae)
 ·have h5:=I c hc;have:=H.ow c ae;exact⟨this.1,ae,ae,this.2.2⟩
 ·have q:∀c,blk V.dv c→¬(eo (some C.E) c∨o c=10+k∨o c=1∨h.size≤c):=λc hc hh=>by
   have h5:=I c hc;have:=aa c hc;rcases hh with hh|hh
   ·exact ab c ae hh
   ·omega
  exact⟨λw=>w.fr f q,λw=>w.fr f q⟩
 ·have f2:Fr (λc=>(λj=>j=10+k∨j=1∨j=5) (o c)∨eo (some C.E) c) h h':=f.mono λc _ hc=>by
   rcases hc with hc|hc|hc|hc
   ·exact .inr hc
   ·exact .inl (.inl hc)
   ·exact .inl (.inr (.inl hc))
   ·exact .inl (.inr (.inr (I c hc)))
  have sz:=f.1;have H2:=H.chgO (A:=λj=>j=10+k∨j=1∨j=5) ae hb f2 W'.out Dr.1;have Bl:=W'.bl;have Ql:=q'.ql;obtain⟨o',oo,on,ob,oq⟩:∃o':Nat→Nat,(∀c,c<h.size→o' c=o c)∧(∀c,h.size≤c→o' c≠0→(o' c=10+k∨o' c=1)∧c<h'.size)∧(∀c,B' c→o' c=10+k)∧∀c,Q' c→o' c=1:=by
   classical
   refine⟨λc=>if c<h.size then o c else if B' c then 10+k else if Q' c then 1 else 0,λc hc=>aA hc,λc hc h1=>?_,λc hc=>?_,λc hc=>?_⟩
   ·have L:¬c<h.size:=ae;simp only[aq L]at h1 ⊢;by_cases b:B' c
    ·simp only[aA b];exact⟨.inl trivial,Bl c b⟩
    ·simp only[aq b]at h1 ⊢;by_cases q:Q' c
     ·simp only[aA q];exact⟨.inr trivial,Ql c q⟩
     ·simp only[aq q]at h1;exact absurd rfl h1
   ·by_cases L:c<h.size
    ·simp only[aA L];exact(j1 c hc).elim id λh=>ae
    ·simp only[aq L,aA hc]
   ·have nb:¬B' c:=λhb=>j3 c hb hc
    by_cases L:c<h.size
    ·simp only[aA L];exact(j2 c hc).elim id λh=>ae
    ·simp only[aq L,aq nb,aA hc]
  have F:=H2.relab (B:=λj=>j=10+k∨j=1) (o':=o') oo (λc hc=>(H.fresh hc).1) on H.ext.1 λc hc=>(H.fresh hc).2
  have q3:IsQ (λc=>o' c=1) h' C.bq _:=q'.bmono oq λc hc=>(F.ow c (by rw[hc];omega)).1
  have W3:IsW Z (λc=>o' c=10+k) h' (bw k) (some C.E) n' _:=W'.bmono ob (λc hc=>(F.ow c (by rw[hc];omega)).1) λc hc=>(F.ow c (by rw[hc];omega)).2.2
  have w3:Own 1 h' V.dv K ((List.range K).map λi=>af ((cB C P k).words i)):=by
   by_cases tk:(P.ws k).state=0∧cV P.q=0
   ·have e:(λi=>af ((cB C P k).words i))=λi=>af (if i=k then ue C (bC P.q)else P.words i):=by
     funext i
     show af (if i=k∧(P.ws k).state=0∧cV P.q=0 then _ else _)=_;by_cases hi:i=k
     ·rw[aA ⟨hi,tk⟩,aA hi]
     ·rw[aq (λh=>hi h.1),aq hi]
    rw[e];exact ad tk
   ·have e:(λi=>af ((cB C P k).words i))=λi=>af (P.words i):=by
     funext i
     show af (if i=k∧(P.ws k).state=0∧cV P.q=0 then _ else _)=_;rw[aq λh=>tk h.2]
    rw[e];exact al tk
  have an:∀c,blk V.dv c→o' c=5:=λc hc=>by rw[oo c (aa c hc)];exact I c hc
  have nx:∀{j},j≠10+k→j≠1→j≠5→¬((False∨(j=10+k∨j=1∨j=5))∨(j=10+k∨j=1)):=λa b c h=>by rcases h with (h|h|h|h)|h|h<;>first|exact h|exact a h|exact b h|exact c h
  refine⟨er,n',o',⟨λ_=>q3,λ_=>F.c (nx ae ae ae),λ_=>F.l (nx ae ae ae),λ_=>F.p (nx ae ae ae),λ_=>⟨w3,an⟩,λ_=>F.s (nx ae ae ae),λ_=>F.f (nx ae ae ae),λ_=>F.e (nx ae ae ae),λ_=>F.wk (nx ae ae ae),λi hi _=>?_,F.po,F.set,F.pl,F.zl,F.sui,F.ow,F.ext,F.few⟩,oo,f2,Dr⟩;by_cases he:i=k
  ·subst he;show IsW Z _ h' _ _ n' (if i=i then _ else _);rw[aA rfl];exact W3
  ·show IsW Z _ h' _ _ n' (if i=k then _ else _);rw[aq he];exact F.ws i hi (nx ae ae ae)
end
end
section
def pE (C:C21)(P:bH)(k:Nat)(e:EvD):bH:=
 if e.2.2.1=1 then uV (uV P (k+1) 0 (atZ C.d.s.border e.2.2.2 C.m.h*(C.m.w*C.m.c)) (C.m.w*C.m.c) false) (k+1) (k+2) 0 (P.words k) true
 else uV (uV P (k+1) (k+2) 0 (P.words k) false) (k+1) 1 ((e.2.2.2*C.d.X+(aL C.d e.2.1).x)*C.m.c) ((aL C.d e.2.1).w*C.m.c) true
section
variable {C:C21}{Z:Nat→Prop}{K:Nat}{h0 h:ah}{bw:Nat→Nat}{bp:Nat}{o:Nat→Nat}{n:Pic}{P:bH}
theorem zdO (O:C.Ok)(H:eV C Z K h0 bw bp o n P h){k:Nat}(hk:k<K){e:EvD}(hl:P.acc.length≤999999)(hx:0≤e.2.1∧e.2.1<bU C.d)(hr:I64 e.2.2.2)(hy:e.2.2.1≠1→0≤e.2.2.2∧e.2.2.2<C.d.Y)(hw:1≤P.words k∧P.words k≤100000000000):
  ag prog qy #[ptr bp,af ((k:Int)+1),evV e] h λr h'=>r=.tuple #[]∧PTo C Z K h0 bw bp o h n (pE C P k e) h':=by
 obtain⟨ek,I,aa,F⟩:=e;have HP:=H;obtain⟨V,H,row⟩:=H.row;apply Gp;unfold wm;have x0:aP (.tuple #[.agg (dK (aL C.d I)).toArray,.bool true]) 0=some (.agg (dK (aL C.d I)).toArray):=rfl;have x1:aP (.tuple #[.agg (dK (aL C.d I)).toArray,.bool true]) 1=some (.bool true):=rfl;refine aJ λb1 h1 r1 e1 n1=>?_
 have r1:h1[b1]? =some (.cells #[af ek,af I,af aa,af F] 148 (0,0)):=r1;refine bF (λxs g=>∃bt,xs=[ptr bt]∧h.size≤bt∧Ext h1 g∧g[bt]? =some (.cells (dK (aL C.d I)).toArray 116 (0,0))) ?_ ?_
 ·refine aS (Ext h1) (Ext.refl _) ?_;simp only[go_sem,aO];refine aD (ptr C.bl) (λg e=>am (e.row (e1.row row))) ?_;refine aD (af I) (λg e=>am (e.row r1)) ?_;have one:∀v∈dK (aL C.d I),aV v=true:=kM _;refine⟨?_,?_⟩
  ·refine ag.to (wZ (H.ex e1).pl O.d hx.1 hx.2) λg2 U=>⟨U,?_⟩
   simp only[x0,x1,aj];refine aJ λbt g3 r3 L n3=>⟨U.trans L,?_⟩
   refine da (l:=dK (aL C.d I)) r3 rfl one rfl λg4 r4 u4=>?_
   have E:=(U.trans L).upd (bB U.1 n3) u4;have s1:=e1.1;have s2:=U.1;exact⟨E,bt,rfl,ae,E,r4⟩
  ·refine aJ λbt g2 r2 U n2=>⟨U,?_⟩
   refine ag.to (wZ ((H.ex e1).ex U).pl O.d hx.1 hx.2) λg3 L=>⟨U.trans L,?_⟩
   simp only[x0,x1,aj];refine da (l:=dK (aL C.d I)) (L.row r2) rfl one rfl λg4 r4 u4=>?_
   have E:=(U.trans L).upd n2 u4;have s1:=e1.1;exact⟨E,bt,rfl,ae,E,r4⟩
 rintro xs ρ g ⟨bt,rfl,ay,U,rt⟩;have E:=e1.trans U;have rg:=U.row r1;have G:=E.row row;have c7:aH g ⟨bp,7,none⟩=some V.dv:=am G;have c1:aH g ⟨bp,1,none⟩=some (ptr C.bt):=am G;have m2:aH g ⟨b1,2,none⟩=some (af aa):=am rg;have hK:=H.few;have Hg:=H.ex E;have W:=HP.ext E;simp only[iz,go_sem,aO,c7];rw[w64 (n:=(k:Int)+1-1) ae ae,show(k:Int)+1-1=(k:Int)by omega];obtain⟨p,a1,a2,_⟩:=Own.at_map (Hg.w id).1 (k:=.i64) hk;rw[a1,aj,a2,aj,m2,aj,mX,aj];have bf:=dx O.m.fits;have sui:=H.sui.2;obtain⟨s1,s2,s3,s4,s5⟩:=sui;have who:((k:Int)+1)=((k+1:Nat):Int):=ae;have ad:∀{h'} {P'},PTo C Z K h0 bw bp o g n P' h'→PTo C Z K h0 bw bp o h n P' h':=λ{h' P'} T=>PTo.trans (h1:=g) ⟨W,λ_ _=>rfl,E.fr⟩ T
 refine ao (λhm=>?_) (λhm=>?_)
 ·have hm:aa=1:=hm;subst hm;refine aS (λk=>k=g) rfl ?_;refine aD (ptr C.bf) (λk e=>by rw[e];exact am G) ?_;refine aD (ptr C.bf) (λk e=>by rw[e];exact am G) ?_;refine ag.at (sA Hg.set.src) ⟨rfl,?_⟩;refine ag.at (eB Hg.set.src) ?_;have wc:1≤C.m.w*C.m.c∧C.m.w*C.m.c≤65536*3:=⟨xS ae ae,rB ae ae ae ae⟩
  simp only[go_sem];rw[w64 (n:=C.m.w*C.m.c) ae ae];refine aS (Ext g) (Ext.refl _) ?_;refine aD (ptr C.bl) (λk e=>am (e.row G)) ?_
  try simp only[go_sem,aO]
  refine aD (af F) (λk e=>am (e.row rg)) ?_
  try simp only[go_sem,aO]
  refine aD (ptr C.bf) (λk e=>am (e.row G)) ?_;refine(Ua Hg.pl).mono λr g3 ⟨er,L⟩=>?_
  subst er;refine⟨L,?_⟩;have pv:qV false 1 2 (.agg #[C.pp,C.pq,af C.d.s.border])=some (af C.d.s.border):=rfl;rw[pv,aj];have H3:=Hg.ex L;refine ag.at (pV H3.set.src) ⟨L,?_⟩;refine ag.at (w6 hr) ?_;have ha:=zft (p:=C.d.s.border) (j:=F) (n:=C.m.h) ae ae;have an:=nR (a:=atZ C.d.s.border F C.m.h) (A:=65536) (b:=C.m.w*C.m.c) (B:=65536*3) ae ae ae ae;simp only[go_sem];rw[w64 (n:=atZ C.d.s.border F C.m.h*(C.m.w*C.m.c)) ae ae,who];refine(GW (W.ext L) (who:=k+1) ae ae ae an.1 wc.1 ae).mono λr g4 ⟨er,o4,H4,q4,f4⟩=>?_
  rw[w64 (n:=1+((k+1:Nat):Int)) ae ae,show 1+((k+1:Nat):Int)=(k:Int)+2 by omega];refine(GW H4 (who:=k+1) ae (by simp[uV];omega) ae ae hw.1 ae).mono λr g5 ⟨er,T⟩=>?_
  have T2:=PTo.trans (h1:=g4) ⟨H4,q4,f4⟩ T;have T3:=PTo.trans (h1:=g3) (P1:=P) ⟨W.ext L,λ_ _=>rfl,L.fr⟩ T2;refine⟨trivial,?_⟩;unfold pE;rw[aA rfl];exact ad T3
 ·have hy:0≤F∧F<C.d.Y:=hy hm;rw[c1,aj];refine ag.at (eB Hg.set.out) ?_;rw[w64 (n:=1+((k:Int)+1)) ae ae,show 1+((k:Int)+1)=(k:Int)+2 by omega,who];refine(GW W (who:=k+1) ae ae ae ae hw.1 ae).mono λr g4 ⟨er,o4,H4,q4,f4⟩=>?_
  have nf:∀{c},h.size≤c→¬(o c≠0∨eo (some C.E) c):=λhc h=>h.elim (λh=>h (H.fresh hc).1) (H.fresh hc).2.2.2
  have au:=f4.row rg (nf n1);have ab:=f4.row rt (nf ay);obtain⟨V4,B4,al⟩:=H4.row;have wf:=gI O.d (i:=I) hx.1 hx.2;unfold eF at wf;refine aS (λk=>k=g4) rfl ?_;refine aD (af F) (λk e=>by rw[e];exact am au) ?_
  try simp only[go_sem,aO]
  refine aD (ptr C.bt) (λk e=>by rw[e];exact am al) ?_
  try simp only[go_sem,aO]
  refine aD (af (aL C.d I).x) (λk e=>by rw[e];exact am ab) ?_
  try simp only[go_sem,aO]
  refine aD (af (aL C.d I).w) (λk e=>by rw[e];exact am ab) ?_;have bd:=dn.bd O.d;have wX:(aL C.d I).x+(aL C.d I).w≤C.d.X:=by show _≤((C.d.s.x.lines.length:Nat):Int);omega
  have nc:n.c=C.m.c:=s4;have a8:=nR (a:=(aL C.d I).w) (A:=65536) (b:=C.m.c) (B:=3) ae ae ae ae;have ar:1≤(aL C.d I).w*C.m.c:=xS ae ae;have a7:=nR (a:=F) (A:=65536) (b:=C.d.X) (B:=65536) ae ae ae ae;have ax:=nR (a:=F*C.d.X+(aL C.d I).x) (A:=65536*65536+65536) (b:=C.m.c) (B:=3) ae ae ae ae;rw[nc];simp only[go_sem];rw[w64 (n:=(aL C.d I).w*C.m.c) ae ae];refine ag.at (sA B4.set.out) ⟨rfl,?_⟩;rw[show n.w=C.d.X from s2];simp only[go_sem];rw[w64 (n:=F*C.d.X) ae ae,w64 (n:=F*C.d.X+(aL C.d I).x) ae ae,w64 (n:=(F*C.d.X+(aL C.d I).x)*C.m.c) ae ae];refine(GW H4 (who:=k+1) ae (by simp[uV];omega) ae ax.1 ar ae).mono λr g5 ⟨er,T⟩=>?_
  have T2:=PTo.trans (h1:=g4) ⟨H4,q4,f4⟩ T;refine⟨trivial,?_⟩;unfold pE;rw[aq hm];exact ad T2
end
end
section
section
variable {C:C21}{Z:Nat→Prop}{K:Nat}{h0 g g1 g2:ah}{bw:Nat→Nat}{bp:Nat}{o:Nat→Nat}{n:Pic}{V:PV}{P:bH}
theorem aX.setrow (H:aX (λ_=>False) C Z K h0 bw bp o n V P g)(u:Upd bp g g1){st:Int}{rt:Bool}{pk:Int}(r:g1[bp]? =some (.cells (jf C V {P with sent:=st,ret:=rt,picks:=pk}) 106 (0,0))):aX (λ_=>False) C Z K h0 bw bp o n V {P with sent:=st,ret:=rt,picks:=pk} g1:=by
 have F:=H.po;exact(H.chg (A:=λk=>k=4) ae (u.fr.mono λc _ hc=>by rw[show c=bp from hc];exact F)).fp r
theorem aX.putS (H:aX (λk=>k=6) C Z K h0 bw bp o n V P g){s:Value}{l:List (List Int)}(L:uW o 6 g s l)(u:Upd bp g g1)(r:g1[bp]? =some (.cells (jf C {V with sv:=s} P) 106 (0,0))):aX (λ_=>False) C Z K h0 bw bp o n {V with sv:=s} {P with stamps:=l} g1:=by
 have G:=H.po;have f:Fr (λc=>(λk=>k=4) (o c)) g g1:=u.fr.mono λc _ hc=>by rw[show c=bp from hc];exact G
 have U:=(H.chg (A:=λk=>k=4) ae f).less (Y:=λk=>k=4∨k=6) λk F=>F.symm
 have I:=U.fs (X:=λk=>k=4) rfl (L.fr f λc hc h=>by have h:o c=4:=h;omega);exact(I.less (Y:=λk=>False∨k=4) λk F=>.inr F).fp (X:=λ_=>False) (st:=P.sent) (rt:=P.ret) (pk:=P.picks) r
theorem aX.putL (H:aX (λk=>k=7) C Z K h0 bw bp o n V P g){s:Value}{l:List (List Int)}(L:uW o 7 g s l)(u:Upd bp g g1)(r:g1[bp]? =some (.cells (jf C {V with lv:=s} P) 106 (0,0))):aX (λ_=>False) C Z K h0 bw bp o n {V with lv:=s} {P with left:=l} g1:=by
 have G:=H.po;have f:Fr (λc=>(λk=>k=4) (o c)) g g1:=u.fr.mono λc _ hc=>by rw[show c=bp from hc];exact G
 have U:=(H.chg (A:=λk=>k=4) ae f).less (Y:=λk=>k=4∨k=7) λk F=>F.symm
 have I:=U.ff (X:=λk=>k=4) rfl (L.fr f λc hc h=>by have h:o c=4:=h;omega);exact(I.less (Y:=λk=>False∨k=4) λk F=>.inr F).fp (X:=λ_=>False) (st:=P.sent) (rt:=P.ret) (pk:=P.picks) r
theorem aX.putE (H:aX (λk=>k=8) C Z K h0 bw bp o n V P g){s:Value}{l:List Int}(L:Rp.Sl (Rp.int .i64) (λc=>o c=8) g s l)(u:Upd bp g g1)(r:g1[bp]? =some (.cells (jf C {V with ev:=s} P) 106 (0,0))):aX (λ_=>False) C Z K h0 bw bp o n {V with ev:=s} {P with fin:=l} g1:=by
 have G:=H.po;have f:Fr (λc=>(λk=>k=4) (o c)) g g1:=u.fr.mono λc _ hc=>by rw[show c=bp from hc];exact G
 have U:=(H.chg (A:=λk=>k=4) ae f).less (Y:=λk=>k=4∨k=8) λk F=>F.symm
 have I:=U.fe (X:=λk=>k=4) rfl (L.fr f λc _ hc h=>by have h:o c=4:=h;omega);exact(I.less (Y:=λk=>False∨k=4) λk F=>.inr F).fp (X:=λ_=>False) (st:=P.sent) (rt:=P.ret) (pk:=P.picks) r
theorem zbD {o:Nat→Nat}{j k lo hi:Nat}(h:∀c,lo≤c→o c=0)(G:k≠j)(F:k≠0):(λc=>grow o j lo hi c=k)=λc=>o c=k:=by
 funext c
 refine propext ?_;unfold grow;split
 ·rename_i A;rw[h c A.1];omega
 ·exact DZ
theorem aX.rs_push (H:aX (λ_=>False) C Z K h0 bw bp o n V P g){j:Nat}(hj:j≠0∧j≠2){v:Value}{l:List (List Int)}(HR:uW o j g v l){rows:Nat→List Int}{r:Value}{x:List Int}(o1:jE g1 r x)(c1:fZ (λc=>o c=2) g1 V.vc (K+1) rows)(f1:Fr (λc=>o c=2) g g1)(n1:∀b,blk r b→g.size≤b)
  {Q:ah→Prop} {z z':Value} {t t':TypeId} {K':Value→ah→Prop} (G:z.cells.size=1) (hl:l.length≤1000000000) (hQ:∀h',Ext g1 h'→Q h')
  (HK:∀U g2,uW (grow o j g.size g2.size) j g2 U (l++[x])→aX (λk=>k=j) C Z K h0 bw bp (grow o j g.size g2.size) n V {P with rows:=rows} g2→Fr (λc=>o c=2∨o c=j) g g2→Fr (λc=>o c=j) g1 g2→K' U g2):
  du #[z'] t 1 [(0,1,r)] g1 λv2 h3=>Q h3∧dy z t' 1 24 v v2 h3 K':=by
 obtain⟨W,ow,z1,z2⟩:=HR;have s1:=f1.1;have q1:∀c,W c∨blk v c→¬o c=2:=λc hc=>by have:=hc.elim (z1 c) (z2 c);omega
 have aa:=ow.fr f1 (λc _ hc=>q1 c (.inl hc)) λc hc=>q1 c (.inr hc)
 have dz:∀b,blk v b→¬W b:=by obtain⟨_,_,d,_⟩:=ow;exact d
 have ob:∀c,o c=j→c<g.size:=λc hc=>(H.ow c ae).1
 have o2:Rp.Ow rIs (λb=>W b∨blk r b) g1 v l:=aa.mono (λb _ F=>.inl F) λb F G=>by
  rcases G with G|G
  ·exact dz b F G
  ·have:=ob b (z2 b F);have:=n1 b G;omega
 refine Rp.push_ow1S (P:=λ_=>False) (e:=rIs) (x:=x) rfl o2 ⟨r,rfl,wU o1.ints λ_ b F=>.inr F⟩ G ae ae (λb F=>?_) hQ λU g2 o3 f3 n3=>?_
 ·rcases F with F|F
  ·have:=ob b (z1 b F);omega
  ·exact Own.lt o1 F
 have I:Fr (λc=>o c=j) g1 g2:=f3.mono λc _ hc=>z2 c hc
 have s3:=f3.1;have fA:Fr (λc=>(λk=>k=2∨k=j) (o c)) g g2:=(f1.mono λc _ hc=>.inl hc).after I λc _ hc=>.inr hc
 have H2:=H.take (H.chg (A:=λk=>k=2∨k=j) ae fA) (b:=j);have L:∀c,c<g2.size→(o c=j∨g.size≤c)→grow o j g.size g2.size c=j:=λc hl hc=>by
  unfold grow;split
  ·rfl
  ·exact hc.elim id λh=>ae
 have hR:uW (grow o j g.size g2.size) j g2 U (l++[x]):=by
  refine⟨λb=>W b∨blk r b,o3,λc hc=>?_,λc hc=>L c (o3.lt hc) ?_⟩
  ·rcases hc with hc|hc
   ·exact L c (by have:=ob c (z1 c hc);omega) (.inl (z1 c hc))
   ·exact L c (by have:=Own.lt o1 hc;omega) (.inr (n1 c hc))
  ·rcases n3 c hc with h|h
   ·exact .inl (z2 c h)
   ·exact .inr ae
 have c2:fZ (λc=>grow o j g.size g2.size c=2) g2 V.vc (K+1) rows:=by
  have e:(λc=>grow o j g.size g2.size c=2)=λc=>o c=2:=by
   funext c
   refine propext ?_;unfold grow;split
   ·rename_i h3;rw[(H.fresh h3.1).1];omega
   ·exact DZ
  rw[e];exact c1.fr I λc _ hc h=>by have h:o c=j:=h;omega
 have H3:=(H2.less (Y:=λk=>k=j∨k=2) λk hk=>by rcases hk with (h|h|h)|h<;>first|exact h.elim|exact .inr h|exact .inl h).fc c2;exact HK U g2 hR H3 fA I
theorem XF (H:aX (λ_=>False) C Z K h0 bw bp o n V P g){i:Nat}{u:Value}{s:List Int}(hu:kh g u s)(U:s.length≤4398046511104):
  ag prog gE #[V.vc,af (i:Int),u] g λr g1=>aX (λ_=>False) C Z K h0 bw bp (grow o 2 g.size g1.size) n V {P with rows:=eI (K+1) P.rows i s} g1∧Fr (λc=>o c=2) g g1:=by
 refine(zfk (H.c id) i hu U).mono λr g1 ⟨_,M',I,f1,m1⟩=>?_
 have F:Fr (λc=>(λk=>k=2) (o c)) g g1:=f1;have G:=H.take (H.chg (A:=λk=>k=2) ae F) (b:=2);refine⟨(G.less (Y:=λk=>False∨k=2) λk W=>by rcases W with (h|h)|h<;>first|exact h.elim|exact .inr h).fc (I.bmono (λc hc=>?_) λc hc=>(G.ow c (by rw[hc];omega)).1),f1⟩;unfold grow;split
 ·rfl
 ·rename_i h3;have lt:c<g1.size:=by
   obtain⟨bc,sl,sv,t,_,L⟩:=I;exact L.lt c hc
  rcases m1 c hc with h|h
  ·exact h
  ·omega
end
end
section
def evP (C:C21)(P:bH)(k:Nat):EvD:=(cg (some C.E) (C.jo (bC P.q)) (P.ws k) P.q).2.2
def Ou (K:Nat)(P:bH)(k:Nat):bH:=
 {P with rows:=jP (K+1) (eI (K+1) P.rows (k+1:Nat) P.fin) (k+1:Nat),left:=P.left++[eI (K+1) P.rows (k+1:Nat) P.fin (k+1)]}
def gd (C:C21)(K:Nat)(P:bH)(k:Nat):bH:=
 if(evP C P k).1=1 then{cB C P k with rows:=eI (K+1) P.rows (k+1:Nat) (P.stamps.getD (evP C P k).2.1.toNat [])}
 else if(evP C P k).1=2 then pE C (cB C P k) k (evP C P k)
 else if(evP C P k).1=3 then Ou K (cB C P k) k
 else cB C P k
section
variable {C:C21}{Z:Nat→Prop}{K:Nat}{h0 h:ah}{bw:Nat→Nat}{bp:Nat}{o:Nat→Nat}{n:Pic}{P:bH}
theorem ze5 (O:C.Ok)(G:eW h0)(H:eV C Z K h0 bw bp o n P h){k:Nat}(hk:k<K)(ht:(P.ws k).tiles.length≤1000000)(hb:∀c,eo (some C.E) c→h0.size≤c)(hl:P.acc.length≤999999)(bk:P.left.length≤1000000000)
  (hx:xp (P.ws k) P.q→0≤bC P.q∧bC P.q<bU C.d)
  (h1:(evP C P k).1=1→0≤(evP C P k).2.1∧(evP C P k).2.1<P.stamps.length)
  (hs:∀s∈P.stamps,s.length≤4398046511104) (hf:P.fin.length≤4398046511104)
  (h2:(evP C P k).1=2→(0≤(evP C P k).2.1∧(evP C P k).2.1<bU C.d)∧I64 (evP C P k).2.2.2∧((evP C P k).2.2.1≠1→0≤(evP C P k).2.2.2∧(evP C P k).2.2.2<C.d.Y)∧1≤(cB C P k).words k∧(cB C P k).words k≤100000000000):
  ag prog rT #[ptr bp,af ((k:Int)+1)] h λr h'=>∃n',PTo C Z K h0 bw bp o h n' (gd C K P k) h'∧DK (some C.E) (P.ws k) n n':=by
 have HP:=H;obtain⟨V,H,row⟩:=H.row;apply IF;unfold xC;have hK:=H.few;refine aJ λb1 g1 r1 e1 n1=>aJ λb3 g3 r3 e3 n3=>?_
 have r1:g1[b1]? =some (.cells #[ptr bp] _ (0,0)):=r1;have r3:g3[b3]? =some (.cells #[af ((k:Int)+1)] _ (0,0)):=r3;have r1:=e3.row r1;have E:=e1.trans e3;have H3:=H.ex E;have W:=E.row row;have s1:=e1.1;have s3:=e3.1;have f1:=H.fresh (c:=b1) n1;have f3:=H.fresh (c:=b3) ae;have who:((k:Int)+1)=((k+1:Nat):Int):=ae;generalize a7:evP C P k=e at*;have ab:(cg (some C.E) (C.jo (bC P.q)) (P.ws k) P.q).2.2=e:=a7;refine bF (λxs g=>∃A n' o' T,xs=[ptr A]∧g[A]? =some (.cells #[af e.1,af e.2.1,af e.2.2.1,af e.2.2.2] T (0,0))∧aX (λ_=>False) C Z K h0 bw bp o' n' V (cB C P k) g∧(∀c,c<h.size→o' c=o c)∧Fr (λc=>o c≠0∨eo (some C.E) c) h g∧g[b1]? =some (.cells #[ptr bp] 35 (0,0))∧g[b3]? =some (.cells #[af ((k:Int)+1)] 3 (0,0))∧o' b1=0∧o' b3=0∧o' A=0∧DK (some C.E) (P.ws k) n n') ?_ ?_
 ·have nS:∀{c},o c=4∨o c=9→¬((o c=10+k∨o c=1∨o c=5)∨eo (some C.E) c):=λ{c} hc h=>h.elim ae (H.ow c ae).2.2.2.2
  have nL:∀{c},h.size≤c→¬((o c=10+k∨o c=1∨o c=5)∨eo (some C.E) c):=λ{c} hc h=>h.elim (by have:=(H.fresh hc).1;omega) (H.fresh hc).2.2.2
  have M0:Fr (λc=>o c≠0∨eo (some C.E) c) h g3:=E.fr;have hM:∀c,((o c=10+k∨o c=1∨o c=5)∨eo (some C.E) c)→o c≠0∨eo (some C.E) c:=λc hc=>hc.imp ae id
  have tc:evV e=.agg [af e.1,af e.2.1,af e.2.2.1,af e.2.2.2].toArray:=rfl;have one:∀v∈[af e.1,af e.2.1,af e.2.2.1,af e.2.2.2],aV v=true:=az rfl (az rfl (az rfl (az rfl bi)));refine aS (Fr (λc=>(o c=10+k∨o c=1∨o c=5)∨eo (some C.E) c) g3) (Fr.refl _ _) ?_;refine aD (ptr bp) (λg f=>am (f.row r1 (nL n1))) ?_;simp only[go_sem,aO];refine aD V.wv (λg f=>am (f.row W (nS (.inl H.po)))) ?_;refine aD (af ((k:Int)+1)) (λg f=>am (f.row r3 (nL ae))) ?_;simp only[go_sem];rw[w64 (n:=(k:Int)+1-1) ae ae,show(k:Int)+1-1=(k:Int)by omega];obtain⟨p,a1,a2⟩:=H3.wat id hk;rw[a1,aj];refine aD (ptr (bw k)) (λg f=>?_) ?_
  ·obtain⟨p',c1,c2⟩:=((H3.wk id).1.fr f λc _ hc=>nS (.inr ((H3.wk id).2 c hc))).at1 (k:=.i64) hk;rw[a1]at c1;cases c1;rw[c2];simp[hk]
  refine aD (ptr bp) (λg f=>am (f.row r1 (nL n1))) ?_
  try simp only[go_sem,aO]
  refine aD (ptr C.bq) (λg f=>am (f.row W (nS (.inl H.po)))) ?_;have l1:=bD r1;have l3:=bD r3;refine⟨?_,?_⟩
  ·refine(Y6 O G H3 hk r1 r3 f1.1 f3.1 ht hb hx).mono λr g4 ⟨er,n',o',L,U,f4,Dr⟩=>⟨f4,?_⟩
   rw[ab]at er;subst er;have s4:=f4.1;refine aJ λA g5 r5 e5 n5=>⟨f4.ext_r e5,?_⟩
   refine da (l:=[af e.1,af e.2.1,af e.2.2.1,af e.2.2.2]) r5 rfl one rfl λg6 r6 u6=>?_
   have E6:=e5.upd n5 u6;have f6:=f4.ext_r E6;exact⟨f6,A,n',o',_,rfl,r6,L.ex E6,λc hc=>U c ae,M0.after f6 λc _ hc=>hM c hc,f6.row r1 (nL n1),f6.row r3 (nL ae),by rw[U _ l1];exact f1.1,by rw[U _ l3];exact f3.1,(L.fresh n5).1,Dr⟩
  ·refine aJ λA g4 r4 e4 n4=>⟨e4.fr,?_⟩
   have s4:=e4.1;have l4:=bD r4;refine(Y6 O G (H3.ex e4) hk (e4.row r1) (e4.row r3) f1.1 f3.1 ht hb hx).mono λr g5 ⟨er,n',o',L,U,f5,Dr⟩=>⟨e4.fr.trans f5,?_⟩
   rw[ab]at er;subst er;have s5:=f5.1;refine da (l:=[af e.1,af e.2.1,af e.2.2.1,af e.2.2.2]) (f5.row r4 (nL ae)) rfl one rfl λg6 r6 u6=>?_
   have f6:=(e4.fr.trans f5).upd_new u6 (x:=A) n4;have ar:=H.fresh (c:=A) ae;have ob:o' A=0:=by rw[U A l4];exact ar.1
   exact⟨f6,A,n',o',_,rfl,r6,L.loc u6 ⟨ob,by have:=H.ext.1;omega,ar.2⟩,λc hc=>U c ae,M0.after f6 λc _ hc=>hM c hc,f6.row r1 (nL n1),f6.row r3 (nL ae),by rw[U _ ae];exact f1.1,by rw[U _ ae];exact f3.1,ob,Dr⟩
 rintro xs ρ g ⟨A,n',o',T,rfl,re,L,U,fr,q1,q3,z1,z3,ze,Dr⟩;have k0:aH g ⟨A,0,none⟩=some (af e.1):=am re;have k1:aH g ⟨A,1,none⟩=some (af e.2.1):=am re;have F:=L.p id;have b2:=fr.1;have I:∀{o2:Nat→Nat} {P2:bH} {g2:ah},eV C Z K h0 bw bp o2 n' P2 g2→(∀c,c<g.size→o2 c=o' c)→Fr (λc=>o' c≠0∨eo (some C.E) c) g g2→PTo C Z K h0 bw bp o h n' P2 g2:=λ{o2 P2 g2} a b c=>⟨o2,a,λc hc=>(b c ae).trans (U c hc),fr.after c λc hc h=>h.imp (λh=>by rwa [U c hc]at h) id⟩
 have wP:gd C K P k=if e.1=1 then{cB C P k with rows:=eI (K+1) P.rows (k+1:Nat) (P.stamps.getD e.2.1.toNat [])}else if e.1=2 then pE C (cB C P k) k e else if e.1=3 then Ou K (cB C P k) k else cB C P k:=by
  unfold gd;rw[a7]
 rw[wP];simp only[iz,go_sem,aO,k0];refine ao (λc1=>?_) (λc1=>?_)
 ·rw[aA c1];obtain⟨m1,m2⟩:=h1 c1;obtain⟨m,hm⟩:∃m:Nat,e.2.1=(m:Int):=⟨e.2.1.toNat,ae⟩
  have al:m<P.stamps.length:=ae;obtain⟨Zr,ow,_,_⟩:=L.s id;obtain⟨p,c,a1,a2,a3⟩:=ow.sl.at1 rfl (k:=.i64) (i:=m) al;obtain⟨v,hv,hS⟩:=a3;cases hv;have hi:=Hl hS;refine aS (λk=>k=g) rfl ?_;refine aD (ptr bp) (λk e=>by rw[e];exact am q1) ?_
  try simp only[go_sem,aO]
  refine aD V.vc (λk e=>by rw[e];exact am F) ?_;refine aD (af ((k:Int)+1)) (λk e=>by rw[e];exact am q3) ?_;refine aD (ptr bp) (λk e=>by rw[e];exact am q1) ?_
  try simp only[go_sem,aO]
  refine aD V.sv (λk e=>by rw[e];exact am F) ?_;refine aD (af e.2.1) (λk e=>by rw[e];exact k1) ?_;rw[hm,a1,aj];refine aD c (λk e=>by rw[e];exact a2) ?_;rw[who];have bo:=hs _ (cG al);refine(XF L (i:=k+1) hi bo).mono λr g2 ⟨H2,f2⟩=>⟨n',I (o2:=grow o' 2 g.size g2.size) ⟨V,?_⟩ (λc hc=>jg hc) (f2.mono λc _ hc=>.inl (by have hc:o' c=2:=hc;omega)),Dr⟩
  have e1:P.stamps.getD (m:Int).toNat []=P.stamps[m]:=by rw[dW,dA,iI al];rfl
  rw[e1];exact H2
 rw[aq c1];refine ao (λc2=>?_) (λc2=>?_)
 ·rw[aA c2];obtain⟨m1,m2,m3,m4⟩:=h2 c2;have bv:ldV g (ptr b1)=some (ptr bp):=am q1;have b0:ldV g (ptr b3)=some (af ((k:Int)+1)):=am q3;have le:aR 4 g (ptr A)=some (evV e):=aW (l:=[af e.1,af e.2.1,af e.2.2.1,af e.2.2.2]) re 4 rfl;have a9:aH g ⟨b1,0,none⟩=some (ptr bp):=am q1;have ay:aH g ⟨b3,0,none⟩=some (af ((k:Int)+1)):=am q3;rw[a9,aj,ay,aj,le,aj];refine(zdO O (P:=cB C P k) ⟨V,L⟩ hk hl m1 m2 m3 m4).mono λr g2 ⟨_,o2,a,b,c⟩=>⟨n',I a b c,Dr⟩
 rw[aq c2];refine ao (λc3=>?_) (λc3=>?_)
 ·rw[aA c3];refine aS (λk=>k=g) rfl ?_;refine aD (ptr bp) (λk e=>by rw[e];exact am q1) ?_
  try simp only[go_sem,aO]
  refine aD V.vc (λk e=>by rw[e];exact am F) ?_;refine aD (af ((k:Int)+1)) (λk e=>by rw[e];exact am q3) ?_;refine aD (ptr bp) (λk e=>by rw[e];exact am q1) ?_
  try simp only[go_sem,aO]
  refine aD V.ev (λk e=>by rw[e];exact am F) ?_;rw[who];refine(XF L (i:=k+1) (Hl (L.e id)) hf).mono λr g2 ⟨H2,f2⟩=>?_
  have bd:∀{c},o' c=0→¬o' c=2:=λh=>ae
  have a8:=bD q1;have ax:=bD q3;have bc:=f2.row q1 (bd z1);have an:=f2.row q3 (bd z3);have aa:=H2.p id;have hp:=H2.po;rw[who]at an;refine aS (λk'=>k'[b1]? =some (.cells #[ptr bp] 35 (0,0))∧k'[b3]? =some (.cells #[af ((k+1:Nat):Int)] 3 (0,0))∧k'[bp]? =some (.cells (jf C V {cB C P k with rows:=eI (K+1) (cB C P k).rows (k+1:Nat) (cB C P k).fin}) 106 (0,0))) ⟨bc,an,aa⟩ ?_;refine aD (ptr bp) (λk e=>am e.1) ?_;refine aD (ptr bp) (λk e=>am e.1) ?_
  try simp only[go_sem,aO]
  refine aD V.lv (λk e=>am e.2.2) ?_;refine aD (ptr bp) (λk e=>am e.1) ?_
  try simp only[go_sem,aO]
  refine aD V.vc (λk e=>am e.2.2) ?_;refine aD (af ((k+1:Nat):Int)) (λk e=>am e.2.1) ?_;refine(XM (H2.c id) ((k+1:Nat):Int)).mono λr g3 ⟨o3,bg,f3,n3⟩=>?_
  have gz:∀{c},c<g.size→o' c=0→¬grow o' 2 g.size g2.size c=2:=λhl h=>by rw[jg hl];omega
  have gp:¬grow o' 2 g.size g2.size bp=2:=ae;have S3:=And.intro (f3.row bc (gz a8 z1)) (And.intro (f3.row an (gz ax z3)) (f3.row aa gp));refine⟨S3,?_⟩;have au:LX (K+1) (eI (K+1) (cB C P k).rows (k+1:Nat) (cB C P k).fin) ((k+1:Nat):Int)=eI (K+1) P.rows (k+1:Nat) P.fin (k+1):=by
   unfold LX;rw[aA ae,dW];rfl
  rw[au]at o3;refine H2.rs_push (j:=7) ae (H2.f id) o3 bg f3 n3 rfl bk (λh' e=>⟨e.row S3.1,e.row S3.2.1,e.row S3.2.2⟩) λs' g4 hR H4 fA f4=>?_
  have g7:∀{c},c<g.size→o' c=0→¬grow o' 2 g.size g2.size c=7:=λhl h=>by rw[jg hl];omega
  have ad:=f4.row S3.2.2 (show¬grow o' 2 g.size g2.size bp=7 by omega);refine⟨⟨f4.row S3.1 (g7 a8 z1),f4.row S3.2.1 (g7 ax z3),ad⟩,?_⟩;have os:aV s'=true:=by
   obtain⟨_,o5,_⟩:=hR;exact o5.one
  refine ck ad (show 11<_ from by simp[jf]) os λg5 r5 u5=>?_
  have H5:=H4.putL hR u5 r5;refine⟨n',I (o2:=grow (grow o' 2 g.size g2.size) 7 g2.size g4.size) ⟨_,H5⟩ (λc hc=>?_) ?_,Dr⟩
  ·have:=f2.1;rw[jg ae,jg hc]
  ·have s2:=f2.1;have F1:Fr (λc=>o' c≠0∨eo (some C.E) c) g g2:=f2.mono λc _ hc=>.inl (by have hc:o' c=2:=hc;omega)
   have F2:=F1.after fA λc hc h=>.inl (by rw[jg hc]at h;omega)
   exact F2.after u5.fr λc hc h=>.inl (by
    have h:c=bp:=h;rw[h]at hc ⊢;rw[jg hc]at hp;omega)
 rw[aq c3];exact⟨n',I ⟨V,L⟩ (λ_ _=>rfl) (Fr.refl _ _),Dr⟩
end
end
section
def zei (K:Nat)(P:bH):bH:={P with q:=jJ P.q P.sent,rows:=jP (K+1) P.rows 0,stamps:=P.stamps++[P.rows 0],sent:=P.sent+1}
def zb4 (K:Nat)(P:bH):bH:={P with q:={P.q with closed:=true},rows:=jP (K+1) P.rows 0,fin:=P.rows 0}
def meetAll (K:Nat)(rows:Nat→List Int)(l:List (List Int)):Nat→List Int:=l.foldl (λr s=>eI (K+1) r 0 s) rows
def zeo (C:C21)(K:Nat)(P:bH):bH:={uV {P with rows:=meetAll K P.rows P.left} 0 1 0 (C.d.X*C.d.Y*C.m.c) false with ret:=true}
def xR (C:C21)(K:Nat)(P:bH):bH:=if P.sent<bU C.d then zei K P else if P.q.closed=false then zb4 K P else zeo C K P
def ic (C:C21)(K:Nat)(P:bH)(i:Int):bH:=
 if fQ C K P i=false then P else if i=0 then xR C K {P with picks:=P.picks+1}else gd C K {P with picks:=P.picks+1} (i-1).toNat
section
variable {C:C21}{Z:Nat→Prop}{K:Nat}{h0 h:ah}{bw:Nat→Nat}{bp:Nat}{o:Nat→Nat}{n:Pic}{P:bH}
theorem zfa (O:C.Ok)(H:eV C Z K h0 bw bp o n P h)(hl:P.acc.length≤999999)(b0:P.stamps.length≤1000000)(bv:0≤P.sent)(a7:∀s∈P.left,s.length≤4398046511104)(bk:P.left.length≤1000000)(b2:bU C.d≤1000000):
  ag prog rW #[ptr bp] h λr h'=>PTo C Z K h0 bw bp o h n (xR C K P) h':=by
 have HP:=H;obtain⟨V,H,row⟩:=H.row;apply IJ;unfold xG;have hK:=H.few;have c8:aH h ⟨bp,8,none⟩=some (af P.sent):=am row;have c2:aH h ⟨bp,2,none⟩=some (ptr C.bl):=am row;have c3:aH h ⟨bp,3,none⟩=some (ptr C.bq):=am row;have bd:aH h ⟨bp,11,none⟩=some V.lv:=am row;have c4:aH h ⟨bp,4,none⟩=some V.vc:=am row;have c9:aH h ⟨bp,9,none⟩=some V.sv:=am row;have hp:=H.po;have ab:∀rows,LX (K+1) rows (0:Int)=rows 0:=λrows=>by
  unfold LX;rw[aA ae];rfl
 refine aS (λk=>k=h) rfl ?_;simp only[go_sem,aO];refine aD (af P.sent) (λk e=>by rw[e];exact c8) ?_
 try simp only[go_sem,aO]
 refine aD (ptr C.bl) (λk e=>by rw[e];exact c2) ?_;refine ag.at (Ep H.pl O.d) ⟨rfl,?_⟩;unfold xR;rw[cC,aj];refine ao (λg1=>?_) (λg1=>?_)
 ·rw[aA g1];refine aS (λk=>k=h) rfl ?_;refine aD (ptr C.bq) (λk e=>by rw[e];exact c3) ?_
  try simp only[go_sem,aO]
  refine aD (af P.sent) (λk e=>by rw[e];exact c8) ?_;refine(zdL (H.q id)).mono λr g2 ⟨_,q2,f2⟩=>?_
  have an:Fr (λc=>(λk=>k=1) (o c)) h g2:=f2;have G:=H.take (H.chg (A:=λk=>k=1) ae an) (b:=1);have G:=(G.less (Y:=λk=>False∨k=1) λk hk=>by rcases hk with (h|h)|h<;>first|exact h.elim|exact .inr h).fq (q:=jJ P.q P.sent) (by
   have e:(λc=>grow o 1 h.size g2.size c=1)=rL (λc=>o c=1) h g2:=by
    funext c
    refine propext ?_;unfold grow;split
    ·rename_i h3;exact⟨λ_=>.inr h3,λ_=>rfl⟩
    ·rename_i h3;exact⟨.inl,λh=>h.elim id λh=>absurd h h3⟩
   rw[e];exact q2)
  have F:=G.p id;have bo:=G.po;have s2:=f2.1;refine aS (λk=>k[bp]? =some (.cells (jf C V {P with q:=jJ P.q P.sent}) 106 (0,0))) F ?_;refine aD V.sv (λk e=>am e) ?_
  try simp only[go_sem,aO]
  refine aD V.vc (λk e=>am e) ?_;refine(XM (G.c id) 0).mono λr L ⟨W,ad,f3,n3⟩=>?_
  rw[ab]at W;have S3:=f3.row F (show¬grow o 1 h.size g2.size bp=2 by omega);refine⟨S3,?_⟩;refine G.rs_push (j:=6) ae (G.s id) W ad f3 n3 rfl (by show P.stamps.length≤_;omega) (λh' e=>e.row S3) λs' g4 hR H4 fA f4=>?_
  have au:=f4.row S3 (show¬grow o 1 h.size g2.size bp=6 by omega);have os:aV s'=true:=by
   obtain⟨_,o5,_⟩:=hR;exact o5.one
  try simp only[go_sem,aO]
  refine ck au (show 9<_ from by simp[jf]) os λg5 r5 u5=>?_
  have H5:=H4.putS hR u5 r5;have bg:aH g5 ⟨bp,8,none⟩=some (af P.sent):=am (H5.p id);simp only[go_sem,aO,bg];rw[w64 (n:=P.sent+1) ae ae];refine ck (H5.p id) (show 8<_ from by simp[jf]) rfl λg6 r6 u6=>?_
  have H6:=H5.setrow u6 (st:=P.sent+1) (rt:=P.ret) (pk:=P.picks) r6;refine⟨grow (grow o 1 h.size g2.size) 6 g2.size g4.size,⟨_,H6⟩,λc hc=>?_,?_⟩
  ·rw[jg ae,jg hc]
  ·have F1:Fr (λc=>o c≠0∨eo (some C.E) c) h g2:=f2.mono λc _ hc=>.inl (by have hc:o c=1:=hc;omega)
   have F2:=F1.after fA λc hc h=>.inl (by rw[jg hc]at h;omega)
   have F3:=F2.after u5.fr λc hc h=>.inl (by have h:c=bp:=h;rw[h];omega)
   exact F3.after u6.fr λc hc h=>.inl (by have h:c=bp:=h;rw[h];omega)
 ·rw [aq g1];rw[c3,aj];refine ag.at (RD (H.q id)) ?_;cases hc:P.q.closed with
  | false=>
   rw[aA rfl];simp only[go_sem,aO,c3];refine(VU (H.q id)).mono λr g2 ⟨_,q2,f2⟩=>?_
   have an:Fr (λc=>(λk=>k=1) (o c)) h g2:=f2;have G:=(H.chg (A:=λk=>k=1) ae an).fq q2;have F:=G.p id;have al:aH g2 ⟨bp,4,none⟩=some V.vc:=am F;simp only[go_sem,aO,al];refine(XM (G.c id) 0).mono λr L ⟨W,ad,f3,n3⟩=>?_
   rw[ab]at W;have a8:Fr (λc=>(λk=>k=2) (o c)) g2 L:=f3;have H3:=G.take (G.chg (A:=λk=>k=2) ae a8) (b:=8);have H3:=(H3.less (Y:=λk=>k=8∨k=2) λk hk=>by rcases hk with (h|h)|h<;>first|exact h.elim|exact .inr h|exact .inl h).fc (r:=jP (K+1) P.rows 0) (by rw[zbD (λc hc=>(G.fresh hc).1) ae ae];exact ad);have I:=f3.row F (show¬o bp=2 by omega);have hs:Rp.Sl (Rp.int .i64) (λc=>grow o 8 g2.size L.size c=8) L r (P.rows 0):=wU W.ints λ_ c hc=>by
    unfold grow;rw[aA ⟨n3 c hc,Own.lt W hc⟩]
   refine ck I (show 10<_ from by simp[jf]) (DU W) λg4 r4 u4=>?_
   have H4:=H3.putE hs u4 r4;have s2:=f2.1;refine⟨grow o 8 g2.size L.size,⟨_,H4⟩,λc hc=>jg ae,?_⟩;have F1:Fr (λc=>o c≠0∨eo (some C.E) c) h g2:=f2.mono λc _ hc=>.inl (by have hc:o c=1:=hc;omega)
   have F2:=F1.after f3 λc hc h=>.inl ae
   exact F2.after u4.fr λc hc h=>.inl (by have h:c=bp:=h;rw[h];omega)
  | true=>
   rw[aq (by simp)];simp only[go_sem,aO,bd];have ax:=(H.f id).len;rw[ax,aj];refine bK (α:=Unit) P.left.length 0 (λi _=>[af (i:Int)]) (λi _ g=>∃o',aX (λ_=>False) C Z K h0 bw bp o' n V {P with rows:=meetAll K P.rows (P.left.take i)} g∧(∀c,c<h.size→o' c=o c)∧Fr (λc=>o c≠0∨eo (some C.E) c) h g) () rfl (b9 _) ⟨o,H,λ_ _=>rfl,Fr.refl _ _⟩ λi _ g again ρ _ hi ⟨o',HB,oo,f⟩ be=>?_
   have aa:=HB.p id;have al:aH g ⟨bp,4,none⟩=some V.vc:=am aa;have a9:aH g ⟨bp,1,none⟩=some (ptr C.bt):=am aa;have sg:=f.1;simp only[iz];rw[cC,aj];refine ao (λg2=>?_) (λg2=>?_)
   ·have U:i<P.left.length:=ae;have ay:(i:Int)+1=((i+1:Nat):Int):=ae;obtain⟨Zr,ow,_,_⟩:=HB.f id;obtain⟨p,c,a1,a2,a3⟩:=ow.sl.at1 rfl (k:=.i64) (i:=i) U;obtain⟨v,hv,hS⟩:=a3;cases hv;have bc:=a7 _ (cG U);rw[a1,aj,a2,aj];simp only[go_sem,aO,al];refine(XF HB (i:=0) (Hl hS) bc).mono λr L ⟨H3,f3⟩=>?_
    rw[w64 (n:=(i:Int)+1) ae ae,ay];refine be () L U ⟨grow o' 2 g.size L.size,?_,λc hc=>by rw[jg ae];exact oo c hc,f.after f3 λc hc h=>.inl (by rw[←oo c hc];have h:o' c=2:=h;omega)⟩;have e:meetAll K P.rows (P.left.take (i+1))=eI (K+1) (meetAll K P.rows (P.left.take i)) 0 P.left[i]:=by
     unfold meetAll;rw[iY U,D5];rfl
    rw[e];exact H3
   ·have:i=P.left.length:=ae;subst this;rw[An]at HB;simp only[go_sem,aO,a9];obtain⟨s1,s2,s3,s4,s5⟩:=HB.sui.2;refine ag.at (GV HB.set.out HB.sui.1.fits) ?_;have bf:=dx HB.sui.1.fits;have ar:1≤n.w*n.h*n.c:=xS (xS ae ae) ae;have en:n.w*n.h*n.c=C.d.X*C.d.Y*C.m.c:=by rw[s2,s3,s4];rfl
    rw[en]at ar bf ⊢;refine(GW (P:={P with rows:=meetAll K P.rows P.left}) ⟨V,HB⟩ (who:=0) ae (by show P.acc.length≤_;omega) ae ae ar ae).mono λr L ⟨_,W,H3,q3,f3⟩=>?_
    obtain⟨V3,B3,I⟩:=H3.row
    try simp only[go_sem,aO]
    refine ck I (show 12<_ from by simp[jf]) rfl λg4 r4 u4=>?_
    have b1:=B3.po;have H4:=B3.setrow u4 (st:=P.sent) (rt:=true) (pk:=P.picks) r4;refine⟨W,⟨_,H4⟩,λc hc=>(q3 c ae).trans (oo c hc),?_⟩;have F2:=f.after f3 λc hc h=>by rwa [oo c hc]at h
    exact F2.after u4.fr λc hc h=>.inl (by have h:c=bp:=h;rw[←oo c hc,←q3 c ae,h];omega)
end
end
end Go.Proofs.YtjljhnandbbldaaGreatDoor
namespace Go.Proofs.YtjljhnandbbldaaGreatDoor
open Go Go.Crisp
attribute [local irreducible] ag du bh stK aE vK qK bO gK fR bA mkK dy GQ IQ DT bsK clK pG pH Q9
structure QJ (C:C21)(sent:Int)(w:WD)(words:Int):Prop where
 tl:∀x∈w.tiles,0≤x∧x<sent
 st:(w.state=1∧sr (some C.E) w.job∧w.tiles≠[])∨((w.state=0∨w.state=2)∧w.job=none)
 jb:∀t y e,w.job=some (t,y,e)→t=aL C.d (w.tiles.getLast?.getD 0)∧words=ue C (w.tiles.getLast?.getD 0)
structure mF (C:C21)(K:Nat)(P:bH):Prop where
 sent:0≤P.sent∧P.sent≤bU C.d
 st:(P.stamps.length:Int)=P.sent
 q:∀x∈P.q.l,0≤x∧x<P.sent
 w:∀i,i<K→QJ C P.sent (P.ws i) (P.words i)
 tn:∀i,i<K→((P.ws i).tiles.length:Int)≤P.picks
 rows:∀i,i≤K→(P.rows i).length=K+1
 ss:∀s∈P.stamps,s.length=K+1
 fn:P.fin.length≤K+1
 ls:∀s∈P.left,s.length=K+1
 ln:(P.left.length:Int)≤P.picks
 ac:(P.acc.length:Int)≤2+2*P.picks
 pk:0≤P.picks
 cl:P.q.closed=true→P.sent=bU C.d
theorem MI {n:Nat}{rows:Nat→List Int}(h:∀i,i<n→(rows i).length=n)(i:Int):∀j,j<n→(jP n rows i j).length=n:=by
 intro j A;unfold jP;split
 ·rename_i hi;by_cases e:j=i.toNat
  ·simp only[e,cN,IY];exact h _ ae
  ·simp only[e,cH];exact h j A
 ·exact h j A
theorem IT {n:Nat}{rows:Nat→List Int}(h:∀i,i<n→(rows i).length=n)(i:Int)(s:List Int):∀j,j<n→(eI n rows i s j).length=n:=by
 intro j F;unfold eI;split
 ·rename_i A;unfold GC at A;simp only[dj,dd]at A;by_cases e:j=i.toNat
  ·simp only[e,cN,pR];rw[h _ ae,A.2.1,Nat.max_self]
  ·simp only[e,cH];exact h j F
 ·exact h j F
theorem zaS {C:C21}(O:C.Ok){x:Int}(h1:0≤x)(A:x<bU C.d):1≤ue C x∧ue C x≤100000000000:=by
 have L:=dx O.m.fits;have H:=gI O.d h1 A;unfold eF at H;have I:1*1≤(aL C.d x).w*C.m.c:=rB ae ae ae ae;have F:1≤(lg (cJ C.d.s.y.lines):Int)∧(lg (cJ C.d.s.y.lines):Int)≤65536:=by unfold lg;omega
 have G:1≤(iq ((aL C.d x).w*C.m.c):Int)∧(iq ((aL C.d x).w*C.m.c):Int)≤262144:=by unfold iq;omega
 have h1:1*1≤(lg (cJ C.d.s.y.lines):Int)*(iq ((aL C.d x).w*C.m.c):Int):=rB F.1 G.1 ae ae;have A:=rB F.2 G.2 ae (show(0:Int)≤65536 by omega);unfold ue;omega
theorem Jy {l:List Int}(h:l≠[]):l.getLast?.getD 0∈l:=by
 rw[List.getLast?_eq_some_getLast h];exact List.getLast_mem h
theorem QJ.step {C:C21}{sent:Int}{w:WD}{words:Int}{q:QD}(H:QJ C sent w words)(hq:∀x∈q.l,0≤x∧x<sent):
  QJ C sent (cg (some C.E) (C.jo (bC q)) w q).1 (if w.state=0∧cV q=0 then ue C (bC q)else words):=by
 have sk:∀(jo:Option (cP×Int×Int)) (tl:List Int),(jo≠none→tl≠[])→(stJ (cn (some C.E) jo)=1∧sr (some C.E) (cn (some C.E) jo)∧tl≠[])∨((stJ (cn (some C.E) jo)=0∨stJ (cn (some C.E) jo)=2)∧cn (some C.E) jo=none):=λjo tl h=>by
  rcases DQ (some C.E) jo with⟨h1,W,I⟩|h1
  ·refine .inl ⟨?_,W,h ?_⟩
   ·rcases Cz (E:=some C.E) (jo:=jo)with h|h
    ·exact h.1
    ·exact absurd h.2 h1
   ·rw[←I];exact h1
  ·refine .inr ⟨?_,h1⟩;rw[h1];exact .inl rfl
 have L:∀(jo:Option (cP×Int×Int)) t y e,cn (some C.E) jo=some (t,y,e)→jo=some (t,y,e):=λjo t y e h=>by
  rcases DQ (some C.E) jo with⟨_,_,I⟩|h1
  ·rw[←I];exact h
  ·rw[h1]at h;cases h
 obtain⟨st,tl,jo,wd⟩:=w;obtain⟨h1,W,I⟩:=H;unfold cg;rcases W with⟨A,G,s3⟩|⟨A|A,G⟩
 ·have A:st=1:=A;subst A;cases jo with
  |none=>exact(show False from G).elim
  |some x=>
   obtain⟨t,y,e⟩:=x;rw[aA rfl,aq (show¬((1:Int)=0∧_)from λh=>ae)];refine⟨h1,sk _ _ λ_=>s3,λt' y' e' h=>?_⟩;have h:=L (some (t,dP (C.E.d t) y e,fm (C.E.d t) y e)) _ _ _ h;have h:some (t,dP (C.E.d t) y e,fm (C.E.d t) y e)=some (t',y',e'):=h;cases h;exact I t y e rfl
 ·have A:st=0:=A;subst A;have G:jo=none:=G;subst G;rw[aq (show¬(0:Int)=1 by omega),aq (show¬(0:Int)=2 by omega)];by_cases F:cV q=0
  ·rw[aA F,aA ⟨rfl,F⟩];have hm:bC q∈q.l:=by
    unfold cV at F;unfold bC;cases hl:q.l with
    |nil=>rw[hl,aA rfl]at F;split at F<;>omega
    |cons a l=>simp
   have hx:=hq _ hm;refine⟨λx U=>?_,sk _ _ λ_=>by simp[xn],λt y e h=>?_⟩
   ·rcases cQ.1 U with h|h
    ·exact h1 x h
    ·rw[dc.1 h];exact hx
   ·have h:=L (C.jo (bC q)) _ _ _ h;have h:some (JD C.d (bC q))=some (t,y,e):=h;unfold JD at h;cases h;show _=aL C.d ((tl++[bC q]).getLast?.getD 0)∧_=ue C ((tl++[bC q]).getLast?.getD 0);simp
  ·rw[aq F,aq (show¬((0:Int)=0∧cV q=0)from λh=>F h.2)];split
   ·exact⟨h1,.inr ⟨.inr rfl,rfl⟩,λt y e h=>by cases h⟩
   ·exact⟨h1,.inr ⟨.inl rfl,rfl⟩,λt y e h=>by cases h⟩
 ·have A:st=2:=A;subst A;rw[aq (show¬(2:Int)=1 by omega),aA rfl,aq (show¬((2:Int)=0∧_)from λh=>ae)];exact⟨h1,.inr ⟨.inr rfl,G⟩,I⟩
end Go.Proofs.YtjljhnandbbldaaGreatDoor
namespace Go.Proofs.YtjljhnandbbldaaGreatDoor
open Go Go.Crisp
attribute [local irreducible] ag du bh stK aE vK qK bO gK fR bA mkK dy GQ IQ DT bsK clK pG pH Q9
open _root_.Go.Proofs.Tryz
section
structure DV where
 X:Value
 Y:Value
 tv:Value
 mv:Value
 ql:Value
 cv:Value
 wv:Value
 av:Value
 st:Value
 en:Value
 lf:Value
def dpC (C:C21)(P:bH)(V:DV):List Value:=[V.X,V.Y,.int .i64 C.d.s.x.n,.int .i64 C.d.s.y.n,.int .i64 C.d.s.border,.int .i64 C.m.c,V.tv,V.mv,.int .i64 P.q.room,V.ql,.bool P.q.closed,V.cv,V.wv,V.av,.int .i64 P.sent,.bool P.q.closed,.bool P.ret,V.st,V.en,V.lf]
structure DAt (Z:Nat→Prop)(C:C21)(K N:Nat)(P:bH)(V:DV)(h:ah):Prop where
 x:Rp.Sl mP Z h V.X C.d.s.x.lines
 y:Rp.Sl mP Z h V.Y C.d.s.y.lines
 t:Rp.Sl FH Z h V.tv (dJ C.d N)
 m:Rp.Sl zeB Z h V.mv (Gy C N)
 q:Rp.Sl (Rp.int .i64) Z h V.ql P.q.l∧Rp.SlCap V.ql
 c:Rp.Sl rIs Z h V.cv ((List.range (K+1)).map P.rows)
 w:Rp.Sl rVD Z h V.wv ((List.range K).map λi=>vOf C.E (P.ws i))
 a:Rp.Sl lL Z h V.av P.acc
 s:Rp.Sl rIs Z h V.st P.stamps
 e:Rp.Sl (Rp.int .i64) Z h V.en P.fin
 f:Rp.Sl rIs Z h V.lf P.left
section
variable {Z:Nat→Prop}{C:C21}{K N:Nat}{P:bH}{V:DV}{h:ah}
theorem DAt.fr {M:Nat→Prop}{h':ah}(H:DAt Z C K N P V h)(f:Fr M h h')(q:∀b,b<h.size→Z b→¬M b):DAt Z C K N P V h':=
 ⟨H.x.fr f q,H.y.fr f q,H.t.fr f q,H.m.fr f q,⟨H.q.1.fr f q,H.q.2⟩,H.c.fr f q,H.w.fr f q,H.a.fr f q,H.s.fr f q,H.e.fr f q,H.f.fr f q⟩
theorem DAt.ext {h':ah}(H:DAt Z C K N P V h)(k:Ext h h'):DAt Z C K N P V h':=H.fr (M:=λ_=>False) k.fr λ_ _ _=>id
theorem DAt.mono {Z':Nat→Prop}(H:DAt Z C K N P V h)(q:∀b,b<h.size→Z b→Z' b):DAt Z' C K N P V h:=
 ⟨H.x.mono q,H.y.mono q,H.t.mono q,H.m.mono q,⟨H.q.1.mono q,H.q.2⟩,H.c.mono q,H.w.mono q,H.a.mono q,H.s.mono q,H.e.mono q,H.f.mono q⟩
theorem DAt.ones (H:DAt Z C K N P V h):∀v∈dpC C P V,aV v=true:=
 az H.x.one (az H.y.one (az rfl (az rfl (az rfl (az rfl (az H.t.one (az H.m.one (az rfl (az H.q.1.one (az rfl (az H.c.one (az H.w.one (az H.a.one (az rfl (az rfl (az rfl (az H.s.one (az H.e.one (az H.f.one bi)))))))))))))))))))
end
def DTo (Z:Nat→Prop)(C:C21)(K N:Nat)(h:ah)(P:bH)(r:Value)(h':ah):Prop:=∃Z' V,r=.agg (dpC C P V).toArray∧DAt Z' C K N P V h'∧(∀c,Z' c→(Z c∨h.size≤c)∧c<h'.size)∧Ext h h'
theorem zcY {h:ah}{U G:Nat}{l:List Value}{T:TypeId}{A:Array Value}{n:Nat}{R:Value→ah→Prop}(r1:h[U]? =some (.cells l.toArray T (0,0)))(r3:h[G]? =some (.cells A T (0,0)))(H:l.length=n)(ho:A.size=n)(h1:∀v∈l,aV v=true)
  (W:∀h',Upd G h h'→R (.agg l.toArray) h'):vK (aR n h (ptr U)) λL=>stK n (ptr G) L h λaa F=>vK (aR n F (ptr G)) λI=>R I F:=by
 rw[aW r1 n H,aj];refine da r3 ae h1 H λh' r' u=>?_
 rw[aW r' n H,aj];exact W h' u
theorem zeC {Z:Nat→Prop}{h:ah}{v:Value}{l:List (List Int)}{k:IntKind}{i:Nat}(H:Rp.Sl rIs Z h v l)(hi:i<l.length):∃p s,bu 1 v (.int k (i:Int))=some p∧ldV h p=some s∧Rp.Sl (Rp.int .i64) Z h s l[i]:=by
 obtain⟨b,o,cs,h1,G,F,⟨s,rfl,A⟩,_⟩:=H.atp (show 0<rIs.w from Nat.one_pos) (k:=k) hi;refine⟨_,s,h1,?_,A⟩;rw[mf];exact F 0 (by simp)
section
variable {Z:Nat→Prop}{C:C21}{K N:Nat}{P:bH}{V:DV}{h:ah}
theorem Rz (H:DAt Z C K N P V h)(zl:∀c,Z c→c<h.size){who:Nat}(hw:who≤K){buf lo cnt:Int}{wr:Bool}(hl:P.acc.length≤1000000)(h1:0≤lo)(h2:0≤cnt)(h3:lo+cnt≤1000000000000):
  ag prog vH #[.agg (dpC C P V).toArray,af (who:Int),af buf,af lo,af cnt,.bool wr] h (DTo Z C K N h (uV P who buf lo cnt wr)):=by
 apply PZ;unfold EV;rw[bT];refine aJ λU g1 r1 e1 n1=>aJ λb3 g3 r3 e3 n3=>?_
 have k1:=bD r1;have k3:=bD r3;have s1:=e1.1;have s3:=e3.1;have r1:=e3.row r1;have H3:=H.ext (e1.trans e3);have ar:aH g3 ⟨U,11,none⟩=some V.cv:=am r1;simp only[go_sem,aO,ar];have aa:who<((List.range (K+1)).map P.rows).length:=by simp;omega
 obtain⟨p,s,i1,i2,i3⟩:=zeC (k:=.i64) H3.c aa;have e0:((List.range (K+1)).map P.rows)[who]=P.rows who:=by simp
 rw[e0]at i3;simp only[go_sem,i1,i2];rw[w64 (n:=lo+cnt) ae ae,Vy i3.one,bJ,aj];have oa:∀v∈[af (who:Int),s,af buf,af lo,af (lo+cnt),.bool wr],aV v=true:=az rfl (az i3.one (az rfl (az rfl (az rfl (az rfl bi)))));refine dh (cs:=[af (who:Int),s,af buf,af lo,af (lo+cnt),.bool wr]) rfl oa rfl λb5 I r5 W n5=>?_
 have s5:=W.1;have k5:=bD r5;have E5:Ext h I:=e1.trans (e3.trans W);have H5:=H3.ext W;have ab:=W.row r1;have an:=W.row r3;refine bF (λxs g=>xs=[]∧∃Z' A,DAt Z' C K N (uV P who buf lo cnt wr) {V with av:=A} g∧g[U]? =some (.cells (dpC C (uV P who buf lo cnt wr) {V with av:=A}).toArray 48 (0,0))∧g[b3]? =some (.cells aK 48 (0,0))∧(∀c,Z' c→(Z c∨h.size≤c)∧c<g.size∧c≠b3)∧Ext h g) ?_ ?_
 ·refine aS (Ext I) (Ext.refl _) ?_;have M0:Cp lL Z I none none I:=Cp.start I λc hc=>ce (zl c hc) E5.1
  have q1:∀F,Ext I F→aH F ⟨U,13,none⟩=some V.av:=λF e=>am (e.row ab)
  have q2:∀F,Ext I F→aR 6 F (ptr b5)=some (.agg [af (who:Int),s,af buf,af lo,af (lo+cnt),.bool wr].toArray):=λF e=>aW (e.row r5) 6 rfl
  refine aD V.av q1 ?_;refine aD _ q2 ?_;have hx:lL.R Z I [af (who:Int),s,af buf,af lo,af (lo+cnt),.bool wr] ⟨who,P.rows who,buf,lo,lo+cnt,wr⟩:=⟨s,rfl,i3.ext W⟩
  have fin:∀A F,Rp.Ow lL Z F A (([]:List Acc)++P.acc++[⟨who,P.rows who,buf,lo,lo+cnt,wr⟩])→Ext I F→(∀b,blk A b→I.size≤b)→stK 1 (.pointer (some ⟨U,13,none⟩)) A F λ_ G=>([]:List Value)=[]∧∃Z' A,DAt Z' C K N (uV P who buf lo cnt wr) {V with av:=A} G∧G[U]? =some (.cells (dpC C (uV P who buf lo cnt wr) {V with av:=A}).toArray 48 (0,0))∧G[b3]? =some (.cells aK 48 (0,0))∧(∀c,Z' c→(Z c∨h.size≤c)∧c<G.size∧c≠b3)∧Ext h G:=by
   intro A F o e n;have al:=e.row ab;refine ck al (by show 13<(dpC C P V).toArray.size;simp[dpC]) o.one λg7 r7 u7=>⟨rfl,λc=>(Z c∧c<h.size)∨blk A c,A,?_,r7,u7.row ae (e.row an),λc hc=>?_,(E5.trans e).upd n1 u7⟩
   ·have hz:∀c,Z c→¬c=U:=λc hc h=>by have:=zl c hc;omega
    have H7:=((H5.ext e).mono (Z':=λc=>(Z c∧c<h.size)∨blk A c) λc _ hc=>.inl ⟨hc,zl c hc⟩)
    have o7:Rp.Sl lL (λc=>(Z c∧c<h.size)∨blk A c) F A (P.acc++[⟨who,P.rows who,buf,lo,lo+cnt,wr⟩]):=o.sl.mono λc _ hc=>hc.imp (λhc=>⟨hc,zl c hc⟩) id
    have q:∀c,c<F.size→((Z c∧c<h.size)∨blk A c)→¬c=U:=λc _ hc h=>by
     rcases hc with hc|hc
     ·exact hz c hc.1 h
     ·have:=n c hc;omega
    have L:=H7.fr u7.fr q;exact⟨L.x,L.y,L.t,L.m,L.q,L.c,L.w,o7.fr u7.fr q,L.s,L.e,L.f⟩
   ·have s7:=u7.1;have se:=e.1;rcases hc with hc|hc
    ·exact⟨.inl hc.1,ae,ae⟩
    ·have:=n c hc;have:=o.lt hc;exact⟨.inr ae,ae,ae⟩
  repeat' first
   |exact fin _ _ ‹_› ‹_› ‹_›
   |exact Cp.ext ‹Cp _ _ _ _ _ _›
   |exact ‹Ext I _›
   |refine And.intro ?_ ?_
   |refine Cp.row0 ‹Cp _ _ _ none _ _› λv F M=>?_
   |refine Cp.row1 (e:=lL) ‹Cp lL _ _ _ none _› hx rfl λv F M=>?_
   |refine Cp.app (e:=lL) (l:=[]) ‹Cp lL _ _ (some (_,[])) _ _› H5.a rfl (by simp;omega) (by simp;omega) λv F M=>?_
   |refine Cp.app1 (e:=lL) (l:=[]++P.acc) ‹Cp lL _ _ (some (_,[]++P.acc)) (some _) _› rfl (by simp;omega) (by simp;omega) λv F o e n=>?_
 ·rintro xs ρ g6 ⟨rfl,Z',A,H6,r6,ad,z6,E6⟩;refine zcY r6 ad rfl rfl H6.ones λg8 u8=>⟨Z',_,rfl,H6.fr u8.fr λc _ hc=>(z6 c hc).2.2,λc hc=>⟨(z6 c hc).1,by rw[u8.1];exact(z6 c hc).2.1⟩,E6.upd ae u8⟩
end
end
end Go.Proofs.YtjljhnandbbldaaGreatDoor
namespace Go.Proofs.YtjljhnandbbldaaGreatDoor
open Go Go.Crisp
attribute [local irreducible] ag du bh stK aE vK qK bO gK fR bA mkK dy GQ IQ DT bsK clK pG pH Q9
section
section
variable {Z:Nat→Prop}{C:C21}{K N:Nat}{P:bH}{V:DV}{h:ah}
def TQ (rows:Nat→List Int)(i:Nat)(s:List Int):Nat→List Int:=λj=>if j=i then zI (rows i) s else rows j
theorem Rb {n:Nat}{rows:Nat→List Int}{i:Nat}{s:List Int}(hi:i<n)(A:s.length=n)(h0:∀x∈s,0≤x):eI n rows (i:Int) s=TQ rows i s:=by
 have:GC n (i:Int) s=true:=by
  unfold GC;simp only[dj,dd,Jt,List.any_eq_false,dd];exact⟨⟨ae,ae⟩,A,λx F=>by have:=h0 x F;simp;omega⟩
 unfold eI TQ;rw[aA this,dW]
end
end
section
theorem FV {α:Type}{e:Rp α}{Z:Nat→Prop}{h:ah}{v:Value}{l:List α}(H:Rp.Sl e Z h v l):aC v=some (af (l.length:Int)):=by obtain⟨a,c,e⟩:=H.isSl;rw[e];rfl
section
variable {Z:Nat→Prop}{C:C21}{K N:Nat}{P:bH}{V:DV}{h:ah}
end
end
section
theorem RY (d:QD)(x:Int):(jJ d x).closed=d.closed:=by
 unfold jJ;split
 ·rfl
 ·split<;>rfl
section
variable {Z:Nat→Prop}{C:C21}{K N:Nat}{P:bH}{V:DV}{h:ah}
end
end
end Go.Proofs.YtjljhnandbbldaaGreatDoor
namespace Go.Proofs.YtjljhnandbbldaaGreatDoor
open Go Go.Crisp
attribute [local irreducible] ag du bh stK aE vK qK bO gK fR bA mkK dy GQ IQ DT bsK clK pG pH Q9
open _root_.Go.Proofs.Tryz
section
section
variable {C:C21}{K:Nat}{P:bH}
theorem QJ.more {s A:Int}{w:WD}{k:Int}(H:QJ C s w k)(h:s≤A):QJ C A w k:=⟨λx F=>by have:=H.tl x F;omega,H.st,H.jb⟩
theorem zcU (H:mF C K P)(h:P.sent<bU C.d):mF C K (zei K {P with picks:=P.picks+1}):=by
 have h1:=H.sent;have I:=H.st;have L:=H.pk;refine⟨⟨by show 0≤P.sent+1;omega,by show P.sent+1≤_;omega⟩,by show((P.stamps++[P.rows 0]).length:Int)=P.sent+1;rw[co];simp only[pJ,kS];omega,λx A=>?_,λi hi=>(H.w i hi).more (by show P.sent≤P.sent+1;omega),λi hi=>by have:=H.tn i hi;show _≤P.picks+1;exact pL this ae,λi hi=>MI (λj G=>H.rows j ae) 0 i ae,λs F=>?_,H.fn,H.ls,by have:=H.ln;show _≤P.picks+1;exact pL this ae,by have:=H.ac;show(P.acc.length:Int)≤2+2*(P.picks+1);omega,by show 0≤P.picks+1;omega,λhc=>?_⟩
 ·have A:x∈(jJ P.q P.sent).l:=A;show 0≤x∧x<P.sent+1;unfold jJ at A;split at A
  ·have:=H.q x A;omega
  ·split at A
   ·have:=H.q x A;omega
   ·rcases cQ.1 A with A|A
    ·have:=H.q x A;omega
    ·have:=dc.1 A;omega
 ·rcases cQ.1 F with F|F
  ·exact H.ss s F
  ·rw[dc.1 F];exact H.rows 0 ae
 ·have hc:(jJ P.q P.sent).closed=true:=hc;have hc:P.q.closed=true:=by
   unfold jJ at hc;split at hc
   ·exact hc
   ·split at hc<;>exact hc
  have:=H.cl hc;omega
theorem zb3 (H:mF C K P)(h:¬P.sent<bU C.d):mF C K (zb4 K {P with picks:=P.picks+1}):=by
 have h1:=H.sent;have F:=H.pk;exact⟨H.sent,H.st,H.q,H.w,λi hi=>by have:=H.tn i hi;show _≤P.picks+1;exact pL this ae,λi hi=>MI (λj A=>H.rows j ae) 0 i ae,H.ss,by show(P.rows 0).length≤_;rw[H.rows 0 ae];exact cf _,H.ls,by have:=H.ln;show _≤P.picks+1;exact pL this ae,by have:=H.ac;show(P.acc.length:Int)≤2+2*(P.picks+1);omega,by show 0≤P.picks+1;omega,λ_=>by show P.sent=_;omega⟩
theorem Uh {rows:Nat→List Int}(h:∀i,i≤K→(rows i).length=K+1):∀(l:List (List Int)) i,i≤K→(meetAll K rows l i).length=K+1:=by
 intro l;induction l generalizing rows with
 |nil=>exact h
 |cons s l A=>exact A (rows:=eI (K+1) rows 0 s) λi hi=>IT (λj F=>h j ae) 0 s i ae
theorem zdz (H:mF C K P):mF C K (zeo C K {P with picks:=P.picks+1}):=by
 have A:=H.pk;exact⟨H.sent,H.st,H.q,H.w,λi hi=>by have:=H.tn i hi;show _≤P.picks+1;exact pL this ae,Uh H.rows P.left,H.ss,H.fn,H.ls,by have:=H.ln;show _≤P.picks+1;exact pL this ae,by have:=H.ac;show((P.acc++[_]).length:Int)≤2+2*(P.picks+1);rw[co];simp only[pJ,kS];omega,by show 0≤P.picks+1;omega,H.cl⟩
theorem X6 {E:Option WE}{jo:Option (cP×Int×Int)}{w:WD}{q:QD}:(∀x∈(cg E jo w q).2.1.l,x∈q.l)∧(cg E jo w q).2.1.closed=q.closed:=by
 have A:(∀x∈(kI q).l,x∈q.l)∧(kI q).closed=q.closed:=⟨λx F=>Ym F,rfl⟩
 unfold cg;split
 ·split
  ·exact⟨λ_ h=>h,rfl⟩
  ·exact⟨λ_ h=>h,rfl⟩
 ·split
  ·exact⟨λ_ h=>h,rfl⟩
  ·split
   ·exact A
   ·split<;>exact A
theorem zcS (H:mF C K P){k:Nat}(A:k<K):mF C K (cB C {P with picks:=P.picks+1} k):=by
 have L:=H.pk;have hq:=X6 (E:=some C.E) (jo:=C.jo (bC P.q)) (w:=P.ws k) (q:=P.q);have F:=(H.w k A).step H.q;have I:=Uy (E:=some C.E) (jo:=C.jo (bC P.q)) (w:=P.ws k) (d:=P.q);refine⟨H.sent,H.st,λx G=>H.q x (hq.1 x G),λi hi=>?_,λi hi=>?_,H.rows,H.ss,H.fn,H.ls,by have:=H.ln;show _≤P.picks+1;exact pL this ae,by have:=H.ac;show(P.acc.length:Int)≤2+2*(P.picks+1);omega,by show 0≤P.picks+1;omega,λhc=>H.cl (by rw[←hq.2];exact hc)⟩
 ·by_cases e:i=k
  ·subst e;show QJ C P.sent (if i=i then(cg (some C.E) (C.jo (bC P.q)) (P.ws i) P.q).1 else P.ws i) (if i=i∧(P.ws i).state=0∧cV P.q=0 then ue C (bC P.q)else P.words i);simp only[cN,Av];exact F
  ·show QJ C P.sent (if i=k then _ else P.ws i) (if i=k∧_ then _ else P.words i);rw[aq e,aq λh=>e h.1];exact H.w i hi
 ·by_cases e:i=k
  ·subst e;show(((if i=i then(cg (some C.E) (C.jo (bC P.q)) (P.ws i) P.q).1 else P.ws i).tiles.length:Nat):Int)≤P.picks+1;rw[aA rfl];have:=H.tn i A;omega
  ·show(((if i=k then(cg (some C.E) (C.jo (bC P.q)) (P.ws k) P.q).1 else P.ws i).tiles.length:Nat):Int)≤P.picks+1;rw[aq e];have:=H.tn i hi;omega
theorem zcN (H:mF C K P){k:Nat}(W:k<K):mF C K (gd C K {P with picks:=P.picks+1} k):=by
 have S:=zcS H W;have L:=H.ac;have U:=H.ln;unfold gd;split
 ·exact⟨S.sent,S.st,S.q,S.w,S.tn,λi hi=>IT (λj I=>H.rows j ae) _ _ i ae,S.ss,S.fn,S.ls,S.ln,S.ac,S.pk,S.cl⟩
 ·split
  ·have F:((pE C (cB C {P with picks:=P.picks+1} k) k (evP C {P with picks:=P.picks+1} k)).acc.length:Int)≤2+2*(P.picks+1):=by
    unfold pE;split
    ·show(((P.acc++[_])++[_]).length:Int)≤_;simp only[co,pJ,kS];omega
    ·show(((P.acc++[_])++[_]).length:Int)≤_;simp only[co,pJ,kS];omega
   unfold pE at F ⊢;split at F
   ·rename_i hc;rw[aA hc];exact⟨S.sent,S.st,S.q,S.w,S.tn,S.rows,S.ss,S.fn,S.ls,S.ln,F,S.pk,S.cl⟩
   ·rename_i hc;rw[aq hc];exact⟨S.sent,S.st,S.q,S.w,S.tn,S.rows,S.ss,S.fn,S.ls,S.ln,F,S.pk,S.cl⟩
  ·split
   ·have G:∀i,i≤K→(eI (K+1) P.rows (k+1:Nat) P.fin i).length=K+1:=λi hi=>IT (λj I=>H.rows j ae) _ _ i ae
    refine⟨S.sent,S.st,S.q,S.w,S.tn,λi hi=>MI (λj I=>G j ae) _ i ae,S.ss,S.fn,λs A=>?_,?_,S.ac,S.pk,S.cl⟩
    ·rcases cQ.1 A with A|A
     ·exact H.ls s A
     ·rw[dc.1 A];exact G (k+1) ae
    ·show((P.left++[_]).length:Int)≤P.picks+1;rw[co];simp only[pJ,kS];omega
   ·exact S
theorem Yg (H:mF C K P)(i:Int):mF C K (ic C K P i):=by
 unfold ic;split
 ·exact H
 ·rename_i A;split
  ·unfold xR;split
   ·rename_i h;exact zcU H h
   ·rename_i h;split
    ·exact zb3 H h
    ·exact zdz H
  ·rename_i h0;have hi:0<i∧i≤K:=by
    unfold fQ at A;split at A
    ·exact absurd rfl A
    ·omega
   exact zcN H ae
end
section
variable {C:C21}{Z:Nat→Prop}{K:Nat}{h0 h:ah}{bw:Nat→Nat}{bp:Nat}{o:Nat→Nat}{n:Pic}{P:bH}
theorem IsW.job_at {Z B:Nat→Prop}{h:ah}{bw:Nat}{E:WE}{n:Pic}{w:WD}(H:IsW Z B h bw (some E) n w):∀t y e,w.job=some (t,y,e)→t.y≤y∧y<t.y+t.h∧lnF E.s.y y≤e∧e≤lnE E.s.y y:=by
 obtain⟨⟨tv,L,U,r,o,J,_⟩,_,_,_,_,_,st⟩:=H;intro t y e G;rw[G]at J st;obtain⟨W,I,ok,hc,bj,rv,_,S⟩:=J;cases I;obtain⟨⟨M,rs,J,_,k⟩,_⟩:=S;rcases st with⟨_,A,_⟩|⟨_,h⟩
 ·have A:bR (E.d t) y e≠0:=A;unfold bR at A;split at A
  ·exact absurd rfl A
  ·rename_i F;have F:¬t.y+t.h≤y:=F;have:=k (by show y<t.y+t.h;omega);exact⟨J.y0,ae,this.2⟩
 ·cases h
theorem CG {q:QD}(h:cV q=0):bC q∈q.l:=by
 unfold cV at h;unfold bC;cases A:q.l with
 |nil=>rw[A,aA rfl]at h;split at h<;>omega
 |cons a l=>simp
theorem RU {E:WE}{jo:Option (cP×Int×Int)}{w:WD}{q:QD}(h:(w.state=1∧sr (some E) w.job∧w.tiles≠[])∨((w.state=0∨w.state=2)∧w.job=none))(F:(cg (some E) jo w q).2.2.1=1):(cg (some E) jo w q).2.2.2.1=bC q∧w.state=0∧cV q=0:=by
 obtain⟨st,tl,j,I⟩:=w;unfold cg at F ⊢;rcases h with⟨A,H,_⟩|⟨A|A,H⟩
 ·have A:st=1:=A;subst A;cases j with
  |none=>exact(show False from H).elim
  |some x=>exact absurd (show(2:Int)=1 from F) ae
 ·have A:st=0:=A;subst A;rw[aq (show¬(0:Int)=1 by omega),aq (show¬(0:Int)=2 by omega)]at F ⊢;by_cases G:cV q=0
  ·rw[aA G];exact⟨rfl,rfl,G⟩
  ·rw[aq G]at F;split at F
   ·exact absurd (show(3:Int)=1 from F) ae
   ·exact absurd (show(0:Int)=1 from F) ae
 ·have A:st=2:=A;subst A;rw[aq (show¬(2:Int)=1 by omega),aA rfl]at F;exact absurd (show(0:Int)=1 from F) ae
theorem Of {E:WE}{jo:Option (cP×Int×Int)}{w:WD}{q:QD}(h:(w.state=1∧sr (some E) w.job∧w.tiles≠[])∨((w.state=0∨w.state=2)∧w.job=none))(F:(cg (some E) jo w q).2.2.1=2):
  ∃t y e,w.job=some (t,y,e)∧w.state=1∧(cg (some E) jo w q).2.2=(2,w.tiles.getLast?.getD 0,bR (E.d t) y e,gh (E.d t) y e)∧bR (E.d t) y e≠0:=by
 obtain⟨st,tl,j,I⟩:=w;unfold cg at F ⊢;rcases h with⟨A,G,_⟩|⟨A|A,G⟩
 ·have A:st=1:=A;subst A;cases j with
  |none=>exact(show False from G).elim
  |some x=>exact⟨x.1,x.2.1,x.2.2,rfl,rfl,rfl,G⟩
 ·have A:st=0:=A;subst A;rw[aq (show¬(0:Int)=1 by omega),aq (show¬(0:Int)=2 by omega)]at F;by_cases H:cV q=0
  ·rw[aA H]at F;exact absurd (show(1:Int)=2 from F) ae
  ·rw[aq H]at F;split at F
   ·exact absurd (show(3:Int)=2 from F) ae
   ·exact absurd (show(0:Int)=2 from F) ae
 ·have A:st=2:=A;subst A;rw[aq (show¬(2:Int)=1 by omega),aA rfl]at F;exact absurd (show(0:Int)=2 from F) ae
theorem zbv {t:Tbl}(W:t.Wf)(y:Int): -70368744177664≤(bG t y).1∧(bG t y).1≤70368744177664∧(bG t y).2.length≤1048576:=by
 unfold bG;split
 ·rw[dA];by_cases h:y.toNat<t.lines.length
  ·rw[iI h];have:=W.taps _ (cG h);exact⟨this.2.1,this.2.2,this.1⟩
  ·rw[D3 ae];exact⟨by decide,by decide,by decide⟩
 ·exact⟨by decide,by decide,by decide⟩
def Zq (C:C21)(K:Nat)(P:bH)(i:Int)(n n':Pic):Prop:=if fQ C K P i=true∧i≠0 then DK (some C.E) (P.ws (i-1).toNat) n n' else n'=n
theorem zfj (O:C.Ok)(G:eW h0)(H:eV C Z K h0 bw bp o n P h)(W:mF C K P){i:Int}(hi:I64 i)(ar:P.picks≤400000)(ad:bU C.d≤1000000)(hb:∀c,eo (some C.E) c→h0.size≤c):
  ag prog ke #[ptr bp,af i] h λr h'=>r=.bool (fQ C K P i)∧∃n',PTo C Z K h0 bw bp o h n' (ic C K P i) h'∧Zq C K P i n n':=by
 apply IL;unfold xI;refine ag.at (zb9 O H hi) ?_;unfold ic Zq;have w1:=W.pk;have w2:=W.ac;have w3:=W.ln;have w4:=W.sent;have w5:=W.st;cases hr:fQ C K P i with
 |false=>
  simp only[go_sem];exact⟨trivial,n,by simpa using PTo.refl H,by simp⟩
 | true=>
  obtain⟨V,HB,row⟩:=H.row;have hp:=HB.po;have hK:=HB.few;have ab:aH h ⟨bp,13,none⟩=some (af P.picks):=am row;simp only[go_sem,aO,ab];rw[w64 (n:=P.picks+1) ae ae];refine ck row (show 13<_ from by simp[jf]) rfl λg r u=>?_
  have al:=HB.setrow u (st:=P.sent) (rt:=P.ret) (pk:=P.picks+1) r;have H1:eV C Z K h0 bw bp o n {P with picks:=P.picks+1} g:=⟨V,al⟩
  have F1:Fr (λc=>o c≠0∨eo (some C.E) c) h g:=u.fr.mono λc _ hc=>.inl (by have hc:c=bp:=hc;rw[hc];omega)
  have T:∀{n' P' h'},PTo C Z K h0 bw bp o g n' P' h'→PTo C Z K h0 bw bp o h n' P' h':=λ{n' P' h'} t=>PTo.trans (h1:=g) ⟨H1,λ_ _=>rfl,F1⟩ t
  rw[aq (by simp)];by_cases F:i=0
  ·subst F;simp only[go_sem];refine(zfa O H1 (by show P.acc.length≤_;omega) (by show P.stamps.length≤_;omega) w4.1 (λs hs=>by have:=W.ls s hs;omega) (by show P.left.length≤_;omega) ad).mono λr g2 t=>⟨trivial,n,T t,?_⟩
   simp
  ·simp only[go_sem,F];have an:0<i∧i≤K:=by
    unfold fQ at hr;split at hr
    ·cases hr
    ·omega
   obtain⟨k,rfl⟩:∃k:Nat,i=(k:Int)+1:=⟨(i-1).toNat,ae⟩
   have hk:k<K:=ae;have ek:((k:Int)+1-1).toNat=k:=ae;rw[ek];have U:=W.w k hk;have tk:=W.tn k hk;have IW:=HB.ws k hk id;refine(ze5 O G H1 hk (by show(P.ws k).tiles.length≤_;omega) hb (by show P.acc.length≤_;omega) (by show P.left.length≤_;omega) (λI=>?_) (λA=>?_) (λs hs=>by have:=W.ss s hs;omega) (by have:=W.fn;show P.fin.length≤_;omega) λA=>?_).mono λr g2 ⟨n',t,Dr⟩=>⟨trivial,n',by rw[aq (λh:False=>h)];exact T t,?_⟩
   ·have I:(P.ws k).state=0∧cV P.q=0:=I;have hm:=CG I.2;have:=W.q _ hm;show 0≤bC P.q∧bC P.q<bU C.d;omega
   ·have A:(cg (some C.E) (C.jo (bC P.q)) (P.ws k) P.q).2.2.1=1:=A;obtain⟨e1,e2⟩:=RU U.st A;have hm:=CG e2.2;have:=W.q _ hm;have ee:(evP C {P with picks:=P.picks+1} k).2.1=bC P.q:=e1;rw[ee];show 0≤bC P.q∧bC P.q<(P.stamps.length:Int);omega
   ·have A:(cg (some C.E) (C.jo (bC P.q)) (P.ws k) P.q).2.2.1=2:=A;obtain⟨t,y,e,hj,s1,ev,L⟩:=Of U.st A;have aa:(P.ws k).tiles≠[]:=by
     rcases U.st with h|h
     ·exact h.2.2
     ·rw[h.2]at hj;cases hj
    have hl:=U.tl _ (Jy aa);obtain⟨j1,j2⟩:=U.jb t y e hj;obtain⟨a1,a2,a3,a4⟩:=IW.job_at t y e hj;have hx:0≤(P.ws k).tiles.getLast?.getD 0∧(P.ws k).tiles.getLast?.getD 0<bU C.d:=ae;have wt:=gI O.d hx.1 hx.2;rw[←j1]at wt;unfold eF at wt;have ew:(cB C {P with picks:=P.picks+1} k).words k=ue C ((P.ws k).tiles.getLast?.getD 0):=by
     show(if k=k∧(P.ws k).state=0∧cV P.q=0 then _ else P.words k)=_;rw[aq ae];exact j2
    have wi:=zaS O hx.1 hx.2;rw[ew];have ee:evP C {P with picks:=P.picks+1} k=(2,(P.ws k).tiles.getLast?.getD 0,bR (C.E.d t) y e,gh (C.E.d t) y e):=ev;rw[ee];have bl:=zbv O.s.wf.y y;have sj:gh (C.E.d t) y e=if bR (C.E.d t) y e=1 then e else y:=by
     have L:=L;unfold bR at L;unfold gh bR;by_cases q1:(C.E.d t).t.y+(C.E.d t).t.h≤y
     ·rw[aA q1]at L;exact absurd rfl L
     ·rw[aq q1,aq q1];by_cases q2:e<lnE (C.E.d t).s.y y
      ·rw[aA q2,aA q2,aA rfl]
      ·rw[aq q2,aq q2,aq ae]
    have hY:C.d.Y=((C.d.s.y.lines.length:Nat):Int):=rfl;have bY:=dn.bd O.d;refine⟨hx,?_,λh1=>?_,wi⟩
    ·show I64 (gh (C.E.d t) y e);rw[sj];unfold I64;unfold lnF at a3;unfold lnE at a4;have bl: -70368744177664≤(bG C.E.s.y y).1∧(bG C.E.s.y y).1≤70368744177664∧(bG C.E.s.y y).2.length≤1048576:=bl;split<;>omega
    ·have h1:bR (C.E.d t) y e≠1:=h1;show 0≤gh (C.E.d t) y e∧gh (C.E.d t) y e<C.d.Y;rw[sj,aq h1];omega
   ·rw[aA ⟨trivial,F⟩];exact Dr
end
end
section
theorem zdb {K:Nat}(h:1≤K∧K≤256):QB ((K:Int)+1)=K+1:=by unfold QB;omega
theorem za8 {α:Type}(n:Nat)(x:α):List.replicate n x=(List.range n).map λ_=>x:=by rw[List.map_const',ft]
structure lQ (h0:ah)(K:Nat)(room:Int)(q:Option Nat)(c:Option (Value×(Nat→Prop)))(d:Option Value)(g:ah):Prop where
 ext:Ext h0 g
 hq:∀b,q=some b→IsQ (λc=>c=b) g b ⟨min (max 1 room) 4096,[],false⟩∧h0.size≤b
 hc:∀p,c=some p→fZ p.2 g p.1 (K+1) (iV (K+1))∧∀b,p.2 b→h0.size≤b∧b<g.size
 hd:∀v,d=some v→Own 1 g v K ((List.range K).map λ_=>.int .i64 0)∧∀b,blk v b→h0.size≤b
 qc:∀b p,q=some b→c=some p→¬p.2 b
 qd:∀b v,q=some b→d=some v→¬blk v b
 cd:∀p v b,c=some p→d=some v→p.2 b→¬blk v b
section
variable {h0 g:ah}{K:Nat}{room:Int}{q:Option Nat}{c:Option (Value×(Nat→Prop))}{d:Option Value}{X:Value→ah→Prop}
theorem lQ.start (h:ah)(K:Nat)(room:Int):lQ h K room none none none h:=⟨Ext.refl _,by simp,by simp,by simp,by simp,by simp,by simp⟩
theorem lQ.ex {A:ah}(M:lQ h0 K room q c d g)(e:Ext g A):lQ h0 K room q c d A:=
 ⟨M.ext.trans e,λb h=>⟨(M.hq b h).1.ext e,(M.hq b h).2⟩,λp h=>⟨(M.hc p h).1.ext e,λb F=>⟨((M.hc p h).2 b F).1,ce ((M.hc p h).2 b F).2 e.1⟩⟩,λv h=>⟨(M.hd v h).1.fr (M:=λ_=>False) e.fr λ_ _=>id,(M.hd v h).2⟩,M.qc,M.qd,M.cd⟩
theorem lQ.queue (M:lQ h0 K room none c d g)(H:∀b A,lQ h0 K room (some b) c d A→X (ptr b) A):ag prog oM #[af room] g X:=by
 refine zci.mono λr A ⟨b,L,Q,e,n⟩=>?_
 subst L;have M':=M.ex e;have s:=M.ext.1;refine H b A ⟨M'.ext,λG h=>by cases h;exact⟨Q,ae⟩,M'.hc,M'.hd,λG p h I F=>?_,λG v h U F=>?_,M.cd⟩
 ·cases h;have:=((M.hc p I).2 b F).2;omega
 ·cases h;have:=(M.hd v U).1.lt F;omega
theorem lQ.clock (W:1≤K∧K≤256)(M:lQ h0 K room q none d g)(H:∀p F,lQ h0 K room q (some p) d F→X p.1 F):ag prog oO #[af ((K:Int)+1)] g X:=by
 refine(c_New ((K:Int)+1)).mono λr F ⟨Mc,U,e,n⟩=>?_
 rw[zdb W]at U;have M':=M.ex e;have s:=M.ext.1;refine H (r,Mc) F ⟨M'.ext,M'.hq,λp h=>by cases h;exact⟨U,λb A=>⟨by have:=n b A;omega,by obtain⟨_,_,_,_,_,L⟩:=U;exact L.lt b A⟩⟩,M'.hd,λb p h G A=>?_,M.qd,λp v b G hv A I=>?_⟩
 ·cases G;have:=n b A;have:=(M.hq b h).1.ql b rfl;omega
 ·cases G;have:=n b A;have:=(M.hd v hv).1.lt I;omega
theorem lQ.words (W:1≤K∧K≤256)(M:lQ h0 K room q c none g){t:TypeId}(H:∀v F,lQ h0 K room q c (some v) F→X v F):mkK ai t 1 8 (af (K:Int)) (af (K:Int)) g X:=by
 refine pF rfl ae ae λv F o e n=>?_
 rw[za8]at o;have M':=M.ex e;have s:=M.ext.1;refine H v F ⟨M'.ext,M'.hq,M'.hc,λL h=>by cases h;exact⟨o,λb A=>by have:=n b A;omega⟩,M.qc,λb L h I A=>?_,λp L b U I A G=>?_⟩
 ·cases I;have:=n b A;have:=(M.hq b h).1.ql b rfl;omega
 ·cases I;have:=n b G;have:=((M.hc p U).2 b A).2;omega
end
theorem zag {vc dv:Value}{a b c d:Nat}(hc:aV vc=true)(hd:aV dv=true):(aQ #[(.pointer none),(.pointer none),(.pointer none),(.pointer none),(.pointer none),(.slice none 0 0),(.slice none 0 0),(.slice none 0 0),ai,(.slice none 0 0),(.slice none 0 0),(.slice none 0 0),(.bool false),ai] [(0,1,ptr a),(1,1,ptr b),(2,1,ptr c),(3,1,ptr d),(4,1,vc),(7,1,dv)]).map Value.agg=
  some (.agg #[ptr a,ptr b,ptr c,ptr d,vc,.slice none 0 0,.slice none 0 0,dv,ai,.slice none 0 0,.slice none 0 0,.slice none 0 0,.bool false,ai]):=by
 have:aQ #[(.pointer none),(.pointer none),(.pointer none),(.pointer none),(.pointer none),(.slice none 0 0),(.slice none 0 0),(.slice none 0 0),ai,(.slice none 0 0),(.slice none 0 0),(.slice none 0 0),(.bool false),ai] [(0,1,ptr a),(1,1,ptr b),(2,1,ptr c),(3,1,ptr d),(4,1,vc),(7,1,dv)]=some #[ptr a,ptr b,ptr c,ptr d,vc,.slice none 0 0,.slice none 0 0,dv,ai,.slice none 0 0,.slice none 0 0,.slice none 0 0,.bool false,ai]:=by
  refine(bX (n:=1) (l:=[ptr a]) rfl rfl (by simp)).trans ?_;refine(bX (n:=1) (l:=[ptr b]) rfl rfl (by simp[cO])).trans ?_;refine(bX (n:=1) (l:=[ptr c]) rfl rfl (by simp[cO])).trans ?_;refine(bX (n:=1) (l:=[ptr d]) rfl rfl (by simp[cO])).trans ?_;refine(bX (n:=1) (l:=[vc]) (cI hc) rfl (by simp[cO])).trans ?_;refine(bX (n:=1) (l:=[dv]) (cI hd) rfl (by simp[cO])).trans ?_;rw[ia];simp[wrL]
 rw[this];rfl
structure zfu (hL:ah)(bp:Nat)(row:Value→Array Value)(T:TypeId)(i:Nat)(wv:Value)(bw:Nat→Nat)(g:ah):Prop where
 fr:Fr (λc=>c=bp) hL g
 own:Own 1 g wv i ((List.range i).map λj=>ptr (bw j))
 ws:∀j,j<i→g[bw j]? =some (.cells #[.int .i64 0,.slice none 0 0,.pointer none,.int .i64 0] 182 (0,0))∧hL.size≤bw j
 ne:∀j k,j<k→k<i→bw j≠bw k
 nw:∀b,blk wv b→hL.size≤b∧∀j,j<i→b≠bw j
 p:g[bp]? =some (.cells (row wv) T (0,0))
theorem zcL {hL:ah}{bp:Nat}{row:Value→Array Value}{T:TypeId}{K:Nat}(hK:1≤K∧K≤256)(r0:hL[bp]? =some (.cells (row (.slice none 0 0)) T (0,0)))(h6:∀v,(row v)[6]? =some v)(H:∀v v',(row v).setIfInBounds 6 v'=row v'){tA tB:TypeId}{X:ah→Prop}
  (HX:∀wv bw g,zfu hL bp row T K wv bw g→X g):
  bA [ai] hL λaa b2 F A=>vK (ak .i .lss (ix aa 0) (af (K:Int))) λbe=>aE be (
  bO F λS=>vK (aT (ptr bp)) λar=>vK (aB 6 ar) λad=>qK S (λF=>ldV F ad) λbk=>
  ag prog pZ #[] F λau I=>S I∧(du #[(.pointer none)] tA 1 [(0,1,au)] I λa9 U=>S U∧(dy (.pointer none) tB 1 8 bk a9 U λay a7=>
  vK (aT (ptr bp)) λbc=>vK (aB 6 bc) λab=>stK 1 ab ay a7 λb0 a8=>vK (ak .i .add (ix aa 0) aG) λal=>A [al] a8))) (X F):=by
 have b1:=bD r0;refine bK (α:=Value×(Nat→Nat)) K 0 (λi _=>[af (i:Int)]) (λi s g=>zfu hL bp row T i s.1 s.2 g) (.slice none 0 0,λ_=>0) rfl (b9 _) ⟨Fr.refl _ _,.inl ⟨rfl,rfl,rfl⟩,by simp,ae,λb G=>G.elim,r0⟩ λi s g again ρ _ hi M bo=>?_
 obtain⟨wv,bw⟩:=s;have M:zfu hL bp row T i wv bw g:=M;simp only[iz];rw[cC,aj];refine ao (λg1=>?_) (λg1=>?_)
 ·have bg:i<K:=ae;have an:(i:Int)+1=((i+1:Nat):Int):=ae;have sg:=M.fr.1;refine aS (Ext g) (Ext.refl _) ?_;simp only[go_sem,aO];refine aD wv (λk e=>by rw[am (e.row M.p)];exact h6 wv) ?_;refine Lk.mono λr g2 ⟨b,er,r2,e2,n2⟩=>⟨e2,?_⟩
  subst er;have l2:=bD r2;refine di (Rp.fill_one rfl) λb3 g3 r3 e3 n3=>⟨e2.trans e3,?_⟩
  have E3:=e2.trans e3;have o3:Own 1 g3 wv i ((List.range i).map λj=>ptr (bw j)):=M.own.fr (M:=λ_=>False) E3.fr λ_ _=>id
  have S1:=Rp.SlC.single (cs:=[ptr b]) r3;have L:∀c,blk wv c→c<g.size:=λc hc=>M.own.lt hc
  refine w8 o3 S1 (az rfl bi) rfl ae ae λs' g4 o4 f4 n4=>?_
  have ax:¬blk wv bp:=λG=>by have:=(M.nw bp G).1;omega
  have r4:=f4.row (E3.row M.p) ax;have os:aV s'=true:=by obtain⟨a,c,e⟩:=Own.isSl o4;rw[e];rfl
  have bd:6<(row wv).size:=(mD.1 (h6 wv)).1;refine ck r4 bd os λg5 r5 u5=>?_
  rw[H]at r5;have s2:=e2.1;have s3:=e3.1;have s4:=f4.1;rw[w64 (n:=(i:Int)+1) ae ae,an];have b5:b≠bp:=ae;have W:∀c,blk s' c→c≠bp∧hL.size≤c:=λc hc=>by
   rcases n4 c hc with h|h
   ·have:=(M.nw c h).1;exact⟨ae,ae⟩
   ·exact⟨ae,ae⟩
  refine bo (s',λj=>if j=i then b else bw j) g5 bg ⟨?_,?_,λj hj=>?_,λj k bv hk=>?_,λc hc=>⟨(W c hc).2,λj hj=>?_⟩,r5⟩
  ·exact(((M.fr.trans E3.fr).after f4 λc hc G=>by have:=(M.nw c G).1;omega)).trans u5.fr
  ·have e:(List.range (i+1)).map (λj=>ptr (if j=i then b else bw j))=(List.range i).map (λj=>ptr (bw j))++[ptr b]:=by
    rw[mA,jA]
    congr 1
    ·refine Mu λj hj=>?_
     rw[aq (by have:=mE.1 hj;omega)]
    ·simp
   rw[e];exact o4.fr u5.fr λc hc=>(W c hc).1
  ·by_cases e:j=i
   ·subst e;simp only[cN];exact⟨u5.row b5 (f4.row (e3.row r2) λG=>by have:=L b G;omega),ae⟩
   ·simp only[aq e];obtain⟨w1,w2⟩:=M.ws j ae;exact⟨u5.row ae (f4.row (E3.row w1) λG=>(M.nw _ G).2 j ae rfl),w2⟩
  ·show(if j=i then b else bw j)≠(if k=i then b else bw k);have lj:∀m,m<i→bw m<g.size:=λm hm=>bD (M.ws m hm).1
   by_cases e:k=i
   ·rw[aq ae,aA e];have:=lj j ae;omega
   ·rw[aq ae,aq e];exact M.ne j k bv ae
  ·show c≠(if j=i then b else bw j);by_cases e:j=i
   ·rw[aA e];rcases n4 c hc with h|h
    ·have:=L c h;omega
    ·omega
   ·rw[aq e];rcases n4 c hc with h|h
    ·exact(M.nw c h).2 j ae
    ·have:=bD (M.ws j ae).1;omega
 ·have:i=K:=ae;subst this;exact HX wv bw g M
end
def FJ (K:Nat)(room:Int):bH:=⟨⟨min (max 1 room) 4096,[],false⟩,iV (K+1),[],λ_=>⟨0,[],none,0⟩,λ_=>0,0,[],[],[],false,0⟩
def CJ (K:Nat)(room a b:Int):bH:=uV (uV (FJ K room) 0 0 0 a true) 0 1 0 b true
theorem zbg {C:C21}{K:Nat}{room:Int}(h:0≤bU C.d):mF C K (FJ K room):=
 ⟨⟨dT _,h⟩,rfl,(λx F=>by cases F),(λi _=>⟨(λx F=>by cases F),.inr ⟨.inl rfl,rfl⟩,(λt y e h=>by cases h)⟩),(λi _=>dT _),(λi _=>by simp[FJ,iV]),(λs A=>by cases A),b9 _,(λs A=>by cases A),dT _,(by show(0:Int)≤2+2*0;omega),dT _,(λh=>by cases h)⟩
theorem zbf {C:C21}{K:Nat}{room a b:Int}(h:0≤bU C.d):mF C K (CJ K room a b):=by
 have H:=zbg (C:=C) (K:=K) (room:=room) h;exact⟨H.sent,H.st,H.q,H.w,H.tn,H.rows,H.ss,H.fn,H.ls,H.ln,(by show(2:Int)≤2+2*0;omega),H.pk,H.cl⟩
theorem label {P:Nat→Nat→Prop}(h0:∀c,¬P 0 c)(u:∀k k' c,P k c→P k' c→k=k'):∃o:Nat→Nat,∀k,k≠0→∀c,o c=k↔P k c:=by
 classical
 refine⟨λc=>if h:∃k,P k c then Classical.choose h else 0,λk A c=>?_⟩;by_cases h:∃k,P k c
 ·simp only[Jh h];have hc:=YI h;exact⟨λe=>e▸hc,λe=>u _ _ c hc e⟩
 ·simp only[dif_neg h];exact⟨λe=>absurd e.symm A,λe=>absurd ⟨k,e⟩ h⟩
def zcI (Z0:Nat→Prop)(h:ah)(m:Pic)(s:Stg)(tw th room:Int)(bf:Nat)(K:Nat)(r:Value)(h':ah):Prop:=
 ∃bp C Z bw o,r=.tuple #[ptr bp,.int .i64 0]∧C.m=m∧C.d=⟨s,tw,th⟩∧C.bf=bf∧C.Ok∧eV C Z K h bw bp o (vD s.x.lines.length s.y.lines.length m.c m.most) (CJ K room (m.w*m.h*m.c) ((s.x.lines.length:Int)*s.y.lines.length*m.c)) h'∧(∀c,eo (some C.E) c→h.size≤c)∧Ext h h'∧(∀c,o c≠0→h.size≤c)∧(∀c,Z c→Z0 c∨h.size≤c)∧h.size≤C.bt
def Wh (h4:ah)(K:Nat)(room:Int)(bf bt bl:Nat)(xs:List Value)(g:ah):Prop:=
 ∃bp bq pc dv,xs=[ptr bp]∧lQ h4 K room (some bq) (some pc) (some dv) g∧g[bp]? =some (.cells #[ptr bf,ptr bt,ptr bl,ptr bq,pc.1,.slice none 0 0,.slice none 0 0,dv,.int .i64 0,.slice none 0 0,.slice none 0 0,.slice none 0 0,.bool false,.int .i64 0] 106 (0,0))∧h4.size≤bp∧bp≠bq∧¬pc.2 bp∧¬blk dv bp
theorem Ke {H g:ah}{K:Nat}{room:Int}{bf bt bl bq:Nat}{pc:Value×(Nat→Prop)}{dv:Value}(M:lQ H K room (some bq) (some pc) (some dv) g):
  vK ((aQ #[(.pointer none),(.pointer none),(.pointer none),(.pointer none),(.pointer none),(.slice none 0 0),(.slice none 0 0),(.slice none 0 0),ai,(.slice none 0 0),(.slice none 0 0),(.slice none 0 0),(.bool false),ai] [(0,1,ptr bf),(1,1,ptr bt),(2,1,ptr bl),(3,1,ptr bq),(4,1,pc.1),(7,1,dv)]).map .agg) λG=>bh (Value.cells G) 106 g λF A=>Ext H A∧Wh H K room bf bt bl [F] A:=by
 have L:aV pc.1=true:=by obtain⟨_,_,_,_,e,_⟩:=(M.hc pc rfl).1;rw[e];rfl
 have U:aV dv=true:=by obtain⟨a,c,e⟩:=Own.isSl (M.hd dv rfl).1;rw[e];rfl
 rw[zag L U,aj];refine aJ λbp g' W I n'=>⟨M.ext.trans I,bp,bq,pc,dv,rfl,M.ex I,W,by have:=M.ext.1;omega,by have:=(M.hq bq rfl).1.ql bq rfl;omega,λh=>by have:=((M.hc pc rfl).2 bp h).2;omega,λh=>by have:=(M.hd dv rfl).1.lt h;omega⟩
theorem RF {h:ah}(G:eW h){Z0:Nat→Prop}{bf:Nat}{vf sv:Value}{m:Pic}{s:Stg}(I:dp h bf vf m)(W:m.Wf)(HS:qX Z0 h sv s)(WS:Dw s)(au:oS m s)(zf:Z0 bf∧∀c,blk vf c→Z0 c)(zl:∀c,Z0 c→c<h.size)(fit:C9 s.x.lines.length s.y.lines.length m.c m.most=0){tw th wk room:Int}:
  ag prog AR #[ptr bf,sv,af tw,af th,af wk,af room] h λr h'=>
   (¬(fP tw∧fP th)→r=.tuple #[.pointer none,af 9]∧Ext h h')∧(fP tw∧fP th→¬(1≤wk∧wk≤256)→r=.tuple #[.pointer none,af 10]∧Ext h h')∧
   (fP tw∧fP th→∀K:Nat,wk=K→1≤K∧K≤256→zcI Z0 h m s tw th room bf K r h'):=by
 apply Va;unfold K4;have b4:=HS;obtain⟨p,q,rfl,hp,hq,b7⟩:=jQ HS;simp only[bT];refine aJ λF h1 r1 e1 n1=>?_
 have nf:ak .p .eql (ptr bf) (.pointer none)=some (.bool false):=rfl;have l3:aR 3 h1 (ptr F)=some (.agg #[p,q,af s.border]):=aW (l:=[p,q,af s.border]) r1 3 rfl;simp only[go_sem,nf,l3];refine(Mz (G.ext e1) (I.ext e1) (b4.ext e1)).mono λr h2 ⟨er,e2⟩=>?_
 rw[cL au]at er;subst er;simp only[go_sem];have E2:=e1.trans e2;have r2:=e2.row r1;refine aS (λk=>k=h2) rfl ?_;refine aD p (λk e=>by rw[e];exact am r2) ?_;refine aD q (λk e=>by rw[e];exact am r2) ?_;have bo:=hp.ext E2;have be:=hq.ext E2;refine ag.at (EN bo) ⟨rfl,?_⟩;refine ag.at (EN be) ?_;have I2:=I.ext E2;refine ag.at (eB I2) ?_;refine ag.at (vP I2) ?_;refine zL.mono λr h3 ⟨pt,er,e3,_,hN⟩=>?_
 subst er;obtain⟨bt,vt,bg,It,cw,ay,_⟩:=hN fit;subst bg;rw[fit];have x0:∀a b:Value,aP (.tuple #[a,b]) 0=some a:=λ_ _=>rfl
 have x1:∀a b:Value,aP (.tuple #[a,b]) 1=some b:=λ_ _=>rfl
 simp only[x0,x1,aj];have a7:ak .i .neq ai ai=some (.bool false):=rfl;rw[a7,aj,cA];have E3:=E2.trans e3;have s1:=e1.1;have s2:=e2.1;have s3:=e3.1;rw[aW (l:=[p,q,af s.border]) (e3.row r2) 3 rfl,aj];refine(RH (Z:=Z0) (s:=s) ⟨p,q,rfl,hp.ext E3,hq.ext E3⟩).mono λr h4 ⟨e4,b3,bk⟩=>?_
 have E4:=E3.trans e4;by_cases H:fP tw∧fP th
 ·obtain⟨bl,pp,pq,er,cp,PL⟩:=b3 H;subst er;simp only[x0,x1,aj];rw[a7,aj,cA];by_cases ad:wk<1
  ·simp only[go_sem,ad];exact⟨λh=>absurd H h,λ_ _=>⟨trivial,E4⟩,λ_ K hK h=>ae⟩
  by_cases a8:256<wk
  ·simp only[go_sem,ad,a8];exact⟨λh=>absurd H h,λ_ _=>⟨trivial,E4⟩,λ_ K hK h=>ae⟩
  simp only[go_sem,ad,a8];obtain⟨K,hK⟩:∃K:Nat,wk=(K:Int):=⟨wk.toNat,ae⟩
  subst hK;have hK:1≤K∧K≤256:=ae;have fin:∀{r h'},zcI Z0 h m s tw th room bf K r h'→(¬(fP tw∧fP th)→r=.tuple #[.pointer none,af 9]∧Ext h h')∧(fP tw∧fP th→¬(1≤(K:Int)∧(K:Int)≤256)→r=.tuple #[.pointer none,af 10]∧Ext h h')∧(fP tw∧fP th→∀K':Nat,(K:Int)=K'→1≤K'∧K'≤256→zcI Z0 h m s tw th room bf K' r h'):=λ{r h'} M=>⟨λh=>absurd H h,λ_ h=>absurd ae h,λ_ K' e _=>by
   obtain rfl:K=K':=ae;exact M⟩
  have ca:=It.lt;have cu:=bD PL.row;have s4:=e4.1;refine bF (Wh h4 K room bf bt bl) ?_ ?_
  ·refine aS (Ext h4) (Ext.refl _) ?_
   try simp only[go_sem]
   rw[w64 (n:=(K:Int)+1) ae ae];have M0:=lQ.start h4 K room;refine⟨?_,?_⟩
   ·refine M0.queue λbq g1 M1=>⟨M1.ext,?_,?_⟩
    ·refine M1.clock hK λpc g2 M2=>⟨M2.ext,?_⟩
     refine M2.words hK λdv g3 M3=>⟨M3.ext,?_⟩
     exact Ke M3
    ·refine M1.words hK λdv g2 M2=>⟨M2.ext,?_⟩
     refine M2.clock hK λpc g3 M3=>⟨M3.ext,?_⟩
     exact Ke M3
   ·refine M0.words hK λdv g1 M1=>⟨M1.ext,?_⟩
    refine M1.queue λbq g2 M2=>⟨M2.ext,?_⟩
    refine M2.clock hK λpc g3 M3=>⟨M3.ext,?_⟩
    exact Ke M3
  rintro xs ρ g ⟨bp,bq,pc,dv,rfl,M,row,ci,bv,ar,a9⟩;simp only[iz];refine zcL (row:=λv=>#[ptr bf,ptr bt,ptr bl,ptr bq,pc.1,.slice none 0 0,v,dv,ai,.slice none 0 0,.slice none 0 0,.slice none 0 0,.bool false,ai]) hK row (λv=>rfl) (λv v'=>rfl) λwv bw g2 WM=>?_
  have c0:=M.ext;have sM:=c0.1;obtain⟨Qk,cc⟩:=M.hq bq rfl;obtain⟨Ck,cM⟩:=M.hc pc rfl;obtain⟨Dk,nd⟩:=M.hd dv rfl;have c1:=Qk.ql bq rfl;have an:∀c,blk dv c→c<g.size:=λc hc=>Dk.lt hc
  have cr:=bD row;have e0:=WM.fr;have se:=e0.1;have wl:∀j,j<K→bw j<g2.size:=λj hj=>bD (WM.ws j hj).1
  have b6:∀c,blk wv c→c<g2.size:=λc hc=>WM.own.lt hc
  have wi:∀i j,i<K→j<K→bw i=bw j→i=j:=λi j hi hj h=>by
   rcases Nat.lt_trichotomy i j with h1|h1|h1
   ·exact absurd h (WM.ne i j h1 hj)
   ·exact h1
   ·exact absurd h.symm (WM.ne j i h1 hi)
  have u:∀k k' c,((k=1∧c=bq)∨(k=2∧pc.2 c)∨(k=4∧c=bp)∨(k=5∧blk dv c)∨(k=9∧blk wv c)∨∃j,j<K∧k=10+j∧c=bw j)→((k'=1∧c=bq)∨(k'=2∧pc.2 c)∨(k'=4∧c=bp)∨(k'=5∧blk dv c)∨(k'=9∧blk wv c)∨∃j,j<K∧k'=10+j∧c=bw j)→k=k':=by
   intro k k' c h1 h2;have q1:pc.2 c→c<g.size∧c≠bq∧c≠bp∧¬blk dv c:=λh=>⟨(cM c h).2,λe=>M.qc bq pc rfl rfl (e▸h),λe=>ar (e▸h),M.cd pc dv c rfl rfl h⟩
   have q2:blk dv c→c<g.size∧c≠bq∧c≠bp:=λh=>⟨an c h,λe=>M.qd bq dv rfl rfl (e▸h),λe=>a9 (e▸h)⟩
   have q3:blk wv c→g.size≤c∧∀j,j<K→c≠bw j:=λh=>WM.nw c h
   have q4:∀j,j<K→g.size≤bw j:=λj hj=>(WM.ws j hj).2
   rcases h1 with⟨a1,F⟩|⟨a1,F⟩|⟨a1,F⟩|⟨a1,F⟩|⟨a1,F⟩|⟨i,i1,a1,F⟩<;>rcases h2 with⟨a2,L⟩|⟨a2,L⟩|⟨a2,L⟩|⟨a2,L⟩|⟨a2,L⟩|⟨j,j1,a2,L⟩<;>
    first
    |omega
    |(exfalso;exact(q1 F).2.2.2 L)
    |(exfalso;exact(q1 L).2.2.2 F)
    |(exfalso;have:=q1 F;have:=q3 L;omega)
    |(exfalso;have:=q1 L;have:=q3 F;omega)
    |(exfalso;have:=q2 F;have:=q3 L;omega)
    |(exfalso;have:=q2 L;have:=q3 F;omega)
    |(exfalso;have:=q1 F;omega)
    |(exfalso;have:=q1 L;omega)
    |(exfalso;have:=q2 F;omega)
    |(exfalso;have:=q2 L;omega)
    |(exfalso;have:=(q3 F).1;omega)
    |(exfalso;have:=(q3 L).1;omega)
    |(exfalso;exact(q3 F).2 _ j1 L)
    |(exfalso;exact(q3 L).2 _ i1 F)
    |(exfalso;have:=q1 F;have:=q4 _ j1;omega)
    |(exfalso;have:=q1 L;have:=q4 _ i1;omega)
    |(exfalso;have:=q2 F;have:=q4 _ j1;omega)
    |(exfalso;have:=q2 L;have:=q4 _ i1;omega)
    |(exfalso;have:=q4 _ j1;omega)
    |(exfalso;have:=q4 _ i1;omega)
    |(have:=wi i j i1 j1 (F.symm.trans L);omega)
  obtain⟨o,ho⟩:=label (λc h=>by rcases h with⟨a,_⟩|⟨a,_⟩|⟨a,_⟩|⟨a,_⟩|⟨a,_⟩|⟨j,_,a,_⟩<;>omega) u;have A:∀c,o c≠0→h4.size≤c∧c<g2.size:=λc hc=>by
   rcases(ho _ hc c).1 rfl with⟨_,e⟩|⟨_,e⟩|⟨_,e⟩|⟨_,e⟩|⟨_,e⟩|⟨j,j1,_,e⟩
   ·omega
   ·have:=cM c e;omega
   ·omega
   ·have:=nd c e;have:=an c e;omega
   ·have:=(WM.nw c e).1;have:=b6 c e;omega
   ·have:=(WM.ws j j1).2;have:=wl j j1;omega
  have cb:h4.size≤g2.size:=ae;have U:Ext h4 g2:=c0.then_fr e0 λc hc=>by have hc:c=bp:=hc;omega
  have E:=E4.trans U;obtain⟨C,hC⟩:∃C:C21,C=⟨0,0,0,0,bf,vf,bt,vt,pp,pq,.pointer none,bl,pp,pq,m,⟨s,tw,th⟩,0,bq⟩:=⟨_,rfl⟩
  have b5:dp g2 bt vt (vD s.x.lines.length s.y.lines.length m.c m.most):=(It.ext e4).ext U;have I0:=I.lt;have Iv:∀c,blk vf c→c<h.size:=λc hc=>I.ltv hc
  have Tv:∀c,blk vt c→c<h3.size:=λc hc=>It.ltv hc
  have al:(vD s.x.lines.length s.y.lines.length m.c m.most).Wf:=Ek fit;have ab:jZ s.x.lines.length s.y.lines.length m.c:=al.fits;have hZ:∀c,(Z0 c∨c=bl)→c<g2.size∧c≠bt∧¬blk vt c:=λc hc=>by
   have h1:=ay c;rcases hc with hc|hc
   ·have:=zl c hc;exact⟨ae,ae,λh=>by have:=h1 h;omega⟩
   ·exact⟨ae,ae,λh=>by have:=Tv c h;omega⟩
  have SU:Bx (λc=>Z0 c∨c=bl) g2 C.bf C.vf C.bt C.vt C.p C.q C.m (vD s.x.lines.length s.y.lines.length m.c m.most) C.d.s:=by
   rw[hC];exact⟨I.ext E,b5,(by show bf≠bt;omega),(PL.x.ext U).mono λc _ hc=>.inl hc,(PL.y.ext U).mono λc _ hc=>.inl hc,⟨.inl zf.1,λc hc=>.inl (zf.2 c hc)⟩,λc hc=>(hZ c hc).2.2,λc hc=>(hZ c hc).2.1,λc hc=>(hZ c hc).1⟩
  have b0:uz (λc=>Z0 c∨c=bl) g2 C.bl C.d C.pp C.pq:=by
   rw[hC];exact⟨U.row PL.row,(PL.x.ext U).mono λc _ hc=>.inl hc,(PL.y.ext U).mono λc _ hc=>.inl hc⟩
  have CO:C.Ok:=by
   rw[hC];exact⟨W,⟨WS.wf,H.1,H.2⟩,WS⟩
  have SW:C.suits (vD s.x.lines.length s.y.lines.length m.c m.most):=by
   rw[hC];exact⟨al,au,rfl,rfl,rfl,rfl⟩
  have eC:C.m=m∧C.d=⟨s,tw,th⟩∧C.bf=bf∧C.bq=bq∧C.bt=bt∧C.bl=bl∧C.vt=vt∧C.pp=C.p∧C.pq=C.q:=by rw[hC];exact⟨rfl,rfl,rfl,rfl,rfl,rfl,rfl,rfl,rfl⟩
  clear hC
  obtain⟨k1,k2,k3,k4,k5,k6,k7,k8,k9⟩:=eC;have ax:jL g2 (some C.E) (vD s.x.lines.length s.y.lines.length m.c m.most):=λE' hE=>by cases hE;exact⟨SU.out,al⟩
  have aa:∀c,h4.size≤c→¬(Z0 c∨c=bl)∧Bz (some C.E) c∧¬eo (some C.E) c:=λc hc=>by
   refine⟨λh=>?_,?_,λh=>?_⟩
   ·rcases h with h|h
    ·have:=zl c h;omega
    ·omega
   ·show c≠C.bt;omega
   ·have h:blk C.vt c:=h;rw[k7]at h;have:=Tv c h;omega
  have c2:∀c,c≠bp→¬(λc=>c=bp) c:=λc h=>h
  have PB:aX (λ_=>False) C (λc=>Z0 c∨c=bl) K h bw bp o (vD s.x.lines.length s.y.lines.length m.c m.most) ⟨pc.1,.slice none 0 0,wv,dv,.slice none 0 0,.slice none 0 0,.slice none 0 0⟩ (FJ K room) g2:=by
   refine⟨λ_=>?_,λ_=>?_,λ_=>⟨λ_=>False,Rp.Ow.nil,λc h=>h.elim,λc h=>h.elim⟩,λ_=>?_,λ_=>⟨?_,λc hc=>(ho 5 ae c).2 (.inr (.inr (.inr (.inl ⟨rfl,hc⟩))))⟩,λ_=>⟨λ_=>False,Rp.Ow.nil,λc h=>h.elim,λc h=>h.elim⟩,λ_=>⟨λ_=>False,Rp.Ow.nil,λc h=>h.elim,λc h=>h.elim⟩,λ_=>Rp.Sl.nil,λ_=>⟨WM.own.sl,λc hc=>(ho 9 ae c).2 (.inr (.inr (.inr (.inr (.inl ⟨rfl,hc⟩)))))⟩,λi hi _=>?_,(ho 4 ae bp).2 (.inr (.inr (.inl ⟨rfl,rfl⟩))),SU,b0,⟨.inr k6,k8,k9⟩,SW,λc hc=>⟨(A c hc).2,by have:=(A c hc).1;have:=E4.1;omega,aa c (A c hc).1⟩,E,hK⟩
   ·rw[k4];exact(Qk.fr e0 λc hc h=>bv (h.symm.trans hc)).bmono (λc hc=>(ho 1 ae c).2 (.inl ⟨rfl,hc⟩)) λc hc=>(A c (by rw[hc];omega)).2
   ·exact(Ck.fr e0 λc _ hc h=>ar (by have h:c=bp:=h;rw[←h];exact hc)).bmono (λc hc=>(ho 2 ae c).2 (.inr (.inl ⟨rfl,hc⟩))) λc hc=>(A c (by rw[hc];omega)).2
   ·have:=WM.p;unfold jf;rw[k3,k5,k6,k4];exact this
   ·exact Dk.fr e0 λc hc h=>a9 (by have h:c=bp:=h;rw[←h];exact hc)
   ·have hw:=WM.ws i hi;have hn:=aa (bw i) ae;exact(IsW.new hw.1 hn.1 hn.2.1 hn.2.2 (λc hc=>(hZ c hc).1) ax).bmono (λc hc=>(ho (10+i) ae c).2 (.inr (.inr (.inr (.inr (.inr ⟨i,hi,rfl,hc⟩)))))) (λc hc=>(A c (by rw[hc];omega)).2) λc hc=>aa c (A c (by rw[hc];omega)).1
  have HP:eV C (λc=>Z0 c∨c=bl) K h bw bp o _ (FJ K room) g2:=⟨_,PB⟩
  -- the two notes
  have ct:=dx W.fits;have b8:=dx ab;have m1:1≤m.w*m.h*m.c:=xS (xS ae ae) ae;have m2:1≤(s.x.lines.length:Int)*s.y.lines.length*m.c:=xS (xS ae ae) ae;refine ag.at (GV (I.ext E) W.fits) ?_;refine(GW HP (who:=0) ae (by show 0≤1000000;omega) (dT 0) (dT 0) m1 ae).mono λr g3 ⟨_,o3,H3,q3,f3⟩=>?_
  have B3:=H3;obtain⟨V3,B3⟩:=B3;have bc:=B3.set.out;rw[k5,k7]at bc;refine ag.at (GV bc ab) ?_;refine(GW H3 (who:=0) ae (by show 1≤1000000;omega) ae (dT 0) m2 ae).mono λr g4 ⟨_,o4,H4,q4,f4⟩=>?_
  refine fin ⟨bp,C,λc=>Z0 c∨c=bl,bw,o4,rfl,k1,k2,k3,CO,H4,λc hc=>?_,?_,λc hc=>?_,λc hc=>hc.elim .inl λh=>.inr ae,ae⟩
  ·have hc:blk C.vt c:=hc;rw[k7]at hc;have:=ay c hc;omega
  ·obtain⟨V4,B4⟩:=H4;exact B4.ext
  ·obtain⟨V4,B4⟩:=H4;exact(B4.ow c hc).2.1
 ·have er:=bk H;subst er;simp only[x0,x1,aj];have bd:ak .i .neq (af 9) ai=some (.bool true):=rfl;rw[bd,aj,iC];exact⟨λ_=>⟨trivial,E4⟩,λh=>absurd h H,λh=>absurd h H⟩
section
section
variable {C:C21}{Z:Nat→Prop}{K:Nat}{h0 h:ah}{bw:Nat→Nat}{bp:Nat}{o:Nat→Nat}{n:Pic}{P:bH}
theorem VV (O:C.Ok)(H:eV C Z K h0 bw bp o n P h){N:Nat}(hN:(N:Int)=bU C.d)(a8:N≤4096)(hs:jx C N 0≤1000000000):
  ag prog qA #[ptr bp] h λr h'=>r=af ((2*N+K+2+jx C N 0:Nat):Int)∧Ext h h':=by
 have HP:=H;obtain⟨V,H,row⟩:=H.row;apply Gq;unfold wn;have hK:=H.few;have c2:aH h ⟨bp,2,none⟩=some (ptr C.bl):=am row;have c6:aH h ⟨bp,6,none⟩=some V.wv:=am row;have F:=SlC.len (H.wk id).1;refine aS (λk=>k=h) rfl ?_;simp only[go_sem,aO];refine aD (ptr C.bl) (λk e=>by rw[e];exact c2) ?_
 try simp only[go_sem,aO]
 refine aD V.wv (λk e=>by rw[e];exact c6) ?_;refine aD (af (K:Int)) (λ_ _=>F) ?_;refine ag.at (Ep H.pl O.d) ⟨rfl,?_⟩;rw[←hN];simp only[go_sem];rw[w64 (n:=2*(N:Int)) ae ae,w64 (n:=2*(N:Int)+K) ae ae,w64 (n:=2*(N:Int)+K+2) ae ae,c2,aj];refine(zau H.pl O.d hN ae).mono λav g3 NA=>?_
 obtain⟨aa,ca,ea⟩:=NA.sl.isSl;have au:(dJ C.d N).length=N:=by simp[dJ]
 have ax:aC av=some (af (N:Int)):=by rw[ea];show some (af ((dJ C.d N).length:Int))=_;rw[au]
 rw[ax,aj];refine bK (α:=Unit) N 0 (λi _=>[af (2*(N:Int)+K+2+(jx C i 0:Nat)),af (i:Int)]) (λi _ g=>Ext g3 g) () (by simp[jx]) (b9 _) (Ext.refl _) λi _ g4 again ρ _ hi U ad=>?_
 simp only[iz,zJ];have E4:=NA.2.1.trans U;have H4:=H.ex E4;rw[cC,aj];refine ao (λg1=>?_) (λg1=>?_)
 ·have L:i<N:=ae;obtain⟨pt,G,q1,W,I⟩:=(NA.sl.ext U).atw (show 0<10 by omega) (k:=.i64) (i:=i) ae;have q1:bu 10 av (af (i:Int))=some pt:=q1;have W:aR 10 g4 pt=some (.agg G.toArray):=W;have I:G=dK (dJ C.d N)[i]:=I;have q4:(dJ C.d N)[i]=aL C.d i:=by simp[dJ]
  rw[q4]at I;subst I;rw[q1,aj,W,aj];refine dh (cs:=dK (aL C.d i)) rfl (kM _) rfl λb5 g5 r5 e5 n5=>?_
  have H5:=H4.ex e5;have A:=H5.p id;refine aS (Ext g5) (Ext.refl _) ?_
  try simp only[go_sem,aO]
  refine aD (ptr C.bl) (λk e=>am (e.row A)) ?_;refine aD (.agg (dK (aL C.d i)).toArray) (λk e=>aW (e.row r5) 10 rfl) ?_;refine(Ua H5.pl).mono λr g6 ⟨er,F⟩=>?_
  subst er;refine⟨F,?_⟩;have H6:=H5.ex F;rw[H.zl.2.1,H.zl.2.2];refine ag.to (zdW C.m H6.set.tx H6.set.ty O.s) λg7 e7=>?_
  rw[aA (gI O.d ae ae)];have al:z8 C.d.s (aL C.d i) C.m=rl C i:=rfl;rw[al];have a7:jx C (i+1) 0=jx C i 0+rl C i:=by
   rw[MJ C i 1 0,aO];show _+(rl C i+0)=_;omega
  have ay:jx C N 0=jx C (i+1) 0+jx C (N-(i+1)) (0+(i+1)):=by rw[←MJ];congr 1;omega
  have ar:2*(N:Int)+K+2+(jx C i 0:Nat)+(rl C i:Int)=2*(N:Int)+K+2+(jx C (i+1) 0:Nat):=ae;have an:(i:Int)+1=((i+1:Nat):Int):=ae
  try simp only[go_sem]
  rw[ar,w64 (n:=2*(N:Int)+K+2+(jx C (i+1) 0:Nat)) ae ae,w64 (n:=(i:Int)+1) ae ae,an];exact ad () g7 L (U.trans (e5.trans (F.trans e7)))
 ·have ab:i=N:=ae;subst ab;refine⟨?_,E4⟩
  congr 1
end
end
end Go.Proofs.YtjljhnandbbldaaGreatDoor
namespace Go.Proofs.YtjljhnandbbldaaGreatDoor
open Go Go.Crisp
attribute [local irreducible] ag du bh stK aE vK qK bO gK fR bA mkK dy GQ IQ DT bsK clK pG pH Q9
section
def xP (a b:Nat):List Int:=(List.range' a (b-a)).map λi:Nat=>(i:Int)
theorem ZT {a b:Nat}(h:a≤b):xP a (b+1)=xP a b++[(b:Int)]:=by
 unfold xP;rw[show b+1-a=(b-a)+1 by omega,List.range'_concat,jA]
 congr 1
 simp;omega
theorem Oa {a b:Nat}(h:a<b):xP a b=(a:Int)::xP (a+1) b:=by
 unfold xP;rw[show b-a=(b-(a+1))+1 by omega,List.range'_succ];rfl
theorem Ks {a b:Nat}:xP a b=[]↔b≤a:=by
 unfold xP;simp;omega
def rk (K:Nat)(f:Nat→Nat):Nat:=((List.range K).map f).sum
theorem rj (K:Nat)(f:Nat→Nat):rk (K+1) f=rk K f+f K:=by simp[rk,mA]
theorem JZ {K:Nat}{f g:Nat→Nat}(h:∀i,i<K→f i=g i):rk K f=rk K g:=by
 unfold rk
 congr 1
 exact Mu λi hi=>h i (mE.1 hi)
theorem Uw {f g:Nat→Nat}{k:Nat}(h:∀i,i≠k→g i=f i):∀K,k<K→rk K g+f k=rk K f+g k:=by
 intro K;induction K with
 |zero=>intro F;omega
 | succ K A=>
  intro F;rw[rj,rj];by_cases e:k=K
  ·subst e;rw[JZ (f:=g) (g:=f) λi hi=>h i ae];omega
  ·have:=A ae;rw[h K ae];omega
def kK (w:WD):Nat:=if w.state=2 then 1 else 0
theorem TU (K:Nat)(ws:Nat→WD):rk K (λk=>kK (ws k))≤K:=by
 induction K with
 |zero=>exact cf _
 |succ K A=>rw[rj];unfold kK at A ⊢;split<;>omega
theorem Dc {K:Nat}{ws:Nat→WD}(h:rk K (λk=>kK (ws k))=K):∀k,k<K→(ws k).state=2:=by
 induction K with
 |zero=>intro k F;omega
 | succ K A=>
  rw[rj]at h;have h1:=TU K ws;have G:kK (ws K)≤1:=by unfold kK;split<;>omega
  intro k F;by_cases e:k=K
  ·subst e;have:kK (ws k)=1:=ae;unfold kK at this;split at this
   ·assumption
   ·omega
  ·exact A ae k ae
def rK (C:C21)(w:WD)(n:Pic):Prop:=
 ∀x y c,inP n x y c→∀i∈w.tiles,ut (aL C.d i) x y→(∀t yy e,w.job=some (t,yy,e)→i=w.tiles.getLast?.getD 0→y<yy)→atP n x y c=yx C.m C.d.s x y c
structure gG (C:C21)(K N tk:Nat)(P:bH)(n:Pic):Prop where
 ok:mF C K P
 nn:(N:Int)=bU C.d
 sn:(tk:Int)≤P.sent
 ql:P.q.l=xP tk P.sent.toNat
 rm:1≤P.q.room
 cov:∀x:Nat,x<tk→∃k,k<K∧(x:Int)∈(P.ws k).tiles
 gone:∀k,k<K→(P.ws k).state=2→P.q.l=[]∧P.q.closed=true
 cnt:P.left.length=rk K λk=>kK (P.ws k)
 rt:P.ret=true→P.q.closed=true∧P.left.length=K
 rem:P.picks+((N-P.sent.toNat)+(if P.q.closed=true then 0 else 1)+(if P.ret=true then 0 else 1)+(N-tk)+jx C (N-tk) tk+rk K (λk=>muJ C.E (P.ws k).job)+(K-P.left.length):Nat)=(2*N+K+2+jx C N 0:Nat)
 paint:∀k,k<K→rK C (P.ws k) n
theorem He (C:C21)(K:Nat)(P:bH)(k:Nat):(gd C K P k).q=(cB C P k).q∧(gd C K P k).ws=(cB C P k).ws∧(gd C K P k).words=(cB C P k).words∧(gd C K P k).sent=P.sent∧(gd C K P k).ret=P.ret∧(gd C K P k).picks=P.picks∧(gd C K P k).left.length=P.left.length+if(evP C P k).1=3 then 1 else 0:=by
 unfold gd;split
 ·rename_i h;rw[h];exact⟨rfl,rfl,rfl,rfl,rfl,rfl,rfl⟩
 ·split
  ·rename_i h1 A;rw[aq ae];unfold pE;split<;>exact⟨rfl,rfl,rfl,rfl,rfl,rfl,rfl⟩
  ·split
   ·refine⟨rfl,rfl,rfl,rfl,rfl,rfl,?_⟩;show(P.left++[_]).length=_;simp
   ·exact⟨rfl,rfl,rfl,rfl,rfl,rfl,rfl⟩
section
variable {C:C21}{K N tk:Nat}{P:bH}{n n':Pic}
theorem zbu (H:gG C K N tk P n)(h1:fQ C K P 0=true):gG C K N tk (ic C K P 0) n:=by
 have A:=Yg H.ok 0;have hs:=H.ok.sent;have hn:=H.nn;have aa:=H.sn;have I:=H.rem;have F:P.ret=false:=by
  unfold fQ at h1;rw[aq ae,aq ae]at h1;split at h1
  ·cases h1
  ·rename_i h;simpa using h
 rw[F]at I;have L:(if P.sent<bU C.d then decide (qU P.q≠1)else !P.q.closed||decide (P.left.length=K))=true:=by
  unfold fQ at h1;rw[aq ae,aq ae,F]at h1;simpa using h1
 have e:ic C K P 0=xR C K {P with picks:=P.picks+1}:=by
  unfold ic;rw[h1,aq (by simp),aA rfl]
 rw[e]at A ⊢;unfold xR at A ⊢;by_cases g:P.sent<bU C.d
 ·have hc:P.q.closed=false:=by
   cases h:P.q.closed with
   |false=>rfl
   |true=>have:=H.ok.cl h;omega
  rw[aA g]at A L ⊢;have G:qU P.q≠1:=by simpa using L
  have hq:jJ P.q P.sent={P.q with l:=P.q.l++[P.sent]}:=by
   unfold qU at G;unfold jJ;rw[hc]at G ⊢;simp only[gO,cH]at G ⊢;split at G
   ·exact absurd rfl G
   ·rename_i h;rw[aq h];simp[hc]
  have U:(P.sent+1).toNat=P.sent.toNat+1:=ae;have W:((P.sent.toNat:Nat):Int)=P.sent:=ae;refine⟨A,H.nn,by show(tk:Int)≤P.sent+1;omega,?_,?_,H.cov,λk hk h=>?_,H.cnt,λh=>?_,?_,H.paint⟩
  ·show(jJ P.q P.sent).l=xP tk (P.sent+1).toNat;rw[hq,U,ZT ae,←H.ql,W]
  ·show 1≤(jJ P.q P.sent).room;rw[hq];exact H.rm
  ·have:=(H.gone k hk h).2;rw[hc]at this;cases this
  ·have h:P.ret=true:=h;rw[F]at h;cases h
  ·show P.picks+1+((N-(P.sent+1).toNat)+(if(jJ P.q P.sent).closed=true then 0 else 1)+(if P.ret=true then 0 else 1)+(N-tk)+jx C (N-tk) tk+rk K (λk=>muJ C.E (P.ws k).job)+(K-P.left.length):Nat)=(2*N+K+2+jx C N 0:Nat);rw[hq,F,hc];rw[hc]at I;simp only[gO,cH]at I ⊢;omega
 ·rw[aq g]at A L ⊢;cases hc:P.q.closed with
  | false=>
   rw[hc]at A I;rw[aA rfl]at A ⊢;refine⟨A,H.nn,H.sn,H.ql,H.rm,H.cov,λk hk h=>?_,H.cnt,λh=>?_,?_,H.paint⟩
   ·have:=(H.gone k hk h).2;rw[hc]at this;cases this
   ·have h:P.ret=true:=h;rw[F]at h;cases h
   ·show P.picks+1+((N-P.sent.toNat)+(if true=true then 0 else 1)+(if P.ret=true then 0 else 1)+(N-tk)+jx C (N-tk) tk+rk K (λk=>muJ C.E (P.ws k).job)+(K-P.left.length):Nat)=(2*N+K+2+jx C N 0:Nat);rw[F];simp only[gO,cH,cN]at I ⊢;omega
  |true=>
   rw[hc]at A I L;rw[aq (by simp)]at A ⊢;have hl:P.left.length=K:=by simpa using L
   refine⟨A,H.nn,H.sn,H.ql,H.rm,H.cov,H.gone,H.cnt,λ_=>⟨hc,hl⟩,?_,H.paint⟩;show P.picks+1+((N-P.sent.toNat)+(if P.q.closed=true then 0 else 1)+(if true=true then 0 else 1)+(N-tk)+jx C (N-tk) tk+rk K (λk=>muJ C.E (P.ws k).job)+(K-P.left.length):Nat)=(2*N+K+2+jx C N 0:Nat);rw[hc];simp only[gO,cH,cN]at I ⊢;omega
theorem rK.keep {w:WD}(H:rK C w n)(D:eU n n')(k:∀x y c,inP n x y c→atP n x y c=yx C.m C.d.s x y c→atP n' x y c=yx C.m C.d.s x y c):rK C w n':=
 λx y c hi i h1 A F=>k x y c (D.inP.1 hi) (H x y c (D.inP.1 hi) i h1 A F)
theorem Ru {w:WD}(D:DK (some C.E) w n n'):∀x y c,inP n x y c→atP n x y c=yx C.m C.d.s x y c→atP n' x y c=yx C.m C.d.s x y c:=by
 intro x y c hi h;obtain⟨I,A⟩:=D;cases F:w.job with
 |none=>rw[F]at A;rw[A];exact h
 | some j=>
  obtain⟨t,H,e⟩:=j;rw[F]at A;obtain⟨_,_,d1,d2⟩:=A;by_cases G:bR (C.E.d t) H e=2
  ·rw[d2 G x y c hi];split
   ·rfl
   ·exact h
  ·rw[d1 G];exact h
theorem rK.move (O:C.Ok){w:WD}{t:cP}{y e:Int}(hj:w.job=some (t,y,e))(h0:0≤w.tiles.getLast?.getD 0)(h1:w.tiles.getLast?.getD 0<bU C.d)(ht:t=aL C.d (w.tiles.getLast?.getD 0))(su:C.suits n)(H:rK C w n)(D:DK (some C.E) w n n'){w':WD}(ad:w'.tiles=w.tiles)(ab:w'.job=cn (some C.E) (some (t,dP (C.E.d t) y e,fm (C.E.d t) y e))):rK C w' n':=by
 have U:=Ru D;obtain⟨D1,D2⟩:=D;rw[hj]at D2;obtain⟨O1,O2,d1,d2⟩:=D2;have hr:=(C21.newC O su h0 h1)
 have RO:=O.s.room (m:=C.m) (n:=n) (t:=t) O.m (by rw[ht];exact hr);intro W I c' hi i aa A hl;rw[ad]at aa hl;rw[ab]at hl;have F:inP n W I c':=D1.inP.1 hi;by_cases L:i=w.tiles.getLast?.getD 0
 ·rw [L,←ht]at A;have hy:I<dP (C.E.d t) y e:=by
   by_cases h0:bR (C.E.d t) (dP (C.E.d t) y e) (fm (C.E.d t) y e)=0
   ·unfold bR at h0;split at h0
    ·rename_i h1;have h1:t.y+t.h≤dP (C.E.d t) y e:=h1;unfold ut at A;omega
    ·split at h0<;>omega
   ·exact hl t _ _ (aq h0) L
  rcases nT I y with h2|h2
  ·exact U W I c' F (H W I c' F i aa (by rw[L,←ht];exact A) λt2 yy e2 h3 _=>by rw[hj]at h3;cases h3;exact h2)
  ·have hK:bR (C.E.d t) y e=2:=by
    unfold dP at hy;split at hy
    ·assumption
    ·omega
   have hY:dP (C.E.d t) y e=y+1:=aA hK;have ey:I=y:=ae;rw[d2 hK W I c' F,aA];refine⟨ey,A.1,A.2.1,?_⟩;have G:=RO.wid;have G:(iq (t.w*C.m.c):Int)=t.w*C.m.c:=G;rw[G];show(W-t.x)*C.m.c+c'<t.w*C.m.c;have hc:c'<C.m.c:=by have:=F.2.2.2.2.2;rw[←su.2.2.2.2.1];exact this
   have hx:=A.2.1;have:(W-t.x+1)*C.m.c≤t.w*C.m.c:=ui ae (by have:=F.2.2.2.2.1;omega);rw[iZ,kR]at this;omega
 ·exact U W I c' F (H W I c' F i aa A λt2 yy e2 _ h3=>absurd h3 L)
theorem rK.take (O:C.Ok){w:WD}{x:Int}(h0:0≤x)(h1:x<bU C.d)(hj:w.job=none)(H:rK C w n){w':WD}(W:w'.tiles=w.tiles++[x])(L:w'.job=cn (some C.E) (C.jo x)):rK C w' n:=by
 intro x' y' c' hi i F A I;rw[W]at F I;rw[L]at I;by_cases G:i=x
 ·subst G;have hw:=gI O.d h0 h1;have U:bR (C.E.d (aL C.d i)) (aL C.d i).y (lnF C.d.s.y (aL C.d i).y)≠0:=by
   unfold bR;rw[aq (by show¬(aL C.d i).y+(aL C.d i).h≤(aL C.d i).y;unfold eF at hw;omega)];split<;>omega
  have hs:cn (some C.E) (C.jo i)=C.jo i:=aq U;rw[hs]at I;have:=I _ _ _ rfl (by simp);unfold ut at A;omega
 ·rcases cQ.1 F with h|h
  ·exact H x' y' c' hi i h A λt yy e h3 _=>by rw[hj]at h3;cases h3
  ·exact absurd (dc.1 h) G
end
end
section
section
variable {C:C21}{K N tk:Nat}{P:bH}{n n':Pic}
theorem zaX (K:Nat):rk K (λ_=>1)=K:=by
 induction K with
 |zero=>rfl
 |succ K A=>rw[rj,A]
theorem Hk (K:Nat):rk K (λ_=>0)=0:=by
 induction K with
 |zero=>rfl
 |succ K A=>rw[rj,A]
theorem zaR (O:C.Ok)(H:gG C K N tk P n){k:Nat}(hk:k<K)(h1:fQ C K P ((k:Int)+1)=true)(bk:∀t y e,(P.ws k).job=some (t,y,e)→e≤lnE C.d.s.y y)(su:C.suits n)(D:DK (some C.E) (P.ws k) n n'):∃bo,gG C K N bo (ic C K P ((k:Int)+1)) n':=by
 have ab:=Yg H.ok ((k:Int)+1);have ek:((k:Int)+1-1).toNat=k:=ae;have a9:ic C K P ((k:Int)+1)=gd C K {P with picks:=P.picks+1} k:=by
  unfold ic;rw[h1,aq (by simp),aq ae,ek]
 rw[a9]at ab ⊢
 clear a9
 obtain⟨f1,f2,f3,f4,f5,f6,f7⟩:=He C K {P with picks:=P.picks+1} k;generalize gd C K {P with picks:=P.picks+1} k=Q at ab f1 f2 f3 f4 f5 f6 f7 ⊢;have f4:Q.sent=P.sent:=f4;have f5:Q.ret=P.ret:=f5;have f6:Q.picks=P.picks+1:=f6;have f1:Q.q=(cg (some C.E) (C.jo (bC P.q)) (P.ws k) P.q).2.1:=f1;have f2:Q.ws=λi=>if i=k then(cg (some C.E) (C.jo (bC P.q)) (P.ws k) P.q).1 else P.ws i:=f2
 have f7:Q.left.length=P.left.length+if(cg (some C.E) (C.jo (bC P.q)) (P.ws k) P.q).2.2.1=3 then 1 else 0:=f7
 have hs:=H.ok.sent;have hn:=H.nn;have a8:=H.sn;have hr:=H.rem;have Wk:=H.ok.w k hk;have au:(P.ws k).state=1∨((P.ws k).state=0∧cV P.q≠1):=by
  unfold fQ at h1;split at h1
  ·cases h1
  ·rw[aA ae,ek]at h1;simpa using h1
 have U:∀(f:WD→Nat),rk K (λi=>f (Q.ws i))+f (P.ws k)=rk K (λi=>f (P.ws i))+f (cg (some C.E) (C.jo (bC P.q)) (P.ws k) P.q).1:=λf=>by
  have:=Uw (f:=λi=>f (P.ws i)) (g:=λi=>f (Q.ws i)) (k:=k) (λi hi=>by rw[f2];simp only[aq hi]) K hk;rw[f2]at this ⊢;simp only[cN]at this;exact this
 have F:∀j,j<K→j≠k→Q.ws j=P.ws j:=λj _ h=>by rw[f2];simp only[aq h]
 have A:Q.ws k=(cg (some C.E) (C.jo (bC P.q)) (P.ws k) P.q).1:=by rw[f2];simp only[cN]
 have a7:=Ru D;have pO:∀j,j<K→j≠k→rK C (Q.ws j) n':=λj hj h=>by rw[F j hj h];exact(H.paint j hj).keep D.1 a7
 rcases Wk.st with⟨s1,s2,s3⟩|⟨s1,s2⟩
 ·-- it moves
  cases hj:(P.ws k).job with
  |none=>rw[hj]at s2;exact(show False from s2).elim
  | some jj=>
   obtain⟨t,y,e⟩:=jj;rw[hj]at s2;have s2:bR (C.E.d t) y e≠0:=s2;have es:cg (some C.E) (C.jo (bC P.q)) (P.ws k) P.q=(⟨stJ (cn (some C.E) (some (t,dP (C.E.d t) y e,fm (C.E.d t) y e))),(P.ws k).tiles,cn (some C.E) (some (t,dP (C.E.d t) y e,fm (C.E.d t) y e)),(P.ws k).words⟩,P.q,(2,(P.ws k).tiles.getLast?.getD 0,bR (C.E.d t) y e,gh (C.E.d t) y e)):=by
    unfold cg;rw[aA s1,hj]
   rw[es]at f1 f7 A U;have f1:Q.q=P.q:=f1;have f7:Q.left.length=P.left.length:=by rw[f7];simp
   have hl:=Wk.tl _ (Jy s3);obtain⟨j1,j2⟩:=Wk.jb t y e hj;have al:=U λw=>muJ C.E w.job
   have ad:=U kK;have g0:kK (P.ws k)=0:=by unfold kK;rw[aq ae]
   have gs:∀jo,kK ⟨stJ jo,(P.ws k).tiles,jo,(P.ws k).words⟩=0:=λjo=>by unfold kK;rw[aq];cases jo with|none=>exact(by decide:¬(0:Int)=2)|some x=>exact(by decide:¬(1:Int)=2)
   simp only[Ra,hj]at al;have b1:muJ C.E (some (t,y,e))=tJ (C.E.d t) y e:=rfl;have b2:=Z5 (d:=C.E.d t) s2 (bk t y e hj);simp only[gs,g0]at ad;refine⟨tk,ab,H.nn,by rw[f4];exact a8,by rw[f1,f4];exact H.ql,by rw[f1];exact H.rm,λx hx=>?_,λj G h=>?_,by rw[f7,H.cnt];omega,λh=>by rw[f5]at h;rw[f1,f7];exact H.rt h,?_,λj G=>?_⟩
   ·obtain⟨j,W,aa⟩:=H.cov x hx;refine⟨j,W,?_⟩;by_cases I:j=k
    ·subst I;rw[A];exact aa
    ·rw[F j W I];exact aa
   ·rw[f1];by_cases I:j=k
    ·subst I;rw[A]at h;have:=gs (cn (some C.E) (some (t,dP (C.E.d t) y e,fm (C.E.d t) y e)));unfold kK at this;rw[aA h]at this;omega
    ·rw[F j G I]at h;exact H.gone j G h
   ·rw[f1,f4,f5,f6,f7];omega
   ·by_cases e':j=k
    ·subst e';exact rK.move O hj hl.1 ae j1 su (H.paint j G) D (by rw[A]) (by rw[A])
    ·exact pO j G e'
 ·have s0:(P.ws k).state=0∧cV P.q≠1:=by
   rcases au with h|h
   ·omega
   ·exact h
  have bg:n'=n:=by
   obtain⟨_,D2⟩:=D;rw[s2]at D2;exact D2
  subst bg;have g0:kK (P.ws k)=0:=by unfold kK;rw[aq ae]
  have m0:muJ C.E (P.ws k).job=0:=by rw[s2];rfl
  by_cases L:cV P.q=0
  ·-- it xp a tile
   have ar:P.q.l≠[]:=λh=>by unfold cV at L;rw[aA h]at L;split at L<;>omega
   have ay:tk<P.sent.toNat:=by
    rw[H.ql]at ar;exact Nat.lt_of_not_le λh=>ar (Ks.2 h)
   have hx:bC P.q=(tk:Int):=by unfold bC;rw[H.ql,Oa ay];rfl
   have es:cg (some C.E) (C.jo (bC P.q)) (P.ws k) P.q=(xn (some C.E) (P.ws k) (bC P.q) (C.jo (bC P.q)),kI P.q,(1,bC P.q,0,0)):=by
    unfold cg;rw[aq ae,aq ae,aA L]
   rw[es]at f1 f7 A U;have f1:Q.q=kI P.q:=f1;have f7:Q.left.length=P.left.length:=by rw[f7];simp
   have bd:(kI P.q).l=xP (tk+1) P.sent.toNat:=by
    unfold kI;show P.q.l.tail=_;rw[H.ql,Oa ay];rfl
   have ad:=U kK;have al:=U λw=>muJ C.E w.job
   have gs:∀jo wd tl,kK ⟨stJ jo,tl,jo,wd⟩=0:=λjo wd tl=>by unfold kK;rw[aq];cases jo with|none=>exact(by decide:¬(0:Int)=2)|some x=>exact(by decide:¬(1:Int)=2)
   have g1:kK (xn (some C.E) (P.ws k) (bC P.q) (C.jo (bC P.q)))=0:=gs _ _ _;have m1:muJ C.E (xn (some C.E) (P.ws k) (bC P.q) (C.jo (bC P.q))).job=rl C tk:=by
    rw[hx];show muJ C.E (cn (some C.E) (some ((aL C.d tk),(aL C.d tk).y,lnF C.d.s.y (aL C.d tk).y)))=_;rw[Ra];rfl
   have b3:jx C (N-tk) tk=rl C tk+jx C (N-(tk+1)) (tk+1):=by
    rw[show N-tk=(N-(tk+1))+1 by omega];rfl
   have ax:(xn (some C.E) (P.ws k) (bC P.q) (C.jo (bC P.q))).tiles=(P.ws k).tiles++[bC P.q]:=rfl;simp only[m0,m1]at al;simp only[g0,g1]at ad;refine⟨tk+1,ab,H.nn,by rw[f4];omega,by rw[f1,f4];exact bd,by rw[f1];exact H.rm,λx b0=>?_,λj G h=>?_,by rw[f7,H.cnt];omega,λh=>by rw[f5]at h;rw[f1,f7];exact H.rt h,?_,λj G=>?_⟩
   ·by_cases ex:x=tk
    ·refine⟨k,hk,?_⟩;rw[A,ax,hx,ex];simp
    ·obtain⟨j,W,aa⟩:=H.cov x ae;refine⟨j,W,?_⟩;by_cases I:j=k
     ·subst I;rw[A,ax];exact xT _ aa
     ·rw[F j W I];exact aa
   ·by_cases I:j=k
    ·subst I;rw[A]at h;unfold kK at g1;rw[aA h]at g1;omega
    ·rw[F j G I]at h;exact absurd (H.gone j G h).1 ar
   ·rw[f1,f4,f5,f6,f7];have bc:(kI P.q).closed=P.q.closed:=rfl;rw[bc];omega
   ·by_cases e':j=k
    ·subst e';exact rK.take O (x:=bC P.q) (by rw[hx];omega) (by rw[hx];omega) s2 (H.paint j G) (by rw[A];rfl) (by rw[A];rfl)
    ·exact pO j G e'
  ·-- it leaves
   have an:cV P.q=2:=by
    have:=s0.2;unfold cV at this L ⊢;split
    ·rename_i h;rw[aA h]at this L;split<;>simp_all
    ·rename_i h;rw[aq h]at L;exact absurd rfl L
   have hq:P.q.l=[]∧P.q.closed=true:=by
    unfold cV at an;split at an
    ·rename_i h;refine⟨h,?_⟩;split at an
     ·assumption
     ·omega
    ·omega
   have be:kI P.q=P.q:=by
    unfold kI;rw[hq.1];cases h:P.q;rw[h]at hq
    simp_all
   have es:cg (some C.E) (C.jo (bC P.q)) (P.ws k) P.q=({P.ws k with state:=2},kI P.q,(3,0,0,0)):=by
    unfold cg;rw[aq ae,aq ae,aq L,aA an]
   rw[es]at f1 f7 A U;have f1:Q.q=P.q:=by rw[f1];exact be
   have f7:Q.left.length=P.left.length+1:=by rw[f7];simp
   have ad:=U kK;have al:=U λw=>muJ C.E w.job
   have g1:kK {P.ws k with state:=2}=1:=rfl;have gl:=TU K Q.ws;simp only[m0,s2]at al;simp only[g0,g1]at ad;have b4:muJ C.E none=0:=rfl;have bv:=H.cnt;refine⟨tk,ab,H.nn,by rw[f4];exact a8,by rw[f1,f4];exact H.ql,by rw[f1];exact H.rm,λx hx=>?_,λj G h=>by rw[f1];exact hq,by rw[f7,H.cnt];omega,λh=>?_,?_,λj G=>?_⟩
   ·obtain⟨j,W,aa⟩:=H.cov x hx;refine⟨j,W,?_⟩;by_cases I:j=k
    ·subst I;rw[A];exact aa
    ·rw[F j W I];exact aa
   ·rw[f5]at h;have:=(H.rt h).2;have:=TU K P.ws;omega
   ·rw[f1,f4,f5,f6,f7];omega
   ·by_cases e':j=k
    ·subst e';have hp:=H.paint j G;rw[A];exact hp
    ·exact pO j G e'
theorem zbh (O:C.Ok)(H:gG C K N tk P n){i:Int}(G:∀k,k<K→∀t y e,(P.ws k).job=some (t,y,e)→e≤lnE C.d.s.y y)(su:C.suits n)(D:Zq C K P i n n'):∃F,gG C K N F (ic C K P i) n':=by
 unfold Zq at D;by_cases A:fQ C K P i=true
 ·by_cases h0:i=0
  ·rw[aq (λh=>h.2 h0)]at D;subst h0 D;exact⟨tk,zbu H A⟩
  ·rw[aA ⟨A,h0⟩]at D;have hi:0<i∧i≤K:=by
    unfold fQ at A;split at A
    ·cases A
    ·omega
   obtain⟨k,rfl⟩:∃k:Nat,i=(k:Int)+1:=⟨(i-1).toNat,ae⟩
   rw[show((k:Int)+1-1).toNat=k by omega]at D;exact zaR O H ae A (G k ae) su D
 ·rw[aq (λh=>A h.1)]at D;subst D;refine⟨tk,?_⟩;have:ic C K P i=P:=by unfold ic;rw[aA (by simpa using A)]
  rw[this];exact H
theorem za2 (H:gG C K N tk P n)(hK:1≤K)(hr:P.ret=false):∃i:Nat,i≤K∧fQ C K P (i:Int)=true:=by
 have hs:=H.ok.sent;have wk:∀k,k<K→((P.ws k).state=1∨((P.ws k).state=0∧cV P.q≠1))→∃i:Nat,i≤K∧fQ C K P (i:Int)=true:=λk A h=>by
  refine⟨k+1,ae,?_⟩;unfold fQ;rw[aq ae,aA ae,show(((k+1:Nat):Int)-1).toNat=k by omega];exact cL h
 have I:(if P.sent<bU C.d then decide (qU P.q≠1)else !P.q.closed||decide (P.left.length=K))=true→∃i:Nat,i≤K∧fQ C K P (i:Int)=true:=λh=>by
  refine⟨0,ae,?_⟩;unfold fQ;rw[aq ae,aq ae,aq (by rw[hr];simp)];exact h
 by_cases g:P.sent<bU C.d
 ·by_cases G:qU P.q=1
  ·have F:P.q.l≠[]:=λh=>by
    unfold qU at G;split at G
    ·omega
    ·split at G
     ·rename_i hh;rw[h]at hh;have:=H.rm;simp only[kS]at hh;omega
     ·omega
   have aa:cV P.q=0:=aq F;rcases(H.ok.w 0 ae).st with h|⟨h|h,_⟩
   ·exact wk 0 ae (.inl h.1)
   ·exact wk 0 ae (.inr ⟨h,ae⟩)
   ·exact absurd (H.gone 0 ae h).1 F
  ·exact I (by rw[aA g];exact cL G)
 ·cases hc:P.q.closed with
  |false=>exact I (by rw[aq g,hc];rfl)
  | true=>
   by_cases W:P.left.length=K
   ·exact I (by rw[aq g,hc];simpa using W)
   ·have:∃k,k<K∧(P.ws k).state≠2:=S0 λh=>W (by
     rw[H.cnt];have:∀k,k<K→kK (P.ws k)=1:=λk A=>by
      unfold kK;rw[aA (S0 λU=>h ⟨k,A,U⟩)]
     rw[JZ (g:=λ_=>1) this,zaX])
    obtain⟨k,A,U⟩:=this;have L:cV P.q≠1:=by
     unfold cV;rw[hc];split<;>simp
    rcases(H.ok.w k A).st with h|⟨h|h,_⟩
    ·exact wk k A (.inl h.1)
    ·exact wk k A (.inr ⟨h,L⟩)
    ·exact absurd h U
theorem TT (O:C.Ok)(H:gG C K N tk P n)(su:C.suits n)(hK:1≤K)(hr:P.ret=true):n.l=(Dv C.m C.d.s).l∧P.picks=(2*N+K+2+jx C N 0:Nat)∧tk=N:=by
 obtain⟨h1,h2⟩:=H.rt hr;have hs:=H.ok.cl h1;have W:=H.cnt;have F:=Dc (K:=K) (ws:=P.ws) ae;have hn:=H.nn;have A:=H.rem;have G:∀k,k<K→(P.ws k).job=none:=λk I=>by
  rcases(H.ok.w k I).st with h|h
  ·have:=F k I;omega
  ·exact h.2
 have U:rk K (λk=>muJ C.E (P.ws k).job)=0:=by
  rw[JZ (g:=λ_=>0) λk I=>by rw[G k I];rfl,Hk]
 have L:tk=N:=by
  have:=(H.gone 0 ae (F 0 ae)).1;rw[H.ql]at this;have:=Ks.1 this;have:=H.sn;omega
 refine⟨?_,?_,L⟩
 ·refine UV O H.nn (λx y c hi i aa ht _=>?_) su;obtain⟨k,I,hm⟩:=H.cov i ae;exact H.paint k I x y c hi i hm ht λt yy e h _=>by rw[G k I]at h;cases h
 ·rw[L,U,h1,hr]at A;simp only[cN]at A;have e0:jx C (N-N) N=0:=by rw[S9];rfl
  rw[e0]at A;omega
end
end
end Go.Proofs.YtjljhnandbbldaaGreatDoor
namespace Go.Proofs.YtjljhnandbbldaaGreatDoor
open Go Go.Crisp
attribute [local irreducible] ag du bh stK aE vK qK bO gK fR bA mkK dy GQ IQ DT bsK clK pG pH Q9
open _root_.Go.Proofs.Tryz
section
def GoP (C:C21)(Z:Nat→Prop)(K N:Nat)(h0:ah)(bw:Nat→Nat)(bp:Nat)(o:Nat→Nat)(n:Pic)(P:bH)(h:ah):Prop:=eV C Z K h0 bw bp o n P h∧∃tk,gG C K N tk P n
theorem R4 {C:C21}{K:Nat}{P:bH}{k:Nat}{x:Int}:x∈FY C K P k↔ ∃i:Nat,i<k∧x=(i:Int)∧fQ C K P x=true:=by
 unfold FY;rw[List.mem_filter,fO];constructor
 ·rintro⟨⟨i,hi,rfl⟩,h⟩;exact⟨i,mE.1 hi,rfl,h⟩
 ·rintro⟨i,hi,rfl,h⟩;exact⟨⟨i,mE.2 hi,rfl⟩,h⟩
theorem QZ {C:C21}{K:Nat}{P:bH}{i:Int}(h:fQ C K P i=true):(ic C K P i).picks=P.picks+1:=by
 unfold ic;rw[h,aq (by simp)];split
 ·unfold xR;split
  ·rfl
  ·split<;>rfl
 ·exact(He C K {P with picks:=P.picks+1} (i-1).toNat).2.2.2.2.2.1
section
variable {C:C21}{Z:Nat→Prop}{K N:Nat}{h0 h:ah}{bw:Nat→Nat}{bp:Nat}{o:Nat→Nat}{n:Pic}{P:bH}
theorem GoP.ext {h':ah}(H:GoP C Z K N h0 bw bp o n P h)(e:Ext h h'):GoP C Z K N h0 bw bp o n P h':=⟨H.1.ext e,H.2⟩
theorem GoP.picks (H:GoP C Z K N h0 bw bp o n P h):0≤P.picks∧P.picks≤(2*N+K+2+jx C N 0:Nat):=by
 obtain⟨_,tk,I⟩:=H;have:=I.rem;have:=I.ok.pk;omega
theorem GoP.few (H:GoP C Z K N h0 bw bp o n P h):1≤K∧K≤256∧Ext h0 h∧C.suits n:=by
 obtain⟨⟨V,H⟩,_⟩:=H;exact⟨H.few.1,H.few.2,H.ext,H.sui⟩
theorem Y8 (O:C.Ok)(G:eW h0)(H:GoP C Z K N h0 bw bp o n P h){i:Int}(hi:I64 i)(few:2*N+K+2+jx C N 0≤300000)(W:∀c,eo (some C.E) c→h0.size≤c):
  ag prog ke #[ptr bp,af i] h λr h'=>r=.bool (fQ C K P i)∧∃o' n',GoP C Z K N h0 bw bp o' n' (ic C K P i) h'∧(∀c,c<h.size→o' c=o c)∧Fr (λc=>o c≠0∨eo (some C.E) c) h h':=by
 have hp:=H.picks;obtain⟨F,tk,I⟩:=H;have hN:=I.nn;refine(zfj O G F I.ok hi ae ae W).mono λr h' ⟨L,n',⟨o',a,b,c⟩,D⟩=>?_
 obtain⟨V,B⟩:=F;obtain⟨A,U⟩:=zbh O I (λk hk=>(B.ws k hk id).job_e) B.sui D;exact⟨L,o',n',⟨a,A,U⟩,b,c⟩
theorem GoP.runs (H:GoP C Z K N h0 bw bp o n P h)(A:P.ret=false):FY C K P (K+1)≠[]:=by
 have G:=H.few.1;obtain⟨_,tk,I⟩:=H;obtain⟨i,hi,h1⟩:=za2 I G A;intro F;have:((i:Nat):Int)∈FY C K P (K+1):=R4.2 ⟨i,ae,rfl,h1⟩;rw[F]at this;cases this
def zee (C:C21)(K:Nat)(P:bH):Prop:=∀k,k<K→∀t y e,(P.ws k).job=some (t,y,e)→t.y≤y∧y<t.y+t.h∧lnF C.d.s.y y≤e∧e≤lnE C.d.s.y y
theorem eV.jobI (H:eV C Z K h0 bw bp o n P h):zee C K P:=by
 obtain⟨V,B⟩:=H;exact λk A=>(B.ws k A id).job_at
inductive zaP (C:C21)(K N:Nat):bH→bH→Prop
 |refl (P:bH):zaP C K N P P
 |pick {P P':bH} {n:Pic} {tk:Nat} {i:Int}:zaP C K N P P'→gG C K N tk P' n→fQ C K P' i=true→zee C K P'→zaP C K N P (ic C K P' i)
theorem zdS (O:C.Ok)(G:eW h0)(H:GoP C Z K N h0 bw bp o n P h)(few:2*N+K+2+jx C N 0≤190000)(hb:∀c,eo (some C.E) c→h0.size≤c){Zd:Nat→Prop}{dv:Value}{l:List Int}(HD:Rp.Sl (Rp.int .u8) Zd h0 dv l)(h8:∀x∈l,B8 x)(hl:l.length≤600):
  ag prog yN #[ptr bp,dv] h λr h'=>r=.bool true∧∃o' n' A,GoP C Z K N h0 bw bp o' n' A h'∧A.ret=true∧(∀c,c<h.size→o' c=o c)∧Fr (λc=>o c≠0∨eo (some C.E) c) h h'∧zaP C K N P A:=by
 apply NE;unfold Cc;have hK:=H.few;obtain⟨av,cv,ev⟩:=HD.isSl;have ax:aC dv=some (af (l.length:Int)):=by rw[ev];rfl
 refine bK (α:=Unit) 200000 0 (λi _=>[af (i:Int)]) (λi _ g=>∃o' n' A,GoP C Z K N h0 bw bp o' n' A g∧(i:Int)≤A.picks∧(∀c,c<h.size→o' c=o c)∧Fr (λc=>o c≠0∨eo (some C.E) c) h g∧zaP C K N P A) () rfl (b9 _) ⟨o,n,P,H,by have:=H.picks;omega,λ_ _=>rfl,Fr.refl _ _,.refl P⟩ λi _ g again ρ _ hi ⟨o',n',A,H',bd,oo,f,F⟩ a7=>?_
 simp only[iz];have bc:=H'.picks;rw[cC,aj];refine ao (λg1=>?_) (λg1=>?_)
 ·refine(Lq O H'.1).mono λrv g2 NR=>?_
  have e2:=NR.2.1;have U:=H'.ext e2;have f2:=f.ext_r e2;refine ag.at (Pg U.1) ?_;cases hr:A.ret with
  |true=>
   rw[iC];exact⟨trivial,o',n',A,U,hr,oo,f2,F⟩
  | false=>
   rw[cA];have W:=U.runs hr;generalize hL:FY C K A (K+1)=L at NR W;have a8:L.length≠0:=λh=>W (nZ h)
   have a9:L.length≤K+1:=by rw[←hL];exact M6 _ _ _ _
   obtain⟨ar,cr,er⟩:=NR.1.sl.isSl;have ay:aC rv=some (af (L.length:Int)):=by rw[er];rfl
   have Eg:Ext h0 g2:=U.few.2.2.1;rw[ay,aj,mX,aj,cE ae,cA];refine bF (λxs g'=>g'=g2∧∃m:Nat,xs=[af (m:Int)]) ?_ ?_
   ·rw[ax,aj,cC,aj];refine ao (λc1=>?_) (λc1=>?_)
    ·have aa:i<l.length:=ae;obtain⟨p,a1,a2⟩:=(HD.ext Eg).int_at (k':=.i64) aa;have al:=h8 _ (cG aa);unfold B8 at al;rw[a1,aj,a2,aj,Dj,aj,w64 (n:=l[i]) ae ae];exact⟨rfl,l[i].toNat,by rw[xU al.1]⟩
    ·exact⟨rfl,i,rfl⟩
   ·rintro xs ρ' g' ⟨rfl,m,rfl⟩;simp only[iz];rw[aj,zcZ _ _ _ _ ae,aj];have ad:m%L.length<L.length:=iy _ ae;obtain⟨p,a1,a2⟩:=NR.1.sl.int_at (k':=.i64) ad;rw[a1,aj,a2,aj];have ab:L[m%L.length]∈FY C K A (K+1):=by rw[hL];exact cG ad
    obtain⟨j,hj,ej,I⟩:=R4.1 ab;refine(Y8 O G U (by unfold I64;omega) ae hb).mono λr g3 ⟨er,o3,n3,H3,au,f3⟩=>?_
    rw[I]at er;subst er;have an:(i:Int)+1=((i+1:Nat):Int):=ae;simp only[go_sem];rw[w64 (n:=(i:Int)+1) ae ae,an];have s2:=f2.1;refine a7 () g3 ae ⟨o3,n3,_,H3,by rw[QZ I];omega,λc hc=>(au c ae).trans (oo c hc),f2.after f3 λc hc h=>h.imp (λh=>by rwa [oo c hc]at h) id,F.pick U.2.choose_spec I U.1.jobI⟩
 ·omega
end
end
end Go.Proofs.YtjljhnandbbldaaGreatDoor
namespace Go.Proofs.YtjljhnandbbldaaGreatDoor
open Go Go.Crisp
def InL (m:Int)(l:List Int):Prop:=∀x∈l,0≤x∧x≤m
theorem InL.more {a b:Int}{l:List Int}(H:InL a l)(h:a≤b):InL b l:=λx A=>by have:=H x A;omega
theorem InL.get {m:Int}{l:List Int}(H:InL m l)(A:0≤m)(i:Nat):0≤l.getD i 0∧l.getD i 0≤m:=by
 rw[dA];cases h:l[i]? with
 |none=>simp[A]
 |some x=>exact H x (vA h)
theorem InL.join {m:Int}{a b:List Int}(H:InL m a)(G:InL m b)(A:0≤m):InL m (zI a b):=by
 intro x F;unfold zI at F;obtain⟨i,_,rfl⟩:=fO.1 F;have:=H.get A i;have:=G.get A i;omega
theorem InL.tick {m:Int}{K:Nat}{rows:Nat→List Int}(H:∀i,i≤K→InL m (rows i))(F:0≤m)(I:m≤1000000000)(j:Int):∀i,i≤K→InL (m+1) (jP (K+1) rows j i):=by
 intro i hi;unfold jP;split
 ·rename_i U;by_cases e:i=j.toNat
  ·simp only[aA e];have A:=H j.toNat ae;have L:=A.get F j.toNat;rw[w64 ae ae];intro x G;rcases Yu G with h|h
   ·have:=A x h;omega
   ·omega
  ·simp only[aq e];exact(H i hi).more ae
 ·exact(H i hi).more ae
theorem InL.meet {m:Int}{K:Nat}{rows:Nat→List Int}{s:List Int}(H:∀i,i≤K→InL m (rows i))(G:InL m s)(F:0≤m)(j:Int):∀i,i≤K→InL m (eI (K+1) rows j s i):=by
 intro i hi;unfold eI;split
 ·rename_i A;unfold GC at A;simp only[dj,dd]at A;by_cases e:i=j.toNat
  ·simp only[aA e];exact(H j.toNat ae).join G F
  ·simp only[aq e];exact H i hi
 ·exact H i hi
theorem InL.meetAll {m:Int}{K:Nat}{l:List (List Int)}(A:∀s∈l,InL m s)(G:0≤m){rows:Nat→List Int}(H:∀i,i≤K→InL m (rows i)):∀i,i≤K→InL m (meetAll K rows l i):=by
 induction l generalizing rows with
 |nil=>exact H
 |cons s l F=>exact F (λx I=>A x (uo _ I)) (rows:=eI (K+1) rows 0 s) (InL.meet H (A s (by simp)) G 0)
structure zaQ (K:Nat)(P:bH):Prop where
 rows:∀i,i≤K→InL (P.picks+1) (P.rows i)
 ss:∀s∈P.stamps,InL (P.picks+1) s
 fl:P.q.closed=true→P.fin.length=K+1
 fn:InL (P.picks+1) P.fin
 ls:∀s∈P.left,InL (P.picks+1) s
 aw:∀a∈P.acc,a.when_.length=K+1
theorem zbr {C:C21}{K N tk:Nat}{P:bH}{n:Pic}(I:gG C K N tk P n)(hp:P.picks≤1000000)(H:zaQ K P)(i:Int):zaQ K (ic C K P i):=by
 obtain⟨a,b,c,d,e,f⟩:=H;have note:∀{l:List Acc} {x:Acc},(∀a∈l,a.when_.length=K+1)→x.when_.length=K+1→∀a∈l++[x],a.when_.length=K+1:=λ{l x} h1 h2 a ha=>by
  rcases cQ.1 ha with h|h
  ·exact h1 a h
  ·rw[dc.1 h];exact h2
 have h0:=I.ok.pk;have L:∀i,i≤K→InL (P.picks+1+1) (P.rows i):=λi hi=>(a i hi).more ae
 have A:∀s∈P.stamps,InL (P.picks+1+1) s:=λi hi=>(b i hi).more ae
 have U:=d.more (show P.picks+1≤P.picks+1+1 by omega);have F:∀s∈P.left,InL (P.picks+1+1) s:=λi hi=>(e i hi).more ae
 unfold ic;split
 ·exact⟨a,b,c,d,e,f⟩
 split
 ·unfold xR;split
  ·refine⟨InL.tick a ae ae 0,λs hs=>?_,λhc=>c ?_,U,F,f⟩
   ·rcases cQ.1 hs with h|h
    ·exact A s h
    ·rw[dc.1 h];exact L 0 ae
   ·rw[←RY P.q P.sent];exact hc
  split
  ·exact⟨InL.tick a ae ae 0,A,λ_=>I.ok.rows 0 ae,L 0 ae,F,f⟩
  ·exact⟨InL.meetAll F ae L,A,c,U,F,note f (Uh I.ok.rows P.left 0 ae)⟩
 ·rename_i hr aa;have hk:(i-1).toNat<K:=by
   unfold fQ at hr;split at hr
   ·exact absurd rfl hr
   ·omega
  generalize(i-1).toNat=k at hk ⊢;have W:(cB C {P with picks:=P.picks+1} k).q.closed=true→P.fin.length=K+1:=λhc=>c (by rw[←(X6 (E:=some C.E) (jo:=C.jo (bC P.q)) (w:=P.ws k) (q:=P.q)).2];exact hc)
  unfold gd;split
  ·refine⟨InL.meet L ?_ ae _,A,W,U,F,f⟩;rw[dA];cases h:P.stamps[(evP C {P with picks:=P.picks+1} k).2.1.toNat]? with
   |none=>intro x hx;cases hx
   |some s=>exact A s (vA h)
  split
  ·unfold pE;have G:=I.ok.rows (k+1) ae;split
   ·exact⟨L,A,W,U,F,note (note f G) G⟩
   ·exact⟨L,A,W,U,F,note (note f G) G⟩
  split
  ·have hm:=InL.meet a d ae (k+1:Nat);refine⟨InL.tick hm ae ae _,A,W,U,λs hs=>?_,f⟩;rcases cQ.1 hs with h|h
   ·exact F s h
   ·rw[dc.1 h];exact InL.meet L U ae (k+1:Nat) (k+1) ae
  ·exact⟨L,A,W,U,F,f⟩
theorem zbq {C:C21}{K:Nat}{room a b:Int}:zaQ K (CJ K room a b):=by
 refine⟨λi _ x A=>?_,λs F=>(uh F).elim,λh=>(Bool.false_ne_true h).elim,λx A=>(uh A).elim,λs F=>(uh F).elim,λx A=>?_⟩
 rotate_left
 ·have A:x∈[_,_]:=A;simp only[fC,uh,or_false]at A;rcases A with rfl|rfl
  ·show(iV (K+1) 0).length=_;simp[iV]
  ·show(iV (K+1) 0).length=_;simp[iV]
 have A:x∈iV (K+1) i:=A;unfold iV at A;obtain⟨m,_,rfl⟩:=fO.1 A;show _∧_≤(0:Int)+1;split<;>omega
theorem zdi {E:WE}{jo:Option (cP×Int×Int)}{w:WD}{q:QD}(A:(cg (some E) jo w q).2.2.1=3):q.closed=true:=by
 unfold cg at A;split at A
 ·split at A
  ·exact absurd (show(2:Int)=3 from A) ae
  ·exact absurd (show(0:Int)=3 from A) ae
 split at A
 ·exact absurd (show(0:Int)=3 from A) ae
 split at A
 ·exact absurd (show(1:Int)=3 from A) ae
 split at A
 ·rename_i h;unfold cV at h;split at h
  ·split at h
   ·assumption
   ·omega
  ·omega
 ·exact absurd (show(0:Int)=3 from A) ae
theorem Ya {C:C21}{K:Nat}{P:bH}{k:Nat}(W:QJ C P.sent (P.ws k) (P.words k))(G:fQ C K P ((k:Int)+1)=true):(evP C P k).1=1∨(evP C P k).1=2∨(evP C P k).1=3:=by
 have H:(P.ws k).state=1∨((P.ws k).state=0∧cV P.q≠1):=by
  unfold fQ at G;split at G
  ·cases G
  ·rw[aA ae,show((k:Int)+1-1).toNat=k by omega]at G;exact Aw G
 have F:=W.st;unfold evP;generalize P.ws k=w at H F ⊢;obtain⟨st,tl,j,wd⟩:=w;unfold cg;rcases F with⟨A,L,_⟩|⟨A|A,L⟩
 ·have A:st=1:=A;subst A;cases j with
  |none=>exact(show False from L).elim
  |some x=>exact .inr (.inl rfl)
 ·have A:st=0:=A;subst A;rw[aq (show¬(0:Int)=1 by omega),aq (show¬(0:Int)=2 by omega)];have I:cV P.q≠1:=by
   rcases H with h|h
   ·exact absurd (show(0:Int)=1 from h) ae
   ·exact h.2
  by_cases h0:cV P.q=0
  ·rw[aA h0];exact .inl rfl
  ·have U:cV P.q=2:=by
    unfold cV at I h0 ⊢;split
    ·rename_i h;rw[aA h]at I h0;split
     ·rfl
     ·rename_i h';rw[aq h']at I;omega
    ·rename_i h;rw[aq h]at h0;omega
   rw[aq h0,aA U];exact .inr (.inr rfl)
 ·have A:st=2:=A;subst A;rcases H with h|h
  ·exact absurd (show(2:Int)=1 from h) ae
  ·exact absurd (show(2:Int)=0 from h.1) ae
theorem GH {l:List Int}{j:Nat}(h:j<l.length):l.getD j 0=l[j]:=by rw[dA,iI h];rfl
theorem GI {l:List Int}{j:Nat}(h:l.length≤j):l.getD j 0=0:=by rw[dA,D3 h];rfl
theorem zbA (a b:List Int)(j:Nat):(zI a b).getD j 0=max (a.getD j 0) (b.getD j 0):=by
 by_cases h:j<max a.length b.length
 ·rw[GH (l:=zI a b) (by rw[pR];exact h)];unfold zI;rw[dX,ur]
 ·rw[GI (l:=zI a b) (by rw[pR];omega),GI (l:=a) ae,GI (l:=b) ae];rfl
def leS (a b:List Int):Prop:=∀j,a.getD j 0≤b.getD j 0
theorem leS.trans {a b c:List Int}(h:leS a b)(h':leS b c):leS a c:=λj=>pL (h j) (h' j)
theorem We {n:Nat}{a b:List Int}(A:a.length=n)(F:b.length=n)(h:leS a b){j:Nat}(G:a.getD j 0<b.getD j 0):uu a b=true:=by
 unfold uu;rw[(GY (A.trans F.symm)).2 λi hi=>by have:=h i;rwa [GH hi,GH ae]at this,cE λe=>by rw[e]at G;omega];rfl
theorem Ur {n:Nat}{rows:Nat→List Int}(G:∀i,i<n→(rows i).length=n){m:Int}(H:∀i,i<n→InL m (rows i))(h0:0≤m)(L:m≤1000000000){i:Nat}(hi:i<n)(k j:Nat):(jP n rows i k).getD j 0=if k=i∧j=i then(rows k).getD j 0+1 else(rows k).getD j 0:=by
 unfold jP;rw[aA ae,dW];by_cases F:k=i
 ·subst F;have U:=(H k hi).get h0 k;have I:=G k hi;simp only[cN,Av];rw[w64 ae ae];by_cases A:j<(rows k).length
  ·rw[GH (l:=(rows k).set k _) (by simpa using A),D4];by_cases e:k=j
   ·subst e;simp
   ·rw[aq e,aq (iu e),GH A]
  ·rw[GI (l:=(rows k).set k _) (by simpa using A),GI (l:=rows k) ae,aq ae]
 ·simp only[F,cH,false_and]
theorem Oh {n:Nat}{rows:Nat→List Int}{i:Nat}{s:List Int}(hi:i<n)(A:s.length=n)(h0:∀x∈s,0≤x)(k j:Nat):(eI n rows i s k).getD j 0=if k=i then max ((rows k).getD j 0) (s.getD j 0)else(rows k).getD j 0:=by
 rw[Rb hi A h0];unfold TQ;by_cases e:k=i
 ·rw[aA e,aA e,zbA,e]
 ·rw[aq e,aq e]
theorem zec {K:Nat}{l:List (List Int)}(h:∀s∈l,s.length=K+1∧∀x∈s,0≤x):∀{rows:Nat→List Int},leS (rows 0) (meetAll K rows l 0)∧(∀s∈l,leS s (meetAll K rows l 0))∧∀k,meetAll K rows l (k+1)=rows (k+1):=by
 induction l with
 |nil=>exact λ{rows}=>⟨λj=>dT _,λs A=>(uh A).elim,λk=>rfl⟩
 | cons s l I=>
  intro rows;obtain⟨G,U,L⟩:=I (λx F=>h x (uo _ F)) (rows:=eI (K+1) rows 0 s);have A:=h s (by simp);have e:∀k j,(eI (K+1) rows 0 s k).getD j 0=if k=0 then max ((rows k).getD j 0) (s.getD j 0)else(rows k).getD j 0:=λk j=>Oh (i:=0) ae A.1 A.2 k j
  have H:leS (rows 0) (eI (K+1) rows 0 s 0)∧leS s (eI (K+1) rows 0 s 0):=⟨λj=>by rw[e,aA rfl];omega,λj=>by rw[e,aA rfl];omega⟩
  refine⟨H.1.trans G,λx F=>?_,λk=>?_⟩
  ·rcases fC.1 F with rfl|F
   ·exact H.2.trans G
   ·exact U x F
  ·refine(L k).trans ?_;have:=Rb (rows:=rows) (i:=0) ae A.1 A.2;have this:eI (K+1) rows 0 s=TQ rows 0 s:=this;rw[this];exact aq ae
structure Wg (C:C21)(K:Nat)(P:bH)(k:Nat)(a:Acc):Prop where
 who:a.who=(k:Int)+1
 len:a.when_.length=K+1
 le:leS a.when_ (P.rows (k+1))
 w0:1≤a.when_.getD 0 0
 wk:1≤a.when_.getD (k+1) 0
 nn:∀j,0≤a.when_.getD j 0
 sh:(a.buf=0∧a.wr=false)∨a.buf=(k:Int)+2∨(a.buf=1∧a.wr=true∧∃x∈(P.ws k).tiles,∃y,(aL C.d x).y≤y∧y<(aL C.d x).y+(aL C.d x).h∧a.lo=(y*C.d.X+(aL C.d x).x)*C.m.c∧a.hi=a.lo+(aL C.d x).w*C.m.c)
 tl:(P.ws k).tiles≠[]
def EM (K:Nat)(buf n:Int):Acc:=⟨0,iV (K+1) 0,buf,0,0+n,true⟩
structure zQ (C:C21)(K:Nat)(S D:Int)(P:bH):Prop where
 g0:1≤(P.rows 0).getD 0 0
 r0:∀k,k<K→(P.rows (k+1)).getD 0 0<(P.rows 0).getD 0 0
 r1:∀k,k<K→1≤(P.rows (k+1)).getD (k+1) 0
 rt:∀k,k<K→(P.ws k).tiles≠[]→1≤(P.rows (k+1)).getD 0 0
 s0:∀s∈P.stamps,1≤s.getD 0 0∧s.getD 0 0<(P.rows 0).getD 0 0
 f0:P.fin.getD 0 0<(P.rows 0).getD 0 0
 lf:∀k,k<K→(P.ws k).state=2→∃s∈P.left,∀a∈P.acc,a.who=(k:Int)+1→leS a.when_ s
 ac:∃ws e,P.acc=EM K 0 S::EM K 1 D::(ws++e)∧(∀a∈ws,∃k,k<K∧Wg C K P k a)∧(P.ret=false→e=[])∧(P.ret=true→∃f:Acc,e=[f]∧f.who=0∧f.buf=1∧f.wr=false∧∀a∈ws,uu a.when_ f.when_=true)
 tn:∀k,k<K→(P.ws k).tiles.Nodup∧∀x∈(P.ws k).tiles,∀z∈P.q.l,x<z
 td:∀k k',k<K→k'<K→k≠k'→∀x∈(P.ws k).tiles,x∉(P.ws k').tiles
theorem Wg.more {C:C21}{K:Nat}{P Q:bH}{k:Nat}{a:Acc}(H:Wg C K P k a)(G:leS (P.rows (k+1)) (Q.rows (k+1)))(A:∀x∈(P.ws k).tiles,x∈(Q.ws k).tiles):Wg C K Q k a:=by
 refine⟨H.who,H.len,H.le.trans G,H.w0,H.wk,H.nn,H.sh.imp id λh=>h.imp id λ⟨h1,F,x,I,L⟩=>⟨h1,F,x,A x I,L⟩,λh=>?_⟩;have:=H.tl;cases e:(P.ws k).tiles with
 |nil=>exact this e
 |cons x l=>have:=A x (by rw[e];simp);rw[h]at this;cases this
theorem zQ.keep {C:C21}{K:Nat}{S D:Int}{P Q:bH}(H:zQ C K S D P)(F:Q.ws=P.ws)(I:Q.acc=P.acc)(U:Q.left=P.left)(G:Q.ret=P.ret)(L:∀k,k<K→Q.rows (k+1)=P.rows (k+1))(h0:(P.rows 0).getD 0 0≤(Q.rows 0).getD 0 0)
  (hs:∀s∈Q.stamps,1≤s.getD 0 0∧s.getD 0 0<(Q.rows 0).getD 0 0) (hf:Q.fin.getD 0 0<(Q.rows 0).getD 0 0) (hq:∀k,k<K→∀x∈(P.ws k).tiles,∀z∈Q.q.l,x<z):zQ C K S D Q:=by
 obtain⟨a1,a2,a3,a4,a5,a6,a7,⟨ws,e,b1,b2,b3,b4⟩,a9,W⟩:=H;refine⟨ae,λk A=>by rw[L k A];have:=a2 k A;omega,λk A=>by rw[L k A];exact a3 k A,λk A ht=>?_,hs,hf,?_,⟨ws,e,by rw[I];exact b1,λa ha=>?_,by rw[G];exact b3,by rw[G];exact b4⟩,λk A=>?_,?_⟩
 ·rw[L k A];exact a4 k A (by rw[←F];exact ht)
 ·rw[F,U,I];exact a7
 ·obtain⟨k,A,h⟩:=b2 a ha;exact⟨k,A,h.more (by rw[L k A];exact λj=>dT _) (by rw[F];exact λx hx=>hx)⟩
 ·rw[F];exact⟨(a9 k A).1,hq k A⟩
 ·rw[F];exact W
end Go.Proofs.YtjljhnandbbldaaGreatDoor
namespace Go.Proofs.YtjljhnandbbldaaGreatDoor
open Go Go.Crisp
attribute [local irreducible] ag du bh stK aE vK qK bO gK fR bA mkK dy GQ IQ DT bsK clK pG pH Q9
open _root_.Go.Proofs.Tryz
section
theorem zcf {h:ah}{n:Nat}(h1:1≤n)(h2:n≤512):ag prog lV #[af (n:Int)] h λr h'=>ka rIs h h' r ((List.range n).map (iV n)):=by
 apply Sr;unfold HC;refine bF (λF g=>F=[af (n:Int)]∧g=h) ?_ ?_
 ·rw[cC,aj];exact ao (λc=>absurd c ae) λ_=>by simp
 rintro F ρ g ⟨rfl,rfl⟩;refine bF (λF U=>F=[af (n:Int)]∧U=g) ?_ ?_
 ·simp only[iz];rw[mW,aj];exact ao (λc=>absurd c ae) λ_=>by simp
 rintro F ρ U ⟨rfl,rfl⟩;simp only[iz];refine bK (α:=Value) n 0 (λi v=>[v,af (i:Int)]) (λi v g=>ka rIs U g v ((List.range i).map (iV n))) (.slice none 0 0) rfl (b9 _) (ka.nil (Ext.refl _)) λi v g again ρ _ hi H I=>?_
 simp only[iz,zJ];rw[cC,aj];refine ao (λg1=>?_) (λg1=>?_)
 ·have A:i<n:=ae;refine pF rfl ae ae λs g2 o2 e2 W=>?_
  obtain⟨p,q1,_,q3⟩:=Own.at1 o2 (k:=.i64) A;rw[q1,aj];refine q3 _ _ rfl λg3 o3 f3 s3=>?_
  have E3:Ext g g3:=e2.then_fr f3 W;have hx:(List.replicate n (af 0)).set i aG=(iV n i).map vi:=by
   apply rE (by simp[iV]);intro j h1 h2;rw[D4];simp only[dX,YN,iV,ur,vi];by_cases h:i=j
   ·subst h;simp
   ·rw[aq h,aq (iu h)]
  rw[hx]at o3;have hl:(iV n i).length=n:=by simp[iV]
  have oI:jE g3 s (iV n i):=by unfold jE;rw[hl];exact o3
  have N3:=H.ext E3;have sE:=H.exts.1;refine ka.push1 (e:=rIs) (x:=iV n i) (Y:=blk s) rfl N3 ⟨s,rfl,wU (jE.ints oI) λ_ b G=>G⟩ (λb G=>⟨?_,oI.lt G,λhv=>?_⟩) rfl (by simp;omega) (by simp;omega) λv7 g7 N7=>?_
  ·have:=W b G;omega
  ·have h1:=W b G;have h2:=H.lt hv;omega
  have L:(i:Int)+1=((i+1:Nat):Int):=ae
  try simp only[go_sem]
  rw[w64 (n:=(i:Int)+1) ae ae,L];refine I v7 g7 A ?_;rw[mA,jA];exact N7
 ·have:i=n:=ae;subst this;exact H
theorem WN {α:Type}{e:Rp α}{Z P:Nat→Prop}{Q:ah→Prop}{z z' c:Value}{t t':TypeId}{bytes:Nat}{s:Value}{h:ah}{l:List α}{x:α}{K:Value→ah→Prop}(hw:e.w=1)(I:Rp.Ow e Z h s l)(hx:e.R P h [c] x)(F:z.cells.size=1)(A:(l.length+1)*bytes≤140737488355328)(hn:l.length+1≤9223372036854775807)(hZ:∀b,Z b→b<h.size)(L:∀b,P b→b<h.size∧¬blk s b)(hQ:∀h',Ext h h'→Q h')
  (H:∀G h',Rp.Ow e (λb=>Z b∨P b) h' G (l++[x])→Fr (blk s) h h'→(∀b,blk G b→blk s b∨h.size≤b)→K G h'):du #[z'] t 1 [(0,1,c)] h λv2 U=>Q U∧dy z t' 1 bytes s v2 U K:=by
 have W:∀b,blk s b→¬Z b:=by obtain⟨ds,_,d,_⟩:=I;exact d
 exact Rp.push_ow1S (P:=λ_=>True) hw (I.mono (λb _ A=>.inl A) λb A F=>F.elim (W b A) λF=>(L b F).2 A) (e.mono hx λb _ A=>.inr A) F A hn (λb A=>A.elim (hZ b) λh=>(L b h).1) hQ H
structure StN (C:C21)(K N:Nat)(room:Int)(h0:ah)(t q c w:Option Value)(p:Option Nat)(g:ah):Prop where
 ext:Ext h0 g
 parts:∃Zr:Nat→Prop,(∀k,Zr k→h0.size≤k∧k<g.size∧∀x,p=some x→k≠x)∧(∀v,t=some v→Rp.Sl FH Zr g v (dJ C.d N))∧(∀v,c=some v→Rp.Sl rIs Zr g v ((List.range (K+1)).map (iV (K+1))))∧∀v,w=some v→Rp.Sl rVD Zr g v ((List.range K).map λ_=>⟨0,[],[]⟩)
 qq:∀v,q=some v→v=.agg #[.int .i64 (min (max 1 room) 4096),.slice none 0 0,.bool false]
 var:∀x,p=some x→h0.size≤x∧g[x]? =some (.cells aK 48 (0,0))
section
variable {C:C21}{K N:Nat}{room:Int}{h0 g:ah}{t q c w:Option Value}{p:Option Nat}{J:Value→ah→Prop}
theorem StN.start (C:C21)(K N:Nat)(room:Int)(h:ah):StN C K N room h none none none none none h:=⟨Ext.refl _,⟨λ_=>False,by simp,by simp,by simp,by simp⟩,by simp,by simp⟩
theorem StN.grow {G:ah}(S:StN C K N room h0 t q c w p g)(e:Ext g G):StN C K N room h0 t q c w p G:=by
 obtain⟨a,⟨I,z,U,W,L⟩,d,f⟩:=S;exact⟨a.trans e,⟨I,λk F=>⟨(z k F).1,ce (z k F).2.1 e.1,(z k F).2.2⟩,λv A=>(U v A).ext e,λv A=>(W v A).ext e,λv A=>(L v A).ext e⟩,d,λx H=>⟨(f x H).1,e.row (f x H).2⟩⟩
theorem StN.more {I c' w':Option Value}{F:ah}{Y:Nat→Prop}(S:StN C K N room h0 t q c w p g)(e:Ext g F)(hY:∀k,Y k→g.size≤k∧k<F.size)(U:∀v,I=some v→t=some v∨Rp.Sl FH Y F v (dJ C.d N))(hc:∀v,c'=some v→c=some v∨Rp.Sl rIs Y F v ((List.range (K+1)).map (iV (K+1))))(hw:∀v,w'=some v→w=some v∨Rp.Sl rVD Y F v ((List.range K).map λ_=>⟨0,[],[]⟩)):StN C K N room h0 I q c' w' p F:=by
 obtain⟨a,⟨L,z,b1,W,b3⟩,d,f⟩:=S;have se:=a.1;refine⟨a.trans e,⟨λk=>L k∨Y k,λk A=>?_,λv G=>?_,λv G=>?_,λv G=>?_⟩,d,λx H=>⟨(f x H).1,e.row (f x H).2⟩⟩
 ·rcases A with A|A
  ·exact⟨(z k A).1,ce (z k A).2.1 e.1,(z k A).2.2⟩
  ·have:=hY k A;exact⟨ae,this.2,λx H=>by have:=bD (f x H).2;omega⟩
 ·exact(U v G).elim (λh=>((b1 v h).ext e).mono λ_ _ h=>.inl h) λh=>h.mono λ_ _ h=>.inr h
 ·exact(hc v G).elim (λh=>((W v h).ext e).mono λ_ _ h=>.inl h) λh=>h.mono λ_ _ h=>.inr h
 ·exact(hw v G).elim (λh=>((b3 v h).ext e).mono λ_ _ h=>.inl h) λh=>h.mono λ_ _ h=>.inr h
theorem StN.call_t {Z:Nat→Prop}{cs:List Value}(S:StN C K N room h0 none q c w p g)(W:yw.R Z h0 cs C.d.s)(O:C.Ok)(U:(N:Int)=bU C.d)(G:N≤4096)(L:1≤C.d.X)(hY:1≤C.d.Y)(few:∀x∈C.d.s.x.lines++C.d.s.y.lines,x.2.length≤1073741824)(H:∀v A,StN C K N room h0 (some v) q c w p A→J v A):ag prog lX #[.agg cs.toArray,af C.d.w,af C.d.h] g J:=
 (zar (yw.ext W S.ext) O.d few U G L hY).mono λv A F=>H v A (S.more (Y:=blk v) F.2.1 (λk I=>⟨F.2.2 k I,F.lt I⟩) (λu hu=>by cases hu;exact .inr F.sl) (λu hu=>.inl hu) λu hu=>.inl hu)
theorem StN.call_q (S:StN C K N room h0 t none c w p g)(H:∀v A,StN C K N room h0 t (some v) c w p A→J v A):ag prog lW #[af room] g J:=
 zcg.mono λv A ⟨G,e⟩=>H v A (by
  have F:=S.grow e;exact⟨F.ext,F.parts,λu hu=>by cases hu;exact G,F.var⟩)
theorem StN.call_c (S:StN C K N room h0 t q none w p g)(I:K≤511)(H:∀v A,StN C K N room h0 t q (some v) w p A→J v A):ag prog lV #[af ((K:Int)+1)] g J:=by
 rw[show(K:Int)+1=((K+1:Nat):Int)by omega];exact(zcf ae ae).mono λv A F=>H v A (S.more (Y:=gq g A) F.exts (λk G=>G) (λu hu=>.inl hu) (λu hu=>by cases hu;exact .inr F.sl) λu hu=>.inl hu)
theorem StN.mk_w {bytes:Nat}{T:TypeId}(S:StN C K N room h0 t q c none p g)(hK:K≤511)(I:bytes≤1000)(H:∀v G,StN C K N room h0 t q c (some v) p G→J v G):mkK (.agg #[ai,.slice none 0 0,.slice none 0 0]) T 3 bytes (af (K:Int)) (af (K:Int)) g J:=by
 unfold mkK;have U:IntKind.i64.wrap (K:Int)=K:=w64 ae ae;simp only[U];refine⟨ae,ae,?_,?_⟩
 ·have:(bytes:Int)*(K:Int)≤1000*511:=rB ae ae ae ae;omega
 rw[dW];have L:∀j,j<K*3→(jN (.agg #[ai,.slice none 0 0,.slice none 0 0]) (K*3)).toList[j]? =some ([af 0,.slice none 0 0,.slice none 0 0][j%3]'(by simp;omega)):=by
  intro j A;unfold jN;simp only[bT,TM,yb,Array.toList_range,Ys A,cR];have:j%3<3:=iy _ ae
  congr 1
  rcases(show j%3=0∨j%3=1∨j%3=2 by omega)with h|h|h<;>simp[h]
 have W:(jN (.agg #[ai,.slice none 0 0,.slice none 0 0]) (K*3)).toList.length=K*3:=by simp[jN]
 refine H _ _ (S.more (Y:=λk=>k=g.size) (Ext.push g _) (λk F=>by rw[F];simp) (λu hu=>.inl hu) (λu hu=>.inl hu) λu hu=>by
  cases hu;refine .inr ⟨(jN (.agg #[ai,.slice none 0 0,.slice none 0 0]) (K*3)).toList,⟨by simp[jN];rfl,_,K,by rw[cS,ft],.inr ⟨g.size,0,rfl,λj A=>?_⟩⟩,λ_ b I=>I,λi hi=>?_⟩
  ·rw[aO,am (t:=T) (f:=(0,0)) tm,iI A |>.symm,vB]
  ·have hi:i<K:=by simpa using hi
   refine⟨.slice none 0 0,.slice none 0 0,?_,by simpa using Rp.Sl.nil,by simpa using Rp.Sl.nil,_,_,_,rfl,cf _⟩;apply List.ext_getElem?;intro k;by_cases F:k<3
   ·show((List.drop (i*3) _).take 3)[k]? =_;rw[YD F,List.getElem?_drop,L _ ae];rcases(show k=0∨k=1∨k=2 by omega)with h|h|h<;>subst h<;>simp<;>rfl
   ·show((List.drop (i*3) _).take 3)[k]? =_;rw[D3 (by simp;omega),D3 (by simp;omega)])
theorem StN.new_p (S:StN C K N room h0 t q c w none g)(H:∀x F,StN C K N room h0 t q c w (some x) F→J (ptr x) F):bh aK 48 g J:=by
 have hs:=S.ext.1;refine aJ λx F r e n=>H x F ?_
 obtain⟨a,⟨L,z,b1,U,W⟩,d,f⟩:=S;exact⟨a.trans e,⟨L,λk I=>⟨(z k I).1,ce (z k I).2.1 e.1,λy G=>by cases G;have:=(z k I).2.1;omega⟩,λv A=>(b1 v A).ext e,λv A=>(U v A).ext e,λv A=>(W v A).ext e⟩,d,λy G=>by cases G;exact⟨ae,r⟩⟩
theorem StN.vk_fill {X Y tv I cv wv:Value}{G F H A:Int}{J:Value→Prop}(S:StN C K N room h0 (some tv) (some I) (some cv) (some wv) p g)(oX:aV X=true)(oY:aV Y=true)(U:J (.agg [X,Y,af G,af F,af H,af A,tv,.slice none 0 0,af (min (max 1 room) 4096),.slice none 0 0,.bool false,cv,wv,.slice none 0 0,ai,.bool false,.bool false,.slice none 0 0,.slice none 0 0,.slice none 0 0].toArray)):
  vK ((aQ aK [(0,5,.agg [X,Y,af G,af F,af H].toArray),(5,1,af A),(6,1,tv),(8,3,I),(11,1,cv),(12,1,wv)]).map .agg) J:=by
 obtain⟨Zr,z,b1,L,W⟩:=S.parts;have e:=S.qq _ rfl;subst e;have f:aQ aK [(0,5,.agg [X,Y,af G,af F,af H].toArray),(5,1,af A),(6,1,tv),(8,3,.agg #[af (min (max 1 room) 4096),.slice none 0 0,.bool false]),(11,1,cv),(12,1,wv)]=some [X,Y,af G,af F,af H,af A,tv,.slice none 0 0,af (min (max 1 room) 4096),.slice none 0 0,.bool false,cv,wv,.slice none 0 0,ai,.bool false,.bool false,.slice none 0 0,.slice none 0 0,.slice none 0 0].toArray:=by
  refine(bX (n:=5) (l:=[X,Y,af G,af F,af H]) rfl rfl (by simp)).trans ?_;refine(bX (n:=1) (l:=[af A]) rfl rfl (by simp[cO])).trans ?_;refine(bX (n:=1) (l:=[tv]) (cI (b1 _ rfl).one) rfl (by simp[cO])).trans ?_;refine(bX (n:=3) (l:=[af (min (max 1 room) 4096),.slice none 0 0,.bool false]) rfl rfl (by simp[cO])).trans ?_;refine(bX (n:=1) (l:=[cv]) (cI (L _ rfl).one) rfl (by simp[cO])).trans ?_;refine(bX (n:=1) (l:=[wv]) (cI (W _ rfl).one) rfl (by simp[cO])).trans ?_;rw[ia];simp[wrL]
 rw[f,bJ,aj];exact U
end
abbrev C4:Value:=.slice none 0 0
def PreN (C:C21)(K N:Nat)(room:Int)(X Y:Value)(h0:ah)(x:Nat)(tv cv wv:Value)(Zr:Nat→Prop)(g:ah):Prop:=
 g[x]? =some (.cells (dpC C (FJ K room) ⟨X,Y,tv,C4,C4,cv,wv,C4,C4,C4,C4⟩).toArray 48 (0,0))∧Ext h0 g∧h0.size≤x∧(∀k,Zr k→h0.size≤k∧k<g.size∧k≠x)∧
 Rp.Sl FH Zr g tv (dJ C.d N)∧Rp.Sl rIs Zr g cv ((List.range (K+1)).map (iV (K+1)))∧Rp.Sl rVD Zr g wv ((List.range K).map λ_=>⟨0,[],[]⟩)
theorem StN.fin {C:C21}{K N:Nat}{room:Int}{h0 g:ah}{X Y tv qv cv wv:Value}{x:Nat}{J:Value→ah→Prop}(S:StN C K N room h0 (some tv) (some qv) (some cv) (some wv) (some x) g)(U:aV X=true)(oY:aV Y=true)(HJ:∀F G,PreN C K N room X Y h0 x tv cv wv F G→J undef G):
  stK 20 (ptr x) (.agg [X,Y,af C.d.s.x.n,af C.d.s.y.n,af C.d.s.border,af C.m.c,tv,.slice none 0 0,af (min (max 1 room) 4096),.slice none 0 0,.bool false,cv,wv,.slice none 0 0,ai,.bool false,.bool false,.slice none 0 0,.slice none 0 0,.slice none 0 0].toArray) g J:=by
 obtain⟨F,z,b1,W,b3⟩:=S.parts;obtain⟨n,r⟩:=S.var x rfl;have H:=b1 _ rfl;have I:=W _ rfl;have L:=b3 _ rfl;refine da (l:=[X,Y,af C.d.s.x.n,af C.d.s.y.n,af C.d.s.border,af C.m.c,tv,.slice none 0 0,af (min (max 1 room) 4096),.slice none 0 0,.bool false,cv,wv,.slice none 0 0,ai,.bool false,.bool false,.slice none 0 0,.slice none 0 0,.slice none 0 0]) r rfl ?_ rfl λG r' u=>?_
 ·exact az U (az oY (az rfl (az rfl (az rfl (az rfl (az H.one (az rfl (az rfl (az rfl (az rfl (az I.one (az L.one (az rfl (az rfl (az rfl (az rfl (az rfl (az rfl (az rfl bi)))))))))))))))))))
 ·have q:∀k,k<g.size→F k→¬k=x:=λk _ A=>(z k A).2.2 x rfl
  exact HJ F G ⟨r',S.ext.upd n u,n,λk A=>⟨(z k A).1,by rw[u.1];exact(z k A).2.1,(z k A).2.2 x rfl⟩,H.fr u.fr q,I.fr u.fr q,L.fr u.fr q⟩
theorem zce {C:C21}{K N:Nat}{room:Int}{h:ah}{Z:Nat→Prop}{cs:List Value}(HK:yw.R Z h cs C.d.s)(zl:∀c,Z c→c<h.size)(O:C.Ok)(hN:(N:Int)=bU C.d)(bv:N≤4096)(hX:1≤C.d.X)(hY:1≤C.d.Y)(few:∀x∈C.d.s.x.lines++C.d.s.y.lines,x.2.length≤1073741824)(hK:1≤K∧K≤256)
  (b1:0≤C.d.s.x.n*C.d.s.y.n*C.m.c∧C.d.s.x.n*C.d.s.y.n*C.m.c≤1000000000000) (b2:0≤C.d.X*C.d.Y*C.m.c∧C.d.X*C.d.Y*C.m.c≤1000000000000) (b3:0≤C.d.s.x.n*C.d.s.y.n∧C.d.s.x.n*C.d.s.y.n≤1000000000000) (b4:0≤C.d.X*C.d.Y∧C.d.X*C.d.Y≤1000000000000):
  ag prog DA #[.agg cs.toArray,af C.m.c,af C.d.w,af C.d.h,af (K:Int),af room] h (DTo Z C K N h (CJ K room (C.d.s.x.n*C.d.s.y.n*C.m.c) (C.d.X*C.d.Y*C.m.c))):=by
 apply Sq;unfold HA;have bk:=HK;obtain⟨X,Y,rfl,HX,HY⟩:=HK;rw[bT];refine aJ λbs g1 r1 e1 n1=>aJ λb3 g3 r3 e3 n3=>?_
 have k1:=bD r1;have k3:=bD r3;have s1:=e1.1;have s3:=e3.1;have r1:=e3.row r1;have E3:=e1.trans e3;have a7:=yw.ext bk E3;have oX:=HX.one;have oY:=HY.one;refine bF (λxs g=>∃x tv cv wv Zr,xs=[ptr x]∧PreN C K N room X Y g3 x tv cv wv Zr g) ?_ ?_
 ·refine aS (Ext g3) (Ext.refl _) ?_;have q2:∀W,Ext g3 W→aR 5 W (ptr bs)=some (.agg [X,Y,af C.d.s.x.n,af C.d.s.y.n,af C.d.s.border].toArray):=λW e=>aW (e.row r1) 5 rfl
  refine aD _ q2 ?_;refine aD _ q2 ?_;have ek:ak .i .add (af (K:Int)) aG=some (af ((K:Int)+1)):=by
   show some (af (IntKind.i64.wrap ((K:Int)+1)))=_;rw[w64 ae ae]
  rw[ek,aj];have M0:=StN.start C K N room g3
  repeat' first
   |exact StN.ext ‹StN _ _ _ _ _ _ _ _ _ _ _›
   |refine And.intro ?_ ?_
   |refine StN.call_t ‹StN _ _ _ _ _ none _ _ _ _ _› a7 O hN bv hX hY few λv W M=>?_
   |refine StN.call_q ‹StN _ _ _ _ _ _ none _ _ _ _› λv W M=>?_
   |refine StN.call_c ‹StN _ _ _ _ _ _ _ none _ _ _› ae λv W M=>?_
   |refine StN.mk_w ‹StN _ _ _ _ _ _ _ _ none _ _› ae ae λv W M=>?_
   |refine StN.new_p ‹StN _ _ _ _ _ _ _ _ _ none _› λx W M=>?_
   |refine StN.vk_fill ‹StN _ _ _ _ _ (some _) (some _) (some _) (some _) _ _› oX oY ?_
   |refine StN.fin ‹StN _ _ _ _ _ (some _) (some _) (some _) (some _) (some _) _› oX oY λZr W H=>⟨_,_,_,_,Zr,rfl,H⟩
 rintro xs ρ g ⟨x,tv,cv,wv,Zr,rfl,rx,eg,nx,zr,Ht,Hc,Hw⟩;have kx:=bD rx;have sg:=eg.1;have c6:aH g ⟨x,6,none⟩=some tv:=am rx;have cr:aC tv=some (af (N:Int)):=by obtain⟨a,c,e⟩:=Ht.isSl;rw[e];simp[aC,dJ]
 have ad:∀c,Z c→¬c=x:=λc hc h=>by have:=zl c hc;omega
 simp only[iz,go_sem,aO,c6,cr];refine bK (α:=Unit) N 0 (λi _=>[af (i:Int)]) (λi _ F=>∃mv Zm,F[x]? =some (.cells (dpC C (FJ K room) ⟨X,Y,tv,mv,C4,cv,wv,C4,C4,C4,C4⟩).toArray 48 (0,0))∧Fr (λk=>k=x) g F∧Rp.Ow zeB Zm F mv (Gy C i)∧∀k,(blk mv k∨Zm k)→g.size≤k∧k<F.size) () rfl (b9 _) ⟨C4,λ_=>False,rx,Fr.refl _ _,Rp.Ow.nil,λk A=>A.elim (λh=>h.elim) False.elim⟩ λi _ F again ρ' _ hi ⟨mv,Zm,U,fx,om,zm⟩ cp=>?_
 have sx:=fx.1;have rS:=fx.row (eg.row r1) (show¬bs=x by omega);simp only[iz];rw[cC,aj];refine ao (λc1=>?_) (λc1=>?_)
 ·have cb:i<N:=ae;have ct:=Ht.fr fx λk _ A=>(zr k A).2.2
  obtain⟨pt,cs,a1,a2,a3⟩:=ct.atw (show 0<10 by omega) (k:=.i64) (i:=i) (by simp[dJ];omega);have a1:bu 10 tv (af (i:Int))=some pt:=a1;have a2:aR 10 F pt=some (.agg cs.toArray):=a2;have et:(dJ C.d N)[i]'(by simp[dJ];omega)=aL C.d i:=by simp[dJ]
  rw[et]at a3;obtain⟨f0,f1,f3,f5,ec⟩:=a3;rw[a1,aj,a2,aj];refine dh (cs:=cs) (by rw[ec];rfl) (FH.one (Z:=Zr) (h:=F) (x:=aL C.d i) ⟨f0,f1,f3,f5,ec⟩) (by rw[ec];rfl) λb5 g5 r5 e5 n5=>?_
  rw[ec]at r5;have s5:=e5.1;refine aS (Ext g5) (Ext.refl _) ?_;simp only[go_sem,aO];refine aD mv (λk e=>am (e.row (e5.row U))) ?_;refine aD (.agg [X,Y,af C.d.s.x.n,af C.d.s.y.n,af C.d.s.border].toArray) (λk e=>aW (e.row (e5.row rS)) 5 rfl) ?_
  try simp only[go_sem,aO]
  refine aD (af (aL C.d i).y) (λk e=>am (e.row r5)) ?_
  try simp only[go_sem,aO]
  refine aD (af (aL C.d i).h) (λk e=>am (e.row r5)) ?_;have hw:=gI O.d (i:=(i:Int)) ae ae;unfold eF at hw;have K5:yw.R Z g5 [X,Y,af C.d.s.x.n,af C.d.s.y.n,af C.d.s.border] C.d.s:=yw.ext (yw.fr (yw.ext a7 eg) fx λk _ A=>ad k A) e5;refine(XD (m:=C.m) (t:=aL C.d i) K5 O.s hw.2.2.2.1 hw.2.1 ae).mono λsv g6 G=>⟨G.2.1,?_⟩
  have s6:=G.2.1.1;have au:(Gy C i).length=i:=by simp[Gy]
  refine WN (e:=zeB) (x:=TN C.E (some (JD C.d i))) (P:=blk sv) (Q:=Ext g5) rfl (om.ext (e5.trans G.2.1)) ⟨sv,rfl,G.sl,G.1.slcap⟩ rfl (by rw[au];omega) (by rw[au];omega) (λb hb=>by have:=(zm b (.inr hb)).2;omega) (λb hb=>⟨G.lt hb,λhv=>by have:=G.2.2 b hb;have:=(zm b (.inl hv)).2;omega⟩) (λh' e=>G.2.1.trans e) λv7 g7 o7 f7 n7=>?_
  have s7:=f7.1;have b0:=f7.row ((e5.trans G.2.1).row U) (show¬blk mv x from λh=>by have:=(zm x (.inl h)).1;omega);have bg:(i:Int)+1=((i+1:Nat):Int):=ae
  try simp only[go_sem,aO]
  refine ck b0 (by simp[dpC]) o7.one λg8 r8 u8=>?_
  have s8:=u8.1
  try simp only[go_sem]
  rw[w64 (n:=(i:Int)+1) ae ae,bg];have hz:∀k,(blk v7 k∨(Zm k∨blk sv k))→g.size≤k∧k<g7.size:=λk A=>by
   rcases A with A|A|A
   ·refine⟨?_,o7.lt A⟩;rcases n7 k A with h|h
    ·exact(zm k (.inl h)).1
    ·omega
   ·have:=zm k (.inr A);omega
   ·have:=G.2.2 k A;have:=G.lt A;omega
  refine cp () g8 cb ⟨v7,λb=>Zm b∨blk sv b,r8,((fx.after (e5.trans G.2.1).fr λ_ _ h=>False.elim h).after f7 λc hc h=>by have:=(zm c (.inl h)).1;omega).after u8.fr λc _ h=>h,?_,λk A=>by rw[s8];exact hz k A⟩;rw[Vf];exact o7.fr u8.fr (λk _ A h=>by have:=(hz k (.inr A)).1;omega) λk A h=>by have:=(hz k (.inl A)).1;omega
 ·have:i=N:=ae;subst this;have q0:∀k,k<g.size→Zr k→¬k=x:=λk _ A=>(zr k A).2.2
  have EG:=E3.trans eg
  let Z':Nat→Prop:=λk=>(Z k∨Zr k∨blk mv k∨Zm k)∧k<F.size
  have zz:∀k,Z' k→(Z k∨h.size≤k)∧k<F.size∧k≠x∧k≠b3:=λk A=>by
   obtain⟨A,lt⟩:=A;rcases A with A|A|A|A
   ·have:=zl k A;exact⟨.inl A,lt,ae,ae⟩
   ·have:=zr k A;exact⟨.inr ae,lt,ae,ae⟩
   ·have:=zm k (.inl A);exact⟨.inr ae,lt,ae,ae⟩
   ·have:=zm k (.inr A);exact⟨.inr ae,lt,ae,ae⟩
  have D:DAt Z' C K i (FJ K room) ⟨X,Y,tv,mv,C4,cv,wv,C4,C4,C4,C4⟩ F:=
   ⟨((HX.ext EG).fr fx λk _ A=>ad k A).mono λk lt A=>⟨.inl A,lt⟩,((HY.ext EG).fr fx λk _ A=>ad k A).mono λk lt A=>⟨.inl A,lt⟩,(Ht.fr fx q0).mono λk lt A=>⟨.inr (.inl A),lt⟩,om.sl.mono λk lt A=>⟨.inr (.inr (A.elim .inr .inl)),lt⟩,⟨Rp.Sl.nil,_,_,_,rfl,cf _⟩,
    (Hc.fr fx q0).mono λk lt A=>⟨.inr (.inl A),lt⟩,(Hw.fr fx q0).mono λk lt A=>⟨.inr (.inl A),lt⟩,Rp.Sl.nil,Rp.Sl.nil,Rp.Sl.nil,Rp.Sl.nil⟩
  have c2:aH F ⟨bs,2,none⟩=some (af C.d.s.x.n):=am rS;have c3:aH F ⟨bs,3,none⟩=some (af C.d.s.y.n):=am rS;rw[aW U 20 rfl,aj];simp only[go_sem,aO,c2,c3];rw[w64 (n:=C.d.s.x.n*C.d.s.y.n) ae ae,w64 (n:=C.d.s.x.n*C.d.s.y.n*C.m.c) ae ae];refine(Rz (who:=0) D (λc hc=>(zz c hc).2.1) (b9 _) (by simp[FJ]) (dT _) b1.1 ae).mono λr g9 D9=>?_
  obtain⟨Z9,V9,er,H9,z9,e9⟩:=D9;subst er;have s9:=e9.1;have al:∀k,Z9 k→(Z k∨h.size≤k)∧k<g9.size∧k≠x∧k≠b3:=λk A=>by
   rcases(z9 k A).1 with h1|h1
   ·have:=zz k h1;exact⟨this.1,(z9 k A).2,this.2.2⟩
   ·exact⟨.inr ae,(z9 k A).2,ae,ae⟩
  refine da (e9.row U) (by rfl) H9.ones (by rfl) λa9 cu I=>?_
  have cw:=I.1;have aa:=I.row (show bs≠x by omega) (e9.row rS);have b8:=H9.fr I.fr λk _ A=>(al k A).2.2.1
  obtain⟨ax,cx,ex⟩:=HX.isSl;obtain⟨ay,cy,ey⟩:=HY.isSl;have bo:aC X=some (af C.d.X):=by rw[ex];rfl
  have ci:aC Y=some (af C.d.Y):=by rw[ey];rfl
  have c0:aH a9 ⟨bs,0,none⟩=some X:=am aa;have b6:aH a9 ⟨bs,1,none⟩=some Y:=am aa;rw[aW cu 20 rfl,aj];simp only[go_sem,aO,c0,b6,bo,ci];rw[w64 (n:=C.d.X*C.d.Y) ae ae,w64 (n:=C.d.X*C.d.Y*C.m.c) ae ae];refine(Rz (who:=0) b8 (λc hc=>by have:=(al c hc).2.1;omega) (b9 _) (by simp[FJ,uV]) (dT _) b2.1 ae).mono λr cc b7=>?_
  obtain⟨bc,bd,er,a8,ar,ab⟩:=b7;subst er;have c4:=ab.1;have ca:=ab.row (I.row (show b3≠x by omega) (e9.row (fx.row (eg.row r3) (show¬b3=x by omega))));have L:∀k,bc k→(Z k∨h.size≤k)∧k<cc.size∧k≠b3:=λk A=>by
   rcases(ar k A).1 with h1|h1
   ·have:=al k h1;exact⟨this.1,(ar k A).2,this.2.2.2⟩
   ·exact⟨.inr ae,(ar k A).2,ae⟩
  refine da ca (by rfl) a8.ones (by rfl) λc7 be an=>?_
  rw[aW be 20 rfl,aj];have EX:Ext h F:=EG.then_fr fx λc hc=>by have hc:c=x:=hc;omega
  exact⟨bc,bd,rfl,a8.fr an.fr λk _ A=>(L k A).2.2,λk A=>⟨(L k A).1,by rw[an.1];exact(L k A).2.1⟩,(((EX.trans e9).upd ae I).trans ab).upd ae an⟩
end
def Nh:Pic:=⟨1,1,1,255,[9]⟩
def zu:OpD:=⟨1,0,0,0,[],[],0,0,0⟩
theorem zab:fF zu 1 1=0∧qL zu 1=1∧oS Nh (cz zu 1 1)∧C9 (cz zu 1 1).x.lines.length (cz zu 1 1).y.lines.length 1 255=0∧(cz zu 1 1).x.lines.length=1∧(cz zu 1 1).y.lines.length=1∧yx Nh (cz zu 1 1) 0 0 0=9∧bU ⟨cz zu 1 1,1,1⟩=1∧z8 (cz zu 1 1) (aL ⟨cz zu 1 1,1,1⟩ 0) Nh=2:=by
 decide+kernel
theorem at22:atP (Dv Nh (cz zu 1 1)) 0 0 0=9:=by decide+kernel
theorem QY {C:C21}{K N:Nat}{room a b:Int}{n:Pic}(F:(N:Int)=bU C.d):gG C K N 0 (CJ K room a b) n:=by
 refine⟨zbf ae,F,dT _,rfl,(by show 1≤min (max 1 room) 4096;omega),(λx G=>ae),λk A h=>?_,?_,(λh=>by cases h),?_,(λk A x y c _ i hi=>by cases hi)⟩
 ·have h:(0:Int)=2:=h;omega
 ·show 0=rk K λ_=>0
  rw[Hk]
 ·show(0:Int)+((N-0)+1+1+(N-0)+jx C (N-0) 0+rk K (λ_=>0)+(K-0):Nat)=(2*N+K+2+jx C N 0:Nat);rw[Hk,Ap];omega
theorem zdx {C:C21}{K N tk:Nat}{P:bH}{n:Pic}(O:C.Ok)(H:gG C K N tk P n)(su:C.suits n)(U:1≤K)(L:P.ret=true):n=Dv C.m C.d.s:=by
 have h:=(TT O H su U L).1;obtain⟨W,I,A,G,F⟩:=su.2;cases n;simp only at h I A G F;subst h I A G F;rfl
theorem Pi {h:ah}(G:eW h):ag prog kN #[] h λr h'=>r=.bool true∧Ext h h':=by
 apply NF;unfold Cd;obtain⟨a1,a2,a3,a4,a5,a6,a7,a8,a9⟩:=zab;have a0:C9 1 1 1 255=0:=by decide+kernel
 refine di (Rp.fill_one rfl) λb1 h1 r1 e1 n1=>?_
 have S1:=Rp.SlC.single (cs:=[.int .u16 9]) r1;have SU:Rp.Sl rU (λ_=>True) h1 (.slice (some ⟨b1,0,none⟩) 1 1) [9]:=⟨_,S1,λ_ _ _=>trivial,λi hi=>by
  have hi:i=0:=by simpa using hi
  subst hi;rfl⟩
 refine(T7 SU a0 rfl (λx hx=>by have:=dc.1 hx;omega)).mono λr h2 ⟨pm,A,bm,vm,b2,I,b6,b8,e2⟩=>?_
 subst A b2;have I:dp h2 bm vm Nh:=I;have W:Nh.Wf:=⟨by decide,by decide,by decide,rfl,λx hx=>by have:=dc.1 hx;show 0≤x∧x≤255;omega⟩
 have E2:=e1.trans e2;have hf:(aQ #[ai,ai,ai,ai,(.slice none 0 0),(.slice none 0 0),ai,ai,ai] [(0,1,aG)])=some #[aG,ai,ai,ai,.slice none 0 0,.slice none 0 0,ai,ai,ai]:=rfl;simp only[go_sem,hf,bJ];have wf:zu.Wf:=CL (by simp[I64]);refine(KJ (Z:=λ_=>True) (o:=zu) (G.ext E2) CM wf (by simp[zu]) (by simp[zu]) (by unfold I64;omega) (by unfold I64;omega)).mono λw h3 ⟨sv,e,e3,_,s2⟩=>?_
 subst e;have HS:=s2 a1;rw[a1];obtain⟨p,q,rfl,hp,hq,al⟩:=jQ HS;simp only[go_sem];refine dh (cs:=[p,q,af _]) rfl al rfl λb3 h4 r4 e4 n4=>?_
 have E4:=E2.trans (e3.trans e4);refine ag.to zd1 λh5 e5=>?_
 simp only[go_sem];have E5:=E4.trans e5;refine ag.to (XG (G.ext E5)) λh6 e6=>?_
 have E6:=E5.trans e6;simp only[go_sem,eqT];rw[aW (l:=[p,q,af _]) ((e5.trans e6).row r4) 3 rfl,aj];have OK:Dw (cz zu 1 1):=Ol a1 ae (by rw[a2];omega);have s3:=e3.1;have ca:=(e4.trans (e5.trans e6)).1;have I6:=(I.ext (e3.trans (e4.trans (e5.trans e6))))
 have bd:qX (λc=>c<h6.size) h6 (.agg #[p,q,af (cz zu 1 1).border]) (cz zu 1 1):=(HS.ext (e4.trans (e5.trans e6))).mono λc hc _=>hc
 refine(RF (wk:=1) (G.ext E6) I6 W bd OK a3 ⟨I6.lt,λc hc=>I6.ltv hc⟩ (λc hc=>hc) a4).mono λr h7 ⟨_,_,hM⟩=>?_
 obtain⟨bp,C,Z,bw,o,A,k1,k2,k3,CO,HP,ab,e7,cb,_⟩:=hM (by unfold fP;omega) 1 rfl ae;subst A;have ct:bU C.d=1:=by rw[k2];exact a8
 have st:jx C 1 0=2:=by
  have:rl C (0:Nat)=z8 C.d.s (aL C.d 0) C.m:=rfl;show rl C (0:Nat)+0=2;rw[this,k1,k2];exact a9
 have GP:GoP C Z 1 1 h6 bw bp o _ _ h7:=⟨HP,0,QY (by rw[ct];rfl)⟩
 have pn:ak .p .eql (ptr bp) (.pointer none)=some (.bool false):=rfl;simp only[go_sem,eqT,pn];refine ag.to (VV CO GP.1 (N:=1) (by rw[ct];rfl) ae ae) λh8 e8=>?_
 rw[st];have n7:ak .i .neq (af ((2*1+1+2+2:Nat):Int)) (af 7)=some (.bool false):=rfl;simp only[go_sem,n7];have ay:=GP.ext e8;refine ag.at (Pr ay.1) ?_;have n2:ak .i .neq (af ((1+1:Nat):Int)) (af 2)=some (.bool false):=rfl;simp only[go_sem,n2];have E8:=E6.trans (e7.trans e8);refine bK (α:=Unit) 7 0 (λi _=>[af (i:Int)]) (λi _ g=>∃o n P,GoP C Z 1 1 h6 bw bp o n P g∧P.picks=(i:Int)) () rfl (b9 _) ⟨o,_,_,ay,rfl⟩ λi _ g again ρ _ hi ⟨o',n',U,H,bk⟩ b0=>?_
 simp only[iz];rw[cC,aj];refine ao (λg1=>?_) (λg1=>?_)
 ·have hr:U.ret=false:=by
   cases h:U.ret with
   |false=>rfl
   |true=>
    have su:=H.few.2.2.2;obtain⟨_,tk,J⟩:=H;have:=(TT CO J su ae h).2.1;omega
  refine(Lq CO H.1).mono λrv g2 NR=>?_
  have e9:=NR.2.1;have H2:=H.ext e9;have ad:=H2.runs hr;generalize hL:FY C 1 U (1+1)=L at NR ad;have b4:L.length≠0:=λh=>ad (nZ h)
  obtain⟨ar,cr,A⟩:=NR.1.sl.isSl;have bv:aC rv=some (af (L.length:Int)):=by rw[A];rfl
  have b5:L.length≤2:=by rw[←hL];exact M6 _ _ _ _
  have l0:ak .i .eql (af (L.length:Int)) ai=some (.bool false):=by rw[mX,cE ae]
  obtain⟨p0,c1,c2⟩:=NR.1.sl.int_at (k':=.i64) (i:=0) (show 0<L.length by omega);have c1:bu 1 rv ai=some p0:=c1;simp only[go_sem,bv,l0,c1,c2];have ax:L[0]∈FY C 1 U (1+1):=by rw[hL];exact cG _
  obtain⟨j,hj,ej,aa⟩:=R4.1 ax;refine(Y8 CO (G.ext E6) H2 (by unfold I64;omega) ae ab).mono λr g3 ⟨A,o3,n3,H3,b7,f3⟩=>?_
  rw[aa]at A;subst A;have be:(i:Int)+1=((i+1:Nat):Int):=ae;simp only[go_sem];rw[w64 (n:=(i:Int)+1) ae ae,be];exact b0 () g3 ae ⟨o3,n3,_,H3,by rw[QZ aa];omega⟩
 ·have bo:i=7:=ae;have hF:=H.few;obtain⟨bc,tk,J⟩:=H;have F:=J.rem;have hr:U.ret=true:=by
   cases h:U.ret with
   |true=>rfl
   |false=>
    rw[h,bk,bo,st]at F;simp only[gO,cH]at F;omega
  have en:=zdx CO J hF.2.2.2 ae hr;rw[k1,k2]at en;refine(T5 bc).mono λr g2 au=>?_
  rcases au with⟨h0,_⟩|⟨_,p2,A,bn,vn,ep,I2,_,_,e9⟩
  ·rw[hr]at h0;cases h0
  ·subst A ep;have bg:ak .p .neq (ptr bn) (.pointer none)=some (.bool true):=rfl;have an:=hF.2.2.2.1;rw[en]at I2 an;simp only[go_sem,bg];refine ag.at (zd6 I2 an) ?_;rw[show atP (Dv Nh (⟨cz zu 1 1,1,1⟩:dn).s) 0 0 0=9 from at22];simp only[go_sem,eqT,gM];exact⟨trivial,E6.trans (hF.2.2.1.trans e9)⟩
structure Bg22 (h6:ah)(a:uv)(o:OpD)(bf:Nat)(vf sv rv:Value)(Z1:Nat→Prop)(h':ah):Prop where
 ok:QK a o
 ext:Ext h6 h'
 img:dp h' bf vf (eS a)
 nb:h6.size≤bf∧∀c,blk vf c→h6.size≤c
 st:Rp.Sl FI Z1 h' sv [bgS a o]
 rf:Rp.Sl yw Z1 h' rv [bgS a o]
 zl:∀c,Z1 c→h6.size≤c∧c<h'.size
theorem zd9 {I:ah}(G:eW I){Z1 Z2:Nat→Prop}{cs os:List Value}{a:uv}{o:OpD}(H:pg.R Z1 I cs a)(WA:a.Wf)(HO:rOp.R Z2 I os o)(WO:FR [o]){b1 b3:Nat}{t1 t3:TypeId}(r1:I[b1]? =some (.cells cs.toArray t1 (0,0)))(r3:I[b3]? =some (.cells os.toArray t3 (0,0))){Y:Value→Value→Value→Value→ah→Prop}
  (Y0:∀bf sv rv h',Ext I h'→¬(oF 12 [o]∧BA [o] (eS a).w (eS a).h (eS a).c=0)→Y (ptr bf) sv rv (.bool false) h') (Y1:∀bf vf sv rv Z1 h',Bg22 I a o bf vf sv rv Z1 h'→Y (ptr bf) sv rv (.bool true) h'):
  vK (aR 5 I (ptr b1)) λv8=>ag prog fI #[v8] I λv9 F=>vK (aR 9 F (ptr b3)) λa8=>
  du #[ai,ai,ai,ai,(.slice none 0 0),(.slice none 0 0),ai,ai,ai] 31 1 [(0,9,a8)] F λan bc=>
  ag prog iS #[an,v9] bc λL ad=>vK (aP L 0) λar=>vK (aP L 1) λal=>vK (aP L 2) λau=>Y v9 ar al au ad:=by
 have lc:=pg.len H;have lo:=rOp.len HO;rw[aW r1 5 lc,aj];refine(KH (pg.mono H λ_ _ h=>h) WA).mono λpm h7 N7=>?_
 obtain⟨bf,vf,rfl,I7,bd,a9,e7⟩:=N7;rw[aW (e7.row r3) 9 lo,aj];refine di (Rp.fill_whole (by rfl) lo) λb5 F ay aa n10=>?_
 have A:=e7.trans aa;have a7:Rp.Sl rOp (λc=>Z2 c∨c=b5) F (.slice (some ⟨b5,0,none⟩) 1 1) [o]:=by
  refine⟨os,?_,λ_ b hb=>.inr hb,λi hi=>?_⟩
  ·have:=Rp.SlC.single (cs:=os) ay;rw[lo]at this;exact this
  ·have:i=0:=by simpa using hi
   subst this;rw[Rp.el_self lo];exact rOp.mono (rOp.ext HO A) λb _ hb=>.inl hb
 refine(VW (G.ext A) a7 (by simp) WO (I7.ext aa) (wY a)).mono λr ax ⟨U,sv,rv,ok,er,be,W,hS⟩=>?_
 subst er;have x0:aP (.tuple #[sv,rv,.bool ok]) 0=some sv:=rfl;have x1:aP (.tuple #[sv,rv,.bool ok]) 1=some rv:=rfl;have x2:aP (.tuple #[sv,rv,.bool ok]) 2=some (.bool ok):=rfl;rw[x0,aj,x1,aj,x2,aj];have ab:=A.1;cases hk:ok with
 |false=>exact Y0 _ _ _ _ (A.trans U) λh=>by have:=W.2 h;rw[hk]at this;cases this
 |true=>
  subst hk;obtain⟨T1,T2⟩:=hS rfl;exact Y1 bf vf sv rv _ ax ⟨bg_ok (W.1 rfl).1 (W.1 rfl).2,A.trans U,I7.ext (aa.trans U),⟨bd,a9⟩,T1,T2,λc hc=>⟨bB ab hc.1,hc.2⟩⟩
end Go.Proofs.YtjljhnandbbldaaGreatDoor
