/- Several texts of this session, one behind the other, without what this claim does not need (put together by its program pack.py). Conditions: none. -/
import Derived.Test.YtjljhnandbbldaaGreatDoorMz4
import Derived.Test.YtjljhnandbbldaaGreatDoorProg
import Derived.Shelf.SlIterI.Sorted
import Derived.Shelf.Sort.Plain
import Derived.Shelf.Slices.In.SortNone
set_option linter.unusedVariables false
set_option linter.unusedSimpArgs false
set_option maxRecDepth 100000
namespace Go.Proofs.YtjljhnandbbldaaGreatDoor
open Go Go.Crisp
attribute [local irreducible] ag du bh stK aE vK qK bO gK fR bA mkK dy GQ IQ DT bsK clK pG pH Q9
open _root_.Go.Proofs.Tryz
theorem aX.base {X:Nat→Prop}{C:C21}{Z:Nat→Prop}{K:Nat}{h0 A h:ah}{bw:Nat→Nat}{bp:Nat}{o:Nat→Nat}{n:Pic}{V:PV}{P:bH}(H:aX X C Z K h0 bw bp o n V P h)(e:Ext A h0):aX X C Z K A bw bp o n V P h:=
 ⟨H.q,H.c,H.l,H.p,H.w,H.s,H.f,H.e,H.wk,H.ws,H.po,H.set,H.pl,H.zl,H.sui,λc hc=>⟨(H.ow c hc).1,bB e.1 (H.ow c hc).2.1,(H.ow c hc).2.2⟩,e.trans H.ext,H.few⟩
structure Bgn (h:ah)(a:uv)(o:OpD)(tw th wk room:Int)(C:C21)(Z:Nat→Prop)(K N:Nat)(bw:Nat→Nat)(bp:Nat)(ow:Nat→Nat)(n:Pic)(P:bH)(Zd:Nat→Prop)(V:DV)(h':ah):Prop where
 ok:QK a o
 O:C.Ok
 cm:C.m=eS a
 cd:C.d=Sg a o tw th
 k:(K:Int)=1+wk%5
 nn:(N:Int)=bU C.d∧1≤N∧N≤144∧jx C N 0≤23328
 go:GoP C Z K N h bw bp ow n P h'
 p:P=CJ K (1+room%4) (C.m.w*C.m.h*C.m.c) (C.d.X*C.d.Y*C.m.c)
 d:DAt Zd C K N P V h'
 ob:∀c,eo (some C.E) c→h.size≤c
 zd:∀c,Zd c→h.size≤c∧c<h'.size∧ow c=0∧¬eo (some C.E) c
 ext:Ext h h'
def zbt (a:uv)(o:OpD):Prop:=oF 12 [o]∧BA [o] (eS a).w (eS a).h (eS a).c=0
theorem zdQ {h:ah}(G:eW h){Z1 Z2:Nat→Prop}{cs os:List Value}{a:uv}{o:OpD}(H:pg.R Z1 h cs a)(WA:a.Wf)(HO:rOp.R Z2 h os o)(WO:FR [o]):ag prog yq #[.agg cs.toArray,.agg os.toArray] h λr h'=>(¬zbt a o→r=.bool false)∧Ext h h':=by
 apply SM;unfold Ig;simp only[bT];refine aJ λb1 h1 r1 e1 n1=>aJ λb3 h3 r3 e3 n3=>?_
 have W:=e1.trans e3;have lc:=pg.len H;have lo:=rOp.len HO;have G3:=G.ext W;have r1:=e3.row r1;refine aS (Ext h3) (Ext.refl _) ?_;refine aD (.agg os.toArray) (λk e=>aW (e.row r3) 9 lo) ?_;refine aD (.agg cs.toArray) (λk e=>aW (e.row r1) 5 lc) ?_;have x0:∀a b c:Value,aP (.tuple #[a,b,c]) 0=some a:=λ_ _ _=>rfl
 have x1:∀a b c:Value,aP (.tuple #[a,b,c]) 1=some b:=λ_ _ _=>rfl
 have x2:∀a b c:Value,aP (.tuple #[a,b,c]) 2=some c:=λ_ _ _=>rfl
 have row:∀{g:ah} {L:Nat} {t:TypeId},Ext h3 g→g[L]? =some (.cells os.toArray t (0,0))→Rp.Sl rOp (λc=>Z2 c∨c=L) g (.slice (some ⟨L,0,none⟩) 1 1) [o]:=λ{g L t} e r=>by
  refine⟨os,?_,λ_ b hb=>.inr hb,λi hi=>?_⟩
  ·have:=Rp.SlC.single (cs:=os) r;rw[lo]at this;exact this
  ·have:i=0:=by simpa using hi
   subst this;rw[Rp.el_self lo];exact rOp.mono (rOp.ext HO (W.trans e)) λb _ hb=>.inl hb
 have fin:∀{g:ah} {bf:Nat} {vf ov:Value} {Y:Nat→Prop},Ext h3 g→dp g bf vf (eS a)→Rp.Sl rOp Y g ov [o]→ag prog iS #[ov,ptr bf] g λv h'=>Ext h3 h'∧(vK (aP v 0) λ_=>vK (aP v 1) λ_=>vK (aP v 2) λr=>(¬zbt a o→r=.bool false)∧Ext h h'):=λ{g bf vf ov Y} e I S=>by
  refine(VW (G3.ext e) S (by simp) WO I (wY a)).mono λr an ⟨U,sv,rv,ok,er,al,aa,hS⟩=>?_
  subst er;refine⟨e.trans U,?_⟩;rw[x0,aj,x1,aj,x2,aj];refine⟨λhn=>?_,W.trans (e.trans U)⟩;cases hk:ok with
  |false=>rfl
  |true=>exact absurd (aa.1 hk) hn
 refine⟨?_,?_⟩
 ·refine di (Rp.fill_whole (by rfl) lo) λL g5 r5 A n5=>⟨A,?_⟩
  refine(KH (pg.mono (pg.ext H (W.trans A)) λ_ _ h=>h) WA).mono λpm h7 N7=>?_
  obtain⟨bf,vf,rfl,I7,ad,ab,F⟩:=N7;exact⟨A.trans F,fin (A.trans F) I7 (row (A.trans F) (F.row r5))⟩
 ·refine(KH (pg.mono (pg.ext H W) λ_ _ h=>h) WA).mono λpm h7 N7=>?_
  obtain⟨bf,vf,rfl,I7,ad,ab,F⟩:=N7;refine⟨F,?_⟩;refine di (Rp.fill_whole (by rfl) lo) λL g5 r5 A n5=>⟨F.trans A,?_⟩
  exact fin (F.trans A) (I7.ext A) (row (F.trans A) r5)
theorem zaC {h:ah}(G:eW h){cs os:List Value}{a:uv}{o:OpD}{Z1 Z2:Nat→Prop}(H:pg.R Z1 h cs a)(WA:a.Wf)(HO:rOp.R Z2 h os o)(WO:FR [o]){tw th wk room:Int}(h1:B8 tw)(h2:B8 th)(h3:B8 wk)(h4:B8 room):
  ag prog sI #[.agg cs.toArray,.agg os.toArray,.int .u8 tw,.int .u8 th,.int .u8 wk,.int .u8 room] h λr h'=>
   (¬zbt a o∧Ext h h'∧∃bf,∃u:List Value,r=.tuple #[ptr bf,.pointer none,.agg u.toArray,.bool false]∧u.length=20∧∀v∈u,aV v=true)∨
   ∃C Z K N bw bp ow n P Zd V,r=.tuple #[ptr C.bf,ptr bp,.agg (dpC C P V).toArray,.bool true]∧Bgn h a o tw th wk room C Z K N bw bp ow n P Zd V h':=by
 apply NG;unfold Ce;simp only[bT];refine aJ λb1 g1 r1 e1 n1=>aJ λb3 g3 r3 e3 n3=>aJ λU g5 r5 e5 n5=>?_
 have k5:=bD r5;have s1:=e1.1;have s3:=e3.1;have E5:=e1.trans (e3.trans e5);have s5:=E5.1;refine zd9 (G.ext E5) (pg.ext H E5) WA (rOp.ext HO E5) WO ((e3.trans e5).row r1) (e5.row r3) (λbf sv rv h' e hn=>?_) (λbf vf sv rv Z1 h7 B=>?_)
 ·have hf:aQ aK []=some aK.toList.toArray:=by rfl
  have on:∀v∈aK.toList,aV v=true:=by decide
  simp only[go_sem];rw[hf,bJ,aj];refine da (e.row r5) (by rfl) on (by rfl) λg9 r9 u9=>?_
  rw[aW r9 20 (by rfl),aj];exact .inl ⟨hn,(E5.trans e).upd ae u9,bf,_,rfl,by rfl,on⟩
 have nt:unV .not (.bool true)=some (.bool false):=rfl;rw[nt,aj,cA];refine X3 h1 ae ?_;refine X3 h2 ae ?_;refine X3 h3 ae ?_;refine X3 h4 ae ?_;have hw:=h1;have hh:=h2;unfold B8 at h1 h2 h3 h4;obtain⟨K,hK⟩:∃K:Nat,1+wk%5=(K:Int):=⟨(1+wk%5).toNat,ae⟩
 rw[hK];obtain⟨p,q,bs,be,q1,k0,b0,a7,bg,hp,hq⟩:=zcR B.st;obtain⟨sp,w1,w2⟩:=a7.atw (show 0<3 by omega) (k:=.i64) (i:=0) ae;have w1:bu 3 sv ai=some sp:=w1;have w2:aR 3 h7 sp=some (.agg #[p,q,af (bgS a o).border]):=w2;rw[w1,aj,w2,aj];have sd:fP (1+tw%13)∧fP (1+th%13):=by unfold fP;omega
 have zb:∀c,c<h7.size→Z1 c→g5.size≤c∧c<h7.size:=λc hc hz=>⟨(B.zl c hz).1,hc⟩
 refine(RF (wk:=(K:Int)) (Z0:=λc=>g5.size≤c∧c<h7.size) (G.ext (E5.trans B.ext)) B.img (wY a) ⟨p,q,rfl,hp.mono zb,hq.mono zb⟩ B.ok.stg B.ok.suits.1 ⟨⟨B.nb.1,B.img.lt⟩,λc hc=>⟨B.nb.2 c hc,B.img.ltv hc⟩⟩ (λc hc=>hc.2) B.ok.imgc).mono λr h8 ⟨_,_,f3⟩=>?_
 obtain⟨bp,C,Z,bw,ow,er,y1,y2,y3,CO,HP,L,e8,ar,nz,bk⟩:=f3 sd K rfl ae;subst er;have x0:∀a b:Value,aP (.tuple #[a,b]) 0=some a:=λ_ _=>rfl
 have x1:∀a b:Value,aP (.tuple #[a,b]) 1=some b:=λ_ _=>rfl
 have a9:ak .i .neq ai ai=some (.bool false):=rfl;rw[x0,aj,x1,aj,a9,aj,cA];obtain⟨rp,ab,w3,w4,w5⟩:=(B.rf.ext e8).atw (show 0<5 by omega) (k:=.i64) (i:=0) (by simp);have w3:bu 5 rv ai=some rp:=w3;have w4:aR 5 h8 rp=some (.agg ab.toArray):=w4;have w5:yw.R Z1 h8 ab (bgS a o):=w5;refine aS (Ext h8) (Ext.refl _) ?_;rw[w3,aj];refine aD (.agg ab.toArray) (λk e=>e.lds w4) ?_;refine ag.at (eB (B.img.ext e8)) ⟨Ext.refl _,?_⟩;have F:C.d=Sg a o tw th:=y2;obtain⟨N,hN,N1,N2,an⟩:=zfs (C:=C) B.ok hw.1 hh.1 F;have al:C.d.s=bgS a o:=by rw[F]
 have few:∀x∈C.d.s.x.lines++C.d.s.y.lines,x.2.length≤1073741824:=λx hx=>by
  rcases cQ.1 hx with h|h
  ·have:=(CO.s.wf.x.taps x h).1;omega
  ·have:=(CO.s.wf.y.taps x h).1;omega
 have hX:1≤C.d.X:=by rw[F];show 1≤((bgS a o).x.lines.length:Int);have:=B.ok.sx;omega
 have hY:1≤C.d.Y:=by rw[F];show 1≤((bgS a o).y.lines.length:Int);have:=B.ok.sy;omega
 have ax:oS C.m C.d.s:=by rw[y1,al];exact B.ok.suits.1
 obtain⟨z1,z2,_⟩:=ax;have mw:=(wY a).fits;have I:=dx mw;have A:=dx B.ok.fit;have I:0≤C.d.s.x.n*C.d.s.y.n∧C.d.s.x.n*C.d.s.y.n≤4294967296∧0≤C.d.s.x.n*C.d.s.y.n*C.m.c∧C.d.s.x.n*C.d.s.y.n*C.m.c≤268435456:=by
  rw[z1,z2,y1];exact⟨I.2.2.2.2.2.2.1,I.2.2.2.2.2.2.2.1,I.2.2.2.2.2.2.2.2.1,I.2.2.2.2.2.2.2.2.2⟩
 have A:0≤C.d.X*C.d.Y∧C.d.X*C.d.Y≤4294967296∧0≤C.d.X*C.d.Y*C.m.c∧C.d.X*C.d.Y*C.m.c≤268435456:=by
  rw[F,y1];exact⟨A.2.2.2.2.2.2.1,A.2.2.2.2.2.2.2.1,A.2.2.2.2.2.2.2.2.1,A.2.2.2.2.2.2.2.2.2⟩
 have ea:(af (eS a).c:Value)=af C.m.c∧(af (1+tw%13):Value)=af C.d.w∧(af (1+th%13):Value)=af C.d.h:=by rw[y1,F];exact⟨rfl,rfl,rfl⟩
 rw[ea.1,ea.2.1,ea.2.2];rw[←al]at w5;have s8:=e8.1;have sB:=B.ext.1;refine(zce (room:=1+room%4) w5 (λc hc=>ce (B.zl c hc).2 s8) CO hN ae hX hY few ae ⟨I.2.2.1,ae⟩ ⟨A.2.2.1,ae⟩ ⟨I.1,ae⟩ ⟨A.1,ae⟩).mono λr h9 ⟨Zd,V,er,D,zd,e9⟩=>?_
 subst er;have s9:=e9.1;refine da ((B.ext.trans (e8.trans e9)).row r5) (by rfl) D.ones (by rfl) λbo bc W=>?_
 rw[aW bc 20 (by rfl),aj];right;have eP:CJ K (1+room%4) (C.d.s.x.n*C.d.s.y.n*C.m.c) (C.d.X*C.d.Y*C.m.c)=CJ K (1+room%4) (C.m.w*C.m.h*C.m.c) (C.d.X*C.d.Y*C.m.c):=by rw[z1,z2]
 rw[eP]at D ⊢;have eQ:CJ K (1+room%4) ((eS a).w*(eS a).h*(eS a).c) (((bgS a o).x.lines.length:Int)*(bgS a o).y.lines.length*(eS a).c)=CJ K (1+room%4) (C.m.w*C.m.h*C.m.c) (C.d.X*C.d.Y*C.m.c):=by rw[y1,F];rfl
 rw[eQ]at HP;have au:=HP;obtain⟨V8,ad⟩:=au;have ay:∀c,eo (some C.E) c→c<h8.size:=λc hc=>ad.set.out.ltv hc
 have bv:U<g5.size:=k5;have bd:g3.size≤U:=n5;have u0:ow U=0:=by
  by_cases h:ow U=0
  ·exact h
  ·have:=ar U h;omega
 have a8:=((ad.ex e9).base (E5.trans B.ext)).loc W ⟨u0,ae,λhz=>by rcases nz U hz with h|h<;>omega,by show U≠C.bt;omega,λhb=>by have:=L U hb;omega⟩;have E9:=E5.trans (B.ext.trans (e8.trans e9));have aa:∀c,Zd c→g5.size≤c∧c<h9.size∧ow c=0∧¬eo (some C.E) c:=λc hc=>by
  obtain⟨h1,h2⟩:=zd c hc;have q:g5.size≤c∧(c<h7.size∨h8.size≤c):=by
   rcases h1 with h1|h1
   ·exact⟨(B.zl c h1).1,.inl (B.zl c h1).2⟩
   ·exact⟨ae,.inr h1⟩
  refine⟨q.1,h2,?_,λhb=>?_⟩
  ·by_cases h:ow c=0
   ·exact h
   ·have h3:=ar c h;have h4:=(ad.ow c h).1;omega
  ·have h3:=L c hb;have h4:=ay c hb;omega
 exact⟨C,Z,K,N,bw,bp,ow,_,_,Zd,V,by rw[y3],⟨B.ok,CO,y1,y2,hK.symm,⟨hN,N1,N2,an⟩,⟨⟨V8,a8⟩,0,QY hN⟩,rfl,D.fr W.fr λc _ hc h=>by have:=(aa c hc).1;have h:c=U:=h;omega,λc hc=>by have:=L c hc;omega,λc hc=>⟨by have:=(aa c hc).1;omega,by rw[W.1];exact(aa c hc).2.1,(aa c hc).2.2⟩,E9.upd ae W⟩⟩
end Go.Proofs.YtjljhnandbbldaaGreatDoor
namespace Go.Proofs.YtjljhnandbbldaaGreatDoor
open Go Go.Crisp
attribute [local irreducible] ag du bh stK aE vK qK bO gK fR bA mkK dy GQ IQ DT bsK clK pG pH Q9
section
theorem VB {C:C21}{K N tk:Nat}{P:bH}{n:Pic}(H:gG C K N tk P n)(F:P.ret=true)(i:Int):fQ C K P i=false:=by
 obtain⟨h1,I⟩:=H.rt F;have G:=H.cnt;have A:=Dc (K:=K) (ws:=P.ws) ae;unfold fQ;split
 ·rfl
 split
 ·have:=A (i-1).toNat ae;rw[cE];omega
 ·simp[F]
section
variable {h:ah}{a:uv}{o:OpD}{tw th wk room:Int}{C:C21}{Z:Nat→Prop}{K N:Nat}{bw:Nat→Nat}{bp:Nat}{ow:Nat→Nat}{n:Pic}{P:bH}{Zd:Nat→Prop}{V:DV}{h':ah}
theorem Bgn.lt (B:Bgn h a o tw th wk room C Z K N bw bp ow n P Zd V h'):(∀c,ow c≠0→h.size≤c∧c<h'.size)∧∀c,eo (some C.E) c→h.size≤c∧c<h'.size:=by
 obtain⟨⟨F,A⟩,_⟩:=B.go;exact⟨λc hc=>⟨(A.ow c hc).2.1,(A.ow c hc).1⟩,λc hc=>⟨B.ob c hc,A.set.out.ltv hc⟩⟩
theorem Bgn.few (B:Bgn h a o tw th wk room C Z K N bw bp ow n P Zd V h')(A:B8 wk):1≤K∧K≤5∧2*N+K+2+jx C N 0≤190000:=by
 have:=B.k;obtain⟨_,_,F,G⟩:=B.nn;unfold B8 at A;have:0≤wk%5∧wk%5<5:=⟨kA _ ae,iJ _ ae⟩
 omega
end
end
end Go.Proofs.YtjljhnandbbldaaGreatDoor
namespace Go.Proofs.YtjljhnandbbldaaGreatDoor
open Go Go.Crisp
section
theorem zaW {E:WE}{jo:Option (cP×Int×Int)}{w:WD}{q:QD}(h0:w.state=0)(A:cV q=0):cg (some E) jo w q=(xn (some E) w (bC q) jo,kI q,(1,bC q,0,0)):=by
 unfold cg;rw[aq ae,aq ae,aA A]
theorem Yj {E:WE}{jo:Option (cP×Int×Int)}{w:WD}{q:QD}{t:cP}{y e:Int}(h1:w.state=1)(A:w.job=some (t,y,e)):
  cg (some E) jo w q=(⟨stJ (cn (some E) (some (t,dP (E.d t) y e,fm (E.d t) y e))),w.tiles,cn (some E) (some (t,dP (E.d t) y e,fm (E.d t) y e)),w.words⟩,q,(2,w.tiles.getLast?.getD 0,bR (E.d t) y e,gh (E.d t) y e)):=by
 obtain⟨st,tl,jb,F⟩:=w;have h1:st=1:=h1;have A:jb=some (t,y,e):=A;subst h1 A;unfold cg;rw[aA rfl]
theorem zbw {E:WE}{jo:Option (cP×Int×Int)}{w:WD}{q:QD}(h:(w.state=1∧sr (some E) w.job∧w.tiles≠[])∨((w.state=0∨w.state=2)∧w.job=none))(F:(cg (some E) jo w q).2.2.1=3):
  cg (some E) jo w q=({w with state:=2},kI q,(3,0,0,0))∧q.l=[]:=by
 obtain⟨st,tl,j,U⟩:=w;unfold cg at F ⊢;rcases h with⟨A,L,_⟩|⟨A|A,L⟩
 ·have A:st=1:=A;subst A;cases j with
  |none=>exact(show False from L).elim
  |some x=>exact absurd (show(2:Int)=3 from F) ae
 ·have A:st=0:=A;subst A;rw[aq (show¬(0:Int)=1 by omega),aq (show¬(0:Int)=2 by omega)]at F ⊢;by_cases G:cV q=0
  ·rw[aA G]at F;exact absurd (show(1:Int)=3 from F) ae
  ·rw[aq G]at F ⊢;by_cases H:cV q=2
   ·rw[aA H];refine⟨rfl,?_⟩;unfold cV at G;by_cases I:q.l=[]
    ·exact I
    ·rw[aq I]at G;exact absurd rfl G
   ·rw[aq H]at F;exact absurd (show(0:Int)=3 from F) ae
 ·have A:st=2:=A;subst A;rw[aq (show¬(2:Int)=1 by omega),aA rfl]at F;exact absurd (show(0:Int)=3 from F) ae
theorem zaY (jo:Option (cP×Int×Int)):stJ jo≠2:=by
 cases jo with
 |none=>show(0:Int)≠2;omega
 |some _=>show(1:Int)≠2;omega
theorem zbm {a b:Nat}{x:Int}(h:x∈xP a b):(a:Int)≤x∧x<b:=by
 unfold xP at h;obtain⟨i,hi,rfl⟩:=fO.1 h;have:=List.mem_range'_1.1 hi;omega
theorem zc4 {C:C21}{K N tk:Nat}{P:bH}{n:Pic}(I:gG C K N tk P n)(G:cV P.q=0):bC P.q=tk∧(∀z∈(kI P.q).l,(tk:Int)<z)∧tk<P.sent.toNat:=by
 have F:P.q.l≠[]:=λh=>by
  unfold cV at G;rw[aA h]at G;split at G<;>omega
 have A:tk<P.sent.toNat:=by
  by_cases h:tk<P.sent.toNat
  ·exact h
  ·exact absurd (by rw[I.ql];exact Ks.2 ae) F
 have e:=Oa A;unfold bC kI;simp only;rw[I.ql,e];refine⟨rfl,λz H=>?_,A⟩;have H:z∈xP (tk+1) P.sent.toNat:=H;have:=zbm H;omega
theorem Uq {n:Nat}{rows:Nat→List Int}{i k:Nat}(h:k≠i):jP n rows (i:Int) k=rows k:=by
 unfold jP;split
 ·simp only[dW,aq h]
 ·rfl
section
variable {C:C21}{K N tk:Nat}{S D:Int}{P:bH}{n:Pic}
theorem ZM (I:gG C K N tk P n)(hp:P.picks≤1000000)(NP:zaQ K P)(hr:fQ C K P 0=true)(H:zQ C K S D P):zQ C K S D (ic C K P 0):=by
 have W:=I.ok;have ax:=W.pk;have al:P.ret=false:=by
  cases h:P.ret with
  |false=>rfl
  |true=>rw[VB I h]at hr;cases hr
 have e:ic C K P 0=xR C K {P with picks:=P.picks+1}:=by
  unfold ic;rw[hr,aq (by simp),aA rfl]
 have h2:(if P.sent<bU C.d then decide (qU P.q≠1)else !P.q.closed||decide (P.left.length=K))=true:=by
  unfold fQ at hr;rw[aq ae,aq ae,al]at hr;simpa using hr
 have tg:∀k j:Nat,(jP (K+1) P.rows ((0:Nat):Int) k).getD j 0=if k=0∧j=0 then(P.rows k).getD j 0+1 else(P.rows k).getD j 0:=λk j=>Ur (λi hi=>W.rows i ae) (λi hi=>NP.rows i ae) ae ae ae k j
 have t0:(jP (K+1) P.rows ((0:Nat):Int) 0).getD 0 0=(P.rows 0).getD 0 0+1:=by rw[tg,aA ⟨rfl,rfl⟩]
 rw[e];unfold xR;split
 ·refine H.keep rfl rfl rfl rfl (λk A=>Uq (i:=0) ae) ?_ (λs G=>?_) ?_ λk A x L z F=>?_
  ·show _≤(jP (K+1) P.rows ((0:Nat):Int) 0).getD 0 0;omega
  ·show _∧_<(jP (K+1) P.rows ((0:Nat):Int) 0).getD 0 0;have hg:=H.g0;rcases cQ.1 G with h|h
   ·have:=H.s0 s h;omega
   ·rw[dc.1 h];show 1≤(P.rows 0).getD 0 0∧(P.rows 0).getD 0 0<_;omega
  ·show _<(jP (K+1) P.rows ((0:Nat):Int) 0).getD 0 0;have:=H.f0;show P.fin.getD 0 0<_;omega
  ·have F:z∈(jJ P.q P.sent).l:=F;have an:=(W.w k A).tl x L;have aa:=(H.tn k A).2 x L;unfold jJ at F;split at F
   ·exact aa z F
   ·split at F
    ·exact aa z F
    ·rcases cQ.1 F with h|h
     ·exact aa z h
     ·rw[dc.1 h];exact an.2
 ·split
  ·refine H.keep rfl rfl rfl rfl (λk A=>Uq (i:=0) ae) ?_ (λs G=>?_) ?_ λk A x L z F=>(H.tn k A).2 x L z F
   ·show _≤(jP (K+1) P.rows ((0:Nat):Int) 0).getD 0 0;omega
   ·show _∧_<(jP (K+1) P.rows ((0:Nat):Int) 0).getD 0 0;have:=H.s0 s G;omega
   ·show(P.rows 0).getD 0 0<(jP (K+1) P.rows ((0:Nat):Int) 0).getD 0 0;omega
  ·rename_i g gc;rw[aq g]at h2;have gc:P.q.closed=true:=by
    cases h:P.q.closed with
    |true=>rfl
    |false=>exact absurd h gc
   rw[gc]at h2;have au:P.left.length=K:=by simpa using h2
   obtain⟨m1,m2,m3⟩:=zec (rows:=P.rows) (λs G=>⟨W.ls s G,λx L=>(NP.ls s G x L).1⟩:∀s∈P.left,s.length=K+1∧∀x∈s,0≤x);have m0:=m1 0;have H0:zQ C K S D {P with rows:=meetAll K P.rows P.left}:=H.keep rfl rfl rfl rfl (λk A=>m3 k) m0 (λs G=>by
    show _∧_<(meetAll K P.rows P.left 0).getD 0 0;have:=H.s0 s G;omega) (by
    show P.fin.getD 0 0<(meetAll K P.rows P.left 0).getD 0 0;have:=H.f0;omega) λk A x L z F=>(H.tn k A).2 x L z F
   have U:=Dc (K:=K) (ws:=P.ws) (by rw[←I.cnt];exact au);obtain⟨a1,a2,a3,a4,a5,a6,a7,⟨ws,e',b1,b2,b3,b4⟩,a9,ar⟩:=H0;have he:e'=[]:=b3 al;subst he;have ad:(meetAll K P.rows P.left 0).length=K+1:=Uh W.rows P.left 0 ae;refine⟨a1,a2,a3,a4,a5,a6,λk A h=>?_,⟨ws,[⟨0,meetAll K P.rows P.left 0,1,0,0+C.d.X*C.d.Y*C.m.c,false⟩],?_,?_,λh=>(Bool.noConfusion (show true=false from h)),λ_=>⟨_,rfl,rfl,rfl,rfl,λa ha=>?_⟩⟩,a9,ar⟩
   ·obtain⟨s,G,h'⟩:=a7 k A h;refine⟨s,G,λa ha hw=>?_⟩;rcases cQ.1 ha with h|h
    ·exact h' a h hw
    ·rw[dc.1 h]at hw;have hw:((0:Nat):Int)=(k:Int)+1:=hw;omega
   ·show P.acc++[_]=_;have b1:P.acc=EM K 0 S::EM K 1 D::(ws++[]):=b1;rw[b1];simp
   ·intro a ha;obtain⟨k,A,h⟩:=b2 a ha;exact⟨k,A,h.more (λj=>dT _) λx L=>L⟩
   ·obtain⟨k,A,h⟩:=b2 a ha;obtain⟨s,G,h'⟩:=H.lf k A (U k A);have ab:=h.le 0;have ab:a.when_.getD 0 0≤(meetAll K P.rows P.left (k+1)).getD 0 0:=ab;rw[m3 k]at ab;have ay:=H.r0 k A;have hm:a∈P.acc:=by
     have b1:P.acc=EM K 0 S::EM K 1 D::(ws++[]):=b1;rw[b1];simp[ha]
    have q:uu a.when_ (meetAll K P.rows P.left 0)=true:=We h.len ad ((h' a hm h.who).trans (m2 s G)) (j:=0) ae;exact q
theorem ZL (I:gG C K N tk P n)(hp:P.picks≤1000000)(NP:zaQ K P)(b0:zee C K P){k:Nat}(hk:k<K)(hr:fQ C K P ((k:Int)+1)=true)(H:zQ C K S D P):zQ C K S D (ic C K P ((k:Int)+1)):=by
 have W:=I.ok;have ci:=W.pk;have cp:=W.sent;have cr:=W.st;have Wk:=W.w k hk;have ad:P.ret=false:=by
  cases h:P.ret with
  |false=>rfl
  |true=>rw[VB I h]at hr;cases hr
 have ca:ic C K P ((k:Int)+1)=gd C K {P with picks:=P.picks+1} k:=by
  unfold ic;rw[hr,aq (by simp),aq ae,show((k:Int)+1-1).toNat=k by omega]
 rw[ca];obtain⟨a1,a2,a3,a4,a5,a6,a7,⟨ws,e',b1,b2,b3,b4⟩,a9,ab⟩:=H;have he:e'=[]:=b3 ad;subst he;have b1:P.acc=EM K 0 S::EM K 1 D::(ws++[]):=b1;have be:(P.rows (k+1)).length=K+1:=W.rows (k+1) ae;have b5:evP C {P with picks:=P.picks+1} k=evP C P k:=rfl;have cc:((k:Int)+1)=((k+1:Nat):Int):=ae;unfold gd;rw[b5];rcases Ya Wk hr with h1|h2|h3
 ·-- a tile is taken
  rw[aA h1];obtain⟨t1,t2,t3⟩:=RU Wk.st h1;have ew:=zaW (E:=C.E) (jo:=C.jo (bC P.q)) (q:=P.q) t2 t3;have et:(evP C P k).2.1=bC P.q:=t1;obtain⟨q1,q2,q3⟩:=zc4 I t3;have bo:(bC P.q).toNat<P.stamps.length:=ae;have hs:P.stamps.getD (evP C P k).2.1.toNat []∈P.stamps:=by
   rw[et,dA,iI bo];exact cG _
  generalize P.stamps.getD (evP C P k).2.1.toNat []=s at hs;have bk:=W.ss s hs;have ct:=a5 s hs;have mg:∀i j:Nat,(eI (K+1) P.rows ((k+1:Nat):Int) s i).getD j 0=if i=k+1 then max ((P.rows i).getD j 0) (s.getD j 0)else(P.rows i).getD j 0:=Oh ae bk λx A=>(NP.ss s hs x A).1
  have bc:∀i,leS (P.rows i) (eI (K+1) P.rows ((k+1:Nat):Int) s i):=λi j=>by rw[mg];split<;>omega
  have m0:(eI (K+1) P.rows ((k+1:Nat):Int) s 0).getD 0 0=(P.rows 0).getD 0 0:=by rw[mg,aq ae]
  have wt:∀i,((cB C {P with picks:=P.picks+1} k).ws i)=if i=k then xn (some C.E) (P.ws k) (bC P.q) (C.jo (bC P.q))else P.ws i:=λi=>by
   show(if i=k then(cg (some C.E) (C.jo (bC P.q)) (P.ws k) P.q).1 else P.ws i)=_;rw[ew]
  have tt:∀i,((cB C {P with picks:=P.picks+1} k).ws i).tiles=if i=k then(P.ws k).tiles++[bC P.q]else(P.ws i).tiles:=λi=>by rw[wt];split<;>rfl
  have eq:(cB C {P with picks:=P.picks+1} k).q=kI P.q:=by
   show(cg (some C.E) (C.jo (bC P.q)) (P.ws k) P.q).2.1=_;rw[ew]
  have bv:bC P.q∈P.q.l:=CG t3;have new:∀i,i<K→∀x∈(P.ws i).tiles,x<bC P.q:=λi hi x A=>(a9 i hi).2 x A _ bv
  have sub:∀i,∀x∈(P.ws i).tiles,x∈((cB C {P with picks:=P.picks+1} k).ws i).tiles:=λi x A=>by
   rw[tt];split
   ·rename_i h;subst h;exact xT _ A
   ·exact A
  refine⟨by show 1≤(eI (K+1) P.rows ((k+1:Nat):Int) s 0).getD 0 0;omega,λi hi=>?_,λi hi=>pL (a3 i hi) (bc (i+1) (i+1)),λi hi ht=>?_,λs' ar=>?_,?_,λi hi h=>?_,⟨ws,[],b1,λa F=>?_,λ_=>rfl,λh=>?_⟩,λi hi=>?_,λi j hi L aa x A=>?_⟩
  ·show(eI (K+1) P.rows ((k+1:Nat):Int) s (i+1)).getD 0 0<(eI (K+1) P.rows ((k+1:Nat):Int) s 0).getD 0 0;rw[m0,mg];have:=a2 i hi;split<;>omega
  ·show 1≤(eI (K+1) P.rows ((k+1:Nat):Int) s (i+1)).getD 0 0;rw[mg];by_cases e:i=k
   ·rw[aA ae];omega
   ·rw[aq ae];refine a4 i hi λh=>ht ?_
    show((cB C {P with picks:=P.picks+1} k).ws i).tiles=[];rw[tt,aq e,h]
  ·show _∧_<(eI (K+1) P.rows ((k+1:Nat):Int) s 0).getD 0 0;rw[m0];exact a5 s' ar
  ·show P.fin.getD 0 0<(eI (K+1) P.rows ((k+1:Nat):Int) s 0).getD 0 0;rw[m0];exact a6
  ·have h:((cB C {P with picks:=P.picks+1} k).ws i).state=2:=h;rw[wt]at h;split at h
   ·exact absurd h (zaY _)
   ·exact a7 i hi h
  ·obtain⟨i,hi,h⟩:=b2 a F;exact⟨i,hi,h.more (bc (i+1)) (sub i)⟩
  ·rw[show(cB C {P with picks:=P.picks+1} k).ret=P.ret from rfl,ad]at h;cases h
  ·show((cB C {P with picks:=P.picks+1} k).ws i).tiles.Nodup∧∀x∈((cB C {P with picks:=P.picks+1} k).ws i).tiles,∀z∈(cB C {P with picks:=P.picks+1} k).q.l,x<z;have al:∀z∈(kI P.q).l,z∈P.q.l:=λz G=>Ym G
   rw[eq,tt];by_cases e:i=k
   ·rw[aA e];refine⟨Ta.2 ⟨(a9 k hk).1,by simp,λx A y hy b6=>?_⟩,λx A z G=>?_⟩
    ·have:=new k hk x A;rw[dc.1 hy]at b6;omega
    ·rcases cQ.1 A with h|h
     ·exact(a9 k hk).2 x h z (al z G)
     ·rw[dc.1 h,q1];exact q2 z G
   ·rw[aq e];exact⟨(a9 i hi).1,λx A z G=>(a9 i hi).2 x A z (al z G)⟩
  ·have A:x∈((cB C {P with picks:=P.picks+1} k).ws i).tiles:=A;show x∉((cB C {P with picks:=P.picks+1} k).ws j).tiles;rw[tt]at A ⊢;by_cases ei:i=k
   ·rw[aq ae];rw[aA ei]at A;rcases cQ.1 A with h|h
    ·exact ab k j hk L ae x h
    ·intro h';have:=new j L x h';rw[dc.1 h]at this;omega
   ·rw[aq ei]at A;split
    ·intro h';rcases cQ.1 h' with h|h
     ·exact ab i k hi hk ei x A h
     ·have:=new i hi x A;rw[dc.1 h]at this;omega
    ·exact ab i j hi L aa x A
 ·-- a move
  rw[aq ae,aA h2];obtain⟨t,y,e,L,s1,ev,nk⟩:=Of Wk.st h2;have ew:=Yj (E:=C.E) (jo:=C.jo (bC P.q)) (q:=P.q) s1 L;have ev:evP C P k=(2,(P.ws k).tiles.getLast?.getD 0,bR (C.E.d t) y e,gh (C.E.d t) y e):=ev;have ax:(P.ws k).tiles≠[]:=by
   rcases Wk.st with h|h
   ·exact h.2.2
   ·rw[h.2]at L;cases L
  obtain⟨j1,j2,j3,j4⟩:=b0 k hk t y e L;obtain⟨jt,_⟩:=Wk.jb t y e L;have au:=Jy ax;have wt:∀i,((cB C {P with picks:=P.picks+1} k).ws i).tiles=(P.ws i).tiles∧(((cB C {P with picks:=P.picks+1} k).ws i).state=2→(P.ws i).state=2):=λi=>by
   have:(cB C {P with picks:=P.picks+1} k).ws i=if i=k then(cg (some C.E) (C.jo (bC P.q)) (P.ws k) P.q).1 else P.ws i:=rfl
   rw[this,ew];split
   ·rename_i h;subst h;exact⟨rfl,λh=>absurd h (zaY _)⟩
   ·exact⟨rfl,id⟩
  have eq:(cB C {P with picks:=P.picks+1} k).q=P.q:=by
   show(cg (some C.E) (C.jo (bC P.q)) (P.ws k) P.q).2.1=_;rw[ew]
  have ay:∀x y:Acc,Wg C K (cB C {P with picks:=P.picks+1} k) k x→Wg C K (cB C {P with picks:=P.picks+1} k) k y→zQ C K S D {cB C {P with picks:=P.picks+1} k with acc:=P.acc++[x]++[y]}:=λx y A hy=>by
   refine⟨a1,a2,a3,λi hi ht=>a4 i hi (by rw[←(wt i).1];exact ht),a5,a6,λi hi h=>?_,⟨ws++[x,y],[],?_,λa F=>?_,λ_=>rfl,λh=>?_⟩,λi hi=>?_,λi j hi L aa x A=>?_⟩
   ·obtain⟨s,hs,h'⟩:=a7 i hi ((wt i).2 h);refine⟨s,hs,λa F hw=>?_⟩;have cb:i≠k:=λe=>by
     have h:=(wt i).2 h;rw[e,s1]at h;omega
    have F:a∈P.acc++[x]++[y]:=F;rcases cQ.1 F with h|h
    ·rcases cQ.1 h with h|h
     ·exact h' a h hw
     ·rw[dc.1 h,A.who]at hw;omega
    ·rw[dc.1 h,hy.who]at hw;omega
   ·show P.acc++[x]++[y]=_;rw[b1];simp
   ·rcases cQ.1 F with h|h
    ·obtain⟨i,hi,h⟩:=b2 a h;exact⟨i,hi,h.more (λj=>dT _) λz G=>by show z∈((cB C {P with picks:=P.picks+1} k).ws i).tiles;rw[(wt i).1];exact G⟩
    ·simp only[fC,uh,or_false]at h;rcases h with rfl|rfl
     ·exact⟨k,hk,A.more (λj=>dT _) λz G=>G⟩
     ·exact⟨k,hk,hy.more (λj=>dT _) λz G=>G⟩
   ·rw[show({cB C {P with picks:=P.picks+1} k with acc:=P.acc++[x]++[y]}:bH).ret=P.ret from rfl,ad]at h;cases h
   ·show((cB C {P with picks:=P.picks+1} k).ws i).tiles.Nodup∧∀x∈((cB C {P with picks:=P.picks+1} k).ws i).tiles,∀z∈(cB C {P with picks:=P.picks+1} k).q.l,x<z;rw[eq,(wt i).1];exact a9 i hi
   ·have A:x∈((cB C {P with picks:=P.picks+1} k).ws i).tiles:=A;show x∉((cB C {P with picks:=P.picks+1} k).ws j).tiles;rw[(wt _).1]at A ⊢;exact ab i j hi L aa x A
  have mk:∀(buf lo hi:Int) (wr:Bool),((buf=0∧wr=false)∨buf=(k:Int)+2∨(buf=1∧wr=true∧∃x∈(P.ws k).tiles,∃y,(aL C.d x).y≤y∧y<(aL C.d x).y+(aL C.d x).h∧lo=(y*C.d.X+(aL C.d x).x)*C.m.c∧hi=lo+(aL C.d x).w*C.m.c))→Wg C K (cB C {P with picks:=P.picks+1} k) k ⟨((k+1:Nat):Int),P.rows (k+1),buf,lo,hi,wr⟩:=λbuf lo hi wr b7=>
   ⟨by show((k+1:Nat):Int)=_;omega,be,λj=>dT _,a4 k hk ax,a3 k hk,λj=>((NP.rows (k+1) ae).get ae j).1,by rw[(wt k).1];exact b7,by rw[(wt k).1];exact ax⟩
  rw[ev];unfold pE;by_cases hm:bR (C.E.d t) y e=1
  ·rw[aA hm];exact ay _ _ (mk _ _ _ _ (.inl ⟨rfl,rfl⟩)) (mk _ _ _ _ (.inr (.inl rfl)))
  ·rw[aq hm];have sj:gh (C.E.d t) y e=y:=by
    unfold bR at nk hm;unfold gh;by_cases q1:(C.E.d t).t.y+(C.E.d t).t.h≤y
    ·rw[aA q1]at nk;exact absurd rfl nk
    ·rw[aq q1]at hm ⊢;by_cases q2:e<lnE (C.E.d t).s.y y
     ·rw[aA q2]at hm;exact absurd rfl hm
     ·rw[aq q2]
   refine ay _ _ (mk _ _ _ _ (.inr (.inl rfl))) (mk _ _ _ _ (.inr (.inr ⟨rfl,rfl,_,au,y,by rw[←jt];exact j1,by rw[←jt];exact j2,?_,rfl⟩)));show(gh (C.E.d t) y e*C.d.X+_)*C.m.c=_;rw[sj]
 ·-- a worker leaves
  rw[aq ae,aq ae,aA h3];obtain⟨ew,hq⟩:=zbw Wk.st h3;have bg:P.q.closed=true:=zdi h3;have b8:=NP.fl bg;have fg:∀i j:Nat,(eI (K+1) P.rows ((k+1:Nat):Int) P.fin i).getD j 0=if i=k+1 then max ((P.rows i).getD j 0) (P.fin.getD j 0)else(P.rows i).getD j 0:=Oh ae b8 λx A=>(NP.fn x A).1
  have tg:∀i j:Nat,(jP (K+1) (eI (K+1) P.rows ((k+1:Nat):Int) P.fin) ((k+1:Nat):Int) i).getD j 0=if i=k+1∧j=k+1 then(eI (K+1) P.rows ((k+1:Nat):Int) P.fin i).getD j 0+1 else(eI (K+1) P.rows ((k+1:Nat):Int) P.fin i).getD j 0:=
   Ur (λi hi=>IT (λj L=>W.rows j ae) _ _ i hi) (m:=P.picks+1) (λi hi=>InL.meet NP.rows NP.fn ae _ i ae) ae ae ae
  generalize hR:eI (K+1) P.rows ((k+1:Nat):Int) P.fin=R at fg tg;have a8:∀i,leS (P.rows i) (R i):=λi j=>by rw[fg];split<;>omega
  have an:∀i,leS (P.rows i) (jP (K+1) R ((k+1:Nat):Int) i):=λi j=>by have:=a8 i j;rw[tg];split<;>omega
  have t0:(jP (K+1) R ((k+1:Nat):Int) 0).getD 0 0=(P.rows 0).getD 0 0:=by rw[tg,aq ae,fg,aq ae]
  have wt:∀i,((cB C {P with picks:=P.picks+1} k).ws i).tiles=(P.ws i).tiles∧(i≠k→((cB C {P with picks:=P.picks+1} k).ws i).state=(P.ws i).state):=λi=>by
   have:(cB C {P with picks:=P.picks+1} k).ws i=if i=k then(cg (some C.E) (C.jo (bC P.q)) (P.ws k) P.q).1 else P.ws i:=rfl
   rw[this,ew];split
   ·rename_i h;subst h;exact⟨rfl,λh=>absurd rfl h⟩
   ·exact⟨rfl,λ_=>rfl⟩
  have eq:(cB C {P with picks:=P.picks+1} k).q=kI P.q:=by
   show(cg (some C.E) (C.jo (bC P.q)) (P.ws k) P.q).2.1=_;rw[ew]
  have U:(Ou K (cB C {P with picks:=P.picks+1} k) k).rows=jP (K+1) R ((k+1:Nat):Int):=by rw[←hR];rfl
  have bd:(Ou K (cB C {P with picks:=P.picks+1} k) k).left=P.left++[R (k+1)]:=by rw[←hR];rfl
  refine⟨by rw[U,t0];exact a1,λi hi=>?_,λi hi=>by rw[U];exact pL (a3 i hi) (an (i+1) (i+1)),λi hi ht=>?_,λs' ar=>by rw[U,t0];exact a5 s' ar,by rw[U,t0];exact a6,λi hi h=>?_,⟨ws,[],b1,λa F=>?_,λ_=>rfl,λh=>?_⟩,λi hi=>?_,λi j hi L aa x A=>?_⟩
  ·rw[U,t0,tg,aq ae,fg];have:=a2 i hi;split<;>omega
  ·rw[U];refine pL (a4 i hi λh=>ht ?_) (an (i+1) 0);show((cB C {P with picks:=P.picks+1} k).ws i).tiles=[];rw[(wt i).1,h]
  ·rw[bd];by_cases e:i=k
   ·subst e;refine⟨R (i+1),by simp,λa F hw=>?_⟩;have F:a∈P.acc:=F;rw[b1]at F;simp only[fN,fC]at F;rcases F with rfl|rfl|F
    ·have hw:(0:Int)=(i:Int)+1:=hw;omega
    ·have hw:(0:Int)=(i:Int)+1:=hw;omega
    ·obtain⟨j,L,h9⟩:=b2 a F;have:j=i:=by have:=h9.who;omega
     subst this;exact h9.le.trans (a8 (j+1))
   ·obtain⟨s,hs,h'⟩:=a7 i hi (by rw[←(wt i).2 e];exact h);exact⟨s,xT _ hs,h'⟩
  ·obtain⟨i,hi,h⟩:=b2 a F;exact⟨i,hi,h.more (by rw[U];exact an (i+1)) λx A=>by show x∈((cB C {P with picks:=P.picks+1} k).ws i).tiles;rw[(wt i).1];exact A⟩
  ·rw[show(Ou K (cB C {P with picks:=P.picks+1} k) k).ret=P.ret from rfl,ad]at h;cases h
  ·show((cB C {P with picks:=P.picks+1} k).ws i).tiles.Nodup∧∀x∈((cB C {P with picks:=P.picks+1} k).ws i).tiles,∀z∈(cB C {P with picks:=P.picks+1} k).q.l,x<z;rw[eq,(wt i).1];refine⟨(a9 i hi).1,λx A z G=>?_⟩;have G:z∈P.q.l.tail:=G;rw[hq]at G;cases G
  ·have A:x∈((cB C {P with picks:=P.picks+1} k).ws i).tiles:=A;show x∉((cB C {P with picks:=P.picks+1} k).ws j).tiles;rw[(wt _).1]at A ⊢;exact ab i j hi L aa x A
end
end
end Go.Proofs.YtjljhnandbbldaaGreatDoor
namespace Go.Proofs.YtjljhnandbbldaaGreatDoor
open Go Go.Crisp
open _root_.Go.Proofs.Tryz
def CE:Go.Shelf.Ren:=⟨λn=>match n with|6=>57|8=>114|9=>115|11=>159|n=>n,λn=>match n with|0=>0|24=>41|26=>3|28=>134|33=>54|n=>n,λn=>n⟩
theorem Xc:Go.Proofs.SlLaysZI.n6 prog CE where
 mixed:=by kernel_rfl
 f6:=⟨"slices.Sorted[int]",by kernel_rfl,by kernel_rfl⟩
 f8:=⟨"slices.Collect[int]",by kernel_rfl,by kernel_rfl⟩
 f11:=⟨"slices.AppendSeq[[]int,int]",by kernel_rfl,by kernel_rfl⟩
 t0:=by kernel_rfl
 a0:=λw=>aZ (by kernel_rfl)
 z0:=λw=>aM (by kernel_rfl)
 v0:=λw=>aI (by kernel_rfl)
 t24:=by kernel_rfl
 a24:=λw=>aZ (by kernel_rfl)
 z24:=λw=>aM (by kernel_rfl)
 v24:=λw=>aI (by kernel_rfl)
 t26:=by kernel_rfl
 a26:=λw=>aZ (by kernel_rfl)
 z26:=λw=>aM (by kernel_rfl)
 v26:=λw=>aI (by kernel_rfl)
 t28:=by kernel_rfl
 a28:=λw=>aZ (by kernel_rfl)
 z28:=λw=>aM (by kernel_rfl)
 v28:=λw=>aI (by kernel_rfl)
 i26:=by kernel_rfl
def FG:Go.Shelf.Ren:=⟨λn=>match n with|10=>116|n=>n,λn=>match n with|0=>0|3=>4|4=>4|23=>131|26=>3|33=>54|n=>n,λn=>n⟩
theorem Ri:Go.Proofs.SlLaysZI.n10 prog FG where
 mixed:=by kernel_rfl
 f10:=⟨"maps.Keys[map[int]bool,int,bool]$1",by kernel_rfl,by kernel_rfl⟩
 t0:=by kernel_rfl
 a0:=λw=>aZ (by kernel_rfl)
 z0:=λw=>aM (by kernel_rfl)
 v0:=λw=>aI (by kernel_rfl)
 t4:=by kernel_rfl
 a4:=λw=>aZ (by kernel_rfl)
 z4:=λw=>aM (by kernel_rfl)
 v4:=λw=>aI (by kernel_rfl)
 t23:=by kernel_rfl
 a23:=λw=>aZ (by kernel_rfl)
 z23:=λw=>aM (by kernel_rfl)
 v23:=λw=>aI (by kernel_rfl)
 t26:=by kernel_rfl
 a26:=λw=>aZ (by kernel_rfl)
 z26:=λw=>aM (by kernel_rfl)
 v26:=λw=>aI (by kernel_rfl)
 t33:=by kernel_rfl
 a33:=λw=>aZ (by kernel_rfl)
 z33:=λw=>aM (by kernel_rfl)
 v33:=λw=>aI (by kernel_rfl)
def R9:Go.Shelf.Ren:=⟨λn=>match n with|125=>161|128=>198|129=>199|189=>115|215=>235|216=>195|257=>160|294=>189|295=>190|296=>191|297=>192|298=>193|299=>194|300=>196|301=>197|328=>230|329=>231|330=>232|331=>233|332=>234|343=>277|n=>n,λn=>match n with|0=>0|3=>3|4=>4|5=>5|9=>9|28=>41|46=>260|51=>301|53=>303|131=>298|182=>292|183=>293|218=>323|222=>327|228=>354|229=>229|n=>n,λn=>n⟩
theorem Vn:Go.Proofs.Lays.n189 prog R9 where
 mixed:=by kernel_rfl
 f125:=by kernel_rfl
 f128:=by kernel_rfl
 f129:=by kernel_rfl
 f189:=by kernel_rfl
 f215:=by kernel_rfl
 f216:=by kernel_rfl
 f257:=by kernel_rfl
 f294:=by kernel_rfl
 f295:=by kernel_rfl
 f296:=by kernel_rfl
 f297:=by kernel_rfl
 f298:=by kernel_rfl
 f299:=by kernel_rfl
 f300:=by kernel_rfl
 f301:=by kernel_rfl
 f328:=by kernel_rfl
 f329:=by kernel_rfl
 f330:=by kernel_rfl
 f331:=by kernel_rfl
 f332:=by kernel_rfl
 f343:=by kernel_rfl
 t0:=by kernel_rfl
 a0:=λw=>aZ (by kernel_rfl)
 z0:=λw=>aM (by kernel_rfl)
 v0:=λw=>aI (by kernel_rfl)
 t3:=by kernel_rfl
 a3:=λw=>aZ (by kernel_rfl)
 z3:=λw=>aM (by kernel_rfl)
 v3:=λw=>aI (by kernel_rfl)
 t4:=by kernel_rfl
 a4:=λw=>aZ (by kernel_rfl)
 z4:=λw=>aM (by kernel_rfl)
 v4:=λw=>aI (by kernel_rfl)
 t5:=by kernel_rfl
 a5:=λw=>aZ (by kernel_rfl)
 z5:=λw=>aM (by kernel_rfl)
 v5:=λw=>aI (by kernel_rfl)
 t9:=by kernel_rfl
 a9:=λw=>aZ (by kernel_rfl)
 z9:=λw=>aM (by kernel_rfl)
 v9:=λw=>aI (by kernel_rfl)
 t28:=by kernel_rfl
 a28:=λw=>aZ (by kernel_rfl)
 z28:=λw=>aM (by kernel_rfl)
 v28:=λw=>aI (by kernel_rfl)
 t46:=by kernel_rfl
 a46:=λw=>aZ (by kernel_rfl)
 z46:=λw=>aM (by kernel_rfl)
 v46:=λw=>aI (by kernel_rfl)
 t51:=by kernel_rfl
 a51:=λw=>aZ (by kernel_rfl)
 z51:=λw=>aM (by kernel_rfl)
 v51:=λw=>aI (by kernel_rfl)
 t53:=by kernel_rfl
 a53:=λw=>aZ (by kernel_rfl)
 z53:=λw=>aM (by kernel_rfl)
 v53:=λw=>aI (by kernel_rfl)
 t131:=by kernel_rfl
 a131:=λw=>aZ (by kernel_rfl)
 z131:=λw=>aM (by kernel_rfl)
 v131:=λw=>aI (by kernel_rfl)
 t182:=by kernel_rfl
 a182:=λw=>aZ (by kernel_rfl)
 z182:=λw=>aM (by kernel_rfl)
 v182:=λw=>aI (by kernel_rfl)
 t183:=by kernel_rfl
 a183:=λw=>aZ (by kernel_rfl)
 z183:=λw=>aM (by kernel_rfl)
 v183:=λw=>aI (by kernel_rfl)
 t218:=by kernel_rfl
 a218:=λw=>aZ (by kernel_rfl)
 z218:=λw=>aM (by kernel_rfl)
 v218:=λw=>aI (by kernel_rfl)
 t222:=by kernel_rfl
 a222:=λw=>aZ (by kernel_rfl)
 z222:=λw=>aM (by kernel_rfl)
 v222:=λw=>aI (by kernel_rfl)
 t228:=by kernel_rfl
 a228:=λw=>aZ (by kernel_rfl)
 z228:=λw=>aM (by kernel_rfl)
 v228:=λw=>aI (by kernel_rfl)
 t229:=by kernel_rfl
 a229:=λw=>aZ (by kernel_rfl)
 z229:=λw=>aM (by kernel_rfl)
 v229:=λw=>aI (by kernel_rfl)
end Go.Proofs.YtjljhnandbbldaaGreatDoor
namespace Go.Proofs.YtjljhnandbbldaaGreatDoor
open Go Go.Crisp Go.MapKept Go.RowKit
attribute [local irreducible] du bh stK aE vK qK bO gK fR bA mkK dy GQ
open _root_.Go.Proofs.Tryz
abbrev Uz (l:List Int):List Int:=l.mergeSort λx y=>decide (x≤y)
theorem zaZ (m:Nat):AnyZI.SortsIn prog CE Fence.wide m:=
 ⟨λblk off cap ss W G A F=>Te.2 (Any.slices_Sort_int Vn blk off cap ss W G A F),λp cap W=>Te.2 (Any.slices_Sort_int_none Vn p cap W)⟩
theorem zaD {h:ah}{F b:Nat}{t:TypeId}{kv:List (Int×Value)}(r1:h[F]? =some (.cells #[.map (some b)] t (0,0)))(W:qJ h b kv)(hw:∀p∈kv,(Lit.int .i64 p.1).wf=true)(hl:kv.length≤1000000):
  ag prog uX #[.func (.func gY) #[] #[.pointer (some ⟨F,0,none⟩)]] h λr h'=>∃ss:List Int,ss.Perm (kv.map Prod.fst)∧jE h' r (Uz ss)∧Ext h h'∧∀k,blk r k→h.size≤k:=by
 refine ag.ofCalls (by kernel_rfl) λw hh=>?_
 subst hh;obtain⟨D,L,I,G⟩:=UW (P:=prog) (k:=(FG).t 26) Ri.t26 W hw (by unfold maxLen;omega);have seq:=AnyZI.keys_gives Ri Fence.wide 3 trivial rfl ae F b kv.length D w (bD r1) (show aH w.heap ⟨F,0,none⟩=_ from by rw[am r1];rfl) L;have:=AnyZI.sorted_in Xc Fence.wide 6 trivial trivial trivial trivial rfl ae (zaZ _) (λargs w=>pe (by kernel_rfl)) _ #[.pointer (some ⟨F,0,none⟩)] trivial (λargs w=>pe (by kernel_rfl)) _ _ (by rw[G];unfold maxLen;omega) (by rw[G];omega) w seq;refine OZ this ?_;rintro e w' ⟨v,ss,rfl,U,A,_,H⟩;rw[←List.length_mergeSort (le:=λx y=>decide (x≤y)) (l:=ss)]at A;obtain⟨o,n⟩:=Nj A;obtain⟨s,e⟩:=RP H;exact⟨v,rfl,s,ss,U.trans I,o,e,n⟩
theorem za1 (l:List Int):(Uz l).Pairwise λa b=>a≤b:=by
 have:=Yz (le:=λx y:Int=>decide (x≤y)) (λa b c h1 A=>by simp only[dd]at*;omega) (λa b=>by simp only[wR,dd];omega) l;exact this.imp λh=>by simpa using h
theorem za0 {l:List Int}(F:l.Nodup):(Uz l).Pairwise λa b=>a<b:=by
 have h1:=za1 l;have A:(Uz l).Nodup:=(Tt l _).nodup_iff.2 F;unfold List.Nodup at A;exact(h1.and A).imp λ⟨G,H⟩=>ae
end Go.Proofs.YtjljhnandbbldaaGreatDoor
namespace Go.Proofs.YtjljhnandbbldaaGreatDoor
open Go Go.Crisp
attribute [local irreducible] ag du bh stK aE vK qK bO gK fR bA mkK dy GQ pG pH Q9
def gS (buf:Int)(a:Acc):Bool:=a.wr&&decide (a.buf=buf)
def fG (buf x:Int)(a:Acc):Bool:=gS buf a&&(decide (a.lo≤x)&&decide (x<a.hi))
theorem Zj {Z:Nat→Prop}{h:ah}{s:Value}{c:Array Value}{t:TypeId}{l:List Acc}{k:Nat}{K:Value→ah→Prop}(H:Rp.Sl lL Z h s l)(hk:k<l.length)(hc:c.size=6)
  (HK:∀b h' x,kh h' x l[k].when_→h'[b]? =some (.cells #[af l[k].who,x,af l[k].buf,af l[k].lo,af l[k].hi,.bool l[k].wr] t (0,0))→Ext h h'→h.size≤b→K (.pointer (some ⟨b,0,none⟩)) h'):
  vK (bu 6 s (af (k:Int))) λW=>vK (aR 6 h W) λL=>bh c t h λF I=>stK 6 F L I λaa U=>K F U:=by
 obtain⟨p,cs,G,hq,A⟩:=H.atw (show 0<lL.w by decide) (k:=.i64) hk;have G:bu 6 s (af (k:Int))=some p:=G;have hq:aR 6 h p=some (.agg cs.toArray):=hq;have one:=lL.one A;obtain⟨x,rfl,hx⟩:=A;rw[G,aj,hq,aj];refine dh (by rw[hc];rfl) one rfl λb h' r e n=>?_
 exact HK b h' x ((Hl hx).ext e) r e n
def G6 (buf:Int)(l:List Acc)(kv:List (Int×Value)):Prop:=∀k,k∈kv.map Prod.fst↔ ∃a∈l,gS buf a=true∧a.who=k
theorem UO {α:Type}{j:Int}{v:α}:∀(kv:List (Int×α)) (k:Int),k∈(GD j v kv).map Prod.fst↔k=j∨k∈kv.map Prod.fst
 | [],k=>by simp[GD]
 | (i,u)::r,k=>by
  unfold GD;split
  ·rename_i hi;subst hi;simp
  ·have:=UO (j:=j) (v:=v) r k;simp only[sq,fC,this];constructor
   ·rintro(h|h|h)
    ·exact .inr (.inl h)
    ·exact .inl h
    ·exact .inr (.inr h)
   ·rintro(h|h|h)
    ·exact .inr (.inl h)
    ·exact .inl h
    ·exact .inr (.inr h)
theorem G6.hit {buf:Int}{l:List Acc}{kv:List (Int×Value)}{a:Acc}{v:Value}(H:G6 buf l kv)(G:gS buf a=true):G6 buf (l++[a]) (GD a.who v kv):=λk=>by
 rw[UO,H k];constructor
 ·rintro(rfl|⟨b,A,h1⟩)
  ·exact⟨a,by simp,G,rfl⟩
  ·exact⟨b,by simp[A],h1⟩
 ·rintro⟨b,A,h1,F⟩;rcases cQ.1 A with A|A
  ·exact .inr ⟨b,A,h1,F⟩
  ·rw[dc.1 A]at F;exact .inl F.symm
theorem G6.miss {buf:Int}{l:List Acc}{kv:List (Int×Value)}{a:Acc}(H:G6 buf l kv)(F:gS buf a=false):G6 buf (l++[a]) kv:=λk=>by
 rw[H k];constructor
 ·rintro⟨b,A,h1⟩;exact⟨b,by simp[A],h1⟩
 ·rintro⟨b,A,h1,G⟩;rcases cQ.1 A with A|A
  ·exact⟨b,A,h1,G⟩
  ·rw[dc.1 A,F]at h1;cases h1
theorem Yf {α:Type}{j:Int}{v:α}:∀kv:List (Int×α),(GD j v kv).length≤kv.length+1
 | []=>by simp[GD]
 | (i,u)::r=>by
  unfold GD;split
  ·simp
  ·have:=Yf (j:=j) (v:=v) r;simp;omega
end Go.Proofs.YtjljhnandbbldaaGreatDoor
namespace Go.Proofs.YtjljhnandbbldaaGreatDoor
open Go Go.Crisp
attribute [local irreducible] ag du bh stK aE vK qK bO gK fR bA mkK dy GQ pG pH Q9
open _root_.Go.Proofs.Tryz
section
section
variable {Z:Nat→Prop}{h:ah}{bx o:Nat}{cs:Array Value}{t:TypeId}{sl:Value}{l:List Acc}
theorem zcq (L:By Z h bx o cs t sl l)(hw:∀a∈l,a.when_.length≤9223372036854775807)(hl:l.length≤100000):
  ag prog kW #[.pointer (some ⟨bx,o,none⟩)] h λr h'=>Rp.Ow Yd (λ_=>False) h' r (wH l l.length)∧Ext h h'∧∀b,blk r b→h.size≤b:=by
 have ab:=L.cell;apply Aj;unfold pd;obtain⟨sa,sc,rfl⟩:=L.own.isSl;simp only[go_sem,gN,ab];refine c5 (λd xs h'=>Ext h h'∧∃i r,i≤l.length∧d=l.length-i∧xs=[r,af (i:Int)]∧Rp.Ow Yd (λ_=>False) h' r (wH l i)∧∀b,blk r b→h.size≤b) _
  ⟨Ext.refl h,0,_,b9 _,rfl,rfl,Rp.Ow.nil,λb F=>F.elim⟩ ?_
 rintro d _ ρj h1 again ⟨e1,i,r,hi,rfl,rfl,o1,n1⟩ a7;simp only[go_sem];refine ao (λH=>?_) (λbd=>?_)
 ·have H:i<l.length:=ae;obtain⟨p,cs,hp,hq,G⟩:=L.own.sl.atw (show 0<lL.w by decide) (k:=.i64) H;have hp:bu 6 (.slice sa l.length sc) (af (i:Int))=some p:=hp;have hq:aR 6 h1 p=some (.agg cs.toArray):=e1.lds hq;rw[hp,aj,hq,aj];refine dh (lL.len G) (lL.one G) (lL.len G) λb2 h2 r2 e2 n2=>?_
  rw[w64 ae ae];have au:∀b,blk r b→b≠b2:=λb F bc=>by have:=o1.lt F;omega
  have ax:h.size≤b2:=bB e1.1 n2;refine c5 (λd xs h'=>Ext h h'∧h'[b2]? =some (.cells cs.toArray 120 (0,0))∧∃k r,i<k∧k≤l.length∧d=l.length-k∧xs=[r,af (k:Int)]∧Rp.Ow Yd (λ_=>False) h' r (wH l i++pf l i k)∧∀b,blk r b→h.size≤b∧b≠b2) _
   ⟨e1.trans e2,r2,i+1,r,Nat.lt_succ_self i,H,rfl,rfl,by rw[PP,fN];exact o1.ext e2,λb F=>⟨n1 b F,au b F⟩⟩ ?_
  rintro d _ ρj h3 an ⟨e3,r3,k,s3,ar,hk,rfl,rfl,o3,n3⟩ W;have L3:=L.ext e3;simp only[go_sem,gN,L3.cell];refine ao (λA=>?_) (λa9=>?_)
  ·have A:k<l.length:=ae;refine KE ?_;have ay:cs.length=6:=lL.len G;refine aD (.agg cs.toArray) (λhh E=>aW (E.row r3) 6 ay) ?_;refine aD (.slice sa l.length sc) (λhh E=>by rw[E.cell L3.cell]) ?_;obtain⟨p3,ds,ad,aa,a8⟩:=L3.own.sl.atw (show 0<lL.w by decide) (k:=.i64) A;have ad:bu 6 (.slice sa l.length sc) (af (k:Int))=some p3:=ad;have aa:aR 6 h3 p3=some (.agg ds.toArray):=aa;rw[ad,aj];refine aD (.agg ds.toArray) (λhh E=>E.lds aa) ?_;have al:lL.R (λb=>Z b∨blk (.slice sa l.length sc) b) h3 ds l[k]:=a8;refine(XN ((lL.isAcc G).ext e3) (lL.isAcc al) (hw _ (cG _)) (hw _ (cG _))).mono ?_;rintro _ h4 ⟨rfl,U⟩;have wk:IntKind.i64.wrap ((k:Int)+1)=(k:Int)+1:=w64 ae ae;have I:=Sb l ar;rw[bang l H,bang l A]at I;cases hr:jK l[i] l[k]with
   | true=>
    rw[hr]at I;simp only[go_sem,wk];rw[JW _ #[af (i:Int),af (k:Int)] (by kernel_rfl)];refine Rp.push_ow (e:=Yd) (cs:=[af (i:Int),af (k:Int)]) (x:=((i:Int),(k:Int))) (o3.ext U) rfl rfl rfl ?_ ?_ (λb F=>F.elim) λs5 h5 o5 f5 n5=>?_
    ·have:=Nd l i;have:=CI l i k;have:i*l.length≤100000*100000:=vu ae hl;rw[co];omega
    ·have:=Nd l i;have:=CI l i k;have:i*l.length≤100000*100000:=vu ae hl;rw[co];omega
    have e5:Ext h h5:=(e3.trans U).then_fr f5 λb F=>(n3 b F).1
    refine W _ _ (l.length-(k+1)) ae ⟨e5,f5.row (U.row r3) λF=>(n3 _ F).2 rfl,k+1,s5,ae,A,rfl,rfl,?_,λb F=>?_⟩
    ·rw[I,aA rfl,←cj];exact o5
    ·rcases n5 b F with h7|h7
     ·exact n3 b h7
     ·have h8:=bD r3;have h9:=U.1;exact⟨bB (e3.trans U).1 h7,ae⟩
   |false=>
    rw[hr]at I;simp only[go_sem,wk];refine W _ _ (l.length-(k+1)) ae ⟨e3.trans U,U.row r3,k+1,s3,ae,A,rfl,rfl,?_,n3⟩;rw[I];simp only[gO,cH,fN];exact o3.ext U
  ·obtain rfl:k=l.length:=ae;refine a7 _ _ (l.length-(i+1)) ae ⟨e3,i+1,s3,H,rfl,rfl,?_,λb F=>(n3 b F).1⟩;rw[La];exact o3
 ·obtain rfl:i=l.length:=ae;exact⟨o1,e1,n1⟩
theorem XL (L:By Z h bx o cs t sl l)(buf x:Int)(hl:l.length≤100000):
  ag prog fH #[.pointer (some ⟨bx,o,none⟩),af buf,af x] h λr h'=>r=af ((l.countP (fG buf x):Nat):Int)∧Ext h h':=by
 have H:=L.cell;apply yA;unfold mN;obtain⟨sa,sc,rfl⟩:=L.own.isSl;simp only[go_sem,gN,H];refine c5 (λd xs h'=>Ext h h'∧∃k:Nat,k≤l.length∧d=l.length-k∧xs=[af (((l.take k).countP (fG buf x):Nat):Int),af (k:Int)]) l.length
  ⟨Ext.refl h,0,ae,rfl,rfl⟩ ?_
 rintro d _ ρj h1 again ⟨e1,k,hk,rfl,rfl⟩ W;simp only[go_sem];refine ao (λA=>?_) (λab=>?_)
 ·have A:k<l.length:=ae;have hc:(l.take k).countP (fG buf x)≤k:=bB List.countP_le_length (by rw[de];omega);have wk:IntKind.i64.wrap ((k:Int)+1)=(k:Int)+1:=w64 ae ae;have wc:IntKind.i64.wrap ((((l.take k).countP (fG buf x):Nat):Int)+1)=(((l.take k).countP (fG buf x)+1:Nat):Int):=by rw[w64 ae ae];omega
  have U:(l.take (k+1)).countP (fG buf x)=(l.take k).countP (fG buf x)+if fG buf x l[k]=true then 1 else 0:=by
   rw[iY A,vl,pQ,DY,aO]
  refine Zj (L.own.ext e1).sl A rfl λb3 h3 y hy r3 e3 n3=>?_
  have F:fG buf x l[k]=false→again [af (((l.take k).countP (fG buf x):Nat):Int),af ((k:Int)+1)] h3:=λhh=>by
   refine W _ _ (l.length-(k+1)) ae ⟨e1.trans e3,k+1,A,rfl,?_⟩;rw[U,hh];rfl
  have aa:fG buf x l[k]=true→again [af (((l.take k).countP (fG buf x)+1:Nat):Int),af ((k:Int)+1)] h3:=λhh=>by
   refine W _ _ (l.length-(k+1)) ae ⟨e1.trans e3,k+1,A,rfl,?_⟩;rw[U,aA hh];rfl
  cases h1:l[k].wr with
  |false=>
   simp only[go_sem,am r3,h1,wk];exact F (by simp[fG,gS,h1])
  | true=>
   by_cases G:l[k].buf=buf
   ·by_cases I:l[k].lo≤x
    ·by_cases h5:x<l[k].hi
     ·simp only[go_sem,am r3,h1,G,I,h5,wk,wc];exact aa (by simp[fG,gS,h1,G,I,h5])
     ·simp only[go_sem,am r3,h1,G,I,h5,wk];exact F (by simp[fG,gS,h1,G,I];omega)
    ·simp only[go_sem,am r3,h1,G,I,wk];exact F (by simp[fG,gS,h1,G,I])
   ·simp only[go_sem,am r3,h1,G,wk];exact F (by simp[fG,gS,h1,G])
 ·have:k=l.length:=ae;subst this;rw[An];exact⟨by trivial,e1⟩
theorem Pn (L:By Z h bx o cs t sl l)(buf:Int)(hl:l.length≤100000)(hw:∀a∈l,(Lit.int .i64 a.who).wf=true):
  ag prog gZ #[.pointer (some ⟨bx,o,none⟩),af buf] h λr h'=>∃ss:List Int,jE h' r ss∧ss.Pairwise (λa b=>a<b)∧(∀k,k∈ss↔ ∃a∈l,gS buf a=true∧a.who=k)∧Ext h h':=by
 have al:=L.cell;apply yB;unfold mO;refine SV λbm h1 m1 e1 n1=>?_
 have L1:=L.ext e1;obtain⟨sa,sc,rfl⟩:=L.own.isSl;simp only[go_sem,gN,L1.cell];refine Al l.length (λk h'=>k≤l.length∧Ext h h'∧∃kv,qJ h' bm kv∧G6 buf (l.take k) kv∧kv.length≤k) ⟨ae,e1,[],m1,λk=>by simp,by simp⟩ ?_;rintro k U again ρj ⟨hk,e2,kv,m2,F,an⟩ aa;simp only[go_sem];refine ao (λA=>?_) (λar=>?_)
 ·have A:k<l.length:=ae;have wk:IntKind.i64.wrap ((k:Int)+1)=(k:Int)+1:=w64 ae ae;have ht:l.take (k+1)=l.take k++[l[k]]:=iY A;refine Zj (L.own.ext e2).sl A rfl λb3 h3 y hy r3 G n3=>?_
  have I:=m2.ext G;have W:gS buf l[k]=false→again [af ((k:Int)+1)] h3:=λhh=>
   aa h3 A ⟨A,e2.trans G,kv,I,by rw[ht];exact F.miss hh,ae⟩
  cases h1:l[k].wr with
  |false=>
   simp only[go_sem,am r3,h1,wk];exact W (by simp[gS,h1])
  | true=>
   by_cases U:l[k].buf=buf
   ·simp only[go_sem,am r3,h1,U];refine Sc I λh4 m4 u4=>?_
    simp only[go_sem,wk];have hh:gS buf l[k]=true:=by simp[gS,h1,U]
    have H:=Yf (j:=l[k].who) (v:=Value.bool true) kv;exact aa h4 A ⟨A,(e2.trans G).upd n1 u4,_,m4,by rw[ht];exact F.hit hh,ae⟩
   ·simp only[go_sem,am r3,h1,U,wk];exact W (by simp[gS,h1,U])
 ·have ab:k=l.length:=ae;subst ab;rw[An]at F;apply nQ;unfold iG;refine aJ λb3 h3 r3 G n3=>?_
  have I:=m2.ext G;refine(zaD r3 I (λp H=>?_) ae).mono ?_
  ·obtain⟨a,ha,_,ad⟩:=(F p.1).1 (fO.2 ⟨p,H,rfl⟩);rw[←ad];exact hw a ha
  rintro r h4 ⟨ss,H,o4,e4,n4⟩;refine⟨Uz ss,o4,za0 (H.nodup_iff.2 I.nodup),λk=>?_,(e2.trans G).trans e4⟩;rw[←F k,←H.mem_iff];exact(Tt ss _).mem_iff
end
end
end Go.Proofs.YtjljhnandbbldaaGreatDoor
namespace Go.Proofs.YtjljhnandbbldaaGreatDoor
open Go Go.Crisp
theorem Xs {x q w:Int}(A:0<w)(h1:q*w≤x)(F:x<q*w+w):x/w=q:=by
 have a:=(wN A).2 h1;have b:=(uk A).2 (show x<(q+1)*w by rw[iZ];omega);omega
theorem Up {d:dn}(W:d.Wf){i j x y:Int}(h1:ut (aL d i) x y)(L:ut (aL d j) x y):i=j:=by
 have F:=W.w;have A:=W.h;unfold fP at F A;have key:∀k,ut (aL d k) x y→x/d.w=k%dB d∧y/d.h=k/dB d:=λk ⟨a,b,c,e⟩=>by
  have a:jM d k≤x:=a;have b:x<jM d k+tz d k:=b;have c:jT d k≤y:=c;have e:y<jT d k+uZ d k:=e;unfold tz at b;unfold uZ at e;unfold jM at a b;unfold jT at c e;exact⟨Xs ae a ae,Xs ae c ae⟩
 obtain⟨a1,a2⟩:=key i h1;obtain⟨U,I⟩:=key j L;have G:=SZ i (dB d);have H:=SZ j (dB d);rw[←G,←H,←a1,←a2,←U,←I]
theorem R6 {c X y x1 w1 p:Int}(hc:0<c)(A:0<X)(h0:0≤x1)(h1:x1+w1≤X):((y*X+x1)*c≤p∧p<(y*X+x1)*c+w1*c)↔(p/c/X=y∧x1≤p/c%X∧p/c%X<x1+w1):=by
 rw[←iZ,←wN hc,←uk hc];generalize p/c=m;have e:=SZ m X;have r0:=kA m (show X≠0 by omega);have r1:=iJ m A;constructor
 ·rintro⟨a,b⟩;have q:=Xs A (q:=y) (x:=m) ae ae;rw[q,fM]at e;exact⟨q,ae,ae⟩
 ·rintro⟨q,a,b⟩;rw[q,fM]at e;exact⟨ae,ae⟩
theorem CH {a b:Acc}(h:a.who=b.who):jK a b=false:=by unfold jK;simp[h]
theorem Ga {a b:Acc}(h:uu a.when_ b.when_=true):jK a b=false:=by unfold jK;simp[h]
theorem wG {a b:Acc}(h:a.buf≠b.buf):jK a b=false:=by unfold jK GB;simp[h]
theorem zc3 {a b:Acc}(h:a.wr=false)(h':b.wr=false):jK a b=false:=by unfold jK;simp[h,h']
theorem zbb {a b:Acc}(h:¬max a.lo b.lo<min a.hi b.hi):jK a b=false:=by unfold jK GB;simp[h]
theorem Ve (K j:Nat):(iV (K+1) 0).getD j 0=if j=0 then 1 else 0:=by
 unfold iV;by_cases h:j<K+1
 ·rw[GH (by simpa using h),dX,ur]
 ·rw[GI (by simpa using h),aq ae]
theorem Ro {C:C21}{K k:Nat}{P:bH}{a:Acc}{b n:Int}(H:Wg C K P k a):uu (EM K b n).when_ a.when_=true:=by
 refine We (n:=K+1) (by show(iV (K+1) 0).length=_;simp[iV]) H.len (λj=>?_) (j:=k+1) ?_
 ·show(iV (K+1) 0).getD j 0≤_;rw[Ve];have:=H.nn j;split
  ·rename_i h;subst h;exact H.w0
  ·exact this
 ·show(iV (K+1) 0).getD (k+1) 0<_;rw[Ve,aq ae];have:=H.wk;omega
theorem WK {l:List Acc}(h:l.Pairwise λa b=>jK a b=false):wH l l.length=[]:=by
 unfold wH;rw[List.flatMap_eq_nil_iff];intro j G;unfold pf;rw[Yq,Yp];intro m F;have G:=mE.1 G;have F:=mE.1 F;by_cases A:j<m
 ·have:=wL.1 h j m G F A;rw[IV l j G,IV l m F,this];simp
 ·simp[A]
theorem zda {C:C21}{K:Nat}{S D:Int}{P:bH}(W:C.d.Wf)(hc:0<C.m.c)(H:zQ C K S D P)(hx:∀k,k<K→∀x∈(P.ws k).tiles,0≤x∧x<bU C.d):wH P.acc P.acc.length=[]:=by
 refine WK ?_;obtain⟨ws,e,b1,b2,b3,b4⟩:=H.ac;have U:ws.Pairwise λa b=>jK a b=false:=by
  refine List.pairwise_of_forall_mem_list (λa F b hb=>?_);obtain⟨k,hk,A⟩:=b2 a F;obtain⟨j,hj,B⟩:=b2 b hb;by_cases e:k=j
  ·exact CH (by rw[A.who,B.who,e])
  rcases A.sh with⟨p1,p2⟩|p1|⟨p1,p2,x,aa,y,y0,y1,l1,l2⟩
  ·rcases B.sh with⟨G,I⟩|G|⟨G,I,_⟩
   ·exact zc3 p2 I
   ·exact wG ae
   ·exact wG ae
  ·rcases B.sh with⟨G,I⟩|G|⟨G,I,_⟩
   ·exact wG ae
   ·exact wG ae
   ·exact wG ae
  ·rcases B.sh with⟨G,I⟩|G|⟨G,I,L,ab,y',an,ad,ar,al⟩
   ·exact wG ae
   ·exact wG ae
   ·refine zbb λhm=>H.td k j hk hj e x aa ?_
    have i1:=hx k hk x aa;have i2:=hx j hj L ab;have w1:=gI W i1.1 i1.2;have w2:=gI W i2.1 i2.2;unfold eF at w1 w2;have bd:=dn.bd W;have X1:(aL C.d x).x+(aL C.d x).w≤C.d.X:=by show _≤((C.d.s.x.lines.length:Nat):Int);omega
    have X2:(aL C.d L).x+(aL C.d L).w≤C.d.X:=by show _≤((C.d.s.x.lines.length:Nat):Int);omega
    have r1:=(R6 (c:=C.m.c) (X:=C.d.X) (y:=y) (x1:=(aL C.d x).x) (w1:=(aL C.d x).w) (p:=max a.lo b.lo) hc ae ae X1).1 ⟨ae,ae⟩;have r2:=(R6 (c:=C.m.c) (X:=C.d.X) (y:=y') (x1:=(aL C.d L).x) (w1:=(aL C.d L).w) (p:=max a.lo b.lo) hc ae ae X2).1 ⟨ae,ae⟩;have:=Up W (i:=x) (j:=L) (x:=max a.lo b.lo/C.m.c%C.d.X) (y:=max a.lo b.lo/C.m.c/C.d.X) ⟨r1.2.1,r1.2.2,ae,ae⟩ ⟨r2.2.1,r2.2.2,ae,ae⟩;rw[this];exact ab
 have h0:∀a∈ws,jK (EM K 0 S) a=false∧jK (EM K 1 D) a=false:=λa F=>by
  obtain⟨k,hk,A⟩:=b2 a F;exact⟨Ga (Ro A),Ga (Ro A)⟩
 rw[b1];cases hr:P.ret with
 |false=>
  rw[b3 hr,fN];refine xV.2 ⟨λa F=>?_,xV.2 ⟨λa F=>(h0 a F).2,U⟩⟩;rcases fC.1 F with rfl|F
  ·exact CH rfl
  ·exact(h0 a F).1
 | true=>
  obtain⟨f,rfl,f1,f2,f3,f4⟩:=b4 hr;refine xV.2 ⟨λa F=>?_,xV.2 ⟨λa F=>?_,pN.2 ⟨U,List.pairwise_singleton _ _,λa F b hb=>?_⟩⟩⟩
  ·rcases fC.1 F with rfl|F
   ·exact CH rfl
   ·rcases cQ.1 F with h|h
    ·exact(h0 a h).1
    ·rw[dc.1 h];exact CH f1.symm
  ·rcases cQ.1 F with h|h
   ·exact(h0 a h).2
   ·rw[dc.1 h];exact CH f1.symm
  ·rw[dc.1 hb];exact Ga (f4 a F)
section
def AE (C:C21)(K:Nat)(ws:Nat→WD)(x y:Int):Prop:=∃k,k<K∧∃i∈(ws k).tiles,ut (aL C.d i) x y∧∀t yy e,(ws k).job=some (t,yy,e)→i=(ws k).tiles.getLast?.getD 0→y<yy
structure A5 (C:C21)(K:Nat)(P:bH):Prop where
 z1:∀p,0≤p→p<C.d.X*C.d.Y*C.m.c→(AE C K P.ws (p/C.m.c%C.d.X) (p/C.m.c/C.d.X)→P.acc.countP (fG 1 p)=2)∧(¬AE C K P.ws (p/C.m.c%C.d.X) (p/C.m.c/C.d.X)→P.acc.countP (fG 1 p)=1)
 ow:∀k,k<K→(P.ws k).tiles≠[]→(∃a∈P.acc,gS ((k:Int)+2) a=true)∨∃t,(P.ws k).job=some (t,t.y,lnF C.d.s.y t.y)
theorem A5.keep {C:C21}{K:Nat}{P Q:bH}(H:A5 C K P)(hd:∀x y,AE C K Q.ws x y↔AE C K P.ws x y)(hc:∀p,Q.acc.countP (fG 1 p)=P.acc.countP (fG 1 p))(A:∀k,k<K→(Q.ws k).tiles≠[]→(∃a∈Q.acc,gS ((k:Int)+2) a=true)∨∃t,(Q.ws k).job=some (t,t.y,lnF C.d.s.y t.y)):A5 C K Q:=
 ⟨λp h0 h1=>by rw[hd,hc];exact H.z1 p h0 h1,A⟩
theorem RW {d:gb}{y e:Int}:bR d y e=0↔d.t.y+d.t.h≤y:=by
 unfold bR;split
 ·simp[*]
 ·split<;>simp[*]
theorem Vo (l:List Int)(x:Int):(l++[x]).getLast?.getD 0=x:=by simp
section
variable {C:C21}{K N tk:Nat}{S D:Int}{P:bH}{n:Pic}
theorem Xy (H:A5 C K P):A5 C K (xR C K {P with picks:=P.picks+1}):=by
 unfold xR;split
 ·exact H.keep (λ_ _=>DZ) (λ_=>rfl) H.ow
 split
 ·exact H.keep (λ_ _=>DZ) (λ_=>rfl) H.ow
 ·refine H.keep (λ_ _=>DZ) (λp=>?_) λk G F=>(H.ow k G F).imp (λ⟨a,A,h⟩=>⟨a,xT _ A,h⟩) id
  show(P.acc++[_]).countP _=_;rw[vl,pQ,DY];rfl
theorem Xx (O:C.Ok) (I:gG C K N tk P n) (b2:zee C K P) (tp:∀y,0≤y→y<C.d.Y→lnF C.d.s.y y<lnE C.d.s.y y) {k:Nat} (hk:k<K) (hr:fQ C K P ((k:Int)+1)=true) (R:zQ C K S D P) (H:A5 C K P):A5 C K (gd C K {P with picks:=P.picks+1} k):=by
 have W:=I.ok;have b5:=W.sent;have Wk:=W.w k hk;have a7:evP C {P with picks:=P.picks+1} k=evP C P k:=rfl;have hc:0<C.m.c:=by have:=dx O.m.fits;omega
 have al:(gd C K {P with picks:=P.picks+1} k).ws=λi=>if i=k then(cg (some C.E) (C.jo (bC P.q)) (P.ws k) P.q).1 else P.ws i:=(He C K _ _).2.1
 have bk:∀j,j<K→∀x∈(P.ws j).tiles,0≤x∧x<bU C.d:=λj hj x hx=>by have:=(W.w j hj).tl x hx;omega
 have hY:C.d.Y=((C.d.s.y.lines.length:Nat):Int):=rfl;have hX:C.d.X=((C.d.s.x.lines.length:Nat):Int):=rfl;rcases Ya Wk hr with h1|h2|h3
 ·-- a tile is taken
  obtain⟨t1,t2,t3⟩:=RU Wk.st h1;have ew:=zaW (E:=C.E) (jo:=C.jo (bC P.q)) (q:=P.q) t2 t3;have aa:(gd C K {P with picks:=P.picks+1} k).acc=P.acc:=by unfold gd;rw[a7,aA h1];rfl
  have hq:=W.q _ (CG t3);have hx:0≤bC P.q∧bC P.q<bU C.d:=ae;have new:∀x∈(P.ws k).tiles,x<bC P.q:=λx hx=>(R.tn k hk).2 x hx _ (CG t3)
  have hw:=gI O.d hx.1 hx.2;unfold eF at hw;have a8:(P.ws k).job=none:=by
   rcases Wk.st with h|h
   ·omega
   ·exact h.2
  have L:cn (some C.E) (C.jo (bC P.q))=some (JD C.d (bC P.q)):=by
   refine aq λh=>?_
   have h:=RW.1 h;have h:(aL C.d (bC P.q)).y+(aL C.d (bC P.q)).h≤(aL C.d (bC P.q)).y:=h;omega
  rw[ew]at al;have wk:∀i,(gd C K {P with picks:=P.picks+1} k).ws i=if i=k then⟨stJ (some (JD C.d (bC P.q))),(P.ws k).tiles++[bC P.q],some (JD C.d (bC P.q)),Wq (some C.E) (C.jo (bC P.q)) (P.ws k).words⟩else P.ws i:=λi=>by
   rw[al];show(if i=k then xn (some C.E) (P.ws k) (bC P.q) (C.jo (bC P.q))else P.ws i)=_;unfold xn;rw[L]
  refine H.keep (λx y=>?_) (λp=>by rw[aa]) λi hi ht=>?_
  ·constructor
   ·rintro⟨j,hj,i,hi,F,A⟩;rw[wk]at hi A;by_cases e:j=k
    ·rw[aA e]at hi A;subst e;rcases cQ.1 hi with h|h
     ·exact⟨j,hj,i,h,F,λt yy e h'=>by rw[a8]at h';cases h'⟩
     ·have h:=dc.1 h;subst h;have:=A _ _ _ rfl (Vo _ _).symm;have this:y<(aL C.d (bC P.q)).y:=this;unfold ut at F;omega
    ·rw[aq e]at hi A;exact⟨j,hj,i,hi,F,A⟩
   ·rintro⟨j,hj,i,hi,F,A⟩;refine⟨j,hj,i,?_,F,?_⟩
    ·rw[wk];split
     ·rename_i e;subst e;exact xT _ hi
     ·exact hi
    ·rw[wk];split
     ·rename_i e;subst e;intro t yy G h' hl;have hl:i=((P.ws j).tiles++[bC P.q]).getLast?.getD 0:=hl;rw[Vo]at hl;have:=new i hi;omega
     ·exact A
  ·rw[wk]at ht ⊢;by_cases e:i=k
   ·rw[aA e];exact .inr ⟨_,rfl⟩
   ·rw[aq e]at ht ⊢;rw[aa];exact H.ow i hi ht
 ·-- a move
  obtain⟨t,y,e,hj,s1,ev,nk⟩:=Of Wk.st h2;have ew:=Yj (E:=C.E) (jo:=C.jo (bC P.q)) (q:=P.q) s1 hj;have ev:evP C P k=(2,(P.ws k).tiles.getLast?.getD 0,bR (C.E.d t) y e,gh (C.E.d t) y e):=ev;have b0:(P.ws k).tiles≠[]:=by
   rcases Wk.st with h|h
   ·exact h.2.2
   ·rw[h.2]at hj;cases hj
  obtain⟨j1,j2,j3,j4⟩:=b2 k hk t y e hj;obtain⟨jt,_⟩:=Wk.jb t y e hj;have ab:=Jy b0;have hx:=bk k hk _ ab;have hw:=gI O.d hx.1 hx.2;rw[←jt]at hw;unfold eF at hw;rw[ew]at al;have aa:(gd C K {P with picks:=P.picks+1} k).acc=(pE C (cB C {P with picks:=P.picks+1} k) k (evP C P k)).acc:=by unfold gd;rw[a7,aq ae,aA h2]
  have wk:∀i,((gd C K {P with picks:=P.picks+1} k).ws i).tiles=(P.ws i).tiles∧((gd C K {P with picks:=P.picks+1} k).ws i).job=if i=k then cn (some C.E) (some (t,dP (C.E.d t) y e,fm (C.E.d t) y e))else(P.ws i).job:=λi=>by
   rw[al];simp only;split
   ·rename_i h;subst h;exact⟨rfl,rfl⟩
   ·exact⟨rfl,rfl⟩
  by_cases hm:bR (C.E.d t) y e=1
  ·-- a source row
   have an:∃a b:Acc,(gd C K {P with picks:=P.picks+1} k).acc=P.acc++[a]++[b]∧(a.buf=0)∧b.buf=(k:Int)+2∧b.wr=true:=by
    rw[aa,ev];unfold pE;rw[aA hm];exact⟨_,_,rfl,rfl,rfl,rfl⟩
   obtain⟨a,b,au,ha,hb,b1⟩:=an;have sy:dP (C.E.d t) y e=y:=by unfold dP;rw[hm];rfl
   have L:cn (some C.E) (some (t,dP (C.E.d t) y e,fm (C.E.d t) y e))=some (t,y,fm (C.E.d t) y e):=by
    rw[sy];refine aq λh=>?_
    have h:=RW.1 h;have h:t.y+t.h≤y:=h;omega
   rw[L]at wk;refine H.keep (λx' y'=>?_) (λp=>?_) λi hi ht=>?_
   ·constructor
    ·rintro⟨j,U,i,hi,F,A⟩;rw[(wk j).1]at hi A;rw[(wk j).2]at A;refine⟨j,U,i,hi,F,?_⟩;by_cases G:j=k
     ·subst G;rw[aA rfl]at A;intro t' ar G h' hl;rw[hj]at h';cases h';exact A _ _ _ rfl hl
     ·rw[aq G]at A;exact A
    ·rintro⟨j,U,i,hi,F,A⟩;refine⟨j,U,i,by rw[(wk j).1];exact hi,F,?_⟩;rw[(wk j).1,(wk j).2];by_cases G:j=k
     ·subst G;rw[aA rfl];intro t' ar G h' hl;cases h';exact A _ _ _ hj hl
     ·rw[aq G];exact A
   ·rw[au,vl,vl,pQ,DY,pQ,DY];have h1:fG 1 p a=false:=by unfold fG gS;rw[ha];simp
    have h2:fG 1 p b=false:=by unfold fG gS;rw[hb,cE ae];simp
    rw[h1,h2];rfl
   ·rw[au];by_cases G:i=k
    ·subst G;exact .inl ⟨b,by simp,by unfold gS;rw[hb,b1];simp⟩
    ·rw[(wk i).1]at ht;rw[(wk i).2,aq G];exact(H.ow i hi ht).imp (λ⟨a',bc,h⟩=>⟨a',by simp[bc],h⟩) id
  ·-- a row of the output
   have km:bR (C.E.d t) y e=2:=by
    unfold bR at nk hm ⊢;split
    ·rename_i h;rw[aA h]at nk;exact absurd rfl nk
    ·rename_i h;rw[aq h]at hm;split
     ·rename_i h';rw[aA h']at hm;exact absurd rfl hm
     ·rfl
   have sj:gh (C.E.d t) y e=y:=by
    unfold bR at nk hm;unfold gh;by_cases q1:(C.E.d t).t.y+(C.E.d t).t.h≤y
    ·rw[aA q1]at nk;exact absurd rfl nk
    ·rw[aq q1]at hm ⊢;by_cases q2:e<lnE (C.E.d t).s.y y
     ·rw[aA q2]at hm;exact absurd rfl hm
     ·rw[aq q2]
   have sy:dP (C.E.d t) y e=y+1:=by unfold dP;rw[km];rfl
   have an:∃a b:Acc,(gd C K {P with picks:=P.picks+1} k).acc=P.acc++[a]++[b]∧a.wr=false∧b.wr=true∧b.buf=1∧b.lo=(y*C.d.X+t.x)*C.m.c∧b.hi=(y*C.d.X+t.x)*C.m.c+t.w*C.m.c:=by
    rw[aa,ev];unfold pE;rw[aq hm];simp only[sj];rw[←jt];exact⟨_,_,rfl,rfl,rfl,rfl,rfl,rfl⟩
   obtain⟨a,b,au,ha,bv,bo,bg,be⟩:=an;have b4:t.x+t.w≤C.d.X:=ae;have bd:∀p,fG 1 p b=true↔(p/C.m.c/C.d.X=y∧t.x≤p/C.m.c%C.d.X∧p/C.m.c%C.d.X<t.x+t.w):=λp=>by
    rw[←R6 hc ae ae b4];unfold fG gS;rw[bv,bo,bg,be];simp
   have L:∀t' yy G,cn (some C.E) (some (t,dP (C.E.d t) y e,fm (C.E.d t) y e))=some (t',yy,G)→yy=y+1:=λt' yy G h=>by
    rw[sy]at h;rcases DQ (some C.E) (some (t,y+1,fm (C.E.d t) y e))with⟨_,_,h3⟩|h3
    ·rw[h3]at h;cases h;rfl
    ·rw[h3]at h;cases h
   have a9:cn (some C.E) (some (t,dP (C.E.d t) y e,fm (C.E.d t) y e))=none→t.y+t.h≤y+1:=λh=>by
    rw[sy]at h;by_cases h0:bR (C.E.d t) (y+1) (fm (C.E.d t) y e)=0
    ·exact RW.1 h0
    ·have:cn (some C.E) (some (t,y+1,fm (C.E.d t) y e))=some (t,y+1,fm (C.E.d t) y e):=aq h0;rw[this]at h;cases h
   have inl:∀{x' y'},y'=y→t.x≤x'→x'<t.x+t.w→ut (aL C.d ((P.ws k).tiles.getLast?.getD 0)) x' y':=λh1 h2 h3=>by
    rw[←jt];exact⟨h2,h3,ae,ae⟩
   have hd:∀x' y',AE C K (gd C K {P with picks:=P.picks+1} k).ws x' y'↔(AE C K P.ws x' y'∨(y'=y∧t.x≤x'∧x'<t.x+t.w)):=λx' y'=>by
    constructor
    ·rintro⟨j,U,i,hi,F,A⟩;rw[(wk j).1]at hi A;rw[(wk j).2]at A;by_cases G:j=k
     ·subst G;rw[aA rfl]at A;by_cases ad:i=(P.ws j).tiles.getLast?.getD 0
      ·have hy:y'<y+1:=by
        cases hs:cn (some C.E) (some (t,dP (C.E.d t) y e,fm (C.E.d t) y e))with
        |none=>
         have:=a9 hs;rw[ad,←jt]at F;unfold ut at F;omega
        |some z=>
         obtain⟨t',yy,G⟩:=z;have:=L _ _ _ hs;have:=A _ _ _ hs ad;omega
       by_cases b3:y'=y
       ·right;rw[ad,←jt]at F;exact⟨b3,F.1,F.2.1⟩
       ·left;exact⟨j,U,i,hi,F,λt' ar G h' _=>by rw[hj]at h';cases h';omega⟩
      ·left;exact⟨j,U,i,hi,F,λt' ar G h' hl=>absurd hl ad⟩
     ·rw[aq G]at A;exact .inl ⟨j,U,i,hi,F,A⟩
    ·rintro(⟨j,U,i,hi,F,A⟩|⟨h1,h2,h3⟩)
     ·refine⟨j,U,i,by rw[(wk j).1];exact hi,F,?_⟩;rw[(wk j).1,(wk j).2];by_cases G:j=k
      ·subst G;rw[aA rfl];intro t' ar G h' hl;have:=L _ _ _ h';have:=A _ _ _ hj hl;omega
      ·rw[aq G];exact A
     ·refine⟨k,hk,_,by rw[(wk k).1];exact ab,inl h1 h2 h3,?_⟩;rw[(wk k).1,(wk k).2,aA rfl];intro t' ar G h' hl;have:=L _ _ _ h';omega
   have ay:∀x' y',AE C K P.ws x' y'→¬(y'=y∧t.x≤x'∧x'<t.x+t.w):=λx' y' ⟨j,U,i,hi,F,A⟩ ⟨h1,h2,h3⟩=>by
    have ad:=Up O.d F (inl h1 h2 h3);by_cases G:j=k
    ·subst G;have:=A _ _ _ hj ad;omega
    ·exact R.td k j hk U ae _ ab (by rw[←ad];exact hi)
   have ax:∀p,(gd C K {P with picks:=P.picks+1} k).acc.countP (fG 1 p)=P.acc.countP (fG 1 p)+if fG 1 p b=true then 1 else 0:=λp=>by
    rw[au,vl,vl,pQ,DY,pQ,DY];have h1:fG 1 p a=false:=by unfold fG gS;rw[ha];simp
    rw[h1];simp
   refine⟨λp h0 h1=>?_,λi hi ht=>?_⟩
   ·rw[hd,ax];obtain⟨z1,z2⟩:=H.z1 p h0 h1;have hh:=bd p;have hb:=ay (p/C.m.c%C.d.X) (p/C.m.c/C.d.X);by_cases hp:fG 1 p b=true
    ·rw[aA hp];have hq:=hh.1 hp;have hn:¬AE C K P.ws (p/C.m.c%C.d.X) (p/C.m.c/C.d.X):=λh=>hb h hq
     exact⟨λ_=>by rw[z2 hn],λh=>absurd (.inr hq) h⟩
    ·rw[aq hp];have hq:=λh=>hp (hh.2 h)
     exact⟨λh=>z1 (h.elim id λh=>absurd h hq),λh=>z2 λh'=>h (.inl h')⟩
   ·rw[(wk i).1]at ht;rw[au];rcases H.ow i hi ht with⟨a',bc,h⟩|⟨t',h⟩
    ·exact .inl ⟨a',by simp[bc],h⟩
    ·by_cases G:i=k
     ·subst G;rw[hj]at h;cases h;have:=tp t.y ae ae;refine absurd ?_ hm;unfold bR;rw[aq (by show¬t.y+t.h≤t.y;omega),aA this]
     ·rw[(wk i).2,aq G];exact .inr ⟨t',h⟩
 ·-- a worker leaves
  obtain⟨ew,hq⟩:=zbw Wk.st h3;have aa:(gd C K {P with picks:=P.picks+1} k).acc=P.acc:=by unfold gd;rw[a7,aq ae,aq ae,aA h3];rfl
  rw[ew]at al;have wk:∀i,((gd C K {P with picks:=P.picks+1} k).ws i).tiles=(P.ws i).tiles∧((gd C K {P with picks:=P.picks+1} k).ws i).job=(P.ws i).job:=λi=>by
   rw[al];simp only;split
   ·rename_i h;subst h;exact⟨rfl,rfl⟩
   ·exact⟨rfl,rfl⟩
  refine H.keep (λx y=>?_) (λp=>by rw[aa]) λi hi ht=>?_
  ·unfold AE;simp only[(wk _).1,(wk _).2]
  ·rw[(wk i).1]at ht;rw[(wk i).2,aa];exact H.ow i hi ht
end
end
end Go.Proofs.YtjljhnandbbldaaGreatDoor
namespace Go.Proofs.YtjljhnandbbldaaGreatDoor
open Go Go.Crisp
attribute [local irreducible] ag du bh stK aE vK qK bO gK fR bA mkK dy GQ IQ DT bsK clK pG pH Q9
open _root_.Go.Proofs.Tryz
theorem zeF {h:ah}(G:eW h){cs os:List Value}{a:uv}{o:OpD}{Z1 Z2 Z3:Nat→Prop}(H:pg.R Z1 h cs a)(WA:a.Wf)(HO:rOp.R Z2 h os o)(WO:FR [o]){tw th wk room:Int}(h1:B8 tw)(h2:B8 th)(h3:B8 wk)(h4:B8 room){dv:Value}{l:List Int}(HD:Rp.Sl (Rp.int .u8) Z3 h dv l){M:Nat}{F:Value→Value→Value→ah→Prop}
    (HF:∀L h9 A C Z K N bw bp ow n P Zd V bv,Ext h L→l.length≤M→Bgn L a o tw th wk room C Z K N bw bp ow n P Zd V h9→Ext h9 A→h9.size≤bv→A[bv]? =some (.cells (dpC C P V).toArray 48 (0,0))→F (ptr C.bf) (ptr bp) (ptr bv) A):
 bh (Value.cells (.agg cs.toArray)) 25 h λv1 h2=>
 bh (Value.cells (.agg os.toArray)) 31 h2 λv3 h4=>
 ag prog kN #[] h4 λv5 L=>
 vK (unV .not v5) λv7=>
 vK (gV v7 false (some dv)) λv8=>
 vK (gV v7 false (aC v8)) λv9=>
 vK (gV v7 false (ak .i .gtr v9 (af (M:Int)))) λcc=>
 vK (aF v7 (.bool true) cc) λbk=>
 aE bk (
 ag prog kN #[] L λay a7=>
  (ay=.bool true∧Ext h a7)) (
 vK (aR 5 L v1) λb7=>
 vK (aR 9 L v3) λbo=>
 ag prog sI #[b7,bo,.int .u8 tw,.int .u8 th,.int .u8 wk,.int .u8 room] L λaa ax=>
 vK (aP aa 0) λb8=>
 vK (aP aa 1) λbg=>
 vK (aP aa 2) λca=>
 vK (aP aa 3) λbe=>
 bh aK 48 ax λan b0=>
 stK 20 an ca b0 λcp W=>
 vK (unV .not be) λbc=>
 aE bc (
 vK (aR 5 W v1) λbd=>
 vK (aR 9 W v3) λa8=>
 ag prog yq #[bd,a8] W λb2 b6=>
 vK (unV .not b2) λa9=>
 (a9=.bool true∧Ext h b6)) (F b8 bg an W)):=by
  simp only[bT];refine aJ λb1 g1 r1 e1 n1=>aJ λb3 g3 r3 e3 n3=>?_
  have E3:=e1.trans e3;have lc:=pg.len H;have lo:=rOp.len HO;refine ag.to (Pi (G.ext E3)) λL e6=>?_
  have U:=E3.trans e6;obtain⟨av,cv,ev⟩:=HD.isSl;have b4:aC dv=some (af (l.length:Int)):=by rw[ev];rfl
  simp only[go_sem,b4];refine ao (λg=>?_) (λg=>?_)
  · refine ag.to (Pi (G.ext U)) λh7 e7=>?_
    exact⟨rfl,U.trans e7⟩
  rw[aW ((e3.trans e6).row r1) 5 lc,aj,aW (e6.row r3) 9 lo,aj];have x0:∀a b c d:Value,aP (.tuple #[a,b,c,d]) 0=some a:=λ_ _ _ _=>rfl
  have x1:∀a b c d:Value,aP (.tuple #[a,b,c,d]) 1=some b:=λ_ _ _ _=>rfl
  have x2:∀a b c d:Value,aP (.tuple #[a,b,c,d]) 2=some c:=λ_ _ _ _=>rfl
  have x3:∀a b c d:Value,aP (.tuple #[a,b,c,d]) 3=some d:=λ_ _ _ _=>rfl
  have nt:unV .not (.bool true)=some (.bool false):=rfl;have nf:unV .not (.bool false)=some (.bool true):=rfl;refine(zaC (G.ext U) (pg.ext H U) WA (rOp.ext HO U) WO h1 h2 h3 h4).mono λr h9 hB=>?_
  rcases hB with⟨hn,e9,bf,u,er,lu,ou⟩|⟨C,Z,K,N,bw,bp,ow,n,P,Zd,V,er,B⟩
  · subst er
    rw[x0,aj,x1,aj,x2,aj,x3,aj];refine aJ λbv b5 al ad n10=>?_
    refine da al lu ou lu λA ar ab=>?_
    have I:Ext L A:=(e9.trans ad).upd (by have:=e9.1;omega) ab;rw[nf,aj,iC];rw[aW (I.row ((e3.trans e6).row r1)) 5 lc,aj,aW (I.row (e6.row r3)) 9 lo,aj];refine(zdQ (G.ext (U.trans I)) (pg.ext H (U.trans I)) WA (rOp.ext HO (U.trans I)) WO).mono λr ci ⟨er,cb⟩=>?_
    rw[er hn,nf,aj];exact⟨rfl,U.trans (I.trans cb)⟩
  subst er;rw[x0,aj,x1,aj,x2,aj,x3,aj];refine aJ λbv b5 al ad n10=>?_
  refine da al (by rfl) B.d.ones (by rfl) λA ar ab=>?_
  have au:Ext h9 A:=ad.upd n10 ab;rw[nt,aj,cA];exact HF L h9 A C Z K N bw bp ow n P Zd V bv U ae B au n10 ar
end Go.Proofs.YtjljhnandbbldaaGreatDoor
namespace Go.Proofs.YtjljhnandbbldaaGreatDoor
open Go Go.Crisp
attribute [local irreducible] ag du bh stK aE vK qK bO gK fR bA mkK dy GQ IQ DT bsK clK pG pH Q9
theorem Zz (E:Option WE)(jo:Option (cP×Int×Int))(w:WD)(d:QD):(cg E jo w d).2.1.l.length+(cg E jo w d).1.tiles.length=d.l.length+w.tiles.length∧(cg E jo w d).2.1.room=d.room∧(cg E jo w d).2.1.l.length≤d.l.length:=by
 unfold cg;split
 ·split
  ·exact⟨rfl,rfl,cf _⟩
  ·exact⟨rfl,rfl,cf _⟩
 split
 ·exact⟨rfl,rfl,cf _⟩
 split
 ·rename_i h;have A:d.l≠[]:=λe=>by unfold cV at h;rw[aA e]at h;split at h<;>cases h
  have F:=vw.2 A;refine⟨?_,rfl,?_⟩
  ·show d.l.tail.length+(w.tiles++[bC d]).length=_;rw[List.length_tail,co,Jl];omega
  ·show d.l.tail.length≤_;rw[List.length_tail];omega
 ·rename_i h;have A:d.l=[]:=by
   cases e:d.l with
   |nil=>rfl
   |cons x l=>exact absurd (by unfold cV;rw[aq (by rw[e];simp)]) h
  split
  ·refine⟨?_,rfl,?_⟩
   ·show d.l.tail.length+w.tiles.length=_;rw[A];rfl
   ·show d.l.tail.length≤_;rw[A];exact cf _
  ·refine⟨?_,rfl,?_⟩
   ·show d.l.tail.length+w.tiles.length=_;rw[A];rfl
   ·show d.l.tail.length≤_;rw[A];exact cf _
def Zk (K:Nat)(P:bH):Prop:=rk K (λk=>(P.ws k).tiles.length)+P.q.l.length=P.sent.toNat∧(P.q.l.length:Int)≤P.q.room
theorem Zu {C:C21}{K N tk:Nat}{P:bH}{n:Pic}{i:Int}(I:gG C K N tk P n)(A:fQ C K P i=true)(H:Zk K P):Zk K (ic C K P i)∧(ic C K P i).q.room=P.q.room∧(ic C K P i).sent=(if i=0∧P.sent<bU C.d then P.sent+1 else P.sent):=by
 have hs:=I.ok.sent;unfold ic;rw[A,aq (by decide)];by_cases hi:i=0
 ·subst hi;rw[aA rfl];unfold xR;by_cases h1:P.sent<bU C.d
  ·rw[aA h1,aA ⟨rfl,h1⟩];have hc:P.q.closed=false:=by
    cases e:P.q.closed with
    |false=>rfl
    |true=>have:=I.ok.cl e;omega
   have hq:qU P.q≠1:=by
    unfold fQ at A;rw[aq ae,aq ae]at A;split at A
    ·cases A
    ·simpa[h1]using A
   have F:¬P.q.room≤P.q.l.length:=λh=>hq (by unfold qU;rw[hc];simp[h])
   have e:(jJ P.q P.sent).l=P.q.l++[P.sent]∧(jJ P.q P.sent).room=P.q.room:=by
    unfold jJ;rw[hc];simp[F]
   refine⟨⟨?_,?_⟩,e.2,rfl⟩
   ·show rk K (λk=>(P.ws k).tiles.length)+(jJ P.q P.sent).l.length=(P.sent+1).toNat;rw[e.1,co,Jl];have:=H.1;omega
   ·show((jJ P.q P.sent).l.length:Int)≤(jJ P.q P.sent).room;rw[e.1,e.2,co,Jl];omega
  ·rw[aq h1,aq (show¬((0:Int)=0∧P.sent<bU C.d)from λh=>h1 h.2)];split
   ·exact⟨H,rfl,rfl⟩
   ·exact⟨H,rfl,rfl⟩
 ·rw[aq hi,aq ae];obtain⟨f1,f2,f3,f4,f5,f6,f7⟩:=He C K {P with picks:=P.picks+1} (i-1).toNat;generalize gd C K {P with picks:=P.picks+1} (i-1).toNat=Q at*;have f4:Q.sent=P.sent:=f4;have f1:Q.q=(cg (some C.E) (C.jo (bC P.q)) (P.ws (i-1).toNat) P.q).2.1:=f1;have f2:Q.ws=λj=>if j=(i-1).toNat then(cg (some C.E) (C.jo (bC P.q)) (P.ws (i-1).toNat) P.q).1 else P.ws j:=f2
  have L:(i-1).toNat<K:=by
   unfold fQ at A;split at A
   ·cases A
   ·omega
  obtain⟨w1,U,w3⟩:=Zz (some C.E) (C.jo (bC P.q)) (P.ws (i-1).toNat) P.q;have G:=Uw (f:=λj=>(P.ws j).tiles.length) (g:=λj=>(Q.ws j).tiles.length) (k:=(i-1).toNat) (λj W=>by rw[f2];simp only[aq W]) K L;have e2:(Q.ws (i-1).toNat).tiles.length=(cg (some C.E) (C.jo (bC P.q)) (P.ws (i-1).toNat) P.q).1.tiles.length:=by rw[f2];simp
  simp only[e2]at G;obtain⟨H1,H2⟩:=H;refine⟨⟨?_,?_⟩,by rw[f1,U],f4⟩
  ·rw[f4,f1];omega
  ·rw[f1,U];omega
theorem zaT {C:C21}{K N tk:Nat}{P:bH}{n:Pic}(I:gG C K N tk P n)(W:1≤K)(H:Zk K P)(L:P.ret=true):P.sent=bU C.d∧rk K (λk=>(P.ws k).tiles.length)=N:=by
 obtain⟨h1,h2⟩:=I.rt L;have U:=I.ok.cl h1;have F:=I.cnt;have A:=Dc (K:=K) (ws:=P.ws) ae;have hq:=(I.gone 0 ae (A 0 ae)).1;have hn:=I.nn;have G:=H.1;rw[hq]at G;simp only[kS]at G;omega
end Go.Proofs.YtjljhnandbbldaaGreatDoor
namespace Go.Proofs.YtjljhnandbbldaaGreatDoor
open Go Go.Crisp
section
def zcH (C:C21)(K:Nat)(S:Int)(P:bH):Prop:=zQ C K S (C.d.X*C.d.Y*C.m.c) P∧A5 C K P∧zaQ K P∧Zk K P
theorem zD (K i j:Nat):(iV (K+1) i).getD j 0=if j<K+1∧j=i then 1 else 0:=by
 unfold iV;by_cases h:j<K+1
 ·rw[GH (by simpa using h),dX,ur];simp[h]
 ·rw[GI (by simpa using h),aq ae]
theorem ZK {C:C21}{K:Nat}{room S:Int}:zcH C K S (CJ K room S (C.d.X*C.d.Y*C.m.c)):=by
 refine⟨⟨?_,λk A=>?_,λk A=>?_,λk A h=>absurd rfl h,λs H=>(uh H).elim,?_,λk A h=>?_,⟨[],[],rfl,λa G=>(uh G).elim,λ_=>rfl,λh=>?_⟩,λk A=>⟨List.nodup_nil,λx F=>(uh F).elim⟩,λk k' _ _ _ x F=>(uh F).elim⟩,⟨λp h0 h1=>⟨λh=>?_,λ_=>?_⟩,λk A h=>absurd rfl h⟩,zbq (C:=C),?_,?_⟩
 ·show 1≤(iV (K+1) 0).getD 0 0;rw[zD,aA ae];omega
 ·show(iV (K+1) (k+1)).getD 0 0<(iV (K+1) 0).getD 0 0;rw[zD,zD,aq ae,aA ae];omega
 ·show 1≤(iV (K+1) (k+1)).getD (k+1) 0;rw[zD,aA ae];omega
 ·show(0:Int)<(iV (K+1) 0).getD 0 0;rw[zD,aA ae];omega
 ·have h:(0:Int)=2:=h;omega
 ·cases(show false=true from h)
 ·obtain⟨k,_,i,hi,_⟩:=h;exact(uh hi).elim
 ·show List.countP (fG 1 p) [⟨((0:Nat):Int),iV (K+1) 0,0,0,0+S,true⟩,⟨((0:Nat):Int),iV (K+1) 0,1,0,0+C.d.X*C.d.Y*C.m.c,true⟩]=1;have h1:p<0+C.d.X*C.d.Y*C.m.c:=ae;simp[pQ,fG,gS,h0,h1];omega
 ·show rk K (λ_=>0)+0=0;rw[Hk]
 ·show(0:Int)≤min (max 1 room) 4096;omega
theorem Zt {C:C21}{K N:Nat}{S:Int}{P P':bH}(O:C.Ok)(tp:∀y,0≤y→y<C.d.Y→lnF C.d.s.y y<lnE C.d.s.y y)(few:2*N+K+2+jx C N 0≤1000000)(H:zaP C K N P P')(h0:zcH C K S P):zcH C K S P':=by
 induction H with
 |refl=>exact h0
 | pick a I A W ih=>
  rename_i P1 n tk i;obtain⟨R,c,U,wt⟩:=ih;have L:P1.picks≤1000000:=by have:=I.rem;omega
  have G:=(Zu I A wt).1;have F:=zbr I L U i;by_cases h0:i=0
  ·subst h0;have e:ic C K P1 0=xR C K {P1 with picks:=P1.picks+1}:=by
    unfold ic;rw[A,aq (by simp),aA rfl]
   refine⟨ZM I L U A R,?_,F,G⟩;rw[e];exact Xy c
  ·obtain⟨k,rfl,hk⟩:∃k:Nat,i=(k:Int)+1∧k<K:=by
    have h:=A;unfold fQ at h;split at h
    ·cases h
    ·exact⟨(i-1).toNat,ae,ae⟩
   have e:ic C K P1 ((k:Int)+1)=gd C K {P1 with picks:=P1.picks+1} k:=by
    unfold ic;rw[A,aq (by simp),aq ae,show((k:Int)+1-1).toNat=k by omega]
   refine⟨ZL I L U W hk A R,?_,F,G⟩;rw[e];exact Xx O I W tp hk A R c
section
variable {C:C21}{K N tk:Nat}{S:Int}{P:bH}{n:Pic}
theorem Xn (R:zQ C K S (C.d.X*C.d.Y*C.m.c) P):(∀p,0≤p→p<S→P.acc.countP (fG 0 p)=1)∧(∀j,(∃a∈P.acc,gS 0 a=true∧a.who=j)↔j=0)∧∀k,k<K→∀a∈P.acc,gS ((k:Int)+2) a=true→a.who=(k:Int)+1∧(P.ws k).tiles≠[]:=by
 obtain⟨ws,e,H,I,b3,b4⟩:=R.ac;have U:∀a∈ws,gS 0 a=false:=λa F=>by
  obtain⟨k,hk,A⟩:=I a F;unfold gS;rcases A.sh with⟨_,h⟩|h|⟨h,_⟩
  ·rw[h];rfl
  ·rw[cE ae];simp
  ·rw[cE ae];simp
 have W:∀a∈e,a.wr=false:=λa F=>by
  cases L:P.ret with
  |false=>rw[b3 L]at F;cases F
  |true=>
   obtain⟨f,rfl,_,_,h,_⟩:=b4 L;rw[dc.1 F];exact h
 have G:∀b,∀a∈e,gS b a=false:=λb a F=>by unfold gS;rw[W a F];rfl
 refine⟨λp h0 h1=>?_,λj=>?_,λk hk a F h=>?_⟩
 ·rw[H,pQ,pQ];have z:(ws++e).countP (fG 0 p)=0:=by
   rw[YA];intro a F;unfold fG;rcases cQ.1 F with h|h
   ·rw[U a h];simp
   ·rw[G 0 a h];simp
  rw[z];have q:p<0+S:=ae;simp[EM,fG,gS,h0,q];omega
 ·constructor
  ·rintro⟨a,F,h,rfl⟩;rw[H]at F;rcases fC.1 F with rfl|F
   ·rfl
   ·rcases fC.1 F with rfl|F
    ·rfl
    ·rcases cQ.1 F with h'|h'
     ·rw[U a h']at h;cases h
     ·rw[G 0 a h']at h;cases h
  ·rintro rfl;exact⟨EM K 0 S,by rw[H];simp,by simp[EM,gS],rfl⟩
 ·rw [H]at F;rcases fC.1 F with rfl|F
  ·unfold gS EM at h;simp only[xZ,dd]at h;omega
  ·rcases fC.1 F with rfl|F
   ·unfold gS EM at h;simp only[xZ,dd]at h;omega
   ·rcases cQ.1 F with h'|h'
    ·obtain⟨k',aa,A⟩:=I a h';unfold gS at h;simp only[dj,dd]at h;have:k'=k:=by
      rcases A.sh with⟨q,_⟩|q|⟨q,_⟩<;>omega
     subst this;exact⟨A.who,A.tl⟩
    ·rw[G _ a h']at h;cases h
theorem zbX (O:C.Ok)(I:gG C K N tk P n)(hK:1≤K)(hr:P.ret=true)(c:A5 C K P)(su:C.suits n):(∀p,0≤p→p<C.d.X*C.d.Y*C.m.c→P.acc.countP (fG 1 p)=2)∧(∀i:Nat,i<N→∃k,k<K∧(i:Int)∈(P.ws k).tiles)∧(∀k,k<K→(P.ws k).job=none):=by
 obtain⟨h1,h2⟩:=I.rt hr;have W:=I.cnt;have G:=Dc (K:=K) (ws:=P.ws) ae;have hn:=I.nn;have F:∀k,k<K→(P.ws k).job=none:=λk H=>by
  rcases(I.ok.w k H).st with h|h
  ·have:=G k H;omega
  ·exact h.2
 have aa:=(TT O I su hK hr).2.2;have A:∀i:Nat,i<N→∃k,k<K∧(i:Int)∈(P.ws k).tiles:=λi hi=>I.cov i ae
 refine⟨λp h0 h1=>(c.z1 p h0 h1).1 ?_,A,F⟩;have bc:=dx O.m.fits;have hc:0<C.m.c:=ae;have bd:=dn.bd O.d;have m0:0≤p/C.m.c:=vj h0 ae;have m1:p/C.m.c<C.d.X*C.d.Y:=(uk hc).2 h1;have U:0<C.d.X:=by
  by_cases h:C.d.X=0
  ·rw[h,Th]at m1;omega
  ·omega
 have y0:0≤p/C.m.c/C.d.X:=vj m0 ae;have y1:p/C.m.c/C.d.X<C.d.Y:=(uk U).2 (by rw[fM];exact m1);obtain⟨i,hi,L⟩:=MH O.d (kA (p/C.m.c) ae) (iJ (p/C.m.c) U) y0 y1;obtain⟨k,H,hm⟩:=A i ae;exact⟨k,H,i,hm,L,λt yy e h=>by rw[F k H]at h;cases h⟩
end
end
end Go.Proofs.YtjljhnandbbldaaGreatDoor
namespace Go.Proofs.YtjljhnandbbldaaGreatDoor
open Go Go.Crisp
attribute [local irreducible] ag du bh stK aE vK qK bO gK fR bA mkK dy GQ IQ DT bsK clK pG pH Q9
open _root_.Go.Proofs.Tryz
theorem zfb {h:ah}{a b:Value}{A lb:List Int}(F:kh h a A)(G:kh h b lb)(H:A.length≤1000000)(e:A=lb):
  ag prog AV #[a,b] h λv h'=>v=.bool true∧h'=h:=by
 apply Qs;unfold Fw;refine ag.at (XA F G ae) ?_;rw[cL e];exact⟨rfl,rfl⟩
theorem UZ {ss:List Int}{x:Int}(F:ss.Pairwise λa b=>a<b)(h:∀k,k∈ss↔k=x):ss=[x]:=by
 cases ss with
 |nil=>have:=(h x).2 rfl;cases this
 | cons a l=>
  have A:a=x:=(h a).1 (by simp);subst A;cases l with
  |nil=>rfl
  |cons b m=>
   have G:b=a:=(h b).1 (by simp);have:=(xV.1 F).1 b (by simp);omega
def nj (P:bH)(a:Nat):List Int:=(List.range a).flatMap λk=>(P.ws k).tiles
theorem zZ (P:bH)(a:Nat):nj P (a+1)=nj P a++(P.ws a).tiles:=by
 unfold nj;rw[mA,Yo,List.flatMap_cons,List.flatMap_nil,fN]
theorem BM {P:bH}{a:Nat}{x:Int}:x∈nj P a↔ ∃k,k<a∧x∈(P.ws k).tiles:=by
 unfold nj;rw[List.mem_flatMap];constructor
 ·rintro⟨k,A,h⟩;exact⟨k,mE.1 A,h⟩
 ·rintro⟨k,A,h⟩;exact⟨k,mE.2 A,h⟩
theorem Un (P:bH)(a:Nat):(nj P a).length=rk a λk=>(P.ws k).tiles.length:=by
 induction a with
 |zero=>rfl
 |succ a A=>rw[zZ,co,A,rj]
def Ad (l:List Int):List (Int×Value):=l.map λx=>(x,Value.int .i64 1)
theorem ZQ {l:List Int}{x:Int}(h:x∉l):ga x (Ad l)=none:=by
 rw[oG];unfold Ad;rw[yg];intro h';obtain⟨y,A,rfl⟩:=fO.1 h';exact h A
theorem ZP {l:List Int}{x:Int}(A:l.Nodup)(h:x∈l):ga x (Ad l)=some (af 1):=by
 refine C7 ?_ (fO.2 ⟨x,h,rfl⟩);unfold Ad;rw[yg];have:(Prod.fst∘λx:Int=>(x,af 1))=id:=rfl;rw[this,List.map_id];exact A
theorem Vi {o:OpD}{w h:Int}(hc:fF o w h=0):∀x∈(cz o w h).y.lines,1≤x.2.length:=by
 have A:jd o w h=0:=by
  unfold fF at hc;split at hc
  ·cases hc
  ·exact hc
 show∀x∈(fU o h).lines,_;unfold jd at A;by_cases I:o.kind=3
 ·rw[aA I]at A;have e:fU o h=gn o.filter h o.hh:=by unfold fU;rw[aA I]
  by_cases h1:dH o.filter w o.w=0
  ·rw[aq (by simpa using h1)]at A;have G:¬(¬(0≤o.filter∧o.filter<3)∨¬bE h∨¬bE o.hh):=λhh=>by unfold dH at A;rw[aA hh]at A;cases A
   have L:=A;unfold dH at L;rw[aq G]at L;have F:0≤o.filter∧o.filter<3:=cq λh=>G (.inl h)
   have W:bE h:=cq λh=>G (.inr (.inl h))
   have U:bE o.hh:=cq λh=>G (.inr (.inr h))
   unfold bE at W U;rw[e];intro x hx;obtain⟨i,hi,rfl⟩:=fO.1 hx;have hi:=mE.1 hi;have h2:=sw L i ae;have H:wK o.filter h o.hh (i:Nat):=⟨F.1,F.2,W.1,W.2,U.1,U.2,ae,ae⟩
   show 1≤(cD (dw o.filter h o.hh (i:Nat))).length;rw[w7 h2];unfold dw;rw[aA H];unfold Ev;rw[cS,ft];have:=MK H;omega
  ·rw[aA h1]at A;exact absurd A h1
 ·rw[aq I]at A;have e:fU o h=lz (dm o) h:=by unfold fU;rw[aq I]
  have F:jh (dm o) h=0:=by
   split at A
   ·exact absurd A (by assumption)
   ·split at A
    ·exact absurd A (by assumption)
    ·exact A
  unfold jh at F;split at F
  ·cases F
  ·split at F
   ·cases F
   ·rename_i h1 h2;rw[e];intro x hx;obtain⟨i,hi,rfl⟩:=fO.1 hx;show 1≤(cD (dm o)).length;rw[w7 F];omega
theorem VZ {h:ah}(G:eW h){cs os:List Value}{a:uv}{o:OpD}{Z1 Z2 Z3:Nat→Prop}(H:pg.R Z1 h cs a)(WA:a.Wf)(HO:rOp.R Z2 h os o)(WO:FR [o]){tw th wk room:Int}(h1:B8 tw)(h2:B8 th)(h3:B8 wk)(h4:B8 room){dv:Value}{l:List Int}(HD:Rp.Sl (Rp.int .u8) Z3 h dv l)(h8:∀x∈l,B8 x)(hl:l.length≤1000000000000000):
  ag prog qC #[.agg cs.toArray,.agg os.toArray,.int .u8 tw,.int .u8 th,.int .u8 wk,.int .u8 room,dv] h λr h'=>r=.bool true∧Ext h h':=by
 apply Gv;unfold wB;refine zeF (M:=600) G H WA HO WO h1 h2 h3 h4 HD λh6 h9 e0 C Z K N bw bp ow n P Zd V bv E6 c9 B bk c7 fa=>?_
 obtain⟨cr,b7⟩:=B.lt;obtain⟨K1,K5,few⟩:=B.few h3;obtain⟨hN,N1,N2,hs⟩:=B.nn;have O:=B.O;have ff:Ext h6 e0:=B.ext.trans bk;have GO:=B.go.ext bk;have pn:ak .p .eql (ptr bp) (.pointer none)=some (.bool false):=rfl;have pl:ak .p .eql (.pointer (some ⟨bp,5,none⟩)) (.pointer none)=some (.bool false):=rfl;have nt:unV .not (.bool true)=some (.bool false):=rfl;have ne:∀x:Int,ak .i .neq (af x) (af x)=some (.bool false):=λx=>by rw[pW,cL rfl];rfl
 have bb:∀b:Bool,ak .b .neq (.bool b) (.bool b)=some (.bool false):=λb=>by cases b<;>rfl
 rw[pn,aj,jY,aj,jY,aj,tO];refine(zdS O (G.ext E6) GO ae B.ob (HD.ext E6) h8 c9).mono λr U ⟨er,o',n',F,eu,an,oo,f17,cw⟩=>?_
 subst er;rw[jY,nt,aj,kn,aj,cA];have dz:∀c,h9.size≤c→¬(ow c≠0∨eo (some C.E) c):=λc hc h=>h.elim (λh=>by have:=(cr c h).2;omega) λh=>by have:=(b7 c h).2;omega
 have b0:=f17.row fa (dz bv c7);have a9:=(B.d.ext bk).fr f17 λc _ hc h=>h.elim (λh=>h (B.zd c hc).2.2.1) (B.zd c hc).2.2.2
 have tp:∀y,0≤y→y<C.d.Y→lnF C.d.s.y y<lnE C.d.s.y y:=λy y0 y1=>by
  have hY:C.d.Y=((C.d.s.y.lines.length:Nat):Int):=rfl;have ht:∀x∈C.d.s.y.lines,1≤x.2.length:=by rw[B.cd];exact Vi B.ok.made
  obtain⟨i,rfl⟩:∃i:Nat,y=(i:Int):=⟨y.toNat,ae⟩
  have hi:i<C.d.s.y.lines.length:=ae;have h1:=ht _ (cG hi);rw[On hi]at h1;show(bG C.d.s.y i).1<(bG C.d.s.y i).1+((bG C.d.s.y i).2.length:Int);omega
 obtain⟨R,Cn,NP,wt⟩:=Zt O tp (S:=C.m.w*C.m.h*C.m.c) ae cw (by rw[B.p];exact ZK);obtain⟨al,tk,I⟩:=eu;obtain⟨V7,ax⟩:=al;have al:eV C Z K h6 bw bp o' n' F U:=⟨V7,ax⟩
 have fz:=dx O.m.fits;have hc:0<C.m.c:=ae;have ea:∀k,k<K→∀x∈(F.ws k).tiles,0≤x∧x<bU C.d:=λk hk x hx=>by have:=(I.ok.w k hk).tl x hx;have:=I.ok.sent;omega
 have races:=zda O.d hc R ea;obtain⟨w0,w1,w2⟩:=Xn R;obtain⟨d1,d2,d3⟩:=zbX O I K1 an Cn ax.sui;have fw:F.picks≤24000:=by have:=I.rem;have:=I.ok.pk;omega
 have bd:F.acc.length≤100000:=by have:=I.ok.ac;omega
 have dq:∀a∈F.acc,a.when_.length≤9223372036854775807:=λa ha=>by rw[NP.aw a ha];omega
 have cp:∀a∈F.acc,(Lit.int .i64 a.who).wf=true:=λa ha=>by
  obtain⟨ws,e,b1,b2,b3,b4⟩:=R.ac;obtain⟨f,rfl,f1,_⟩:=b4 an;have:0≤a.who∧a.who≤K:=by
   rw[b1]at ha;rcases fC.1 ha with rfl|ha
   ·exact⟨dT _,by show(0:Int)≤K;omega⟩
   rcases fC.1 ha with rfl|ha
   ·exact⟨dT _,by show(0:Int)≤K;omega⟩
   rcases cQ.1 ha with h|h
   ·obtain⟨k,hk,A⟩:=b2 a h;have:=A.who;omega
   ·rw[dc.1 h,f1];omega
  exact wf64 ae ae
 have au:∀j,j<K→(F.ws j).tiles.length≤1000000:=λj hj=>by have:=I.ok.tn j hj;omega
 have EF:∀{g},Ext U g→Ext h g:=λe=>((E6.trans ff).then_fr f17 λc hc=>by
  have fq:=E6.1;rcases hc with hc|hc
  ·have:=(cr c hc).1;omega
  ·have:=(b7 c hc).1;omega).trans e
 have f0:aB 0 (ptr bv)=some (ptr bv):=rfl;have f1:aB 1 (ptr bv)=some (.pointer (some ⟨bv,1,none⟩)):=rfl;have f6:aB 6 (ptr bv)=some (.pointer (some ⟨bv,6,none⟩)):=rfl;have cX:∀{g},Ext U g→ldV g (ptr bv)=some V.X:=λe=>by rw[mf];exact am (e.row b0)
 have cY:∀{g},Ext U g→aH g ⟨bv,1,none⟩=some V.Y:=λe=>am (e.row b0)
 have c6:∀{g},Ext U g→aH g ⟨bv,6,none⟩=some V.tv:=λe=>am (e.row b0)
 have eX:aC V.X=some (af C.d.X):=FV a9.x;have eY:aC V.Y=some (af C.d.Y):=FV a9.y;have eT:aC V.tv=some (af (N:Int)):=by rw[FV a9.t];simp[dJ]
 have bn:1≤C.d.X∧C.d.X≤65536∧1≤C.d.Y∧C.d.Y≤65536∧1≤C.m.c∧C.m.c≤3∧0≤C.d.X*C.d.Y∧C.d.X*C.d.Y≤4294967296∧0≤C.d.X*C.d.Y*C.m.c∧C.d.X*C.d.Y*C.m.c≤268435456:=dx (by rw[B.cm,B.cd];exact B.ok.fit);have up:∀(i:Nat),i≤1000000000→ak .i .add (af (i:Int)) aG=some (af ((i+1:Nat):Int)):=λi hi=>by
  show some (af (IntKind.i64.wrap _))=_;rw[w64 ae ae];rfl
 have mul:∀x y:Int, -9223372036854775808≤x*y→x*y≤9223372036854775807→ak .i .mul (af x) (af y)=some (af (x*y)):=λx y h1 h2=>by
  show some (af (IntKind.i64.wrap _))=_;rw[w64 ae ae]
 obtain⟨Zl,lc,sl,L⟩:=al.led;have wr:∀{g} (_:Ext U g) (b x:Int) (n:Nat),F.acc.countP (fG b x)=n→ag prog fH #[.pointer (some ⟨bp,5,none⟩),af b,af x] g λr h'=>r=af (n:Int)∧Ext g h':=λe b x n hn=>by
  rw[←hn];exact XL (L.ext e) b x bd
 refine ag.at (T6 al) ?_;rw[pl,aj,jY,aj,tO];refine(zcq L dq bd).mono λr gg ⟨OR,ca,_⟩=>?_
 rw[races]at OR;rw[jY,show aC r=some ai from FV OR.sl,aj,jY,ne,aj,kn,aj,jY,aj,tO];refine(Pn (L.ext ca) 0 bd cp).mono λr fv ⟨ss,c3,c8,fc,e7⟩=>?_
 have e6:ss=[0]:=UZ c8 λk=>(fc k).trans (w1 k)
 subst e6;rw[tO];refine di (c':=#[ai]) (by kernel_rfl) λe9 ez dl cc n20=>?_
 have es:kh ez (.slice (some ⟨e9,0,none⟩) 1 1) [0]:=OF (l:=[0]) dl;rw[tO];refine ag.at (zfb ((jE.ints c3).ext cc) es (by simp) rfl) ?_;have bc:=ca.trans (e7.trans cc);rw[jY,nt,aj,kn,aj,cA];refine ag.at (sA (ax.set.src.ext bc)) ?_;refine ag.at (pV (ax.set.src.ext bc)) ?_;rw[mul _ _ ae ae,aj];refine ag.at (eB (ax.set.src.ext bc)) ?_;rw[mul _ _ ae ae,aj];refine bK (α:=Unit) (C.m.w*C.m.h*C.m.c).toNat 0 (λi _=>[af (i:Int)]) (λi _ g=>Ext U g) () rfl (b9 _) bc λi _ g again ρ _ hi W a7=>?_
 simp only[iz];rw[cC,aj];refine ao (λq1=>?_) (λq1=>?_)
 ·refine(wr W 0 i 1 (w0 i ae q1)).mono λr g2 ⟨er,e2⟩=>?_
  subst er;rw[show ak .i .neq (af ((1:Nat):Int)) aG=some (.bool false)from ne 1,aj,cA,up i ae,aj];exact a7 () g2 ae (W.trans e2)
 refine aS (Ext g) (Ext.refl _) ?_;rw[f0,aj,f0,aj];refine aD V.X (λg' e=>cX (W.trans e)) ?_;refine aD (af C.d.X) (λ_ _=>eX) ?_;rw[aj,f1,aj];refine aD V.Y (λg' e=>by rw[mf];exact cY (W.trans e)) ?_;refine aD (af C.d.Y) (λ_ _=>eY) ?_;rw[mul _ _ ae ae,aj];refine ag.at (eB (ax.set.src.ext W)) ⟨Ext.refl _,?_⟩;rw[mul _ _ ae ae,aj];refine bK (α:=Unit) (C.d.X*C.d.Y*C.m.c).toNat 0 (λi _=>[af (i:Int)]) (λi _ g=>Ext U g) () rfl (b9 _) W λi _ g again ρ _ hi W a7=>?_
 simp only[iz];rw[cC,aj];refine ao (λq1=>?_) (λq1=>?_)
 ·refine(wr W 1 i 2 (d1 i ae q1)).mono λr g2 ⟨er,e2⟩=>?_
  subst er;rw[show ak .i .neq (af ((2:Nat):Int)) (af 2)=some (.bool false)from ne 2,aj,cA,up i ae,aj];exact a7 () g2 ae (W.trans e2)
 refine SV λbm fe b6 e1 n30=>?_
 have c4:=W.trans e1;have fs:=b6.lt;have eh:U.size≤bm:=by have:=W.1;omega
 have nd:∀a,a≤K→(nj F a).Nodup:=λa ha=>by
  induction a with
  |zero=>exact List.nodup_nil
  |succ a ih=>
   rw[zZ];refine Ta.2 ⟨ih ae,(R.tn a ae).1,λx hx y hy ew=>?_⟩;obtain⟨k,hk,h⟩:=BM.1 hx;subst ew;exact R.td k a ae ae ae x h hy
 refine bK (α:=Unit) (K+1) 1 (λi _=>[af (i:Int)]) (λi _ g=>Ext U g∧fe.size≤g.size∧qJ g bm (Ad (nj F (i-1)))) () rfl ae ⟨c4,cf _,b6⟩ λa _ g again ρ gl gf ⟨W,sg,mg⟩ a7=>?_
 simp only[iz];refine ag.at (Pr (al.ext W)) ?_;rw[cC,aj];refine ao (λq1=>?_) (λq1=>?_)
 ·obtain⟨k,rfl⟩:∃k:Nat,a=k+1:=⟨a-1,ae⟩
  have hk:k<K:=ae;rw[sb]at mg;have bo:RV K F ((k+1:Nat):Int)=(F.ws k).tiles:=by
   unfold RV;rw[aq ae,show(((k+1:Nat):Int)-1).toNat=k by omega]
  refine(Dq (al.ext W) (by unfold I64;omega) au).mono λrt ee NT=>?_
  rw[bo]at NT;have tl:=au k hk;have e8:=W.trans NT.2.1;have fp:=NT.2.1.1;rw[FV NT.sl,aj];refine bK (α:=Unit) (F.ws k).tiles.length 0 (λi _=>[af (i:Int)]) (λi _ g'=>Fr (λc=>c=bm) ee g'∧qJ g' bm (Ad (nj F k++(F.ws k).tiles.take i))) () rfl (b9 _) ⟨Fr.refl _ _,by rw[IZ,fN];exact mg.ext NT.2.1⟩ λi _ g' be ρ' _ hi ⟨fi,mi⟩ ay=>?_
  simp only[iz];have ei:Ext U g':=e8.then_fr fi λc hc=>by rw[show c=bm from hc];exact eh
  rw[cC,aj];refine ao (λq2=>?_) (λq2=>?_)
  ·have ab:i<(F.ws k).tiles.length:=ae;have S:=NT.sl.fr fi λc _ hc h=>by have:=NT.2.2 c hc;rw[show c=bm from h]at this;omega
   obtain⟨p,a1,a2⟩:=S.int_at (k':=.i64) ab;have b8:(F.ws k).tiles[i]∉nj F k++(F.ws k).tiles.take i:=by
    intro h;rcases cQ.1 h with h|h
    ·obtain⟨j,hj,h⟩:=BM.1 h;exact R.td j k ae hk ae _ h (cG ab)
    ·obtain⟨j,hj,ej⟩:=nW.1 h;rw[de]at hj;rw[yE]at ej;have:=(Tb.1 (R.tn k hk).1)
     exact wL.1 this j i ae ab ae ej
   have ci:=ZQ b8;have lk:=C6 mi ai false (F.ws k).tiles[i];rw[ci]at lk;have lk:Bv (.int .i64) ai false g' (.map (some bm)) (af (F.ws k).tiles[i])=some ai:=lk;rw[a1,aj,a2,aj,lk,aj,show ak .i .add ai aG=some aG from by kernel_rfl,aj];refine Sc mi λg2 m2 u2=>?_
   rw[JA ci]at m2;rw[up i ae,aj];refine ay () g2 ab ⟨fi.after u2.fr λ_ _ h=>h,?_⟩;rw[iY ab,←cj];unfold Ad at m2 ⊢;rw[jA];exact m2
  have ep:i=(F.ws k).tiles.length:=ae;subst ep;rw[An,←zZ]at mi;have ad:ak .i .add aG (af ((k+1:Nat):Int))=some (af ((k:Int)+2)):=by
   show some (af (IntKind.i64.wrap _))=_;rw[w64 ae ae,show 1+((k+1:Nat):Int)=(k:Int)+2 by omega]
  rw[ad,aj];refine(Pn (L.ext ei) ((k:Int)+2) bd cp).mono λcb g3 ⟨ss,o3,p3,m3,e3⟩=>?_
  have E3:=ei.trans e3;have bg:ss=if(F.ws k).tiles=[]then[]else[(k:Int)+1]:=by
   split
   ·rename_i h;cases ss with
    |nil=>rfl
    |cons x l=>
     obtain⟨a,ha,hb,_⟩:=(m3 x).1 (by simp);exact absurd h (w2 k hk a ha hb).2
   ·rename_i h;refine UZ p3 λx=>(m3 x).trans ⟨λ⟨a,ha,hb,hx⟩=>by rw[←hx,(w2 k hk a ha hb).1],λhx=>?_⟩
    rcases Cn.ow k hk h with⟨a,ha,hb⟩|⟨t,ht⟩
    ·exact⟨a,ha,hb,by rw[(w2 k hk a ha hb).1,hx]⟩
    ·rw[d3 k hk]at ht;cases ht
  have a8:aC cb=some (af (ss.length:Int)):=by obtain⟨aa,ac,er,_⟩:=jE.ints o3;rw[er];rfl
  have fin:∀{g4},Ext g3 g4→vK (ak .i .add (af ((k+1:Nat):Int)) aG) (λv=>again [v] g4):=λe4=>by
   rw[up _ ae,aj];exact a7 () _ ae ⟨E3.trans e4,by have:=fi.1;have:=e3.1;have:=e4.1;omega,by rw[sb];exact(mi.ext e3).ext e4⟩
  rw[a8,aj];by_cases ht:(F.ws k).tiles=[]
  ·rw[aA ht]at bg;subst bg;have l0:(af ((([]:List Int).length:Nat):Int):Value)=ai:=rfl;have gt:ak .i .gtr ai aG=some (.bool false):=by rw[mW,cE ae]
   have g0:ak .i .gtr ai ai=some (.bool false):=by rw[mW,cE ae]
   have eq:ak .i .eql ai aG=some (.bool false):=by rw[mX,cE ae]
   rw[l0]at a8 ⊢;simp only[gt,aj,jY,a8,eq,zem,kn];rw[tO];refine(Dq (al.ext E3) (by unfold I64;omega) au).mono λc1 g4 ar=>?_
   rw[bo,ht]at ar;have ey:aC c1=some ai:=FV ar.sl;simp only[jY,ey,aj,g0,bb,kn];rw[cA];exact fin ar.2.1
  ·rw[aq ht]at bg;subst bg;have l1:(af ((([(k:Int)+1]:List Int).length:Nat):Int):Value)=aG:=rfl;have gt:ak .i .gtr aG aG=some (.bool false):=by rw[mW,cE ae]
   have eq:ak .i .eql aG aG=some (.bool true):=by rw[mX,cL rfl]
   have nk:ak .i .neq (af ((k:Int)+1)) (af ((k+1:Nat):Int))=some (.bool false):=ne _;obtain⟨p,i1,i2⟩:=(wU (Z:=λ_=>True) (jE.ints o3) λ_ _ _=>trivial).int_at (k':=.i64) (i:=0) (by simp);have i1:bu 1 cb ai=some p:=i1;have i2:ldV g3 p=some (af ((k:Int)+1)):=i2;rw[l1]at a8 ⊢;simp only[gt,aj,jY,a8,eq,YU,i1,i2,nk,Ng,kn];rw[tO];refine(Dq (al.ext E3) (by unfold I64;omega) au).mono λc1 g4 ar=>?_
   rw[bo]at ar;have g0:ak .i .gtr (af ((F.ws k).tiles.length:Int)) ai=some (.bool true):=by rw[mW,cL (by have:=vw.2 ht;omega)]
   simp only[jY,FV ar.sl,aj,g0,bb,kn];rw[cA];exact fin ar.2.1
 have eb:a=K+1:=ae;subst eb;rw[sb]at mg;have ct:∀i:Nat,i<N→(i:Int)∈nj F K:=λi hi=>BM.2 (d2 i hi)
 have cu:(Ad (nj F K)).length=N:=by
  unfold Ad;rw[cS,Un];exact(zaT I K1 wt an).2
 rw[f6,aj,mf,c6 W,aj,eT,aj];refine bK (α:=Unit) N 0 (λi _=>[af (i:Int)]) (λi _ g'=>Ext g g') () rfl (b9 _) (Ext.refl _) λi _ g' be ρ' _ hi ei ay=>?_
 simp only[iz];rw[cC,aj];refine ao (λq2=>?_) (λq2=>?_)
 ·have ab:i<N:=ae;obtain⟨pt,c2,a1,a2,a3⟩:=(a9.t.ext (W.trans ei)).atw (show 0<10 by omega) (k:=.i64) (i:=i) (by simp[dJ];omega);have a1:bu 10 V.tv (af (i:Int))=some pt:=a1;have a2:aR 10 g' pt=some (.agg c2.toArray):=a2;have et:(dJ C.d N)[i]'(by simp[dJ];omega)=aL C.d i:=by simp[dJ]
  rw[et]at a3;have one:=FH.one a3;obtain⟨q0,fg,q3,q5,ec⟩:=a3;rw[a1,aj,a2,aj];refine dh (cs:=c2) (by rw[ec];rfl) one (by rw[ec];rfl) λb5 g5 r5 e5 n5=>?_
  rw[ec]at r5;have c0:aH g5 ⟨b5,0,none⟩=some (af (i:Int)):=am r5;have ek:aB 0 (ptr b5)=some (.pointer (some ⟨b5,0,none⟩)):=rfl;have lk:=C6 ((mg.ext ei).ext e5) ai false (i:Int);rw[ZP (nd K (cf _)) (ct i ab)]at lk;have lk:Bv (.int .i64) ai false g5 (.map (some bm)) (af (i:Int))=some aG:=lk;rw[ek,aj,mf,c0,aj,lk,aj,ne,aj,cA,up i ae,aj];exact ay () g5 ab (ei.trans e5)
 have lm:=Mv (mg.ext ei);rw[cu]at lm;rw[lm,aj,aj,mf,c6 (W.trans ei),aj,eT,aj,mX,aj,cL rfl];exact⟨rfl,EF (W.trans ei)⟩
end Go.Proofs.YtjljhnandbbldaaGreatDoor
namespace Go.Proofs.YtjljhnandbbldaaGreatDoor
open Go Go.Crisp
open _root_.Go.Proofs.Tryz
theorem r_PoolRaces {L:List (String×DataW Unit)}(l:XW L)(h:ah)(args:Array Value)(H:Dx prog L h)(R:xi [.st Zy,.st tOp,.int .u8,.int .u8,.int .u8,.int .u8,.sl (.int .u8) 1] h args.toList):
  ag prog qC args h λr h'=>r=.bool true∧Ext h h':=by
 obtain⟨cs,os,a,o,r0,e0,A,R⟩:=zaM R;obtain⟨x,r1,I,hx,R⟩:=X4 R;obtain⟨y,r2,W,hy,R⟩:=X4 R;obtain⟨z,r3,e3,U,R⟩:=X4 R;obtain⟨u,r4,F,hu,R⟩:=X4 R;obtain⟨v,k,r5,e5,S,h8,hk,R⟩:=zaV R;obtain rfl:r5=[]:=R;subst e5 F e3 W I;obtain rfl:args=#[.agg cs.toArray,.agg os.toArray,.int .u8 x,.int .u8 y,.int .u8 z,.int .u8 u,v]:=by cases args;simp_all
 obtain⟨⟨_,h1⟩,h2,⟨_,h3⟩,G⟩:=A;exact VZ (l.glob H) h1 h2 h3 G hx hy U hu S h8 hk
end Go.Proofs.YtjljhnandbbldaaGreatDoor
