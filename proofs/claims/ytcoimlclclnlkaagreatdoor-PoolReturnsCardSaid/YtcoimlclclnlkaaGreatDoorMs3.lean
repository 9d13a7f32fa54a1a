/- Several texts of this session, one behind the other, without what this claim does not need (put together by its program pack.py). Conditions: none. -/
import Derived.Test.YtcoimlclclnlkaaGreatDoorMs2
import Derived.MapKept
import Derived.Test.YtcoimlclclnlkaaGreatDoorProg
import Derived.Shelf.SlIterI.Sorted
set_option linter.unusedVariables false
set_option linter.unusedSimpArgs false
set_option maxRecDepth 100000
namespace Go.Proofs.YtcoimlclclnlkaaGreatDoor
open Go Go.Crisp
attribute [local irreducible] ae cF aP stK aA vK qK bD gK dE aS mkK cG Cn DS Ad bsK clK
open _root_.Go.Proofs.Tryz
theorem P5 (b:Int):Ki b=[]↔ ¬(0≤b∧b<3):=by
 unfold Ki;split
 ·constructor
  ·intro h;cases h
  ·intro h;omega
 split
 ·constructor
  ·intro h;cases h
  ·intro h;omega
 split
 ·constructor
  ·intro h;cases h
  ·intro h;omega
 ·constructor
  ·intro _;omega
  ·intro _;rfl
def jh (o:OpD):Prop:=(0≤o.kind∧o.kind<4)∧(0≤o.border∧o.border<3)∧(o.kind=3→aZ o.w∧aZ o.hh∧0≤o.filter∧o.filter<3)
instance (o:OpD):Decidable (jh o):=by unfold jh;infer_instance
theorem Ei {h:af}{n:Int}:ae prog rh #[.int .i64 n] h λr h'=>r=.bool (decide (aZ n))∧h'=h:=by
 apply QL;unfold Hf;simp only[go_sem];exact⟨rfl,by first|rfl|trivial⟩
theorem Xs {Z:Nat→Prop}{h:af}(G:dA h){cs:List Value}{o:OpD}(H:rOp.R Z h cs o):ae prog Kn #[.agg cs.toArray] h λr h'=>r=.bool (decide (jh o))∧Ext h h':=by
 apply Tg;unfold Lt;obtain⟨s,t,rfl,Hx,Hy⟩:=H;simp only[bC];refine aC λb h1 r1 D n1=>?_
 have G1:=G.ext D;simp only[go_sem,ai r1];have U:=P5 o.border;by_cases hk:o.kind<0∨4≤o.kind
 ·have q:jh o=False:=eq_false (by unfold jh;omega);simp only[go_sem,hk,q];exact⟨by simp,D⟩
 simp only[go_sem,hk];refine(Ej G1).mono λv h2 ⟨e,w⟩=>?_
 subst e w
 try rw[SN]
 rw[Kg,ah];by_cases W:Ki o.border=[]
 ·have q:jh o=False:=eq_false (by unfold jh;exact λh=>U.1 W h.2.1);simp only[go_sem,W,q];exact⟨by simp,D⟩
 have I:0≤o.border∧o.border<3:=Decidable.of_not_not λh=>W (U.2 h)
 simp only[go_sem,W,ai r1];by_cases A:¬o.kind=3
 ·have q:jh o=True:=eq_true ⟨by omega,I,λh=>absurd h A⟩;simp only[go_sem,A,q];exact⟨by simp,D⟩
 have A:o.kind=3:=Decidable.of_not_not A;simp only[go_sem,A,ai r1];refine Ei.mono λv h3 ⟨e,w⟩=>?_
 subst e w;by_cases F:¬aZ o.w
 ·have q:jh o=False:=eq_false (λh=>F (h.2.2 A).1);simp only[go_sem,F,q];exact⟨by simp,D⟩
 have F:aZ o.w:=Decidable.of_not_not F;simp only[go_sem,F,ai r1];refine Ei.mono λv h4 ⟨e,w⟩=>?_
 subst e w;by_cases hh:¬aZ o.hh
 ·have q:jh o=False:=eq_false (λh=>hh (h.2.2 A).2.1);simp only[go_sem,hh,q];exact⟨by simp,D⟩
 have hh:aZ o.hh:=Decidable.of_not_not hh;simp only[go_sem,hh,ai r1];refine(L8 G1).mono λv h5 ⟨e,w⟩=>?_
 subst e w
 try rw[SN]
 rw[Kf,ah];have L:=Pu o.filter;simp only[go_sem];refine⟨?_,D⟩
 congr 1
 rw[decide_eq_decide];unfold jh;constructor
 ·intro hf;exact⟨by omega,I,λ_=>⟨F,hh,Decidable.of_not_not λh=>hf (L.2 h)⟩⟩
 ·intro hf he;exact L.1 he (hf.2.2 A).2.2
def fQ (o:OpD):Int:=if o.kind=0 then Ci o.sigma else if o.kind=1 then Mr o.radius else if xM o.x≠0 then xM o.x else xM o.y
def dm (o:OpD):List Int:=if o.kind=0 then lT o.sigma else if o.kind=1 then vB o.radius else oJ o.x
def cR (o:OpD):List Int:=if o.kind=0 then lT o.sigma else if o.kind=1 then vB o.radius else oJ o.y
theorem vP (o:OpD):∀x∈dm o,I64 x:=by
 unfold dm;split
 ·exact Jw _
 split
 ·exact Mq _
 ·exact Es _
theorem vO (o:OpD):∀x∈cR o,I64 x:=by
 unfold cR;split
 ·exact Jw _
 split
 ·exact Mq _
 ·exact Es _
theorem uO (l:List Int):(oJ l).length≤1024:=by
 unfold oJ;split
 ·simp
 ·rename_i h;unfold iA at h;rw[List.length_map];omega
theorem Ch (s:Int):(lT s).length≤1024:=by
 unfold lT;split
 ·simp
 ·rename_i h;unfold kq at h;rw[List.length_map,List.length_range];unfold fD;omega
theorem Fo (r:Int):(vB r).length≤1024:=by
 unfold vB;split
 ·simp
 ·exact uO _
theorem CL (o:OpD):(dm o).length<4611686018427387904:=by
 unfold dm;split
 ·have:=Ch o.sigma;omega
 split
 ·have:=Fo o.radius;omega
 ·have:=uO o.x;omega
theorem CJ (o:OpD):(cR o).length<4611686018427387904:=by
 unfold cR;split
 ·have:=Ch o.sigma;omega
 split
 ·have:=Fo o.radius;omega
 ·have:=uO o.y;omega
abbrev dJ (h h':af)(c:Nat):Prop:=h.size≤c∧c<h'.size
theorem _root_.Go.Crisp.New.since {α:Type}{e:Rp α}{h0 h h':af}{v:Value}{l:List α}(H:New e h h' v l)(k:Ext h0 h):Rp.Sl e (dJ h0 h') h' v l:=H.sl.mono λb A D=>⟨Nat.le_trans k.1 (H.2.2 b D),A⟩
theorem TG {Z:Nat→Prop}{h:af}{cs:List Value}{o:OpD}(H:rOp.R Z h cs o)(W:o.Wf)(lx:o.x.length<4611686018427387904)(ly:o.y.length<4611686018427387904):
  ae prog wS #[.agg cs.toArray] h λr h'=>∃u v,r=.tuple #[u,v,.int .i64 (fQ o)]∧Ext h h'∧(fQ o=0→SlI (dJ h h') h' u (dm o)∧SlI (dJ h h') h' v (cR o)):=by
 apply KY;unfold Bc;obtain⟨s,t,rfl,L,U⟩:=H;simp only[bC];refine aC λb h1 r1 D n1=>?_
 simp only[go_sem,ai r1];unfold fQ dm cR;refine aj (λF=>?_) (λF=>?_)
 ·rw[if_pos F,if_pos F,if_pos F];refine(JZ W.sigma).mono λw G ⟨u,e,N⟩=>?_
  subst e;simp only[go_sem];exact⟨u,u,rfl,D.trans N.2.1,λ_=>⟨N.since D,N.since D⟩⟩
 rw[if_neg F,if_neg F,if_neg F];refine aj (λA=>?_) (λA=>?_)
 ·rw[if_pos A,if_pos A,if_pos A];refine(Y4 W.radius).mono λw G ⟨u,e,N⟩=>?_
  subst e;simp only[go_sem];exact⟨u,u,rfl,D.trans N.2.1,λ_=>⟨N.since D,N.since D⟩⟩
 rw[if_neg A,if_neg A,if_neg A];refine(Cr (L.ext D) W.x lx).mono λw G ⟨u,e,N⟩=>?_
 subst e;simp only[go_sem];refine aj (λhu=>?_) (λhu=>?_)
 ·rw[if_pos hu];exact⟨_,_,rfl,D.trans N.2.1,λh=>absurd h hu⟩
 rw[if_neg hu];simp only[go_sem,ai (N.2.1.row r1)];refine(Cr ((U.ext D).ext N.2.1) W.y ly).mono λw h3 ⟨v,e,M⟩=>?_
 subst e;simp only[go_sem];refine⟨u,v,rfl,(D.trans N.2.1).trans M.2.1,λ_=>⟨?_,M.since (D.trans N.2.1)⟩⟩;exact((N.since D).ext M.2.1).mono λc hc I=>⟨I.1,hc⟩
def iB (o:OpD)(w h:Int):Int:=
 if o.kind=3 then(if dx o.filter w o.w≠0 then dx o.filter w o.w else dx o.filter h o.hh)
 else if fQ o≠0 then fQ o else if iJ (dm o) w≠0 then iJ (dm o) w else iJ (cR o) h
def iZ (o:OpD)(w:Int):Tbl:=if o.kind=3 then eS o.filter w o.w else jP (dm o) w
def fK (o:OpD)(h:Int):Tbl:=if o.kind=3 then eS o.filter h o.hh else jP (cR o) h
theorem Vq {Z:Nat→Prop}{h:af}(G:dA h){cs:List Value}{o:OpD}(H:rOp.R Z h cs o)(W:o.Wf)(lx:o.x.length<4611686018427387904)(ly:o.y.length<4611686018427387904){w hh:Int}(hw:I64 w)(U:I64 hh):
  ae prog zS #[.agg cs.toArray,.int .i64 w,.int .i64 hh] h λr h'=>∃p q,r=.tuple #[p,q,.int .i64 (iB o w hh)]∧Ext h h'∧(iB o w hh=0→dZ (dJ h h') h' p (iZ o w)∧dZ (dJ h h') h' q (fK o hh)):=by
 apply Nc;unfold Dg;have H0:=H;obtain⟨s,t,rfl,Hx,Hy⟩:=H;simp only[bC];refine aC λb h1 r1 A n1=>?_
 have G1:=G.ext A;simp only[go_sem,ai r1];unfold iB iZ fK;refine aj (λL=>?_) (λL=>?_)
 ·rw[if_pos L,if_pos L,if_pos L];refine(JY G1 W.filter hw W.w).mono λr h2 ⟨p,e,D,p0,p1⟩=>?_
  subst e;simp only[go_sem];refine aj (λhc=>?_) (λhc=>?_)
  ·rw[if_neg (by simpa using hc)];simp only[go_sem,ai (D.row r1)];refine(JY (G1.ext D) W.filter U W.hh).mono λr h3 ⟨q,e,I,q0,q1⟩=>?_
   subst e;simp only[go_sem];refine⟨p,q,rfl,(A.trans D).trans I,λh0=>⟨?_,?_⟩⟩
   ·exact((p1 hc).ext I).mono λc hc F=>⟨Nat.le_trans A.1 F.1,hc⟩
   ·exact(q1 h0).mono λc hc F=>⟨Nat.le_trans (A.trans D).1 F.1,F.2⟩
  ·rw[if_pos (by simpa using hc)];exact⟨p,_,rfl,A.trans D,λh0=>absurd h0 hc⟩
 rw[if_neg L,if_neg L,if_neg L];rw[aI r1 9 rfl,ah];refine(TG (rOp.ext H0 A) W lx ly).mono λr h2 ⟨u,v,e,D,hu⟩=>?_
 subst e;simp only[go_sem];refine aj (λhc=>?_) (λhc=>?_)
 ·rw[if_pos hc];exact⟨_,_,rfl,A.trans D,λh0=>absurd h0 hc⟩
 have aa:fQ o=0:=Decidable.of_not_not hc;rw[if_neg hc];obtain⟨Hu,Hv⟩:=hu aa;refine(PX Hu (vP o) (CL o) hw).mono λr h3 ⟨p,e,I,p0,p1⟩=>?_
 subst e;simp only[go_sem];refine aj (λhc=>?_) (λhc=>?_)
 ·rw[if_neg (by simpa using hc)];refine(PX (Hv.ext I) (vO o) (CJ o) U).mono λr h4 ⟨q,e,e4,q0,q1⟩=>?_
  subst e;simp only[go_sem];refine⟨p,q,rfl,((A.trans D).trans I).trans e4,λh0=>⟨?_,?_⟩⟩
  ·exact((p1 hc).ext e4).mono λc hc F=>⟨Nat.le_trans (A.trans D).1 F.1,hc⟩
  ·exact(q1 h0).mono λc hc F=>⟨Nat.le_trans ((A.trans D).trans I).1 F.1,F.2⟩
 ·rw[if_pos (by simpa using hc)];exact⟨p,_,rfl,(A.trans D).trans I,λh0=>absurd h0 hc⟩
structure Stg where
 x:Tbl
 y:Tbl
 border:Int
def mV (Z:Nat→Prop)(h:af)(v:Value)(s:Stg):Prop:=∃p q,v=.agg #[p,q,.int .i64 s.border]∧dZ Z h p s.x∧dZ Z h q s.y
theorem mV.mono {Z Z':Nat→Prop}{h:af}{v:Value}{s:Stg}(H:mV Z h v s)(q:∀b,b<h.size→Z b→Z' b):mV Z' h v s:=by
 obtain⟨p,r,rfl,h1,A⟩:=H;exact⟨p,r,rfl,h1.mono q,A.mono q⟩
theorem mV.ext {Z:Nat→Prop}{h h':af}{v:Value}{s:Stg}(H:mV Z h v s)(e:Ext h h'):mV Z h' v s:=by
 obtain⟨p,r,rfl,h1,A⟩:=H;exact⟨p,r,rfl,h1.ext e,A.ext e⟩
theorem kE {α:Type}{e:Rp α}{Z:Nat→Prop}{h:af}{v:Value}{x:α}(H:Rp.Pt e Z h v x):aJ v=true:=by
 obtain⟨b,ds,t,rfl,_⟩:=H;rfl
theorem Yx {a b c x y z:Value}(A:aJ a=true)(D:aJ b=true)(hc:aJ c=true):aE #[x,y,z] [(0,1,a),(1,1,b),(2,1,c)]=some #[a,b,c]:=by
 simp only[aE,bU A,bU D,bU hc];rfl
abbrev noStg:Value:=.agg #[.pointer none,.pointer none,.int .i64 0]
def dT (o:OpD)(w h:Int):Int:=if¬jh o∨¬aZ w∨¬aZ h then 6 else iB o w h
def bL (o:OpD)(w h:Int):Stg:=⟨iZ o w,fK o h,o.border⟩
def V2 (h:af)(code:Int)(s:Stg)(r:Value)(h':af):Prop:=∃v,r=.tuple #[v,.int .i64 code]∧Ext h h'∧(code≠0→v=noStg)∧(code=0→mV (dJ h h') h' v s)
theorem Fl {Z:Nat→Prop}{h:af}(G:dA h){cs:List Value}{o:OpD}(H:rOp.R Z h cs o)(W:o.Wf)(lx:o.x.length<4611686018427387904)(ly:o.y.length<4611686018427387904){w hh:Int}(hw:I64 w)(ar:I64 hh):
  ae prog lB #[.agg cs.toArray,.int .i64 w,.int .i64 hh] h (V2 h (dT o w hh) (bL o w hh)):=by
 apply QN;unfold Hj;have H0:=H;obtain⟨s,t,rfl,Hx,Hy⟩:=H;simp only[bC];refine aC λb h1 r1 e1 n1=>?_
 have l1:=aU r1;refine aC λb2 h2 r2 e2 n2=>?_
 have r1:=e2.row r1;have D:=e1.trans e2;have l2:=aU r2;have hb:b≠b2:=by omega
 rw[aI r1 9 rfl,ah];refine(Xs (G.ext D) (rOp.ext H0 D)).mono λv h3 ⟨e,L⟩=>?_
 subst e;have U:∀(code:Int) (h4:af),dT o w hh=code→code≠0→Ext h2 h4→stK 3 (.pointer (some ⟨b2,0,none⟩)) (.agg #[.pointer none,.pointer none,.int .i64 0]) h4 λ_ al=>vK (aH 3 al (.pointer (some ⟨b2,0,none⟩))) λan=>V2 h (dT o w hh) (bL o w hh) (.tuple #[an,.int .i64 code]) al:=by
  intro code h4 A hc e4;rw[A];refine ce (l:=[.pointer none,.pointer none,.int .i64 0]) (e4.row r2) rfl (ak rfl (ak rfl (ak rfl aQ))) rfl λh5 r5 u5=>?_
  rw[aI r5 3 rfl,ah];exact⟨_,rfl,(D.trans e4).upd (Nat.le_trans e1.1 n2) u5,λ_=>rfl,λh=>absurd h hc⟩
 by_cases hm:¬jh o
 ·have A:dT o w hh=6:=if_pos (.inl hm);simp only[go_sem,hm,fB,Option.map_some];exact U 6 h3 A (by omega) L
 have hm:jh o:=Decidable.of_not_not hm;simp only[go_sem,hm];refine Ei.mono λv h4 ⟨e,w⟩=>?_
 subst e w;by_cases I:¬aZ w
 ·have A:dT o w hh=6:=if_pos (.inr (.inl I));simp only[go_sem,I,fB,Option.map_some];exact U 6 _ A (by omega) L
 have I:aZ w:=Decidable.of_not_not I;simp only[go_sem,I];refine Ei.mono λv h5 ⟨e,w⟩=>?_
 subst e w;by_cases F:¬aZ hh
 ·have A:dT o w hh=6:=if_pos (.inr (.inr F));simp only[go_sem,F,fB,Option.map_some];exact U 6 _ A (by omega) L
 have F:aZ hh:=Decidable.of_not_not F;have A:dT o w hh=iB o w hh:=if_neg (by rintro(h|h|h);exact h hm;exact h I;exact h F);simp only[go_sem,F];rw[aI (L.row r1) 9 rfl,ah];refine(Vq ((G.ext D).ext L) (rOp.ext (rOp.ext H0 D) L) W lx ly hw ar).mono λr h6 ⟨p,q,e,e6,hp⟩=>?_
 subst e;simp only[go_sem];refine aj (λhc=>?_) (λhc=>?_)
 ·simp only[fB,Option.map_some,ah];exact U _ _ A hc (L.trans e6)
 have aa:iB o w hh=0:=Decidable.of_not_not hc;obtain⟨ab,ad⟩:=hp aa;have c1:aB h6 ⟨b,1,none⟩=some (.int .i64 o.border):=ai (e6.row (L.row r1));simp only[go_sem,c1];rw[Yx (kE ab) (kE ad) rfl,Option.map_some,ah];refine ce (l:=[p,q,.int .i64 o.border]) (e6.row (L.row r2)) rfl (ak (kE ab) (ak (kE ad) (ak rfl aQ))) rfl λh7 r7 u7=>?_
 rw[aI r7 3 rfl,ah];have hz:∀c,c<h6.size→dJ h5 h6 c→¬c=b2:=λc _ hz he=>by
  have:=hz.1;have:=(L.1)
  subst he;omega
 have E:Ext h h6:=(D.trans L).trans e6;have fin:∀{t:Tbl} {p:Value},dZ (dJ h5 h6) h6 p t→dZ (dJ h h7) h7 p t:=λH=>by
  have:=Rp.Pt.fr H u7.fr hz;refine this.mono λc hc hz=>⟨?_,hc⟩
  exact Nat.le_trans (D.trans L).1 hz.1
 rw[A];exact⟨.agg #[p,q,.int .i64 o.border],by rw[aa],E.upd (Nat.le_trans e1.1 n2) u7,λh=>absurd aa h,λ_=>⟨p,q,rfl,fin ab,fin ad⟩⟩
def ic {α:Type}(e:Rp α)(h h':af)(v:Value)(l:List α):Prop:=∃Z,Rp.Ow e Z h' v l∧Ext h h'∧(∀b,blk v b→h.size≤b)∧∀c,Z c→h.size≤c∧c<h'.size
theorem ic.nil {α:Type}{e:Rp α}{h h':af}(k:Ext h h'):ic e h h' (.slice none 0 0) []:=⟨λ_=>False,Rp.Ow.nil,k,λb A=>A.elim,λc hc=>hc.elim⟩
theorem ic.ext {α:Type}{e:Rp α}{h h' A:af}{v:Value}{l:List α}(H:ic e h h' v l)(k:Ext h' A):ic e h A v l:=by
 obtain⟨Z,o,x,n,z⟩:=H;exact⟨Z,o.ext k,x.trans k,n,λc hc=>⟨(z c hc).1,Nat.lt_of_lt_of_le (z c hc).2 k.1⟩⟩
theorem ic.exts {α:Type}{e:Rp α}{h h':af}{v:Value}{l:List α}(H:ic e h h' v l):Ext h h':=by obtain⟨Z,o,x,n,z⟩:=H;exact x
theorem ic.sl {α:Type}{e:Rp α}{h h':af}{v:Value}{l:List α}(H:ic e h h' v l):Rp.Sl e (dJ h h') h' v l:=by
 obtain⟨Z,o,x,n,z⟩:=H;exact o.sl.mono λc hc A=>by
  rcases A with A|A
  ·exact z c A
  ·exact⟨n c A,hc⟩
theorem ic.isSl {α:Type}{e:Rp α}{h h':af}{v:Value}{l:List α}(H:ic e h h' v l):∃a cap,v=.slice a l.length cap:=by obtain⟨Z,o,x,n,z⟩:=H;exact o.isSl
theorem ic.push {α:Type}{e:Rp α}{z:Value}{c:Array Value}{t t':TypeId}{bytes:Nat}{h h1:af}{v:Value}{l:List α}{cs:List Value}{x:α}{Y:Nat→Prop}{K:Value→af→Prop}(H:ic e h h1 v l)
  (hx:e.R Y h1 cs x) (hY:∀b,Y b→h.size≤b∧b<h1.size∧¬blk v b) (hc:c.size=e.w) (D:z.cells.size=e.w) (A:(l.length+1)*bytes≤140737488355328) (hn:l.length+1≤9223372036854775807)
  (W:∀F h',ic e h h' F (l++[x])→Fr (blk v) h1 h'→(∀b,blk F b→blk v b∨h1.size≤b)→K F h'):cF c t 1 [(0,e.w,.agg cs.toArray)] h1 λL h3=>cG z t' e.w bytes v L h3 K:=by
 obtain⟨Z,o,ex,n,zf⟩:=H;have U:∀b,blk v b→¬Z b:=by obtain⟨ds,_,d,_⟩:=o;exact d
 have o2:Rp.Ow e (λb=>Z b∨Y b) h1 v l:=o.mono (λb _ A=>.inl A) λb A D=>by
  rcases D with D|D
  ·exact U b A D
  ·exact(hY b D).2.2 A
 refine Rp.push_ow o2 (e.mono hx λb _ A=>.inr A) hc D A hn (λb A=>?_) λF h' o' G n'=>W F h' ⟨λb=>Z b∨Y b,o',ex.then_fr G n,λb A=>?_,λb A=>?_⟩ G n'
 ·rcases A with A|A
  ·exact(zf b A).2
  ·exact(hY b A).2.1
 ·rcases n' b A with I|I
  ·exact n b I
  ·exact Nat.le_trans ex.1 I
 ·have hl:=G.1;rcases A with A|A
  ·have:=zf b A;omega
  ·have:=hY b A;omega
theorem ic.lt {α:Type}{e:Rp α}{h h':af}{v:Value}{l:List α}(H:ic e h h' v l){b:Nat}(A:blk v b):b<h'.size:=by obtain⟨Z,o,x,n,z⟩:=H;exact o.lt A
theorem _root_.Go.Crisp.New.lt {α:Type}{e:Rp α}{h h':af}{v:Value}{l:List α}(H:New e h h' v l){b:Nat}(A:blk v b):b<h'.size:=H.1.lt A
theorem JL {h:af}{n:Int}:ae prog mq #[.int .i64 n] h λr h'=>r=.bool (decide (aZ n))∧h'=h:=by
 apply KI;unfold AT;simp only[go_sem];exact⟨rfl,trivial⟩
def Qc (h:af)(code:Int)(ls:List (Int×List Int))(r:Value)(h':af):Prop:=∃v,r=.tuple #[v,.int .i64 code]∧Ext h h'∧(code≠0→v=.slice none 0 0)∧(code=0→ic km h h' v ls)
theorem JM {h:af}{f n m:Int}(hf:I64 f)(hn:I64 n)(hm:I64 m):ae prog ms #[.int .i64 f,.int .i64 n,.int .i64 m] h (Qc h (dx f n m) (eS f n m).lines):=by
 apply Gt;unfold xe;have rc:dx f n m=if¬(0≤f∧f<3)∨¬aZ n∨¬aZ m then 6 else cT (λi=>cn (cL f n m i)) m.toNat:=rfl
 have I:∀b:Bool,(b=true↔(¬(0≤f∧f<3)∨¬aZ n∨¬aZ m))→∀X:Prop,((0≤f∧f<3)→aZ n→aZ m→X)→aA (.bool b)
   (Qc h (dx f n m) (eS f n m).lines (.tuple #[.slice none 0 0,.int .i64 6]) h) X:=by
  intro b U X hX;refine iI (λhc=>?_) (λhc=>?_)
  ·rw[rc,if_pos (U.1 hc)];exact⟨_,rfl,Ext.refl _,λ_=>rfl,λh=>by cases h⟩
  ·have L:¬(¬(0≤f∧f<3)∨¬aZ n∨¬aZ m):=λhh=>by rw[U.2 hh]at hc;cases hc
   exact hX (Decidable.of_not_not λhh=>L (.inl hh)) (Decidable.of_not_not λhh=>L (.inr (.inl hh))) (Decidable.of_not_not λhh=>L (.inr (.inr hh)))
 have rest:(0≤f∧f<3)→aZ n→aZ m→aS [.slice none 0 0,.int .i64 0] h λD b0 aw F=>
   vK (ag .i .lss (ix D 1) (.int .i64 m)) λbc=>aA bc (
    ae prog tT #[.int .i64 f,.int .i64 n,.int .i64 m,(ix D 1)] aw λab a7=>
    vK (aF ab 0) λay=>vK (aF ab 1) λbv=>
    ae prog gw #[bv] a7 λaa au=>
    vK (aF aa 0) λax=>vK (aF aa 1) λar=>
    vK (ag .i .neq ar (.int .i64 0)) λbg=>aA bg (
     Qc h (dx f n m) (eS f n m).lines (.tuple #[(.slice none 0 0),ar]) au) (
     vK ((aE #[(.int .i64 0),(.slice none 0 0)] [(0,1,ay),(1,1,ax)]).map .agg) λbk=>
     cF #[(.int .i64 0),(.slice none 0 0)] 161 1 [(0,2,bk)] au λa9 be=>
     cG (.agg #[.int .i64 0,.slice none 0 0]) 161 2 32 (ix D 0) a9 be λbd bi=>
     vK (ag .i .add (ix D 1) (.int .i64 1)) λbo=>F [bd,bo] bi)) (
    Qc h (dx f n m) (eS f n m).lines (.tuple #[(ix D 0),(.int .i64 0)]) aw):=by
  intro G A an;rw[if_neg (by rintro(h|h|h);exact h G;exact h A;exact h an)]at rc;rw[rc];have ad:=an;unfold aZ at ad;refine bB m.toNat 0 (λk v=>[v,.int .i64 (k:Int)]) (λk v h'=>cT (λi=>cn (cL f n m i)) k=0∧ic km h h' v ((List.range k).map λi:Nat=>(dS f n m i,bS (cL f n m i)))) (.slice none 0 0) rfl (Nat.zero_le _)
   ⟨rfl,ic.nil (Ext.refl _)⟩ λk v h5 again ρj _ hk ⟨hg,T⟩ a8=>?_
  simp only[go_sem];refine aj (λh6=>?_) (λh6=>?_)
  ·have al:k<m.toNat:=by omega
   refine Xk.mono λw h7 ⟨u,e,Nw⟩=>?_
   subst e
   try simp only[go_sem]
   refine(Bw Nw.sl (rR _ _ _ _) (HF _ _ _ _)).mono λw h8 ⟨u,e,H⟩=>?_
   subst e
   try simp only[go_sem]
   refine aj (λW=>?_) (λW=>?_)
   ·have hc:cT (λi=>cn (cL f n m i)) (k+1)=cn (cL f n m k):=by
     show(if cT (λi=>cn (cL f n m i)) k≠0 then _ else _)=_;rw[if_neg (by rw[hg];simp)]
    have hs:=Bu (g:=λi=>cn (cL f n m i)) (k:=k+1) (n:=m.toNat) (by rw[hc];exact W) al;rw[hs,hc];exact⟨_,rfl,(T.exts.trans Nw.2.1).trans H.2.1,λ_=>rfl,λh=>absurd h W⟩
   ·have W:cn (cL f n m k)=0:=Decidable.of_not_not W;rw[wz (a:=.int .i64 (dS f n m k)) (b:=u) rfl H.sl.one,Option.map_some,ah];have T2:=T.ext (Nw.2.1.trans H.2.1);refine ic.push (e:=km) (cs:=[.int .i64 (dS f n m k),u]) (x:=(dS f n m k,bS (cL f n m k))) (Y:=blk u) T2 ⟨u,rfl,H.sl⟩ (λb U=>⟨Nat.le_trans (T.exts.trans Nw.2.1).1 (H.2.2 b U),H.lt U,λhv=>?_⟩) rfl rfl (by simp;omega) (by simp;omega) λs' h' N' _ _=>?_
    ·have b1:=T.lt hv;have b2:=H.2.2 b U;have b3:=Nw.2.1.1;omega
    ·try simp only[go_sem]
     rw[w64 (by omega) (by omega)];refine a8 s' h' al ⟨?_,?_⟩
     ·show(if cT (λi=>cn (cL f n m i)) k≠0 then _ else _)=_;rw[if_neg (by rw[hg];simp)];exact W
     ·rw[List.range_succ,List.map_append];exact N'
  ·have:k=m.toNat:=by omega
   subst this;exact⟨_,by rw[hg],T.exts,λh=>absurd hg h,λ_=>T⟩
 by_cases G:0≤f∧f<3
 ·have q1:(f<0)=False:=eq_false (by omega);have q2:(2<f)=False:=eq_false (by omega);simp only[go_sem,q1,q2];refine JL.mono λv1 h2 ⟨e1,w1⟩=>?_
  have w1:=w1.symm;subst e1 w1;by_cases A:aZ n
  ·simp only[go_sem,A];refine JL.mono λv1 h2 ⟨e1,w1⟩=>?_
   have w1:=w1.symm;subst e1 w1;simp only[go_sem];refine I _ ?_ _ rest;rw[decide_eq_true_eq];constructor
   ·exact λhh=>.inr (.inr hh)
   ·rintro(hh|hh|hh)
    ·exact absurd G hh
    ·exact absurd A hh
    ·exact hh
  ·simp only[go_sem,A];exact(fP _ _).mp (I true ⟨λ_=>.inr (.inl A),λ_=>rfl⟩ True λ_ _ _=>trivial)
 ·have q1:(f<0∨2<f)=True:=eq_true (by omega);simp only[go_sem,q1];exact(fP _ _).mp (I true ⟨λ_=>.inl G,λ_=>rfl⟩ True λ_ _ _=>trivial)
theorem JN {h:af}{Z:Nat→Prop}{v:Value}{l:List Int}{n:Int}(H:SlI Z h v l)(U:∀x∈l,I64 x)(hl:l.length<4611686018427387904)(hn:I64 n):ae prog mu #[v,.int .i64 n] h (Qc h (iJ l n) (jP l n).lines):=by
 apply Gu;unfold xf;refine JL.mono λv1 h1 ⟨e1,w1⟩=>?_
 have w1:=w1.symm;subst e1 w1;unfold iJ jP;obtain⟨a,cap,e⟩:=H.isSl;have e2:aq v=some (.int .i64 (l.length:Int)):=by rw[e];rfl
 by_cases A:¬aZ n
 ·rw[if_pos A];simp only[go_sem,A];exact⟨_,rfl,Ext.refl _,λ_=>rfl,λh=>by cases h⟩
 rw[if_neg A];have A:aZ n:=Decidable.of_not_not A;have W:=A;unfold aZ at W;simp only[go_sem,A,e2];rw[cV _ _ _ _ (by omega),ah,Int.tmod_eq_emod_of_nonneg (by omega)];simp only[go_sem];refine aj (λh0=>?_) (λh0=>?_)
 ·rw[if_pos (by omega)];exact⟨_,rfl,Ext.refl _,λ_=>rfl,λh=>by cases h⟩
 rw[if_neg (by omega)];refine(Bw H U hl).mono λw h2 ⟨u,e,L⟩=>?_
 subst e;simp only[go_sem];refine aj (λI=>?_) (λI=>?_)
 ·exact⟨_,rfl,L.2.1,λ_=>rfl,λh=>absurd h I⟩
 have I:cn l=0:=Decidable.of_not_not I;have ad:(bS l).length=l.length:=by unfold bS;rw[if_pos I,nh]
 have bd:=nH U;refine bB n.toNat 0 (λk v=>[v,.int .i64 (k:Int)]) (λk v h'=>ic km h h' v ((List.range k).map λi:Nat=>((i:Int)-(l.length/2:Nat),bS l))∧SlI (blk u) h' u (bS l)∧Ext h2 h'∧(∀b,blk v b→h2.size≤b)∧∀b,blk u b→¬blk v b) (.slice none 0 0) rfl (Nat.zero_le _)
  ⟨ic.nil L.2.1,L.sl,Ext.refl _,λb F=>F.elim,λb _ F=>F⟩ λk v h5 again ρj _ hk ⟨T,Hu,E,NV,D⟩ aa=>?_
 try simp only[go_sem]
 refine aj (λh6=>?_) (λh6=>?_)
 ·have ab:k<n.toNat:=by omega
  try simp only[go_sem,e2]
  rw[kr _ _ _ _ (by omega),ah,Int.tdiv_eq_ediv_of_nonneg (by omega),w64 (n:=(l.length:Int)/2) (by omega) (by omega)]
  try simp only[go_sem]
  rw[w64 (n:=(k:Int)-(l.length:Int)/2) (by omega) (by omega),show(k:Int)-(l.length:Int)/2=(k:Int)-(l.length/2:Nat)by omega];rw[wz (a:=.int .i64 ((k:Int)-(l.length/2:Nat))) (b:=u) rfl Hu.one,Option.map_some,ah];refine ic.push (e:=km) (cs:=[.int .i64 ((k:Int)-(l.length/2:Nat)),u]) (x:=((k:Int)-(l.length/2:Nat),bS l)) (Y:=blk u) T ⟨u,rfl,Hu⟩ (λb F=>⟨L.2.2 b F,Nat.lt_of_lt_of_le (L.lt F) E.1,D b F⟩) rfl rfl (by simp;omega) (by simp;omega) λs' h' N' F' n'=>?_
  try simp only[go_sem]
  rw[w64 (by omega) (by omega)];refine aa s' h' ab ⟨?_,Hu.fr F' λb _ F=>D b F,?_,?_,λb F hs=>?_⟩
  ·rw[List.range_succ,List.map_append];exact N'
  ·exact E.then_fr F' NV
  ·intro b F;rcases n' b F with G|G
   ·exact NV b G
   ·exact Nat.le_trans E.1 G
  ·rcases n' b hs with G|G
   ·exact D b F G
   ·have:=L.lt F;have:=E.1;omega
 ·have:k=n.toNat:=by omega
  subst this;exact⟨_,by rw[I],T.exts,λh=>absurd I h,λ_=>T⟩
def kw (side:Int)(o:OpD):Prop:=40<o.x.length∨40<o.y.length∨(262144<o.sigma∧o.sigma≤4194304)∨(20<o.radius∧o.radius<512)∨(side<o.w∧o.w≤65536)∨(side<o.hh∧o.hh≤65536)
instance (side:Int)(o:OpD):Decidable (kw side o):=by unfold kw;infer_instance
def kZ (side:Int)(l:List OpD):Prop:=∀o∈l,¬kw side o
instance (side:Int)(l:List OpD):Decidable (kZ side l):=by unfold kZ;infer_instance
theorem VT {Z:Nat→Prop}{h:af}{v:Value}{l:List OpD}{side:Int}(H:Rp.Sl rOp Z h v l)(hl:l.length<4611686018427387904):
  ae prog sI #[v,.int .i64 side] h λr h'=>r=.bool (decide (kZ side l))∧Ext h h':=by
 apply GB;unfold xn;obtain⟨a,cap,e⟩:=H.isSl;have e2:aq v=some (.int .i64 (l.length:Int)):=by rw[e];rfl
 rw[e2,ah];refine bB l.length 0 (λk (_:Unit)=>[.int .i64 (k:Int)]) (λk _ h'=>Ext h h'∧∀o∈l.take k,¬kw side o) () rfl (Nat.zero_le _) ⟨Ext.refl _,by simp⟩ λk _ h1 again ρj _ hk ⟨F,I⟩ L=>?_
 simp only[go_sem];refine aj (λh0=>?_) (λh0=>?_)
 ·have A:k<l.length:=by omega
  obtain⟨p,cs,q1,q2,W⟩:=Rp.Sl.atw (e:=rOp) (H.ext F) (show 0<9 by omega) (k:=.i64) A;have q1:aR 9 v (.int .i64 (k:Int))=some p:=q1;have q2:aH 9 h1 p=some (.agg cs.toArray):=q2;rw[q1,ah,q2,ah];have ab:=W;have G:=rOp.one W;obtain⟨s,t,rfl,Hx,Hy⟩:=W;refine cD (cs:=[.int .i64 l[k].kind,.int .i64 l[k].border,.int .i64 l[k].sigma,.int .i64 l[k].radius,s,t,.int .i64 l[k].filter,.int .i64 l[k].w,.int .i64 l[k].hh]) rfl G rfl λb h2 r2 e3 n3=>?_
  obtain⟨ax,cx,ex⟩:=Hx.isSl;have aa:aq s=some (.int .i64 (l[k].x.length:Int)):=by rw[ex];rfl
  obtain⟨ay,cy,ey⟩:=Hy.isSl;have U:aq t=some (.int .i64 (l[k].y.length:Int)):=by rw[ey];rfl
  simp only[go_sem,ai r2,aa,U];refine aj (λh3=>?_) (λh3=>?_)
  ·refine⟨?_,F.trans e3⟩
   congr 1
   rw[Eq.comm,decide_eq_false_iff_not];intro hh;refine hh _ (List.getElem_mem A) ?_;unfold kw;omega
  ·rw[w64 (by omega) (by omega)];refine L () h2 A ⟨F.trans e3,λo D=>?_⟩;rw[List.take_succ_eq_append_getElem A]at D;rcases List.mem_append.1 D with D|D
   ·exact I o D
   ·rw[List.mem_singleton.1 D];unfold kw;omega
 ·rw[List.take_of_length_le (by omega)]at I;refine⟨?_,F⟩
  congr 1
  rw[Eq.comm,decide_eq_true_eq];exact I
theorem VG {Z:Nat→Prop}{h:af}{cs:List Value}{o:OpD}(H:rOp.R Z h cs o){w hh:Int}:ae prog Fv #[.agg cs.toArray,.int .i64 w,.int .i64 hh] h λr h'=>
  r=.tuple #[.int .i64 (if o.kind=3 then o.w else w),.int .i64 (if o.kind=3 then o.hh else hh)]∧Ext h h':=by
 apply QM;unfold Hh;obtain⟨s,t,rfl,F,G⟩:=H;simp only[bC];refine aC λb h1 r1 D I=>?_
 simp only[go_sem,ai r1];refine aj (λA=>?_) (λA=>?_)
 ·rw[if_pos A,if_pos A];simp only[go_sem,ai r1];exact⟨by simp,D⟩
 ·rw[if_neg A,if_neg A];exact⟨rfl,D⟩
def oZ:Rp Stg where
 w:=5
 R:=λZ h cs s=>∃x y,cs=[x,y,.int .i64 s.x.n,.int .i64 s.y.n,.int .i64 s.border]∧Rp.Sl km Z h x s.x.lines∧Rp.Sl km Z h y s.y.lines
 len:=by rintro _ _ _ _ ⟨x,y,rfl,_⟩;rfl
 one:=by
  rintro _ _ _ _ ⟨x,y,rfl,H,K⟩;exact ak H.one (ak K.one (ak rfl (ak rfl (ak rfl aQ))))
 fr:=by rintro _ _ _ _ _ _ ⟨x,y,rfl,H,K⟩ f q;exact⟨x,y,rfl,H.fr f q,K.fr f q⟩
 mono:=by rintro _ _ _ _ _ ⟨x,y,rfl,H,K⟩ q;exact⟨x,y,rfl,H.mono q,K.mono q⟩
abbrev UI:List Value:=[.slice none 0 0,.slice none 0 0,.int .i64 0,.int .i64 0,.int .i64 0]
def NP (h:af)(code:Int)(s:Stg)(r:Value)(h':af):Prop:=∃cs,r=.tuple #[.agg cs.toArray,.int .i64 code]∧Ext h h'∧(code≠0→cs=UI)∧(code=0→oZ.R (dJ h h') h' cs s)
theorem Am {h:af}{n:Int}:ae prog jS #[.int .i64 n] h λr h'=>r=.bool (decide (aZ n))∧h'=h:=by
 apply KD;unfold AO;simp only[go_sem];exact⟨rfl,trivial⟩
theorem Vd {a b c v w x y z:Value}(A:aJ a=true)(D:aJ b=true)(hc:aJ c=true):aE #[v,w,x,y,z] [(2,1,a),(3,1,b),(4,1,c)]=some #[v,w,a,b,c]:=by
 simp only[aE,bU A,bU D,bU hc];rfl
theorem TO {Z:Nat→Prop}{h:af}{cs:List Value}{o:OpD}(H:rOp.R Z h cs o)(W:o.Wf)(lx:o.x.length<4611686018427387904)(ly:o.y.length<4611686018427387904){w hh:Int}(hw:I64 w)(a9:I64 hh):
  ae prog wH #[.agg cs.toArray,.int .i64 w,.int .i64 hh] h (NP h (dT o w hh) (bL o w hh)):=by
 apply KF;unfold AQ;have H0:=H;obtain⟨s,t,rfl,Hx,Hy⟩:=H;simp only[bC];refine aC λb h1 r1 e1 n1=>?_
 have l1:=aU r1;refine aC λb2 h2 r2 e2 n2=>?_
 have r1:=e2.row r1;have ay:=e1.trans e2;have l2:=aU r2;have hb:b≠b2:=by omega
 have k2:h.size≤b2:=Nat.le_trans e1.1 n2;have U:∀(code:Int) (I:af),dT o w hh=code→code≠0→Ext h2 I→stK 5 (.pointer (some ⟨b2,0,none⟩)) (.agg #[.slice none 0 0,.slice none 0 0,.int .i64 0,.int .i64 0,.int .i64 0]) I λ_ bc=>vK (aH 5 bc (.pointer (some ⟨b2,0,none⟩))) λb8=>NP h (dT o w hh) (bL o w hh) (.tuple #[b8,.int .i64 code]) bc:=by
  intro code I D hc e4;rw[D];refine ce (l:=UI) (e4.row r2) rfl (ak rfl (ak rfl (ak rfl (ak rfl (ak rfl aQ))))) rfl λL r5 u5=>?_
  rw[aI r5 5 rfl,ah];exact⟨UI,rfl,(ay.trans e4).upd k2 u5,λ_=>rfl,λh=>absurd h hc⟩
 have m6:(¬jh o∨¬aZ w∨¬aZ hh)→dT o w hh=6:=λhc=>if_pos hc
 by_cases hm:((o.kind<0∨3<o.kind)∨o.border<0)∨2<o.border
 ·have D:=m6 (.inl (by unfold jh;omega));simp only[go_sem,ai r1,hm];simp only[fB,Option.map_some,ah];exact U 6 h2 D (by omega) (Ext.refl _)
 have be:0≤o.kind∧o.kind<4:=by omega
 have bd:0≤o.border∧o.border<3:=by omega
 simp only[go_sem,ai r1,hm];refine Am.mono λv I ⟨e,wq⟩=>?_
 have wq:=wq.symm;subst e wq;by_cases ab:¬aZ w
 ·have D:=m6 (.inr (.inl ab));simp only[go_sem,ab,fB,Option.map_some];exact U 6 _ D (by omega) (Ext.refl _)
 have ab:aZ w:=Decidable.of_not_not ab;simp only[go_sem,ab];refine Am.mono λv L ⟨e,wq⟩=>?_
 have wq:=wq.symm;subst e wq;by_cases an:¬aZ hh
 ·have D:=m6 (.inr (.inr an));simp only[go_sem,an,fB,Option.map_some];exact U 6 _ D (by omega) (Ext.refl _)
 have an:aZ hh:=Decidable.of_not_not an;have mt:jh o→dT o w hh=iB o w hh:=λhm=>if_neg (by rintro(h|h|h);exact h hm;exact h ab;exact h an)
 simp only[go_sem,an,ai r1];rw[Vd rfl rfl rfl,Option.map_some,ah];refine cD (cs:=[.slice none 0 0,.slice none 0 0,.int .i64 w,.int .i64 hh,.int .i64 o.border]) rfl (ak rfl (ak rfl (ak rfl (ak rfl (ak rfl aQ))))) rfl λb3 h3 r3 e3 n3=>?_
 have r1:=e3.row r1;have r2:=e3.row r2;have al:=ay.trans e3;have l3:=aU r3;have k3:h.size≤b3:=Nat.le_trans ay.1 n3;have b7:b3≠b:=by have:=e2.1;omega
 have aa:b3≠b2:=by omega
 -- a row of lines is stored
 have au:∀{I:af} {u:Value} {a c:Value} {K:Value→af→Prop},aJ u=true→I[b3]? =some (.cells #[a,c,.int .i64 w,.int .i64 hh,.int .i64 o.border] 56 (0,0))→
   (∀L,L[b3]? =some (.cells #[u,c,.int .i64 w,.int .i64 hh,.int .i64 o.border] 56 (0,0))→Upd b3 I L→K undef L)→stK 1 (.pointer (some ⟨b3,0,none⟩)) u I K:=by
  intro I u a c K hu r HK;exact bJ r (by simp) hu λL r5 u5=>HK L r5 u5
 have aw:∀{I:af} {u:Value} {a c:Value} {K:Value→af→Prop},aJ u=true→I[b3]? =some (.cells #[a,c,.int .i64 w,.int .i64 hh,.int .i64 o.border] 56 (0,0))→
   (∀L,L[b3]? =some (.cells #[a,u,.int .i64 w,.int .i64 hh,.int .i64 o.border] 56 (0,0))→Upd b3 I L→K undef L)→stK 1 (.pointer (some ⟨b3,1,none⟩)) u I K:=by
  intro I u a c K hu r HK;exact bJ r (by simp) hu λL r5 u5=>HK L r5 u5
 -- the end
 have fin:∀{h6:af} {x y:Value},Ext h h6→h6[b2]? =some (.cells #[.slice none 0 0,.slice none 0 0,.int .i64 0,.int .i64 0,.int .i64 0] 56 (0,0))→h6[b3]? =some (.cells #[x,y,.int .i64 w,.int .i64 hh,.int .i64 o.border] 56 (0,0))→
   Rp.Sl km (dJ h3 h6) h6 x (iZ o w).lines→Rp.Sl km (dJ h3 h6) h6 y (fK o hh).lines→(iZ o w).n=w→(fK o hh).n=hh→dT o w hh=0→
   vK (aH 5 h6 (.pointer (some ⟨b3,0,none⟩))) λb0=>stK 5 (.pointer (some ⟨b2,0,none⟩)) b0 h6 λ_ ax=>vK (aH 5 ax (.pointer (some ⟨b2,0,none⟩))) λbi=>NP h (dT o w hh) (bL o w hh) (.tuple #[bi,.int .i64 0]) ax:=by
  intro h6 x y E q2 q3 Hx Hy nx ny D;rw[aI (l:=[x,y,.int .i64 w,.int .i64 hh,.int .i64 o.border]) q3 5 rfl,ah];have bk:∀v∈[x,y,.int .i64 w,.int .i64 hh,.int .i64 o.border],aJ v=true:=ak Hx.one (ak Hy.one (ak rfl (ak rfl (ak rfl aQ))));refine ce (l:=[x,y,.int .i64 w,.int .i64 hh,.int .i64 o.border]) q2 rfl bk rfl λh7 r7 u7=>?_
  rw[aI r7 5 rfl,ah];have F:∀c,c<h6.size→dJ h3 h6 c→¬c=b2:=λc _ F he=>by
   have:=F.1;have:=aU r2;omega
  refine⟨_,by rw[D],E.upd k2 u7,λh=>absurd D h,λ_=>⟨x,y,?_,?_,?_⟩⟩
  ·show _=[x,y,.int .i64 (iZ o w).n,.int .i64 (fK o hh).n,.int .i64 o.border];rw[nx,ny]
  ·exact(Hx.fr u7.fr F).mono λc hc F=>⟨Nat.le_trans al.1 F.1,hc⟩
  ·exact(Hy.fr u7.fr F).mono λc hc F=>⟨Nat.le_trans al.1 F.1,hc⟩
 have nX:(iZ o w).n=w:=by unfold iZ;split<;>rfl
 have nY:(fK o hh).n=hh:=by unfold fK;split<;>rfl
 simp only[go_sem,ai r1];refine aj (λhk=>?_) (λhk=>?_)
 ·refine Am.mono λv L ⟨e,wq⟩=>?_
  have wq:=wq.symm;subst e wq;by_cases ad:¬aZ o.w
  ·have D:=m6 (.inl (by unfold jh;rintro⟨_,_,hx⟩;exact ad (hx hk).1));simp only[go_sem,ad,fB,Option.map_some];exact U 6 _ D (by omega) e3
  have ad:aZ o.w:=Decidable.of_not_not ad;simp only[go_sem,ad,ai r1];refine Am.mono λv L ⟨e,wq⟩=>?_
  have wq:=wq.symm;subst e wq;by_cases ar:¬aZ o.hh
  ·have D:=m6 (.inl (by unfold jh;rintro⟨_,_,hx⟩;exact ar (hx hk).2.1));simp only[go_sem,ar,fB,Option.map_some];exact U 6 _ D (by omega) e3
  have ar:aZ o.hh:=Decidable.of_not_not ar;simp only[go_sem,ar,ai r1];refine aj (λb5=>?_) (λb5=>?_)
  ·have D:=m6 (.inl (by unfold jh;rintro⟨_,_,hx⟩;have:=(hx hk).2.2;omega));simp only[fB,Option.map_some,ah];exact U 6 _ D (by omega) e3
  have a7:jh o:=⟨be,bd,λ_=>⟨ad,ar,by omega,by omega⟩⟩
  have A:=mt a7;unfold iB at A;rw[if_pos hk]at A;have tX:(iZ o w).lines=(eS o.filter w o.w).lines:=by unfold iZ;rw[if_pos hk]
  have tY:(fK o hh).lines=(eS o.filter hh o.hh).lines:=by unfold fK;rw[if_pos hk]
  refine(JM W.filter hw W.w).mono λr I ⟨p,e,e4,p0,p1⟩=>?_
  subst e;simp only[go_sem];have po:aJ p=true:=by
   by_cases hc:dx o.filter w o.w=0
   ·obtain⟨_,_,e⟩:=(p1 hc).isSl;rw[e];rfl
   ·rw[p0 hc];rfl
  refine au po (e4.row r3) λL r5 u5=>?_
  have E5:=(al.trans e4).upd k3 u5;have a8:=(e3.trans e4).upd n3 u5;refine aj (λhc=>?_) (λhc=>?_)
  ·rw[if_pos hc]at A;simp only[fB,Option.map_some,ah];exact U _ _ A hc a8
  have hc:dx o.filter w o.w=0:=Decidable.of_not_not hc;rw[if_neg (by simpa using hc)]at A;have b4:=u5.row (Ne.symm b7) (e4.row r1);simp only[go_sem,ai b4];refine(JM W.filter a9 W.hh).mono λr h6 ⟨q,e,e6,q0,q1⟩=>?_
  subst e;simp only[go_sem];have qo:aJ q=true:=by
   by_cases hc:dx o.filter hh o.hh=0
   ·obtain⟨_,_,e⟩:=(q1 hc).isSl;rw[e];rfl
   ·rw[q0 hc];rfl
  refine aw qo (e6.row r5) λh7 r7 u7=>?_
  have E7:=(E5.trans e6).upd k3 u7;have bo:=(a8.trans e6).upd n3 u7;refine aj (λG=>?_) (λG=>?_)
  ·simp only[fB,Option.map_some,ah];exact U _ _ A G bo
  have G:dx o.filter hh o.hh=0:=Decidable.of_not_not G;have zz:∀{a d:af},h3.size≤a.size→∀c,c<d.size→dJ a d c→¬c=b3:=λha c _ F he=>by
   have:=F.1;omega
  refine fin E7 (u7.row (Ne.symm aa) (e6.row (u5.row (Ne.symm aa) (e4.row r2)))) r7 ?_ ?_ nX nY (by rw[A,G])
  ·rw[tX];have a1:=(p1 hc).sl.fr u5.fr (zz (Nat.le_refl _));have a2:=(a1.ext e6).mono (Z':=dJ h3 h6) λc _ F=>⟨F.1,by have:=F.2;have:=u5.1;have:=e6.1;omega⟩
   exact(a2.fr u7.fr (zz (Nat.le_refl _))).mono λc hc F=>⟨F.1,hc⟩
  ·rw[tY];have b1:h3.size≤L.size:=by have:=e4.1;have:=u5.1;omega
   exact((q1 G).sl.fr u7.fr (zz b1)).mono λc hc F=>⟨Nat.le_trans b1 F.1,hc⟩
 have a7:jh o:=⟨be,bd,λh=>absurd h hk⟩
 have A:=mt a7;unfold iB at A;rw[if_neg hk]at A;have tX:(iZ o w).lines=(jP (dm o) w).lines:=by unfold iZ;rw[if_neg hk]
 have tY:(fK o hh).lines=(jP (cR o) hh).lines:=by unfold fK;rw[if_neg hk]
 refine aV (λxs I=>∃u v,xs=[.int .i64 (fQ o),u,v]∧Ext h3 I∧(fQ o=0→SlI (dJ h3 I) I u (dm o)∧SlI (dJ h3 I) I v (cR o))) ?_ ?_
 ·refine aj (λk0=>?_) (λk0=>?_)
  ·refine(Nz W.sigma).mono λr I ⟨u,e,N⟩=>?_
   subst e;simp only[go_sem];have c1:fQ o=Ci o.sigma:=by unfold fQ;rw[if_pos k0]
   have c2:dm o=lT o.sigma:=by unfold dm;rw[if_pos k0]
   have c3:cR o=lT o.sigma:=by unfold cR;rw[if_pos k0]
   rw[c1,c2,c3];exact⟨u,u,rfl,N.2.1,λ_=>⟨N.since (Ext.refl _),N.since (Ext.refl _)⟩⟩
  refine aj (λk1=>?_) (λk1=>?_)
  ·simp only[go_sem,ai r1];refine(Vx W.radius).mono λr I ⟨u,e,N⟩=>?_
   subst e;simp only[go_sem];have c1:fQ o=Mr o.radius:=by unfold fQ;rw[if_neg k0,if_pos k1]
   have c2:dm o=vB o.radius:=by unfold dm;rw[if_neg k0,if_pos k1]
   have c3:cR o=vB o.radius:=by unfold cR;rw[if_neg k0,if_pos k1]
   rw[c1,c2,c3];exact⟨u,u,rfl,N.2.1,λ_=>⟨N.since (Ext.refl _),N.since (Ext.refl _)⟩⟩
  have k2:(o.kind=2)=True:=eq_true (by omega);simp only[go_sem,ai r1,k2];have c1:fQ o=if xM o.x≠0 then xM o.x else xM o.y:=by unfold fQ;rw[if_neg k0,if_neg k1]
  have c2:dm o=oJ o.x:=by unfold dm;rw[if_neg k0,if_neg k1]
  have c3:cR o=oJ o.y:=by unfold cR;rw[if_neg k0,if_neg k1]
  refine(JO (Hx.ext al) W.x lx).mono λr I ⟨u,e,N⟩=>?_
  subst e;simp only[go_sem,ai (N.2.1.row r1)];refine(JO (Hy.ext (al.trans N.2.1)) W.y ly).mono λr L ⟨v,e,M⟩=>?_
  subst e;simp only[go_sem];have s1:SlI (dJ h3 L) L u (oJ o.x):=((N.since (Ext.refl _)).ext M.2.1).mono λc hc F=>⟨F.1,Nat.lt_of_lt_of_le F.2 M.2.1.1⟩
  have s2:SlI (dJ h3 L) L v (oJ o.y):=M.since N.2.1;rw[c1,c2,c3];refine aj (λhc=>?_) (λhc=>?_)
  ·rw[if_neg (by simpa using hc)];exact⟨u,v,rfl,N.2.1.trans M.2.1,λ_=>⟨s1,s2⟩⟩
  ·rw[if_pos hc];exact⟨u,v,rfl,N.2.1.trans M.2.1,λ_=>⟨s1,s2⟩⟩
 rintro xs ρj I ⟨u,v,rfl,e4,hu⟩;have ca:=e4;simp only[go_sem];refine aj (λhc=>?_) (λhc=>?_)
 ·rw[if_pos hc]at A;simp only[fB,Option.map_some,ah];exact U _ _ A hc (e3.trans e4)
 have b6:fQ o=0:=Decidable.of_not_not hc;rw[if_neg hc]at A;obtain⟨Hu,Hv⟩:=hu b6;refine(JN Hu (vP o) (CL o) hw).mono λr L ⟨p,e,e5,p0,p1⟩=>?_
 subst e;simp only[go_sem];have po:aJ p=true:=by
  by_cases hc:iJ (dm o) w=0
  ·obtain⟨_,_,e⟩:=(p1 hc).isSl;rw[e];rfl
  ·rw[p0 hc];rfl
 refine au po ((e4.trans e5).row r3) λh6 r6 u6=>?_
 have E6:=(al.trans (e4.trans e5)).upd k3 u6;have bg:=(e3.trans (e4.trans e5)).upd n3 u6;refine aj (λhc=>?_) (λhc=>?_)
 ·rw[if_pos hc]at A;simp only[fB,Option.map_some,ah];exact U _ _ A hc bg
 have hc:iJ (dm o) w=0:=Decidable.of_not_not hc;rw[if_neg (by simpa using hc)]at A;have zz:∀{a d:af},h3.size≤a.size→∀c,c<d.size→dJ a d c→¬c=b3:=λha c _ F he=>by
  have:=F.1;omega
 refine(JN ((Hv.ext e5).fr u6.fr λc _ F he=>by have:=F.1;omega) (vO o) (CJ o) a9).mono λr h7 ⟨q,e,e7,q0,q1⟩=>?_
 subst e;simp only[go_sem];have qo:aJ q=true:=by
  by_cases hc:iJ (cR o) hh=0
  ·obtain⟨_,_,e⟩:=(q1 hc).isSl;rw[e];rfl
  ·rw[q0 hc];rfl
 refine aw qo (e7.row r6) λh8 r8 u8=>?_
 have E8:=(E6.trans e7).upd k3 u8;have bv:=(bg.trans e7).upd n3 u8;refine aj (λG=>?_) (λG=>?_)
 ·simp only[fB,Option.map_some,ah];exact U _ _ A G bv
 have G:iJ (cR o) hh=0:=Decidable.of_not_not G;refine fin E8 (u8.row (Ne.symm aa) (e7.row (u6.row (Ne.symm aa) ((e4.trans e5).row r2)))) r8 ?_ ?_ nX nY (by rw[A,G])
 ·rw[tX];have a1:=(p1 hc).sl.fr u6.fr (zz e4.1);have a2:=(a1.ext e7).mono (Z':=dJ h3 h7) λc _ F=>⟨Nat.le_trans e4.1 F.1,by have:=F.2;have:=u6.1;have:=e7.1;omega⟩
  exact(a2.fr u8.fr (zz (Nat.le_refl _))).mono λc hc F=>⟨F.1,hc⟩
 ·rw[tY];have b1:h3.size≤h6.size:=by have:=e4.1;have:=e5.1;have:=u6.1;omega
  exact((q1 G).sl.fr u8.fr (zz b1)).mono λc hc F=>⟨Nat.le_trans b1 F.1,hc⟩
theorem TN {Z:Nat→Prop}{h:af}{cs:List Value}{o:OpD}(H:rOp.R Z h cs o){w hh:Int}:ae prog wG #[.agg cs.toArray,.int .i64 w,.int .i64 hh] h λr h'=>
  r=.tuple #[.int .i64 (if o.kind=3 then o.w else w),.int .i64 (if o.kind=3 then o.hh else hh)]∧Ext h h':=by
 apply KE;unfold AP;obtain⟨s,t,rfl,F,G⟩:=H;simp only[bC];refine aC λb h1 r1 D I=>?_
 simp only[go_sem,ai r1];refine aj (λA=>?_) (λA=>?_)
 ·rw[if_pos A,if_pos A];exact⟨rfl,D⟩
 ·rw[if_neg A,if_neg A];exact⟨rfl,D⟩
end Go.Proofs.YtcoimlclclnlkaaGreatDoor
namespace Go.Proofs.YtcoimlclclnlkaaGreatDoor
open Go Go.Crisp
attribute [local irreducible] ae cF aP stK aA vK qK bD gK dE aS mkK cG Cn DS Ad bsK
open _root_.Go.Proofs.Tryz
theorem R1 {Z:Nat→Prop}{h:af}{v:Value}{l:List Int}(H:Rp.Sl rI Z h v l){i:Nat}(hi:i<l.length):
  ∃p,aR 1 v (.int .i64 (i:Int))=some p∧ldV h p=some (.int .i64 l[i]):=by
 obtain⟨p,c,D,hc,A⟩:=H.at1 rfl (k:=.i64) hi;have A:[c]=[.int .i64 l[i]]:=A;obtain rfl:c=.int .i64 l[i]:=by simpa using A
 exact⟨p,D,hc⟩
theorem PS {h:af}{Z Z':Nat→Prop}{v u:Value}{l:List Int}(H:Rp.Sl rI Z h v l)(K:Rp.Sl rI Z' h u l)(U:l.length≤4398046511104):
  ae prog qY #[v,u] h λr h'=>r=.bool true∧h'=h:=by
 apply KM;unfold AX;have F:=H;have K0:=K;obtain⟨a,c,rfl⟩:=H.isSl;obtain⟨L,c',rfl⟩:=K.isSl;simp only[go_sem];refine Cd l.length (λi G=>i≤l.length∧G=h) ⟨by omega,rfl⟩ ?_;rintro i _ again ρj ⟨hi,rfl⟩ D;simp only[go_sem];refine aj (λh1=>?_) (λh1=>?_)
 ·have A:i<l.length:=by omega
  obtain⟨p,I,hc⟩:=R1 F A;obtain⟨q,hq,hd⟩:=R1 K0 A;simp only[go_sem,I,hc,hq,hd];rw[w64 (by omega) (by omega)];exact D _ A ⟨by omega,rfl⟩
 ·exact⟨trivial,trivial⟩
theorem c_Ref {h:af}{Z:Nat→Prop}{cs:List Value}{o:OpD}(H:rOp.R Z h cs o):
  ae prog zU #[.agg cs.toArray] h λr h'=>r=.agg cs.toArray∧rOp.R Z h' cs o∧Ext h h':=by
 apply Nf;unfold Di;have D:=H;obtain⟨s,t,rfl,I,Hy⟩:=H;have os:=I.one;have L:=Hy.one;simp only[bC];refine aC λb1 h1 r1 A n1=>aC λb2 h2 r2 G n2=>?_
 have r1:=G.row r1;have e:=A.trans G;have s1:=A.1;simp only[go_sem,ai r1];have U:aE #[(.int .i64 0),(.int .i64 0),(.int .i64 0),(.int .i64 0),(.slice none 0 0),(.slice none 0 0),(.int .i64 0),(.int .i64 0),(.int .i64 0)]
   [(0,1,(.int .i64 o.kind)),(1,1,(.int .i64 o.border)),(2,1,(.int .i64 o.sigma)),(3,1,(.int .i64 o.radius)),(4,1,s),(5,1,t),(6,1,(.int .i64 o.filter)),(7,1,(.int .i64 o.w)),(8,1,(.int .i64 o.hh))]=
   some #[.int .i64 o.kind,.int .i64 o.border,.int .i64 o.sigma,.int .i64 o.radius,s,t,.int .i64 o.filter,.int .i64 o.w,.int .i64 o.hh]:=by
  simp[aE,bU os,bU L,bU (show aJ (.int _ _)=true from rfl)]
 rw[U,Option.map_some,ah];refine ce (l:=[.int .i64 o.kind,.int .i64 o.border,.int .i64 o.sigma,.int .i64 o.radius,s,t,.int .i64 o.filter,.int .i64 o.w,.int .i64 o.hh]) r2 rfl (rOp.one D) rfl λh3 W F=>?_
 rw[aI W 9 rfl,ah];exact⟨rfl,rOp.ext D (e.upd (by omega) F),e.upd (by omega) F⟩
end Go.Proofs.YtcoimlclclnlkaaGreatDoor
namespace Go.Proofs.YtcoimlclclnlkaaGreatDoor
open Go Go.Crisp
attribute [local irreducible] ae cF aP stK aA vK qK bD gK dE aS mkK cG Cn DS Ad bsK clK
open _root_.Go.Proofs.Tryz
def gu (w h c:Int):Prop:=1≤w∧w≤65536∧1≤h∧h≤65536∧(c=1∨c=3)∧w*h*c≤268435456
instance (w h c:Int):Decidable (gu w h c):=by unfold gu;infer_instance
theorem RG {h:af}{x y c:Int}:ae prog ku #[.int .i64 x,.int .i64 y,.int .i64 c] h λr h'=>r=.bool (decide (gu x y c))∧h'=h:=by
 apply Iq;unfold yd;simp only[go_sem];refine⟨?_,trivial⟩
 congr 1
 rw[decide_eq_decide];unfold gu;by_cases h1:1≤x∧x≤65536∧1≤y∧y≤65536∧(c=1∨c=3)
 ·have D:=kT (a:=x) (A:=65536) (b:=y) (B:=65536) (by omega) (by omega) (by omega) (by omega);rw[w64 (n:=x*y) (by omega) (by omega),w64 (n:=x*y*c) (by rcases h1.2.2.2.2 with h|h<;>subst h<;>omega) (by rcases h1.2.2.2.2 with h|h<;>subst h<;>omega)];omega
 ·omega
theorem PH {h:af}{x y c:Int}:ae prog qV #[.int .i64 x,.int .i64 y,.int .i64 c] h λr h'=>r=.bool (decide (gu x y c))∧h'=h:=by
 apply KH;unfold AS;simp only[go_sem];refine aj (λh0=>?_) (λh0=>?_)
 ·refine⟨?_,trivial⟩;rw[decide_eq_false];unfold gu;omega
 refine aj (λh1=>?_) (λh1=>?_)
 ·refine⟨?_,trivial⟩;rw[decide_eq_false];unfold gu;omega
 have D:=kT (a:=x) (A:=65536) (b:=y) (B:=65536) (by omega) (by omega) (by omega) (by omega);rw[w64 (n:=x*y) (by omega) (by omega),kr _ _ _ _ (by omega),ah];simp only[go_sem];refine⟨?_,trivial⟩
 congr 1
 rw[decide_eq_decide];unfold gu;have hc:c=1∨c=3:=by omega
 rcases hc with hc|hc<;>subst hc
 ·rw[show Int.tdiv 268435456 1=268435456 from by decide,w64 (by omega) (by omega)];omega
 ·rw[show Int.tdiv 268435456 3=89478485 from by decide,w64 (by omega) (by omega)];omega
def mH (o:OpD)(w:Int):Int:=if o.kind=3 then o.w else w
def qf (o:OpD)(h:Int):Int:=if o.kind=3 then o.hh else h
def Cy (c:Int):List OpD→Int→Int→Int
 | [],_,_=>0
 |o::l,w,h=>if dT o w h≠0 then dT o w h else if¬gu (mH o w) (qf o h) c then 5 else Cy c l (mH o w) (qf o h)
def uq:List OpD→Int→Int→List Stg
 | [],_,_=>[]
 |o::l,w,h=>bL o w h::uq l (mH o w) (qf o h)
def xB (l:List OpD)(w h c:Int):Int:=if 16<l.length then 6 else if¬gu w h c then 5 else Cy c l w h
def Bp:Rp Stg where
 w:=3
 R:=λZ h cs s=>∃p q,cs=[p,q,.int .i64 s.border]∧dZ Z h p s.x∧dZ Z h q s.y
 len:=by rintro _ _ _ _ ⟨x,y,rfl,_⟩;rfl
 one:=by
  rintro _ _ _ _ ⟨x,y,rfl,H,K⟩;exact ak (kE H) (ak (kE K) (ak rfl aQ))
 fr:=by rintro _ _ _ _ _ _ ⟨x,y,rfl,H,K⟩ f q;exact⟨x,y,rfl,Rp.Pt.fr H f q,Rp.Pt.fr K f q⟩
 mono:=by rintro _ _ _ _ _ ⟨x,y,rfl,H,K⟩ q;exact⟨x,y,rfl,Rp.Pt.mono H q,Rp.Pt.mono K q⟩
def Wb (e:Rp Stg)(h:af)(code:Int)(l:List Stg)(r:Value)(h':af):Prop:=∃v,r=.tuple #[v,.int .i64 code]∧Ext h h'∧(code≠0→v=.slice none 0 0)∧(code=0→ic e h h' v l)
structure Eo (l:List OpD):Prop where
 wf:∀o∈l,o.Wf
 len:∀o∈l,o.x.length≤17592186044416∧o.y.length≤17592186044416
 few:l.length≤4398046511104
theorem Oh {o:OpD}(W:o.Wf){w h:Int}(A:I64 w)(hh:I64 h):I64 (mH o w)∧I64 (qf o h):=by
 unfold mH qf;constructor
 ·split;exact W.w;exact A
 ·split;exact W.hh;exact hh
theorem L2 {α:Type}{l:List α}{k:Nat}(h:k<l.length):l.drop k=l[k]::l.drop (k+1):=List.drop_eq_getElem_cons h
theorem Xt {Z:Nat→Prop}{h:af}(G:dA h){v:Value}{l:List OpD}(H:Rp.Sl rOp Z h v l)(W:Eo l){w hh c:Int}(hw:I64 w)(al:I64 hh):
  ae prog Ko #[v,.int .i64 w,.int .i64 hh,.int .i64 c] h (Wb Bp h (xB l w hh c) (uq l w hh)):=by
 apply Th;unfold Lu;obtain⟨a,cap,e⟩:=H.isSl;have e2:aq v=some (.int .i64 (l.length:Int)):=by rw[e];rfl
 rw[e2,ah];have few:=W.few;have ro:xB l w hh c=if 16<l.length then 6 else if¬gu w hh c then 5 else Cy c l w hh:=rfl
 simp only[go_sem];refine aj (λh0=>?_) (λh0=>?_)
 ·rw[if_pos (by omega)]at ro;rw[ro];exact⟨_,rfl,Ext.refl _,λ_=>rfl,λh=>by cases h⟩
 rw[if_neg (by omega)]at ro;refine RG.mono λr h1 ⟨e,wq⟩=>?_
 have wq:=wq.symm;subst e wq;simp only[go_sem];refine aj (λh1=>?_) (λh1=>?_)
 ·rw[if_pos h1]at ro;rw[ro];exact⟨_,rfl,Ext.refl _,λ_=>rfl,λh=>by cases h⟩
 rw[if_neg h1]at ro
 try rw[e2,ah]
 refine bB (α:=Int×Int×Value) l.length 0 (λk a=>[.int .i64 a.1,.int .i64 a.2.1,a.2.2,.int .i64 (k:Int)])
  (λk a h'=>I64 a.1∧I64 a.2.1∧xB l w hh c=Cy c (l.drop k) a.1 a.2.1∧∃done,done.length=k∧uq l w hh=done++uq (l.drop k) a.1 a.2.1∧ic Bp h h' a.2.2 done) (w,hh,.slice none 0 0) rfl (Nat.zero_le _)
  ⟨hw,al,ro,[],rfl,rfl,ic.nil (Ext.refl _)⟩ λk a h2 again ρj _ hk ⟨iw,ih,hc,done,dl,hd,N⟩ ar=>?_
 obtain⟨w1,A,out⟩:=a;simp only[go_sem];have N:ic Bp h h2 out done:=N;have iw:I64 w1:=iw;have ih:I64 A:=ih;refine aj (λh3=>?_) (λh3=>?_)
 ·have I:k<l.length:=by omega
  have hc:xB l w hh c=Cy c (l.drop k) w1 A:=hc;have hd:uq l w hh=done++uq (l.drop k) w1 A:=hd;rw[L2 I]at hc hd;have hm:=List.getElem_mem I;have Wo:=W.wf _ hm;have Lo:=W.len _ hm;obtain⟨p,cs,q1,q2,Ho⟩:=Rp.Sl.atw (e:=rOp) (H.ext N.exts) (show 0<9 by omega) (k:=.i64) I;have q1:aR 9 v (.int .i64 (k:Int))=some p:=q1;have q2:aH 9 h2 p=some (.agg cs.toArray):=q2;rw[q1,ah,q2,ah];have F:cs.length=9:=rOp.len Ho;refine cD (cs:=cs) F (rOp.one Ho) F λb h4 r4 e4 n4=>?_
  rw[aI r4 9 F,ah];have G4:=G.ext (N.exts.trans e4);have ab:=rOp.ext Ho e4;generalize l[k]=o at*;refine(Fl G4 ab Wo (by omega) (by omega) iw ih).mono λr h5 ⟨sv,e,e5,s0,s1⟩=>?_
  subst e;simp only[go_sem];have so:∃ds:List Value,sv=.agg ds.toArray∧ds.length=3∧(∀x∈ds,aJ x=true)∧(dT o w1 A=0→Bp.R (dJ h4 h5) h5 ds (bL o w1 A)):=by
   by_cases hm:dT o w1 A=0
   ·obtain⟨p,q,e,t1,t2⟩:=s1 hm;exact⟨[p,q,.int .i64 (bL o w1 A).border],e,rfl,ak (kE t1) (ak (kE t2) (ak rfl aQ)),λ_=>⟨p,q,rfl,t1,t2⟩⟩
   ·exact⟨[.pointer none,.pointer none,.int .i64 0],s0 hm,rfl,ak rfl (ak rfl (ak rfl aQ)),λh=>absurd h hm⟩
  obtain⟨ds,rfl,U,d1,dR⟩:=so;refine cD (cs:=ds) U d1 U λb2 h6 r6 e6 n6=>?_
  have aa:Ext h2 h6:=e4.trans (e5.trans e6);refine aj (λD=>?_) (λD=>?_)
  ·unfold Cy at hc;rw[if_pos D]at hc;rw[hc];exact⟨_,rfl,N.exts.trans aa,λ_=>rfl,λh=>absurd h D⟩
  have D:dT o w1 A=0:=Decidable.of_not_not D;unfold Cy at hc;rw[if_neg (by simpa using D)]at hc;have an:=(e5.trans e6).row r4;rw[aI an 9 F,ah];refine(VG (rOp.ext ab (e5.trans e6))).mono λr h7 ⟨e,e7⟩=>?_
  subst e;simp only[go_sem];refine RG.mono λr L ⟨e,wq⟩=>?_
  have wq:=wq.symm;subst e wq;simp only[go_sem];refine aj (λL=>?_) (λL=>?_)
  ·have L:¬gu (mH o w1) (qf o A) c:=L;rw[if_pos L]at hc;rw[hc];exact⟨_,rfl,N.exts.trans (aa.trans e7),λ_=>rfl,λh=>by cases h⟩
  have L:¬ ¬gu (mH o w1) (qf o A) c:=L;rw[if_neg L]at hc;rw[aI (e7.row r6) 3 U,ah];have ad:=aa.trans e7;have N7:=N.ext ad;have R7:=Bp.ext (dR D) (e6.trans e7);refine ic.push (e:=Bp) (Y:=dJ h4 h5) N7 R7 (λb hb=>⟨Nat.le_trans (N.exts.trans e4).1 hb.1,?_,λhv=>?_⟩) rfl rfl (by rw[dl];omega) (by rw[dl];omega) λs' h' N' _ _=>?_
  ·have:=hb.2;have:=e6.1;have:=e7.1;omega
  ·have h9:=N.lt hv;have aw:=hb.1;have ax:=e4.1;omega
  ·try simp only[go_sem]
   rw[w64 (by omega) (by omega)];have hs:=Oh Wo iw ih;refine ar (mH o w1,qf o A,s') h' I ⟨hs.1,hs.2,hc,done++[bL o w1 A],by simp[dl],?_,N'⟩;rw[List.append_assoc];exact hd
 ·have au:k=l.length:=by omega
  subst au;have hc:xB l w hh c=Cy c (l.drop l.length) w1 A:=hc;have hd:uq l w hh=done++uq (l.drop l.length) w1 A:=hd;rw[List.drop_length]at hc hd;have hc:xB l w hh c=0:=hc;rw[hc,hd];refine⟨_,rfl,N.exts,λh=>absurd rfl h,λ_=>?_⟩;rw[show uq [] w1 A=[]from rfl,List.append_nil];exact N
theorem VE {Z:Nat→Prop}{h:af}{v:Value}{l:List OpD}(H:Rp.Sl rOp Z h v l)(W:Eo l){w hh c:Int}(hw:I64 w)(ad:I64 hh):
  ae prog zL #[v,.int .i64 w,.int .i64 hh,.int .i64 c] h (Wb oZ h (xB l w hh c) (uq l w hh)):=by
 apply MW;unfold C4;obtain⟨a,cap,e⟩:=H.isSl;have e2:aq v=some (.int .i64 (l.length:Int)):=by rw[e];rfl
 rw[e2,ah];have few:=W.few;have ro:xB l w hh c=if 16<l.length then 6 else if¬gu w hh c then 5 else Cy c l w hh:=rfl
 simp only[go_sem];refine aj (λh0=>?_) (λh0=>?_)
 ·rw[if_pos (by omega)]at ro;rw[ro];exact⟨_,rfl,Ext.refl _,λ_=>rfl,λh=>by cases h⟩
 rw[if_neg (by omega)]at ro;refine PH.mono λr h1 ⟨e,wq⟩=>?_
 have wq:=wq.symm;subst e wq;simp only[go_sem];refine aj (λh1=>?_) (λh1=>?_)
 ·rw[if_pos h1]at ro;rw[ro];exact⟨_,rfl,Ext.refl _,λ_=>rfl,λh=>by cases h⟩
 rw[if_neg h1]at ro
 try rw[e2,ah]
 refine bB (α:=Int×Int×Value) l.length 0 (λk a=>[.int .i64 a.1,.int .i64 a.2.1,a.2.2,.int .i64 (k:Int)])
  (λk a h'=>I64 a.1∧I64 a.2.1∧xB l w hh c=Cy c (l.drop k) a.1 a.2.1∧∃done,done.length=k∧uq l w hh=done++uq (l.drop k) a.1 a.2.1∧ic oZ h h' a.2.2 done) (w,hh,.slice none 0 0) rfl (Nat.zero_le _)
  ⟨hw,ad,ro,[],rfl,rfl,ic.nil (Ext.refl _)⟩ λk a h2 again ρj _ hk ⟨iw,ih,hc,done,dl,hd,N⟩ an=>?_
 obtain⟨w1,A,out⟩:=a;simp only[go_sem];have N:ic oZ h h2 out done:=N;have iw:I64 w1:=iw;have ih:I64 A:=ih;refine aj (λh3=>?_) (λh3=>?_)
 ·have G:k<l.length:=by omega
  have hc:xB l w hh c=Cy c (l.drop k) w1 A:=hc;have hd:uq l w hh=done++uq (l.drop k) w1 A:=hd;rw[L2 G]at hc hd;have hm:=List.getElem_mem G;have Wo:=W.wf _ hm;have Lo:=W.len _ hm;obtain⟨p,cs,q1,q2,Ho⟩:=Rp.Sl.atw (e:=rOp) (H.ext N.exts) (show 0<9 by omega) (k:=.i64) G;have q1:aR 9 v (.int .i64 (k:Int))=some p:=q1;have q2:aH 9 h2 p=some (.agg cs.toArray):=q2;rw[q1,ah,q2,ah];have F:cs.length=9:=rOp.len Ho;refine cD (cs:=cs) F (rOp.one Ho) F λb h4 r4 e4 n4=>?_
  rw[aI r4 9 F,ah];have aa:=rOp.ext Ho e4;generalize l[k]=o at*;refine(TO aa Wo (by omega) (by omega) iw ih).mono λr h5 ⟨ds,e,e5,s0,dR⟩=>?_
  subst e;simp only[go_sem];have so:ds.length=5∧(∀x∈ds,aJ x=true):=by
   by_cases hm:dT o w1 A=0
   ·exact⟨oZ.len (dR hm),oZ.one (dR hm)⟩
   ·rw[s0 hm];exact⟨rfl,ak rfl (ak rfl (ak rfl (ak rfl (ak rfl aQ))))⟩
  obtain⟨L,d1⟩:=so;refine cD (cs:=ds) L d1 L λb2 h6 r6 e6 n6=>?_
  have U:Ext h2 h6:=e4.trans (e5.trans e6);refine aj (λD=>?_) (λD=>?_)
  ·unfold Cy at hc;rw[if_pos D]at hc;rw[hc];exact⟨_,rfl,N.exts.trans U,λ_=>rfl,λh=>absurd h D⟩
  have D:dT o w1 A=0:=Decidable.of_not_not D;unfold Cy at hc;rw[if_neg (by simpa using D)]at hc;have al:=(e5.trans e6).row r4;rw[aI al 9 F,ah];refine(TN (rOp.ext aa (e5.trans e6))).mono λr h7 ⟨e,e7⟩=>?_
  subst e;simp only[go_sem];refine PH.mono λr I ⟨e,wq⟩=>?_
  have wq:=wq.symm;subst e wq;simp only[go_sem];refine aj (λI=>?_) (λI=>?_)
  ·have I:¬gu (mH o w1) (qf o A) c:=I;rw[if_pos I]at hc;rw[hc];exact⟨_,rfl,N.exts.trans (U.trans e7),λ_=>rfl,λh=>by cases h⟩
  have I:¬ ¬gu (mH o w1) (qf o A) c:=I;rw[if_neg I]at hc;rw[aI (e7.row r6) 5 L,ah];have ab:=U.trans e7;have N7:=N.ext ab;have R7:=oZ.ext (dR D) (e6.trans e7);refine ic.push (e:=oZ) (Y:=dJ h4 h5) N7 R7 (λb hb=>⟨Nat.le_trans (N.exts.trans e4).1 hb.1,?_,λhv=>?_⟩) rfl rfl (by rw[dl];omega) (by rw[dl];omega) λs' h' N' _ _=>?_
  ·have:=hb.2;have:=e6.1;have:=e7.1;omega
  ·have h9:=N.lt hv;have au:=hb.1;have aw:=e4.1;omega
  ·try simp only[go_sem]
   rw[w64 (by omega) (by omega)];have hs:=Oh Wo iw ih;refine an (mH o w1,qf o A,s') h' G ⟨hs.1,hs.2,hc,done++[bL o w1 A],by simp[dl],?_,N'⟩;rw[List.append_assoc];exact hd
 ·have ar:k=l.length:=by omega
  subst ar;have hc:xB l w hh c=Cy c (l.drop l.length) w1 A:=hc;have hd:uq l w hh=done++uq (l.drop l.length) w1 A:=hd;rw[List.drop_length]at hc hd;have hc:xB l w hh c=0:=hc;rw[hc,hd];refine⟨_,rfl,N.exts,λh=>absurd rfl h,λ_=>?_⟩;rw[show uq [] w1 A=[]from rfl,List.append_nil];exact N
theorem YT {Z:Nat→Prop}{h:af}{v:Value}{l:List OpD}(H:Rp.Sl rOp Z h v l)(few:l.length≤4398046):
  ae prog wU #[v] h λr h'=>Rp.Sl rOp (λ_=>True) h' r l∧Ext h h':=by
 apply K2;unfold Be;obtain⟨a,cap,e⟩:=H.isSl;have e2:aq v=some (.int .i64 (l.length:Int)):=by rw[e];rfl
 rw[e2,ah];have H:=H.mono (Z':=λc=>c<h.size) λc hc _=>hc
 refine bB (α:=Value) l.length 0 (λk a=>[a,.int .i64 (k:Int)])
  (λk a h'=>Rp.Ow rOp (λc=>c<h.size) h' a (l.take k)∧Ext h h'∧∀b,blk a b→h.size≤b) (.slice none 0 0) rfl (Nat.zero_le _)
  ⟨Rp.Ow.nil,Ext.refl _,λb hb=>hb.elim⟩ λk out h2 again ρj _ hk ⟨N,E,nb⟩ I=>?_
 simp only[go_sem];refine aj (λh3=>?_) (λh3=>?_)
 ·have D:k<l.length:=by omega
  obtain⟨p,cs,q1,q2,Ho⟩:=Rp.Sl.atw (e:=rOp) (H.ext E) (show 0<9 by omega) (k:=.i64) D;have q1:aR 9 v (.int .i64 (k:Int))=some p:=q1;have q2:aH 9 h2 p=some (.agg cs.toArray):=q2;rw[q1,ah,q2,ah];have A:cs.length=9:=rOp.len Ho;refine cD (cs:=cs) A (rOp.one Ho) A λb h4 r4 G n4=>?_
  rw[aI r4 9 A,ah];refine(c_Ref (rOp.ext Ho G)).mono λr h5 ⟨e,W,e5⟩=>?_
  subst e;have U:=(E.trans G).trans e5;have F:(l.take k).length=k:=by rw[List.length_take];omega
  refine Rp.push_ow (e:=rOp) (N.ext (G.trans e5)) W rfl rfl (by rw[F];omega) (by rw[F];omega) (λc hc=>Nat.lt_of_lt_of_le hc U.1) λs' h' o' f' n'=>?_
  try simp only[go_sem]
  rw[w64 (by omega) (by omega)];rw[←List.take_succ_eq_append_getElem D]at o';refine I s' h' D ⟨o',U.then_fr f' nb,λc hc=>?_⟩;rcases n' c hc with L|L
  ·exact nb c L
  ·exact Nat.le_trans U.1 L
 ·rw[List.take_of_length_le (by omega)]at N;exact⟨N.sl.mono λ_ _ _=>trivial,E⟩
abbrev rU:Rp Int:=Rp.int .u16
abbrev Gh (l:List Int):List Value:=l.map λn=>Value.int .u16 n
structure Pic where
 w:Int
 h:Int
 c:Int
 most:Int
 l:List Int
structure Pic.Wf (m:Pic):Prop where
 fits:gu m.w m.h m.c
 m1:1≤m.most
 m2:m.most≤65535
 len:(m.l.length:Int)=m.w*m.h*m.c
 smp:∀x∈m.l,0≤x∧x≤m.most
def inP (m:Pic)(x y c:Int):Prop:=0≤x∧x<m.w∧0≤y∧y<m.h∧0≤c∧c<m.c
instance (m:Pic)(x y c:Int):Decidable (inP m x y c):=by unfold inP;infer_instance
def kn (m:Pic)(x y c:Int):Int:=(y*m.w+x)*m.c+c
def atP (m:Pic)(x y c:Int):Int:=if inP m x y c then m.l.getD (kn m x y c).toNat 0 else 0
def Oi (m:Pic)(x y c v:Int):Pic:={m with l:=m.l.set (kn m x y c).toNat v}
theorem cq {w h c:Int}(f:gu w h c):1≤w∧w≤65536∧1≤h∧h≤65536∧1≤c∧c≤3∧0≤w*h∧w*h≤4294967296∧0≤w*h*c∧w*h*c≤268435456:=by
 obtain⟨h1,H,I,G,L,F⟩:=f;have D:=kT (a:=w) (A:=65536) (b:=h) (B:=65536) (by omega) (by omega) (by omega) (by omega);refine⟨h1,H,I,G,by omega,by omega,D.1,D.2,Int.mul_nonneg D.1 (by omega),F⟩
theorem EC {m:Pic}(W:m.Wf){x y c:Int}(h:inP m x y c):0≤y*m.w∧y*m.w+x≤4294967296∧0≤kn m x y c∧kn m x y c<m.l.length:=by
 obtain⟨h1,U,h3,h4,H,G,h7,I,L,A⟩:=cq W.fits;obtain⟨x0,F,y0,y1,c0,c1⟩:=h;have a0:0≤y*m.w:=Int.mul_nonneg y0 (by omega);have a1:y*m.w≤(m.h-1)*m.w:=Int.mul_le_mul_of_nonneg_right (by omega) (by omega);rw[Int.sub_mul,Int.one_mul,Int.mul_comm m.h]at a1;have b0:0≤(y*m.w+x)*m.c:=Int.mul_nonneg (by omega) (by omega);have D:(y*m.w+x)*m.c≤(m.w*m.h-1)*m.c:=Int.mul_le_mul_of_nonneg_right (by omega) (by omega);rw[Int.sub_mul,Int.one_mul]at D;have:=W.len;unfold kn;refine⟨a0,by omega,by omega,by omega⟩
structure cA (h:af)(b:Nat)(v:Value)(m:Pic):Prop where
 row:h[b]? =some (.cells #[.int .i64 m.w,.int .i64 m.h,.int .i64 m.c,.int .i64 m.most,v] 151 (0,0))
 own:Own 1 h v m.l.length (Gh m.l)
 ap:¬blk v b
abbrev ptr (b:Nat):Value:=.pointer (some ⟨b,0,none⟩)
theorem cA.fr {M:Nat→Prop}{h h':af}{b:Nat}{v:Value}{m:Pic}(H:cA h b v m)(f:Fr M h h')(A:¬M b)(q:∀c,blk v c→¬M c):cA h' b v m:=⟨f.row H.row A,H.own.fr f q,H.ap⟩
theorem cA.ext {h h':af}{b:Nat}{v:Value}{m:Pic}(H:cA h b v m)(e:Ext h h'):cA h' b v m:=H.fr (M:=λ_=>False) e.fr id λ_ _=>id
theorem cA.lt {h:af}{b:Nat}{v:Value}{m:Pic}(H:cA h b v m):b<h.size:=aU H.row
theorem cA.ltv {h:af}{b:Nat}{v:Value}{m:Pic}(H:cA h b v m){c:Nat}(hc:blk v c):c<h.size:=H.own.lt hc
theorem nV {h:af}{b:Nat}{v:Value}{m:Pic}(H:cA h b v m):ae prog bE #[ptr b] h λr h'=>r=.int .i64 m.w∧h'=h:=by
 apply xF;unfold mL;simp only[go_sem,ai H.row];exact⟨by simp,by simp⟩
theorem lW {h:af}{b:Nat}{v:Value}{m:Pic}(H:cA h b v m):ae prog bG #[ptr b] h λr h'=>r=.int .i64 m.h∧h'=h:=by
 apply vX;unfold lI;simp only[go_sem,ai H.row];exact⟨by simp,by simp⟩
theorem dC {h:af}{b:Nat}{v:Value}{m:Pic}(H:cA h b v m):ae prog aO #[ptr b] h λr h'=>r=.int .i64 m.c∧h'=h:=by
 apply uj;unfold kl;simp only[go_sem,ai H.row];exact⟨by simp,by simp⟩
theorem nG {h:af}{b:Nat}{v:Value}{m:Pic}(H:cA h b v m):ae prog co #[ptr b] h λr h'=>r=.int .i64 m.most∧h'=h:=by
 apply yQ;unfold oO;simp only[go_sem,ai H.row];exact⟨by simp,by simp⟩
theorem SA {h:af}{b:Nat}{v:Value}{m:Pic}(H:cA h b v m)(W:m.Wf){x y c:Int}:ae prog gB #[ptr b,.int .i64 x,.int .i64 y,.int .i64 c] h λr h'=>
  r=.int .i64 (if inP m x y c then kn m x y c else-1)∧h'=h:=by
 apply xE;unfold mK;have D:aB h ⟨b,0,none⟩=some (.int .i64 m.w):=ai H.row;have F:aB h ⟨b,1,none⟩=some (.int .i64 m.h):=ai H.row;have G:aB h ⟨b,2,none⟩=some (.int .i64 m.c):=ai H.row;simp only[go_sem,Nat.zero_add,D,F,G];refine aj (λh0=>?_) (λh0=>?_)
 ·rw[if_neg (by unfold inP;omega)];exact⟨rfl,trivial⟩
 ·have hi:inP m x y c:=by unfold inP;omega
  have U:=EC W hi;have I:=cq W.fits;have L:=W.len;rw[if_pos hi];have e:(y*m.w+x)*m.c+c=kn m x y c:=rfl;have A:=hi;unfold inP at A;rw[w64 (n:=y*m.w) (by omega) (by omega),w64 (n:=y*m.w+x) (by omega) (by omega),w64 (n:=(y*m.w+x)*m.c) (by omega) (by omega),w64 (by omega) (by omega)];exact⟨rfl,trivial⟩
theorem XL {h:af}{b:Nat}{v:Value}{m:Pic}(H:cA h b v m)(W:m.Wf){x y c:Int}:ae prog fo #[ptr b,.int .i64 x,.int .i64 y,.int .i64 c] h λr h'=>
  r=.int .u16 (atP m x y c)∧h'=h:=by
 apply BT;unfold rE;refine(SA H W).mono λr h1 ⟨e,D⟩=>?_
 have D:=D.symm;subst e D;unfold atP;have U:aB h ⟨b,4,none⟩=some v:=ai H.row;by_cases hi:inP m x y c
 ·have L:=EC W hi;rw[if_pos hi,if_pos hi];simp only[go_sem,Nat.zero_add,U];rw[decide_eq_true L.2.2.1,fP];obtain⟨i,F⟩:∃i:Nat,kn m x y c=(i:Int):=⟨(kn m x y c).toNat,by omega⟩
  rw[F,Int.toNat_natCast];have A:i<m.l.length:=by omega
  obtain⟨p,G,I,_⟩:=H.own.at1 (k:=.i64) A;rw[G,ah,I,ah];refine⟨?_,trivial⟩;rw[List.getElem_map];simp[List.getD_eq_getElem?_getD,A]
 ·rw[if_neg hi,if_neg hi];simp only[go_sem];rw[show decide ((0:Int)≤ -1)=false from rfl,cf];exact⟨by simp,by simp⟩
theorem SD {h:af}{b:Nat}{v:Value}{m:Pic}(H:cA h b v m)(W:m.Wf){x y c n:Int}(n0:0≤n)(n1:n≤65535):ae prog eK #[ptr b,.int .i64 x,.int .i64 y,.int .i64 c,.int .u16 n] h λr h'=>
  r=.bool (decide (inP m x y c∧n≤m.most))∧cA h' b v (if inP m x y c∧n≤m.most then Oi m x y c n else m)∧Fr (blk v) h h'∧h'.size=h.size:=by
 apply Ax;unfold qp;refine(SA H W).mono λr h1 ⟨e,G⟩=>?_
 have G:=G.symm;subst e G;have U:aB h ⟨b,3,none⟩=some (.int .i64 m.most):=ai H.row;have q4:aB h ⟨b,4,none⟩=some v:=ai H.row;simp only[go_sem,Nat.zero_add,U,q4];rw[w64 (by omega) (by omega)];by_cases hi:inP m x y c
 ·have hp:=EC W hi;rw[if_pos hi];refine aj (λh0=>?_) (λh0=>?_)
  ·have D:¬(inP m x y c∧n≤m.most):=by rintro⟨_,_⟩;omega
   rw[if_neg D,decide_eq_false D];exact⟨rfl,H,Fr.refl _ _,trivial⟩
  ·have I:inP m x y c∧n≤m.most:=⟨hi,by omega⟩
   rw[if_pos I,decide_eq_true I];obtain⟨i,A⟩:∃i:Nat,kn m x y c=(i:Int):=⟨(kn m x y c).toNat,by omega⟩
   have L:Oi m x y c n={m with l:=m.l.set i n}:=by unfold Oi;rw[A,Int.toNat_natCast]
   rw[A,L];have F:i<m.l.length:=by omega
   obtain⟨p,p1,p2,p3⟩:=H.own.at1 (k:=.i64) F;rw[p1,ah];refine p3 _ _ rfl λh2 o2 f2 s2=>⟨rfl,⟨f2.row H.row H.ap,?_,H.ap⟩,f2,s2⟩
   show Own 1 h2 v (m.l.set i n).length (Gh (m.l.set i n));rw[List.length_set,Gh,List.map_set];exact o2
 ·have D:¬(inP m x y c∧n≤m.most):=λhh=>hi hh.1
  rw[if_neg hi,if_neg D,decide_eq_false D];rw[show decide ((-1:Int)<0∨m.most<n)=true from decide_eq_true (by omega),fP];exact⟨rfl,H,Fr.refl _ _,trivial⟩
theorem RY {m:Pic}(W:m.Wf){x y c n:Int}(A:0≤n)(F:n≤m.most):(Oi m x y c n).Wf:=by
 refine⟨W.fits,W.m1,W.m2,?_,λz D=>?_⟩
 ·show((m.l.set _ n).length:Int)=_;rw[List.length_set];exact W.len
 ·rcases List.mem_or_eq_of_mem_set D with h|h
  ·exact W.smp z h
  ·rw[h];exact⟨A,F⟩
theorem EE {k:IntKind}{h:af}{v:Value}{l:List Int}(H:Own 1 h v l.length (l.map λn=>Value.int k n)):Rp.Sl (Rp.int k) (blk v) h v l:=
 (R8 H).sl.mono λb _ A=>A.elim False.elim id
theorem PZ {h:af}{Z:Nat→Prop}{v:Value}{l:List Int}(H:Rp.Sl rU Z h v l)(hl:l.length≤1000000000):
  ae prog cQ #[v] h λr h'=>New rU h h' r l:=by
 apply lP;unfold gm;obtain⟨ds,⟨A,a,cap,rfl,D⟩,hz,he⟩:=H;rw[Ms,ah];cases a with
 | none=>
  have:l=[]:=by
   rcases D with D|⟨b,o,h0,_⟩
   ·subst D;have h2:([]:List Value).length=l.length*1:=A;exact List.eq_nil_of_length_eq_zero (by simpa using h2.symm)
   ·cases h0
  subst this;simp only[Option.isNone_none,go_sem];exact New.nil (Ext.refl _)
 |some a=>
  simp only[Option.isNone_some,go_sem];refine cH (c':=#[]) rfl λb h1 r1 G n1=>?_
  have O:Rp.Ow rU (λ_=>False) h1 (.slice (some ⟨b,0,none⟩) 0 0) []:=⟨[],.inr ⟨b,0,[],_,rfl,Nat.le_refl _,rfl,rfl,r1⟩,λb W F=>F,λi hi=>absurd hi (by simp)⟩
  have S1:SlC 1 h1 (.slice (some a) l.length cap) l.length ds:=SlC.ext ⟨A,some a,cap,rfl,D⟩ G;refine Rp.app_ow (e:=rU) (l:=[]) (l2:=l) O S1 (λi hi=>he i hi) rfl (by simp;omega) (by simp;omega) (λb W=>W.elim) λv2 h2 U f2 n2=>?_
  rw[List.nil_append]at U;have nb:∀k,blk (.slice (some ⟨b,0,none⟩) 0 0) k→h.size≤k:=λk L=>by have:k=b:=L;omega
  refine⟨U,G.then_fr f2 nb,λk L=>?_⟩;rcases n2 k L with I|I
  ·exact nb k I
  ·exact Nat.le_trans G.1 I
theorem Mm {h:af}{b:Nat}{v:Value}{m:Pic}(H:cA h b v m)(W:m.Wf):ae prog fN #[ptr b] h λr h'=>New rU h h' r m.l:=by
 apply vq;unfold kY;have A:aB h ⟨b,4,none⟩=some v:=ai H.row;simp only[go_sem,Nat.zero_add,A];have D:=cq W.fits;have:=W.len;exact PZ (EE H.own) (by omega)
theorem Q9 {a b c d e v w x y z:Value}(A:aJ a=true)(D:aJ b=true)(hc:aJ c=true)(hd:aJ d=true)(F:aJ e=true):aE #[v,w,x,y,z] [(0,1,a),(1,1,b),(2,1,c),(3,1,d),(4,1,e)]=some #[a,b,c,d,e]:=by
 simp only[aE,bU A,bU D,bU hc,bU hd,bU F];rfl
def y7 (w h c most:Int):Int:=if most<1∨65535<most∨(c≠1∧c≠3)then 2 else if¬gu w h c then 5 else 0
def qP (w h c most:Int):Pic:=⟨w,h,c,most,List.replicate (w*h*c).toNat 0⟩
def pU (h h':af)(p:Value)(m:Pic):Prop:=∃b v,p=ptr b∧cA h' b v m∧h.size≤b∧(∀c,blk v c→h.size≤c)∧Ext h h'
theorem vz {w h c most:Int}:y7 w h c most=0↔gu w h c∧1≤most∧most≤65535:=by
 unfold y7;split
 ·constructor
  ·intro h;cases h
  ·rintro⟨⟨_,_,_,_,_,_⟩,_,_⟩;omega
 ·split
  ·constructor
   ·intro h;cases h
   ·rintro⟨h,_⟩;contradiction
  ·rename_i h1 A;exact⟨λ_=>⟨Decidable.of_not_not A,by omega,by omega⟩,λ_=>rfl⟩
theorem Ah {w h c most:Int}(H:y7 w h c most=0):(qP w h c most).Wf:=by
 obtain⟨h1,A,D⟩:=vz.1 H;have G:=cq h1;refine⟨h1,A,D,?_,λx F=>?_⟩
 ·show((List.replicate (w*h*c).toNat (0:Int)).length:Int)=w*h*c;rw[List.length_replicate];omega
 ·have:x=0:=(List.mem_replicate.1 F).2;subst this;show 0≤(0:Int)∧(0:Int)≤most;omega
theorem vA {h:af}{w hh c most:Int}:ae prog gA #[.int .i64 w,.int .i64 hh,.int .i64 c,.int .i64 most] h λr h'=>
  ∃p,r=.tuple #[p,.int .i64 (y7 w hh c most)]∧Ext h h'∧(y7 w hh c most≠0→p=.pointer none)∧(y7 w hh c most=0→pU h h' p (qP w hh c most)):=by
 apply KW;unfold Ba;simp only[go_sem];have A:y7 w hh c most=if most<1∨65535<most∨(c≠1∧c≠3)then 2 else if¬gu w hh c then 5 else 0:=rfl
 refine aj (λh0=>?_) (λh0=>?_)
 ·rw[if_pos (by omega)]at A;rw[A];exact⟨_,rfl,Ext.refl _,λ_=>rfl,λh=>by cases h⟩
 rw[if_neg (by omega)]at A;refine RG.mono λr h1 ⟨e,F⟩=>?_
 have F:=F.symm;subst e F;simp only[go_sem];refine aj (λh1=>?_) (λh1=>?_)
 ·rw[if_pos h1]at A;rw[A];exact⟨_,rfl,Ext.refl _,λ_=>rfl,λh=>by cases h⟩
 rw[if_neg h1]at A;have hf:=cq (Decidable.of_not_not h1);rw[w64 (n:=w*hh) (by omega) (by omega),w64 (n:=w*hh*c) (by omega) (by omega)];obtain⟨n,H⟩:∃n:Nat,w*hh*c=(n:Int):=⟨(w*hh*c).toNat,by omega⟩
 rw[H];refine lQ rfl (by omega) (by omega) λv h2 o2 G I=>?_
 obtain⟨av,cv,ev⟩:=o2.isSl;rw[Q9 rfl rfl rfl rfl (by rw[ev];rfl),Option.map_some,ah];refine aC (c:=#[.int .i64 w,.int .i64 hh,.int .i64 c,.int .i64 most,v]) λb U W D n3=>?_
 rw[A];refine⟨_,rfl,G.trans D,λh=>absurd rfl h,λ_=>⟨b,v,rfl,⟨W,?_,λL=>?_⟩,Nat.le_trans G.1 n3,I,G.trans D⟩⟩
 ·show Own 1 U v (List.replicate (w*hh*c).toNat (0:Int)).length (Gh (List.replicate (w*hh*c).toNat 0));rw[H,Int.toNat_natCast,List.length_replicate,Gh,List.map_replicate];exact o2.fr (M:=λ_=>False) D.fr λ_ _=>id
 ·have:=o2.lt L;omega
theorem DX {l m:List Int}(h:l.length=m.length)(H:∀i (h1:i<l.length) (A:i<m.length),l[i]=m[i]):l=m:=List.ext_getElem h λi h1 A=>H i h1 A
theorem Vv {h:af}{Z Z':Nat→Prop}{v u:Value}{l m:List Int}(H:Rp.Sl rU Z h v l)(K:Rp.Sl rU Z' h u m)(hl:l.length≤1000000000):
  ae prog wI #[v,u] h λr h'=>r=.bool (decide (l=m))∧h'=h:=by
 apply KG;unfold AR;obtain⟨a,c,e⟩:=H.isSl;obtain⟨a',c',e'⟩:=K.isSl;have e2:aq v=some (.int .i64 (l.length:Int)):=by rw[e];rfl
 have e3:aq u=some (.int .i64 (m.length:Int)):=by rw[e'];rfl
 simp only[go_sem,e2,e3];refine aj (λh0=>?_) (λh0=>?_)
 ·refine⟨?_,trivial⟩;rw[decide_eq_false];intro hh;subst hh;exact h0 rfl
 try rw[e2,ah]
 refine bB (α:=Unit) l.length 0 (λi _=>[.int .i64 (i:Int)]) (λi _ h'=>h'=h∧∀j (h1:j<l.length) (D:j<m.length),j<i→l[j]=m[j]) () rfl (Nat.zero_le _) ⟨rfl,λj _ _ hj=>absurd hj (by omega)⟩ λi _ h1 again ρj _ hi ⟨L,hs⟩ F=>?_
 have L:=L.symm;subst L;simp only[go_sem];refine aj (λh1=>?_) (λh1=>?_)
 ·have A:i<l.length:=by omega
  have G:i<m.length:=by omega
  obtain⟨p,p1,p2⟩:=H.int_at (k':=.i64) A;obtain⟨q,q1,q2⟩:=K.int_at (k':=.i64) G;simp only[go_sem,p1,p2,q1,q2];refine aj (λD=>?_) (λD=>?_)
  ·refine⟨?_,trivial⟩;rw[decide_eq_false];intro hh;subst hh;exact D rfl
  ·rw[w64 (by omega) (by omega)];refine F () h A ⟨rfl,λj U W hj=>?_⟩;by_cases I:j=i
   ·subst I;exact Decidable.of_not_not D
   ·exact hs j U W (by omega)
 ·refine⟨?_,trivial⟩;rw[decide_eq_true];exact DX (by omega) λj U W=>hs j U W (by omega)
theorem New.img {h h0:af}{u:Value}{m:Pic}{b:Nat}{h':af}(N:New rU h h0 u m.l)(r:h'[b]? =some (.cells #[.int .i64 m.w,.int .i64 m.h,.int .i64 m.c,.int .i64 m.most,u] 151 (0,0)))(e:Ext h0 h')(n:h0.size≤b):pU h h' (ptr b) m:=
 ⟨b,u,rfl,⟨r,(MK N.1).fr (M:=λ_=>False) e.fr λ_ _=>id,λA=>by have:=N.1.lt A;omega⟩,Nat.le_trans N.2.1.1 n,N.2.2,N.2.1.trans e⟩
theorem Y3 {h:af}{b:Nat}{v:Value}{m:Pic}(H:cA h b v m)(W:m.Wf):ae prog kg #[ptr b] h λr h'=>pU h h' r m:=by
 apply yR;unfold oP;simp only[go_sem,Nat.zero_add];have q:∀h',Ext h h'→_:=λh' e=>e.row H.row
 refine aG (Ext h) (Ext.refl _) ?_;refine ao (.int .i64 m.w) (λh' e=>ai (q h' e)) ?_;refine ao (.int .i64 m.h) (λh' e=>ai (q h' e)) ?_;refine ao (.int .i64 m.c) (λh' e=>ai (q h' e)) ?_;refine ao (.int .i64 m.most) (λh' e=>ai (q h' e)) ?_;refine ao v (λh' e=>ai (q h' e)) ?_;have I:=cq W.fits;have:=W.len;refine(PZ (EE H.own) (by omega)).mono λu h1 N=>⟨N.2.1,?_⟩
 obtain⟨av,cv,ev⟩:=N.isSl;rw[Q9 rfl rfl rfl rfl (by rw[ev];rfl),Option.map_some,ah];refine aC (c:=#[.int .i64 m.w,.int .i64 m.h,.int .i64 m.c,.int .i64 m.most,u]) λG L D A F=>?_
 exact New.img N D A F
def ug:Rp Pic where
 w:=5
 R:=λZ h cs m=>∃u,cs=[.int .i64 m.w,.int .i64 m.h,.int .i64 m.c,.int .i64 m.most,u]∧Rp.Sl rU Z h u m.l
 len:=by rintro _ _ _ _ ⟨x,rfl,_⟩;rfl
 one:=by
  rintro _ _ _ _ ⟨x,rfl,H⟩;exact ak rfl (ak rfl (ak rfl (ak rfl (ak H.one aQ))))
 fr:=by rintro _ _ _ _ _ _ ⟨x,rfl,H⟩ f q;exact⟨x,rfl,H.fr f q⟩
 mono:=by rintro _ _ _ _ _ ⟨x,rfl,H⟩ q;exact⟨x,rfl,H.mono q⟩
theorem NC {h:af}{b:Nat}{v:Value}{m:Pic}(H:cA h b v m)(W:m.Wf):ae prog pN #[ptr b] h λr h'=>∃cs,r=.agg cs.toArray∧ug.R (dJ h h') h' cs m∧Ext h h':=by
 apply Ng;unfold Dj;refine aC λb2 h2 r2 G U=>?_
 have l2:=aU r2;have H:=H.ext G;refine(nV H).mono λr D ⟨e,A⟩=>?_
 have A:=A.symm;subst e A;refine(lW H).mono λr D ⟨e,A⟩=>?_
 have A:=A.symm;subst e A;refine(dC H).mono λr D ⟨e,A⟩=>?_
 have A:=A.symm;subst e A;refine(nG H).mono λr D ⟨e,A⟩=>?_
 have A:=A.symm;subst e A;refine(Mm H W).mono λu D N=>?_
 obtain⟨av,cv,ev⟩:=N.isSl;have L:aJ u=true:=by rw[ev];rfl
 rw[Q9 rfl rfl rfl rfl L,Option.map_some,ah];refine ce (l:=[.int .i64 m.w,.int .i64 m.h,.int .i64 m.c,.int .i64 m.most,u]) (N.2.1.row r2) rfl (ak rfl (ak rfl (ak rfl (ak rfl (ak L aQ))))) rfl λh5 r5 I=>?_
 rw[aI r5 5 rfl,ah];refine⟨_,rfl,⟨u,rfl,?_⟩,(G.trans N.2.1).upd U I⟩;have S:=N.since (Ext.refl _);refine(S.fr I.fr λc _ F he=>?_).mono λc hc F=>⟨Nat.le_trans G.1 F.1,hc⟩
 have:=F.1;omega
theorem Mk {h:af}{Z Z':Nat→Prop}{cs ds:List Value}{m n:Pic}(H:ug.R Z h cs m)(K:ug.R Z' h ds n)(hl:m.l.length≤1000000000)(W:m.w=n.w)(hh:m.h=n.h)(hc:m.c=n.c)(F:m.most=n.most):
  ae prog oE #[.agg cs.toArray,.agg ds.toArray] h λr h'=>r=.bool (decide (m.l=n.l))∧Ext h h':=by
 apply IE;unfold yr;obtain⟨u,rfl,G⟩:=H;obtain⟨w,rfl,U⟩:=K;simp only[bC];refine aC λb1 h1 r1 L n1=>aC λb2 h2 r2 D n2=>?_
 have r1:=D.row r1;have e:=L.trans D;simp only[go_sem,ai r1,ai r2,W,hh,hc,F];refine(Vv (G.ext e) (U.ext e) hl).mono λr h3 ⟨I,A⟩=>?_
 subst I;have A:=A.symm;subst A;simp only[go_sem];exact⟨by simp,e⟩
theorem YL {h:af}{Z:Nat→Prop}{cs:List Value}{m:Pic}(H:ug.R Z h cs m){x y c:Int}:ae prog CE #[.agg cs.toArray,.int .i64 x,.int .i64 y,.int .i64 c] h λr h'=>r=.bool (decide (inP m x y c))∧Ext h h':=by
 apply ON;unfold FC;obtain⟨u,rfl,F⟩:=H;simp only[bC];refine aC λG h1 r1 A D=>?_
 simp only[go_sem,ai r1];refine⟨?_,A⟩
 congr 1
 rw[decide_eq_decide];unfold inP;omega
theorem YM {h:af}{Z:Nat→Prop}{cs:List Value}{m:Pic}(H:ug.R Z h cs m)(W:m.Wf){x y c:Int}:ae prog CF #[.agg cs.toArray,.int .i64 x,.int .i64 y,.int .i64 c] h λr h'=>r=.int .u16 (atP m x y c)∧Ext h h':=by
 apply OP;unfold FD;have H0:=H;obtain⟨u,rfl,U⟩:=H;simp only[bC];refine aC λb1 h1 r1 G n1=>?_
 rw[aI (l:=[.int .i64 m.w,.int .i64 m.h,.int .i64 m.c,.int .i64 m.most,u]) r1 5 rfl,ah];refine(YL (ug.ext H0 G)).mono λr h2 ⟨e,I⟩=>?_
 subst e;unfold atP;have r1:=I.row r1;have E:=G.trans I;by_cases hi:inP m x y c
 ·rw[if_pos hi];have hp:=EC W hi;have hf:=cq W.fits;have hl:=W.len;have F:=hi;unfold inP at F;simp only[go_sem,hi,ai r1];have a1:0≤x*m.c:=Int.mul_nonneg (by omega) (by omega);have a2:0≤y*m.w*m.c:=Int.mul_nonneg hp.1 (by omega);have L:y*m.w*m.c+x*m.c+c=kn m x y c:=by unfold kn;rw[Int.add_mul]
  rw[w64 (n:=y*m.w) (by omega) (by omega),w64 (n:=y*m.w*m.c) (by omega) (by omega),w64 (n:=x*m.c) (by omega) (by omega),w64 (n:=y*m.w*m.c+x*m.c) (by omega) (by omega),w64 (by omega) (by omega),L];obtain⟨i,D⟩:∃i:Nat,kn m x y c=(i:Int):=⟨(kn m x y c).toNat,by omega⟩
  rw[D,Int.toNat_natCast];have A:i<m.l.length:=by omega
  obtain⟨p,p1,p2⟩:=(U.ext E).int_at (k':=.i64) A;rw[p1,ah,p2,ah];refine⟨?_,E⟩;simp[List.getD_eq_getElem?_getD,A]
 ·rw[if_neg hi];simp only[go_sem,hi];exact⟨by simp,E⟩
theorem YZ {h:af}{Z:Nat→Prop}{v:Value}{l:List Int}(H:Rp.Sl rU Z h v l)(h0:0<l.length)(hl:l.length≤1000000000):
  ae prog fb #[v] h λr h'=>(∃x∈l,r=.int .u16 x)∧h'=h:=by
 apply nr;unfold hG;obtain⟨a,c,e⟩:=H.isSl;have L:aq v=some (.int .i64 (l.length:Int)):=by rw[e];rfl
 refine aV (λxs h'=>h'=h) ?_ ?_
 ·simp only[go_sem,L];rw[decide_eq_false (by omega),cf];trivial
 rintro xs ρj h1 hh;have hh:=hh.symm;subst hh;obtain⟨p,G,p2⟩:=H.int_at (k':=.i64) h0;have G:aR 1 v (.int .i64 0)=some p:=G;rw[G,ah,p2,ah];refine bB (α:=Int) l.length 1 (λi x=>[.int .u16 x,.int .i64 (i:Int)]) (λi x h'=>x∈l∧h'=h) l[0] rfl (by omega) ⟨List.getElem_mem _,rfl⟩ λi x h1 again ρj W hi ⟨U,F⟩ D=>?_
 have F:=F.symm;subst F;simp only[go_sem,L];refine aj (λh2=>?_) (λh2=>?_)
 ·have A:i<l.length:=by omega
  obtain⟨q,q1,q2⟩:=H.int_at (k':=.i64) A;simp only[go_sem,q1,q2];rw[w64 (by omega) (by omega)];refine D _ h A ⟨?_,rfl⟩;rcases Int.le_total x l[i]with I|I
  ·rw[Int.max_eq_right I];exact List.getElem_mem _
  ·rw[Int.max_eq_left I];exact U
 ·exact⟨⟨x,U,rfl⟩,trivial⟩
theorem ND {h:af}{Z:Nat→Prop}{v:Value}{l:List Int}{w hh c most:Int}(H:Rp.Sl rU Z h v l)(hc:y7 w hh c most=0)(hl:(l.length:Int)=w*hh*c)(hs:∀x∈l,0≤x∧x≤most):
  ae prog pL #[.int .i64 w,.int .i64 hh,.int .i64 c,.int .i64 most,v] h λr h'=>∃p,r=.tuple #[p,.int .i64 0]∧pU h h' p ⟨w,hh,c,most,l⟩:=by
 apply M8;unfold Dc;refine vA.mono λr h1 ⟨p,e,L,_,s1⟩=>?_
 subst e;obtain⟨b,u,rfl,I,nb,nu,_⟩:=s1 hc;obtain⟨f1,f2,f3⟩:=vz.1 hc;have hf:=cq f1;have W:=Ah hc;obtain⟨a,ca,e⟩:=H.isSl;have e2:aq v=some (.int .i64 (l.length:Int)):=by rw[e];rfl
 obtain⟨au,cu,eu⟩:=I.own.isSl;have il:((qP w hh c most).l.length:Int)=w*hh*c:=W.len;have D:aq u=some (.int .i64 (l.length:Int)):=by rw[eu,hl,←il];rfl
 have q4:aB h1 ⟨b,4,none⟩=some u:=ai I.row;simp only[go_sem,hc,e2,Nat.zero_add,q4,D];have h0:0<l.length:=by
  have a1:1≤w*hh:=by
   have:=Int.mul_le_mul (show(1:Int)≤w by omega) (show(1:Int)≤hh by omega) (by omega) (by omega);omega
  have:=Int.mul_le_mul a1 (show(1:Int)≤c by omega) (by omega) (by omega);omega
 refine(YZ (H.ext L) h0 (by omega)).mono λr h2 ⟨⟨x,hx,e⟩,F⟩=>?_
 have F:=F.symm;subst e F;have aa:=hs x hx;simp only[go_sem];rw[w64 (by omega) (by omega),decide_eq_false (by omega),cf];simp only[go_sem,Nat.zero_add,q4];have hn:(qP w hh c most).l.length=l.length:=by omega
 have A:=I.own;rw[hn]at A;obtain⟨ds,S,_,he⟩:=H.ext L;have G:ds=Gh l:=by
  have ab:ds.length=l.length*1:=S.1;apply List.ext_getElem
  ·simp;omega
  ·intro i U h4;have h5:=he i (by simpa using h4);have h6:Rp.el 1 ds i=[Value.int .u16 (l[i]'(by simpa using h4))]:=h5;rw[Rp.el_one U]at h6;simpa using h6
 subst G;refine Ef A S (λy hy=>by obtain⟨z,_,rfl⟩:=List.mem_map.1 hy;rfl) λU o3 f3 s3=>?_
 refine⟨_,rfl,b,u,rfl,⟨f3.row I.row I.ap,?_,I.ap⟩,nb,nu,L.then_fr f3 nu⟩;show Own 1 U u l.length (Gh l);have e5:(Gh l).take l.length++(Gh (qP w hh c most).l).drop l.length=Gh l:=by
  rw[List.take_of_length_le (by simp),List.drop_eq_nil_of_le (by simp;omega),List.append_nil]
 rw[←e5];exact o3
def zj (w h c most:Int)(l:List Int):Pic:=
 ⟨1+w%20,1+h%20,1+2*(c%2),1+most%65535,(List.range ((1+w%20)*(1+h%20)*(1+2*(c%2))).toNat).map λi=>if 0<l.length then(l.getD (i%l.length) 0+((i/l.length:Nat):Int))%(1+most%65535+1)else 0⟩
theorem Px (w h c:Int):1≤(1+w%20)*(1+h%20)*(1+2*(c%2))∧(1+w%20)*(1+h%20)*(1+2*(c%2))≤1200:=by
 have h1:=kT (a:=1+w%20) (A:=20) (b:=1+h%20) (B:=20) (by omega) (by omega) (by omega) (by omega);have D:=Int.mul_le_mul (show(1:Int)≤1+w%20 by omega) (show(1:Int)≤1+h%20 by omega) (by omega) (by omega);generalize(1+w%20)*(1+h%20)=a at*;have:c%2=0∨c%2=1:=by omega
 rcases this with h|h<;>rw[h]<;>omega
theorem Py (w h c most:Int)(l:List Int):(zj w h c most l).Wf:=by
 have D:=Px w h c;refine⟨⟨?_,?_,?_,?_,?_,?_⟩,?_,?_,?_,λx A=>?_⟩
 ·show 1≤1+w%20;omega
 ·show 1+w%20≤65536;omega
 ·show 1≤1+h%20;omega
 ·show 1+h%20≤65536;omega
 ·show 1+2*(c%2)=1∨1+2*(c%2)=3;omega
 ·show(1+w%20)*(1+h%20)*(1+2*(c%2))≤268435456;omega
 ·show 1≤1+most%65535;omega
 ·show 1+most%65535≤65535;omega
 ·show((List.map _ (List.range _)).length:Int)=(1+w%20)*(1+h%20)*(1+2*(c%2));rw[List.length_map,List.length_range];omega
 ·obtain⟨i,_,rfl⟩:=List.mem_map.1 A;show 0≤_∧_≤1+most%65535;split
  ·have:=Int.emod_nonneg (l.getD (i%l.length) 0+((i/l.length:Nat):Int)) (show 1+most%65535+1≠0 by omega);have:=Int.emod_lt_of_pos (l.getD (i%l.length) 0+((i/l.length:Nat):Int)) (show 0<1+most%65535+1 by omega);omega
  ·omega
theorem Own.at_mapU {h:af}{v:Value}{n:Nat}{g:Nat→Int}(H:Own 1 h v n ((List.range n).map λi=>Value.int .u16 (g i))){k:IntKind}{i:Nat}(hi:i<n):
  ∃p,aR 1 v (.int k (i:Int))=some p∧∀(x:Int) (K:Value→af→Prop),
   (∀h',Own 1 h' v n ((List.range n).map λj=>Value.int .u16 (if j=i then x else g j))→Fr (blk v) h h'→K undef h')→stK 1 p (.int .u16 x) h K:=by
 obtain⟨p,h1,F,D⟩:=Own.at1 H (k:=k) hi;refine⟨p,h1,λx K A=>D _ _ rfl λh' o f _=>A h' ?_ f⟩;rw[Bo _ _ _ _ hi]at o;have e:(λj=>if j=i then Value.int .u16 x else Value.int .u16 (g j))=λj=>Value.int .u16 (if j=i then x else g j):=by
  funext j;split<;>rfl
 rw[e]at o;exact o
abbrev U16 (n:Int):Prop:=0≤n∧n≤65535
theorem VH {h:af}{Z:Nat→Prop}{v:Value}{l:List Int}{w hh c most:Int}(H:Rp.Sl rU Z h v l)(hw:U16 w)(a7:U16 hh)(hc:U16 c)(hm:U16 most)(bd:∀x∈l,U16 x)(hl:l.length≤4611686018427387904):
  ae prog wV #[.int .u16 w,.int .u16 hh,.int .u16 c,.int .u16 most,v] h λr h'=>pU h h' r (zj w hh c most l):=by
 apply K3;unfold Bf;rw[cV _ _ _ _ (by omega),ah,cV _ _ _ _ (by omega)];simp only[go_sem];rw[cV _ _ _ _ (by omega)];simp only[go_sem];rw[Int.tmod_eq_emod_of_nonneg hw.1,Int.tmod_eq_emod_of_nonneg a7.1,Int.tmod_eq_emod_of_nonneg hc.1];rw[w64 (n:=w%20) (by omega) (by omega),w64 (n:=hh%20) (by omega) (by omega),w64 (n:=c%2) (by omega) (by omega),w64 (n:=2*(c%2)) (by omega) (by omega),w64 (n:=1+2*(c%2)) (by omega) (by omega),w64 (n:=most) (by omega) (by omega),
  w64 (n:=1+w%20) (by omega) (by omega),w64 (n:=1+hh%20) (by omega) (by omega)]
 rw[cV _ _ _ _ (by omega),ah,Int.tmod_eq_emod_of_nonneg hm.1];simp only[go_sem];have hb:=Px w hh c;have h1:=kT (a:=1+w%20) (A:=20) (b:=1+hh%20) (B:=20) (by omega) (by omega) (by omega) (by omega);rw[w64 (n:=1+most%65535) (by omega) (by omega),w64 (n:=(1+w%20)*(1+hh%20)) (by omega) (by omega),w64 (n:=(1+w%20)*(1+hh%20)*(1+2*(c%2))) (by omega) (by omega)];have PW:=Py w hh c most l;obtain⟨n,hn⟩:∃n:Nat,(1+w%20)*(1+hh%20)*(1+2*(c%2))=(n:Int):=⟨((1+w%20)*(1+hh%20)*(1+2*(c%2))).toNat,by omega⟩
 have ab:(zj w hh c most l).l=(List.range n).map λi=>if 0<l.length then(l.getD (i%l.length) 0+((i/l.length:Nat):Int))%(1+most%65535+1)else 0:=by unfold zj;rw[hn];rfl
 rw[hn];obtain⟨D,F⟩:∃D,1+most%65535=D:=⟨_,rfl⟩
 rw[F]at ab ⊢;have ax:1≤D∧D≤65535:=by omega
 refine lQ rfl (by omega) (by omega) λu h2 o2 e2 n2=>?_
 obtain⟨au,cu,eu⟩:=o2.isSl;have be:aq u=some (.int .i64 (n:Int)):=by rw[eu];rfl
 obtain⟨al,cl,el⟩:=H.isSl;have L:aq v=some (.int .i64 (l.length:Int)):=by rw[el];rfl
 rw[be,ah];have H:=H.mono (Z':=λc=>c<h.size) λc hc _=>hc
 generalize hg:(λi:Nat=>if 0<l.length then(l.getD (i%l.length) 0+((i/l.length:Nat):Int))%(D+1)else 0)=g at*;have aa:∀i,g i=if 0<l.length then(l.getD (i%l.length) 0+((i/l.length:Nat):Int))%(D+1)else 0:=λi=>by rw[←hg]
 refine bB (α:=Unit) n 0 (λi _=>[.int .i64 (i:Int)]) (λi _ h'=>Ext h h'∧Own 1 h' u n ((List.range n).map λj=>Value.int .u16 (if j<i then g j else 0))) () rfl (Nat.zero_le _)
  ⟨e2,by
   have e:List.replicate n (Value.int .u16 0)=(List.range n).map λj=>Value.int .u16 (if j<0 then g j else 0):=by apply List.ext_getElem<;>simp
   rw[←e];exact o2⟩ λi _ h3 again ρj _ hi ⟨E3,o3⟩ aw=>?_
 simp only[go_sem];have ad:∀j,(if j=i then g i else if j<i then g j else 0)=if j<i+1 then g j else 0:=λj=>by
  by_cases h1:j=i
  ·subst h1;simp
  ·rw[if_neg h1];by_cases h2:j<i
   ·rw[if_pos h2,if_pos (by omega)]
   ·rw[if_neg h2,if_neg (by omega)]
 refine aj (λh4=>?_) (λh4=>?_)
 ·have I:i<n:=by omega
  rw[L,ah];simp only[go_sem];refine aj (λh5=>?_) (λh5=>?_)
  ·have an:0<l.length:=by omega
   refine aG (λh'=>h'=h3) rfl ?_;refine ao (.int .i64 (l.length:Int)) (λh' e=>by first|exact L|rfl) ?_;rw[cV _ _ _ _ (by omega),ah,Int.tmod_eq_emod_of_nonneg (by omega),show(i:Int)%(l.length:Int)=((i%l.length:Nat):Int)by omega];have W:i%l.length<l.length:=Nat.mod_lt _ an;obtain⟨p,p1,p2⟩:=(H.ext E3).int_at (k':=.i64) W;rw[p1,ah];refine ao _ (λh' e=>by rw[e];exact p2) ?_;have hx:=bd _ (List.getElem_mem W);simp only[go_sem];refine ao (.int .i64 (l.length:Int)) (λh' e=>by first|exact L|rfl) ?_;have bk:i/l.length≤i:=Nat.div_le_self _ _;have G:=aa i;rw[kr _ _ _ _ (by omega),ah,Int.tdiv_eq_ediv_of_nonneg (by omega),show(i:Int)/(l.length:Int)=((i/l.length:Nat):Int)by omega];generalize i/l.length=dq at bk G ⊢;rw[w64 (n:=(dq:Int)) (by omega) (by omega)];simp only[go_sem];rw[w64 (n:=l[i%l.length]) (by omega) (by omega),w64 (n:=l[i%l.length]+(dq:Int)) (by omega) (by omega),w64 (n:=D+1) (by omega) (by omega)];rw[cV _ _ _ _ (by omega),ah,Int.tmod_eq_emod_of_nonneg (by omega)];simp only[go_sem];have m1:=Int.emod_nonneg (l[i%l.length]+(dq:Int)) (show D+1≠0 by omega);have m2:=Int.emod_lt_of_pos (l[i%l.length]+(dq:Int)) (show 0<D+1 by omega);rw[SR m1 (by omega)];have bg:(l[i%l.length]+(dq:Int))%(D+1)=g i:=by
    rw[G,if_pos an];simp[List.getD_eq_getElem?_getD,W]
   rw[bg];obtain⟨q,q1,q2⟩:=Own.at_mapU o3 (k:=.i64) I;rw[q1,ah];refine q2 _ _ λh6 o6 f6=>?_
   rw[w64 (by omega) (by omega)];refine aw () h6 I ⟨E3.then_fr f6 n2,?_⟩;simp only[ad]at o6;exact o6
  ·rw[w64 (by omega) (by omega)];refine aw () h3 I ⟨E3,?_⟩;have a9:g i=0:=by rw[aa,if_neg (by omega)]
   rw[←bH (g:=λj=>Value.int .u16 (if j<i then g j else 0)) λj _=>by
    congr 1
    rw[←ad j,a9];by_cases h1:j=i
    ·rw[if_pos h1,if_neg (by omega)]
    ·rw[if_neg h1]]
   exact o3
 ·have bo:i=n:=by omega
  subst bo;have o4:Own 1 h3 u (zj w hh c most l).l.length (Gh (zj w hh c most l).l):=by
   rw[ab,List.length_map,List.length_range,Gh,List.map_map];rw[←bH (g:=λj=>Value.int .u16 (if j<i then g j else 0)) λj hj=>by rw[if_pos hj];rfl];exact o3
  have U:y7 (1+w%20) (1+hh%20) (1+2*(c%2)) D=0:=vz.2 ⟨PW.fits,ax.1,ax.2⟩;have ar:=PW.len;refine(ND (EE o4) U ar λx hx=>by have:=PW.smp x hx;rw[show(zj w hh c most l).most=D from F]at this;exact this).mono λr h5 ⟨p,e,N⟩=>?_
  subst e;simp only[go_sem];have N2:pU h3 h5 p (zj w hh c most l):=by
   have:zj w hh c most l=⟨1+w%20,1+hh%20,1+2*(c%2),D,(zj w hh c most l).l⟩:=by rw[←F];rfl
   rw[this];exact N
  obtain⟨b,x,e1,bi,bc,ay,a8⟩:=N2;exact⟨b,x,e1,bi,Nat.le_trans E3.1 bc,λc hc=>Nat.le_trans E3.1 (ay c hc),E3.trans a8⟩
theorem Ac {k:IntKind}{h:af}{b:Nat}{t:TypeId}{l:List Int}{n:Nat}(D:l.length=n)(G:h[b]? =some (.cells (l.map λn=>Value.int k n).toArray t (0,0))):Rp.Sl (Rp.int k) (λk=>k=b) h (.slice (some ⟨b,0,none⟩) n n) l:=by
 subst D;refine⟨l.map (Value.int k),⟨by simp[Rp.int],_,_,rfl,.inr ⟨b,0,rfl,λj A=>?_⟩⟩,λ_ k F=>F,λi hi=>?_⟩
 ·rw[Nat.zero_add,ai G];simp at A;simp[A]
 ·show Rp.el 1 _ i=[.int k l[i]];rw[Rp.el_one (by simpa using hi),List.getElem_map]
theorem TU {h:af}(G:dA h):ae prog uK #[] h λr h'=>r=.bool true∧Ext h h':=by
 apply IH;unfold yv;refine(PG G).mono λw h1 ⟨u,e,N⟩=>?_
 subst e;have U:dS 0 4 2 1=2:=by decide+kernel
 have e2:cL 0 4 2 1=[536870912,536870912]:=by decide+kernel
 rw[U];rw[e2]at N;obtain⟨a,c,eu⟩:=N.isSl;have L:aq u=some (.int .i64 2):=by rw[eu];rfl
 obtain⟨p,D,F⟩:=N.sl.int_at (k':=.i64) (i:=0) (by simp);obtain⟨q,H,I⟩:=N.sl.int_at (k':=.i64) (i:=1) (by simp);have D:aR 1 u (.int .i64 0)=some p:=D;have H:aR 1 u (.int .i64 1)=some q:=H;have F:ldV h1 p=some (.int .i64 536870912):=F;have I:ldV h1 q=some (.int .i64 536870912):=I;simp only[go_sem,L,D,F,H,I,eq_self,decide_true];refine(RF (by omega) (by unfold I64;omega)).mono λw h2 ⟨e,A⟩=>?_
 have A:=A.symm;subst e A;have k1:D4 0 1=1073741824:=by decide+kernel
 have W:D4 1 2=603979776:=by decide+kernel
 rw[k1];simp only[go_sem,eq_self,decide_true];refine(RF (by omega) (by unfold I64;omega)).mono λw h2 ⟨e,A⟩=>?_
 have A:=A.symm;subst e A;rw[W];simp only[go_sem,eq_self,decide_true];exact⟨by simp,N.2.1⟩
theorem TT {h:af}:ae prog uJ #[] h λr h'=>r=.bool true∧Ext h h':=by
 apply IG;unfold yu;refine cH (c':=#[.int .i64 536870912,.int .i64 536870912,.int .i64 536870912]) rfl λb1 h1 r1 U n1=>?_
 have L:=Ac (k:=.i64) (l:=[536870912,536870912,536870912]) (n:=3) rfl r1;have w1:∀x∈[(536870912:Int),536870912,536870912],I64 x:=by simp[I64]
 refine(zD L w1 (by simp)).mono λw h2 ⟨u,e,N⟩=>?_
 subst e;have a1:cn [536870912,536870912,536870912]=0:=by decide+kernel
 have a2:bS [536870912,536870912,536870912]=[5462,5461,5461]:=by decide+kernel
 rw[a1];rw[a2]at N;simp only[go_sem];refine(JZ (by unfold I64;omega)).mono λw h3 ⟨x,e,M⟩=>?_
 subst e;have D:Ci 65536=0:=by decide+kernel
 have F:(lT 65536).length=7:=by decide+kernel
 rw[D];obtain⟨ax,cx,ex⟩:=M.isSl;have G:aq x=some (.int .i64 7):=by rw[ex,F];rfl
 simp only[go_sem,eq_self,decide_true];refine cH (c':=#[.int .i64 5462,.int .i64 5461,.int .i64 5461]) rfl λb4 h4 W H n4=>?_
 have I:=Ac (k:=.i64) (l:=[5462,5461,5461]) (n:=3) rfl W;refine(PS (N.sl.ext (M.2.1.trans H)) I (by simp)).mono λw h5 ⟨e,A⟩=>?_
 have A:=A.symm;subst e A;simp only[go_sem,eq_self,decide_true,G];exact⟨by simp,U.trans (N.2.1.trans (M.2.1.trans H))⟩
theorem LJ:eS 0 4 2=⟨4,[(0,[8192,8192]),(2,[8192,8192])]⟩:=by
 have e:(eS 0 4 2).lines=[(0,[8192,8192]),(2,[8192,8192])]:=by decide+kernel
 show(⟨4,(eS 0 4 2).lines⟩:Tbl)=_;rw[e]
theorem EY:(⟨4,[(0,[8192,8192]),(2,[8192,8192])]⟩:Tbl).Wf:=by
 constructor<;>simp
theorem TR {h:af}(G:dA h):ae prog uI #[] h λr h'=>r=.bool true∧Ext h h':=by
 apply IF;unfold yt;refine(TU G).mono λw h1 ⟨e,e1⟩=>?_
 subst e;simp only[go_sem];refine TT.mono λw h2 ⟨e,e2⟩=>?_
 subst e;simp only[go_sem];refine(JY (G.ext (e1.trans e2)) (by unfold I64;omega) (by unfold I64;omega) (by unfold I64;omega)).mono λw h3 ⟨p,e,e3,_,s1⟩=>?_
 subst e;have a1:dx 0 4 2=0:=by decide+kernel
 have T:=s1 a1;rw[LJ]at T;rw[a1];obtain⟨pb,_,_,hp,_⟩:=T;have T:=s1 a1;rw[LJ]at T;have np:ag .p .eql p (.pointer none)=some (.bool false):=by rw[hp];rfl
 simp only[go_sem,eq_self,decide_true,np];refine(zy T EY).mono λw h4 ⟨u,e,U,F⟩=>?_
 subst e;have l1:aW ⟨4,[(0,[8192,8192]),(2,[8192,8192])]⟩ 1=(2,[8192,8192]):=by rfl
 rw[l1]at U ⊢;refine cD (cs:=[.int .i64 2,u]) rfl (ak rfl (ak U.one aQ)) rfl λb5 h5 r5 A n5=>?_
 refine(NH (T.ext (F.trans A)) EY (by unfold I64;omega) (by unfold I64;omega)).mono λw h6 ⟨e,D⟩=>?_
 subst e;have l2:uf ⟨4,[(0,[8192,8192]),(2,[8192,8192])]⟩ 0 2=(0,4):=by decide+kernel
 rw[l2];simp only[go_sem];refine(zy (T.ext (F.trans (A.trans D))) EY).mono λw h7 ⟨u2,e,U2,I⟩=>?_
 subst e;have l0:aW ⟨4,[(0,[8192,8192]),(2,[8192,8192])]⟩ 0=(0,[8192,8192]):=by rfl
 rw[l0];have pv:mT false 1 0 (.agg #[.int .i64 0,u2])=some (.int .i64 0):=rfl;have L:=(D.trans I).row r5;simp only[go_sem,pv,eq_self,decide_true,ai L];refine cH (c':=#[.int .i64 8192,.int .i64 8192]) rfl λb8 h8 r8 W n8=>?_
 have S8:=Ac (k:=.i64) (l:=[8192,8192]) (n:=2) rfl r8;refine(PS (U.ext (A.trans (D.trans (I.trans W)))) S8 (by simp)).mono λw h9 ⟨e,H⟩=>?_
 have H:=H.symm;subst e H;simp only[go_sem,eq_self,decide_true];exact⟨by simp,e1.trans (e2.trans (e3.trans (F.trans (A.trans (D.trans (I.trans W))))))⟩
theorem yJ {Z:Nat→Prop}{h:af}{k b s r f w hh:Int}:rOp.R Z h [.int .i64 k,.int .i64 b,.int .i64 s,.int .i64 r,.slice none 0 0,.slice none 0 0,.int .i64 f,.int .i64 w,.int .i64 hh] ⟨k,b,s,r,[],[],f,w,hh⟩:=⟨_,_,rfl,Rp.Sl.nil,Rp.Sl.nil⟩
theorem yI {k b s r f w hh:Int}(h:∀x∈[k,b,s,r,f,w,hh],I64 x):OpD.Wf ⟨k,b,s,r,[],[],f,w,hh⟩:=by
 constructor<;>first|exact h _ (by simp)|simp
theorem JU {h:af}(G:dA h):ae prog oD #[] h λr h'=>r=.bool true∧Ext h h':=by
 apply IC;unfold yp;have hf:(aE #[(.int .i64 0),(.int .i64 0),(.int .i64 0),(.int .i64 0),(.slice none 0 0),(.slice none 0 0),(.int .i64 0),(.int .i64 0),(.int .i64 0)] [(0,1,(.int .i64 3)),(7,1,(.int .i64 2)),(8,1,(.int .i64 1)),(6,1,(.int .i64 0))])=some #[.int .i64 3,.int .i64 0,.int .i64 0,.int .i64 0,.slice none 0 0,.slice none 0 0,.int .i64 0,.int .i64 2,.int .i64 1]:=rfl;rw[hf,bA,ah];have wf:OpD.Wf ⟨3,0,0,0,[],[],0,2,1⟩:=yI (by simp[I64]);refine(Fl (Z:=λ_=>True) G yJ wf (by simp) (by simp) (by unfold I64;omega) (by unfold I64;omega)).mono λw h1 ⟨sv,e,e1,_,s1⟩=>?_
 subst e;have a1:dT ⟨3,0,0,0,[],[],0,2,1⟩ 4 3=0:=by decide+kernel
 obtain⟨p,q,rfl,tp,tq⟩:=s1 a1;rw[a1];simp only[go_sem];refine cD (cs:=[p,q,.int .i64 _]) rfl (ak (kE tp) (ak (kE tq) (ak rfl aQ))) rfl λb2 h2 r2 W n2=>?_
 refine(TR (G.ext (e1.trans W))).mono λw h3 ⟨e,I⟩=>?_
 subst e;have D:=I.row r2;have H:=tp.ext (W.trans I);have F:=tq.ext (W.trans I);have U:ag .p .neq p (.pointer none)=some (.bool true):=by obtain⟨_,_,_,hp,_⟩:=tp;rw[hp];rfl
 have L:ag .p .neq q (.pointer none)=some (.bool true):=by obtain⟨_,_,_,hp,_⟩:=tq;rw[hp];rfl
 simp only[go_sem,eq_self,decide_true,ai D,U,L];refine(NL H).mono λw h4 ⟨e,A⟩=>?_
 have A:=A.symm;subst e A;have t1:(bL ⟨3,0,0,0,[],[],0,2,1⟩ 4 3).x.n=4:=rfl;have t2:((bL ⟨3,0,0,0,[],[],0,2,1⟩ 4 3).x.lines.length:Int)=2:=by decide+kernel
 have t3:(bL ⟨3,0,0,0,[],[],0,2,1⟩ 4 3).y.n=3:=rfl;have t4:((bL ⟨3,0,0,0,[],[],0,2,1⟩ 4 3).y.lines.length:Int)=1:=by decide+kernel
 rw[t1];simp only[go_sem,eq_self,decide_true,ai D,U,L];refine(AD H).mono λw h4 ⟨e,A⟩=>?_
 have A:=A.symm;subst e A;rw[t2];simp only[go_sem,eq_self,decide_true,ai D,U,L];refine(NL F).mono λw h4 ⟨e,A⟩=>?_
 have A:=A.symm;subst e A;rw[t3];simp only[go_sem,eq_self,decide_true,ai D,U,L];refine(AD F).mono λw h4 ⟨e,A⟩=>?_
 have A:=A.symm;subst e A;rw[t4];simp only[go_sem,eq_self,decide_true];exact⟨by simp,e1.trans (W.trans I)⟩
theorem TQ {h:af}:ae prog uH #[] h λr h'=>r=.bool true∧Ext h h':=by
 apply ID;unfold yq;refine vA.mono λw h1 ⟨p,e,F,_,L⟩=>?_
 subst e;have a1:y7 2 1 3 255=0:=by decide+kernel
 obtain⟨b,v,rfl,I,nb,nv,_⟩:=L a1;have W:=Ah a1;rw[a1];have G:ag .p .neq (ptr b) (.pointer none)=some (.bool true):=rfl;simp only[go_sem,eq_self,decide_true,G];refine(Mm I W).mono λu h2 N=>?_
 obtain⟨au,cu,H⟩:=N.isSl;have A:aq u=some (.int .i64 6):=by rw[H];rfl
 simp only[go_sem,eq_self,decide_true,A];refine(SD (I.ext N.2.1) W (by omega) (by omega)).mono λr h3 ⟨e,D,f3,s3⟩=>?_
 subst e;have a2:¬(inP (qP 2 1 3 255) 1 0 2∧(256:Int)≤(qP 2 1 3 255).most):=by decide+kernel
 rw[if_neg a2]at D;rw[decide_eq_false a2];simp only[go_sem];refine(SD D W (by omega) (by omega)).mono λr h4 ⟨e,U,f4,s4⟩=>?_
 subst e;have a3:inP (qP 2 1 3 255) 1 0 2∧(255:Int)≤(qP 2 1 3 255).most:=by decide+kernel
 rw[decide_eq_true a3];simp only[go_sem];exact⟨by simp,((F.trans N.2.1).then_fr f3 nv).then_fr f4 nv⟩
def atZ (p j n:Int):Int:=if n<1∨65536<n then 0 else if p=0 then max 0 (min j (n-1))else if p=1 then min (j%(2*n)) (2*n-1-j%(2*n))else if p=2 then j%n else 0
theorem Y8 {p j n:Int}(h1:1≤n)(A:n≤65536):0≤atZ p j n∧atZ p j n<n:=by
 unfold atZ;rw[if_neg (by omega)];have a1:=Int.emod_nonneg j (show 2*n≠0 by omega);have a2:=Int.emod_lt_of_pos j (show 0<2*n by omega);have a3:=Int.emod_nonneg j (show n≠0 by omega);have a4:=Int.emod_lt_of_pos j (show 0<n by omega);split
 ·omega
 ·split
  ·omega
  ·split<;>omega
theorem sh {h:af}{p j n:Int}(F:I64 j):ae prog jJ #[.int .i64 p,.int .i64 j,.int .i64 n] h λr h'=>r=.int .i64 (atZ p j n)∧h'=h:=by
 apply Nl;unfold Dp atZ;simp only[go_sem];refine aj (λh0=>?_) (λh0=>?_)
 ·rw[if_pos h0];exact⟨rfl,trivial⟩
 rw[if_neg h0];have a1:=Int.emod_nonneg j (show 2*n≠0 by omega);have a2:=Int.emod_lt_of_pos j (show 0<2*n by omega);refine aj (λh1=>?_) (λh1=>?_)
 ·rw[if_pos h1,w64 (by omega) (by omega)];exact SH
 rw[if_neg h1];refine aj (λD=>?_) (λD=>?_)
 ·rw[if_pos D,w64 (n:=2*n) (by omega) (by omega)];refine(VS F (by unfold I64;omega) (by omega)).mono λv h' ⟨e,w⟩=>?_
  subst e;simp only[go_sem];rw[w64 (n:=2*n-1) (by omega) (by omega),w64 (by omega) (by omega)];exact⟨rfl,w⟩
 rw[if_neg D];refine aj (λA=>?_) (λA=>?_)
 ·rw[if_pos A];exact VS F (by unfold I64;omega) (by omega)
 ·rw[if_neg A];exact⟨rfl,trivial⟩
theorem Uk (j b:Int)(A:0<b):(0≤j.tmod b∧j.tmod b=j%b)∨(j.tmod b<0∧j.tmod b=j%b-b):=by
 have e:= @Int.emod_eq_tmod j b;have F:=Int.emod_nonneg j (show b≠0 by omega);have D:=Int.emod_lt_of_pos j A;split at e
 ·left;omega
 ·by_cases h:j.tmod b<0
  ·right;omega
  ·omega
theorem Vw {h:af}{p j n:Int}(hj:I64 j):ae prog wJ #[.int .i64 p,.int .i64 j,.int .i64 n] h λr h'=>r=.int .i64 (atZ p j n)∧h'=h:=by
 apply OQ;unfold FE atZ;simp only[go_sem];refine aj (λh0=>?_) (λh0=>?_)
 ·refine⟨?_,trivial⟩
  congr 1
  split
  ·rfl
  ·split
   ·omega
   ·split
    ·omega
    ·split
     ·omega
     ·rfl
 rw[if_neg (by omega)];have a1:=Int.emod_nonneg j (show 2*n≠0 by omega);have a2:=Int.emod_lt_of_pos j (show 0<2*n by omega);have a3:=Int.emod_emod_of_dvd j (show n∣2*n from⟨2,by omega⟩);refine aj (λh1=>?_) (λh1=>?_)
 ·refine⟨?_,trivial⟩
  congr 1
  have U:=Int.emod_eq_of_lt h1.1 (show j<2*n by omega);have W:=Int.emod_eq_of_lt h1.1 h1.2;rw[U,W];split
  ·omega
  ·split
   ·omega
   ·split<;>omega
 refine aj (λG=>?_) (λG=>?_)
 ·rw[if_pos G];refine aj (λA=>?_) (λA=>?_)
  ·exact⟨by congr 1;omega,trivial⟩
  ·rw[w64 (by omega) (by omega)];exact⟨by congr 1;omega,trivial⟩
 rw[if_neg G,w64 (n:=2*n) (by omega) (by omega),cV _ _ _ _ (by omega),ah];have fin:∀r:Int,r=j%(2*n)→aA (.bool (decide (r<n))) (Value.int .i64 r=.int .i64 (if p=1 then min (j%(2*n)) (2*n-1-j%(2*n))else if p=2 then j%n else 0)∧True)
   (aA (.bool (decide (p=2))) (Value.int .i64 (IntKind.i64.wrap (r-n))=.int .i64 (if p=1 then min (j%(2*n)) (2*n-1-j%(2*n))else if p=2 then j%n else 0)∧True)
    (Value.int .i64 (IntKind.i64.wrap (IntKind.i64.wrap (2*n-1)-r))=.int .i64 (if p=1 then min (j%(2*n)) (2*n-1-j%(2*n))else if p=2 then j%n else 0)∧True)):=by
  intro r L;rw[←a3,←L];rw[←L]at a1 a2;refine aj (λA=>?_) (λA=>?_)
  ·have e:=Int.emod_eq_of_lt a1 A;refine⟨?_,trivial⟩
   congr 1
   rw[e];split
   ·omega
   ·split<;>omega
  ·have e:r%n=r-n:=by
    rw[←Int.sub_emod_right];exact Int.emod_eq_of_lt (by omega) (by omega)
   refine aj (λD=>?_) (λD=>?_)
   ·rw[w64 (by omega) (by omega)];refine⟨?_,trivial⟩
    congr 1
    rw[if_neg (by omega),if_pos D,e]
   ·rw[w64 (n:=2*n-1) (by omega) (by omega),w64 (by omega) (by omega)];refine⟨?_,trivial⟩
    congr 1
    rw[if_pos (by omega)];omega
 rcases Uk j (2*n) (by omega)with⟨t1,t2⟩|⟨t1,t2⟩
 ·refine iH (λ_=>[.int .i64 (j.tmod (2*n))]) 0 0 rfl (Nat.le_refl _) λk again ρj _ hk _=>?_
  simp only[go_sem];refine aj (λA=>absurd A (by omega)) (λA=>?_);exact fin _ t2
 ·refine iH (λk=>[.int .i64 (j.tmod (2*n)+(k:Int)*(2*n))]) 1 0 (by simp) (by omega) λk again ρj _ hk H=>?_
  simp only[go_sem];refine aj (λA=>?_) (λA=>?_)
  ·have F:k=0:=by
    rcases Nat.eq_zero_or_pos k with D|D
    ·exact D
    ·have:k=1:=by omega
     subst this;omega
   subst F;have H:=H (by omega);rw[w64 (by omega) (by omega)];simpa using H
  ·have I:k=1:=by
    rcases Nat.eq_zero_or_pos k with D|D
    ·subst D;simp at A;omega
    ·omega
   subst I;have e:j.tmod (2*n)+((1:Nat):Int)*(2*n)=j%(2*n):=by omega
   rw[e];exact fin _ rfl
end Go.Proofs.YtcoimlclclnlkaaGreatDoor
namespace Go.Crisp
open Go
def fh (f:Nat→Int):Nat→Int
 |0=>0
 |n+1=>fh f n+f n
theorem vR {f g:Nat→Int}:∀{n:Nat},(∀i,i<n→f i=g i)→fh f n=fh g n
 |0,_=>rfl
 |n+1,h=>by unfold fh;rw[vR λi hi=>h i (by omega),h n (by omega)]
theorem G8 (a:Int)(f:Nat→Int):∀n,fh (λi=>a*f i) n=a*fh f n
 |0=>by simp[fh]
 |n+1=>by unfold fh;rw[G8 a f n,Int.mul_add]
theorem Oc (f g:Nat→Int):∀n,fh (λi=>f i+g i) n=fh f n+fh g n
 |0=>by simp[fh]
 |n+1=>by unfold fh;rw[Oc f g n];omega
theorem Ln:∀n,fh (λ_=>0) n=0
 |0=>rfl
 |n+1=>by unfold fh;rw[Ln n];rfl
theorem Lp (f:Nat→Nat→Int)(m:Nat):∀n,fh (λi=>fh (λj=>f i j) m) n=fh (λj=>fh (λi=>f i j) n) m
 |0=>by simp only[fh];rw[Ln]
 |n+1=>by
  simp only[fh];rw[Lp f m n,←Oc]
theorem zY (A a v:Int):IntKind.i64.wrap (IntKind.i64.wrap A+IntKind.i64.wrap (a*v))=IntKind.i64.wrap (A+a*v):=by rw[ri,mY]
theorem Qe (A a b v:Int):IntKind.i64.wrap (IntKind.i64.wrap A+IntKind.i64.wrap (IntKind.i64.wrap (a*b)*v))=IntKind.i64.wrap (A+b*(a*v)):=by
 rw[vM,ri,mY]
 congr 1
 rw[Int.mul_comm a b,Int.mul_assoc]
def pS (s most:Int):Int:=max 0 (min (kQ s 28) (max 0 (min most 65535)))
theorem Lz (s:Int){most:Int}(h:0≤most):0≤pS s most∧pS s most≤65535∧pS s most≤most:=by unfold pS;omega
end Go.Crisp
namespace Go.Proofs.YtcoimlclclnlkaaGreatDoor
open Go Go.Crisp
attribute [local irreducible] ae cF aP stK aA vK qK bD gK dE aS mkK cG Cn DS Ad bsK clK
open _root_.Go.Proofs.Tryz
def nW (m:Pic)(s:Stg)(x row c:Int):Int:=fh (λi=>(aW s.x x).2.getD i 0*atP m (atZ s.border ((aW s.x x).1+i) m.w) row c) (aW s.x x).2.length
def BA (m:Pic)(s:Stg)(x y c:Int):Int:=fh (λk=>(aW s.y y).2.getD k 0*nW m s x (atZ s.border ((aW s.y y).1+k) m.h) c) (aW s.y y).2.length
def ui (m:Pic)(s:Stg)(x y c:Int):Int:=pS (IntKind.i64.wrap (BA m s x y c)) m.most
structure Stg.Wf (s:Stg):Prop where
 x:s.x.Wf
 y:s.y.Wf
def lG (m:Pic)(s:Stg):Prop:=s.x.n=m.w∧s.y.n=m.h∧0≤s.border∧s.border<3
instance (m:Pic)(s:Stg):Decidable (lG m s):=by unfold lG;infer_instance
theorem SF {h:af}{n most:Int}(D:I64 n):ae prog mC #[.int .i64 n,.int .i64 most] h λr h'=>r=.int .u16 (pS n most)∧h'=h:=by
 apply GD;unfold xq;refine(GT D (by unfold I64;omega)).mono λr h1 ⟨e,A⟩=>?_
 have A:=A.symm;subst e A;simp only[go_sem];refine SH.mono λr h1 ⟨e,A⟩=>?_
 have A:=A.symm;subst e A;simp only[go_sem];rw[SR (by omega) (by omega)];exact⟨rfl,trivial⟩
theorem gX {Z:Nat→Prop}{h:af}{sv:Value}{s:Stg}(H:mV Z h sv s):∃p q,sv=.agg #[p,q,.int .i64 s.border]∧dZ Z h p s.x∧dZ Z h q s.y∧(∀v∈[p,q,Value.int .i64 s.border],aJ v=true):=by
 obtain⟨p,q,e,A,hq⟩:=H;exact⟨p,q,e,A,hq,ak (kE A) (ak (kE hq) (ak rfl aQ))⟩
theorem Et {Z:Nat→Prop}{h:af}{p:Value}{t:Tbl}(H:dZ Z h p t):ag .p .neq p (.pointer none)=some (.bool true)∧ag .p .eql p (.pointer none)=some (.bool false):=by
 obtain⟨_,_,_,A,_⟩:=H;rw[A];exact⟨rfl,rfl⟩
theorem GS {h:af}(G:dA h){Z:Nat→Prop}{b:Nat}{v sv:Value}{m:Pic}{s:Stg}(H:cA h b v m)(HS:mV Z h sv s):ae prog ij #[ptr b,sv] h λr h'=>r=.bool (decide (lG m s))∧Ext h h':=by
 apply GC;unfold xp;obtain⟨p,q,rfl,U,hq,aa⟩:=gX HS;simp only[bC];refine aC λW h1 r1 I n1=>?_
 have np:=(Et U).1;have nq:=(Et hq).1;have U:=U.ext I;have hq:=hq.ext I;have H:=H.ext I;have q0:aB h1 ⟨W,0,none⟩=some p:=ai r1;have q1:aB h1 ⟨W,1,none⟩=some q:=ai r1;have q2:aB h1 ⟨W,2,none⟩=some (.int .i64 s.border):=ai r1;simp only[go_sem,Nat.zero_add,q0,q1,q2,np,nq];refine(NL U).mono λr L ⟨e,A⟩=>?_
 have A:=A.symm;subst e A;refine(nV H).mono λr L ⟨e,A⟩=>?_
 have A:=A.symm;subst e A;simp only[go_sem];by_cases h1':s.x.n=m.w
 ·simp only[go_sem,h1',q1,q2];refine(NL hq).mono λr L ⟨e,A⟩=>?_
  have A:=A.symm;subst e A;refine(lW H).mono λr L ⟨e,A⟩=>?_
  have A:=A.symm;subst e A;simp only[go_sem];by_cases D:s.y.n=m.h
  ·simp only[go_sem,D,q2];refine(Ej (G.ext I)).mono λr L ⟨e,A⟩=>?_
   have A:=A.symm;subst e A
   try rw[SN,Kf]
   simp only[go_sem];refine⟨?_,I⟩
   congr 1
   have hb:=P5 s.border;by_cases F:Ki s.border=[]
   ·rw[decide_eq_false (by simpa using F),decide_eq_false];unfold lG;have:=hb.1 F;rintro⟨_,_,a,b⟩;exact this ⟨a,b⟩
   ·rw[decide_eq_true (by simpa using F),decide_eq_true];have:=Decidable.of_not_not λhh=>F (hb.2 hh)
    exact⟨h1',D,this.1,this.2⟩
  ·simp only[go_sem,D];refine⟨?_,I⟩;rw[decide_eq_false];rintro⟨_,a,_⟩;exact D a
 ·simp only[go_sem,h1'];refine⟨?_,I⟩;rw[decide_eq_false];rintro⟨a,_⟩;exact h1' a
abbrev LV:Type:=Option (Nat×Option Bool)
abbrev RP:Array Value:=#[.int .i64 0,.slice none 0 0]
def DW (h:af)(Lx Ly:Int×List Int)(ux uy:Option Value)(b:Nat):Option Bool→Prop
 |none=>h[b]? =some (.cells RP 235 (0,0))
 |some true=>∃u,ux=some u∧Two h b 235 (.int .i64 Lx.1) u
 |some false=>∃u,uy=some u∧Two h b 235 (.int .i64 Ly.1) u
theorem DW.row {h:af}{A F:Int×List Int}{G D:Option Value}{b:Nat}:∀{s:Option Bool},DW h A F G D b s→b<h.size
 |none,H=>aU H
 |some true,⟨u,_,r⟩=>aU r
 |some false,⟨u,_,r⟩=>aU r
theorem DW.up {h h':af}{F I:Int×List Int}{L G A D:Option Value}{b:Nat}(e:h'[b]? =h[b]?)(W:∀u,L=some u→A=some u)(U:∀u,G=some u→D=some u):∀{s:Option Bool},DW h F I L G b s→DW h' F I A D b s
 |none,H=>by show h'[b]? =_;rw[e];exact H
 |some true,⟨u,hu,r⟩=>⟨u,W u hu,by show h'[b]? =_;rw[e];exact r⟩
 |some false,⟨u,hu,r⟩=>⟨u,U u hu,by show h'[b]? =_;rw[e];exact r⟩
def apart (v1 v2:LV)(c:Nat):Prop:=(∀p,v1=some p→p.1≠c)∧(∀p,v2=some p→p.1≠c)
structure eB (h0:af)(Lx Ly:Int×List Int)(ux uy:Option Value)(v1 v2:LV)(h:af):Prop where
 ext:Ext h0 h
 lx:∀u,ux=some u→SlI (apart v1 v2) h u Lx.2
 ly:∀u,uy=some u→SlI (apart v1 v2) h u Ly.2
 at1:∀p,v1=some p→h0.size≤p.1∧DW h Lx Ly ux uy p.1 p.2
 at2:∀p,v2=some p→h0.size≤p.1∧DW h Lx Ly ux uy p.1 p.2
 dis:∀p q,v1=some p→v2=some q→p.1≠q.1
theorem eB.start (h:af)(A D:Int×List Int):eB h A D none none none none h:=⟨Ext.refl _,by simp,by simp,by simp,by simp,by simp⟩
theorem eB.line_x {h0 h:af}{D:Option Value}{I L:LV}{F:Int×List Int}{Z:Nat→Prop}{p:Value}{t:Tbl}{x:Int}{K:Value→af→Prop}(M:eB h0 (aW t x) F none D I L h)(T:dZ Z h0 p t)(W:t.Wf)
  (H:∀u h',eB h0 (aW t x) F (some u) D I L h'→K (.agg #[.int .i64 (aW t x).1,u]) h'):ae prog bu #[p,.int .i64 x] h K:=by
 refine(zy (T.ext M.ext) W (i:=x)).mono λr h' ⟨u,e,S,E⟩=>?_
 subst e;have U:∀(v:LV),(∀p,v=some p→h0.size≤p.1∧DW h (aW t x) F none D p.1 p.2)→∀p,v=some p→h0.size≤p.1∧DW h' (aW t x) F (some u) D p.1 p.2:=λv a p A=>
  ⟨(a p A).1,(a p A).2.up (E.2 _ (a p A).2.row) (by simp) λ_=>id⟩
 refine H u h' ⟨M.ext.trans E,λw G=>?_,λw G=>(M.ly w G).ext E,U _ M.at1,U _ M.at2,M.dis⟩;cases G;refine S.mono λc _ hz=>⟨λp A he=>?_,λp A he=>?_⟩
 ·have:=(M.at1 p A).2.row;omega
 ·have:=(M.at2 p A).2.row;omega
theorem eB.line_y {h0 h:af}{D:Option Value}{I L:LV}{F:Int×List Int}{Z:Nat→Prop}{p:Value}{t:Tbl}{x:Int}{K:Value→af→Prop}(M:eB h0 F (aW t x) D none I L h)(T:dZ Z h0 p t)(W:t.Wf)
  (H:∀u h',eB h0 F (aW t x) D (some u) I L h'→K (.agg #[.int .i64 (aW t x).1,u]) h'):ae prog bu #[p,.int .i64 x] h K:=by
 refine(zy (T.ext M.ext) W (i:=x)).mono λr h' ⟨u,e,S,E⟩=>?_
 subst e;have U:∀(v:LV),(∀p,v=some p→h0.size≤p.1∧DW h F (aW t x) D none p.1 p.2)→∀p,v=some p→h0.size≤p.1∧DW h' F (aW t x) D (some u) p.1 p.2:=λv a p A=>
  ⟨(a p A).1,(a p A).2.up (E.2 _ (a p A).2.row) (λ_=>id) (by simp)⟩
 refine H u h' ⟨M.ext.trans E,λw G=>(M.lx w G).ext E,λw G=>?_,U _ M.at1,U _ M.at2,M.dis⟩;cases G;refine S.mono λc _ hz=>⟨λp A he=>?_,λp A he=>?_⟩
 ·have:=(M.at1 p A).2.row;omega
 ·have:=(M.at2 p A).2.row;omega
theorem eB.new_1 {h0 h:af}{I F:Int×List Int}{G D:Option Value}{K:Value→af→Prop}(M:eB h0 I F G D none none h)
  (H:∀b h',eB h0 I F G D (some (b,none)) none h'→K (ptr b) h'):aP RP 235 h K:=by
 refine aC λb h' r e n=>H b h' ⟨M.ext.trans e,λu hu=>?_,λu hu=>?_,λp A=>?_,by simp,by simp⟩
 ·exact((M.lx u hu).mono (Z':=apart (some (b,none)) none) λc hc _=>⟨λp A=>by cases A;show b≠c;omega,by simp⟩).ext e
 ·exact((M.ly u hu).mono (Z':=apart (some (b,none)) none) λc hc _=>⟨λp A=>by cases A;show b≠c;omega,by simp⟩).ext e
 ·cases A;exact⟨Nat.le_trans M.ext.1 n,r⟩
theorem eB.new_2 {h0 h:af}{L G:Int×List Int}{I F:Option Value}{a:Nat}{K:Value→af→Prop}(M:eB h0 L G I F (some (a,none)) none h)
  (H:∀b h',eB h0 L G I F (some (a,none)) (some (b,none)) h'→K (ptr b) h'):aP RP 235 h K:=by
 have a1:=M.at1 _ rfl;have U:a<h.size:=a1.2.row;refine aC λb h' r e n=>H b h' ⟨M.ext.trans e,λu hu=>?_,λu hu=>?_,λp A=>?_,λp A=>?_,λp q A hq=>?_⟩
 ·exact((M.lx u hu).mono (Z':=apart (some (a,none)) (some (b,none))) λc hc D=>⟨D.1,λp A=>by cases A;show b≠c;omega⟩).ext e
 ·exact((M.ly u hu).mono (Z':=apart (some (a,none)) (some (b,none))) λc hc D=>⟨D.1,λp A=>by cases A;show b≠c;omega⟩).ext e
 ·cases A;exact⟨a1.1,a1.2.up (e.2 _ U) (λ_=>id) λ_=>id⟩
 ·cases A;exact⟨Nat.le_trans M.ext.1 n,r⟩
 ·cases A;cases hq;show a≠b;omega
theorem eB.st {h0 h:af}{Lx W:Int×List Int}{ux L:Option Value}{v1 v2 F D:LV}{b:Nat}{f:Bool}{l:List Value}{K:Value→af→Prop}(M:eB h0 Lx W ux L v1 v2 h)(hr:h[b]? =some (.cells RP 235 (0,0)))(hn:h0.size≤b)
  (hl:l.length=2) (ho:∀v∈l,aJ v=true) (hf:∀h',h'[b]? =some (.cells l.toArray 235 (0,0))→DW h' Lx W ux L b (some f))
  (h1:(v1=some (b,none)∧F=some (b,some f)∧D=v2∧∀q,v2=some q→q.1≠b)∨(v2=some (b,none)∧D=some (b,some f)∧F=v1∧∀q,v1=some q→q.1≠b))
  (H:∀h',eB h0 Lx W ux L F D h'→K undef h'):stK 2 (ptr b) (.agg l.toArray) h K:=by
 refine ce hr (by rw[hl];rfl) ho hl λh' r u=>H h' ?_
 have E:=M.ext.upd hn u;have G:∀{v:LV},(∀p,v=some p→h0.size≤p.1∧DW h Lx W ux L p.1 p.2)→(∀q,v=some q→q.1≠b)→∀p,v=some p→h0.size≤p.1∧DW h' Lx W ux L p.1 p.2:=λa d p A=>⟨(a p A).1,(a p A).2.up (u.2 _ (d p A)) (λ_=>id) λ_=>id⟩
 rcases h1 with⟨rfl,rfl,rfl,d⟩|⟨rfl,rfl,rfl,d⟩
 ·have U:∀c,apart (some (b,none)) D c→¬c=b:=λc hc he=>hc.1 _ rfl he.symm
  have zb:∀c,apart (some (b,none)) D c→apart (some (b,some f)) D c:=λc hc=>⟨λp A=>by cases A;exact hc.1 (b,none) rfl,hc.2⟩
  refine⟨E,λw I=>((M.lx w I).fr u.fr λc _=>U c).mono λc _=>zb c,λw I=>((M.ly w I).fr u.fr λc _=>U c).mono λc _=>zb c,λp A=>?_,G M.at2 d,λp q A hq=>?_⟩
  ·cases A;exact⟨hn,hf h' r⟩
  ·cases A;exact λhe=>d q hq he.symm
 ·have U:∀c,apart F (some (b,none)) c→¬c=b:=λc hc he=>hc.2 _ rfl he.symm
  have zb:∀c,apart F (some (b,none)) c→apart F (some (b,some f)) c:=λc hc=>⟨hc.1,λp A=>by cases A;exact hc.2 (b,none) rfl⟩
  refine⟨E,λw I=>((M.lx w I).fr u.fr λc _=>U c).mono λc _=>zb c,λw I=>((M.ly w I).fr u.fr λc _=>U c).mono λc _=>zb c,G M.at1 d,λp A=>?_,λp q A hq=>?_⟩
  ·cases A;exact⟨hn,hf h' r⟩
  ·cases hq;exact d p A
theorem eB.st1x {h0 h:af}{A G:Int×List Int}{u:Value}{D:Option Value}{F:LV}{b:Nat}{K:Value→af→Prop}(M:eB h0 A G (some u) D (some (b,none)) F h)
  (H:∀h',eB h0 A G (some u) D (some (b,some true)) F h'→K undef h'):stK 2 (ptr b) (.agg #[.int .i64 A.1,u]) h K:=
 M.st (f:=true) (l:=[.int .i64 A.1,u]) (M.at1 _ rfl).2 (M.at1 _ rfl).1 rfl (ak rfl (ak (M.lx u rfl).one aQ)) (λh' r=>⟨u,rfl,r⟩) (.inl ⟨rfl,rfl,rfl,λq hq I=>M.dis _ _ rfl hq I.symm⟩) H
theorem eB.st2x {h0 h:af}{A F:Int×List Int}{u:Value}{D:Option Value}{G:LV}{b:Nat}{K:Value→af→Prop}(M:eB h0 A F (some u) D G (some (b,none)) h)
  (H:∀h',eB h0 A F (some u) D G (some (b,some true)) h'→K undef h'):stK 2 (ptr b) (.agg #[.int .i64 A.1,u]) h K:=
 M.st (f:=true) (l:=[.int .i64 A.1,u]) (M.at2 _ rfl).2 (M.at2 _ rfl).1 rfl (ak rfl (ak (M.lx u rfl).one aQ)) (λh' r=>⟨u,rfl,r⟩) (.inr ⟨rfl,rfl,rfl,λq hq=>M.dis _ _ hq rfl⟩) H
theorem eB.st1y {h0 h:af}{D A:Int×List Int}{u:Value}{G:Option Value}{F:LV}{b:Nat}{K:Value→af→Prop}(M:eB h0 D A G (some u) (some (b,none)) F h)
  (H:∀h',eB h0 D A G (some u) (some (b,some false)) F h'→K undef h'):stK 2 (ptr b) (.agg #[.int .i64 A.1,u]) h K:=
 M.st (f:=false) (l:=[.int .i64 A.1,u]) (M.at1 _ rfl).2 (M.at1 _ rfl).1 rfl (ak rfl (ak (M.ly u rfl).one aQ)) (λh' r=>⟨u,rfl,r⟩) (.inl ⟨rfl,rfl,rfl,λq hq I=>M.dis _ _ rfl hq I.symm⟩) H
theorem eB.st2y {h0 h:af}{D A:Int×List Int}{u:Value}{G:Option Value}{F:LV}{b:Nat}{K:Value→af→Prop}(M:eB h0 D A G (some u) F (some (b,none)) h)
  (H:∀h',eB h0 D A G (some u) F (some (b,some false)) h'→K undef h'):stK 2 (ptr b) (.agg #[.int .i64 A.1,u]) h K:=
 M.st (f:=false) (l:=[.int .i64 A.1,u]) (M.at2 _ rfl).2 (M.at2 _ rfl).1 rfl (ak rfl (ak (M.ly u rfl).one aQ)) (λh' r=>⟨u,rfl,r⟩) (.inr ⟨rfl,rfl,rfl,λq hq=>M.dis _ _ hq rfl⟩) H
def Zb (h0:af)(Lx Ly:Int×List Int)(xs:List Value)(h:af):Prop:=∃a b u w,xs=[ptr a,ptr b]∧Ext h0 h∧Two h a 235 (.int .i64 Lx.1) u∧Two h b 235 (.int .i64 Ly.1) w∧SlI (λ_=>True) h u Lx.2∧SlI (λ_=>True) h w Ly.2
theorem eB.fin {h0 h:af}{A D:Int×List Int}{u w:Value}{a b:Nat}(M:eB h0 A D (some u) (some w) (some (a,some true)) (some (b,some false)) h):Zb h0 A D [ptr a,ptr b] h:=by
 obtain⟨_,H,F,r1⟩:=M.at1 _ rfl;obtain⟨_,w',G,r2⟩:=M.at2 _ rfl;cases F;cases G;exact⟨a,b,u,w,rfl,M.ext,r1,r2,(M.lx u rfl).mono λ_ _ _=>trivial,(M.ly w rfl).mono λ_ _ _=>trivial⟩
theorem eB.fin2 {h0 h:af}{A D:Int×List Int}{u w:Value}{a b:Nat}(M:eB h0 A D (some u) (some w) (some (b,some false)) (some (a,some true)) h):Zb h0 A D [ptr a,ptr b] h:=by
 obtain⟨_,w',G,r2⟩:=M.at1 _ rfl;obtain⟨_,H,F,r1⟩:=M.at2 _ rfl;cases F;cases G;exact⟨a,b,u,w,rfl,M.ext,r1,r2,(M.lx u rfl).mono λ_ _ _=>trivial,(M.ly w rfl).mono λ_ _ _=>trivial⟩
theorem kF {t:Tbl}(W:t.Wf)(i:Int):(aW t i).2.length≤1048576∧ -70368744177664≤(aW t i).1∧(aW t i).1≤70368744177664:=by
 unfold aW;split
 ·by_cases h:i.toNat<t.lines.length
  ·have e:t.lines.getD i.toNat (0,[])=t.lines[i.toNat]:=by simp[List.getD_eq_getElem?_getD,h]
   rw[e];exact W.taps _ (List.getElem_mem h)
  ·have e:t.lines.getD i.toNat (0,[])=(0,[]):=by simp[List.getD_eq_getElem?_getD,Nat.le_of_not_lt h]
   rw[e];simp
 ·simp
theorem RJ {m:Pic}(W:m.Wf)(x y c:Int):0≤atP m x y c∧atP m x y c≤m.most:=by
 have:=W.m1;unfold atP;split
 ·rename_i h;by_cases hi:(kn m x y c).toNat<m.l.length
  ·have e:m.l.getD (kn m x y c).toNat 0=m.l[(kn m x y c).toNat]:=by simp[List.getD_eq_getElem?_getD,hi]
   rw[e];exact W.smp _ (List.getElem_mem hi)
  ·have e:m.l.getD (kn m x y c).toNat 0=0:=by simp[List.getD_eq_getElem?_getD,Nat.le_of_not_lt hi]
   rw[e];omega
 ·omega
theorem c_Sum {h:af}(G:dA h){Z:Nat→Prop}{b:Nat}{v sv:Value}{m:Pic}{s:Stg}(H:cA h b v m)(W:m.Wf)(HS:mV Z h sv s)(WS:s.Wf)(hs:lG m s){x y c:Int}(hc:0≤c∧c<m.c):
  ae prog wZ #[ptr b,sv,.int .i64 x,.int .i64 y,.int .i64 c] h λr h'=>r=.int .i64 (IntKind.i64.wrap (BA m s x y c))∧Ext h h':=by
 apply K9;unfold Bm;obtain⟨p,q,rfl,hp,hq,a7⟩:=gX HS;simp only[bC];refine aC λb1 h1 r1 e1 n1=>?_
 rw[aI (l:=[p,q,.int .i64 s.border]) r1 3 rfl,ah];refine(GS (G.ext e1) (H.ext e1) (HS.ext e1)).mono λr h2 ⟨e,e2⟩=>?_
 subst e;rw[decide_eq_true hs];have ay:(c<0)=False:=eq_false (by omega);simp only[go_sem,ay];have H2:=H.ext (e1.trans e2);refine(dC H2).mono λr h3 ⟨e,F⟩=>?_
 have F:=F.symm;subst e F;simp only[go_sem];rw[decide_eq_false (by omega),cf];have r2:=e2.row r1;have p2:=hp.ext (e1.trans e2);have q2:=hq.ext (e1.trans e2);refine aV (Zb h2 (aW s.x x) (aW s.y y)) ?_ ?_
 ·try simp only[go_sem,Nat.zero_add]
  refine aG (Ext h2) (Ext.refl _) ?_;refine ao p (λh' e=>ai (e.row r2)) ?_;refine ao q (λh' e=>ai (e.row r2)) ?_;have M0:=eB.start h2 (aW s.x x) (aW s.y y);have wx:=WS.x;have wy:=WS.y
  repeat' first
   |exact eB.fin ‹eB _ _ _ _ _ _ _ _›
   |exact eB.fin2 ‹eB _ _ _ _ _ _ _ _›
   |exact eB.ext ‹eB _ _ _ _ _ _ _ _›
   |refine And.intro ?_ ?_
   |refine eB.line_x ‹eB _ _ _ _ _ _ _ _› p2 wx λu' h' M=>?_
   |refine eB.line_y ‹eB _ _ _ _ _ _ _ _› q2 wy λu' h' M=>?_
   |refine eB.new_1 ‹eB _ _ _ _ _ _ _ _› λb' h' M=>?_
   |refine eB.new_2 ‹eB _ _ _ _ _ _ _ _› λb' h' M=>?_
   |refine eB.st1x ‹eB _ _ _ _ _ _ _ _› λh' M=>?_
   |refine eB.st2x ‹eB _ _ _ _ _ _ _ _› λh' M=>?_
   |refine eB.st1y ‹eB _ _ _ _ _ _ _ _› λh' M=>?_
   |refine eB.st2y ‹eB _ _ _ _ _ _ _ _› λh' M=>?_
 rintro xs ρj h3 ⟨a,d,u,w,rfl,e3,ra,rd,Su,Sw⟩;have bx:=kF WS.x x;have a8:=kF WS.y y;unfold BA;unfold nW;generalize aW s.x x=D at*;generalize aW s.y y=I at*;have hf:=cq W.fits;have c1:aB h3 ⟨d,1,none⟩=some w:=ai rd;obtain⟨aw,cw,ew⟩:=Sw.isSl;have ax:aq w=some (.int .i64 (I.2.length:Int)):=by rw[ew];rfl
 obtain⟨au,cu,eu⟩:=Su.isSl;have ar:aq u=some (.int .i64 (D.2.length:Int)):=by rw[eu];rfl
 simp only[go_sem,Nat.zero_add,c1,ax];refine iH (λk=>[.int .i64 (IntKind.i64.wrap (fh (λk=>I.2.getD k 0*fh (λi=>D.2.getD i 0*atP m (atZ s.border (D.1+i) m.w) (atZ s.border (I.1+k) m.h) c) D.2.length) k)),.int .i64 (k:Int)]) I.2.length 0 rfl (Nat.zero_le _) λk again ρk _ hk U=>?_
 simp only[go_sem];refine aj (λh4=>?_) (λh4=>?_)
 ·have ab:k<I.2.length:=by omega
  have U:=U ab;obtain⟨pk,k1,k2⟩:=Sw.int_at (k':=.i64) ab;have eb:I.2.getD k 0=I.2[k]:=by simp[List.getD_eq_getElem?_getD,ab]
  rw[k1,ah,k2,ah,←eb];have rs:=e3.row r2;refine aG (λh'=>h'=h3) rfl ?_;simp only[go_sem,Nat.zero_add];refine ao (.int .i64 s.border) (λh' e=>by rw[e];exact ai rs) ?_;refine ao (.int .i64 I.1) (λh' e=>by rw[e];exact ai rd) ?_;simp only[go_sem];rw[w64 (n:=I.1+(k:Int)) (by omega) (by omega)];have H3:=H2.ext e3;refine(lW H3).mono λr h5 ⟨e,F⟩=>?_
  have F:=F.symm;subst e F;refine⟨rfl,?_⟩;refine(sh (by unfold I64;omega)).mono λr h5 ⟨e,F⟩=>?_
  have F:=F.symm;subst e F;have c2:aB h3 ⟨a,1,none⟩=some u:=ai ra;simp only[go_sem,Nat.zero_add,c2,ar];generalize ad:atZ s.border (I.1+(k:Int)) m.h=row at*;generalize hA:fh (λk=>I.2.getD k 0*fh (λi=>D.2.getD i 0*atP m (atZ s.border (D.1+i) m.w) (atZ s.border (I.1+k) m.h) c) D.2.length) k=A at*;have an:fh (λk=>I.2.getD k 0*fh (λi=>D.2.getD i 0*atP m (atZ s.border (D.1+i) m.w) (atZ s.border (I.1+k) m.h) c) D.2.length) (k+1)=A+I.2.getD k 0*fh (λi=>D.2.getD i 0*atP m (atZ s.border (D.1+i) m.w) row c) D.2.length:=by
   simp only[fh];rw[hA,ad]
  rw[an]at U;generalize I.2.getD k 0=bk at*;refine iH (λi=>[.int .i64 (IntKind.i64.wrap (A+bk*fh (λi=>D.2.getD i 0*atP m (atZ s.border (D.1+i) m.w) row c) i)),.int .i64 (i:Int)]) D.2.length 0 (by simp[fh]) (Nat.zero_le _) λi al ρi _ hi L=>?_
  simp only[go_sem];refine aj (λh5=>?_) (λh5=>?_)
  ·have aa:i<D.2.length:=by omega
   have L:=L aa;obtain⟨pi,i1,i2⟩:=Su.int_at (k':=.i64) aa;have ea:D.2.getD i 0=D.2[i]:=by simp[List.getD_eq_getElem?_getD,aa]
   rw[i1,ah,i2,ah,←ea];refine aG (λh'=>h'=h3) rfl ?_;simp only[go_sem,Nat.zero_add];refine ao (.int .i64 s.border) (λh' e=>by rw[e];exact ai rs) ?_;refine ao (.int .i64 D.1) (λh' e=>by rw[e];exact ai ra) ?_;simp only[go_sem];rw[w64 (n:=D.1+(i:Int)) (by omega) (by omega)];refine(nV H3).mono λr h5 ⟨e,F⟩=>?_
   have F:=F.symm;subst e F;refine⟨rfl,?_⟩;refine(sh (by unfold I64;omega)).mono λr h5 ⟨e,F⟩=>?_
   have F:=F.symm;subst e F
   try simp only[go_sem]
   refine(XL H3 W).mono λr h5 ⟨e,F⟩=>?_
   have F:=F.symm;subst e F;have hv:=RJ W (atZ s.border (D.1+(i:Int)) m.w) row c;have hm:=W.m2;simp only[go_sem];rw[w64 (n:=atP m (atZ s.border (D.1+(i:Int)) m.w) row c) (by omega) (by omega),Qe,w64 (n:=(i:Int)+1) (by omega) (by omega)];simp only[fh,Int.mul_add]at L;rw[←Int.add_assoc]at L;exact L
  ·have:i=D.2.length:=by omega
   subst this;rw[w64 (n:=(k:Int)+1) (by omega) (by omega)];exact U
 ·have:k=I.2.length:=by omega
  subst this;exact⟨rfl,e1.trans (e2.trans e3)⟩
theorem Bz {A B C c d:Int}(h:A*C+c=B*C+d)(I:0≤c)(F:c<C)(d0:0≤d)(d1:d<C):A=B∧c=d:=by
 have D:(c+A*C)/C=A:=by rw[Int.add_mul_ediv_right _ _ (by omega),Int.ediv_eq_zero_of_lt I F];omega
 have G:(d+B*C)/C=B:=by rw[Int.add_mul_ediv_right _ _ (by omega),Int.ediv_eq_zero_of_lt d0 d1];omega
 have H:c+A*C=d+B*C:=by omega
 rw[H,G]at D;refine⟨D.symm,?_⟩;subst D;omega
theorem WC {m:Pic}{x y c F G c':Int}(h:inP m x y c)(h':inP m F G c')(e:kn m x y c=kn m F G c'):x=F∧y=G∧c=c':=by
 obtain⟨x0,U,y0,y1,c0,c1⟩:=h;obtain⟨H,I,ab,aa,D,A⟩:=h';unfold kn at e;obtain⟨e1,e2⟩:=Bz e c0 c1 D A;obtain⟨W,L⟩:=Bz e1 x0 U H I;exact⟨L,W,e2⟩
theorem P6 {m:Pic}(W:m.Wf){x y c n A D c':Int}(h:inP m x y c):atP (Oi m x y c n) A D c'=if A=x∧D=y∧c'=c then n else atP m A D c':=by
 have L:=EC W h;by_cases hi:inP m A D c'
 ·have I:=EC W hi;have F:inP (Oi m x y c n) A D c':=hi;unfold atP;rw[if_pos F,if_pos hi];show(m.l.set (kn m x y c).toNat n).getD (kn m A D c').toNat 0=_;by_cases G:A=x∧D=y∧c'=c
  ·rw[if_pos G];obtain⟨rfl,rfl,rfl⟩:=G;have:(kn m A D c').toNat<m.l.length:=by omega
   simp[List.getD_eq_getElem?_getD,this]
  ·rw[if_neg G];have H:(kn m x y c).toNat≠(kn m A D c').toNat:=λhh=>G (by
    obtain⟨a,b,d⟩:=WC hi h (by omega);exact⟨a,b,d⟩)
   simp[List.getD_eq_getElem?_getD,List.getElem?_set_ne H]
 ·have F:¬inP (Oi m x y c n) A D c':=hi;have G:¬(A=x∧D=y∧c'=c):=by rintro⟨rfl,rfl,rfl⟩;exact hi h
  unfold atP;rw[if_neg F,if_neg hi,if_neg G]
def ahead (x y c x' y' c':Int):Prop:=y'<y∨(y'=y∧(x'<x∨(x'=x∧c'<c)))
structure Qb (h0 h:af)(b:Nat)(v:Value)(n:Pic)(w hh c most:Int):Prop where
 img:cA h b v n
 wf:n.Wf
 pw:n.w=w
 ph:n.h=hh
 pc:n.c=c
 pm:n.most=most
 ext:Ext h0 h
 nb:h0.size≤b
 nv:∀c,blk v c→h0.size≤c
theorem Qb.before {h1 h0 h:af}{b:Nat}{v:Value}{n:Pic}{w hh c most:Int}(M:Qb h0 h b v n w hh c most)(e:Ext h1 h0):Qb h1 h b v n w hh c most:=
 ⟨M.img,M.wf,M.pw,M.ph,M.pc,M.pm,e.trans M.ext,Nat.le_trans e.1 M.nb,λc hc=>Nat.le_trans e.1 (M.nv c hc)⟩
theorem XM {h:af}(G:dA h){Z:Nat→Prop}{b:Nat}{v sv:Value}{m:Pic}{s:Stg}(H:cA h b v m)(W:m.Wf)(HS:mV Z h sv s)(WS:s.Wf)(hs:lG m s)(aa:gu s.x.lines.length s.y.lines.length m.c):
  ae prog sJ #[ptr b,sv] h λr h'=>∃b' v' n,r=.tuple #[ptr b',.int .i64 0]∧Qb h h' b' v' n s.x.lines.length s.y.lines.length m.c m.most∧∀x y c,inP n x y c→atP n x y c=ui m s x y c:=by
 apply GE;unfold xr;obtain⟨p,q,rfl,hp,hq,bd⟩:=gX HS;simp only[bC];refine aC λb1 h1 r1 e1 n1=>?_
 rw[aI (l:=[p,q,.int .i64 s.border]) r1 3 rfl,ah];refine(GS (G.ext e1) (H.ext e1) (HS.ext e1)).mono λr h2 ⟨e,e2⟩=>?_
 subst e;rw[decide_eq_true hs];simp only[go_sem,Nat.zero_add];have U:=e1.trans e2;have r2:=e2.row r1;refine aG (Ext h2) (Ext.refl _) ?_;refine ao p (λh' e=>ai (e.row r2)) ?_;refine ao q (λh' e=>ai (e.row r2)) ?_;refine(AD (hp.ext U)).mono λr h3 ⟨e,A⟩=>?_
 have A:=A.symm;subst e A;refine⟨Ext.refl _,?_⟩;refine(AD (hq.ext U)).mono λr h3 ⟨e,A⟩=>?_
 have A:=A.symm;subst e A;refine(dC (H.ext U)).mono λr h3 ⟨e,A⟩=>?_
 have A:=A.symm;subst e A;refine(nG (H.ext U)).mono λr h3 ⟨e,A⟩=>?_
 have A:=A.symm;subst e A;have ad:y7 s.x.lines.length s.y.lines.length m.c m.most=0:=vz.2 ⟨aa,W.m1,W.m2⟩;refine vA.mono λr h3 ⟨pp,e,e3,_,s3⟩=>?_
 subst e;obtain⟨nb,nv,rfl,I,bc,a9,_⟩:=s3 ad;have hz:((0:Int)=0)=True:=eq_true rfl;rw[ad];simp only[go_sem,hz];refine(lW I).mono λr h4 ⟨e,A⟩=>?_
 have A:=A.symm;subst e A;have be:=W.m1;have bi:=W.m2;have M0:Qb h2 h3 nb nv (qP s.x.lines.length s.y.lines.length m.c m.most) s.x.lines.length s.y.lines.length m.c m.most:=⟨I,Ah ad,rfl,rfl,rfl,rfl,e3,bc,a9⟩
 obtain⟨X,hX⟩:∃X,X=s.x.lines.length:=⟨_,rfl⟩
 obtain⟨Y,hY⟩:∃Y,Y=s.y.lines.length:=⟨_,rfl⟩
 rw[←hX,←hY]at M0 aa ⊢;have hf:=cq aa;obtain⟨C,hC⟩:∃C:Nat,m.c=(C:Int):=⟨m.c.toNat,by omega⟩
 rw[show(qP (X:Int) (Y:Int) m.c m.most).h=(Y:Int)from rfl]
 -- what holds at a place of the walk
 refine bB (α:=Pic) Y 0 (λy _=>[.int .i64 (y:Int)]) (λy n h'=>Qb h2 h' nb nv n X Y m.c m.most∧∀L F c',inP n L F c'→ahead 0 y 0 L F c'→atP n L F c'=ui m s L F c') _ rfl (Nat.zero_le _)
  ⟨M0,λL F c' hi ha=>by unfold ahead inP at*;omega⟩ λy n h4 again ρ1 _ hy ⟨M,D⟩ a8=>?_
 simp only[go_sem];refine aj (λh5=>?_) (λh5=>?_)
 ·refine(nV M.img).mono λr h5 ⟨e,A⟩=>?_
  have A:=A.symm;subst e A;rw[M.pw];refine bB (α:=Pic) X 0 (λx _=>[.int .i64 (x:Int)]) (λx n h'=>Qb h2 h' nb nv n X Y m.c m.most∧∀L F c',inP n L F c'→ahead x y 0 L F c'→atP n L F c'=ui m s L F c') n rfl (Nat.zero_le _)
   ⟨M,D⟩ λx n h5 ay ρ2 _ hx ⟨M,D⟩ au=>?_
  simp only[go_sem];refine aj (λh6=>?_) (λh6=>?_)
  ·refine(dC M.img).mono λr h6 ⟨e,A⟩=>?_
   have A:=A.symm;subst e A;rw[M.pc,hC];refine bB (α:=Pic) C 0 (λc _=>[.int .i64 (c:Int)]) (λc n h'=>Qb h2 h' nb nv n X Y m.c m.most∧∀L F c',inP n L F c'→ahead x y c L F c'→atP n L F c'=ui m s L F c') n rfl (Nat.zero_le _)
    ⟨M,D⟩ λc n h6 ax ρ3 _ hc ⟨M,D⟩ an=>?_
   simp only[go_sem];refine aj (λh7=>?_) (λh7=>?_)
   ·rw[aI (l:=[p,q,.int .i64 s.border]) (M.ext.row r2) 3 rfl,ah];have E0:=U.trans M.ext;refine(c_Sum (G.ext E0) (H.ext E0) W (HS.ext E0) WS hs (x:=x) (y:=y) (c:=c) (by omega)).mono λr h8 ⟨e,e8⟩=>?_
    subst e;have E8:=E0.trans e8;refine(nG (H.ext E8)).mono λr h9 ⟨e,A⟩=>?_
    have A:=A.symm;subst e A;refine(SF (gW _)).mono λr h9 ⟨e,A⟩=>?_
    have A:=A.symm;subst e A;have hr:=Lz (IntKind.i64.wrap (BA m s x y c)) (most:=m.most) (by omega);have Mi:=M.img.ext e8;refine(SD Mi M.wf hr.1 hr.2.1).mono λr ar ⟨e,al,f10,bg⟩=>?_
    subst e;have aw:inP n x y c:=⟨by omega,by rw[M.pw];omega,by omega,by rw[M.ph];omega,by omega,by rw[M.pc];omega⟩
    have ab:inP n x y c∧pS (IntKind.i64.wrap (BA m s x y c)) m.most≤n.most:=⟨aw,by rw[M.pm];omega⟩
    rw[if_pos ab]at al;have a7:Ext h2 ar:=(M.ext.trans e8).then_fr f10 M.nv
    try simp only[go_sem]
    rw[w64 (by omega) (by omega)];refine an (Oi n x y c (pS (IntKind.i64.wrap (BA m s x y c)) m.most)) ar (by omega) ⟨⟨al,RY M.wf hr.1 ab.2,M.pw,M.ph,M.pc,M.pm,a7,M.nb,M.nv⟩,λL F c' hi ha=>?_⟩;rw[P6 M.wf aw];by_cases he:L=x∧F=y∧c'=c
    ·rw[if_pos he,he.1,he.2.1,he.2.2];rfl
    ·rw[if_neg he];exact D L F c' hi (by unfold ahead at*;omega)
   ·have:c=C:=by omega
    subst this;rw[w64 (by omega) (by omega)];refine au n h6 (by omega) ⟨M,λL F c' hi ha=>D L F c' hi ?_⟩;have h1:=M.pc;unfold ahead inP at*;omega
  ·have:x=X:=by omega
   subst this;rw[w64 (by omega) (by omega)];refine a8 n h5 (by omega) ⟨M,λL F c' hi ha=>D L F c' hi ?_⟩;have h1:=M.pw;unfold ahead inP at*;omega
 ·have:y=Y:=by omega
  subst this;refine⟨nb,nv,n,rfl,M.before U,λL F c' hi=>D L F c' hi ?_⟩;have h1:=M.ph;unfold ahead inP at*;omega
theorem HH (f n:Int){m:Int}(F:aZ m):(eS f n m).Wf:=by
 unfold aZ at F;refine⟨?_,λx A=>?_⟩
 ·show(List.map _ (List.range m.toNat)).length≤65536;rw[List.length_map,List.length_range];omega
 ·obtain⟨i,_,rfl⟩:=List.mem_map.1 A;have D:=nH (rR f n m i);refine⟨D.1,?_⟩;show _≤dS f n m i∧dS f n m i≤_;unfold dS;split
  ·rename_i h;have:=Jd h;omega
  ·omega
theorem Jy {l:List Int}(A:∀x∈l,I64 x)(H:l.length≤1024){n:Int}(D:aZ n):(jP l n).Wf:=by
 unfold aZ at D;refine⟨?_,λx G=>?_⟩
 ·show(List.map _ (List.range n.toNat)).length≤65536;rw[List.length_map,List.length_range];omega
 ·obtain⟨i,hi,rfl⟩:=List.mem_map.1 G;have F:=nH A;have:=List.mem_range.1 hi;refine⟨F.1,?_⟩;show _≤(i:Int)-(l.length/2:Nat)∧(i:Int)-(l.length/2:Nat)≤_;omega
theorem xL (o:OpD):(dm o).length≤1024∧(cR o).length≤1024:=by
 have:=Ch o.sigma;have:=Fo o.radius;have:=uO o.x;have:=uO o.y;unfold dm cR;constructor<;>split<;>(try split)<;>omega
theorem vu {o:OpD}{w h:Int}(hc:dT o w h=0):(bL o w h).Wf∧jh o∧aZ w∧aZ h:=by
 unfold dT at hc;split at hc
 ·cases hc
 ·rename_i A;have h1:jh o:=Decidable.of_not_not λhh=>A (.inl hh)
  have F:aZ w:=Decidable.of_not_not λhh=>A (.inr (.inl hh))
  have G:aZ h:=Decidable.of_not_not λhh=>A (.inr (.inr hh))
  refine⟨⟨?_,?_⟩,h1,F,G⟩
  ·show(iZ o w).Wf;unfold iZ;split
   ·rename_i D;exact HH _ _ (h1.2.2 D).1
   ·exact Jy (vP o) (xL o).1 F
  ·show(fK o h).Wf;unfold fK;split
   ·rename_i D;exact HH _ _ (h1.2.2 D).2.1
   ·exact Jy (vO o) (xL o).2 G
theorem EW {o:OpD}{w h:Int}(hc:dT o w h=0):((bL o w h).x.lines.length:Int)=mH o w∧((bL o w h).y.lines.length:Int)=qf o h:=by
 obtain⟨_,D,F,hh⟩:=vu hc;unfold aZ at F hh;constructor
 ·show((iZ o w).lines.length:Int)=_;unfold iZ mH;split
  ·rename_i A;have:=(D.2.2 A).1;unfold aZ at this;show((List.map _ (List.range o.w.toNat)).length:Int)=_;rw[List.length_map,List.length_range];omega
  ·show((List.map _ (List.range w.toNat)).length:Int)=_;rw[List.length_map,List.length_range];omega
 ·show((fK o h).lines.length:Int)=_;unfold fK qf;split
  ·rename_i A;have:=(D.2.2 A).2.1;unfold aZ at this;show((List.map _ (List.range o.hh.toNat)).length:Int)=_;rw[List.length_map,List.length_range];omega
  ·show((List.map _ (List.range h.toNat)).length:Int)=_;rw[List.length_map,List.length_range];omega
theorem WQ (o:OpD)(w h:Int):(bL o w h).x.n=w∧(bL o w h).y.n=h:=by
 constructor
 ·show(iZ o w).n=w;unfold iZ;split<;>rfl
 ·show(fK o h).n=h;unfold fK;split<;>rfl
theorem FS {o:OpD}{m:Pic}(hc:dT o m.w m.h=0):lG m (bL o m.w m.h):=by
 obtain⟨_,A,_,_⟩:=vu hc;obtain⟨h1,D⟩:=WQ o m.w m.h;exact⟨h1,D,A.2.1.1,A.2.1.2⟩
def LD:Pic:=⟨1,1,1,255,[7]⟩
def QH:OpD:=⟨1,0,0,2,[],[],0,0,0⟩
theorem RA {h:af}(G:dA h):ae prog uF #[] h λr h'=>r=.bool true∧Ext h h':=by
 apply IA;unfold yn;refine cH (c':=#[.int .u16 7]) rfl λb1 h1 r1 e1 n1=>?_
 have S1:=Ac (k:=.u16) (l:=[7]) (n:=1) rfl r1;have a0:y7 1 1 1 255=0:=by decide+kernel
 refine(ND S1 a0 (by decide) (by simp)).mono λr h2 ⟨p,e,N⟩=>?_
 subst e;obtain⟨b,v,rfl,I,nb,nv,e2⟩:=N;have I:cA h2 b v LD:=I;have W:LD.Wf:=⟨by decide+kernel,by decide,by decide,by decide,by simp[LD]⟩
 have hf:(aE #[(.int .i64 0),(.int .i64 0),(.int .i64 0),(.int .i64 0),(.slice none 0 0),(.slice none 0 0),(.int .i64 0),(.int .i64 0),(.int .i64 0)] [(0,1,(.int .i64 1)),(3,1,(.int .i64 2))])=some #[.int .i64 1,.int .i64 0,.int .i64 0,.int .i64 2,.slice none 0 0,.slice none 0 0,.int .i64 0,.int .i64 0,.int .i64 0]:=rfl;simp only[go_sem];rw[hf,bA,ah];have wf:QH.Wf:=yI (by simp[I64]);have G2:=G.ext (e1.trans e2);refine(Fl (Z:=λ_=>True) (o:=QH) G2 yJ wf (by simp[QH]) (by simp[QH]) (by unfold I64;omega) (by unfold I64;omega)).mono λw h3 ⟨sv,e,e3,_,s1⟩=>?_
 subst e;have a1:dT QH 1 1=0:=by decide+kernel
 have HS:=s1 a1;rw[a1];obtain⟨p,q,rfl,hp,hq,A⟩:=gX HS;simp only[go_sem];refine cD (cs:=[p,q,.int .i64 _]) rfl A rfl λb4 h4 r4 H n4=>?_
 refine TQ.mono λr h5 ⟨e,D⟩=>?_
 subst e;simp only[go_sem];have E5:=(e1.trans e2).trans (e3.trans (H.trans D));refine(JU (G.ext E5)).mono λr h6 ⟨e,F⟩=>?_
 subst e;have z0:((0:Int)=0)=True:=eq_true rfl;have np:ag .p .eql (ptr b) (.pointer none)=some (.bool false):=rfl;have L:∀b,ag .p .neq (ptr b) (.pointer none)=some (.bool true):=λ_=>rfl
 simp only[go_sem,z0,np,decide_true];have E6:=E5.trans F;have ab:=e3.trans (H.trans (D.trans F));rw[aI (l:=[p,q,.int .i64 _]) ((D.trans F).row r4) 3 rfl,ah];have hs:lG LD (bL QH 1 1):=FS (m:=LD) a1;refine(XM (G.ext E6) (I.ext ab) W (HS.ext (H.trans (D.trans F))) (vu a1).1 hs (by decide+kernel)).mono λr h7 ⟨b',v',n,e,M,aa⟩=>?_
 subst e;simp only[go_sem,z0,L,decide_true];refine(XL M.img M.wf).mono λr h8 ⟨e,U⟩=>?_
 have U:=U.symm;subst e U;have ad:inP n 0 0 0:=⟨by omega,by rw[M.pw];decide+kernel,by omega,by rw[M.ph];decide+kernel,by omega,by rw[M.pc];decide⟩
 rw[aa 0 0 0 ad];have hv:ui LD (bL QH 1 1) 0 0 0=7:=by decide+kernel
 rw[hv];simp only[go_sem,eq_self,decide_true];exact⟨by simp,E6.trans M.ext⟩
structure qR where
 w:Int
 h:Int
 c:Int
 most:Int
 l:List Int
structure qR.Wf (a:qR):Prop where
 w:U16 a.w
 h:U16 a.h
 c:U16 a.c
 most:U16 a.most
 l:∀x∈a.l,U16 x
 len:a.l.length≤4611686018427387904
def mS:Rp qR where
 w:=5
 R:=λZ h cs a=>∃u,cs=[.int .u16 a.w,.int .u16 a.h,.int .u16 a.c,.int .u16 a.most,u]∧Rp.Sl rU Z h u a.l
 len:=by rintro _ _ _ _ ⟨x,rfl,_⟩;rfl
 one:=by
  rintro _ _ _ _ ⟨x,rfl,H⟩;exact ak rfl (ak rfl (ak rfl (ak rfl (ak H.one aQ))))
 fr:=by rintro _ _ _ _ _ _ ⟨x,rfl,H⟩ f q;exact⟨x,rfl,H.fr f q⟩
 mono:=by rintro _ _ _ _ _ ⟨x,rfl,H⟩ q;exact⟨x,rfl,H.mono q⟩
def dp (a:qR):Pic:=zj (a.w%12) (a.h%12) a.c a.most a.l
theorem sb (a:qR):(dp a).Wf:=Py _ _ _ _ _
theorem zk (a:qR):1≤(dp a).w∧(dp a).w≤12∧1≤(dp a).h∧(dp a).h≤12:=by
 show 1≤1+a.w%12%20∧1+a.w%12%20≤12∧1≤1+a.h%12%20∧1+a.h%12%20≤12;omega
theorem pU.before {h0 h h':af}{p:Value}{m:Pic}(N:pU h h' p m)(e:Ext h0 h):pU h0 h' p m:=by
 obtain⟨b,v,A,I,nb,nv,E⟩:=N;exact⟨b,v,A,I,Nat.le_trans e.1 nb,λc hc=>Nat.le_trans e.1 (nv c hc),e.trans E⟩
theorem Fj {Z:Nat→Prop}{h:af}{cs:List Value}{a:qR}(H:mS.R Z h cs a)(W:a.Wf):ae prog dF #[.agg cs.toArray] h λr h'=>pU h h' r (dp a):=by
 apply xJ;unfold mP;obtain⟨u,rfl,F⟩:=H;simp only[bC];refine aC λA h1 r1 D n1=>?_
 have I:aB h1 ⟨A,0,none⟩=some (.int .u16 a.w):=ai r1;have L:aB h1 ⟨A,1,none⟩=some (.int .u16 a.h):=ai r1;have q2:aB h1 ⟨A,2,none⟩=some (.int .u16 a.c):=ai r1;have G:aB h1 ⟨A,3,none⟩=some (.int .u16 a.most):=ai r1;have U:aB h1 ⟨A,4,none⟩=some u:=ai r1;have w0:=W.w;have w1:=W.h;simp only[go_sem,Nat.zero_add,I];rw[cV _ _ _ _ (by omega),ah];simp only[go_sem,Nat.zero_add,L];rw[cV _ _ _ _ (by omega),ah];simp only[go_sem,Nat.zero_add,q2,G,U];rw[Int.tmod_eq_emod_of_nonneg w0.1,Int.tmod_eq_emod_of_nonneg w1.1];exact(VH (F.ext D) (by unfold U16;omega) (by unfold U16;omega) W.c W.most W.l W.len).mono λr h' N=>N.before D
theorem ic.since {α:Type}{e:Rp α}{h0 h h':af}{v:Value}{l:List α}(H:ic e h h' v l)(k:Ext h0 h):Rp.Sl e (dJ h0 h') h' v l:=H.sl.mono λc hc A=>⟨Nat.le_trans k.1 A.1,hc⟩
theorem PR {Z:Nat→Prop}{h:af}(G:dA h){v:Value}{l:List OpD}{b:Nat}{iv:Value}{m:Pic}(H:Rp.Sl rOp Z h v l)(few:l.length≤4)(WO:Eo l)(I:cA h b iv m)(W:m.Wf):
  ae prog gb #[v,ptr b] h λr h'=>Ext h h'∧∃sv rv ok,r=.tuple #[sv,rv,.bool ok]∧aJ sv=true∧(ok=true↔kZ 12 l∧xB l m.w m.h m.c=0)∧
   (ok=true→Rp.Sl Bp (dJ h h') h' sv (uq l m.w m.h)∧Rp.Sl oZ (dJ h h') h' rv (uq l m.w m.h)):=by
 apply GA;unfold xm;obtain⟨a,cap,e⟩:=H.isSl;have e2:aq v=some (.int .i64 (l.length:Int)):=by rw[e];rfl
 have np:ag .p .eql (ptr b) (.pointer none)=some (.bool false):=rfl;simp only[go_sem,e2,np];have h4:((4:Int)<(l.length:Int))=False:=eq_false (by omega);simp only[go_sem,h4];refine(VT (side:=12) H (by omega)).mono λr h1 ⟨e,F⟩=>?_
 subst e;simp only[go_sem];refine aj (λU=>?_) (λU=>?_)
 ·exact⟨F,_,_,false,rfl,rfl,⟨λh=>(by cases h),λh=>absurd h.1 U⟩,λh=>(by cases h)⟩
 have U:kZ 12 l:=Decidable.of_not_not U;have hf:=cq W.fits;have hW:I64 m.w:=by unfold I64;omega
 have hH:I64 m.h:=by unfold I64;omega
 have D:∀(L:af) (E:Ext h L) (K:Value→Value→Value→af→Prop),K (.int .i64 m.w) (.int .i64 m.h) (.int .i64 m.c) L→
   ae prog bE #[ptr b] L λal au=>ae prog bG #[ptr b] au λaa aw=>ae prog aO #[ptr b] aw λar ad=>K al aa ar ad:=by
  intro L E K HK;refine(nV (I.ext E)).mono λr h3 ⟨e,A⟩=>?_
  have A:=A.symm;subst e A;refine(lW (I.ext E)).mono λr h3 ⟨e,A⟩=>?_
  have A:=A.symm;subst e A;refine(dC (I.ext E)).mono λr h3 ⟨e,A⟩=>?_
  have A:=A.symm;subst e A;exact HK
 refine D h1 F _ ?_;refine(Xt (G.ext F) (H.ext F) WO hW hH (c:=m.c)).mono λr L ⟨sv,e,an,s0,s1⟩=>?_
 subst e;simp only[go_sem];have E2:=F.trans an;refine(YT (H.ext E2) (by omega)).mono λlv h3 ⟨HR,e3⟩=>?_
 have E3:=E2.trans e3;refine D h3 E3 _ ?_;refine(VE HR WO hW hH (c:=m.c)).mono λr h5 ⟨rv,e,e5,t0,t1⟩=>?_
 subst e;simp only[go_sem];have E5:=E3.trans e5;by_cases hc:xB l m.w m.h m.c=0
 ·have S:=(s1 hc).ext (e3.trans e5);have T:=t1 hc;obtain⟨a7,ay,es⟩:=S.isSl;obtain⟨at_,ct,et⟩:=T.isSl;have ab:aq sv=some (.int .i64 ((uq l m.w m.h).length:Int)):=by rw[es];rfl
  have ax:aq rv=some (.int .i64 ((uq l m.w m.h).length:Int)):=by rw[et];rfl
  simp only[go_sem,hc,ab,ax];refine⟨E5,sv,rv,true,by simp,by rw[es];rfl,⟨λ_=>⟨U,trivial⟩,λ_=>rfl⟩,λ_=>⟨?_,?_⟩⟩
  ·exact S.since F
  ·exact T.since E3
 ·simp only[go_sem,hc];exact⟨E5,sv,rv,false,by simp,by rw[s0 hc];rfl,⟨λh=>(by cases h),λh=>h.2.elim⟩,λh=>(by cases h)⟩
end Go.Proofs.YtcoimlclclnlkaaGreatDoor
namespace Go.Proofs.YtcoimlclclnlkaaGreatDoor
open Go Go.Crisp
open _root_.Go.Proofs.Tryz
structure RN (L:List (String×DataW Unit)):Prop where
 plain:(L.all λx=>x.2.handleName?.isNone)=true
 names:("smalto/border.names",Rows.laid_smalto_border_names)∈L
 kinds:("smalto/raw.kinds",Rows.laid_smalto_raw_kinds)∈L
theorem RN.glob {L:List (String×DataW Unit)}(l:RN L){h:af}(H:zG prog L h):dA h:=UX H l.plain l.names l.kinds
theorem GW {n:Int}(h:(Lit.int .u16 n).wf=true):0≤n∧n≤65535:=by
 have h:(decide (IntKind.u16.min≤n)&&decide (n≤IntKind.u16.max))=true:=h;rw[Bool.and_eq_true,decide_eq_true_eq,decide_eq_true_eq]at h;exact h
abbrev Qj:TS:=.int .u16
abbrev SY:TS:=.pair Qj (.pair Qj (.pair Qj (.pair Qj (.pair (.sl Qj 2) .unit))))
def R6 (x:SY.T):qR:=⟨x.1,x.2.1,x.2.2.1,x.2.2.2.1,x.2.2.2.2.1⟩
theorem Qm {h:af}{v:Value}{l:List Int}(H:SlC 1 h v l.length (l.map (Value.int .u16))):Rp.Sl rU (λ_=>True) h v l:=
 ⟨_,H,λ_ _ _=>trivial,λi hi=>by
  show Rp.el 1 _ i=[.int .u16 l[i]];rw[Rp.el_one (by simpa using hi),List.getElem_map]⟩
theorem Wi {h:af}{cs:List Value}{l:List Int}(H:Rd (.sl Qj 2) h cs l):∃v,cs=[v]∧Rp.Sl rU (λ_=>True) h v l∧(∀n∈l,U16 n)∧l.length*2≤140737488351232:=by
 obtain⟨v,rfl,h1,D,F⟩:=Qp (e:=Qj) (Value.int .u16) U16 rfl (λds x A=>⟨A.1,GW A.2⟩) H;exact⟨v,rfl,Qm h1,D,F⟩
theorem Yh {h:af}{cs:List Value}{x:SY.T}(H:Rd SY h cs x):mS.R (λ_=>True) h cs (R6 x)∧(R6 x).Wf:=by
 obtain⟨_,_,rfl,⟨rfl,a1⟩,_,_,rfl,⟨rfl,a2⟩,_,_,rfl,⟨rfl,a3⟩,_,_,rfl,⟨rfl,a4⟩,_,_,rfl,a5,rfl⟩:=H;obtain⟨s,rfl,F,D,A⟩:=Wi a5;have A:(R6 x).l.length*2≤140737488351232:=A;exact⟨⟨s,rfl,F⟩,⟨GW a1,GW a2,GW a3,GW a4,D,by omega⟩⟩
theorem WG {h:af}{cs:List Value}{x:tOp.T}(H:Rd tOp h cs x):Eo [OH x]:=by
 have h1:=(XX H).2;have D:=Yi H;refine⟨λo A=>?_,λo A=>?_,by simp⟩<;>(rw[List.mem_singleton.1 A])
 ·exact h1
 ·exact D
end Go.Proofs.YtcoimlclclnlkaaGreatDoor
namespace Go.Proofs.YtcoimlclclnlkaaGreatDoor
open Go Go.Crisp
attribute [local irreducible] ae cF aP stK aA vK qK bD gK dE aS mkK cG Cn DS Ad bsK clK
open _root_.Go.Proofs.Tryz
theorem Ea (o:Nat):∀(l:List Value) (c:Array Value) (k:Nat),(l.zipIdx k).foldl (λcs (p:Value×Nat)=>cs.setIfInBounds (o+p.2) p.1) c=wrL c (o+k) l
 | [],_,_=>rfl
 |v::l,c,k=>by
  simp only[List.zipIdx_cons,List.foldl_cons,wrL];exact Ea o l _ (k+1)
theorem bI {c:Array Value}{o n:Nat}{v:Value}{l:List Value}{rest:List (Nat×Nat×Value)}(A:v.cells=l.toArray)(D:l.length=n)(F:o+n≤c.size):aE c ((o,n,v)::rest)=aE (wrL c o l) rest:=by
 simp only[aE,A];rw[if_neg (by simp[D];omega)]
 congr 1
 rw[Array.zipIdx_toArray,List.foldl_toArray']
 ·exact Ea o l c 0
 ·simp
structure cK where
 s:Stg
 w:Int
 h:Int
def dP (n:Int):Prop:=1≤n∧n≤4096
instance (n:Int):Decidable (dP n):=by unfold dP;infer_instance
structure cK.Wf (d:cK):Prop where
 s:d.s.Wf
 w:dP d.w
 h:dP d.h
def cK.X (d:cK):Int:=d.s.x.lines.length
def cK.Y (d:cK):Int:=d.s.y.lines.length
structure pV (Z:Nat→Prop)(h:af)(b:Nat)(d:cK)(p q:Value):Prop where
 row:h[b]? =some (.cells #[p,q,.int .i64 d.s.border,.int .i64 d.w,.int .i64 d.h] 156 (0,0))
 x:dZ Z h p d.s.x
 y:dZ Z h q d.s.y
theorem pV.ext {Z:Nat→Prop}{h h':af}{b:Nat}{d:cK}{p q:Value}(H:pV Z h b d p q)(e:Ext h h'):pV Z h' b d p q:=⟨e.row H.row,H.x.ext e,H.y.ext e⟩
def c5 (n size:Int):Int:=(n+size-1)/size
def cU (d:cK):Int:=c5 d.X d.w
def bP (d:cK):Int:=cU d*c5 d.Y d.h
def iF (d:cK)(i:Int):Int:=i%cU d*d.w
def iR (d:cK)(i:Int):Int:=i/cU d*d.h
def qG (d:cK)(i:Int):Int:=min d.w (d.X-iF d i)
def sO (d:cK)(i:Int):Int:=min d.h (d.Y-iR d i)
theorem lN {n size:Int}(D:0≤n∧n≤65536)(A:dP size):0≤c5 n size∧c5 n size≤65536∧(1≤n→1≤c5 n size):=by
 unfold dP at A;unfold c5;refine⟨Int.ediv_nonneg (by omega) (by omega),?_,λh=>?_⟩
 ·have:=pG (a:=n+size-1) (b:=size) (L:=0) (U:=70000) (by omega) (by omega) (by omega) (by omega) (by omega);apply Int.le_of_lt_add_one;rw[Int.ediv_lt_iff_lt_mul (by omega)];omega
 ·rw[Int.le_ediv_iff_mul_le (by omega)];omega
theorem cK.bd {d:cK}(W:d.Wf):(0≤d.X∧d.X≤65536)∧(0≤d.Y∧d.Y≤65536):=by
 have h1:=W.s.x.len;have A:=W.s.y.len;unfold cK.X cK.Y;omega
theorem SC {h:af}{n size:Int}(D:0≤n∧n≤65536)(A:dP size):ae prog q8 #[.int .i64 n,.int .i64 size] h λr h'=>r=.int .i64 (c5 n size)∧h'=h:=by
 apply KX;unfold Bb;have F:=lN D A;unfold dP at A;unfold c5 at*;simp only[go_sem];rw[w64 (n:=n+size) (by omega) (by omega),w64 (n:=n+size-1) (by omega) (by omega),kr _ _ _ _ (by omega),ah,Int.tdiv_eq_ediv_of_nonneg (by omega),w64 (by omega) (by omega)];exact⟨rfl,trivial⟩
theorem Fk {Z:Nat→Prop}{h:af}{b:Nat}{d:cK}{p q:Value}(H:pV Z h b d p q)(W:d.Wf):ae prog fH #[ptr b] h λr h'=>r=.int .i64 (cU d)∧h'=h:=by
 apply yU;unfold oS;simp only[go_sem,Nat.zero_add];refine aG (λh'=>h'=h) rfl ?_;refine ao p (λh' e=>by rw[e];exact ai H.row) ?_;refine ao (.int .i64 d.w) (λh' e=>by rw[e];exact ai H.row) ?_;refine(AD H.x).mono λr h1 ⟨e,A⟩=>?_
 have A:=A.symm;subst e A;exact⟨rfl,SC (cK.bd W).1 W.w⟩
theorem An {Z:Nat→Prop}{h:af}{b:Nat}{d:cK}{p q:Value}(H:pV Z h b d p q)(W:d.Wf):ae prog dk #[ptr b] h λr h'=>r=.int .i64 (bP d)∧h'=h:=by
 apply BY;unfold rK;simp only[go_sem,Nat.zero_add];refine aG (λh'=>h'=h) rfl ?_;refine ao q (λh' e=>by rw[e];exact ai H.row) ?_;refine ao (.int .i64 d.h) (λh' e=>by rw[e];exact ai H.row) ?_;refine(Fk H W).mono λr h1 ⟨e,D⟩=>?_
 have D:=D.symm;subst e D;refine⟨rfl,?_⟩;refine(AD H.y).mono λr h1 ⟨e,D⟩=>?_
 have D:=D.symm;subst e D;refine⟨rfl,?_⟩;refine(SC (cK.bd W).2 W.h).mono λr h1 ⟨e,D⟩=>?_
 have D:=D.symm;subst e D;simp only[go_sem];have h1:=lN (cK.bd W).1 W.w;have F:=lN (cK.bd W).2 W.h;have G:=kT (a:=cU d) (A:=65536) (b:=c5 d.Y d.h) (B:=65536) h1.1 h1.2.1 F.1 F.2.1;have e:cU d*c5 (d.s.y.lines.length:Int) d.h=bP d:=rfl;have G:0≤cU d*c5 (d.s.y.lines.length:Int) d.h∧cU d*c5 (d.s.y.lines.length:Int) d.h≤65536*65536:=G;rw[w64 (by omega) (by omega)];exact⟨rfl,trivial⟩
theorem JR {h:af}{n:Int}:ae prog tW #[.int .i64 n] h λr h'=>r=.bool (decide (dP n))∧h'=h:=by
 apply Nb;unfold Df;simp only[go_sem];exact⟨rfl,trivial⟩
theorem Mj {Z:Nat→Prop}{h:af}{sv:Value}{s:Stg}{w hh:Int}(HS:mV Z h sv s):ae prog wR #[sv,.int .i64 w,.int .i64 hh] h λr h'=>
  Ext h h'∧((dP w∧dP hh)→∃b p q,r=.tuple #[ptr b,.int .i64 0]∧h.size≤b∧pV Z h' b ⟨s,w,hh⟩ p q)∧(¬(dP w∧dP hh)→r=.tuple #[.pointer none,.int .i64 9]):=by
 apply OW;unfold FK;obtain⟨p,q,rfl,hp,hq,W⟩:=gX HS;simp only[bC];refine aC λL h1 r1 D n1=>?_
 have np:=(Et hp).2;have nq:=(Et hq).2;have q0:aB h1 ⟨L,0,none⟩=some p:=ai r1;have q1:aB h1 ⟨L,1,none⟩=some q:=ai r1;simp only[go_sem,Nat.zero_add,q0,q1,np,nq];refine JR.mono λr U ⟨e,A⟩=>?_
 have A:=A.symm;subst e A;by_cases I:dP w
 ·simp only[go_sem,I];refine JR.mono λr U ⟨e,A⟩=>?_
  have A:=A.symm;subst e A;by_cases G:dP hh
  ·simp only[go_sem,G];rw[aI (l:=[p,q,.int .i64 s.border]) r1 3 rfl,ah];have hf:aE #[(.pointer none),(.pointer none),(.int .i64 0),(.int .i64 0),(.int .i64 0)] [(0,3,.agg #[p,q,.int .i64 s.border]),(3,1,.int .i64 w),(4,1,.int .i64 hh)]=some #[p,q,.int .i64 s.border,.int .i64 w,.int .i64 hh]:=rfl;rw[hf,bA,ah];refine aC (c:=#[p,q,.int .i64 s.border,.int .i64 w,.int .i64 hh]) λb2 U r2 H n2=>?_
   exact⟨D.trans H,λ_=>⟨b2,p,q,rfl,Nat.le_trans D.1 n2,r2,hp.ext (D.trans H),hq.ext (D.trans H)⟩,λF=>absurd ⟨trivial,trivial⟩ F⟩
  ·simp only[go_sem,G];exact⟨D,λF=>F.2.elim,λ_=>by simp⟩
 ·simp only[go_sem,I];exact⟨D,λF=>F.1.elim,λ_=>by simp⟩
structure cz where
 number:Int
 x:Int
 y:Int
 w:Int
 h:Int
 fx:Int
 fy:Int
 cx:Int
 cy:Int
 ring:Int
abbrev cS (t:cz):List Value:=[.int .i64 t.number,.int .i64 t.x,.int .i64 t.y,.int .i64 t.w,.int .i64 t.h,.int .i64 t.fx,.int .i64 t.fy,.int .i64 t.cx,.int .i64 t.cy,.int .i64 t.ring]
theorem iV (t:cz):∀v∈cS t,aJ v=true:=by
 intro v A;simp only[cS,List.mem_cons,List.not_mem_nil,or_false]at A;rcases A with rfl|rfl|rfl|rfl|rfl|rfl|rfl|rfl|rfl|rfl<;>rfl
theorem GZ {d:cK}(W:d.Wf){i:Int}(h0:0≤i)(h1:i<bP d):0≤iF d i∧iF d i<d.X∧0≤iR d i∧iR d i<d.Y:=by
 have A:=cK.bd W;have G:=W.w;have hh:=W.h;unfold dP at G hh;have U:=lN A.1 W.w;have h3:=lN A.2 W.h;have hc:0<cU d:=by
  rcases Int.lt_or_le 0 (cU d)with h|h
  ·exact h
  ·have h4:0≤cU d:=U.1;have:cU d=0:=by omega
   unfold bP at h1;rw[this,Int.zero_mul]at h1;omega
 have I:=Int.emod_nonneg i (show cU d≠0 by omega);have m1:=Int.emod_lt_of_pos i hc;have q0:=Int.ediv_nonneg h0 (show 0≤cU d by omega);have q1:i/cU d<c5 d.Y d.h:=by
  rw[Int.ediv_lt_iff_lt_mul hc,Int.mul_comm];exact h1
 have key:∀(n size k:Int),0≤n→1≤size→0≤k→k<c5 n size→0≤k*size∧k*size<n:=by
  intro n size k hn hs hk D;refine⟨Int.mul_nonneg hk (by omega),?_⟩;have L:k+1≤(n+size-1)/size:=D;rw[Int.le_ediv_iff_mul_le (by omega),Int.add_mul,Int.one_mul]at L;omega
 have H:=key d.X d.w (i%cU d) A.1.1 G.1 I m1;have F:=key d.Y d.h (i/cU d) A.2.1 hh.1 q0 q1;exact⟨H.1,H.2,F.1,F.2⟩
theorem Mh {Z:Nat→Prop}{h:af}{b:Nat}{d:cK}{p q:Value}(H:pV Z h b d p q)(W:d.Wf){i:Int}(h0:0≤i)(h1:i<bP d):ae prog kL #[ptr b,.int .i64 i] h λr h'=>
  r=.agg #[.int .i64 (iF d i),.int .i64 (iR d i),.int .i64 (qG d i),.int .i64 (sO d i)]∧Ext h h':=by
 apply ER;unfold uY;have ti:=GZ W h0 h1;have hb:=cK.bd W;have hw:=W.w;have hh:=W.h;unfold dP at hw hh;have h2:=lN hb.1 W.w;have G:=lN hb.2 W.h;have ab:0≤cU d∧cU d≤65536:=⟨h2.1,h2.2.1⟩
 have ad:=kT (a:=cU d) (A:=65536) (b:=c5 d.Y d.h) (B:=65536) h2.1 h2.2.1 G.1 G.2.1;have aa:bP d=cU d*c5 d.Y d.h:=rfl;have hc:0<cU d:=by
  rcases Int.lt_or_le 0 (cU d)with h|h
  ·exact h
  ·have:cU d=0:=by omega
   rw[aa,this,Int.zero_mul]at h1;omega
 have hq:=pG (a:=i) (b:=cU d) (L:=0) (U:=4294967296) (by omega) (by omega) (by omega) (by omega) (by omega);refine aC λb1 I r1 e1 n1=>?_
 have F:=H.ext e1;simp only[go_sem,Nat.zero_add];refine aG (λh'=>h'=I) rfl ?_;refine ao (.int .i64 d.w) (λh' e=>by rw[e];exact ai F.row) ?_;refine ao (.int .i64 d.h) (λh' e=>by rw[e];exact ai F.row) ?_;refine(Fk F W).mono λr G ⟨e,D⟩=>?_
 have D:=D.symm;subst e D;refine⟨rfl,?_⟩;rw[cV _ _ _ _ (by omega),ah,Int.tmod_eq_emod_of_nonneg h0];simp only[go_sem];refine(Fk F W).mono λr G ⟨e,D⟩=>?_
 have D:=D.symm;subst e D;refine⟨rfl,?_⟩;rw[kr _ _ _ _ (by omega),ah,Int.tdiv_eq_ediv_of_nonneg h0];simp only[go_sem];have ex:i%cU d*d.w=iF d i:=rfl;have ey:i/cU d*d.h=iR d i:=rfl;rw[w64 (n:=i/cU d) (by omega) (by omega),ex,ey,w64 (n:=iF d i) (by omega) (by omega),w64 (n:=iR d i) (by omega) (by omega)];refine aG (λh'=>h'=I) rfl ?_;simp only[go_sem,Nat.zero_add];refine ao (.int .i64 d.w) (λh' e=>by rw[e];exact ai F.row) ?_;refine ao p (λh' e=>by rw[e];exact ai F.row) ?_;refine ao (.int .i64 d.h) (λh' e=>by rw[e];exact ai F.row) ?_;refine ao q (λh' e=>by rw[e];exact ai F.row) ?_;refine(AD F.x).mono λr G ⟨e,D⟩=>?_
 have D:=D.symm;subst e D;refine⟨rfl,?_⟩;simp only[go_sem];have eX:(d.s.x.lines.length:Int)=d.X:=rfl;have eY:(d.s.y.lines.length:Int)=d.Y:=rfl;rw[eX,w64 (n:=d.X-iF d i) (by omega) (by omega)];refine ao (.int .i64 (min d.w (d.X-iF d i))) (λh' e=>by first|exact IV _ _ _|rfl) ?_;refine(AD F.y).mono λr G ⟨e,D⟩=>?_
 have D:=D.symm;subst e D;refine⟨rfl,?_⟩;simp only[go_sem];rw[eY,w64 (n:=d.Y-iR d i) (by omega) (by omega)];refine ao (.int .i64 (min d.h (d.Y-iR d i))) (λh' e=>by first|exact IV _ _ _|rfl) ?_;have hf:aE #[(.int .i64 0),(.int .i64 0),(.int .i64 0),(.int .i64 0)] [(0,1,Value.int .i64 (iF d i)),(1,1,Value.int .i64 (iR d i)),(2,1,Value.int .i64 (min d.w (d.X-iF d i))),(3,1,Value.int .i64 (min d.h (d.Y-iR d i)))]=some #[.int .i64 (iF d i),.int .i64 (iR d i),.int .i64 (qG d i),.int .i64 (sO d i)]:=rfl;rw[hf,bA,ah];refine ce (l:=[.int .i64 (iF d i),.int .i64 (iR d i),.int .i64 (qG d i),.int .i64 (sO d i)]) r1 rfl (ak rfl (ak rfl (ak rfl (ak rfl aQ)))) rfl λh5 r5 u5=>?_
 rw[aI r5 4 rfl,ah];exact⟨rfl,e1.upd n1 u5⟩
theorem TA (a b c d e f:Int):aE #[(.int .i64 0),(.int .i64 0),(.int .i64 0),(.int .i64 0),(.int .i64 0),(.int .i64 0),(.int .i64 0),(.int .i64 0),(.int .i64 0),(.int .i64 0)] [(0,1,Value.int .i64 a),(1,4,.agg #[.int .i64 b,.int .i64 c,.int .i64 d,.int .i64 e]),(9,1,.int .i64 f)]=some (cS ⟨a,b,c,d,e,0,0,0,0,f⟩).toArray:=by
 refine(bI (n:=1) (l:=[.int .i64 a]) rfl rfl (by simp)).trans ?_;refine(bI (n:=4) (l:=[.int .i64 b,.int .i64 c,.int .i64 d,.int .i64 e]) rfl rfl (by simp[bZ])).trans ?_;refine(bI (n:=1) (l:=[.int .i64 f]) rfl rfl (by simp[bZ])).trans ?_;rw[fB];simp[wrL,cS]
def aM (d:cK)(i:Int):cz:=
 ⟨i,iF d i,iR d i,qG d i,sO d i,(uf d.s.x (iF d i) (iF d i+qG d i)).1,(uf d.s.y (iR d i) (iR d i+sO d i)).1,
  (uf d.s.x (iF d i) (iF d i+qG d i)).2,(uf d.s.y (iR d i) (iR d i+sO d i)).2,bX d.s.y.lines⟩
theorem sf {Z:Nat→Prop}{h:af}{b:Nat}{d:cK}{p q:Value}(H:pV Z h b d p q)(W:d.Wf){i:Int}(h0:0≤i)(h1:i<bP d):ae prog eM #[ptr b,.int .i64 i] h λr h'=>
  r=.tuple #[.agg (cS (aM d i)).toArray,.bool true]∧Ext h h':=by
 apply DP;unfold tF;have ti:=GZ W h0 h1;have hb:=cK.bd W;have hw:=W.w;have hh:=W.h;unfold dP at hw hh;refine aC λb1 h2 r1 e1 n1=>?_
 have G:=H.ext e1;have hi:(i<0)=False:=eq_false (by omega);simp only[go_sem,hi];refine(An G W).mono λr h3 ⟨e,F⟩=>?_
 have F:=F.symm;subst e F;simp only[go_sem];rw[decide_eq_false (by omega),cf];have ax:=aU r1;refine aV (λxs h'=>∃U,xs=[ptr U]∧Ext h2 h'∧h2.size≤U∧h'[U]? =some (.cells (cS ⟨i,iF d i,iR d i,qG d i,sO d i,0,0,0,0,bX d.s.y.lines⟩).toArray 65 (0,0))) ?_ ?_
 ·simp only[go_sem,Nat.zero_add];refine aG (Ext h2) (Ext.refl _) ?_;refine ao q (λh' e=>ai (e.row G.row)) ?_;have hf:aE #[(.int .i64 0),(.int .i64 0),(.int .i64 0),(.int .i64 0),(.int .i64 0),(.int .i64 0),(.int .i64 0),(.int .i64 0),(.int .i64 0),(.int .i64 0)] [(0,1,Value.int .i64 i),(1,4,.agg #[.int .i64 (iF d i),.int .i64 (iR d i),.int .i64 (qG d i),.int .i64 (sO d i)]),(9,1,.int .i64 (bX d.s.y.lines))]=some (cS ⟨i,iF d i,iR d i,qG d i,sO d i,0,0,0,0,bX d.s.y.lines⟩).toArray:=TA _ _ _ _ _ _;refine⟨?_,?_⟩
  ·refine(Mh G W h0 h1).mono λr h3 ⟨e,D⟩=>?_
   subst e;refine⟨D,?_,?_⟩
   ·refine(NK (G.y.ext D)).mono λr h4 ⟨e,F⟩=>?_
    have F:=F.symm;subst e F;refine⟨D,?_⟩;rw[hf,bA,ah];refine aC λb4 h4 r4 A n4=>⟨D.trans A,?_⟩
    have I:=Nat.le_trans D.1 n4;refine ce (l:=cS _) r4 rfl (iV _) rfl λh5 r5 u5=>?_
    have E:=(D.trans A).upd I u5;exact⟨E,b4,rfl,E,I,r5⟩
   ·refine aC λb4 h4 r4 A n4=>⟨D.trans A,?_⟩
    have I:=Nat.le_trans D.1 n4;refine(NK (G.y.ext (D.trans A))).mono λr h5 ⟨e,F⟩=>?_
    have F:=F.symm;subst e F;refine⟨D.trans A,?_⟩;rw[hf,bA,ah];refine ce (l:=cS _) r4 rfl (iV _) rfl λh5 r5 u5=>?_
    have E:=(D.trans A).upd I u5;exact⟨E,b4,rfl,E,I,r5⟩
  ·refine aC λb4 h4 r4 A n4=>⟨A,?_⟩
   refine(Mh (G.ext A) W h0 h1).mono λr h3 ⟨e,D⟩=>?_
   subst e;refine⟨A.trans D,?_⟩;refine(NK (G.y.ext (A.trans D))).mono λr h5 ⟨e,F⟩=>?_
   have F:=F.symm;subst e F;refine⟨A.trans D,?_⟩;rw[hf,bA,ah];refine ce (l:=cS _) (D.row r4) rfl (iV _) rfl λh5 r5 u5=>?_
   have E:=(A.trans D).upd n4 u5;exact⟨E,b4,rfl,E,n4,r5⟩
 rintro xs ρj h3 ⟨U,rfl,E3,L,r3⟩;have H3:=G.ext E3;have an:=G.row;have ad:b≠U:=by have:=aU G.row;omega
 have al:b1≠U:=by omega
 have aw:0≤iF d i+qG d i∧iF d i+qG d i≤65536:=by unfold qG;omega
 have ar:0≤iR d i+sO d i∧iR d i+sO d i≤65536:=by unfold sO;omega
 refine aG (λh'=>h'=h3) rfl ?_;simp only[go_sem,Nat.zero_add];refine ao p (λh' e=>by rw[e];exact ai H3.row) ?_;refine ao (.int .i64 (iF d i)) (λh' e=>by rw[e];exact ai r3) ?_;refine ao (.int .i64 (iF d i)) (λh' e=>by rw[e];exact ai r3) ?_;refine ao (.int .i64 (qG d i)) (λh' e=>by rw[e];exact ai r3) ?_;simp only[go_sem];rw[w64 (by omega) (by omega)];refine(NH H3.x W.s.x (by unfold I64;omega) (by unfold I64;omega)).mono λr h4 ⟨e,A⟩=>?_
 subst e;simp only[go_sem,Nat.zero_add];refine bJ (A.row r3) (by simp) rfl λh5 r5 u5=>?_
 refine bJ r5 (by simp) rfl λh6 r6 u6=>?_
 have E6:Ext h2 h6:=((E3.trans A).upd L u5).upd L u6;have H6:=G.ext E6;have r6:h6[U]? =some (.cells (cS ⟨i,iF d i,iR d i,qG d i,sO d i,(uf d.s.x (iF d i) (iF d i+qG d i)).1,0,(uf d.s.x (iF d i) (iF d i+qG d i)).2,0,bX d.s.y.lines⟩).toArray 65 (0,0)):=r6;refine aG (λh'=>h'=h6) rfl ?_
 try simp only[go_sem,Nat.zero_add]
 refine ao q (λh' e=>by rw[e];exact ai H6.row) ?_;refine ao (.int .i64 (iR d i)) (λh' e=>by rw[e];exact ai r6) ?_;refine ao (.int .i64 (iR d i)) (λh' e=>by rw[e];exact ai r6) ?_;refine ao (.int .i64 (sO d i)) (λh' e=>by rw[e];exact ai r6) ?_;simp only[go_sem];rw[w64 (by omega) (by omega)];refine(NH H6.y W.s.y (by unfold I64;omega) (by unfold I64;omega)).mono λr h7 ⟨e,e7⟩=>?_
 subst e;simp only[go_sem,Nat.zero_add];refine bJ (e7.row r6) (by simp) rfl λh8 r8 u8=>?_
 refine bJ r8 (by simp) rfl λh9 r9 u9=>?_
 have E9:Ext h2 h9:=((E6.trans e7).upd L u8).upd L u9;have r9:h9[U]? =some (.cells (cS (aM d i)).toArray 65 (0,0)):=r9;rw[aI r9 10 rfl,ah];refine ce (l:=cS (aM d i)) (E9.row r1) rfl (iV _) rfl λau aa ab=>?_
 rw[aI aa 10 rfl,ah];exact⟨rfl,(e1.trans E9).upd n1 ab⟩
def HV:OpD:=⟨3,0,0,0,[],[],0,5,3⟩
theorem RB {h:af}(G:dA h):ae prog uG #[] h λr h'=>r=.bool true∧Ext h h':=by
 apply IB;unfold yo;have hf:(aE #[(.int .i64 0),(.int .i64 0),(.int .i64 0),(.int .i64 0),(.slice none 0 0),(.slice none 0 0),(.int .i64 0),(.int .i64 0),(.int .i64 0)] [(0,1,(.int .i64 3)),(7,1,(.int .i64 5)),(8,1,(.int .i64 3)),(6,1,(.int .i64 0))])=some #[.int .i64 3,.int .i64 0,.int .i64 0,.int .i64 0,.slice none 0 0,.slice none 0 0,.int .i64 0,.int .i64 5,.int .i64 3]:=rfl;rw[hf,bA,ah];have wf:HV.Wf:=yI (by simp[I64]);refine(Fl (Z:=λ_=>True) (o:=HV) G yJ wf (by simp[HV]) (by simp[HV]) (by unfold I64;omega) (by unfold I64;omega)).mono λw h1 ⟨sv,e,e1,_,s1⟩=>?_
 subst e;have a1:dT HV 9 9=0:=by decide+kernel
 have HS:=s1 a1;rw[a1];obtain⟨p,q,rfl,hp,hq,D⟩:=gX HS;simp only[go_sem];refine cD (cs:=[p,q,.int .i64 _]) rfl D rfl λb2 h2 r2 W n2=>?_
 refine(JU (G.ext (e1.trans W))).mono λr h3 ⟨e,H⟩=>?_
 subst e;have z0:((0:Int)=0)=True:=eq_true rfl;simp only[go_sem,z0,decide_true];rw[aI (l:=[p,q,.int .i64 _]) (H.row r2) 3 rfl,ah];refine(Mj (HS.ext (W.trans H))).mono λr h4 ⟨e4,hy,_⟩=>?_
 obtain⟨b4,p4,q4,e,aa,P⟩:=hy ⟨by decide,by decide⟩;subst e;have np:ag .p .eql (ptr b4) (.pointer none)=some (.bool false):=rfl;simp only[go_sem,z0,np,decide_true];have PW:cK.Wf ⟨bL HV 9 9,2,2⟩:=⟨(vu a1).1,by decide,by decide⟩
 have A:bP ⟨bL HV 9 9,2,2⟩=6:=by decide+kernel
 refine(sf P PW (i:=5) (by omega) (by rw[A];omega)).mono λr h5 ⟨e,e5⟩=>?_
 subst e;simp only[go_sem];refine cD (cs:=cS _) rfl (iV _) rfl λb6 h6 r6 e6 n6=>?_
 refine(An (P.ext (e5.trans e6)) PW).mono λr h7 ⟨e,L⟩=>?_
 have L:=L.symm;subst e L;rw[A];have t1:iF ⟨bL HV 9 9,2,2⟩ 5=4:=by decide+kernel
 have t2:iR ⟨bL HV 9 9,2,2⟩ 5=2:=by decide+kernel
 have t3:qG ⟨bL HV 9 9,2,2⟩ 5=1:=by decide+kernel
 have t4:sO ⟨bL HV 9 9,2,2⟩ 5=1:=by decide+kernel
 have F:aH 4 h6 (.pointer (some ⟨b6,1,none⟩))=some (.agg #[.int .i64 4,.int .i64 2,.int .i64 1,.int .i64 1]):=by
  refine D3 [.int .i64 4,.int .i64 2,.int .i64 1,.int .i64 1] 4 rfl λj hj=>?_
  rw[ai r6]
  match j,hj with
  |0,_=>exact congrArg (λn=>some (Value.int .i64 n)) t1
  |1,_=>exact congrArg (λn=>some (Value.int .i64 n)) t2
  |2,_=>exact congrArg (λn=>some (Value.int .i64 n)) t3
  |3,_=>exact congrArg (λn=>some (Value.int .i64 n)) t4
 have I:aE #[(.int .i64 0),(.int .i64 0),(.int .i64 0),(.int .i64 0)] [(0,1,(.int .i64 4)),(1,1,(.int .i64 2)),(2,1,(.int .i64 1)),(3,1,(.int .i64 1))]=some #[.int .i64 4,.int .i64 2,.int .i64 1,.int .i64 1]:=rfl;have U:ag (.st [(0,1,.i),(1,1,.i),(2,1,.i),(3,1,.i)]) .eql (.agg #[.int .i64 4,.int .i64 2,.int .i64 1,.int .i64 1]) (.agg #[.int .i64 4,.int .i64 2,.int .i64 1,.int .i64 1])=some (.bool true):=rfl;simp only[go_sem,eq_self,decide_true,Nat.zero_add,F,I,bA,U];exact⟨by simp,e1.trans (W.trans (H.trans (e4.trans (e5.trans e6))))⟩
end Go.Proofs.YtcoimlclclnlkaaGreatDoor
namespace Go.Crisp
open Go Go.MapKept
section
section
variable {α:Type}
def eo (j:Int):List (Int×α)→Option α
 | []=>none
 |(k,v)::r=>if k=j then some v else eo j r
def Pg (j:Int)(v:α):List (Int×α)→List (Int×α)
 | []=>[(j,v)]
 |(k,u)::r=>if k=j then(j,v)::r else(k,u)::Pg j v r
def mG (j:Int):List (Int×α)→List (Int×α)
 | []=>[]
 |(k,u)::r=>if k=j then r else(k,u)::mG j r
def y6 (j:Int):List (Int×α)→Nat→Option (Nat×α)
 | [],_=>none
 |(k,v)::r,i=>if k=j then some (i,v)else y6 j r (i+1)
def nC {β:Type}(f:α→β)(l:List (Int×α)):List (Int×β):=l.map λp=>(p.1,f p.2)
theorem vx {β:Type}(f:α→β)(l:List (Int×α)):(nC f l).map Prod.fst=l.map Prod.fst:=by simp[nC,List.map_map,Function.comp_def]
theorem pE {β:Type}(f:α→β)(j:Int):∀l:List (Int×α),eo j (nC f l)=(eo j l).map f
 | []=>rfl
 |(k,v)::r=>by
  have A:=pE f j r;unfold nC at A ⊢;simp only[List.map_cons,eo];split
  ·rfl
  ·exact A
theorem Jn {β:Type}(f:α→β)(j:Int):∀l:List (Int×α),mG j (nC f l)=nC f (mG j l)
 | []=>rfl
 |(k,v)::r=>by
  have A:=Jn f j r;unfold nC at A ⊢;simp only[List.map_cons,mG];split
  ·rfl
  ·simp[A]
end
def Cm (es:List MapEntry)(kv:List (Int×Value)):Prop:=es.map (λe=>(e.key,e.val))=kv.map λp=>(Value.int .i64 p.1,p.2)
def qS (h:af)(b:Nat)(kv:List (Int×Value)):Prop:=∃es c,h[b]? =some (.map es c)∧Stamped es c∧Cm es.toList kv
theorem Cm.length {A:List MapEntry}{kv:List (Int×Value)}(H:Cm A kv):A.length=kv.length:=by
 have:=congrArg List.length H;simpa using this
theorem qS.nodup {h:af}{b:Nat}{kv:List (Int×Value)}(H:qS h b kv):(kv.map Prod.fst).Nodup:=by
 obtain⟨G,c,_,D,F⟩:=H;have h1:G.toList.map (·.key)=(kv.map Prod.fst).map (Value.int .i64):=by
  have:=congrArg (List.map Prod.fst) F;simpa[List.map_map,Function.comp_def]using this
 have A:=D.2.2;rw[h1]at A;unfold List.Nodup at A ⊢;rw[List.pairwise_map]at A;exact A.imp λh e=>h (by rw[e])
theorem qS.row {h h':af}{b:Nat}{kv:List (Int×Value)}(H:qS h b kv)(r:h'[b]? =h[b]?):qS h' b kv:=by
 obtain⟨D,c,h1,A⟩:=H;exact⟨D,c,r.trans h1,A⟩
theorem qS.lt {h:af}{b:Nat}{kv:List (Int×Value)}(H:qS h b kv):b<h.size:=by
 obtain⟨A,c,h1,_⟩:=H;exact aU h1
theorem qS.fr {M:Nat→Prop}{h h':af}{b:Nat}{kv:List (Int×Value)}(H:qS h b kv)(f:Fr M h h')(A:¬M b):qS h' b kv:=H.row (f.2 b H.lt A)
theorem qS.ext {h h':af}{b:Nat}{kv:List (Int×Value)}(H:qS h b kv)(e:Ext h h'):qS h' b kv:=H.row (e.2 b H.lt)
theorem Eb (j:Int):∀(A:List MapEntry) (kv:List (Int×Value)) (i:Nat),Cm A kv→Instr.findNow (.int .i64) (.int .i64 j) A i=some (y6 j kv i)
 | [],kv,i,H=>by
  have:kv=[]:=List.eq_nil_of_length_eq_zero (by rw[←Cm.length H];rfl);subst this;rfl
 |e::A,[],i,H=>by have:=Cm.length H;simp at this
 | e::A,(k,v)::kv,i,H=>by
  unfold Cm at H;simp only[List.map_cons,List.cons.injEq,Prod.mk.injEq]at H;obtain⟨⟨h1,I⟩,H⟩:=H;unfold Instr.findNow y6;rw[h1];have G:Instr.sameNow (.int .i64) (.int .i64 j) (.int .i64 k)=some (j==k):=by simp[Instr.sameNow]
  rw[G];by_cases D:k=j
  ·subst D;simp[I]
  ·have F:(j==k)=false:=by simp;exact λh=>D h.symm
   rw[F,if_neg D];exact Eb j A kv (i+1) H
theorem Fe {α:Type}(j:Int):∀(kv:List (Int×α)) (i:Nat),(y6 j kv i).map Prod.snd=eo j kv
 | [],_=>rfl
 |(k,v)::r,i=>by
  unfold y6 eo;split
  ·rfl
  ·exact Fe j r (i+1)
theorem nD {α:Type}{j:Int}:∀{kv:List (Int×α)},eo j kv=none↔j∉kv.map Prod.fst
 | []=>by simp[eo]
 |(k,v)::r=>by
  unfold eo;by_cases A:k=j
  ·simp[A]
  ·simp[A,nD (kv:=r),Ne.symm A]
theorem Jl {α:Type}{j:Int}{kv:List (Int×α)}{i:Nat}(h:y6 j kv i=none):eo j kv=none:=by
 rw[←Fe j kv i,h];rfl
theorem Ce {α:Type}{j:Int}:∀{kv:List (Int×α)} {i m:Nat} {v:α},y6 j kv i=some (m,v)→i≤m∧kv[m-i]? =some (j,v)∧(∀u,Pg j u kv=kv.set (m-i) (j,u))∧mG j kv=kv.eraseIdx (m-i)
 | [],_,_,_,h=>by cases h
 | (k,v)::r,i,m,u,h=>by
  unfold y6 at h;split at h
  ·rename_i A;cases h;subst A;simp[Pg,mG]
  ·rename_i A;obtain⟨h1,G,H,F⟩:=Ce h;have D:m-i=(m-(i+1))+1:=by omega
   refine⟨by omega,?_,λu=>?_,?_⟩
   ·rw[D];simpa using G
   ·rw[D];simp[Pg,A,H u]
   ·rw[D];simp[mG,A,F]
theorem Ff {α:Type}{j:Int}{v:α}:∀{kv:List (Int×α)},eo j kv=some v→kv.Perm ((j,v)::mG j kv)
 | (k,u)::r,h=>by
  unfold eo at h;unfold mG;split at h
  ·rename_i A;cases h;subst A;rw[if_pos rfl]
  ·rename_i A;rw[if_neg A];exact((Ff h).cons (k,u)).trans (List.Perm.swap ..)
theorem Jk {α:Type}{j:Int}{v:α}:∀{kv:List (Int×α)},eo j kv=some v→(j,v)∈kv
 | (k,u)::r,h=>by
  unfold eo at h;split at h
  ·rename_i A;cases h;subst A;exact List.mem_cons_self ..
  ·exact List.mem_cons_of_mem _ (Jk h)
theorem FW {α:Type}{j:Int}{v:α}:∀{kv:List (Int×α)},(kv.map Prod.fst).Nodup→(j,v)∈kv→eo j kv=some v
 | (k,u)::r,hn,h=>by
  unfold eo;rw[List.map_cons,List.nodup_cons]at hn;rcases List.mem_cons.1 h with h|h
  ·cases h;rw[if_pos rfl]
  ·rw[if_neg]
   ·exact FW hn.2 h
   ·rintro rfl;exact hn.1 (List.mem_map.2 ⟨_,h,rfl⟩)
theorem D5 {α:Type}{j i:Int}:∀{kv:List (Int×α)},(kv.map Prod.fst).Nodup→eo i (mG j kv)=if i=j then none else eo i kv
 | [],_=>by simp[mG,eo]
 | (k,u)::r,hn=>by
  rw[List.map_cons,List.nodup_cons]at hn;unfold mG;by_cases D:k=j
  ·subst D;rw[if_pos rfl];by_cases hi:i=k
   ·subst hi;rw[if_pos rfl];exact nD.2 hn.1
   ·rw[if_neg hi,eo,if_neg (Ne.symm hi)]
  ·rw[if_neg D];unfold eo;by_cases A:k=i
   ·subst A;rw[if_pos rfl,if_neg D,if_pos rfl]
   ·rw[if_neg A,if_neg A];exact D5 hn.2
theorem Jm {α:Type}{j:Int}:∀{kv:List (Int×α)},(mG j kv).Sublist kv
 | []=>List.Sublist.refl _
 |(k,u)::r=>by
  unfold mG;split
  ·exact List.sublist_cons_self ..
  ·exact Jm.cons_cons _
def Pc (ok:Bool)(z:Value):Option Value→Value
 |some v=>bif ok then .tuple #[v,.bool true]else v
 |none=>bif ok then .tuple #[z,.bool false]else z
theorem Je {h:af}{b:Nat}{kv:List (Int×Value)}(H:qS h b kv)(z:Value)(ok:Bool)(j:Int):FT (.int .i64) z ok h (.map (some b)) (.int .i64 j)=some (Pc ok z (eo j kv)):=by
 obtain⟨A,c,D,_,F⟩:=H;have G:Pa h (.map (some b))=some (A,c):=by unfold Pa;simp[D]
 unfold FT;simp only[G,Eb j A.toList kv 0 F];rw[←Fe j kv 0];cases y6 j kv 0 with
 |none=>rfl
 |some p=>rfl
theorem Nn {h:af}{b:Nat}{kv:List (Int×Value)}(H:qS h b kv):LM h (.map (some b))=some (.int .i64 (kv.length:Nat)):=by
 obtain⟨F,c,A,_,D⟩:=H;unfold LM;simp only[A];rw[←D.length,Array.length_toList]
theorem Jj {α:Type}{j:Int}{v:α}:∀{kv:List (Int×α)},eo j kv=none→Pg j v kv=kv++[(j,v)]
 | [],_=>rfl
 | (k,u)::r,h=>by
  unfold eo at h;split at h
  ·cases h
  ·rename_i A;simp[Pg,A,Jj h]
theorem LQ {α:Type}{j:Int}:∀{kv:List (Int×α)},eo j kv=none→mG j kv=kv
 | [],_=>rfl
 | (k,u)::r,h=>by
  unfold eo at h;split at h
  ·cases h
  ·rename_i A;simp[mG,A,LQ h]
theorem WB {h:af}{b:Nat}{kv:List (Int×Value)}{j:Int}{v:Value}{K:Value→af→Prop}(H:qS h b kv)(HK:∀h',qS h' b (Pg j v kv)→Upd b h h'→K undef h'):
  qN (.int .i64) (.map (some b)) (.int .i64 j) v h K:=by
 obtain⟨es,c,hb,hs,D⟩:=H;unfold qN;simp only[hb,Eb j es.toList kv 0 D];cases hf:y6 j kv 0 with
 | none=>
  have hg:=Jl hf;simp only;refine HK _ ⟨_,_,kB hb,stamped_push hs λx U aa=>?_,?_⟩ Upd.set
  ·have h1:j∈kv.map Prod.fst:=by
    have:(x.key,x.val)∈kv.map λp=>(Value.int .i64 p.1,p.2):=by rw[←D];exact List.mem_map.2 ⟨x,U,rfl⟩
    obtain⟨p,hp,I⟩:=List.mem_map.1 this;rw[aa]at I;have G:=congrArg Prod.fst I;simp at G;exact List.mem_map.2 ⟨p,hp,G⟩
   exact nD.1 hg h1
  ·unfold Cm at D ⊢;rw[Jj hg,Array.toList_push,List.map_append,D,List.map_append];rfl
 | some p=>
  obtain⟨i,u⟩:=p;obtain⟨_,G,h3,_⟩:=Ce hf;rw[Nat.sub_zero]at G h3;have hi:i<kv.length:=(List.getElem?_eq_some_iff.1 G).1;have A:i<es.size:=by rw[←Array.length_toList,D.length];exact hi
  have F:es[i].key=.int .i64 j:=by
   have h4:=congrArg (λl=>(l[i]?).map Prod.fst) D;simp only[List.getElem?_map,G,Option.map_some,Array.getElem?_toList,Array.getElem?_eq_getElem A]at h4;exact Option.some.inj h4
  simp only;refine⟨?_,HK _ ⟨_,_,kB hb,stamped_modify hs i _ (λe _=>rfl) (λe _ U=>?_),?_⟩ Upd.set⟩
  ·rw[Array.getElem?_eq_getElem A];simp only[Option.map_some,Option.getD_some,F];simp[Instr.sameBits]
  ·rw[Array.getElem?_eq_getElem A]at U;cases U;exact F.symm
  ·rw[h3];unfold Cm at D ⊢;apply List.ext_getElem?;intro m;have L:=congrArg (λl=>l[m]?) D;simp only[List.getElem?_map,Array.getElem?_toList]at L ⊢;rw[Array.getElem?_modify,List.getElem?_set];by_cases W:i=m
   ·subst W;rw[if_pos rfl,if_pos rfl,if_pos hi,Array.getElem?_eq_getElem A];rfl
   ·rw[if_neg W,if_neg W];exact L
theorem EU {α β:Type}(f:α→β):∀(l:List α) (i:Nat),(l.eraseIdx i).map f=(l.map f).eraseIdx i
 | [],_=>rfl
 |a::l,0=>rfl
 |a::l,i+1=>by simp[EU f l i]
theorem Cm.key {F:List MapEntry}{kv:List (Int×Value)}(H:Cm F kv){e:MapEntry}(I:e∈F):∃j,e.key=.int .i64 j∧(j,e.val)∈kv:=by
 have:(e.key,e.val)∈kv.map λp=>(Value.int .i64 p.1,p.2):=by rw[←H];exact List.mem_map.2 ⟨e,I,rfl⟩
 obtain⟨p,G,A⟩:=List.mem_map.1 this;have h1:=congrArg Prod.fst A;have D:=congrArg Prod.snd A;simp only at h1 D;exact⟨p.1,h1.symm,by rw[←D];exact G⟩
theorem Vi {h:af}{b:Nat}{kv:List (Int×Value)}{j:Int}{K:Value→af→Prop}(H:qS h b kv)
  (HK:∀h',qS h' b (mG j kv)→Upd b h h'→(∀D c,h[b]? =some (.map D c)→∃A,h'[b]? =some (.map A c)∧∀e∈A,e∈D∧e.key≠ .int .i64 j)→K (.tuple #[]) h'):
  lS (.int .i64) (.map (some b)) (.int .i64 j) h K:=by
 have H0:=H;have aa:=H.nodup;obtain⟨D,c,G,hs,I⟩:=H;have sub:∃h',qS h' b (mG j kv)∧Upd b h h'∧(∃A,h'[b]? =some (.map A c)∧(∀e∈A,e∈D)∧Cm A.toList (mG j kv))∧∀K:Value→af→Prop,K (.tuple #[]) h'→lS (.int .i64) (.map (some b)) (.int .i64 j) h K:=by
  cases hf:y6 j kv 0 with
  |none=>
   have hk:Cm D.toList (mG j kv):=by rw[LQ (Jl hf)];exact I
   refine⟨_,⟨D,c,kB G,hs,hk⟩,Upd.set,⟨D,kB G,λe h=>h,hk⟩,λK W=>?_⟩;unfold lS;simp only[G,Eb j D.toList kv 0 I,hf];exact W
  | some p=>
   obtain⟨i,u⟩:=p;obtain⟨_,h2,_,h4⟩:=Ce hf;rw[Nat.sub_zero]at h2 h4;have hi:i<kv.length:=(List.getElem?_eq_some_iff.1 h2).1;have F:i<D.size:=by rw[←Array.length_toList,I.length];exact hi
   have hk:Cm (D.eraseIdxIfInBounds i).toList (mG j kv):=by
    rw[h4];unfold Cm at I ⊢;rw[Array.eraseIdxIfInBounds,dif_pos F];have:(D.eraseIdx i F).toList=D.toList.eraseIdx i:=by simp
    rw[this,EU,I,←EU]
   refine⟨_,⟨_,_,kB G,stamped_erase hs i,hk⟩,Upd.set,⟨_,kB G,λe h=>?_,hk⟩,λK W=>?_⟩
   ·rw[Array.eraseIdxIfInBounds,dif_pos F,←Array.mem_toList_iff,Array.toList_eraseIdx]at h;rw[←Array.mem_toList_iff];exact(List.eraseIdx_sublist ..).subset h
   ·unfold lS;simp only[G,Eb j D.toList kv 0 I,hf];exact W
 obtain⟨h',m',u',⟨A,ab,U,ad⟩,W⟩:=sub;refine W K (HK h' m' u' λal c0 h0=>?_);rw[G]at h0;cases h0;refine⟨A,ab,λe h=>⟨U e h,λL=>?_⟩⟩;obtain⟨i,hi,hm⟩:=ad.key (Array.mem_toList_iff.2 h);rw[L]at hi;cases hi;have h1:=FW m'.nodup hm;rw[D5 aa,if_pos rfl]at h1;cases h1
theorem WI {h:af}{K:Value→af→Prop}(A:∀b h',qS h' b []→Ext h h'→h.size≤b→K (.map (some b)) h'):R9 h K:=
 A h.size _ ⟨#[],0,o0,stamped_empty 0,rfl⟩ (Ext.push h _) (Nat.le_refl _)
end
end Go.Crisp
namespace Go.Proofs.YtcoimlclclnlkaaGreatDoor
open Go Go.Crisp
open _root_.Go.Proofs.Tryz
def Dx:Go.Shelf.Ren:=⟨λn=>match n with|8=>258|11=>283|n=>n,λn=>match n with|0=>0|24=>28|26=>2|28=>351|33=>317|n=>n,λn=>n⟩
theorem Lh:Go.Proofs.SlLaysZI.n8 prog Dx where
 mixed:=by kernel_rfl
 f8:=⟨"slices.Collect[int64]",by kernel_rfl,by kernel_rfl⟩
 f11:=⟨"slices.AppendSeq[[]int64,int64]",by kernel_rfl,by kernel_rfl⟩
 t0:=by kernel_rfl
 a0:=λw=>bO (by kernel_rfl)
 z0:=λw=>bh (by kernel_rfl)
 v0:=λw=>aT (by kernel_rfl)
 t24:=by kernel_rfl
 a24:=λw=>bO (by kernel_rfl)
 z24:=λw=>bh (by kernel_rfl)
 v24:=λw=>aT (by kernel_rfl)
 t26:=by kernel_rfl
 a26:=λw=>bO (by kernel_rfl)
 z26:=λw=>bh (by kernel_rfl)
 v26:=λw=>aT (by kernel_rfl)
 t28:=by kernel_rfl
 a28:=λw=>bO (by kernel_rfl)
 z28:=λw=>bh (by kernel_rfl)
 v28:=λw=>aT (by kernel_rfl)
 i26:=by kernel_rfl
def yH:Go.Shelf.Ren:=⟨λn=>match n with|10=>284|n=>n,λn=>match n with|0=>0|3=>28|4=>4|23=>236|26=>2|33=>317|n=>n,λn=>n⟩
theorem Ji:Go.Proofs.SlLaysZI.n10 prog yH where
 mixed:=by kernel_rfl
 f10:=⟨"maps.Keys[map[int64][]int64,int64,[]int64]$1",by kernel_rfl,by kernel_rfl⟩
 t0:=by kernel_rfl
 a0:=λw=>bO (by kernel_rfl)
 z0:=λw=>bh (by kernel_rfl)
 v0:=λw=>aT (by kernel_rfl)
 t4:=by kernel_rfl
 a4:=λw=>bO (by kernel_rfl)
 z4:=λw=>bh (by kernel_rfl)
 v4:=λw=>aT (by kernel_rfl)
 t23:=by kernel_rfl
 a23:=λw=>bO (by kernel_rfl)
 z23:=λw=>bh (by kernel_rfl)
 v23:=λw=>aT (by kernel_rfl)
 t26:=by kernel_rfl
 a26:=λw=>bO (by kernel_rfl)
 z26:=λw=>bh (by kernel_rfl)
 v26:=λw=>aT (by kernel_rfl)
 t33:=by kernel_rfl
 a33:=λw=>bO (by kernel_rfl)
 z33:=λw=>bh (by kernel_rfl)
 v33:=λw=>aT (by kernel_rfl)
def vi (x:Int):Value:=.int .i64 x
def jR (h:af)(v:Value)(l:List Int):Prop:=
 ∃a cap,v=.slice a l.length cap∧(l=[]∨∃b o,a=some ⟨b,o,none⟩∧∀i (hi:i<l.length),aB h ⟨b,o+i,none⟩=some (vi l[i]))
theorem jR.ext {h h':af}{v:Value}{l:List Int}(H:jR h v l)(e:Ext h h'):jR h' v l:=by
 obtain⟨a,cap,rfl,A⟩:=H;refine⟨a,cap,rfl,A.imp id ?_⟩;rintro⟨b,o,rfl,hc⟩;exact⟨b,o,rfl,λi hi=>e.cell (hc i hi)⟩
def Fp (a b:List Int):Bool:=decide (a.length=b.length)&&(a.zip b).all λp=>decide (p.1≤p.2)
theorem Kh {a b:List Int}(h:a.length=b.length):Fp a b=true↔ ∀i (hi:i<a.length),a[i]≤b[i]'(h▸hi):=by
 simp only[Fp,h,decide_true,Bool.true_and,List.all_eq_true,decide_eq_true_eq];constructor
 ·intro H i hi;have:=H (a[i],b[i]'(h▸hi)) (by rw[List.mem_iff_getElem];exact⟨i,by simp;omega,by simp⟩);exact this
 ·intro H p A;obtain⟨i,hi,rfl⟩:=List.mem_iff_getElem.1 A;simp only[List.length_zip]at hi;simpa using H i (by omega)
theorem Xz {h:af}{a b:Value}{D lb:List Int}(ha:jR h a D)(hb:jR h b lb)(hn:D.length≤9223372036854775807):
  ae prog uL #[a,b] h λv h'=>v=.bool (Fp D lb)∧h'=h:=by
 apply IM;unfold yA;obtain⟨A,ca,rfl,hA⟩:=ha;obtain⟨B,cb,rfl,L⟩:=hb;simp only[Fb,ah,vC];refine iI (λU=>?_) (λhe=>?_)
 ·refine⟨?_,trivial⟩;have:¬D.length=lb.length:=by simp at U;omega
  simp[Fp,this]
 ·have hl:D.length=lb.length:=by simp at he;omega
  refine cP (λd xs h'=>h'=h∧∃k:Nat,k+d=D.length∧xs=[.int .i64 k]∧∀i (hi:i<k) (h1:i<D.length),D[i]≤lb[i]'(hl▸h1)) D.length ⟨rfl,0,by omega,rfl,λi hi=>by omega⟩ ?_;rintro d _ ρj _ again ⟨rfl,k,hk,rfl,G⟩ W;simp only[gJ,cj,ah];refine aj (λal=>?_) (λaa=>?_)
  ·have F:k<D.length:=by omega
   have H:k<lb.length:=by omega
   rcases hA with rfl|⟨b1,o1,rfl,hA⟩
   ·simp at F
   rcases L with rfl|⟨b2,o2,rfl,L⟩
   ·simp at H
   simp only[pF F,pF H,ah,wj,Nat.mul_one,hA k F,L k H,vi,vD];refine aj (λad=>?_) (λab=>?_)
   ·refine⟨?_,trivial⟩
    congr 1
    rw[eq_comm,Bool.eq_false_iff];intro I;have:=(Kh hl).1 I k F;omega
   ·simp only[cO,ah];rw[w64 (by omega) (by omega)];refine W _ _ (d-1) (by omega) ⟨rfl,k+1,by omega,rfl,λi hi h1=>?_⟩;rcases Nat.lt_succ_iff_lt_or_eq.1 hi with hi|rfl
    ·exact G i hi h1
    ·omega
  ·refine⟨?_,trivial⟩
   congr 1
   rw[eq_comm,Kh hl];intro i hi;exact G i (by omega) hi
theorem Sn {a b:List Int}(h:a.length=b.length):a=b↔ ∀i (hi:i<a.length),a[i]=b[i]'(h▸hi):=
 ⟨λe i hi=>by subst e;rfl,λH=>List.ext_getElem h λi h1 A=>H i h1⟩
theorem TH {h:af}{a b:Value}{D lb:List Int}(ha:jR h a D)(hb:jR h b lb)(hn:D.length≤9223372036854775807):
  ae prog eJ #[a,b] h λv h'=>v=.bool (decide (D=lb))∧h'=h:=by
 apply mE;unfold gO;obtain⟨A,ca,rfl,hA⟩:=ha;obtain⟨B,cb,rfl,L⟩:=hb;simp only[Fb,ah,vC];refine iI (λU=>?_) (λhe=>?_)
 ·refine⟨?_,trivial⟩;have:¬D=lb:=λe=>by subst e;simp at U
  simp[this]
 ·have hl:D.length=lb.length:=by simp at he;omega
  refine cP (λd xs h'=>h'=h∧∃k:Nat,k+d=D.length∧xs=[.int .i64 k]∧∀i (hi:i<k) (h1:i<D.length),D[i]=lb[i]'(hl▸h1)) D.length ⟨rfl,0,by omega,rfl,λi hi=>by omega⟩ ?_;rintro d _ ρj _ again ⟨rfl,k,hk,rfl,G⟩ aa;simp only[gJ,cj,ah];refine aj (λal=>?_) (λad=>?_)
  ·have F:k<D.length:=by omega
   have H:k<lb.length:=by omega
   rcases hA with rfl|⟨b1,o1,rfl,hA⟩
   ·simp at F
   rcases L with rfl|⟨b2,o2,rfl,L⟩
   ·simp at H
   simp only[pF F,pF H,ah,wj,Nat.mul_one,hA k F,L k H,vi,vC];refine iI (λab=>?_) (λW=>?_)
   ·refine⟨?_,trivial⟩
    congr 1
    rw[eq_comm,decide_eq_false_iff_not];intro I;have:=(Sn hl).1 I k F;simp[this]at ab
   ·simp only[cO,ah];rw[w64 (by omega) (by omega)];refine aa _ _ (d-1) (by omega) ⟨rfl,k+1,by omega,rfl,λi hi h1=>?_⟩;rcases Nat.lt_succ_iff_lt_or_eq.1 hi with hi|rfl
    ·exact G i hi h1
    ·simpa using W
  ·refine⟨?_,trivial⟩
   congr 1
   rw[eq_comm,decide_eq_true_eq,Sn hl];intro i hi;exact G i (by omega) hi
theorem XJ {h:af}{a b:Value}{A lb:List Int}(D:jR h a A)(G:jR h b lb)(F:A.length≤9223372036854775807):
  ae prog uM #[a,b] h λv h'=>v=.bool (decide (A=lb))∧h'=h:=by
 apply IN;unfold yB;refine(TH D G F).mono ?_;rintro _ _ ⟨rfl,rfl⟩;exact⟨rfl,rfl⟩
def Fs (a b:List Int):Bool:=Fp a b&& !decide (a=b)
theorem SI {h:af}{a b:Value}{D lb:List Int}(F:jR h a D)(H:jR h b lb)(G:D.length≤9223372036854775807):
  ae prog oG #[a,b] h λv h'=>v=.bool (Fs D lb)∧h'=h:=by
 apply IP;unfold yC;refine(Xz F H G).mono ?_;rintro _ _ ⟨rfl,rfl⟩;cases A:Fp D lb with
 |false=>simp only[go_sem];exact⟨by simp[Fs,A],trivial⟩
 |true=>
  simp only[go_sem];refine(XJ F H G).mono ?_;rintro _ _ ⟨rfl,rfl⟩;simp only[go_sem];exact⟨by simp[Fs,A],trivial⟩
end Go.Proofs.YtcoimlclclnlkaaGreatDoor
namespace Go.Proofs.YtcoimlclclnlkaaGreatDoor
open Go Go.Crisp
attribute [local irreducible] ae cF aP stK aA vK qK bD gK dE aS mkK cG Cn
open _root_.Go.Proofs.Tryz
def iT (h:af)(v:Value)(l:List Int):Prop:=Own 1 h v l.length (l.map vi)
theorem jR.sl {h:af}{v:Value}{l:List Int}(H:jR h v l):SlC 1 h v l.length (l.map vi):=by
 obtain⟨a,cap,rfl,H⟩:=H;refine⟨by simp,a,cap,rfl,?_⟩;rcases H with rfl|⟨b,o,rfl,H⟩
 ·exact .inl rfl
 ·exact .inr ⟨b,o,rfl,λj A=>by rw[List.getElem_map];exact H j (by simpa using A)⟩
theorem Se {h:af}{v:Value}{l:List Int}(H:SlC 1 h v l.length (l.map vi)):jR h v l:=by
 obtain⟨_,a,cap,rfl,H⟩:=H;refine⟨a,cap,rfl,?_⟩;rcases H with H|⟨b,o,rfl,H⟩
 ·exact .inl (by simpa using H)
 ·refine .inr ⟨b,o,rfl,λj A=>?_⟩;have:=H j (by simpa using A);rw[List.getElem_map]at this;exact this
theorem iT.ints {h:af}{v:Value}{l:List Int}(H:iT h v l):jR h v l:=Se (Own.sl H)
theorem Qg {l:List Int}:∀v∈l.map vi,aJ v=true:=by
 intro v A;obtain⟨x,_,rfl⟩:=List.mem_map.1 A;rfl
def LR (a b:List Int):List Int:=(List.range (max a.length b.length)).map λi=>max (a.getD i 0) (b.getD i 0)
theorem wm (a b:List Int):(LR a b).length=max a.length b.length:=by simp[LR]
theorem Lv (n:Nat)(f:Nat→Int)(i:Nat)(x:Int):(((List.range n).map f).map vi).set i (vi x)=((List.range n).map λk=>if k=i then x else f k).map vi:=by
 apply List.ext_getElem
 ·simp
 ·intro k h1 A;rw[List.getElem_set];simp only[List.getElem_map,List.getElem_range, @eq_comm _ k i];split<;>rfl
theorem GR {l:List Int}{k:Nat}(h:k<l.length):l.getD k 0=l[k]:=by simp[List.getD,h]
theorem Jv {l:List Int}{k:Nat}(h:l.length≤k):l.getD k 0=0:=by simp[List.getD,List.getElem?_eq_none h]
theorem Y2 {h:af}{v u:Value}{a b:List Int}(ha:jR h v a)(hb:jR h u b)(la:a.length≤4398046511104)(lb:b.length≤4398046511104):
  ae prog w6 #[v,u] h λr h'=>iT h' r (LR a b)∧Ext h h'∧∀k,blk r k→h.size≤k:=by
 apply La;unfold Bn;obtain⟨aa,ac,rfl,_⟩:=ha;obtain⟨ba,bc,rfl,_⟩:=hb;have ar:jR h (.slice aa a.length ac) a:=⟨_,_,rfl,by assumption⟩
 have ab:jR h (.slice ba b.length bc) b:=⟨_,_,rfl,by assumption⟩
 simp only[go_sem];rw[show max (a.length:Int) (b.length:Int)=((max a.length b.length:Nat):Int)by omega];generalize hn:max a.length b.length=n;refine lQ rfl (by omega) (by omega) λs h1 o1 e1 n1=>?_
 refine Ef o1 (ar.ext e1).sl Qg λD o2 f2 _=>?_
 have e2:Ext h D:=e1.then_fr f2 n1;have ad:Own 1 D s n (((List.range n).map λk=>a.getD k 0).map vi):=by
  have:(a.map vi).take n++(List.replicate n (Value.int .i64 0)).drop a.length=((List.range n).map λk=>a.getD k 0).map vi:=by
   apply List.ext_getElem
   ·simp;omega
   ·intro k h1 D;simp only[List.getElem_map,List.getElem_range,List.getElem_append,List.getElem_take,List.getElem_drop,List.getElem_replicate];split
    ·rename_i A;rw[List.length_take,List.length_map]at A;rw[GR (show k<a.length by omega)]
    ·rename_i A;rw[List.length_take,List.length_map]at A;simp at D;rw[Jv (show a.length≤k by omega)];rfl
  rw[←this];exact o2
 refine Cd b.length (λk h'=>k≤b.length∧Own 1 h' s n (((List.range n).map λj=>if j<k then max (a.getD j 0) (b.getD j 0)else a.getD j 0).map vi)∧Ext h h') ⟨Nat.zero_le _,by simpa using ad,e2⟩ ?_;rintro k h3 again ρj ⟨au,o3,U⟩ L;simp only[go_sem];refine aj (λA=>?_) (λA=>?_)
 ·have A:k<b.length:=by omega
  obtain⟨p,hp,hq⟩:=(ab.ext U).sl.at1 (k:=.i64) A;rw[List.getElem_map]at hq;obtain⟨p',F,H,I⟩:=o3.at1 (k:=.i64) (i:=k) (by omega);have G:∀x:Int,x=max (a.getD k 0) (b.getD k 0)→stK 1 p' (.int .i64 x) h3 λax an=>again [.int .i64 (IntKind.i64.wrap ((k:Int)+1))] an:=by
   intro x hx;refine I _ _ rfl λh4 W f4 _=>?_
   rw[w64 (by omega) (by omega)];refine L h4 A ⟨A,?_,U.then_fr f4 n1⟩;rw[show(Value.int .i64 x)=vi x from rfl,Lv]at W;refine(congrArg (λl:List Int=>Own 1 h4 s n (l.map vi)) ?_).mp W;apply List.map_congr_left;intro j _;subst hx;by_cases h1:j=k
   ·subst h1;simp
   ·simp only[h1,if_false];by_cases D:j<k
    ·simp[D,Nat.lt_succ_of_lt D]
    ·simp[D,show¬j<k+1 by omega]
  simp only[go_sem,hp,hq,vi];refine aj (λaw=>?_) (λay=>?_)
  ·simp only[go_sem,F];refine G _ ?_;rw[Jv (show a.length≤k by omega),GR A]
  ·simp only[go_sem,F,H];rw[List.getElem_map,List.getElem_map,List.getElem_range,if_neg (Nat.lt_irrefl k)];simp only[vi,go_sem];exact G _ (by rw[GR A])
 ·obtain rfl:k=b.length:=by omega
  refine LI a.length b.length (λk h'=>Own 1 h' s n (((List.range n).map λj=>if j<k then max (a.getD j 0) (b.getD j 0)else a.getD j 0).map vi)∧Ext h h') ⟨o3,U⟩ ?_;rintro k h3 again ρj al ⟨o3,U⟩ L;simp only[go_sem];refine aj (λA=>?_) (λA=>?_)
  ·have A:k<a.length:=by omega
   obtain⟨p',F,H,I⟩:=o3.at1 (k:=.i64) (i:=k) (by omega);simp only[go_sem,F,H];rw[List.getElem_map,List.getElem_map,List.getElem_range,if_neg (Nat.lt_irrefl k)];simp only[vi,go_sem];refine I _ _ rfl λh4 W f4 _=>?_
   rw[w64 (by omega) (by omega)];refine L h4 A ⟨?_,U.then_fr f4 n1⟩;rw[show(Value.int .i64 (max 0 (a.getD k 0)))=vi (max 0 (a.getD k 0))from rfl,Lv]at W;refine(congrArg (λl:List Int=>Own 1 h4 s n (l.map vi)) ?_).mp W;apply List.map_congr_left;intro j _;by_cases h1:j=k
   ·subst h1;rw[if_pos rfl,if_pos (Nat.lt_succ_self j),Jv al,Int.max_comm]
   ·simp only[h1,if_false];by_cases D:j<k
    ·simp[D,Nat.lt_succ_of_lt D]
    ·simp[D,show¬j<k+1 by omega]
  ·refine⟨?_,U,n1⟩;unfold iT;rw[wm,hn];refine(congrArg (λl:List Int=>Own 1 h3 s n (l.map vi)) ?_).mp o3;unfold LR;rw[hn];apply List.map_congr_left;intro j hj;rw[if_pos (by have:=List.mem_range.1 hj;omega)]
end Go.Proofs.YtcoimlclclnlkaaGreatDoor
namespace Go.Proofs.YtcoimlclclnlkaaGreatDoor
open Go Go.Crisp Go.MapKept Go.RowKit
attribute [local irreducible] cF aP stK aA vK qK bD gK dE aS mkK cG Cn
open _root_.Go.Proofs.Tryz
theorem QG {w:World}{D:Nat}{e:TypeId}{v:Value}{A:List Int}(H:w.ownsRow D e 1 v A.length (A.map encZ)):iT w.heap v A∧∀b,blk v b→D≤b:=by
 obtain⟨_,H⟩:=H;rcases H with⟨rfl,U⟩|⟨g,cap,cur,rfl,G,L,hc,_,I,F⟩
 ·have:A=[]:=List.eq_nil_of_length_eq_zero U;subst this;exact⟨.inl ⟨rfl,rfl,rfl⟩,λb G=>G.elim⟩
 ·refine⟨.inr ⟨g,cap,cur.toList.drop A.length,e,rfl,hc,by simp,?_,?_⟩,λb h=>by rw[show b=g from h];exact G⟩
  ·rw[Nat.mul_one]at F;rw[show A.map vi=A.map encZ from rfl,←F,List.take_append_drop,Array.length_toList];exact I
  ·rw[Nat.mul_one]at F;rw[show A.map vi=A.map encZ from rfl,←F,List.take_append_drop,Array.toArray_toList];exact L
theorem Ub {w w':World}(H:Below w.heap.size w w'):cW w w'∧Ext w.heap w'.heap:=⟨⟨H.os,H.tape,H.output⟩,H.size,λb A=>H.block b A⟩
def noR:Value→Option (DataW Unit×List MemPlace):=λ_=>some (.nil,[])
theorem FX (x:Lit×DataW Unit):∀l:List (Lit×DataW Unit),(DataW.insert x l).Perm (x::l)
 | []=>List.Perm.refl _
 |y::r=>by
  unfold DataW.insert;split
  ·exact List.Perm.refl _
  ·exact((FX x r).cons y).trans (List.Perm.swap x y r)
theorem Cj:∀l:List (Lit×DataW Unit),(l.foldr DataW.insert []).Perm l
 | []=>List.Perm.refl _
 |x::l=>by
  rw[List.foldr_cons];exact(FX x _).trans ((Cj l).cons x)
theorem UG {P:Program}{k:TypeId}{w:World}{b:Nat}{kv:List (Int×Value)}(hk:P.underlying k=some (.int .i64))(H:qS w.heap b kv)(hw:∀p∈kv,(Lit.int .i64 p.1).wf=true)(hl:kv.length≤maxLen):
  ∃D:DataW Unit,w.ownsMap P k noR b kv.length D∧(intKeys D).Perm (kv.map Prod.fst)∧Go.Maps.size D=kv.length:=by
 obtain⟨U,c,hb,hs,he⟩:=H;have F:=he.length;have I:∀x∈U.toList,∃j,x.key=.int .i64 j∧(Lit.int .i64 j).wf=true:=λx G=>by
  have:(x.key,x.val)∈kv.map λp=>(Value.int .i64 p.1,p.2):=by rw[←he];exact List.mem_map.2 ⟨x,G,rfl⟩
  obtain⟨p,hp,aa⟩:=List.mem_map.1 this;exact⟨p.1,(congrArg Prod.fst aa).symm,hw p hp⟩
 have W:∀x∈U.toList,∀j,x.key=.int .i64 j→(Lit.int .i64 j).wf=true→WideElems.rd P k noR x=some (.int .i64 j,.nil):=λx G j L A=>by
  unfold WideElems.rd;rw[L];simp[keyOf,hk,mapKey,A,noR]
 refine⟨.map ((U.toList.map (WideElems.rg P k noR)).foldr DataW.insert []),⟨U,c,hb,⟨by rw[←Array.length_toList,F];exact hl,hs,λx G=>?_⟩,by rw[←Array.length_toList,F];exact Nat.le_refl _,rfl⟩,?_,?_⟩
 ·obtain⟨j,L,A⟩:=I x G;exact⟨_,W x G j L A⟩
 ·have h1:(U.toList.map (WideElems.rg P k noR)).map (λp=>_root_.Go.intOf p.1)=kv.map Prod.fst:=by
   have h2:kv.map Prod.fst=(kv.map λp=>(Value.int .i64 p.1,p.2)).map λq=>match q.1 with| .int _ n=>n|_=>0:=by simp[List.map_map,Function.comp_def]
   rw[h2,←he,List.map_map,List.map_map];refine List.map_congr_left λx G=>?_
   obtain⟨j,L,A⟩:=I x G;simp only[Function.comp_def];rw[WideElems.rg_of (W x G j L A),L];rfl
  rw[←h1];exact(Cj _).map _
 ·show(List.foldr DataW.insert [] _).length=_;rw[(Cj _).length_eq,List.length_map,F]
theorem Rm {P:Program}{f:FuncId}{args:Array Value}{w:World}{n:Nat}{R A:Ending→World→Prop}(H:CallsIn Fence.wide n P f args w R)(D:∀e w',R e w'→A e w'):Calls P f args w A:=(callsIn_wide.1 H).mono D
theorem PY {h:af}{F b:Nat}{t:TypeId}{kv:List (Int×Value)}(r1:h[F]? =some (.cells #[.map (some b)] t (0,0)))(I:qS h b kv)(U:∀p∈kv,(Lit.int .i64 p.1).wf=true)(hl:kv.length≤1000000):
  ae prog mf #[.func (.func cZ) #[] #[.pointer (some ⟨F,0,none⟩)]] h λr h'=>∃ss:List Int,ss.Perm (kv.map Prod.fst)∧iT h' r ss∧Ext h h'∧∀k,blk r k→h.size≤k:=by
 refine ae.ofCalls (by kernel_rfl) λw hh=>?_
 subst hh;obtain⟨D,L,hp,G⟩:=UG (P:=prog) (k:=(yH).t 26) Ji.t26 I U (by unfold maxLen;omega);have seq:=AnyZI.keys_gives Ji Fence.wide 3 trivial rfl (by omega) F b kv.length D w (aU r1) (show aB w.heap ⟨F,0,none⟩=_ from by rw[ai r1];rfl) L;have:=AnyZI.collect_in Lh Fence.wide 5 trivial trivial rfl (by omega) _ #[.pointer (some ⟨F,0,none⟩)] trivial (λargs w=>vV (by kernel_rfl)) _ _ (by rw[G];unfold maxLen;omega) (by rw[G];omega) w seq;refine Rm this ?_;rintro e w' ⟨v,ss,rfl,W,A,_,H⟩;obtain⟨o,n⟩:=QG A;obtain⟨s,e⟩:=Ub H;exact⟨v,rfl,s,ss,W.trans hp,o,e,n⟩
end Go.Proofs.YtcoimlclclnlkaaGreatDoor
namespace Go.Proofs.YtcoimlclclnlkaaGreatDoor
open Go Go.Crisp
attribute [local irreducible] ae cF aP stK aA vK qK bD gK dE aS mkK cG Cn
open _root_.Go.Proofs.Tryz
theorem MJ {h:af}:iT h (.slice none 0 0) []:=.inl ⟨rfl,rfl,rfl⟩
theorem Ed (a:Addr)(n c n' c':Nat):ag .sl .eql (.slice (some a) n c) (.slice none n' c')=some (.bool false):=Eq.trans rfl rfl
theorem Ee (n c n' c':Nat):ag .sl .eql (.slice none n c) (.slice none n' c')=some (.bool true):=Eq.trans rfl rfl
theorem L5 {e:TypeId}{h:af}{v:Value}{l:List Int}{K:Value→af→Prop}(W:jR h v l)(hl:l.length≤4398046511104)
  (H:∀r h',iT h' r l→Ext h h'→(∀b,blk r b→h.size≤b)→K r h'):cF #[] e 0 [] h λI A=>cG (.int .i64 0) e 1 8 I v A K:=by
 refine cH (c':=#[]) (by kernel_rfl) λb h1 r1 D F=>?_
 refine sr (n:=0) (cs:=[]) (.inr ⟨b,0,[],e,rfl,Nat.le_refl _,rfl,rfl,r1⟩) (W.ext D).sl Qg rfl (by omega) (by omega) λG U o2 f2 L=>?_
 rw[Nat.zero_add,List.nil_append]at o2;refine H G U o2 (D.then_fr f2 λi hi=>by rw[show i=b from hi];exact F) λk hk=>?_
 rcases L k hk with A|A
 ·rw[show k=b from A];exact F
 ·exact Nat.le_trans D.1 A
theorem SG {h:af}{v:Value}{l:List Int}(A:jR h v l)(G:l.length≤4398046511104):
  ae prog db #[v] h λr h'=>iT h' r l∧Ext h h'∧∀b,blk r b→h.size≤b:=by
 apply mF;unfold gP;have D:=A;obtain⟨a,cap,rfl,A⟩:=A;cases a with
 |none=>
  simp only[Ee,go_sem];rcases A with rfl|⟨b,o,h1,_⟩
  ·exact⟨MJ,Ext.refl h,λb F=>F.elim⟩
  ·cases h1
 |some a=>
  simp only[Ed,go_sem];exact L5 D G λr h' o e n=>⟨o,e,n⟩
structure jW (M:Nat→Prop)(h:af)(bc:Nat)(sl:Value)(sv:Nat→Value)(t:TypeId)(n:Nat)(rows:Nat→List Int):Prop where
 var:h[bc]? =some (.cells #[sl] t (0,0))
 arr:Own 1 h sl n ((List.range n).map sv)
 row:∀i,i<n→iT h (sv i) (rows i)
 len:∀i,i<n→(rows i).length=n
 pos:1≤n∧n≤512
 inM:M bc∧(∀b,blk sl b→M b)∧∀i,i<n→∀b,blk (sv i) b→M b
 ap1:¬blk sl bc
 ap2:∀i,i<n→∀b,blk (sv i) b→b≠bc∧¬blk sl b
 ap3:∀i j,i<n→j<n→i≠j→∀b,blk (sv i) b→¬blk (sv j) b
 lt:∀b,M b→b<h.size
def dX (M:Nat→Prop)(h:af)(v:Value)(n:Nat)(rows:Nat→List Int):Prop:=
 ∃bc sl sv t,v=.pointer (some ⟨bc,0,none⟩)∧jW M h bc sl sv t n rows
theorem jW.fr {M Q:Nat→Prop}{h h':af}{D:Nat}{sl:Value}{sv:Nat→Value}{t:TypeId}{n:Nat}{rows:Nat→List Int}(C:jW M h D sl sv t n rows)(f:Fr Q h h')(hq:∀b,b<h.size→M b→¬Q b):jW M h' D sl sv t n rows:=
 {C with
  var:=f.row C.var (hq D (C.lt _ C.inM.1) C.inM.1)
  arr:=C.arr.fr f λb A=>hq b (C.lt _ (C.inM.2.1 b A)) (C.inM.2.1 b A)
  row:=λi hi=>(C.row i hi).fr f λb A=>hq b (C.lt _ (C.inM.2.2 i hi b A)) (C.inM.2.2 i hi b A)
  lt:=λb A=>Nat.lt_of_lt_of_le (C.lt b A) f.1}
theorem jW.ext {M:Nat→Prop}{h h':af}{A:Nat}{sl:Value}{sv:Nat→Value}{t:TypeId}{n:Nat}{rows:Nat→List Int}(C:jW M h A sl sv t n rows)(e:Ext h h'):jW M h' A sl sv t n rows:=C.fr (Q:=λ_=>False) e.fr λ_ _ _=>id
theorem dX.fr {M Q:Nat→Prop}{h h':af}{v:Value}{n:Nat}{rows:Nat→List Int}(H:dX M h v n rows)(f:Fr Q h h')(hq:∀b,b<h.size→M b→¬Q b):dX M h' v n rows:=by
 obtain⟨A,sl,sv,t,rfl,C⟩:=H;exact⟨A,sl,sv,t,rfl,C.fr f hq⟩
theorem dX.ext {M:Nat→Prop}{h h':af}{v:Value}{n:Nat}{rows:Nat→List Int}(H:dX M h v n rows)(e:Ext h h'):dX M h' v n rows:=H.fr (Q:=λ_=>False) e.fr λ_ _ _=>id
theorem YQ {M:Nat→Prop}{h:af}{v:Value}{n:Nat}{rows:Nat→List Int}(H:dX M h v n rows)(i:Int):
  ae prog io #[v,.int .i64 i] h λr h'=>r=.bool (decide (0≤i∧i<n))∧h'=h:=by
 obtain⟨D,sl,sv,t,rfl,C⟩:=H;apply DQ;unfold tG;have A:=C.arr.sl;obtain⟨_,a,cap,rfl,_⟩:=A;by_cases h0:0≤i
 ·simp only[go_sem,h0,ai C.var,true_and,and_true]
 ·simp only[go_sem,h0,false_and,and_true]
def GF (n:Nat)(rows:Nat→List Int)(i:Int):List Int:=if 0≤i∧i<n then rows i.toNat else[]
theorem X4 {M:Nat→Prop}{h:af}{v:Value}{n:Nat}{rows:Nat→List Int}(H:dX M h v n rows)(i:Int):
  ae prog ju #[v,.int .i64 i] h λr h'=>iT h' r (GF n rows i)∧Ext h h'∧∀b,blk r b→h.size≤b:=by
 apply B9;unfold rN;refine(YQ H i).mono ?_;rintro _ h' ⟨rfl,rfl⟩;by_cases hi:0≤i∧i<n
 ·obtain⟨k,rfl⟩:=Int.eq_ofNat_of_zero_le hi.1;have A:k<n:=by omega
  obtain⟨G,sl,sv,t,rfl,C⟩:=H;obtain⟨p,F,hq⟩:=C.arr.sl.at1 (k:=.i64) A;rw[List.getElem_map,List.getElem_range]at hq;simp only[go_sem,hi,ai C.var,F,hq,and_self];rw[show GF n rows (k:Int)=rows k by unfold GF;rw[if_pos hi];rfl];refine(SG (C.row k A).ints (by rw[C.len k A];have:=C.pos;omega)).mono ?_;rintro r h1 H;exact H
 ·simp only[go_sem,hi];rw[show GF n rows i=[]by unfold GF;rw[if_neg hi]];exact⟨MJ,Ext.refl _,λb D=>D.elim⟩
theorem jW.put {M:Nat→Prop}{h h':af}{H:Nat}{sl:Value}{sv:Nat→Value}{t:TypeId}{n:Nat}{rows:Nat→List Int}(C:jW M h H sl sv t n rows){k:Nat}(G:k<n){l:List Int}
  (o:iT h' (sv k) l) (I:l.length=n) (f:Fr (blk (sv k)) h h'):jW M h' H sl sv t n (λj=>if j=k then l else rows j):=
 { C with
  var:=f.row C.var λD=>(C.ap2 k G _ D).1 rfl
  arr:=C.arr.fr f λb D F=>(C.ap2 k G b F).2 D
  row:=λi hi=>by
   by_cases A:i=k
   ·subst A;simpa using o
   ·simp only[A,if_false];exact(C.row i hi).fr f λb D=>C.ap3 i k hi G A b D
  len:=λi hi=>by
   by_cases A:i=k
   ·subst A;simpa using I
   ·simp only[A,if_false];exact C.len i hi
  lt:=λb D=>Nat.lt_of_lt_of_le (C.lt b D) f.1}
def CN (n:Nat)(rows:Nat→List Int)(i:Int):Nat→List Int:=
 if 0≤i∧i<n then λj=>if j=i.toNat then(rows i.toNat).set i.toNat (IntKind.i64.wrap ((rows i.toNat).getD i.toNat 0+1))else rows j else rows
theorem RD {M:Nat→Prop}{h:af}{v:Value}{n:Nat}{rows:Nat→List Int}(H:dX M h v n rows)(i:Int):
  ae prog gd #[v,.int .i64 i] h λr h'=>iT h' r (GF n rows i)∧dX M h' v n (CN n rows i)∧Fr M h h'∧∀b,blk r b→h.size≤b:=by
 apply AB;unfold qy;refine(X4 H i).mono ?_;rintro r h1 ⟨o1,G,n1⟩;refine(YQ (H.ext G) i).mono ?_;rintro _ h2 ⟨rfl,rfl⟩;by_cases hi:0≤i∧i<n
 ·obtain⟨k,rfl⟩:=Int.eq_ofNat_of_zero_le hi.1;have A:k<n:=by omega
  obtain⟨bc,sl,sv,t,rfl,I⟩:=H;have C:=I.ext G;obtain⟨p,hp,hq⟩:=C.arr.sl.at1 (k:=.i64) A;rw[List.getElem_map,List.getElem_range]at hq;have D:k<(rows k).length:=by rw[C.len k A];exact A
  obtain⟨p',aa,F,U⟩:=Own.at1 (C.row k A) (k:=.i64) D;rw[List.getElem_map]at F;simp only[go_sem,hi,ai C.var,hp,hq,and_self,aa,F,vi];refine U _ _ rfl λh3 o3 f3 _=>?_
  have o4:iT h3 (sv k) ((rows k).set k (IntKind.i64.wrap ((rows k)[k]+1))):=by
   unfold iT;rw[List.length_set,List.map_set];exact o3
  have C':=C.put A o4 (by rw[List.length_set];exact C.len k A) f3;refine⟨o1.fr f3 λb W L=>?_,⟨bc,sl,sv,t,rfl,?_⟩,?_,n1⟩
  ·have h5:=n1 b W;have:=I.lt b (I.inM.2.2 k A b L);omega
  ·unfold CN;rw[if_pos hi];simp only[Int.toNat_natCast];rw[GR D];exact C'
  ·exact G.fr.trans (f3.mono λb _ W=>C.inM.2.2 k A b W)
 ·simp only[go_sem,hi];refine⟨o1,?_,G.fr,n1⟩;unfold CN;rw[if_neg hi];exact H.ext G
theorem c_Min {h:af}{v:Value}{l:List Int}(hv:jR h v l)(h0:l≠[])(hl:l.length≤4398046511104):
  ae prog fC #[v] h λr h'=>(∃m,r=.int .i64 m∧(decide (m<0)=l.any λx=>decide (x<0)))∧h'=h:=by
 apply pf;unfold ir;have hp:0<l.length:=List.length_pos_iff.2 h0;have W:=hv.sl;obtain⟨a,cap,rfl,_⟩:=hv;refine aV (λL h'=>L=[]∧h'=h) ?_ ?_
 ·simp only[go_sem];refine aj (λh1=>by omega) (λ_=>⟨trivial,trivial⟩)
 ·rintro _ ρj h' ⟨rfl,hh⟩;subst hh;obtain⟨p,D,A⟩:=W.at1 (k:=.i64) (i:=0) hp;rw[List.getElem_map]at A;rw[show((0:Nat):Int)=0 from rfl]at D;simp only[go_sem,D,A];refine cP (λd L I=>I=h'∧∃(k:Nat) (m:Int),1≤k∧k≤l.length∧d=l.length-k∧L=[.int .i64 m,.int .i64 (k:Int)]∧decide (m<0)=(l.take k).any λx=>decide (x<0)) (l.length-1)
   ⟨rfl,1,l[0],by omega,by omega,rfl,rfl,?_⟩ ?_
  ·cases l with
   |nil=>exact absurd rfl h0
   |cons x l=>simp
  ·rintro d _ ρj _ again ⟨rfl,k,m,h1,hk,rfl,rfl,hm⟩ H;simp only[go_sem];refine aj (λab=>?_) (λaa=>?_)
   ·have F:k<l.length:=by omega
    obtain⟨p,U,G⟩:=W.at1 (k:=.i64) F;rw[List.getElem_map]at G;simp only[go_sem,U,G,vi];rw[w64 (by omega) (by omega)];refine H _ _ (l.length-(k+1)) (by omega) ⟨rfl,k+1,_,by omega,by omega,rfl,rfl,?_⟩;rw[List.take_succ_eq_append_getElem F,List.any_append,←hm];simp only[List.any_cons,List.any_nil,Bool.or_false];rw[←Bool.decide_or,decide_eq_decide];omega
   ·refine⟨⟨m,rfl,?_⟩,trivial⟩;rw[hm,List.take_of_length_le (by omega)]
def GH (n:Nat)(i:Int)(s:List Int):Bool:=decide (0≤i∧i<n)&&(decide (s.length=n)&& !s.any λx=>decide (x<0))
def lR (n:Nat)(rows:Nat→List Int)(i:Int)(s:List Int):Nat→List Int:=
 if GH n i s=true then λj=>if j=i.toNat then LR (rows i.toNat) s else rows j else rows
theorem jW.swap {M:Nat→Prop}{h h':af}{U:Nat}{sl:Value}{sv:Nat→Value}{t:TypeId}{n:Nat}{rows:Nat→List Int}(C:jW M h U sl sv t n rows){k:Nat}(hk:k<n){l:List Int}{v:Value}
  (o:iT h' v l) (hl:l.length=n) (f:Fr (blk sl) h h') (a:Own 1 h' sl n ((List.range n).map λj=>if j=k then v else sv j)) (I:∀b,blk v b→b<h'.size∧¬M b):
  jW (λb=>M b∨blk v b) h' U sl (λj=>if j=k then v else sv j) t n (λj=>if j=k then l else rows j) where
 var:=f.row C.var C.ap1
 arr:=a
 row:=λi hi=>by
  by_cases A:i=k
  ·simp only[A,if_true];exact o
  ·simp only[A,if_false];exact(C.row i hi).fr f λb D=>(C.ap2 i hi b D).2
 len:=λi hi=>by
  by_cases A:i=k
  ·simp only[A,if_true];exact hl
  ·simp only[A,if_false];exact C.len i hi
 pos:=C.pos
 inM:=⟨.inl C.inM.1,λb D=>.inl (C.inM.2.1 b D),λi hi b D=>by
  by_cases A:i=k
  ·simp only[A,if_true]at D;exact .inr D
  ·simp only[A,if_false]at D;exact .inl (C.inM.2.2 i hi b D)⟩
 ap1:=C.ap1
 ap2:=λi hi b D=>by
  by_cases A:i=k
  ·simp only[A,if_true]at D;exact⟨λL=>(I b D).2 (L▸C.inM.1),λhs=>(I b D).2 (C.inM.2.1 b hs)⟩
  ·simp only[A,if_false]at D;exact C.ap2 i hi b D
 ap3:=λi j hi W G b D F=>by
  by_cases A:i=k
  ·subst A;simp only[if_true,Ne.symm G,if_false]at D F;exact(I b D).2 (C.inM.2.2 j W b F)
  ·simp only[A,if_false]at D;by_cases H:j=k
   ·simp only[H,if_true]at F;exact(I b F).2 (C.inM.2.2 i hi b D)
   ·simp only[H,if_false]at F;exact C.ap3 i j hi W G b D F
 lt:=λb D=>by
  rcases D with D|D
  ·exact Nat.lt_of_lt_of_le (C.lt b D) f.1
  ·exact(I b D).1
theorem Hk (n:Nat)(f:Nat→Value)(i:Nat)(x:Value):((List.range n).map f).set i x=(List.range n).map λk=>if k=i then x else f k:=by
 apply List.ext_getElem
 ·simp
 ·intro k h1 A;rw[List.getElem_set];simp only[List.getElem_map,List.getElem_range, @eq_comm _ k i]
theorem Ae {h:af}{v:Value}{l:List Int}(o:iT h v l):aJ v=true:=by
 rcases o with⟨rfl,_⟩|⟨b,cap,r,e,rfl,_⟩<;>rfl
theorem YY {M:Nat→Prop}{h:af}{v u:Value}{n:Nat}{rows:Nat→List Int}(H:dX M h v n rows)(i:Int){s:List Int}(hu:jR h u s)(hs:s.length≤4398046511104):
  ae prog eN #[v,.int .i64 i,u] h λr h'=>r=.bool (GH n i s)∧∃M',dX M' h' v n (lR n rows i s)∧Fr M h h'∧∀b,M' b→M b∨h.size≤b:=by
 apply AC;unfold qA;refine(YQ H i).mono ?_;rintro _ h' ⟨rfl,hh⟩;subst hh;have no:GH n i s=false→∃M',dX M' h' v n (lR n rows i s)∧Fr M h' h'∧∀b,M' b→M b∨h'.size≤b:=λL=>
  ⟨M,by unfold lR;rw[L];exact H,Fr.refl _ _,λb D=>.inl D⟩
 have ab:=hu;obtain⟨ua,uc,rfl,_⟩:=hu;by_cases hi:0≤i∧i<n
 ·obtain⟨bc,sl,sv,t,rfl,C⟩:=H;have au:=C.pos;have an:=C.arr.sl;obtain⟨_,sa,sc,rfl,_⟩:=an;by_cases hn:s.length=n
  ·have G:((s.length:Int)=(n:Int)):=by omega
   simp only[go_sem,hi,ai C.var,and_self,G];refine(c_Min ab (by intro h0;subst h0;simp at hn;omega) hs).mono ?_;rintro _ h1 ⟨⟨m,rfl,L⟩,hh⟩;subst hh;simp only[go_sem,L];cases F:s.any λx=>decide (x<0)with
   |true=>
    have A:GH n i s=false:=by simp[GH,F]
    simp only[go_sem];exact⟨by rw[A],no A⟩
   | false=>
    have A:GH n i s=true:=by simp[GH,F,hi,hn]
    obtain⟨k,rfl⟩:=Int.eq_ofNat_of_zero_le hi.1;have I:k<n:=by omega
    simp only[go_sem];refine L4 ?_;obtain⟨p,hp,hq⟩:=C.arr.sl.at1 (k:=.i64) I;rw[List.getElem_map,List.getElem_range]at hq;refine ao (.slice sa n sc) (λh2 e=>by rw[ai (e.row C.var)];rfl) ?_;refine ao (.slice sa n sc) (λh2 e=>by rw[ai (e.row C.var)];rfl) ?_;rw[hp,ah];refine ao (sv k) (λh2 e=>?_) ?_
    ·obtain⟨p2,ad,U⟩:=(C.ext e).arr.sl.at1 (k:=.i64) I;rw[List.getElem_map,List.getElem_range]at U;rw[hp]at ad;cases ad;exact U
    refine(Y2 (C.row k I).ints ab (by rw[C.len k I];omega) hs).mono ?_;rintro r h2 ⟨o2,e2,n2⟩;refine⟨e2,?_⟩;have C2:=C.ext e2;obtain⟨p3,W,aw,ar⟩:=C2.arr.at1 (k:=.i64) I;rw[hp]at W;cases W;rw[ah];refine ar _ _ (Ae o2) λh3 o3 f3 _=>?_
    rw[Hk]at o3;have aa:∀b,blk r b→¬M b:=λb D L=>by have:=C.lt b L;have:=n2 b D;omega
    have o4:iT h3 r (LR (rows k) s):=o2.fr f3 λb D al=>aa b D (C.inM.2.1 b al)
    have C3:=C2.swap I o4 (by rw[wm,C.len k I,hn];exact Nat.max_self n) f3 o3 λb D=>⟨Own.lt o4 D,aa b D⟩
    have CC:dX (λb=>M b∨blk r b) h3 (.pointer (some ⟨bc,0,none⟩)) n (lR n rows k s):=by
     unfold lR;rw[if_pos A];exact⟨bc,_,_,t,rfl,C3⟩
    refine⟨by rw[A],(λb=>M b∨blk r b),CC,e2.fr.trans (f3.mono λb _ D=>C.inM.2.1 b D),λb D=>Or.imp (λh=>h) (n2 b) D⟩
  ·have G:¬((s.length:Int)=(n:Int)):=by omega
   have A:GH n i s=false:=by simp[GH,hn]
   simp only[go_sem,hi,ai C.var,and_self,G];exact⟨by rw[A],no A⟩
 ·have A:GH n i s=false:=by simp[GH,hi]
  simp only[go_sem,hi];exact⟨by rw[A],no A⟩
end Go.Proofs.YtcoimlclclnlkaaGreatDoor
namespace Go.Proofs.YtcoimlclclnlkaaGreatDoor
open Go Go.Crisp
attribute [local irreducible] ae cF aP stK aA vK qK bD gK dE aS mkK cG Cn qN lS R9
open _root_.Go.Proofs.Tryz
section
structure Bag (M:Nat→Prop)(h:af)(bx bm:Nat)(fr:Value)(w:Nat)(all:List (Value×List Int)):Prop where
 own:∀p∈all,iT h p.1 p.2∧p.2.length=w∧∀k,blk p.1 k→k≠bx∧k≠bm∧¬blk fr k∧M k
 apart:all.Pairwise λa b=>∀k,blk a.1 k→¬blk b.1 k
theorem Bag.perm {M:Nat→Prop}{h:af}{bx bm:Nat}{fr:Value}{w:Nat}{all A:List (Value×List Int)}(B:Bag M h bx bm fr w all)(p:A.Perm all):Bag M h bx bm fr w A where
 own:=λq hq=>B.own q (p.mem_iff.1 hq)
 apart:=(p.pairwise_iff (λ{x y} F k G D=>F k D G)).2 B.apart
theorem Bag.fr {M Q:Nat→Prop}{h h':af}{bx bm:Nat}{fr:Value}{w:Nat}{all:List (Value×List Int)}(B:Bag M h bx bm fr w all)(f:Fr Q h h')(q:∀p∈all,∀k,blk p.1 k→¬Q k):Bag M h' bx bm fr w all where
 own:=λp A=>⟨(B.own p A).1.fr f (q p A),(B.own p A).2⟩
 apart:=B.apart
theorem Bag.ext {M:Nat→Prop}{h h':af}{bx bm:Nat}{fr:Value}{w:Nat}{all:List (Value×List Int)}(B:Bag M h bx bm fr w all)(e:Ext h h'):Bag M h' bx bm fr w all:=B.fr (Q:=λ_=>False) e.fr λ_ _ _ _=>id
theorem Bag.mono {M M':Nat→Prop}{h:af}{bx bm:Nat}{fr D:Value}{w:Nat}{all:List (Value×List Int)}(B:Bag M h bx bm fr w all)(G:∀k,M k→M' k)(H:∀p∈all,∀k,blk p.1 k→¬blk D k):Bag M' h bx bm D w all where
 own:=λp A=>⟨(B.own p A).1,(B.own p A).2.1,λk F=>⟨((B.own p A).2.2 k F).1,((B.own p A).2.2 k F).2.1,H p A k F,G k ((B.own p A).2.2 k F).2.2.2⟩⟩
 apart:=B.apart
structure wB (M:Nat→Prop)(h:af)(bx bm:Nat)(fr:Value)(t:TypeId)(room w:Nat)(es:List (Int×(Value×List Int)))(fv xs:List (Value×List Int)):Prop where
 var:h[bx]? =some (.cells #[.int .i64 room,.int .i64 w,.map (some bm),fr] t (0,0))
 map:qS h bm (nC Prod.fst es)
 free:Own 1 h fr fv.length (fv.map Prod.fst)
 bag:Bag M h bx bm fr w (es.map Prod.snd++fv++xs)
 ap:bx≠bm∧¬blk fr bx∧¬blk fr bm
 inM:M bx∧M bm∧∀k,blk fr k→M k
 lt:∀k,M k→k<h.size
 nums:1≤room∧room≤65536∧w≤262144
 keys:∀e∈es,(Lit.int .i64 e.1).wf=true
 len:es.length≤room
 tot:es.length+fv.length+xs.length≤room+1
def fW (M:Nat→Prop)(h:af)(v:Value)(room w:Nat)(rs:List (Int×List Int)):Prop:=
 ∃bx bm fr t es fv,v=.pointer (some ⟨bx,0,none⟩)∧wB M h bx bm fr t room w es fv []∧rs=nC Prod.snd es∧es.length+fv.length≤room
theorem wB.fr {M Q:Nat→Prop}{h h':af}{bx bm:Nat}{fr:Value}{t:TypeId}{room w:Nat}{F:List (Int×(Value×List Int))}{D G:List (Value×List Int)}(R:wB M h bx bm fr t room w F D G)(f:Fr Q h h')(q:∀b,b<h.size→M b→¬Q b):wB M h' bx bm fr t room w F D G:=
 {R with
  var:=f.row R.var (q bx (R.lt _ R.inM.1) R.inM.1)
  map:=R.map.fr f (q bm (R.lt _ R.inM.2.1) R.inM.2.1)
  free:=R.free.fr f λk A=>q k (R.lt _ (R.inM.2.2 k A)) (R.inM.2.2 k A)
  bag:=R.bag.fr f λp H k A=>q k (R.lt _ ((R.bag.own p H).2.2 k A).2.2.2) ((R.bag.own p H).2.2 k A).2.2.2
  lt:=λk A=>Nat.lt_of_lt_of_le (R.lt k A) f.1}
theorem fW.fr {M Q:Nat→Prop}{h h':af}{v:Value}{room w:Nat}{rs:List (Int×List Int)}(H:fW M h v room w rs)(f:Fr Q h h')(q:∀b,b<h.size→M b→¬Q b):fW M h' v room w rs:=by
 obtain⟨bx,bm,fr,t,D,A,rfl,R,h1,F⟩:=H;exact⟨bx,bm,fr,t,D,A,rfl,R.fr f q,h1,F⟩
theorem fW.ext {M:Nat→Prop}{h h':af}{v:Value}{room w:Nat}{rs:List (Int×List Int)}(H:fW M h v room w rs)(e:Ext h h'):fW M h' v room w rs:=H.fr (Q:=λ_=>False) e.fr λ_ _ _=>id
theorem fW.lt {M:Nat→Prop}{h:af}{v:Value}{room w:Nat}{rs:List (Int×List Int)}(H:fW M h v room w rs){b:Nat}(A:M b):b<h.size:=by
 obtain⟨bx,bm,fr,t,F,D,rfl,R,h1,G⟩:=H;exact R.lt b A
theorem fW.nodup {M:Nat→Prop}{h:af}{v:Value}{room w:Nat}{rs:List (Int×List Int)}(H:fW M h v room w rs):(rs.map Prod.fst).Nodup:=by
 obtain⟨bx,bm,fr,t,F,A,rfl,R,rfl,D⟩:=H;rw[vx,←vx Prod.fst];exact R.map.nodup
theorem fW.nums {M:Nat→Prop}{h:af}{v:Value}{room w:Nat}{rs:List (Int×List Int)}(H:fW M h v room w rs):1≤room∧room≤65536∧w≤262144∧rs.length≤room∧(∀p∈rs,p.2.length=w∧(Lit.int .i64 p.1).wf=true):=by
 obtain⟨bx,bm,fr,t,G,F,rfl,R,rfl,I⟩:=H;refine⟨R.nums.1,R.nums.2.1,R.nums.2.2,by simpa[nC]using R.len,λp D=>?_⟩;obtain⟨e,A,rfl⟩:=List.mem_map.1 D;exact⟨(R.bag.own e.2 (by simp;exact .inl ⟨e.1,A⟩)).2.1,R.keys e A⟩
def jg (a:Int):Nat:=(min (max 1 a) 65536).toNat
def fJ (a:Int):Nat:=(min (max 0 a) 262144).toNat
theorem YW {h:af}(a b:Int):ae prog CB #[.int .i64 a,.int .i64 b] h λr h'=>∃M,fW M h' r (jg a) (fJ b) []∧Ext h h'∧∀k,M k→h.size≤k:=by
 apply OL;unfold FA;have ha:min (max 1 a) 65536=((jg a:Nat):Int):=by unfold jg;omega
 have hb:min (max 0 b) 262144=((fJ b:Nat):Int):=by unfold fJ;omega
 have h1:1≤jg a∧jg a≤65536:=by unfold jg;omega
 have I:fJ b≤262144:=by unfold fJ;omega
 simp only[go_sem,ha,hb];generalize jg a=room at h1;generalize fJ b=w at I;refine WI λbm h3 D H n3=>?_
 rw[GV _ #[.int .i64 room,.int .i64 w,.map (some bm),.slice none 0 0] (by kernel_rfl)];refine aC (c:=#[.int .i64 room,.int .i64 w,.map (some bm),.slice none 0 0]) λbx h4 G A U=>?_
 obtain⟨t,L⟩:∃t,h4[bx]? =some (.cells #[.int .i64 room,.int .i64 w,.map (some bm),.slice none 0 0] t (0,0)):=⟨_,G⟩
 have lm:=D.lt;refine⟨λk=>k=bx∨k=bm,⟨bx,bm,.slice none 0 0,t,[],[],rfl,?_,rfl,by simp⟩,H.trans A,?_⟩
 ·exact{
   var:=L,map:=D.ext A,free:=.inl ⟨rfl,rfl,rfl⟩,bag:=⟨λp hp=>absurd hp (by simp),List.Pairwise.nil⟩
   ap:=⟨by omega,λh=>h.elim,λh=>h.elim⟩,inM:=⟨.inl rfl,.inr rfl,λk F=>F.elim⟩
   lt:=λk F=>by
    rcases F with rfl|rfl
    ·exact aU L
    ·exact(D.ext A).lt
   nums:=⟨h1.1,h1.2,I⟩,keys:=λe W=>absurd W (by simp),len:=by simp,tot:=by simp}
 ·rintro k (rfl|rfl)
  ·exact Nat.le_trans H.1 U
  ·exact n3
section
variable {M:Nat→Prop}{h:af}{v:Value}{room w:Nat}{rs:List (Int×List Int)}
theorem VQ (H:fW M h v room w rs):ae prog mm #[v] h λr h'=>r=.int .i64 (w:Nat)∧h'=h:=by
 obtain⟨bx,bm,fr,t,F,A,rfl,R,rfl,D⟩:=H;apply BP;unfold rB;simp only[go_sem,ai R.var];exact⟨trivial,trivial⟩
theorem VP (H:fW M h v room w rs):ae prog mh #[v] h λr h'=>r=.int .i64 ((room:Int)*w)∧h'=h:=by
 obtain⟨bx,bm,fr,t,L,G,rfl,R,rfl,I⟩:=H;apply BO;unfold rA;have A:=R.nums;have F:room*w≤65536*262144:=Nat.mul_le_mul A.2.1 A.2.2;have D:((room*w:Nat):Int)=(room:Int)*w:=Int.natCast_mul ..;simp only[go_sem,ai R.var];rw[w64 (by omega) (by omega)];exact⟨rfl,trivial⟩
theorem VR (H:fW M h v room w rs)(j:Int):ae prog kK #[v,.int .i64 j] h λr h'=>r=.bool (eo j rs).isSome∧h'=h:=by
 obtain⟨bx,bm,fr,t,A,D,rfl,R,rfl,F⟩:=H;apply EO;unfold uV;simp only[go_sem,ai R.var,Je R.map];rw[pE,pE];cases eo j A with
 |none=>simp only[Option.map_none,Pc,cond_true,go_sem];exact⟨rfl,trivial⟩
 |some p=>simp only[Option.map_some,Pc,cond_true,go_sem];exact⟨rfl,trivial⟩
theorem J0 {h:af}{v:Value}{l:List Int}(A:jR h v l)(G:l.length≤4398046511104):
  ae prog cC #[v] h λr h'=>iT h' r l∧Ext h h'∧∀b,blk r b→h.size≤b:=by
 apply ia;unfold eE;have D:=A;obtain⟨a,cap,rfl,A⟩:=A;cases a with
 |none=>
  simp only[Ee,go_sem];rcases A with rfl|⟨b,o,h1,_⟩
  ·exact⟨MJ,Ext.refl h,λb F=>F.elim⟩
  ·cases h1
 |some a=>
  simp only[Ed,go_sem];exact L5 D G λr h' o e n=>⟨o,e,n⟩
theorem YU (H:fW M h v room w rs)(j:Int):ae prog pX #[v,.int .i64 j] h λr h'=>∃u,r=.tuple #[u,.bool (eo j rs).isSome]∧iT h' u ((eo j rs).getD [])∧Ext h h'∧∀b,blk u b→h.size≤b:=by
 have A:=H.nums;obtain⟨bx,bm,fr,t,F,I,rfl,R,rfl,L⟩:=H;apply EM;unfold uT;simp only[go_sem,ai R.var,Je R.map];rw[pE,pE];cases G:eo j F with
 |none=>
  simp only[Option.map_none,Pc,cond_true,go_sem];refine(J0 (v:=.slice none 0 0) (l:=[]) ⟨none,0,rfl,.inl rfl⟩ (by simp)).mono ?_;rintro u h1 ⟨o,e,n⟩;exact⟨u,rfl,o,e,n⟩
 |some p=>
  simp only[Option.map_some,Pc,cond_true,go_sem];have D:=R.bag.own p (by simp;exact .inl ⟨j,Jk G⟩);refine(J0 D.1.ints (by rw[D.2.1];omega)).mono ?_;rintro u h1 ⟨o,e,n⟩;exact⟨u,rfl,o,e,n⟩
def ul:List Int→Int
 | []=>0
 |x::l=>l.foldl min x
theorem Tm {a b:List Int}(h:a.Perm b):ul a=ul b:=by
 have key:∀(l:List Int) (x:Int),(∀y∈x::l,l.foldl min x≤y)∧l.foldl min x∈x::l:=by
  intro l;induction l with
  |nil=>intro x;simp
  | cons z l G=>
   intro x;rw[List.foldl_cons];obtain⟨h1,F⟩:=G (min x z);have L:=h1 (min x z) (List.mem_cons_self ..);refine⟨λy D=>?_,?_⟩
   ·rcases List.mem_cons.1 D with rfl|D
    ·omega
    ·rcases List.mem_cons.1 D with rfl|D
     ·omega
     ·exact h1 y (List.mem_cons_of_mem _ D)
   ·rcases List.mem_cons.1 F with F|F
    ·rw[F];rcases Int.le_total x z with A|A
     ·rw[Int.min_eq_left A];simp
     ·rw[Int.min_eq_right A];simp
    ·exact List.mem_cons_of_mem _ (List.mem_cons_of_mem _ F)
 cases a with
 |nil=>have:=h.nil_eq;subst this;rfl
 | cons x l=>
  cases b with
  |nil=>have:=h.symm.nil_eq;cases this
  |cons y m=>
   obtain⟨a1,a2⟩:=key l x;obtain⟨H,I⟩:=key m y;exact Int.le_antisymm (a1 _ (h.mem_iff.2 I)) (H _ (h.mem_iff.1 a2))
theorem Tl {l:List Int}(h:l≠[])(x:Int):ul (l++[x])=min (ul l) x:=by
 cases l with
 |nil=>exact absurd rfl h
 |cons y l=>simp[ul]
theorem XF {h:af}{v:Value}{l:List Int}(hv:jR h v l)(h0:l≠[])(hl:l.length≤4398046511104):
  ae prog fM #[v] h λr h'=>r=.int .i64 (ul l)∧h'=h:=by
 apply pT;unfold iP;have hp:0<l.length:=List.length_pos_iff.2 h0;have hs:=hv.sl;obtain⟨a,cap,rfl,_⟩:=hv;refine aV (λU h'=>U=[]∧h'=h) ?_ ?_
 ·simp only[go_sem];refine aj (λh1=>by omega) (λ_=>⟨trivial,trivial⟩)
 ·rintro _ ρj h' ⟨rfl,hh⟩;subst hh;obtain⟨p,D,A⟩:=hs.at1 (k:=.i64) (i:=0) hp;rw[List.getElem_map]at A;rw[show((0:Nat):Int)=0 from rfl]at D;simp only[go_sem,D,A];refine cP (λd U L=>L=h'∧∃(k:Nat),1≤k∧k≤l.length∧d=l.length-k∧U=[.int .i64 (ul (l.take k)),.int .i64 (k:Int)]) (l.length-1)
   ⟨rfl,1,by omega,by omega,rfl,?_⟩ ?_
  ·cases l with
   |nil=>exact absurd rfl h0
   |cons x l=>rfl
  ·rintro d _ ρj _ again ⟨rfl,k,h1,hk,rfl,rfl⟩ I;simp only[go_sem];refine aj (λab=>?_) (λaa=>?_)
   ·have F:k<l.length:=by omega
    obtain⟨p,W,G⟩:=hs.at1 (k:=.i64) F;rw[List.getElem_map]at G;simp only[go_sem,W,G,vi];rw[w64 (by omega) (by omega)];refine I _ _ (l.length-(k+1)) (by omega) ⟨rfl,k+1,by omega,by omega,rfl,?_⟩;have H:l.take k≠[]:=λh=>by
     have h9:=congrArg List.length h;rw[List.length_take,List.length_nil]at h9;omega
    rw[List.take_succ_eq_append_getElem F,Tl H];rfl
   ·rw[List.take_of_length_le (by omega)];exact⟨rfl,trivial⟩
theorem PU (H:fW M h v room w rs):ae prog mo #[v] h λr h'=>r=.tuple #[.int .i64 (ul (rs.map Prod.fst)),.bool (!decide (rs=[]))]∧Ext h h':=by
 have I:=H.nums;obtain⟨bx,bm,fr,t,D,fv,rfl,R,rfl,h2⟩:=H;apply BQ;unfold rC;by_cases h0:D=[]
 ·subst h0;simp only[go_sem,ai R.var,Nn R.map,nC,List.map_nil,List.length_nil,Int.natCast_zero];exact⟨rfl,Ext.refl h⟩
 ·have hl:¬(((nC Prod.fst D).length:Nat):Int)=0:=by
   simp only[nC,List.length_map];have:=List.length_pos_iff.2 h0;omega
  simp only[go_sem,ai R.var,Nn R.map,hl];apply gI;unfold dn;refine aC λb1 h1 r1 L n1=>?_
  have G:(nC Prod.fst D).length≤1000000:=by
   have:=R.len;have:=R.nums;simp only[nC,List.length_map];omega
  refine(PY r1 (R.map.ext L) (λp hp=>?_) G).mono ?_
  ·obtain⟨e,W,rfl⟩:=List.mem_map.1 hp;exact R.keys e W
  rintro u h3 ⟨ss,A,o3,U,n3⟩;have F:ss.length=D.length:=by rw[A.length_eq];simp[nC]
  refine(XF o3.ints (by intro h;subst h;simp at F;exact h0 (List.eq_nil_of_length_eq_zero F.symm)) (by have:=R.len;have:=R.nums;omega)).mono ?_;rintro _ h4 ⟨rfl,rfl⟩;refine⟨?_,L.trans U⟩;rw[Tm A,vx,vx];have:¬nC Prod.snd D=[]:=by simpa[nC]using h0
  simp[this]
end
end
theorem D6 {α:Type}{j:Int}{p:α}{A:List (Int×α)}(D:eo j A=some p):(mG j A).length+1=A.length:=by
 have:=(Ff D).length_eq;simpa using this.symm
theorem YS {M:Nat→Prop}{h:af}{bx bm:Nat}{fr:Value}{t:TypeId}{room w:Nat}{I:List (Int×(Value×List Int))}{G:List (Value×List Int)}(R:wB M h bx bm fr t room w I G []){j:Int}{p:Value×List Int}(hg:eo j I=some p):
  ae prog nK #[.pointer (some ⟨bx,0,none⟩),.int .i64 j] h λ_ h'=>∃M' W,wB M' h' bx bm W t room w (mG j I) (G++[p]) []∧Fr M h h'∧(∀k,M' k→M k∨h.size≤k)∧
   ∀U c,h[bm]? =some (.map U c)→∃ad,h'[bm]? =some (.map ad c)∧∀e∈ad,e∈U∧e.key≠ .int .i64 j:=by
 apply DD;unfold td;refine aG (λhh=>hh[bx]? =some (.cells #[.int .i64 room,.int .i64 w,.map (some bm),fr] t (0,0))∧hh[bm]? =h[bm]?) ⟨R.var,rfl⟩ ?_
 try simp only[go_sem]
 refine ao fr (λhh S=>by rw[ai S.1];rfl) ?_;refine ao (.map (some bm)) (λhh S=>by rw[ai S.1];rfl) ?_;refine ao p.1 (λhh S=>by rw[Je (R.map.row S.2),pE,hg];rfl) ?_;have ar:p∈I.map Prod.snd++G++[]:=by simp;exact .inl ⟨j,Jk hg⟩
 have hp:=R.bag.own p ar;have au:=Ae hp.1;refine cH (Rp.fill_one au) λb1 h1 r1 H n1=>?_
 have a8:=aU R.var;have aa:=R.map.lt;refine⟨⟨H.row R.var,H.2 bm aa⟩,?_⟩;have S1:=Rp.SlC.single (cs:=[p.1]) r1;have a7:=R.nums;have al:=R.tot;simp only[List.length_nil,Nat.add_zero]at al;refine sr (R.free.fr (M:=λ_=>False) H.fr λ_ _=>id) S1 (ak au aQ) rfl (by omega) (by omega) λW h2 o2 f2 n2=>?_
 have v2:=f2.row (H.row R.var) R.ap.2.1;have m2:h2[bm]? =h[bm]? :=(f2.2 bm (Nat.lt_of_lt_of_le aa H.1) R.ap.2.2).trans (H.2 bm aa);refine⟨⟨v2,m2⟩,?_⟩;have F:∀k,blk W k→k≠bx∧k≠bm:=λk A=>by
  rcases n2 k A with h3|h3
  ·exact⟨λh4=>R.ap.2.1 (h4▸h3),λh4=>R.ap.2.2 (h4▸h3)⟩
  ·have:=H.1;exact⟨by omega,by omega⟩
 obtain⟨fa,fc,rfl⟩:∃a c,W=.slice a (G.length+1) c:=o2.isSl
 try simp only[go_sem]
 refine bJ (o:=3) v2 (by simp) rfl λh3 r3 u3=>?_
 have r3:h3[bx]? =some (.cells #[.int .i64 room,.int .i64 w,.map (some bm),.slice fa (G.length+1) fc] t (0,0)):=r3;have m3:h3[bm]? =h[bm]? :=(u3.2 bm (Ne.symm R.ap.1)).trans m2;simp only[go_sem,ai r3];refine Vi (R.map.row m3) λh4 m4 u4 d4=>?_
 have aw:Fr (λk=>M k) h h4:=((H.fr.trans (f2.mono λk _ A=>R.inM.2.2 k A)).trans (u3.fr.mono λk _ A=>by rw[show k=bx from A];exact R.inM.1)).trans (u4.fr.mono λk _ A=>by rw[show k=bm from A];exact R.inM.2.1);have a9:∀k,M k→k<h.size:=R.lt;have ab:(((mG j I).map Prod.snd++(G++[p]))++[]).Perm (I.map Prod.snd++G++[]):=by
  have L:=(Ff hg).map Prod.snd;rw[List.map_cons]at L;rw[List.append_nil,List.append_nil,←List.append_assoc];exact(List.perm_append_comm (l₁:=(mG j I).map Prod.snd++G) (l₂:=[p])).trans (L.symm.append_right G)
 have D:∀q∈I.map Prod.snd++G++[],∀k,blk q.1 k→k≠bx∧k≠bm∧¬blk fr k∧M k:=λq hq=>(R.bag.own q hq).2.2
 have an:Bag M h4 bx bm fr w (I.map Prod.snd++G++[]):=by
  refine(((R.bag.ext H).fr f2 λq hq k A=>(D q hq k A).2.2.1).fr u3.fr λq hq k A=>(D q hq k A).1).fr u4.fr λq hq k A=>(D q hq k A).2.1
 refine⟨λk=>M k∨blk (.slice fa (G.length+1) fc) k,.slice fa (G.length+1) fc,?_,aw,λk A=>?_,?_⟩
 ·exact{
   var:=u4.row (λh=>R.ap.1 h) r3
   map:=by rw[Jn]at m4;exact m4
   free:=by
    have:=(o2.fr u3.fr λk A=>(F k A).1).fr u4.fr λk A=>(F k A).2
    rw[List.length_append,List.map_append];exact this
   bag:=(an.mono (λk A=>.inl A) λq hq k A ay=>by
    rcases n2 k ay with L|L
    ·exact(D q hq k A).2.2.1 L
    ·have:=R.lt k (D q hq k A).2.2.2;have:=H.1;omega).perm ab
   ap:=⟨R.ap.1,λA=>(F _ A).1 rfl,λA=>(F _ A).2 rfl⟩
   inM:=⟨.inl R.inM.1,.inl R.inM.2.1,λk A=>.inr A⟩
   lt:=λk A=>by
    rcases A with A|A
    ·exact Nat.lt_of_lt_of_le (R.lt k A) aw.1
    ·have:=o2.lt A;have:=u3.1;have:=u4.1;omega
   nums:=R.nums
   keys:=λe he=>R.keys e (Jm.subset he)
   len:=by have:=D6 hg;have:=R.len;omega
   tot:=by have:=D6 hg;simp;omega}
 ·rcases A with A|A
  ·exact .inl A
  ·rcases n2 k A with L|L
   ·exact .inl (R.inM.2.2 k L)
   ·exact .inr (Nat.le_trans H.1 L)
 ·intro U c ax;exact d4 U c (m3.trans ax)
theorem Own.shrink {h:af}{v:Value}{n:Nat}{cs:List Value}(H:Own 1 h v n cs)(W:0<n):∃D,ue 1 v none (some (.int .i64 ((n-1:Nat):Int)))=some D∧Own 1 h D (n-1) cs.dropLast∧(∀k,blk D k→blk v k):=by
 rcases H with⟨rfl,rfl,rfl⟩|⟨b,cap,r,e,rfl,hc,F,G,I⟩
 ·omega
 ·have A:cs≠[]:=λh0=>by rw[h0]at F;simp at F;omega
  refine⟨.slice (some ⟨b,0,none⟩) (n-1) cap,?_,.inr ⟨b,cap,cs.getLast A::r,e,rfl,by omega,by simp;omega,?_,?_⟩,λk U=>U⟩
  ·have h1:(0:Int)≤((n-1:Nat):Int)∧((n-1:Nat):Int)≤(cap:Int):=by omega
   have L:¬cap=0:=by omega
   simp only[ue,bdV,if_pos h1,Int.toNat_natCast,if_neg L,Option.map_some,kG,Nat.sub_zero,Nat.zero_mul,Nat.add_zero]
  ·rw[←G]
   conv=>rhs;rw[←List.dropLast_concat_getLast A]
   simp
  ·rw[I]
   conv=>lhs;rw[←List.dropLast_concat_getLast A]
   simp
theorem Bag.last {M:Nat→Prop}{h h':af}{bx bm:Nat}{fr:Value}{w:Nat}{all:List (Value×List Int)}{u:Value}{D l:List Int}(B:Bag M h bx bm fr w (all++[(u,D)]))(f:Fr (blk u) h h')(o:iT h' u l)(I:l.length=w):Bag M h' bx bm fr w (all++[(u,l)]) where
 own:=λp A=>by
  rcases List.mem_append.1 A with A|A
  ·have h1:=B.own p (List.mem_append_left _ A);have H:=(List.pairwise_append.1 B.apart).2.2 p A (u,D) (by simp);exact⟨h1.1.fr f λk L=>H k L,h1.2⟩
  ·rw[List.mem_singleton.1 A];exact⟨o,I,(B.own (u,D) (by simp)).2.2⟩
 apart:=by
  have h1:=List.pairwise_append.1 B.apart;refine List.pairwise_append.2 ⟨h1.1,by simp,λa F b G=>?_⟩;rw[List.mem_singleton.1 G];exact h1.2.2 a F (u,D) (by simp)
theorem Xi {M:Nat→Prop}{h:af}{bx bm:Nat}{fr:Value}{t:TypeId}{room w:Nat}{L:List (Int×(Value×List Int))}{D:List (Value×List Int)}(R:wB M h bx bm fr t room w L D [])(h1:L.length<room)(h2:L.length+D.length≤room):
  ae prog mg #[.pointer (some ⟨bx,0,none⟩)] h λu h'=>∃M' ax aa l0,wB M' h' bx bm ax t room w L aa [(u,l0)]∧Fr M h h'∧(∀k,M' k→M k∨h.size≤k)∧L.length+1+aa.length≤room:=by
 apply BN;unfold rz;have a9:=R.nums;obtain⟨fa,fc,rfl⟩:=R.free.isSl;simp only[go_sem,ai R.var];refine aj (λhp=>?_) (λhz=>?_)
 ·have hp:0<D.length:=by omega
  have ad:IntKind.i64.wrap ((D.length:Int)-1)=((D.length-1:Nat):Int):=by rw[w64 (by omega) (by omega)];omega
  obtain⟨p,a8,ay⟩:=R.free.sl.at1 (k:=.i64) (i:=D.length-1) (by omega);obtain⟨v',au,ab,F⟩:=Own.shrink R.free hp;rw[ad,a8,ah,ay,ah,au,ah];have G:D≠[]:=List.length_pos_iff.1 hp;have I:(D.map Prod.fst)[D.length-1]'(by simp;omega)=(D.getLast G).1:=by
   rw[List.getElem_map];congr 1;rw[List.getLast_eq_getElem]
  rw[I];refine bJ (o:=3) R.var (by simp) (by obtain⟨_,_,rfl⟩:=ab.isSl;rfl) λh3 r3 u3=>?_
  have r3:h3[bx]? =some (.cells #[.int .i64 room,.int .i64 w,.map (some bm),v'] t (0,0)):=r3;have a7:D.dropLast.map Prod.fst=(D.map Prod.fst).dropLast:=by simp
  refine⟨M,v',D.dropLast,(D.getLast G).2,?_,u3.fr.mono λk _ A=>by rw[show k=bx from A];exact R.inM.1,λk A=>.inl A,by simp;omega⟩;have aw:∀k,blk v' k→k≠bx:=λk A an=>R.ap.2.1 (an▸F k A)
  have U:(L.map Prod.snd++D.dropLast++[D.getLast G]).Perm (L.map Prod.snd++D++[]):=by
   rw[List.append_assoc,List.dropLast_concat_getLast G,List.append_nil]
  exact{
   var:=r3
   map:=R.map.row (u3.2 bm (Ne.symm R.ap.1))
   free:=by rw[List.length_dropLast,a7];exact ab.fr u3.fr λk A=>aw k A
   bag:=((R.bag.fr u3.fr λq hq k A=>((R.bag.own q hq).2.2 k A).1).mono (λk A=>A) λq hq k A H=>((R.bag.own q hq).2.2 k A).2.2.1 (F k H)).perm U
   ap:=⟨R.ap.1,λA=>R.ap.2.1 (F _ A),λA=>R.ap.2.2 (F _ A)⟩
   inM:=⟨R.inM.1,R.inM.2.1,λk A=>R.inM.2.2 k (F k A)⟩
   lt:=λk A=>by rw[u3.1];exact R.lt k A
   nums:=R.nums,keys:=R.keys,len:=R.len
   tot:=by simp;omega}
 ·have al:D=[]:=List.eq_nil_of_length_eq_zero (by omega);subst al;refine lQ rfl (by omega) (by omega) λu h3 o3 e3 n3=>?_
  have ar:iT h3 u (List.replicate w 0):=by
   unfold iT;rw[List.length_replicate,List.map_replicate];exact o3
  have R3:=R.fr (Q:=λ_=>False) e3.fr λ_ _ _=>id
  refine⟨λk=>M k∨blk u k,.slice fa ([]:List (Value×List Int)).length fc,[],List.replicate w 0,?_,e3.fr,λk A=>A.imp id (n3 k),by simp;omega⟩;have hu:∀k,blk u k→¬M k:=λk A hm=>by have:=R.lt k hm;have:=n3 k A;omega
  exact{R3 with
   bag:=by
    refine⟨λq hq=>?_,?_⟩
    ·rcases List.mem_append.1 hq with hq|hq
     ·have W:=R3.bag.own q (by simpa using hq);exact⟨W.1,W.2.1,λk A=>⟨(W.2.2 k A).1,(W.2.2 k A).2.1,(W.2.2 k A).2.2.1,.inl (W.2.2 k A).2.2.2⟩⟩
     ·rw[List.mem_singleton.1 hq];exact⟨ar,by simp,λk A=>⟨λh=>hu k A (h▸R.inM.1),λh=>hu k A (h▸R.inM.2.1),λh=>hu k A (R.inM.2.2 k h),.inr A⟩⟩
    ·refine List.pairwise_append.2 ⟨by simpa using R3.bag.apart,by simp,λa ha b hb k A H=>?_⟩;rw[List.mem_singleton.1 hb]at H;exact hu k H ((R3.bag.own a (by simpa using ha)).2.2 k A).2.2.2
   inM:=⟨.inl R.inM.1,.inl R.inM.2.1,λk A=>.inl (R.inM.2.2 k A)⟩
   lt:=λk A=>by
    rcases A with A|A
    ·exact R3.lt k A
    ·exact o3.lt A
   tot:=by simp;omega}
def zg (room:Nat)(rs:List (Int×List Int)):Bool:=decide (room≤rs.length)
def rT (room w:Nat)(rs:List (Int×List Int))(j:Int)(l:List Int):Bool:=decide (l.length=w)&&((eo j rs).isNone&& !(zg room rs&&decide (j<ul (rs.map Prod.fst))))
def kD (room:Nat)(rs:List (Int×List Int)):List (Int×List Int):=if zg room rs=true then mG (ul (rs.map Prod.fst)) rs else rs
def Oz (room w:Nat)(rs:List (Int×List Int))(j:Int)(l:List Int):List (Int×List Int):=if rT room w rs j l=true then kD room rs++[(j,l)]else rs
theorem O9 {l:List Int}(h:l≠[]):ul l∈l:=by
 have key:∀(l:List Int) (x:Int),l.foldl min x∈x::l:=by
  intro l;induction l with
  |nil=>intro x;simp
  | cons z l F=>
   intro x;rw[List.foldl_cons];rcases List.mem_cons.1 (F (min x z))with D|D
   ·rw[D];rcases Int.le_total x z with A|A
    ·rw[Int.min_eq_left A];simp
    ·rw[Int.min_eq_right A];simp
   ·exact List.mem_cons_of_mem _ (List.mem_cons_of_mem _ D)
 cases l with
 |nil=>exact absurd rfl h
 |cons x l=>exact key l x
theorem YV {M:Nat→Prop} {h:af} {v u:Value} {room w:Nat} {rs:List (Int×List Int)} (H:fW M h v room w rs) {j:Int} (hj:(Lit.int .i64 j).wf=true) {l:List Int} (hu:jR h u l) (b8:l.length≤9223372036854775807) (hn:∀b,blk u b→¬M b):
  ae prog pY #[v,.int .i64 j,u] h λr h'=>r=.bool (rT room w rs j l)∧∃M',fW M' h' v room w (Oz room w rs j l)∧Fr M h h'∧∀k,M' k→M k∨h.size≤k:=by
 have H0:=H;have bv:=H.nodup;have b6:=H.nums;have bg:=λh' (e:Ext h h')=>PU (H.ext e)
 obtain⟨bx,bm,fr,t,es,fv,rfl,R,I,bd⟩:=H;apply EN;unfold uU;have bo:=hu;obtain⟨ua,uc,rfl,_⟩:=hu;have no:rT room w rs j l=false→∀h',Ext h h'→∃M',fW M' h' (.pointer (some ⟨bx,0,none⟩)) room w (Oz room w rs j l)∧Fr M h h'∧∀k,M' k→M k∨h.size≤k:=λG h' e=>
  ⟨M,by unfold Oz;rw[G];exact H0.ext e,e.fr,λk A=>.inl A⟩
 by_cases hw:l.length=w
 ·have ar:(l.length:Int)=(w:Int):=by omega
  simp only[go_sem,ai R.var,ar];refine(VR H0 j).mono ?_;rintro _ h1 ⟨rfl,hh⟩;subst hh
  try simp only[go_sem]
  cases hg:eo j rs with
  |some q=>
   simp only[Option.isSome_some,go_sem];have G:rT room w rs j l=false:=by simp[rT,hg]
   exact⟨by rw[G],no G _ (Ext.refl _)⟩
  | none=>
   simp only[Option.isSome_none,go_sem];refine aV (λxs h'=>xs=[]∧rT room w rs j l=true∧∃M' aw ab a9,wB M' h' bx bm aw t room w ab a9 []∧ab.length<room∧ab.length+a9.length≤room∧nC Prod.snd ab=kD room rs∧Fr M h1 h'∧∀k,M' k→M k∨h1.size≤k) ?_ ?_
   ·refine(PU H0).mono ?_;rintro _ h2 ⟨rfl,e2⟩;have R2:=R.fr (Q:=λ_=>False) e2.fr λ_ _ _=>id
    have b4:(nC Prod.fst es).length=rs.length:=by rw[I];simp[nC]
    simp only[go_sem,ai R2.var,Nn R2.map,b4];refine aj (λD=>?_) (λbc=>?_)
    ·have D:room≤rs.length:=by omega
     have hf:zg room rs=true:=by simp[zg,D]
     refine aj (λb2=>?_) (λbi=>?_)
     ·have G:rT room w rs j l=false:=by simp[rT,hf,b2]
      exact⟨by rw[G],no G _ e2⟩
     ·have G:rT room w rs j l=true:=by simp[rT,hf,bi,hg,hw]
      have b0:rs.map Prod.fst≠[]:=λh0=>by
       have:=congrArg List.length h0;simp at this;rw[this]at D;simp at D;omega
      have W:=O9 b0;generalize hm:ul (rs.map Prod.fst)=m at W;have A:∃p,eo m es=some p:=by
       cases hc:eo m es with
       |some p=>exact⟨p,rfl⟩
       |none=>
        have:=nD.1 hc;rw[I,vx]at W;exact absurd W this
      obtain⟨p,A⟩:=A;refine(YS R2 A).mono ?_;rintro _ h3 ⟨M',aw,F,f3,n3,_⟩;have cb:=D6 A;have b1:es.length=rs.length:=by rw[I];simp[nC]
      refine⟨trivial,G,M',aw,mG m es,fv++[p],F,by have:=R.len;omega,by simp;omega,?_,e2.fr.trans f3,λk A=>(n3 k A).imp id λU=>Nat.le_trans e2.1 U⟩;unfold kD;rw[if_pos hf,hm,I,Jn]
    ·have bc:¬room≤rs.length:=by omega
     have hf:zg room rs=false:=by simp[zg];omega
     have b1:es.length=rs.length:=by rw[I];simp[nC]
     refine⟨trivial,by simp[rT,hf,hg,hw],M,fr,es,fv,R2,by omega,bd,?_,e2.fr,λk A=>.inl A⟩;unfold kD;rw[hf];exact I.symm
   ·rintro _ ρj h2 ⟨rfl,G,M2,ca,L,b7,R2,l2,t2,a8,f2,n2⟩;refine(Xi R2 l2 t2).mono ?_;rintro x h3 ⟨M3,be,a7,l0,F,f3,n3,t3⟩;have ad:=F.bag.own (x,l0) (by simp);have f13:Fr (λk=>M k∨h1.size≤k) h1 h3:=(f2.mono λk _ A=>.inl A).trans (f3.mono λk _ A=>n2 k A);have ax:Fr M h1 h3:=⟨f13.1,λb hb hm=>f13.2 b hb λhc=>hc.elim hm λU=>by omega⟩
    have us:SlC 1 h3 (.slice ua l.length uc) l.length (l.map vi):=bo.sl.fr ax λb _ hb=>hn b hb
    have xo:Own 1 h3 x w (l0.map vi):=by
     have U:=ad.1;unfold iT at U;rw[ad.2.1]at U;exact U
    have xl:(l0.map vi).length=w:=by rw[List.length_map];exact ad.2.1
    refine Ef xo us Qg λh4 o4 f4 s4=>?_
    have bk:iT h4 x l:=by
     have h6:(l.map vi).take w++(l0.map vi).drop l.length=l.map vi:=by
      rw[List.take_of_length_le (by rw[List.length_map];omega),List.drop_eq_nil_of_le (by omega),List.append_nil]
     rw[h6]at o4;unfold iT;rw[hw];exact o4
    have al:=F.bag.last (l:=l) f4 bk hw;have aa:=ad.2.2;have v4:=f4.row F.var λhb=>(aa _ hb).1 rfl
    have m4:=F.map.fr f4 λhb=>(aa _ hb).2.1 rfl
    have b3:=F.free.fr f4 λk A an=>(aa k an).2.2.1 A
    simp only[go_sem,ai v4];refine WB m4 λU m5 u5=>?_
    have au:eo j L=none:=by
     cases hc:eo j L with
     |none=>rfl
     | some p=>
      exfalso;have h6:eo j (kD room rs)=some p.2:=by rw[←a8,pE,hc];rfl
      unfold kD at h6;split at h6
      ·rw[D5 bv,hg]at h6;split at h6<;>cases h6
      ·rw[hg]at h6;cases h6
    have ay:Pg j x (nC Prod.fst L)=nC Prod.fst (L++[(j,(x,l))]):=by
     rw[Jj (by rw[pE,au];rfl)];simp[nC]
    rw[ay]at m5;have f35:Fr M3 h3 U:=(f4.mono λk _ A=>(aa k A).2.2.2).trans (u5.fr.mono λk _ A=>by rw[show k=bm from A];exact F.inM.2.1);have f15:Fr M h1 U:=by
     have h7:Fr (λk=>M k∨h1.size≤k) h1 U:=f13.trans (f35.mono λk _ A=>(n3 k A).elim (n2 k) λh8=>.inr (Nat.le_trans f2.1 h8));exact⟨h7.1,λb hb hm=>h7.2 b hb λhc=>hc.elim hm λU=>by omega⟩
    refine⟨by rw[G],M3,⟨bx,bm,be,t,L++[(j,(x,l))],a7,rfl,?_,?_,by simp;omega⟩,f15,λk A=>(n3 k A).elim (n2 k) λh8=>.inr (Nat.le_trans f2.1 h8)⟩
    ·have b5:Bag M3 U bx bm be w (L.map Prod.snd++a7++[(x,l)]):=al.fr u5.fr λq hq k A=>((al.own q hq).2.2 k A).2.1
     exact{
      var:=u5.row (λh=>F.ap.1 h) v4
      map:=m5
      free:=b3.fr u5.fr λk A an=>F.ap.2.2 (an▸A)
      bag:=b5.perm (by
       rw[List.append_nil,List.map_append,List.append_assoc,List.append_assoc];exact(List.perm_append_comm (l₁:=[(x,l)])).append_left _)
      ap:=F.ap,inM:=F.inM
      lt:=λk A=>Nat.lt_of_lt_of_le (F.lt k A) f35.1
      nums:=F.nums
      keys:=λe he=>by
       rcases List.mem_append.1 he with he|he
       ·exact F.keys e he
       ·rw[List.mem_singleton.1 he];exact hj
      len:=by simp;omega
      tot:=by simp;omega}
    ·unfold Oz;rw[if_pos G,←a8];simp[nC]
 ·have ar:¬(l.length:Int)=(w:Int):=by omega
  have G:rT room w rs j l=false:=by simp[rT,hw]
  simp only[go_sem,ai R.var,ar];exact⟨by rw[G],no G _ (Ext.refl _)⟩
def Ft (rs:List (Int×List Int))(a b n:Int)(is:Bool):Prop:=
 (is=true∧a≤n∧n<b∧eo n rs=none∧∀i,a≤i→i<n→(eo i rs).isSome=true)∨(is=false∧n=0∧∀i,a≤i→i<b→(eo i rs).isSome=true)
theorem XE {M:Nat→Prop}{h:af}{v:Value}{room w:Nat}{rs:List (Int×List Int)}(H:fW M h v room w rs){a b:Int}(ha: -9223372036854775808≤a)(hb:b≤9223372036854775807):
  ae prog nM #[v,.int .i64 a,.int .i64 b] h λr h'=>(∃n U,r=.tuple #[.int .i64 n,.bool U]∧Ft rs a b n U)∧h'=h:=by
 apply DE;unfold te;refine cP (λd xs h'=>h'=h∧∃j,a≤j∧d=(b-j).toNat∧xs=[.int .i64 j]∧∀i,a≤i→i<j→(eo i rs).isSome=true) (b-a).toNat ⟨rfl,a,by omega,rfl,rfl,λi h1 G=>by omega⟩ ?_;rintro d _ ρj h1 again ⟨hh,j,D,rfl,rfl,A⟩ F;subst hh;simp only[go_sem];refine aj (λI=>?_) (λW=>?_)
 ·refine(VR H j).mono ?_;rintro _ G ⟨rfl,hh⟩;subst hh
  try simp only[go_sem]
  cases L:eo j rs with
  |none=>
   simp only[Option.isSome_none,go_sem];exact⟨⟨j,true,rfl,.inl ⟨rfl,D,I,L,A⟩⟩,trivial⟩
  |some p=>
   simp only[Option.isSome_some,go_sem];rw[w64 (by omega) (by omega)];refine F _ _ (b-(j+1)).toNat (by omega) ⟨rfl,j+1,by omega,rfl,rfl,λi h1 G=>?_⟩;by_cases hi:i=j
   ·rw[hi,L];rfl
   ·exact A i h1 (by omega)
 ·exact⟨⟨0,false,rfl,.inr ⟨rfl,rfl,λi h1 G=>A i h1 (by omega)⟩⟩,trivial⟩
theorem wf64 {n:Int}(h1: -9223372036854775808≤n)(A:n≤9223372036854775807):(Lit.int .i64 n).wf=true:=by
 show(decide (IntKind.i64.min≤n)&&decide (n≤IntKind.i64.max))=true;rw[Bool.and_eq_true,decide_eq_true_eq,decide_eq_true_eq];exact⟨h1,A⟩
end Go.Proofs.YtcoimlclclnlkaaGreatDoor
namespace Go.Proofs.YtcoimlclclnlkaaGreatDoor
open Go Go.Crisp
attribute [local irreducible] ae cF aP stK aA vK qK bD gK dE aS mkK cG Cn DS Ad bsK clK qN lS R9
open _root_.Go.Proofs.Tryz
section
structure em where
 m:Pic
 s:Stg
 t:cz
structure em.Wf (d:em):Prop where
 m:d.m.Wf
 s:d.s.Wf
 su:lG d.m d.s
 w1:1≤d.t.w
 h1:1≤d.t.h
 x0:0≤d.t.x
 y0:0≤d.t.y
 xw:d.t.x+d.t.w≤d.s.x.lines.length
 yh:d.t.y+d.t.h≤d.s.y.lines.length
abbrev QV (bf bt:Nat)(p q rv:Value)(d:em)(y:Int):List Value:=[ptr bf,ptr bt,p,q,.int .i64 d.s.border]++cS d.t++[rv,.int .i64 y]
structure dK (Z M:Nat→Prop)(h:af)(bj bf:Nat)(vf:Value)(bt:Nat)(vt p q rv:Value)(d:em)(y:Int)(n:Pic)(room w:Nat)(rs:List (Int×List Int)):Prop where
 row:h[bj]? =some (.cells (QV bf bt p q rv d y).toArray 171 (0,0))
 src:cA h bf vf d.m
 tx:dZ Z h p d.s.x
 ty:dZ Z h q d.s.y
 ring:fW M h rv room w rs
 out:cA h bt vt n
 zf:Z bf∧∀c,blk vf c→Z c
 zz:∀c,Z c→¬M c∧c≠bj∧¬blk vt c
 mj:¬M bj∧¬M bt∧(∀c,blk vt c→¬M c)
 jt:bj≠bt∧¬blk vt bj
 y0:d.t.y≤y
 y1:y≤d.t.y+d.t.h
 zl:∀c,Z c→c<h.size
section
variable {Z M:Nat→Prop}{h:af}{bj bf:Nat}{vf:Value}{bt:Nat}{vt p q rv:Value}{d:em}{y:Int}{n:Pic}{room w:Nat}{rs:List (Int×List Int)}
theorem dK.ext {h':af}(J:dK Z M h bj bf vf bt vt p q rv d y n room w rs)(e:Ext h h'):dK Z M h' bj bf vf bt vt p q rv d y n room w rs:=
 ⟨e.row J.row,J.src.ext e,J.tx.ext e,J.ty.ext e,J.ring.ext e,J.out.ext e,J.zf,J.zz,J.mj,J.jt,J.y0,J.y1,λc hc=>Nat.lt_of_lt_of_le (J.zl c hc) e.1⟩
theorem em.bd (W:d.Wf):d.t.x+d.t.w≤65536∧d.t.y+d.t.h≤65536:=by
 have:=W.s.x.len;have:=W.s.y.len;have:=W.xw;have:=W.yh;omega
theorem YN (J:dK Z M h bj bf vf bt vt p q rv d y n room w rs)(W:d.Wf):ae prog l9 #[ptr bj] h λr h'=>r=.bool (decide (d.t.y+d.t.h≤y))∧h'=h:=by
 apply BI;unfold rk;have A:=em.bd W;have h1:=W.y0;have D:=W.h1;simp only[go_sem,Nat.zero_add,ai J.row];simp only[QV,cS,List.cons_append,List.nil_append,List.getElem?_toArray,List.getElem?_cons_succ,List.getElem?_cons_zero,go_sem];rw[w64 (n:=d.t.y+d.t.h) (by omega) (by omega)];exact⟨rfl,trivial⟩
theorem dK.c2 {h':af}(J:dK Z M h bj bf vf bt vt p q rv d y n room w rs)(e:Ext h h'):aB h' ⟨bj,2,none⟩=some p:=by rw[ai (e.row J.row)];rfl
theorem dK.c3 {h':af}(J:dK Z M h bj bf vf bt vt p q rv d y n room w rs)(e:Ext h h'):aB h' ⟨bj,3,none⟩=some q:=by rw[ai (e.row J.row)];rfl
theorem dK.c4 {h':af}(J:dK Z M h bj bf vf bt vt p q rv d y n room w rs)(e:Ext h h'):aB h' ⟨bj,4,none⟩=some (.int .i64 d.s.border):=by rw[ai (e.row J.row)];rfl
theorem dK.c0 {h':af}(J:dK Z M h bj bf vf bt vt p q rv d y n room w rs)(e:Ext h h'):aB h' ⟨bj,0,none⟩=some (ptr bf):=by rw[ai (e.row J.row)];rfl
theorem dK.c1 {h':af}(J:dK Z M h bj bf vf bt vt p q rv d y n room w rs)(e:Ext h h'):aB h' ⟨bj,1,none⟩=some (ptr bt):=by rw[ai (e.row J.row)];rfl
theorem dK.c6 {h':af}(J:dK Z M h bj bf vf bt vt p q rv d y n room w rs)(e:Ext h h'):aB h' ⟨bj,6,none⟩=some (.int .i64 d.t.x):=by rw[ai (e.row J.row)];rfl
theorem dK.c8 {h':af}(J:dK Z M h bj bf vf bt vt p q rv d y n room w rs)(e:Ext h h'):aB h' ⟨bj,8,none⟩=some (.int .i64 d.t.w):=by rw[ai (e.row J.row)];rfl
theorem dK.c15 {h':af}(J:dK Z M h bj bf vf bt vt p q rv d y n room w rs)(e:Ext h h'):aB h' ⟨bj,15,none⟩=some rv:=by rw[ai (e.row J.row)];rfl
theorem dK.c16 {h':af}(J:dK Z M h bj bf vf bt vt p q rv d y n room w rs)(e:Ext h h'):aB h' ⟨bj,16,none⟩=some (.int .i64 y):=by rw[ai (e.row J.row)];rfl
theorem Ml (J:dK Z M h bj bf vf bt vt p q rv d y n room w rs)(W:d.Wf):ae prog jn #[ptr bj] h λr h'=>
  ∃u,r=.agg #[.int .i64 (aW d.s.y y).1,u]∧SlI (dJ h h') h' u (aW d.s.y y).2∧Ext h h':=by
 apply BJ;unfold rl;refine aC λb1 h1 r1 A I=>?_
 have L:=aU r1;simp only[go_sem,Nat.zero_add];refine aG (λh'=>h'=h1) rfl ?_;refine ao q (λh' e=>by rw[e];exact J.c3 A) ?_;refine ao (.int .i64 y) (λh' e=>by rw[e];exact J.c16 A) ?_;refine(zy (J.ty.ext A) W.s.y).mono λr h2 ⟨u,e,S,G⟩=>?_
 subst e;refine ce (l:=[.int .i64 (aW d.s.y y).1,u]) (G.row r1) rfl (ak rfl (ak S.one aQ)) rfl λh3 H F=>?_
 rw[aI H 2 rfl,ah];refine⟨u,rfl,?_,(A.trans G).upd I F⟩;refine(S.fr F.fr λc _ D U=>?_).mono λc hc D=>⟨Nat.le_trans A.1 D.1,hc⟩
 have:=D.1;omega
abbrev y5 (k j:Int):Value:=.agg #[.int .i64 k,.int .i64 j]
def Qa (d:em)(y:Int)(rs:List (Int×List Int))(k j:Int):Prop:=
 if d.t.y+d.t.h≤y then k=0∧j=0 else
  (k=1∧Ft rs (aW d.s.y y).1 ((aW d.s.y y).1+((aW d.s.y y).2.length:Int)) j true)∨(k=2∧j=y∧Ft rs (aW d.s.y y).1 ((aW d.s.y y).1+((aW d.s.y y).2.length:Int)) 0 false)
theorem TX (J:dK Z M h bj bf vf bt vt p q rv d y n room w rs)(W:d.Wf):ae prog gv #[ptr bj] h λr h'=>∃k j,r=y5 k j∧Qa d y rs k j∧Ext h h':=by
 apply BL;unfold ru;refine aC λb1 h1 r1 H n1=>?_
 have l1:=aU r1;have F:=J.ext H;refine(YN F W).mono λr I ⟨e,A⟩=>?_
 have A:=A.symm;subst e A;refine aj (λI=>?_) (λI=>?_)
 ·rw[fB,bA,ah];refine ce (l:=[.int .i64 0,.int .i64 0]) r1 rfl (ak rfl (ak rfl aQ)) rfl λh3 r3 u3=>?_
  rw[aI r3 2 rfl,ah];exact⟨0,0,rfl,by unfold Qa;rw[if_pos I];exact⟨rfl,rfl⟩,H.upd n1 u3⟩
 refine(Ml F W).mono λr h3 ⟨u,e,S,e3⟩=>?_
 subst e;refine cD (cs:=[.int .i64 (aW d.s.y y).1,u]) rfl (ak rfl (ak S.one aQ)) rfl λb4 h4 r4 e4 n4=>?_
 have D:=e3.trans e4;have J4:=F.ext D;have hl:=kF W.s.y y;obtain⟨au,cu,eu⟩:=S.isSl;have aa:aq u=some (.int .i64 ((aW d.s.y y).2.length:Int)):=by rw[eu];rfl
 have hN:∀k j,Qa d y rs k j↔((k=1∧Ft rs (aW d.s.y y).1 ((aW d.s.y y).1+((aW d.s.y y).2.length:Int)) j true)∨(k=2∧j=y∧Ft rs (aW d.s.y y).1 ((aW d.s.y y).1+((aW d.s.y y).2.length:Int)) 0 false)):=λk j=>by unfold Qa;rw[if_neg I]
 generalize aW d.s.y y=L at*;refine aG (λh'=>h'=h4) rfl ?_;simp only[go_sem,Nat.zero_add];refine ao rv (λh' e=>by rw[e];exact F.c15 D) ?_;refine ao (.int .i64 L.1) (λh' e=>by rw[e];exact ai r4) ?_;refine ao (.int .i64 L.1) (λh' e=>by rw[e];exact ai r4) ?_;refine ao u (λh' e=>by rw[e];exact ai r4) ?_;refine ao (.int .i64 (L.2.length:Int)) (λh' e=>aa) ?_;simp only[go_sem];rw[w64 (n:=L.1+(L.2.length:Int)) (by omega) (by omega)];refine(XE J4.ring (a:=L.1) (b:=L.1+(L.2.length:Int)) (by omega) (by omega)).mono λr h5 ⟨⟨j,is,e,hn⟩,A⟩=>?_
 have A:=A.symm;subst e A;simp only[go_sem];have G:=D.row r1;refine iI (λhi=>?_) (λhi=>?_)
 ·subst hi;have hf:aE #[(.int .i64 0),(.int .i64 0)] [(0,1,Value.int .i64 1),(1,1,Value.int .i64 j)]=some #[.int .i64 1,.int .i64 j]:=wz rfl rfl;rw[hf,bA,ah];refine ce (l:=[.int .i64 1,.int .i64 j]) G rfl (ak rfl (ak rfl aQ)) rfl λh6 r6 U=>?_
  rw[aI r6 2 rfl,ah];exact⟨1,j,rfl,(hN 1 j).2 (.inl ⟨rfl,hn⟩),(H.trans D).upd n1 U⟩
 ·subst hi;have hj:j=0:=by rcases hn with⟨hh,_⟩|⟨_,hh,_⟩;cases hh;exact hh
  subst hj;rw[F.c16 D,ah];have hf:aE #[(.int .i64 0),(.int .i64 0)] [(0,1,Value.int .i64 2),(1,1,Value.int .i64 y)]=some #[.int .i64 2,.int .i64 y]:=wz rfl rfl;rw[hf,bA,ah];refine ce (l:=[.int .i64 2,.int .i64 y]) G rfl (ak rfl (ak rfl aQ)) rfl λh6 r6 U=>?_
  rw[aI r6 2 rfl,ah];exact⟨2,y,rfl,(hN 2 y).2 (.inr ⟨rfl,rfl,hn⟩),(H.trans D).upd n1 U⟩
end
end
section
section
variable {Z M:Nat→Prop}{h:af}{bj bf:Nat}{vf:Value}{bt:Nat}{vt p q rv:Value}{d:em}{y:Int}{n:Pic}{room w:Nat}{rs:List (Int×List Int)}
def TD (d:em)(x row:Int):List Int:=(List.range d.m.c.toNat).map λc:Nat=>IntKind.i64.wrap (nW d.m d.s x row c)
theorem VL {h0:af}{u:Value}{l:List Int}{x row:Int}(J:dK Z M h0 bj bf vf bt vt p q rv d y n room w rs)(W:d.Wf)(N:New (Rp.int .i64) h0 h u l)(hl:l.length≤1000000):
  ae prog ke #[ptr bj,.int .i64 x,.int .i64 row,u] h λr h'=>New (Rp.int .i64) h0 h' r (l++TD d x row):=by
 apply yN;unfold oL;have E0:=N.2.1;simp only[go_sem,Nat.zero_add,J.c2 E0];refine(zy (J.tx.ext E0) W.s.x).mono λr h1 ⟨v,e,S,e1⟩=>?_
 subst e;refine cD (cs:=[.int .i64 (aW d.s.x x).1,v]) rfl (ak rfl (ak S.one aQ)) rfl λb2 h2 r2 e2 n2=>?_
 have E2:=E0.trans (e1.trans e2);simp only[go_sem,Nat.zero_add,J.c0 E2];refine(dC (J.src.ext E2)).mono λr h3 ⟨e,A⟩=>?_
 have A:=A.symm;subst e A;have hf:=cq W.m.fits;have aw:=kF W.s.x x;unfold TD nW;obtain⟨C,hC⟩:∃C:Nat,d.m.c=(C:Int):=⟨d.m.c.toNat,by omega⟩
 rw[hC,Int.toNat_natCast];have S2:=S.ext e2;have Sz:SlI (λc=>¬blk u c∧c≠b2∧c<h2.size) h2 v (aW d.s.x x).2:=S2.mono λc hc H=>⟨λhu=>by have:=N.lt hu;have:=H.1;omega,λhe=>by have:=H.2;omega,hc⟩
 have ad:¬blk u b2:=λhu=>by have:=N.lt hu;have:=e1.1;omega
 generalize aW d.s.x x=L at*;obtain⟨av,cv,ev⟩:=S.isSl;have an:aq v=some (.int .i64 (L.2.length:Int)):=by rw[ev];rfl
 obtain⟨g,hg⟩:∃g:Nat→Int,g=λc:Nat=>IntKind.i64.wrap (fh (λi=>L.2.getD i 0*atP d.m (atZ d.s.border (L.1+i) d.m.w) row c) L.2.length):=⟨_,rfl⟩
 rw[←hg];refine bB (α:=Value) C 0 (λc u=>[u,.int .i64 (c:Int)]) (λc u h'=>New (Rp.int .i64) h0 h' u (l++(List.range c).map g)∧SlI (λc=>¬blk u c∧c≠b2∧c<h2.size) h' v L.2∧h2.size≤h'.size∧h'[b2]? =some (.cells #[.int .i64 L.1,v] 235 (0,0))∧¬blk u b2∧Ext h0 h') u rfl (Nat.zero_le _)
  ⟨by simpa using N.ext (e1.trans e2),Sz,Nat.le_refl _,r2,ad,E2⟩ λc u h4 again ρ1 _ hc ⟨N4,S4,al,r4,u4,E4⟩ ar=>?_
 simp only[go_sem];refine aj (λh5=>?_) (λh5=>?_)
 ·have c1:aB h4 ⟨b2,1,none⟩=some v:=ai r4;simp only[go_sem,Nat.zero_add,c1,an];have J4:=J.ext E4;refine iH (λi=>[.int .i64 (IntKind.i64.wrap (fh (λi=>L.2.getD i 0*atP d.m (atZ d.s.border (L.1+i) d.m.w) row c) i)),.int .i64 (i:Int)]) L.2.length 0 rfl (Nat.zero_le _) λi aa ρ2 _ hi F=>?_
  simp only[go_sem];refine aj (λh6=>?_) (λh6=>?_)
  ·have I:i<L.2.length:=by omega
   have F:=F I;obtain⟨pi,i1,i2⟩:=S4.int_at (k':=.i64) I;have ea:L.2.getD i 0=L.2[i]:=by simp[List.getD_eq_getElem?_getD,I]
   rw[i1,ah,i2,ah,←ea];refine aG (λh'=>h'=h4) rfl ?_
   try simp only[go_sem,Nat.zero_add]
   refine ao (.int .i64 d.s.border) (λh' e=>by rw[e];exact J.c4 E4) ?_;refine ao (.int .i64 L.1) (λh' e=>by rw[e];exact ai r4) ?_
   try simp only[go_sem,Nat.zero_add]
   refine ao (ptr bf) (λh' e=>by rw[e];exact J.c0 E4) ?_;rw[w64 (n:=L.1+(i:Int)) (by omega) (by omega)];refine(nV J4.src).mono λr D ⟨e,A⟩=>?_
   have A:=A.symm;subst e A;refine⟨rfl,?_⟩;refine(sh (by unfold I64;omega)).mono λr D ⟨e,A⟩=>?_
   have A:=A.symm;subst e A;simp only[go_sem,Nat.zero_add,J.c0 E4];refine(XL J4.src W.m).mono λr D ⟨e,A⟩=>?_
   have A:=A.symm;subst e A;have hv:=RJ W.m (atZ d.s.border (L.1+(i:Int)) d.m.w) row c;have hm:=W.m.m2;simp only[go_sem];rw[w64 (n:=atP d.m (atZ d.s.border (L.1+(i:Int)) d.m.w) row c) (by omega) (by omega),zY,w64 (n:=(i:Int)+1) (by omega) (by omega)];exact F
  ·have ab:i=L.2.length:=by omega
   subst ab;have au:IntKind.i64.wrap (fh (λi=>L.2.getD i 0*atP d.m (atZ d.s.border (L.1+i) d.m.w) row c) L.2.length)=g c:=by rw[hg]
   rw[au];have G:(l++(List.range c).map g).length=l.length+c:=by simp
   refine Rp.push_ow1 (e:=Rp.int .i64) rfl N4.1 (x:=g c) rfl rfl (by rw[G];omega) (by rw[G];omega) (λb hb=>hb.elim) λs' h' o' f' n'=>?_
   try simp only[go_sem]
   rw[w64 (by omega) (by omega)];have E':Ext h0 h':=E4.then_fr f' N4.2.2;have U:∀b,blk s' b→blk u b∨h4.size≤b:=n';refine ar s' h' (by omega) ⟨⟨by rw[pR _ (c+1) c (by omega),←List.append_assoc];exact o',E',λb hb=>?_⟩,?_,Nat.le_trans al f'.1,f'.row r4 u4,λhb=>?_,E'⟩
   ·rcases U b hb with D|D
    ·exact N4.2.2 b D
    ·exact Nat.le_trans E4.1 D
   ·refine(S4.fr f' λb _ H=>H.1).mono λb hb H=>⟨λhs=>?_,H.2⟩
    rcases U b hs with D|D
    ·exact H.1 D
    ·have:=H.2.2;omega
   ·rcases U _ hb with D|D
    ·exact u4 D
    ·have:=aU r4;omega
 ·have:c=C:=by omega
  subst this;exact N4
def HC (d:em)(real:Int):Nat→List Int
 |0=>[]
 |x+1=>HC d real x++TD d (d.t.x+x) real
def BD (d:em)(j:Int):List Int:=HC d (atZ d.s.border j d.m.h) d.t.w.toNat
theorem Vk (d:em)(x row:Int):(TD d x row).length=d.m.c.toNat:=by unfold TD;simp
theorem yG (d:em)(real:Int):∀k,(HC d real k).length=k*d.m.c.toNat
 |0=>by simp[HC]
 |k+1=>by unfold HC;rw[List.length_append,yG,Vk,Nat.add_mul,Nat.one_mul]
theorem Ou (d:em)(real:Int){x c:Nat}(hc:c<d.m.c.toNat):∀{k:Nat},x<k→(HC d real k).getD (x*d.m.c.toNat+c) 0=IntKind.i64.wrap (nW d.m d.s (d.t.x+x) real c)
 |0,h=>absurd h (by omega)
 | k+1,h=>by
  unfold HC;have D:=yG d real k;by_cases F:x<k
  ·have h1:x*d.m.c.toNat+c<(HC d real k).length:=by
    rw[D];have:(x+1)*d.m.c.toNat≤k*d.m.c.toNat:=Nat.mul_le_mul_right _ F;rw[Nat.add_mul,Nat.one_mul]at this;omega
   have:=Ou d real hc F;rw[List.getD_eq_getElem?_getD]at this ⊢;rw[List.getElem?_append_left h1];exact this
  ·have A:x=k:=by omega
   subst A;rw[List.getD_eq_getElem?_getD,List.getElem?_append_right (by omega),D,Nat.add_sub_cancel_left];unfold TD;simp[hc]
theorem VI {j:Int}(J:dK Z M h bj bf vf bt vt p q rv d y n room w rs)(W:d.Wf)(hj:I64 j)(hs:d.t.w≤300):
  ae prog kc #[ptr bj,.int .i64 j] h λr h'=>∃M',dK Z M' h' bj bf vf bt vt p q rv d y n room w (Oz room w rs j (BD d j))∧Fr M h h'∧∀k,M' k→M k∨h.size≤k:=by
 apply yM;unfold oK;have hf:=cq W.m.fits;have hb:=em.bd W;have ar:=W.w1;have an:=W.x0;simp only[go_sem,Nat.zero_add];refine aG (λh'=>h'=h) rfl ?_;refine ao (.int .i64 d.s.border) (λh' e=>by rw[e];exact J.c4 (Ext.refl _)) ?_;refine ao (ptr bf) (λh' e=>by rw[e];exact J.c0 (Ext.refl _)) ?_;refine(lW J.src).mono λr h1 ⟨e,I⟩=>?_
 have I:=I.symm;subst e I;refine⟨rfl,?_⟩;refine(sh hj).mono λr h1 ⟨e,I⟩=>?_
 have I:=I.symm;subst e I;simp only[go_sem,Nat.zero_add,J.c8 (Ext.refl _)];unfold BD;generalize atZ d.s.border j d.m.h=real;obtain⟨N,hN⟩:∃N:Nat,d.t.w=(N:Int):=⟨d.t.w.toNat,by omega⟩
 rw[hN,Int.toNat_natCast];have hC:d.m.c.toNat≤3:=by omega
 have F:∀k,k≤N→(HC d real k).length≤900:=λk hk=>by
  rw[yG];have:=Nat.mul_le_mul (show k≤300 by omega) hC;omega
 refine bB (α:=Value) N 0 (λk u=>[u,.int .i64 (k:Int)]) (λk u h'=>New (Rp.int .i64) h h' u (HC d real k)) (.slice none 0 0) rfl (Nat.zero_le _) (New.nil (Ext.refl _)) λk u h2 again ρ1 _ hk A aa=>?_
 simp only[go_sem];refine aj (λh3=>?_) (λh3=>?_)
 ·simp only[go_sem,Nat.zero_add,J.c6 A.2.1];rw[w64 (n:=d.t.x+(k:Int)) (by omega) (by omega)];refine(VL J W A (by have:=F k hk;omega)).mono λr h4 N4=>?_
  rw[w64 (by omega) (by omega)];exact aa r h4 (by omega) N4
 ·have ad:k=N:=by omega
  subst ad;have L:=J.ext A.2.1;simp only[go_sem,Nat.zero_add,J.c15 A.2.1];have al:jR h2 u (HC d real k):=by
   obtain⟨a,cap,e⟩:=A.isSl;refine⟨a,cap,e,?_⟩;have o:=(MK A.1).sl;obtain⟨_,a',c',e',U⟩:=o;rw[e]at e';cases e';rcases U with U|⟨b,o,ha,U⟩
   ·left;simpa using U
   ·refine .inr ⟨b,o,ha,λi hi=>?_⟩;have:=U i (by simpa using hi);rw[this,List.getElem_map];rfl
  refine(YV L.ring (by unfold I64 at hj;exact wf64 hj.1 hj.2) al (by have:=F k hk;omega) λb hb hm=>?_).mono λr h5 ⟨e,M',R',H,m'⟩=>?_
  ·have D:=A.2.2 b hb;have h7:=J.ring.lt hm;omega
  have lt:∀c,c<h.size→¬M c→¬M' c:=λc hc hm ab=>by
   rcases m' c ab with D|D
   ·exact hm D
   ·have:=A.2.1.1;omega
  have zl:=J.zl;have zM:∀c,Z c→¬M c:=λc hc=>(J.zz c hc).1
  refine⟨M',⟨H.row L.row J.mj.1,L.src.fr H (zM _ J.zf.1) λc hc=>zM _ (J.zf.2 c hc),L.tx.fr H λc _ G=>zM c G,L.ty.fr H λc _ G=>zM c G,R',L.out.fr H J.mj.2.1 J.mj.2.2,J.zf,
   λc G=>⟨lt c (zl c G) (zM c G),(J.zz c G).2⟩,⟨lt _ (aU J.row) J.mj.1,lt _ J.out.lt J.mj.2.1,λc hc=>lt c (J.out.ltv hc) (J.mj.2.2 c hc)⟩,J.jt,J.y0,J.y1,λc hc=>?_⟩,A.2.1.fr.trans H,λk hk=>?_⟩
  ·have D:=zl c hc;have h7:=A.2.1.1;have h8:=H.1;omega
  ·rcases m' k hk with D|D
   ·exact .inl D
   ·exact .inr (Nat.le_trans A.2.1.1 D)
end
end
section
structure En (d:em)(n:Pic):Prop where
 wf:n.Wf
 w:n.w=d.s.x.lines.length
 h:n.h=d.s.y.lines.length
 c:n.c=d.m.c
 m:n.most=d.m.most
section
variable {Z M:Nat→Prop}{h:af}{bj bf:Nat}{vf:Value}{bt:Nat}{vt p q rv:Value}{d:em}{y:Int}{n:Pic}{room w:Nat}{rs:List (Int×List Int)}
theorem dK.set {h':af}{n':Pic}(J:dK Z M h bj bf vf bt vt p q rv d y n room w rs)(f:Fr (blk vt) h h')(I:cA h' bt vt n'):dK Z M h' bj bf vf bt vt p q rv d y n' room w rs:=
 ⟨f.row J.row J.jt.2,J.src.fr f (J.zz _ J.zf.1).2.2 λc hc=>(J.zz _ (J.zf.2 c hc)).2.2,J.tx.fr f λc _ A=>(J.zz c A).2.2,J.ty.fr f λc _ A=>(J.zz c A).2.2,J.ring.fr f λc _ F D=>J.mj.2.2 c D F,I,J.zf,J.zz,J.mj,J.jt,J.y0,J.y1,
  λc hc=>Nat.lt_of_lt_of_le (J.zl c hc) f.1⟩
def uN (d:em)(y:Int)(i:Int)(x' y' c':Int):Prop:=y'=y∧d.t.x≤x'∧x'<d.t.x+d.t.w∧(x'-d.t.x)*d.m.c+c'<i
instance (d:em)(y i A D c':Int):Decidable (uN d y i A D c'):=by unfold uN;infer_instance
theorem Xg (J:dK Z M h bj bf vf bt vt p q rv d y n room w rs)(W:d.Wf)(O:En d n)(hs:d.t.w≤300)(hy:y<d.t.y+d.t.h)(hw:(w:Int)=d.t.w*d.m.c)
  (bi:∀k:Nat,k<(aW d.s.y y).2.length→eo ((aW d.s.y y).1+(k:Int)) rs=some (BD d ((aW d.s.y y).1+(k:Int)))):
  ae prog kU #[ptr bj] h λr h'=>∃n',dK Z M h' bj bf vf bt vt p q rv d (y+1) n' room w rs∧En d n'∧(∀D F c',inP n D F c'→atP n' D F c'=if uN d y w D F c' then ui d.m d.s D F c' else atP n D F c')∧Fr (λc=>blk vt c∨c=bj) h h':=by
 apply As;unfold qg;have hf:=cq W.m.fits;have hb:=em.bd W;have ea:=W.w1;have dz:=W.x0;have eh:=W.y0;refine(Ml J W).mono λr h1 ⟨u,e,S,e1⟩=>?_
 subst e;have hl:=kF W.s.y y;refine cD (cs:=[.int .i64 (aW d.s.y y).1,u]) rfl (ak rfl (ak S.one aQ)) rfl λb2 h2 r2 e2 n2=>?_
 have E2:=e1.trans e2;have S2:=S.ext e2;obtain⟨au,cu,eu⟩:=S.isSl;have cb:aq u=some (.int .i64 ((aW d.s.y y).2.length:Int)):=by rw[eu];rfl
 have bv:∀x c,fh (λk=>(aW d.s.y y).2.getD k 0*nW d.m d.s x (atZ d.s.border ((aW d.s.y y).1+k) d.m.h) c) (aW d.s.y y).2.length=BA d.m d.s x y c:=λx c=>rfl
 generalize aW d.s.y y=L at*;obtain⟨C,hC⟩:∃C:Nat,d.m.c=(C:Int):=⟨d.m.c.toNat,by omega⟩
 have b4:1≤C∧C≤3:=by omega
 obtain⟨Wn,aw⟩:∃Wn:Nat,d.t.w=(Wn:Int):=⟨d.t.w.toNat,by omega⟩
 have ad:w=Wn*C:=by
  rw[aw,hC]at hw
  exact_mod_cast hw
 have c7:w≤900:=by
  rw[ad];have:=Nat.mul_le_mul (show Wn≤300 by omega) b4.2;omega
 simp only[go_sem,Nat.zero_add,J.c15 E2];refine(VQ (J.ring.ext E2)).mono λr h3 ⟨e,H⟩=>?_
 have H:=H.symm;subst e H;refine lQ rfl (by omega) (by omega) λsv h3 o3 e3 n3=>?_
 have E3:=E2.trans e3;have c1:aB h3 ⟨b2,1,none⟩=some u:=ai (e3.row r2);simp only[go_sem,Nat.zero_add,c1,cb]
 -- the sums
 obtain⟨g,hg⟩:∃g:Nat→Nat→Int,g=λk i=>fh (λk=>L.2.getD k 0*nW d.m d.s (d.t.x+((i/C:Nat):Int)) (atZ d.s.border (L.1+k) d.m.h) ((i%C:Nat):Int)) k:=⟨_,rfl⟩
 refine bB (α:=Unit) L.2.length 0 (λk _=>[.int .i64 (k:Int)]) (λk _ h'=>Ext h2 h'∧Own 1 h' sv w ((List.range w).map λi=>Value.int .i64 (IntKind.i64.wrap (g k i)))) () rfl (Nat.zero_le _)
  ⟨e3,by
   rw[GK]at o3;rw[←bH (g:=λi=>Value.int .i64 ((λ_=>0:Nat→Int) i)) λi _=>by rw[hg];rfl];exact o3⟩ λk _ h4 again ρ1 _ hk ⟨E4,o4⟩ a7=>?_
 have aa:=E2.trans E4;simp only[go_sem];refine aj (λh5=>?_) (λh5=>?_)
 ·have ay:k<L.2.length:=by omega
  obtain⟨pk,k1,k2⟩:=(S2.ext E4).int_at (k':=.i64) ay;have eb:L.2.getD k 0=L.2[k]:=by simp[List.getD_eq_getElem?_getD,ay]
  rw[k1,ah,k2,ah,←eb];refine aG (λh'=>h'=h4) rfl ?_
  try simp only[go_sem,Nat.zero_add]
  refine ao rv (λh' e=>by rw[e];exact J.c15 aa) ?_;refine ao (.int .i64 L.1) (λh' e=>by rw[e];exact ai (E4.row r2)) ?_;simp only[go_sem];rw[w64 (n:=L.1+(k:Int)) (by omega) (by omega)];refine(YU (J.ring.ext aa) (L.1+(k:Int))).mono λr h5 ⟨v,e,ov,e5,nv⟩=>?_
  subst e;rw[bi k ay]at ov;have ov:iT h5 v (BD d (L.1+(k:Int))):=ov;have b6:(BD d (L.1+(k:Int))).length=w:=by
   unfold BD;rw[yG,aw,hC,Int.toNat_natCast,Int.toNat_natCast,ad]
  have Sv:=EE (k:=.i64) ov;obtain⟨av,cv,ev⟩:=Sv.isSl;have ca:aq v=some (.int .i64 (w:Int)):=by rw[ev,b6];rfl
  simp only[go_sem,ca];have o5:=o4.fr (M:=λ_=>False) e5.fr λ_ _=>id
  have a8:∀i,i<w→(BD d (L.1+(k:Int))).getD i 0=IntKind.i64.wrap (nW d.m d.s (d.t.x+((i/C:Nat):Int)) (atZ d.s.border (L.1+(k:Int)) d.m.h) ((i%C:Nat):Int)):=λi hi=>by
   have h6:i%C<C:=Nat.mod_lt _ (by omega);have h7:i/C<Wn:=by rw[Nat.div_lt_iff_lt_mul (by omega),←ad];exact hi
   have U:=Ou d (atZ d.s.border (L.1+(k:Int)) d.m.h) (x:=i/C) (c:=i%C) (by rw[hC,Int.toNat_natCast];exact h6) (k:=Wn) h7;rw[hC,Int.toNat_natCast,Nat.mul_comm,Nat.div_add_mod]at U;unfold BD;rw[aw,Int.toNat_natCast];exact U
  have be:∀c,blk sv c→¬blk v c:=λc hc hv=>by
   have:=nv c hv;have:=o4.lt hc;omega
  refine bB (α:=Unit) w 0 (λi _=>[.int .i64 (i:Int)]) (λi _ h'=>Ext h2 h'∧Rp.Sl (Rp.int .i64) (blk v) h' v (BD d (L.1+(k:Int)))∧Own 1 h' sv w ((List.range w).map λj=>Value.int .i64 (IntKind.i64.wrap (if j<i then g (k+1) j else g k j)))) () rfl (Nat.zero_le _)
   ⟨E4.trans e5,Sv,by
    rw[←bH (g:=λi=>Value.int .i64 (IntKind.i64.wrap (g k i))) λi _=>by rw[if_neg (by omega)]];exact o5⟩ λi _ h6 b3 ρ2 _ hi ⟨E6,bg,o6⟩ bo=>?_
  simp only[go_sem];refine aj (λh7=>?_) (λh7=>?_)
  ·have G:i<w:=by omega
   obtain⟨pv,v1,v2⟩:=bg.int_at (k':=.i64) (i:=i) (by omega);have ct:(BD d (L.1+(k:Int)))[i]'(by omega)=(BD d (L.1+(k:Int))).getD i 0:=by simp[List.getD_eq_getElem?_getD,show i<(BD d (L.1+(k:Int))).length by omega]
   rw[ct,a8 i G]at v2;obtain⟨ps,s1,s2,s3⟩:=Own.at_map o6 (k:=.i64) G;simp only[go_sem,v1,v2,s1,s2];rw[if_neg (by omega),vL,zY];have b7:g k i+L.2.getD k 0*nW d.m d.s (d.t.x+((i/C:Nat):Int)) (atZ d.s.border (L.1+(k:Int)) d.m.h) ((i%C:Nat):Int)=g (k+1) i:=by rw[hg];rfl
   rw[b7];refine s3 _ _ λU o8 f8=>?_
   rw[w64 (by omega) (by omega)];refine bo () U G ⟨E6.then_fr f8 λc hc=>n3 c hc,bg.fr f8 λc _ hz hs=>be c hs hz,?_⟩;rw[←bH (g:=λj=>Value.int .i64 (if j=i then IntKind.i64.wrap (g (k+1) i)else IntKind.i64.wrap (if j<i then g (k+1) j else g k j))) λj _=>by
    congr 1
    by_cases h1:j=i
    ·rw[if_pos h1,if_pos (by omega),h1]
    ·rw[if_neg h1];by_cases h2:j<i
     ·rw[if_pos h2,if_pos (by omega)]
     ·rw[if_neg h2,if_neg (by omega)]]
   exact o8
  ·have ax:i=w:=by omega
   subst ax;rw[w64 (by omega) (by omega)];refine a7 () h6 (by omega) ⟨E6,?_⟩;rw[←bH (g:=λj=>Value.int .i64 (IntKind.i64.wrap (if j<i then g (k+1) j else g k j))) λj hj=>by rw[if_pos hj]];exact o6
 have b5:k=L.2.length:=by omega
 subst b5;have J4:=J.ext aa;have a9:Own 1 h4 sv w ((List.range w).map λi=>Value.int .i64 (IntKind.i64.wrap (BA d.m d.s (d.t.x+((i/C:Nat):Int)) y ((i%C:Nat):Int)))):=by
  rw[←bH (g:=λi=>Value.int .i64 (IntKind.i64.wrap (g L.2.length i))) λi _=>by rw[hg];rw[←bv]];exact o4
 have cr:∀c,blk sv c→¬blk vt c:=λc hc hv=>by
  have h6:=n3 c hc;have h7:=J.out.ltv hv;have U:=E2.1;omega
 obtain⟨c9,c8,es⟩:=a9.isSl;have cp:aq sv=some (.int .i64 (w:Int)):=by rw[es];rfl
 simp only[go_sem,Nat.zero_add,J.c1 aa];refine(dC J4.out).mono λr h5 ⟨e,H⟩=>?_
 have H:=H.symm;subst e H;rw[O.c,hC];simp only[go_sem,cp];refine bB (α:=Pic) w 0 (λi _=>[.int .i64 (i:Int)]) (λi n' h'=>dK Z M h' bj bf vf bt vt p q rv d y n' room w rs∧En d n'∧(∀D F c',inP n D F c'→atP n' D F c'=if uN d y i D F c' then ui d.m d.s D F c' else atP n D F c')∧
   Own 1 h' sv w ((List.range w).map λi=>Value.int .i64 (IntKind.i64.wrap (BA d.m d.s (d.t.x+((i/C:Nat):Int)) y ((i%C:Nat):Int))))∧Fr (blk vt) h4 h') n rfl (Nat.zero_le _)
  ⟨J4,O,λD F c' hi=>by
   rw[if_neg];unfold uN inP at*;rintro⟨a1,a2,a3,a4⟩;have:=Int.mul_nonneg (show 0≤D-d.t.x by omega) (show 0≤d.m.c by omega);omega,a9,Fr.refl _ _⟩ λi n' h6 again ρ3 _ hi ⟨A,I,A6,o6,f6⟩ a7=>?_
 simp only[go_sem];refine aj (λh7=>?_) (λh7=>?_)
 ·have G:i<w:=by omega
  obtain⟨ps,s1,s2,_⟩:=Own.at_map o6 (k:=.i64) G;simp only[go_sem,s1,s2];refine aG (λh'=>h'=h6) rfl ?_
  try simp only[go_sem,Nat.zero_add]
  refine ao (ptr bt) (λh' e=>by rw[e];exact A.c1 (Ext.refl _)) ?_;refine ao (.int .i64 d.t.x) (λh' e=>by rw[e];exact A.c6 (Ext.refl _)) ?_;rw[kr _ _ _ _ (by omega),ah,Int.tdiv_eq_ediv_of_nonneg (by omega),show(i:Int)/(C:Int)=((i/C:Nat):Int)by omega];have c0:i/C<Wn:=by rw[Nat.div_lt_iff_lt_mul (by omega),←ad];exact G
  have cw:i%C<C:=Nat.mod_lt _ (by omega);have ee:=Nat.div_add_mod i C;have c3:((i/C:Nat):Int)*(C:Int)+((i%C:Nat):Int)=(i:Int):=by
   rw[←Int.natCast_mul,Nat.mul_comm];omega
  have bk:(i:Int)%(C:Int)=((i%C:Nat):Int):=by omega
  have c2:=A6;generalize ei:i/C=qd at*;generalize dq:i%C=rd at*;simp only[go_sem];rw[w64 (n:=(qd:Int)) (by omega) (by omega),w64 (n:=d.t.x+(qd:Int)) (by omega) (by omega)];refine ao (.int .i64 y) (λh' e=>by rw[e];exact A.c16 (Ext.refl _)) ?_;rw[cV _ _ _ _ (by omega),ah,Int.tmod_eq_emod_of_nonneg (by omega),bk];refine ao (ptr bt) (λh' e=>by rw[e];exact A.c1 (Ext.refl _)) ?_;refine(nG A.out).mono λr U ⟨e,H⟩=>?_
  have H:=H.symm;subst e H;refine⟨rfl,?_⟩;refine(SF (gW _)).mono λr U ⟨e,H⟩=>?_
  have H:=H.symm;subst e H;refine⟨rfl,?_⟩;have c4:=W.m.m1;have ej:=W.m.m2;rw[I.m];have hr:=Lz (IntKind.i64.wrap (BA d.m d.s (d.t.x+(qd:Int)) y (rd:Int))) (most:=d.m.most) (by omega);refine(SD A.out I.wf hr.1 hr.2.1).mono λr U ⟨e,I8,f8,s8⟩=>?_
  subst e;have eg:=W.xw;have ec:=W.yh;have b8:=J.y0;have b0:inP n' (d.t.x+(qd:Int)) y (rd:Int):=⟨by omega,by rw[I.w];omega,by omega,by rw[I.h];omega,by omega,by rw[I.c];omega⟩
  have an:inP n' (d.t.x+(qd:Int)) y (rd:Int)∧pS (IntKind.i64.wrap (BA d.m d.s (d.t.x+(qd:Int)) y (rd:Int))) d.m.most≤n'.most:=⟨b0,by rw[I.m];omega⟩
  rw[if_pos an]at I8
  try simp only[go_sem]
  rw[w64 (by omega) (by omega)];refine a7 _ U G ⟨A.set f8 I8,⟨RY I.wf hr.1 an.2,I.w,I.h,I.c,I.m⟩,λD F c' bc=>?_,o6.fr f8 cr,f6.trans f8⟩;rw[P6 I.wf b0,A6 D F c' bc];by_cases he:D=d.t.x+(qd:Int)∧F=y∧c'=(rd:Int)
  ·rw[if_pos he];obtain⟨rfl,rfl,rfl⟩:=he;rw[if_pos]
   ·rfl
   ·refine⟨rfl,by omega,by omega,?_⟩;rw[hC,show d.t.x+(qd:Int)-d.t.x=(qd:Int)by omega];omega
  ·rw [if_neg he];have ar:uN d y ((i+1:Nat):Int) D F c'↔uN d y (i:Int) D F c':=by
    unfold uN;constructor
    ·rintro⟨a1,a2,a3,a4⟩;refine⟨a1,a2,a3,?_⟩;rcases Int.lt_or_le ((D-d.t.x)*d.m.c+c') i with h9|h9
     ·exact h9
     ·exfalso;have ci:(D-d.t.x)*d.m.c+c'=(qd:Int)*d.m.c+(rd:Int):=by rw[hC]at*;omega
      have cc:=bc.2.2.2.2;have dl:=O.c;obtain⟨b1,b2⟩:=Bz ci cc.1 (by omega) (by omega) (by omega);exact he ⟨by omega,a1,b2⟩
    ·rintro⟨a1,a2,a3,a4⟩;exact⟨a1,a2,a3,by omega⟩
   by_cases al:uN d y (i:Int) D F c'
   ·rw[if_pos al,if_pos (ar.2 al)]
   ·rw[if_neg al,if_neg λhh=>al (ar.1 hh)]
 ·have ax:i=w:=by omega
  subst ax;simp only[go_sem,Nat.zero_add,A.c16 (Ext.refl _)];have b8:=J.y0;rw[w64 (n:=y+1) (by omega) (by omega)];refine bJ A.row (by simp[QV,cS]) rfl λU r8 u8=>?_
  have r8:U[bj]? =some (.cells (QV bf bt p q rv d (y+1)).toArray 171 (0,0)):=r8;have ab:∀c,Z c→¬c=bj:=λc hc=>(A.zz c hc).2.1
  refine⟨n',⟨r8,A.src.fr u8.fr (ab _ A.zf.1) λc hc=>ab _ (A.zf.2 c hc),A.tx.fr u8.fr λc _ hz=>ab c hz,A.ty.fr u8.fr λc _ hz=>ab c hz,A.ring.fr u8.fr λc _ hm he=>A.mj.1 (he▸hm),A.out.fr u8.fr (Ne.symm A.jt.1) λc hc he=>A.jt.2 (he▸hc),A.zf,A.zz,A.mj,A.jt,by omega,by omega,
   λc hc=>by rw[u8.1];exact A.zl c hc⟩,I,A6,?_⟩
  exact((aa.fr (M:=λc=>blk vt c∨c=bj)).trans (f6.mono λc _ hc=>.inl hc)).trans (u8.fr.mono λc _ hc=>.inr hc)
end
end
end Go.Proofs.YtcoimlclclnlkaaGreatDoor
namespace Go.Proofs.YtcoimlclclnlkaaGreatDoor
open Go Go.Crisp
theorem yZ:∀(k:Nat) (l:List Nat),l.Nodup→(∀x∈l,x<k)→l.length≤k
 |0,[],_,_=>by simp
 |0,x::_,_,h=>absurd (h x (by simp)) (by omega)
 | k+1,l,hn,h=>by
  by_cases D:k∈l
  ·have h1:=yZ k (l.erase k) (hn.erase k) λx A=>by
    have F:=h x (List.mem_of_mem_erase A);have G:x≠k:=λe=>by rw[e]at A;exact(List.Nodup.not_mem_erase hn) A
    omega
   rw[List.length_erase_of_mem D]at h1;omega
  ·have:=yZ k l hn λx A=>by
    have F:=h x A;have G:x≠k:=λe=>D (e▸A)
    omega
   omega
theorem nodup_range {l:List Int}{a b:Int}(D:l.Nodup)(h:∀x∈l,a≤x∧x<b):(l.length:Int)≤max 0 (b-a):=by
 have h1:(l.map λx=>(x-a).toNat).Nodup:=by
  rw[List.nodup_iff_pairwise_ne,List.pairwise_map];have H:=(List.nodup_iff_pairwise_ne.1 D)
  refine List.Pairwise.imp_of_mem ?_ H;intro x y A G L U;have:=h x A;have:=h y G;omega
 have I:=yZ (b-a).toNat _ h1 λx A=>by
  obtain⟨z,F,rfl⟩:=List.mem_map.1 A;have:=h z F;omega
 rw[List.length_map]at I;omega
theorem LP {α:Type}(j i:Int)(v:α):∀kv:List (Int×α),eo i (kv++[(j,v)])=match eo i kv with|some u=>some u|none=>if i=j then some v else none
 | []=>by
  simp only[List.nil_append,eo];by_cases h:j=i
  ·subst h;simp
  ·rw[if_neg h,if_neg (Ne.symm h)]
 | (k,u)::kv=>by
  simp only[List.cons_append,eo];by_cases h:k=i
  ·rw[if_pos h,if_pos h]
  ·rw[if_neg h,if_neg h];exact LP j i v kv
theorem ww:∀(l:List Int) (a:Int),l.foldl min a≤a∧∀x∈l,l.foldl min a≤x
 | [],a=>⟨Int.le_refl _,λx A=>absurd A (by simp)⟩
 |y::l,a=>by
  have h:=ww l (min a y);rw[List.foldl_cons];refine⟨by have:=h.1;omega,λx A=>?_⟩;rcases List.mem_cons.1 A with rfl|A
  ·have:=h.1;omega
  ·exact h.2 x A
theorem WP {l:List Int}{x:Int}(h:x∈l):ul l≤x:=by
 cases l with
 |nil=>simp at h
 |cons y l=>
  rcases List.mem_cons.1 h with rfl|h
  ·exact(ww l _).1
  ·exact(ww l y).2 x h
structure Ep (row:Int→List Int)(rs:List (Int×List Int))(F e:Int):Prop where
 nd:(rs.map Prod.fst).Nodup
 inn:∀j,F≤j→j<e→eo j rs=some (row j)
 lt:∀x∈rs.map Prod.fst,x<e
theorem Ep.none {row:Int→List Int}{rs:List (Int×List Int)}{F e:Int}(H:Ep row rs F e){j:Int}(D:e≤j):eo j rs=none:=nD.2 λA=>by have:=H.lt j A;omega
theorem Ep.start (row:Int→List Int)(F:Int):Ep row [] F F:=⟨by simp,λj h1 A=>absurd A (by omega),by simp⟩
theorem Ep.move {row:Int→List Int}{rs:List (Int×List Int)}{F e A:Int}(H:Ep row rs F e)(G:F≤A):Ep row rs A (max e A):=
 ⟨H.nd,λj h1 I=>H.inn j (by omega) (by omega),λx D=>by have:=H.lt x D;omega⟩
theorem Ep.next {row:Int→List Int}{rs:List (Int×List Int)}{F e E n:Int}{A:Bool}(H:Ep row rs F e)(h1:F≤e)(G:e≤E)(D:Ft rs F E n A):(e<E∧A=true∧n=e)∨(e=E∧A=false∧n=0):=by
 rcases D with⟨rfl,a1,a2,a3,a4⟩|⟨rfl,rfl,a4⟩
 ·left;have I:¬n<e:=λh=>by rw[H.inn n a1 h]at a3;cases a3
  have L:¬e<n:=λh=>by have:=a4 e h1 h;rw[H.none (Int.le_refl _)]at this;cases this
  exact⟨by omega,rfl,by omega⟩
 ·right;refine⟨?_,rfl,rfl⟩;rcases Int.lt_or_le e E with h|h
  ·have:=a4 e h1 h;rw[H.none (Int.le_refl _)]at this;cases this
  ·omega
theorem Ep.put {row:Int→List Int}{rs:List (Int×List Int)}{F e E:Int}{room w:Nat}(H:Ep row rs F e)(h1:F≤e)(h2:e<E)(hr:E-F≤room)(an:1≤room)(hl:rs.length≤room)(hw:(row e).length=w):
  Ep row (Oz room w rs e (row e)) F (e+1)∧(Oz room w rs e (row e)).length≤room:=by
 have L:=H.none (Int.le_refl e);have I:(rs.map Prod.fst).length=rs.length:=by simp
 have G:zg room rs=true→ul (rs.map Prod.fst)∈rs.map Prod.fst:=λA=>O9 λh0=>by
  have:rs.length=0:=by rw[←I,h0];rfl
  unfold zg at A;have:=of_decide_eq_true A;omega
 have ab:rT room w rs e (row e)=true:=by
  unfold rT;rw[L,decide_eq_true hw];by_cases A:zg room rs=true
  ·have:=H.lt _ (G A);rw[A,decide_eq_false (show¬e<ul (rs.map Prod.fst)by omega)];rfl
  ·have A:zg room rs=false:=by simpa using A
   rw[A];rfl
 unfold Oz;rw[if_pos ab]
 -- what is left of the rows
 have key:((kD room rs).map Prod.fst).Nodup∧(∀x∈(kD room rs).map Prod.fst,x<e)∧(∀j,F≤j→j<e→eo j (kD room rs)=some (row j))∧(kD room rs).length+1≤room:=by
  unfold kD;by_cases A:zg room rs=true
  ·rw [if_pos A];have hm:=G A;have ar:room≤rs.length:=of_decide_eq_true A;have al:ul (rs.map Prod.fst)<F:=by
    rcases Int.lt_or_le (ul (rs.map Prod.fst)) F with h|h
    ·exact h
    ·have aa:∀x∈rs.map Prod.fst,F≤x∧x<e:=λx U=>by
      have h3:ul (rs.map Prod.fst)≤x:=WP U;have:=H.lt x U;omega
     have:=nodup_range H.nd aa;rw[I]at this;omega
   have D:(mG (ul (rs.map Prod.fst)) rs).Sublist rs:=Jm;have W:∃v,eo (ul (rs.map Prod.fst)) rs=some v:=by
    cases W:eo (ul (rs.map Prod.fst)) rs with
    |none=>exact absurd hm (nD.1 W)
    |some v=>exact⟨v,rfl⟩
   obtain⟨v,W⟩:=W;have au:=D6 W;refine⟨(D.map Prod.fst).nodup H.nd,λx U=>H.lt x ((D.map Prod.fst).subset U),λj j1 j2=>?_,by omega⟩;rw[D5 H.nd,if_neg (by omega)];exact H.inn j j1 j2
  ·rw[if_neg A];have:¬room≤rs.length:=λh=>A (decide_eq_true h)
   exact⟨H.nd,H.lt,H.inn,by omega⟩
 obtain⟨k1,k2,k3,k4⟩:=key;refine⟨⟨?_,λj j1 j2=>?_,λx U=>?_⟩,by simp;omega⟩
 ·rw[List.map_append,List.nodup_append];refine⟨k1,by simp,λa ha b hb he=>?_⟩;have:=k2 a ha;simp at hb;omega
 ·rw[LP];by_cases hj:j<e
  ·rw[k3 j j1 hj]
  ·have ad:j=e:=by omega
   subst ad;have:eo j (kD room rs)=Option.none:=nD.2 λhm=>by have:=k2 j hm;omega
   rw[this];simp
 ·rw[List.map_append]at U;rcases List.mem_append.1 U with h|h
  ·have:=k2 x h;omega
  ·simp at h;omega
theorem Aj {a b c:Int}(h:a≤b)(hc:0<c):a/c≤b/c:=Int.ediv_le_ediv hc h
theorem To {f n m i k:Int}(A:1≤n)(F:1≤m)(h:i≤k):nB f n m i≤nB f n m k:=by
 unfold nB;have h1:i*n≤k*n:=Int.mul_le_mul_of_nonneg_right h (by omega);have D:(2*i+1)*n≤(2*k+1)*n:=Int.mul_le_mul_of_nonneg_right (by omega) (by omega);split
 ·exact Aj h1 (by omega)
 ·have:=Aj (a:=(2*i+1)*n-m-ck f*2*max n m) (b:=(2*k+1)*n-m-ck f*2*max n m) (c:=2*m) (by omega) (by omega);omega
theorem QY {f n m i k:Int}(A:1≤n)(F:1≤m)(h:i≤k):lg f n m i≤lg f n m k:=by
 unfold lg JH;have h1:(i+1)*n≤(k+1)*n:=Int.mul_le_mul_of_nonneg_right (by omega) (by omega);have D:(2*i+1)*n≤(2*k+1)*n:=Int.mul_le_mul_of_nonneg_right (by omega) (by omega);split
 ·have:=Aj (a:= -((k+1)*n)) (b:= -((i+1)*n)) (c:=m) (by omega) (by omega);omega
 ·have:=Aj (a:= -((2*k+1)*n-m+ck f*2*max n m)) (b:= -((2*i+1)*n-m+ck f*2*max n m)) (c:=2*m) (by omega) (by omega);omega
theorem um {g:Nat→Int}:∀{n:Nat},cT g n=0→∀i,i<n→g i=0
 |0,_,i,h=>absurd h (by omega)
 | n+1,hz,i,h=>by
  have e:cT g (n+1)=if cT g n≠0 then cT g n else g n:=rfl
  rw[e]at hz;by_cases h0:cT g n=0
  ·rw[if_neg (by simpa using h0)]at hz;by_cases hi:i=n
   ·rw[hi];exact hz
   ·exact um h0 i (by omega)
  ·rw[if_pos h0]at hz;exact absurd hz h0
abbrev lnF (t:Tbl)(y:Int):Int:=(aW t y).1
abbrev lnE (t:Tbl)(y:Int):Int:=(aW t y).1+((aW t y).2.length:Int)
structure Ap (t:Tbl):Prop where
 f:∀i k:Int,0≤i→i≤k→k<t.lines.length→lnF t i≤lnF t k
 e:∀i k:Int,0≤i→i≤k→k<t.lines.length→lnE t i≤lnE t k
 m:∀i:Int,(((aW t i).2.length:Nat):Int)≤bX t.lines
theorem Pd {n:Int}{N:Nat}{g:Nat→Int×List Int}{i:Int}(h0:0≤i)(h1:i<N):aW ⟨n,(List.range N).map g⟩ i=g i.toNat:=by
 unfold aW;rw[if_pos h0];have:i.toNat<N:=by omega
 simp[List.getD_eq_getElem?_getD,this]
theorem GN:∀(ls:List (Int×List Int)) (a:Int),a≤ls.foldl (λm x=>max m (x.2.length:Int)) a∧∀x∈ls,((x.2.length:Nat):Int)≤ls.foldl (λm x=>max m (x.2.length:Int)) a
 | [],a=>⟨Int.le_refl _,λx A=>absurd A (by simp)⟩
 |y::l,a=>by
  have h:=GN l (max a (y.2.length:Int));rw[List.foldl_cons];refine⟨by have:=h.1;omega,λx A=>?_⟩;rcases List.mem_cons.1 A with rfl|A
  ·have:=h.1;omega
  ·exact h.2 x A
theorem EZ (t:Tbl)(i:Int):(((aW t i).2.length:Nat):Int)≤bX t.lines:=by
 have h:=GN t.lines 0;unfold aW;split
 ·by_cases hi:i.toNat<t.lines.length
  ·have e:t.lines.getD i.toNat (0,[])=t.lines[i.toNat]:=by simp[List.getD_eq_getElem?_getD,hi]
   rw[e];exact h.2 _ (List.getElem_mem hi)
  ·have e:t.lines.getD i.toNat (0,[])=(0,[]):=by simp[List.getD_eq_getElem?_getD,Nat.le_of_not_lt hi]
   rw[e];exact h.1
 ·exact h.1
theorem Cx {l:List Int}(h:cn l=0):(bS l).length=l.length:=by unfold bS;rw[if_pos h,nh]
theorem Ox {f n m:Int}(hc:dx f n m=0):Ap (eS f n m):=by
 have h0:¬(¬(0≤f∧f<3)∨¬aZ n∨¬aZ m):=λh=>by unfold dx at hc;rw[if_pos h]at hc;cases hc
 have W:=hc;unfold dx at W;rw[if_neg h0]at W;have hf:0≤f∧f<3:=Decidable.of_not_not λh=>h0 (.inl h)
 have L:aZ n:=Decidable.of_not_not λh=>h0 (.inr (.inl h))
 have I:aZ m:=Decidable.of_not_not λh=>h0 (.inr (.inr h))
 unfold aZ at L I;have H:(eS f n m).lines.length=m.toNat:=by show(List.map _ (List.range m.toNat)).length=_;rw[List.length_map,List.length_range]
 have D:∀i:Int,0≤i→i<m→aW (eS f n m) i=(dS f n m i,bS (cL f n m i)):=λi A G=>by
  have:=Pd (n:=n) (N:=m.toNat) (g:=λi:Nat=>(dS f n m i,bS (cL f n m i))) A (by omega);rw[show((i.toNat:Nat):Int)=i by omega]at this;exact this
 have F:∀i:Int,0≤i→i<m→sS f n m i:=λi A G=>⟨hf.1,hf.2,L.1,L.2,I.1,I.2,A,G⟩
 have U:∀i:Int,0≤i→i<m→lnF (eS f n m) i=nB f n m i:=λi A G=>by
  unfold lnF;rw[D i A G];show dS f n m i=_;unfold dS;rw[if_pos (F i A G)]
 have hE:∀i:Int,0≤i→i<m→lnE (eS f n m) i=lg f n m i:=λi A G=>by
  have h1:=U i A G;unfold lnF at h1;unfold lnE;rw[h1,D i A G];have h2:=um W i.toNat (by omega);rw[show((i.toNat:Nat):Int)=i by omega]at h2;show nB f n m i+(((bS (cL f n m i)).length:Nat):Int)=_;rw[Cx h2];unfold cL;rw[if_pos (F i A G)];unfold BE;rw[List.length_map,List.length_range];have:=Oe (F i A G);omega
 refine⟨λi k A ik k1=>?_,λi k A ik k1=>?_,EZ _⟩
 ·rw[H]at k1;rw[U i A (by omega),U k (by omega) (by omega)];exact To L.1 I.1 ik
 ·rw[H]at k1;rw[hE i A (by omega),hE k (by omega) (by omega)];exact QY L.1 I.1 ik
theorem Pq (l:List Int)(n:Int):Ap (jP l n):=by
 have D:(jP l n).lines.length=n.toNat:=by show(List.map _ (List.range n.toNat)).length=_;rw[List.length_map,List.length_range]
 have A:∀i:Int,0≤i→i<n.toNat→aW (jP l n) i=(i-(l.length/2:Nat),bS l):=λi F H=>by
  have:=Pd (n:=n) (N:=n.toNat) (g:=λi:Nat=>((i:Int)-(l.length/2:Nat),bS l)) F H;rw[show((i.toNat:Nat):Int)=i by omega]at this;exact this
 refine⟨λi k F I G=>?_,λi k F I G=>?_,EZ _⟩
 ·rw[D]at G;unfold lnF;rw[A i F (by omega),A k (by omega) G];show i-_≤k-_;omega
 ·rw[D]at G;unfold lnE;rw[A i F (by omega),A k (by omega) G];show i-((l.length/2:Nat):Int)+((bS l).length:Int)≤k-((l.length/2:Nat):Int)+((bS l).length:Int);omega
theorem QS {o:OpD}{w h:Int}(hc:dT o w h=0):Ap (bL o w h).y:=by
 have A:iB o w h=0:=by
  unfold dT at hc;split at hc
  ·cases hc
  ·exact hc
 show Ap (fK o h);unfold iB at A;unfold fK;split
 ·rename_i D;rw[if_pos D]at A;by_cases h1:dx o.filter w o.w=0
  ·rw[if_neg (by simpa using h1)]at A;exact Ox A
  ·rw[if_pos h1]at A;exact absurd A h1
 ·exact Pq _ _
end Go.Proofs.YtcoimlclclnlkaaGreatDoor
namespace Go.Crisp
open Go
theorem ae.at {P:Program}{f:FuncId}{args:Array Value}{h:af}{v:Value}{K:Value→af→Prop}(H:ae P f args h λr h'=>r=v∧h'=h)(k:K v h):ae P f args h K:=
 H.mono λr h' ⟨e,w⟩=>by rw[e,w];exact k
theorem ae.to {P:Program}{f:FuncId}{args:Array Value}{h:af}{v:Value}{K:Value→af→Prop}(H:ae P f args h λr h'=>r=v∧Ext h h')(k:∀h',Ext h h'→K v h'):ae P f args h K:=
 H.mono λr h' ⟨e,w⟩=>by rw[e];exact k h' w
theorem Fr.after {M N:Nat→Prop}{a b c:af}(f:Fr M a b)(k:Fr N b c)(n:∀i,i<a.size→N i→M i):Fr M a c:=
 ⟨Nat.le_trans f.1 k.1,λi hi A=>(k.2 i (Nat.lt_of_lt_of_le hi f.1) λx=>A (n i hi x)).trans (f.2 i hi A)⟩
theorem Ext.after {N:Nat→Prop}{a b c:af}(f:Ext a b)(k:Fr N b c):Fr N a c:=(f.fr (M:=N)).after k λ_ _ x=>x
theorem Fr.ext_r {M:Nat→Prop}{a b c:af}(f:Fr M a b)(k:Ext b c):Fr M a c:=f.trans k.fr
theorem Fr.upd_new {M:Nat→Prop}{a b c:af}{x:Nat}(f:Fr M a b)(u:Upd x b c)(n:a.size≤x):Fr M a c:=f.after u.fr λi hi e=>by omega
theorem Rp.push_ow1S {α:Type}{e:Rp α}{Z P:Nat→Prop}{Q:af→Prop}{z z' c:Value}{t L:TypeId}{bytes:Nat}{s:Value}{h:af}{l:List α}{x:α}{K:Value→af→Prop}(F:e.w=1)
  (hs:Rp.Ow e Z h s l) (G:e.R Z h [c] x) (hz:z.cells.size=1) (hb:(l.length+1)*bytes≤140737488355328) (hn:l.length+1≤9223372036854775807) (hZ:∀b,Z b→b<h.size) (hQ:∀h',Ext h h'→Q h')
  (H:∀D h',Rp.Ow e Z h' D (l++[x])→Fr (blk s) h h'→(∀b,blk D b→blk s b∨h.size≤b)→K D h'):cF #[z'] t 1 [(0,1,c)] h λv2 W=>Q W∧cG z L 1 bytes s v2 W K:=by
 refine cH (fill_one (e.one G c (by simp))) λb h1 r1 A n1=>⟨hQ h1 A,?_⟩
 have U:=SlC.single (cs:=[c]) r1;rw[show[c].length=e.w by rw[F];rfl]at U;have ee:cG z L 1 bytes s (.slice (some ⟨b,0,none⟩) 1 1) h1 K=cG z L e.w bytes s (.slice (some ⟨b,0,none⟩) 1 1) h1 K:=by rw[F]
 rw[ee];refine Rp.app_ow (l2:=[x]) (hs.ext A) U (λi hi=>?_) (hz.trans F.symm) (by simpa using hb) (by simpa using hn) (λk I=>Nat.lt_of_lt_of_le (hZ k I) A.1) λD h' o' f' n'=>
  H D h' o' (A.fr.trans f') λk I=>(n' k I).imp id λh2=>Nat.le_trans A.1 h2
 have hi:i=0:=by simpa using hi
 subst hi;rw[Rp.el_self (e.len G)];exact e.ext G A
theorem New.pushS {α:Type}{e:Rp α}{Q:af→Prop}{z z' c:Value}{t t':TypeId}{bytes:Nat}{h h1:af}{v:Value}{l:List α}{x:α}{K:Value→af→Prop}(W:e.w=1)(H:New e h h1 v l)
  (hx:e.R (λ_=>False) h1 [c] x) (I:z.cells.size=1) (D:(l.length+1)*bytes≤140737488355328) (hn:l.length+1≤9223372036854775807) (hQ:∀h',Ext h1 h'→Q h')
  (U:∀A h',New e h h' A (l++[x])→Fr (blk v) h1 h'→(∀b,blk A b→blk v b∨h1.size≤b)→K A h'):cF #[z'] t 1 [(0,1,c)] h1 λL G=>Q G∧cG z t' 1 bytes v L G K:=by
 refine Rp.push_ow1S (P:=λ_=>False) W H.1 hx I D hn (λb D=>D.elim) hQ λA h' o' F n'=>U A h' ⟨o',H.2.1.then_fr F H.2.2,λb D=>?_⟩ F n'
 rcases n' b D with h1|h1
 ·exact H.2.2 b h1
 ·exact Nat.le_trans H.2.1.1 h1
theorem New.fr {α:Type}{e:Rp α}{M:Nat→Prop}{h h1 h':af}{v:Value}{l:List α}(H:New e h h1 v l)(f:Fr M h1 h')(D:∀b,M b→h.size≤b)(q:∀b,blk v b→¬M b):New e h h' v l:=
 ⟨H.1.fr f (λb _ A=>A.elim) q,H.2.1.then_fr f D,H.2.2⟩
theorem eqT (a:Int):(a=a)=True:=eq_true rfl
theorem QB (a:Nat):ag .p .neq (.pointer (some ⟨a,0,none⟩)) (.pointer none)=some (.bool true):=rfl
theorem QC (a:Nat):ag .p .eql (.pointer (some ⟨a,0,none⟩)) (.pointer none)=some (.bool false):=rfl
theorem Yj:ag .p .neq (.pointer none) (.pointer none)=some (.bool false):=rfl
theorem Yk:ag .p .eql (.pointer none) (.pointer none)=some (.bool true):=rfl
end Go.Crisp
