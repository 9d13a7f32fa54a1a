/- Several texts of this session, one behind the other, without what this claim does not need (put together by its program pack.py). Conditions: none. -/
import Derived.Test.YtjljhnandbbldaaGreatDoorMu2
import Derived.MapKept
import Derived.Test.YtjljhnandbbldaaGreatDoorProg
import Derived.Shelf.SlIterI.Sorted
import Derived.Shelf.Slices.Delete
set_option linter.unusedVariables false
set_option linter.unusedSimpArgs false
set_option maxRecDepth 100000
namespace Go.Proofs.YtjljhnandbbldaaGreatDoor
open Go Go.Crisp
attribute [local irreducible] ag di aW stK aF vK qK bK gK fo bA mkK dk Fm GM CJ bsK clK
open _root_.Go.Proofs.Tryz
def uu (m:Pic)(s:Stg)(x row c:Int):Int:=yO (λi=>(bE s.x x).2.getD i 0*atP m (atZ s.border ((bE s.x x).1+i) m.w) row c) (bE s.x x).2.length
def Lf (m:Pic)(s:Stg)(x y c:Int):Int:=yO (λk=>(bE s.y y).2.getD k 0*uu m s x (atZ s.border ((bE s.y y).1+k) m.h) c) (bE s.y y).2.length
def xr (m:Pic)(s:Stg)(x y c:Int):Int:=yT (IntKind.i64.wrap (Lf m s x y c)) m.most
structure Stg.Wf (s:Stg):Prop where
 x:s.x.Wf
 y:s.y.Wf
def nJ (m:Pic)(s:Stg):Prop:=s.x.n=m.w∧s.y.n=m.h∧0≤s.border∧s.border<3
instance (m:Pic)(s:Stg):Decidable (nJ m s):=by unfold nJ;infer_instance
theorem W8 {h:ah}{n most:Int}(D:I64 n):ag prog pC #[af n,af most] h λr h'=>r=.int .u16 (yT n most)∧h'=h:=by
 apply Ks;unfold At;refine(K8 D (by unfold I64;omega)).mono λr h1 ⟨e,A⟩=>?_
 have A:=A.symm;subst e A;simp only[go_sem];refine Xa.mono λr h1 ⟨e,A⟩=>?_
 have A:=A.symm;subst e A;simp only[go_sem];rw[wu16 ae ae];exact⟨rfl,trivial⟩
theorem jk {Z:Nat→Prop}{h:ah}{sv:Value}{s:Stg}(H:pX Z h sv s):∃p q,sv=.agg #[p,q,af s.border]∧fJ Z h p s.x∧fJ Z h q s.y∧(∀v∈[p,q,af s.border],aR v=true):=by
 obtain⟨p,q,e,A,hq⟩:=H;exact⟨p,q,e,A,hq,aq (mE A) (aq (mE hq) (aq rfl aX))⟩
theorem Im {Z:Nat→Prop}{h:ah}{p:Value}{t:Tbl}(H:fJ Z h p t):aj .p .neq p (.pointer none)=some (.bool true)∧aj .p .eql p (.pointer none)=some (.bool false):=by
 obtain⟨_,_,_,A,_⟩:=H;rw[A];exact⟨rfl,rfl⟩
theorem K7 {h:ah}(G:eF h){Z:Nat→Prop}{b:Nat}{v sv:Value}{m:Pic}{s:Stg}(H:dd h b v m)(HS:pX Z h sv s):ag prog jH #[ptr b,sv] h λr h'=>r=.bool (decide (nJ m s))∧Ext h h':=by
 apply Kr;unfold As;obtain⟨p,q,rfl,U,hq,aa⟩:=jk HS;simp only[bP];refine aI λb1 h1 r1 I n1=>?_
 have np:=(Im U).1;have nq:=(Im hq).1;have U:=U.ext I;have hq:=hq.ext I;have H:=H.ext I;have q0:aG h1 ⟨b1,0,none⟩=some p:=am r1;have q1:aG h1 ⟨b1,1,none⟩=some q:=am r1;have W:aG h1 ⟨b1,2,none⟩=some (af s.border):=am r1;simp only[go_sem,aK,q0,q1,W,np,nq];refine(Si U).mono λr L ⟨e,A⟩=>?_
 have A:=A.symm;subst e A;refine(ur H).mono λr L ⟨e,A⟩=>?_
 have A:=A.symm;subst e A;simp only[go_sem];by_cases h1':s.x.n=m.w
 ·simp only[go_sem,h1',q1,W];refine(Si hq).mono λr L ⟨e,A⟩=>?_
  have A:=A.symm;subst e A;refine(sh H).mono λr L ⟨e,A⟩=>?_
  have A:=A.symm;subst e A;simp only[go_sem];by_cases F:s.y.n=m.h
  ·simp only[go_sem,F,W];refine(Ic (G.ext I)).mono λr L ⟨e,A⟩=>?_
   have A:=A.symm;subst e A
   try rw[Xg,NK]
   simp only[go_sem];refine⟨?_,I⟩
   congr 1
   have hb:=Uj s.border;by_cases D:NN s.border=[]
   ·rw[cG (by simpa using D),cG];unfold nJ;have:=hb.1 D;rintro⟨_,_,a,b⟩;exact this ⟨a,b⟩
   ·rw[da (by simpa using D),da];have:=cf λhh=>D (hb.2 hh)
    exact⟨h1',F,this.1,this.2⟩
  ·simp only[go_sem,F];refine⟨?_,I⟩;rw[cG];rintro⟨_,a,_⟩;exact F a
 ·simp only[go_sem,h1'];refine⟨?_,I⟩;rw[cG];rintro⟨a,_⟩;exact h1' a
abbrev LV:Type:=Option (Nat×Option Bool)
abbrev VK:Array Value:=#[.int .i64 0,.slice none 0 0]
def GT (h:ah)(Lx Ly:Int×List Int)(ux uy:Option Value)(b:Nat):Option Bool→Prop
 |none=>h[b]? =some (.cells VK 189 (0,0))
 |some true=>∃u,ux=some u∧Two h b 189 (.int .i64 Lx.1) u
 |some false=>∃u,uy=some u∧Two h b 189 (.int .i64 Ly.1) u
theorem GT.row {h:ah}{G D:Int×List Int}{A F:Option Value}{b:Nat}:∀{s:Option Bool},GT h G D A F b s→b<h.size
 |none,H=>bC H
 |some true,⟨u,_,r⟩=>bC r
 |some false,⟨u,_,r⟩=>bC r
theorem GT.up {h h':ah}{L G:Int×List Int}{F I D A:Option Value}{b:Nat}(e:h'[b]? =h[b]?)(U:∀u,F=some u→D=some u)(W:∀u,I=some u→A=some u):∀{s:Option Bool},GT h L G F I b s→GT h' L G D A b s
 |none,H=>by show h'[b]? =_;rw[e];exact H
 |some true,⟨u,hu,r⟩=>⟨u,U u hu,by show h'[b]? =_;rw[e];exact r⟩
 |some false,⟨u,hu,r⟩=>⟨u,W u hu,by show h'[b]? =_;rw[e];exact r⟩
def apart (v1 v2:LV)(c:Nat):Prop:=(∀p,v1=some p→p.1≠c)∧(∀p,v2=some p→p.1≠c)
structure fR (h0:ah)(Lx Ly:Int×List Int)(ux uy:Option Value)(v1 v2:LV)(h:ah):Prop where
 ext:Ext h0 h
 lx:∀u,ux=some u→SlI (apart v1 v2) h u Lx.2
 ly:∀u,uy=some u→SlI (apart v1 v2) h u Ly.2
 at1:∀p,v1=some p→h0.size≤p.1∧GT h Lx Ly ux uy p.1 p.2
 at2:∀p,v2=some p→h0.size≤p.1∧GT h Lx Ly ux uy p.1 p.2
 dis:∀p q,v1=some p→v2=some q→p.1≠q.1
theorem fR.start (h:ah)(A D:Int×List Int):fR h A D none none none none h:=⟨Ext.refl _,by simp,by simp,by simp,by simp,by simp⟩
theorem fR.line_x {h0 h:ah}{D:Option Value}{U I:LV}{F:Int×List Int}{Z:Nat→Prop}{p:Value}{t:Tbl}{x:Int}{K:Value→ah→Prop}(M:fR h0 (bE t x) F none D U I h)(T:fJ Z h0 p t)(W:t.Wf)
  (H:∀u h',fR h0 (bE t x) F (some u) D U I h'→K (.agg #[af (bE t x).1,u]) h'):ag prog bF #[p,af x] h K:=by
 refine(Cf (T.ext M.ext) W (i:=x)).mono λr h' ⟨u,e,S,E⟩=>?_
 subst e;have L:∀(v:LV),(∀p,v=some p→h0.size≤p.1∧GT h (bE t x) F none D p.1 p.2)→∀p,v=some p→h0.size≤p.1∧GT h' (bE t x) F (some u) D p.1 p.2:=λv a p A=>
  ⟨(a p A).1,(a p A).2.up (E.2 _ (a p A).2.row) (by simp) λ_=>id⟩
 refine H u h' ⟨M.ext.trans E,λw G=>?_,λw G=>(M.ly w G).ext E,L _ M.at1,L _ M.at2,M.dis⟩;cases G;refine S.mono λc _ hz=>⟨λp A he=>?_,λp A he=>?_⟩
 ·have:=(M.at1 p A).2.row;omega
 ·have:=(M.at2 p A).2.row;omega
theorem fR.line_y {h0 h:ah}{D:Option Value}{U I:LV}{F:Int×List Int}{Z:Nat→Prop}{p:Value}{t:Tbl}{x:Int}{K:Value→ah→Prop}(M:fR h0 F (bE t x) D none U I h)(T:fJ Z h0 p t)(W:t.Wf)
  (H:∀u h',fR h0 F (bE t x) D (some u) U I h'→K (.agg #[af (bE t x).1,u]) h'):ag prog bF #[p,af x] h K:=by
 refine(Cf (T.ext M.ext) W (i:=x)).mono λr h' ⟨u,e,S,E⟩=>?_
 subst e;have L:∀(v:LV),(∀p,v=some p→h0.size≤p.1∧GT h F (bE t x) D none p.1 p.2)→∀p,v=some p→h0.size≤p.1∧GT h' F (bE t x) D (some u) p.1 p.2:=λv a p A=>
  ⟨(a p A).1,(a p A).2.up (E.2 _ (a p A).2.row) (λ_=>id) (by simp)⟩
 refine H u h' ⟨M.ext.trans E,λw G=>(M.lx w G).ext E,λw G=>?_,L _ M.at1,L _ M.at2,M.dis⟩;cases G;refine S.mono λc _ hz=>⟨λp A he=>?_,λp A he=>?_⟩
 ·have:=(M.at1 p A).2.row;omega
 ·have:=(M.at2 p A).2.row;omega
theorem fR.new_1 {h0 h:ah}{I G:Int×List Int}{D F:Option Value}{K:Value→ah→Prop}(M:fR h0 I G D F none none h)
  (H:∀b h',fR h0 I G D F (some (b,none)) none h'→K (ptr b) h'):aW VK 189 h K:=by
 refine aI λb h' r e n=>H b h' ⟨M.ext.trans e,λu hu=>?_,λu hu=>?_,λp A=>?_,by simp,by simp⟩
 ·exact((M.lx u hu).mono (Z':=apart (some (b,none)) none) λc hc _=>⟨λp A=>by cases A;show b≠c;omega,by simp⟩).ext e
 ·exact((M.ly u hu).mono (Z':=apart (some (b,none)) none) λc hc _=>⟨λp A=>by cases A;show b≠c;omega,by simp⟩).ext e
 ·cases A;exact⟨aZ M.ext.1 n,r⟩
theorem fR.new_2 {h0 h:ah}{L I:Int×List Int}{F G:Option Value}{a:Nat}{K:Value→ah→Prop}(M:fR h0 L I F G (some (a,none)) none h)
  (H:∀b h',fR h0 L I F G (some (a,none)) (some (b,none)) h'→K (ptr b) h'):aW VK 189 h K:=by
 have a1:=M.at1 _ rfl;have U:a<h.size:=a1.2.row;refine aI λb h' r e n=>H b h' ⟨M.ext.trans e,λu hu=>?_,λu hu=>?_,λp A=>?_,λp A=>?_,λp q A hq=>?_⟩
 ·exact((M.lx u hu).mono (Z':=apart (some (a,none)) (some (b,none))) λc hc D=>⟨D.1,λp A=>by cases A;show b≠c;omega⟩).ext e
 ·exact((M.ly u hu).mono (Z':=apart (some (a,none)) (some (b,none))) λc hc D=>⟨D.1,λp A=>by cases A;show b≠c;omega⟩).ext e
 ·cases A;exact⟨a1.1,a1.2.up (e.2 _ U) (λ_=>id) λ_=>id⟩
 ·cases A;exact⟨aZ M.ext.1 n,r⟩
 ·cases A;cases hq;show a≠b;omega
theorem fR.st {h0 h:ah}{Lx W:Int×List Int}{L U:Option Value}{v1 v2 F D:LV}{b:Nat}{f:Bool}{l:List Value}{K:Value→ah→Prop}(M:fR h0 Lx W L U v1 v2 h)(hr:h[b]? =some (.cells VK 189 (0,0)))(hn:h0.size≤b)
  (hl:l.length=2) (ho:∀v∈l,aR v=true) (hf:∀h',h'[b]? =some (.cells l.toArray 189 (0,0))→GT h' Lx W L U b (some f))
  (h1:(v1=some (b,none)∧F=some (b,some f)∧D=v2∧∀q,v2=some q→q.1≠b)∨(v2=some (b,none)∧D=some (b,some f)∧F=v1∧∀q,v1=some q→q.1≠b))
  (H:∀h',fR h0 Lx W L U F D h'→K undef h'):stK 2 (ptr b) (.agg l.toArray) h K:=by
 refine cT hr (by rw[hl];rfl) ho hl λh' r u=>H h' ?_
 have E:=M.ext.upd hn u;have G:∀{v:LV},(∀p,v=some p→h0.size≤p.1∧GT h Lx W L U p.1 p.2)→(∀q,v=some q→q.1≠b)→∀p,v=some p→h0.size≤p.1∧GT h' Lx W L U p.1 p.2:=λa d p A=>⟨(a p A).1,(a p A).2.up (u.2 _ (d p A)) (λ_=>id) λ_=>id⟩
 rcases h1 with⟨rfl,rfl,rfl,d⟩|⟨rfl,rfl,rfl,d⟩
 ·have za:∀c,apart (some (b,none)) D c→¬c=b:=λc hc he=>hc.1 _ rfl he.symm
  have zb:∀c,apart (some (b,none)) D c→apart (some (b,some f)) D c:=λc hc=>⟨λp A=>by cases A;exact hc.1 (b,none) rfl,hc.2⟩
  refine⟨E,λw I=>((M.lx w I).fr u.fr λc _=>za c).mono λc _=>zb c,λw I=>((M.ly w I).fr u.fr λc _=>za c).mono λc _=>zb c,λp A=>?_,G M.at2 d,λp q A hq=>?_⟩
  ·cases A;exact⟨hn,hf h' r⟩
  ·cases A;exact λhe=>d q hq he.symm
 ·have za:∀c,apart F (some (b,none)) c→¬c=b:=λc hc he=>hc.2 _ rfl he.symm
  have zb:∀c,apart F (some (b,none)) c→apart F (some (b,some f)) c:=λc hc=>⟨hc.1,λp A=>by cases A;exact hc.2 (b,none) rfl⟩
  refine⟨E,λw I=>((M.lx w I).fr u.fr λc _=>za c).mono λc _=>zb c,λw I=>((M.ly w I).fr u.fr λc _=>za c).mono λc _=>zb c,G M.at1 d,λp A=>?_,λp q A hq=>?_⟩
  ·cases A;exact⟨hn,hf h' r⟩
  ·cases hq;exact d p A
theorem fR.st1x {h0 h:ah}{A D:Int×List Int}{u:Value}{F:Option Value}{G:LV}{b:Nat}{K:Value→ah→Prop}(M:fR h0 A D (some u) F (some (b,none)) G h)
  (H:∀h',fR h0 A D (some u) F (some (b,some true)) G h'→K undef h'):stK 2 (ptr b) (.agg #[af A.1,u]) h K:=
 M.st (f:=true) (l:=[af A.1,u]) (M.at1 _ rfl).2 (M.at1 _ rfl).1 rfl (aq rfl (aq (M.lx u rfl).one aX)) (λh' r=>⟨u,rfl,r⟩) (.inl ⟨rfl,rfl,rfl,λq hq I=>M.dis _ _ rfl hq I.symm⟩) H
theorem fR.st2x {h0 h:ah}{A D:Int×List Int}{u:Value}{G:Option Value}{F:LV}{b:Nat}{K:Value→ah→Prop}(M:fR h0 A D (some u) G F (some (b,none)) h)
  (H:∀h',fR h0 A D (some u) G F (some (b,some true)) h'→K undef h'):stK 2 (ptr b) (.agg #[af A.1,u]) h K:=
 M.st (f:=true) (l:=[af A.1,u]) (M.at2 _ rfl).2 (M.at2 _ rfl).1 rfl (aq rfl (aq (M.lx u rfl).one aX)) (λh' r=>⟨u,rfl,r⟩) (.inr ⟨rfl,rfl,rfl,λq hq=>M.dis _ _ hq rfl⟩) H
theorem fR.st1y {h0 h:ah}{F A:Int×List Int}{u:Value}{D:Option Value}{G:LV}{b:Nat}{K:Value→ah→Prop}(M:fR h0 F A D (some u) (some (b,none)) G h)
  (H:∀h',fR h0 F A D (some u) (some (b,some false)) G h'→K undef h'):stK 2 (ptr b) (.agg #[af A.1,u]) h K:=
 M.st (f:=false) (l:=[af A.1,u]) (M.at1 _ rfl).2 (M.at1 _ rfl).1 rfl (aq rfl (aq (M.ly u rfl).one aX)) (λh' r=>⟨u,rfl,r⟩) (.inl ⟨rfl,rfl,rfl,λq hq I=>M.dis _ _ rfl hq I.symm⟩) H
theorem fR.st2y {h0 h:ah}{G A:Int×List Int}{u:Value}{D:Option Value}{F:LV}{b:Nat}{K:Value→ah→Prop}(M:fR h0 G A D (some u) F (some (b,none)) h)
  (H:∀h',fR h0 G A D (some u) F (some (b,some false)) h'→K undef h'):stK 2 (ptr b) (.agg #[af A.1,u]) h K:=
 M.st (f:=false) (l:=[af A.1,u]) (M.at2 _ rfl).2 (M.at2 _ rfl).1 rfl (aq rfl (aq (M.ly u rfl).one aX)) (λh' r=>⟨u,rfl,r⟩) (.inr ⟨rfl,rfl,rfl,λq hq=>M.dis _ _ hq rfl⟩) H
def zde (h0:ah)(Lx Ly:Int×List Int)(xs:List Value)(h:ah):Prop:=∃a b u w,xs=[ptr a,ptr b]∧Ext h0 h∧Two h a 189 (.int .i64 Lx.1) u∧Two h b 189 (.int .i64 Ly.1) w∧SlI (λ_=>True) h u Lx.2∧SlI (λ_=>True) h w Ly.2
theorem fR.fin {h0 h:ah}{D A:Int×List Int}{u w:Value}{a b:Nat}(M:fR h0 D A (some u) (some w) (some (a,some true)) (some (b,some false)) h):zde h0 D A [ptr a,ptr b] h:=by
 obtain⟨_,H,G,r1⟩:=M.at1 _ rfl;obtain⟨_,w',F,r2⟩:=M.at2 _ rfl;cases G;cases F;exact⟨a,b,u,w,rfl,M.ext,r1,r2,(M.lx u rfl).mono λ_ _ _=>trivial,(M.ly w rfl).mono λ_ _ _=>trivial⟩
theorem fR.fin2 {h0 h:ah}{D A:Int×List Int}{u w:Value}{a b:Nat}(M:fR h0 D A (some u) (some w) (some (b,some false)) (some (a,some true)) h):zde h0 D A [ptr a,ptr b] h:=by
 obtain⟨_,w',F,r2⟩:=M.at1 _ rfl;obtain⟨_,H,G,r1⟩:=M.at2 _ rfl;cases G;cases F;exact⟨a,b,u,w,rfl,M.ext,r1,r2,(M.lx u rfl).mono λ_ _ _=>trivial,(M.ly w rfl).mono λ_ _ _=>trivial⟩
theorem qP {t:Tbl}(W:t.Wf)(i:Int):(bE t i).2.length≤1048576∧ -70368744177664≤(bE t i).1∧(bE t i).1≤70368744177664:=by
 unfold bE;split
 ·by_cases h:i.toNat<t.lines.length
  ·have e:t.lines.getD i.toNat (0,[])=t.lines[i.toNat]:=by simp[dS,h]
   rw[e];exact W.taps _ (cO h)
  ·have e:t.lines.getD i.toNat (0,[])=(0,[]):=by simp[dS,Hh h]
   rw[e];simp
 ·simp
theorem zam {m:Pic}(W:m.Wf)(x y c:Int):0≤atP m x y c∧atP m x y c≤m.most:=by
 have:=W.m1;unfold atP;split
 ·rename_i h;by_cases hi:(pD m x y c).toNat<m.l.length
  ·have e:m.l.getD (pD m x y c).toNat 0=m.l[(pD m x y c).toNat]:=by simp[dS,hi]
   rw[e];exact W.smp _ (cO hi)
  ·have e:m.l.getD (pD m x y c).toNat 0=0:=by simp[dS,Hh hi]
   rw[e];omega
 ·omega
theorem c_Sum {h:ah}(G:eF h){Z:Nat→Prop}{b:Nat}{v sv:Value}{m:Pic}{s:Stg}(H:dd h b v m)(W:m.Wf)(HS:pX Z h sv s)(WS:s.Wf)(hs:nJ m s){x y c:Int}(hc:0≤c∧c<m.c):
  ag prog z8 #[ptr b,sv,af x,af y,af c] h λr h'=>r=af (IntKind.i64.wrap (Lf m s x y c))∧Ext h h':=by
 apply OQ;unfold Ea;obtain⟨p,q,rfl,hp,hq,a7⟩:=jk HS;simp only[bP];refine aI λb1 h1 r1 e1 n1=>?_
 rw[aU (l:=[p,q,af s.border]) r1 3 rfl,ak];refine(K7 (G.ext e1) (H.ext e1) (HS.ext e1)).mono λr h2 ⟨e,e2⟩=>?_
 subst e;rw[da hs];have ax:(c<0)=False:=fN ae;simp only[go_sem,ax];have H2:=H.ext (e1.trans e2);refine(eU H2).mono λr h3 ⟨e,F⟩=>?_
 have F:=F.symm;subst e F;simp only[go_sem];rw[cG ae,cR];have r2:=e2.row r1;have p2:=hp.ext (e1.trans e2);have q2:=hq.ext (e1.trans e2);refine bB (zde h2 (bE s.x x) (bE s.y y)) ?_ ?_
 ·try simp only[go_sem,aK]
  refine aQ (Ext h2) (Ext.refl _) ?_;refine aC p (λh' e=>am (e.row r2)) ?_;refine aC q (λh' e=>am (e.row r2)) ?_;have M0:=fR.start h2 (bE s.x x) (bE s.y y);have wx:=WS.x;have wy:=WS.y
  repeat' first
   |exact fR.fin ‹fR _ _ _ _ _ _ _ _›
   |exact fR.fin2 ‹fR _ _ _ _ _ _ _ _›
   |exact fR.ext ‹fR _ _ _ _ _ _ _ _›
   |refine And.intro ?_ ?_
   |refine fR.line_x ‹fR _ _ _ _ _ _ _ _› p2 wx λu' h' M=>?_
   |refine fR.line_y ‹fR _ _ _ _ _ _ _ _› q2 wy λu' h' M=>?_
   |refine fR.new_1 ‹fR _ _ _ _ _ _ _ _› λb' h' M=>?_
   |refine fR.new_2 ‹fR _ _ _ _ _ _ _ _› λb' h' M=>?_
   |refine fR.st1x ‹fR _ _ _ _ _ _ _ _› λh' M=>?_
   |refine fR.st2x ‹fR _ _ _ _ _ _ _ _› λh' M=>?_
   |refine fR.st1y ‹fR _ _ _ _ _ _ _ _› λh' M=>?_
   |refine fR.st2y ‹fR _ _ _ _ _ _ _ _› λh' M=>?_
 rintro xs ρj h3 ⟨a,d,u,w,rfl,e3,ra,rd,Su,Sw⟩;have bx:=qP WS.x x;have a8:=qP WS.y y;unfold Lf;unfold uu;generalize bE s.x x=D at*;generalize bE s.y y=L at*;have hf:=du W.fits;have c1:aG h3 ⟨d,1,none⟩=some w:=am rd;obtain⟨aw,cw,ew⟩:=Sw.isSl;have ay:aD w=some (af (L.2.length:Int)):=by rw[ew];rfl
 obtain⟨au,cu,eu⟩:=Su.isSl;have an:aD u=some (af (D.2.length:Int)):=by rw[eu];rfl
 simp only[go_sem,aK,c1,ay];refine lF (λk=>[af (IntKind.i64.wrap (yO (λk=>L.2.getD k 0*yO (λi=>D.2.getD i 0*atP m (atZ s.border (D.1+i) m.w) (atZ s.border (L.1+k) m.h) c) D.2.length) k)),af (k:Int)]) L.2.length 0 rfl (b9 _) λk again ρk _ hk U=>?_
 simp only[go_sem];refine ao (λh4=>?_) (λh4=>?_)
 ·have ab:k<L.2.length:=ae;have U:=U ab;obtain⟨pk,k1,k2⟩:=Sw.int_at (k':=.i64) ab;have eb:L.2.getD k 0=L.2[k]:=by simp[dS,ab]
  rw[k1,ak,k2,ak,←eb];have rs:=e3.row r2;refine aQ (λh'=>h'=h3) rfl ?_;simp only[go_sem,aK];refine aC (af s.border) (λh' e=>by rw[e];exact am rs) ?_;refine aC (af L.1) (λh' e=>by rw[e];exact am rd) ?_;simp only[go_sem];rw[w64 (n:=L.1+(k:Int)) ae ae];have H3:=H2.ext e3;refine(sh H3).mono λr h5 ⟨e,F⟩=>?_
  have F:=F.symm;subst e F;refine⟨rfl,?_⟩;refine(vI (by unfold I64;omega)).mono λr h5 ⟨e,F⟩=>?_
  have F:=F.symm;subst e F;have c2:aG h3 ⟨a,1,none⟩=some u:=am ra;simp only[go_sem,aK,c2,an];generalize ad:atZ s.border (L.1+(k:Int)) m.h=row at*;generalize hA:yO (λk=>L.2.getD k 0*yO (λi=>D.2.getD i 0*atP m (atZ s.border (D.1+i) m.w) (atZ s.border (L.1+k) m.h) c) D.2.length) k=A at*;have ar:yO (λk=>L.2.getD k 0*yO (λi=>D.2.getD i 0*atP m (atZ s.border (D.1+i) m.w) (atZ s.border (L.1+k) m.h) c) D.2.length) (k+1)=A+L.2.getD k 0*yO (λi=>D.2.getD i 0*atP m (atZ s.border (D.1+i) m.w) row c) D.2.length:=by
   simp only[yO];rw[hA,ad]
  rw[ar]at U;generalize L.2.getD k 0=bk at*;refine lF (λi=>[af (IntKind.i64.wrap (A+bk*yO (λi=>D.2.getD i 0*atP m (atZ s.border (D.1+i) m.w) row c) i)),af (i:Int)]) D.2.length 0 (by simp[yO]) (b9 _) λi al ρi _ hi I=>?_
  simp only[go_sem];refine ao (λh5=>?_) (λh5=>?_)
  ·have aa:i<D.2.length:=ae;have I:=I aa;obtain⟨pi,i1,i2⟩:=Su.int_at (k':=.i64) aa;have ea:D.2.getD i 0=D.2[i]:=by simp[dS,aa]
   rw[i1,ak,i2,ak,←ea];refine aQ (λh'=>h'=h3) rfl ?_;simp only[go_sem,aK];refine aC (af s.border) (λh' e=>by rw[e];exact am rs) ?_;refine aC (af D.1) (λh' e=>by rw[e];exact am ra) ?_;simp only[go_sem];rw[w64 (n:=D.1+(i:Int)) ae ae];refine(ur H3).mono λr h5 ⟨e,F⟩=>?_
   have F:=F.symm;subst e F;refine⟨rfl,?_⟩;refine(vI (by unfold I64;omega)).mono λr h5 ⟨e,F⟩=>?_
   have F:=F.symm;subst e F
   try simp only[go_sem]
   refine(zbR H3 W).mono λr h5 ⟨e,F⟩=>?_
   have F:=F.symm;subst e F;have hv:=zam W (atZ s.border (D.1+(i:Int)) m.w) row c;have hm:=W.m2;simp only[go_sem];rw[w64 (n:=atP m (atZ s.border (D.1+(i:Int)) m.w) row c) ae ae,Us,w64 (n:=(i:Int)+1) ae ae];simp only[yO,GZ]at I;rw[←Int.add_assoc]at I;exact I
  ·have:i=D.2.length:=ae;subst this;rw[w64 (n:=(k:Int)+1) ae ae];exact U
 ·have:k=L.2.length:=ae;subst this;exact⟨rfl,e1.trans (e2.trans e3)⟩
theorem Es {A B C c d:Int}(h:A*C+c=B*C+d)(G:0≤c)(F:c<C)(d0:0≤d)(d1:d<C):A=B∧c=d:=by
 have D:(c+A*C)/C=A:=by rw[Rn _ _ ae,qR G F];omega
 have H:(d+B*C)/C=B:=by rw[Rn _ _ ae,qR d0 d1];omega
 have I:c+A*C=d+B*C:=ae;rw[I,H]at D;refine⟨D.symm,?_⟩;subst D;omega
theorem zaP {m:Pic}{x y c F A c':Int}(h:inP m x y c)(h':inP m F A c')(e:pD m x y c=pD m F A c'):x=F∧y=A∧c=c':=by
 obtain⟨x0,W,y0,y1,c0,c1⟩:=h;obtain⟨I,D,ab,aa,G,H⟩:=h';unfold pD at e;obtain⟨e1,e2⟩:=Es e c0 c1 G H;obtain⟨U,L⟩:=Es e1 x0 W I D;exact⟨L,U,e2⟩
theorem Uk {m:Pic}(W:m.Wf){x y c n D A c':Int}(h:inP m x y c):atP (SI m x y c n) D A c'=if D=x∧A=y∧c'=c then n else atP m D A c':=by
 have L:=LP W h;by_cases hi:inP m D A c'
 ·have I:=LP W hi;have F:inP (SI m x y c n) D A c':=hi;unfold atP;rw[aA F,aA hi];show(m.l.set (pD m x y c).toNat n).getD (pD m D A c').toNat 0=_;by_cases G:D=x∧A=y∧c'=c
  ·rw[aA G];obtain⟨rfl,rfl,rfl⟩:=G;have:(pD m D A c').toNat<m.l.length:=ae;simp[dS,this]
  ·rw[az G];have H:(pD m x y c).toNat≠(pD m D A c').toNat:=λhh=>G (by
    obtain⟨a,b,d⟩:=zaP hi h ae;exact⟨a,b,d⟩)
   simp[dS,List.getElem?_set_ne H]
 ·have F:¬inP (SI m x y c n) D A c':=hi;have G:¬(D=x∧A=y∧c'=c):=by rintro⟨rfl,rfl,rfl⟩;exact hi h
  unfold atP;rw[az F,az hi,az G]
def ahead (x y c x' y' c':Int):Prop:=y'<y∨(y'=y∧(x'<x∨(x'=x∧c'<c)))
structure Up (h0 h:ah)(b:Nat)(v:Value)(n:Pic)(w hh c most:Int):Prop where
 img:dd h b v n
 wf:n.Wf
 pw:n.w=w
 ph:n.h=hh
 pc:n.c=c
 pm:n.most=most
 ext:Ext h0 h
 nb:h0.size≤b
 nv:∀c,blk v c→h0.size≤c
theorem Up.before {h1 h0 h:ah}{b:Nat}{v:Value}{n:Pic}{w hh c most:Int}(M:Up h0 h b v n w hh c most)(e:Ext h1 h0):Up h1 h b v n w hh c most:=
 ⟨M.img,M.wf,M.pw,M.ph,M.pc,M.pm,e.trans M.ext,aZ e.1 M.nb,λc hc=>aZ e.1 (M.nv c hc)⟩
theorem zbS {h:ah}(G:eF h){Z:Nat→Prop}{b:Nat}{v sv:Value}{m:Pic}{s:Stg}(H:dd h b v m)(W:m.Wf)(HS:pX Z h sv s)(WS:s.Wf)(hs:nJ m s)(aa:jA s.x.lines.length s.y.lines.length m.c):
  ag prog vV #[ptr b,sv] h λr h'=>∃b' v' n,r=.tuple #[ptr b',ai]∧Up h h' b' v' n s.x.lines.length s.y.lines.length m.c m.most∧∀x y c,inP n x y c→atP n x y c=xr m s x y c:=by
 apply Kt;unfold Au;obtain⟨p,q,rfl,hp,hq,bd⟩:=jk HS;simp only[bP];refine aI λb1 h1 r1 e1 n1=>?_
 rw[aU (l:=[p,q,af s.border]) r1 3 rfl,ak];refine(K7 (G.ext e1) (H.ext e1) (HS.ext e1)).mono λr h2 ⟨e,e2⟩=>?_
 subst e;rw[da hs];simp only[go_sem,aK];have U:=e1.trans e2;have r2:=e2.row r1;refine aQ (Ext h2) (Ext.refl _) ?_;refine aC p (λh' e=>am (e.row r2)) ?_;refine aC q (λh' e=>am (e.row r2)) ?_;refine(Dv (hp.ext U)).mono λr h3 ⟨e,A⟩=>?_
 have A:=A.symm;subst e A;refine⟨Ext.refl _,?_⟩;refine(Dv (hq.ext U)).mono λr h3 ⟨e,A⟩=>?_
 have A:=A.symm;subst e A;refine(eU (H.ext U)).mono λr h3 ⟨e,A⟩=>?_
 have A:=A.symm;subst e A;refine(uH (H.ext U)).mono λr h3 ⟨e,A⟩=>?_
 have A:=A.symm;subst e A;have ad:BT s.x.lines.length s.y.lines.length m.c m.most=0:=yz.2 ⟨aa,W.m1,W.m2⟩;refine yA.mono λr h3 ⟨pp,e,e3,_,s3⟩=>?_
 subst e;obtain⟨nb,nv,rfl,I,a8,a9,_⟩:=s3 ad;have hz:((0:Int)=0)=True:=jx rfl;rw[ad];simp only[go_sem,hz];refine(sh I).mono λr h4 ⟨e,A⟩=>?_
 have A:=A.symm;subst e A;have bk:=W.m1;have bg:=W.m2;have M0:Up h2 h3 nb nv (uq s.x.lines.length s.y.lines.length m.c m.most) s.x.lines.length s.y.lines.length m.c m.most:=⟨I,C7 ad,rfl,rfl,rfl,rfl,e3,a8,a9⟩
 obtain⟨X,hX⟩:∃X,X=s.x.lines.length:=⟨_,rfl⟩
 obtain⟨Y,hY⟩:∃Y,Y=s.y.lines.length:=⟨_,rfl⟩
 rw[←hX,←hY]at M0 aa ⊢;have hf:=du aa;obtain⟨C,hC⟩:∃C:Nat,m.c=(C:Int):=⟨m.c.toNat,ae⟩
 rw[show(uq (X:Int) (Y:Int) m.c m.most).h=(Y:Int)from rfl]
 -- what holds at a place of the walk
 refine bI (α:=Pic) Y 0 (λy _=>[af (y:Int)]) (λy n h'=>Up h2 h' nb nv n X Y m.c m.most∧∀L F c',inP n L F c'→ahead 0 y 0 L F c'→atP n L F c'=xr m s L F c') _ rfl (b9 _)
  ⟨M0,λL F c' hi ha=>by unfold ahead inP at*;omega⟩ λy n h4 again ρ1 _ hy ⟨M,D⟩ bc=>?_
 simp only[go_sem];refine ao (λh5=>?_) (λh5=>?_)
 ·refine(ur M.img).mono λr h5 ⟨e,A⟩=>?_
  have A:=A.symm;subst e A;rw[M.pw];refine bI (α:=Pic) X 0 (λx _=>[af (x:Int)]) (λx n h'=>Up h2 h' nb nv n X Y m.c m.most∧∀L F c',inP n L F c'→ahead x y 0 L F c'→atP n L F c'=xr m s L F c') n rfl (b9 _)
   ⟨M,D⟩ λx n h5 ay ρ2 _ hx ⟨M,D⟩ al=>?_
  simp only[go_sem];refine ao (λh6=>?_) (λh6=>?_)
  ·refine(eU M.img).mono λr h6 ⟨e,A⟩=>?_
   have A:=A.symm;subst e A;rw[M.pc,hC];refine bI (α:=Pic) C 0 (λc _=>[af (c:Int)]) (λc n h'=>Up h2 h' nb nv n X Y m.c m.most∧∀L F c',inP n L F c'→ahead x y c L F c'→atP n L F c'=xr m s L F c') n rfl (b9 _)
    ⟨M,D⟩ λc n h6 ax ρ3 _ hc ⟨M,D⟩ ar=>?_
   simp only[go_sem];refine ao (λh7=>?_) (λh7=>?_)
   ·rw[aU (l:=[p,q,af s.border]) (M.ext.row r2) 3 rfl,ak];have E0:=U.trans M.ext;refine(c_Sum (G.ext E0) (H.ext E0) W (HS.ext E0) WS hs (x:=x) (y:=y) (c:=c) ae).mono λr h8 ⟨e,e8⟩=>?_
    subst e;have E8:=E0.trans e8;refine(uH (H.ext E8)).mono λr h9 ⟨e,A⟩=>?_
    have A:=A.symm;subst e A;refine(W8 (kc _)).mono λr h9 ⟨e,A⟩=>?_
    have A:=A.symm;subst e A;have hr:=Pk (IntKind.i64.wrap (Lf m s x y c)) (most:=m.most) ae;have Mi:=M.img.ext e8;refine(W1 Mi M.wf hr.1 hr.2.1).mono λr an ⟨e,au,f10,be⟩=>?_
    subst e;have aw:inP n x y c:=⟨ae,by rw[M.pw];omega,ae,by rw[M.ph];omega,ae,by rw[M.pc];omega⟩
    have ab:inP n x y c∧yT (IntKind.i64.wrap (Lf m s x y c)) m.most≤n.most:=⟨aw,by rw[M.pm];omega⟩
    rw[aA ab]at au;have a7:Ext h2 an:=(M.ext.trans e8).then_fr f10 M.nv
    try simp only[go_sem]
    rw[w64 ae ae];refine ar (SI n x y c (yT (IntKind.i64.wrap (Lf m s x y c)) m.most)) an ae ⟨⟨au,VT M.wf hr.1 ab.2,M.pw,M.ph,M.pc,M.pm,a7,M.nb,M.nv⟩,λL F c' hi ha=>?_⟩;rw[Uk M.wf aw];by_cases he:L=x∧F=y∧c'=c
    ·rw[aA he,he.1,he.2.1,he.2.2];rfl
    ·rw[az he];exact D L F c' hi (by unfold ahead at*;omega)
   ·have:c=C:=ae;subst this;rw[w64 ae ae];refine al n h6 ae ⟨M,λL F c' hi ha=>D L F c' hi ?_⟩;have h1:=M.pc;unfold ahead inP at*;omega
  ·have:x=X:=ae;subst this;rw[w64 ae ae];refine bc n h5 ae ⟨M,λL F c' hi ha=>D L F c' hi ?_⟩;have h1:=M.pw;unfold ahead inP at*;omega
 ·have:y=Y:=ae;subst this;refine⟨nb,nv,n,rfl,M.before U,λL F c' hi=>D L F c' hi ?_⟩;have h1:=M.ph;unfold ahead inP at*;omega
theorem LK (f n:Int){m:Int}(F:bu m):(fF f n m).Wf:=by
 unfold bu at F;refine⟨?_,λx A=>?_⟩
 ·show(List.map _ (List.range m.toNat)).length≤65536;rw[cQ,eN];omega
 ·obtain⟨i,_,rfl⟩:=gO.1 A;have D:=qC (vq f n m i);refine⟨D.1,?_⟩;show _≤eW f n m i∧eW f n m i≤_;unfold eW;split
  ·rename_i h;have:=MI h;omega
  ·omega
theorem M8 {l:List Int}(A:∀x∈l,I64 x)(H:l.length≤1024){n:Int}(D:bu n):(jX l n).Wf:=by
 unfold bu at D;refine⟨?_,λx F=>?_⟩
 ·show(List.map _ (List.range n.toNat)).length≤65536;rw[cQ,eN];omega
 ·obtain⟨i,hi,rfl⟩:=gO.1 F;have G:=qC A;have:=sO.1 hi;refine⟨G.1,?_⟩;show _≤(i:Int)-(l.length/2:Nat)∧(i:Int)-(l.length/2:Nat)≤_;omega
theorem AL (o:OpD):(ed o).length≤1024∧(cK o).length≤1024:=by
 have:=Fh o.sigma;have:=Je o.radius;have:=xW o.x;have:=xW o.y;unfold ed cK;constructor<;>split<;>(try split)<;>omega
theorem yu {o:OpD}{w h:Int}(hc:eZ o w h=0):(ch o w h).Wf∧kG o∧bu w∧bu h:=by
 unfold eZ at hc;split at hc
 ·cases hc
 ·rename_i D;have h1:kG o:=cf λhh=>D (.inl hh)
  have G:bu w:=cf λhh=>D (.inr (.inl hh))
  have F:bu h:=cf λhh=>D (.inr (.inr hh))
  refine⟨⟨?_,?_⟩,h1,G,F⟩
  ·show(kq o w).Wf;unfold kq;split
   ·rename_i A;exact LK _ _ (h1.2.2 A).1
   ·exact M8 (yM o) (AL o).1 G
  ·show(fj o h).Wf;unfold fj;split
   ·rename_i A;exact LK _ _ (h1.2.2 A).2.1
   ·exact M8 (yL o) (AL o).2 F
theorem IM {o:OpD}{w h:Int}(hc:eZ o w h=0):((ch o w h).x.lines.length:Int)=pI o w∧((ch o w h).y.lines.length:Int)=te o h:=by
 obtain⟨_,D,F,hh⟩:=yu hc;unfold bu at F hh;constructor
 ·show((kq o w).lines.length:Int)=_;unfold kq pI;split
  ·rename_i A;have:=(D.2.2 A).1;unfold bu at this;show((List.map _ (List.range o.w.toNat)).length:Int)=_;rw[cQ,eN];omega
  ·show((List.map _ (List.range w.toNat)).length:Int)=_;rw[cQ,eN];omega
 ·show((fj o h).lines.length:Int)=_;unfold fj te;split
  ·rename_i A;have:=(D.2.2 A).2.1;unfold bu at this;show((List.map _ (List.range o.hh.toNat)).length:Int)=_;rw[cQ,eN];omega
  ·show((List.map _ (List.range h.toNat)).length:Int)=_;rw[cQ,eN];omega
theorem zaZ (o:OpD)(w h:Int):(ch o w h).x.n=w∧(ch o w h).y.n=h:=by
 constructor
 ·show(kq o w).n=w;unfold kq;split<;>rfl
 ·show(fj o h).n=h;unfold fj;split<;>rfl
theorem JF {o:OpD}{m:Pic}(hc:eZ o m.w m.h=0):nJ m (ch o m.w m.h):=by
 obtain⟨_,A,_,_⟩:=yu hc;obtain⟨h1,D⟩:=zaZ o m.w m.h;exact⟨h1,D,A.2.1.1,A.2.1.2⟩
def Po:Pic:=⟨1,1,1,255,[7]⟩
def UQ:OpD:=⟨1,0,0,2,[],[],0,0,0⟩
theorem Vw {h:ah}(G:eF h):ag prog xN #[] h λr h'=>r=.bool true∧Ext h h':=by
 apply Mk;unfold Bc;refine dc (c':=#[.int .u16 7]) rfl λb1 h1 r1 e1 n1=>?_
 have S1:=CI (k:=.u16) (l:=[7]) (n:=1) rfl r1;have a0:BT 1 1 1 255=0:=by decide+kernel
 refine(Sb S1 a0 (by decide) (by simp)).mono λr h2 ⟨p,e,N⟩=>?_
 subst e;obtain⟨b,v,rfl,I,nb,nv,e2⟩:=N;have I:dd h2 b v Po:=I;have W:Po.Wf:=⟨by decide+kernel,by decide,by decide,by decide,by simp[Po]⟩
 have hf:(aM #[ai,ai,ai,ai,(.slice none 0 0),(.slice none 0 0),ai,ai,ai] [(0,1,aH),(3,1,(af 2))])=some #[aH,ai,ai,af 2,.slice none 0 0,.slice none 0 0,ai,ai,ai]:=rfl;simp only[go_sem];rw[hf,bG,ak];have wf:UQ.Wf:=Bw (by simp[I64]);have G2:=G.ext (e1.trans e2);refine(Jc (Z:=λ_=>True) (o:=UQ) G2 Bx wf (by simp[UQ]) (by simp[UQ]) (by unfold I64;omega) (by unfold I64;omega)).mono λw h3 ⟨sv,e,e3,_,s1⟩=>?_
 subst e;have a1:eZ UQ 1 1=0:=by decide+kernel
 have HS:=s1 a1;rw[a1];obtain⟨p,q,rfl,hp,hq,A⟩:=jk HS;simp only[go_sem];refine dh (cs:=[p,q,af _]) rfl A rfl λb4 h4 r4 H n4=>?_
 refine X9.mono λr h5 ⟨e,F⟩=>?_
 subst e;simp only[go_sem];have E5:=(e1.trans e2).trans (e3.trans (H.trans F));refine(Nv (G.ext E5)).mono λr h6 ⟨e,D⟩=>?_
 subst e;have z0:((0:Int)=0)=True:=jx rfl;have np:aj .p .eql (ptr b) (.pointer none)=some (.bool false):=rfl;have U:∀b,aj .p .neq (ptr b) (.pointer none)=some (.bool true):=λ_=>rfl
 simp only[go_sem,z0,np,gn];have E6:=E5.trans D;have aa:=e3.trans (H.trans (F.trans D));rw[aU (l:=[p,q,af _]) ((F.trans D).row r4) 3 rfl,ak];have hs:nJ Po (ch UQ 1 1):=JF (m:=Po) a1;refine(zbS (G.ext E6) (I.ext aa) W (HS.ext (H.trans (F.trans D))) (yu a1).1 hs (by decide+kernel)).mono λr h7 ⟨b',v',n,e,M,L⟩=>?_
 subst e;simp only[go_sem,z0,U,gn];refine(zbR M.img M.wf).mono λr h8 ⟨e,wq⟩=>?_
 have wq:=wq.symm;subst e wq;have ab:inP n 0 0 0:=⟨ae,by rw[M.pw];decide+kernel,ae,by rw[M.ph];decide+kernel,ae,by rw[M.pc];decide⟩
 rw[L 0 0 0 ab];have hv:xr Po (ch UQ 1 1) 0 0 0=7:=by decide+kernel
 rw[hv];simp only[go_sem,kR,gn];exact⟨by simp,E6.trans M.ext⟩
structure si where
 w:Int
 h:Int
 c:Int
 most:Int
 l:List Int
structure si.Wf (a:si):Prop where
 w:U16 a.w
 h:U16 a.h
 c:U16 a.c
 most:U16 a.most
 l:∀x∈a.l,U16 x
 len:a.l.length≤4611686018427387904
def nT:Rp si where
 w:=5
 R:=λZ h cs a=>∃u,cs=[.int .u16 a.w,.int .u16 a.h,.int .u16 a.c,.int .u16 a.most,u]∧Rp.Sl rU Z h u a.l
 len:=by rintro _ _ _ _ ⟨x,rfl,_⟩;rfl
 one:=by
  rintro _ _ _ _ ⟨x,rfl,H⟩;exact aq rfl (aq rfl (aq rfl (aq rfl (aq H.one aX))))
 fr:=by rintro _ _ _ _ _ _ ⟨x,rfl,H⟩ f q;exact⟨x,rfl,H.fr f q⟩
 mono:=by rintro _ _ _ _ _ ⟨x,rfl,H⟩ q;exact⟨x,rfl,H.mono q⟩
def eB (a:si):Pic:=B5 (a.w%12) (a.h%12) a.c a.most a.l
theorem vG (a:si):(eB a).Wf:=TP _ _ _ _ _
theorem xb (a:si):1≤(eB a).w∧(eB a).w≤12∧1≤(eB a).h∧(eB a).h≤12:=by
 show 1≤1+a.w%12%20∧1+a.w%12%20≤12∧1≤1+a.h%12%20∧1+a.h%12%20≤12;omega
theorem sQ.before {h0 h h':ah}{p:Value}{m:Pic}(N:sQ h h' p m)(e:Ext h0 h):sQ h0 h' p m:=by
 obtain⟨b,v,A,I,nb,nv,E⟩:=N;exact⟨b,v,A,I,aZ e.1 nb,λc hc=>aZ e.1 (nv c hc),e.trans E⟩
theorem Ja {Z:Nat→Prop}{h:ah}{cs:List Value}{a:si}(H:nT.R Z h cs a)(W:a.Wf):ag prog fb #[.agg cs.toArray] h λr h'=>sQ h h' r (eB a):=by
 apply AJ;unfold pR;obtain⟨u,rfl,G⟩:=H;simp only[bP];refine aI λA h1 r1 D n1=>?_
 have U:aG h1 ⟨A,0,none⟩=some (.int .u16 a.w):=am r1;have I:aG h1 ⟨A,1,none⟩=some (.int .u16 a.h):=am r1;have F:aG h1 ⟨A,2,none⟩=some (.int .u16 a.c):=am r1;have q3:aG h1 ⟨A,3,none⟩=some (.int .u16 a.most):=am r1;have L:aG h1 ⟨A,4,none⟩=some u:=am r1;have w0:=W.w;have w1:=W.h;simp only[go_sem,aK,U];rw[dP _ _ _ _ ae,ak];simp only[go_sem,aK,I];rw[dP _ _ _ _ ae,ak];simp only[go_sem,aK,F,q3,L];rw[jV w0.1,jV w1.1];exact(ZY (G.ext D) (by unfold U16;omega) (by unfold U16;omega) W.c W.most W.l W.len).mono λr h' N=>N.before D
theorem jC.since {α:Type}{e:Rp α}{h0 h h':ah}{v:Value}{l:List α}(H:jC e h h' v l)(k:Ext h0 h):Rp.Sl e (fQ h0 h') h' v l:=H.sl.mono λc hc A=>⟨aZ k.1 A.1,hc⟩
theorem Uc {Z:Nat→Prop}{h:ah}(G:eF h){v:Value}{l:List OpD}{b:Nat}{iv:Value}{m:Pic}(H:Rp.Sl rOp Z h v l)(few:l.length≤4)(WO:Eo l)(I:dd h b iv m)(W:m.Wf):
  ag prog ii #[v,ptr b] h λr h'=>Ext h h'∧∃sv rv ok,r=.tuple #[sv,rv,.bool ok]∧aR sv=true∧(ok=true↔nr 12 l∧AB l m.w m.h m.c=0)∧
   (ok=true→Rp.Sl Ee (fQ h h') h' sv (xE l m.w m.h)∧Rp.Sl xp (fQ h h') h' rv (xE l m.w m.h)):=by
 apply Ko;unfold Aq;obtain⟨a,cap,e⟩:=H.isSl;have e2:aD v=some (af (l.length:Int)):=by rw[e];rfl
 have np:aj .p .eql (ptr b) (.pointer none)=some (.bool false):=rfl;simp only[go_sem,e2,np];have h4:((4:Int)<(l.length:Int))=False:=fN ae;simp only[go_sem,h4];refine(zae (side:=12) H ae).mono λr h1 ⟨e,F⟩=>?_
 subst e;simp only[go_sem];refine ao (λU=>?_) (λU=>?_)
 ·exact⟨F,_,_,false,rfl,rfl,⟨λh=>(by cases h),λh=>absurd h.1 U⟩,λh=>(by cases h)⟩
 have U:nr 12 l:=cf U;have hf:=du W.fits;have hW:I64 m.w:=by unfold I64;omega
 have hH:I64 m.h:=by unfold I64;omega
 have D:∀(L:ah) (E:Ext h L) (K:Value→Value→Value→ah→Prop),K (af m.w) (af m.h) (af m.c) L→
   ag prog bM #[ptr b] L λan ad=>ag prog bO #[ptr b] ad λaa ab=>ag prog aV #[ptr b] ab λaw au=>K an aa aw au:=by
  intro L E K HK;refine(ur (I.ext E)).mono λr h3 ⟨e,A⟩=>?_
  have A:=A.symm;subst e A;refine(sh (I.ext E)).mono λr h3 ⟨e,A⟩=>?_
  have A:=A.symm;subst e A;refine(eU (I.ext E)).mono λr h3 ⟨e,A⟩=>?_
  have A:=A.symm;subst e A;exact HK
 refine D h1 F _ ?_;refine(zby (G.ext F) (H.ext F) WO hW hH (c:=m.c)).mono λr L ⟨sv,e,ax,s0,s1⟩=>?_
 subst e;simp only[go_sem];have E2:=F.trans ax;refine(zcY (H.ext E2) ae).mono λlv h3 ⟨HR,e3⟩=>?_
 have E3:=E2.trans e3;refine D h3 E3 _ ?_;refine(ZV HR WO hW hH (c:=m.c)).mono λr h5 ⟨rv,e,e5,t0,t1⟩=>?_
 subst e;simp only[go_sem];have E5:=E3.trans e5;by_cases hc:AB l m.w m.h m.c=0
 ·have S:=(s1 hc).ext (e3.trans e5);have T:=t1 hc;obtain⟨ay,a7,es⟩:=S.isSl;obtain⟨at_,ct,et⟩:=T.isSl;have al:aD sv=some (af ((xE l m.w m.h).length:Int)):=by rw[es];rfl
  have ar:aD rv=some (af ((xE l m.w m.h).length:Int)):=by rw[et];rfl
  simp only[go_sem,hc,al,ar];refine⟨E5,sv,rv,true,by simp,by rw[es];rfl,⟨λ_=>⟨U,trivial⟩,λ_=>rfl⟩,λ_=>⟨?_,?_⟩⟩
  ·exact S.since F
  ·exact T.since E3
 ·simp only[go_sem,hc];exact⟨E5,sv,rv,false,by simp,by rw[s0 hc];rfl,⟨λh=>(by cases h),λh=>h.2.elim⟩,λh=>(by cases h)⟩
end Go.Proofs.YtjljhnandbbldaaGreatDoor
namespace Go.Proofs.YtjljhnandbbldaaGreatDoor
open Go Go.Crisp
open _root_.Go.Proofs.Tryz
structure VJ (L:List (String×DataW Unit)):Prop where
 plain:(L.all λx=>x.2.handleName?.isNone)=true
 names:("smalto/border.names",Rows.laid_smalto_border_names)∈L
 kinds:("smalto/raw.kinds",Rows.laid_smalto_raw_kinds)∈L
theorem VJ.glob {L:List (String×DataW Unit)}(l:VJ L){h:ah}(H:Cl prog L h):eF h:=Zi H l.plain l.names l.kinds
theorem Lc {n:Int}(h:(Lit.int .u16 n).wf=true):0≤n∧n≤65535:=by
 have h:(decide (IntKind.u16.min≤n)&&decide (n≤IntKind.u16.max))=true:=h;rw[dj,dI,dI]at h;exact h
abbrev Ux:TS:=.int .u16
abbrev Xn:TS:=.pair Ux (.pair Ux (.pair Ux (.pair Ux (.pair (.sl Ux 2) .unit))))
def VY (x:Xn.T):si:=⟨x.1,x.2.1,x.2.2.1,x.2.2.2.1,x.2.2.2.2.1⟩
theorem Uy {h:ah}{v:Value}{l:List Int}(H:SlC 1 h v l.length (l.map (Value.int .u16))):Rp.Sl rU (λ_=>True) h v l:=
 ⟨_,H,λ_ _ _=>trivial,λi hi=>by
  show Rp.el 1 _ i=[.int .u16 l[i]];rw[Rp.el_one (by simpa using hi),eT]⟩
theorem zaz {h:ah}{cs:List Value}{l:List Int}(H:Rd (.sl Ux 2) h cs l):∃v,cs=[v]∧Rp.Sl rU (λ_=>True) h v l∧(∀n∈l,U16 n)∧l.length*2≤140737488351232:=by
 obtain⟨v,rfl,h1,F,D⟩:=UA (e:=Ux) (Value.int .u16) U16 rfl (λds x A=>⟨A.1,Lc A.2⟩) H;exact⟨v,rfl,Uy h1,F,D⟩
theorem zco {h:ah}{cs:List Value}{x:Xn.T}(H:Rd Xn h cs x):nT.R (λ_=>True) h cs (VY x)∧(VY x).Wf:=by
 obtain⟨_,_,rfl,⟨rfl,a1⟩,_,_,rfl,⟨rfl,a2⟩,_,_,rfl,⟨rfl,a3⟩,_,_,rfl,⟨rfl,a4⟩,_,_,rfl,a5,rfl⟩:=H;obtain⟨s,rfl,D,F,A⟩:=zaz a5;have A:(VY x).l.length*2≤140737488351232:=A;exact⟨⟨s,rfl,D⟩,⟨Lc a1,Lc a2,Lc a3,Lc a4,F,ae⟩⟩
theorem zaS {h:ah}{cs:List Value}{x:tOp.T}(H:Rd tOp h cs x):Eo [S9 x]:=by
 have h1:=(zb4 H).2;have D:=zcq H;refine⟨λo A=>?_,λo A=>?_,by simp⟩<;>(rw[iy.1 A])
 ·exact h1
 ·exact D
end Go.Proofs.YtjljhnandbbldaaGreatDoor
namespace Go.Proofs.YtjljhnandbbldaaGreatDoor
open Go Go.Crisp
attribute [local irreducible] ag di aW stK aF vK qK bK gK fo bA mkK dk Fm GM CJ bsK clK
open _root_.Go.Proofs.Tryz
theorem HM (o:Nat):∀(l:List Value) (c:Array Value) (k:Nat),(l.zipIdx k).foldl (λcs (p:Value×Nat)=>cs.setIfInBounds (o+p.2) p.1) c=wrL c (o+k) l
 | [],_,_=>rfl
 |v::l,c,k=>by
  simp only[List.zipIdx_cons,wZ,wrL];exact HM o l _ (k+1)
theorem bS {c:Array Value}{o n:Nat}{v:Value}{l:List Value}{rest:List (Nat×Nat×Value)}(A:v.cells=l.toArray)(D:l.length=n)(F:o+n≤c.size):aM c ((o,n,v)::rest)=aM (wrL c o l) rest:=by
 simp only[aM,A];rw[az (by simp[D];omega)]
 congr 1
 rw[Wp,Wm]
 ·exact HM o l c 0
 ·simp
structure dm where
 s:Stg
 w:Int
 h:Int
def fC (n:Int):Prop:=1≤n∧n≤4096
instance (n:Int):Decidable (fC n):=by unfold fC;infer_instance
structure dm.Wf (d:dm):Prop where
 s:d.s.Wf
 w:fC d.w
 h:fC d.h
def dm.X (d:dm):Int:=d.s.x.lines.length
def dm.Y (d:dm):Int:=d.s.y.lines.length
structure sS (Z:Nat→Prop)(h:ah)(b:Nat)(d:dm)(p q:Value):Prop where
 row:h[b]? =some (.cells #[p,q,.int .i64 d.s.border,.int .i64 d.w,.int .i64 d.h] 184 (0,0))
 x:fJ Z h p d.s.x
 y:fJ Z h q d.s.y
theorem sS.ext {Z:Nat→Prop}{h h':ah}{b:Nat}{d:dm}{p q:Value}(H:sS Z h b d p q)(e:Ext h h'):sS Z h' b d p q:=⟨e.row H.row,H.x.ext e,H.y.ext e⟩
def dH (n size:Int):Int:=(n+size-1)/size
def dE (d:dm):Int:=dH d.X d.w
def ck (d:dm):Int:=dE d*dH d.Y d.h
def jq (d:dm)(i:Int):Int:=i%dE d*d.w
def kh (d:dm)(i:Int):Int:=i/dE d*d.h
def tN (d:dm)(i:Int):Int:=min d.w (d.X-jq d i)
def vY (d:dm)(i:Int):Int:=min d.h (d.Y-kh d i)
theorem nW {n size:Int}(D:0≤n∧n≤65536)(A:fC size):0≤dH n size∧dH n size≤65536∧(1≤n→1≤dH n size):=by
 unfold fC at A;unfold dH;refine⟨zc ae ae,?_,λh=>?_⟩
 ·have:=rZ (a:=n+size-1) (b:=size) (L:=0) (U:=70000) ae ae ae ae ae;apply G9;rw[wY ae];omega
 ·rw[uf ae];omega
theorem dm.bd {d:dm}(W:d.Wf):(0≤d.X∧d.X≤65536)∧(0≤d.Y∧d.Y≤65536):=by
 have h1:=W.s.x.len;have A:=W.s.y.len;unfold dm.X dm.Y;omega
theorem W0 {h:ah}{n size:Int}(D:0≤n∧n≤65536)(A:fC size):ag prog uF #[af n,af size] h λr h'=>r=af (dH n size)∧h'=h:=by
 apply OF;unfold DY;have F:=nW D A;unfold fC at A;unfold dH at*;simp only[go_sem];rw[w64 (n:=n+size) ae ae,w64 (n:=n+size-1) ae ae,mo _ _ _ _ ae,ak,wV ae,w64 ae ae];exact⟨rfl,trivial⟩
theorem Jb {Z:Nat→Prop}{h:ah}{b:Nat}{d:dm}{p q:Value}(H:sS Z h b d p q)(W:d.Wf):ag prog gI #[ptr b] h λr h'=>r=af (dE d)∧h'=h:=by
 apply BI;unfold rD;simp only[go_sem,aK];refine aQ (λh'=>h'=h) rfl ?_;refine aC p (λh' e=>by rw[e];exact am H.row) ?_;refine aC (af d.w) (λh' e=>by rw[e];exact am H.row) ?_;refine(Dv H.x).mono λr h1 ⟨e,A⟩=>?_
 have A:=A.symm;subst e A;exact⟨rfl,W0 (dm.bd W).1 W.w⟩
theorem Dc {Z:Nat→Prop}{h:ah}{b:Nat}{d:dm}{p q:Value}(H:sS Z h b d p q)(W:d.Wf):ag prog dZ #[ptr b] h λr h'=>r=af (ck d)∧h'=h:=by
 apply EU;unfold ve;simp only[go_sem,aK];refine aQ (λh'=>h'=h) rfl ?_;refine aC q (λh' e=>by rw[e];exact am H.row) ?_;refine aC (af d.h) (λh' e=>by rw[e];exact am H.row) ?_;refine(Jb H W).mono λr h1 ⟨e,D⟩=>?_
 have D:=D.symm;subst e D;refine⟨rfl,?_⟩;refine(Dv H.y).mono λr h1 ⟨e,D⟩=>?_
 have D:=D.symm;subst e D;refine⟨rfl,?_⟩;refine(W0 (dm.bd W).2 W.h).mono λr h1 ⟨e,D⟩=>?_
 have D:=D.symm;subst e D;simp only[go_sem];have h1:=nW (dm.bd W).1 W.w;have G:=nW (dm.bd W).2 W.h;have F:=mS (a:=dE d) (A:=65536) (b:=dH d.Y d.h) (B:=65536) h1.1 h1.2.1 G.1 G.2.1;have e:dE d*dH (d.s.y.lines.length:Int) d.h=ck d:=rfl;have F:0≤dE d*dH (d.s.y.lines.length:Int) d.h∧dE d*dH (d.s.y.lines.length:Int) d.h≤65536*65536:=F;rw[w64 ae ae];exact⟨rfl,trivial⟩
theorem Ns {h:ah}{n:Int}:ag prog xg #[af n] h λr h'=>r=.bool (decide (fC n))∧h'=h:=by
 apply QW;unfold Gc;simp only[go_sem];exact⟨rfl,trivial⟩
theorem P7 {Z:Nat→Prop}{h:ah}{sv:Value}{s:Stg}{w hh:Int}(HS:pX Z h sv s):ag prog zU #[sv,af w,af hh] h λr h'=>
  Ext h h'∧((fC w∧fC hh)→∃b p q,r=.tuple #[ptr b,ai]∧h.size≤b∧sS Z h' b ⟨s,w,hh⟩ p q)∧(¬(fC w∧fC hh)→r=.tuple #[.pointer none,af 9]):=by
 apply Tj;unfold Jx;obtain⟨p,q,rfl,L,hq,aa⟩:=jk HS;simp only[bP];refine aI λW h1 r1 D n1=>?_
 have np:=(Im L).2;have nq:=(Im hq).2;have q0:aG h1 ⟨W,0,none⟩=some p:=am r1;have q1:aG h1 ⟨W,1,none⟩=some q:=am r1;simp only[go_sem,aK,q0,q1,np,nq];refine Ns.mono λr I ⟨e,A⟩=>?_
 have A:=A.symm;subst e A;by_cases U:fC w
 ·simp only[go_sem,U];refine Ns.mono λr I ⟨e,A⟩=>?_
  have A:=A.symm;subst e A;by_cases G:fC hh
  ·simp only[go_sem,G];rw[aU (l:=[p,q,af s.border]) r1 3 rfl,ak];have hf:aM #[(.pointer none),(.pointer none),ai,ai,ai] [(0,3,.agg #[p,q,af s.border]),(3,1,af w),(4,1,af hh)]=some #[p,q,af s.border,af w,af hh]:=rfl;rw[hf,bG,ak];refine aI (c:=#[p,q,af s.border,af w,af hh]) λb2 I r2 H n2=>?_
   exact⟨D.trans H,λ_=>⟨b2,p,q,rfl,aZ D.1 n2,r2,L.ext (D.trans H),hq.ext (D.trans H)⟩,λF=>absurd ⟨trivial,trivial⟩ F⟩
  ·simp only[go_sem,G];exact⟨D,λF=>F.2.elim,λ_=>by simp⟩
 ·simp only[go_sem,U];exact⟨D,λF=>F.1.elim,λ_=>by simp⟩
structure cZ where
 number:Int
 x:Int
 y:Int
 w:Int
 h:Int
 fx:Int
 fy:Int
 cx:Int
 cy:Int
 ring:Int
abbrev dC (t:cZ):List Value:=[.int .i64 t.number,.int .i64 t.x,.int .i64 t.y,.int .i64 t.w,.int .i64 t.h,.int .i64 t.fx,.int .i64 t.fy,.int .i64 t.cx,.int .i64 t.cy,.int .i64 t.ring]
theorem km (t:cZ):∀v∈dC t,aR v=true:=by
 intro v A;simp only[dC,kw,List.not_mem_nil,or_false]at A;rcases A with rfl|rfl|rfl|rfl|rfl|rfl|rfl|rfl|rfl|rfl<;>rfl
theorem Lg {d:dm}(W:d.Wf){i:Int}(h0:0≤i)(h1:i<ck d):0≤jq d i∧jq d i<d.X∧0≤kh d i∧kh d i<d.Y:=by
 have A:=dm.bd W;have G:=W.w;have hh:=W.h;unfold fC at G hh;have I:=nW A.1 W.w;have h3:=nW A.2 W.h;have hc:0<dE d:=by
  rcases mT 0 (dE d)with h|h
  ·exact h
  ·have h4:0≤dE d:=I.1;have:dE d=0:=ae;unfold ck at h1;rw[this,Int.zero_mul]at h1;omega
 have L:=kz i (show dE d≠0 by omega);have m1:=iB i hc;have q0:=zc h0 (show 0≤dE d by omega);have U:i/dE d<dH d.Y d.h:=by
  rw[wY hc,fU];exact h1
 have key:∀(n size k:Int),0≤n→1≤size→0≤k→k<dH n size→0≤k*size∧k*size<n:=by
  intro n size k hn hs hk D;refine⟨ku hk ae,?_⟩;have h5:k+1≤(n+size-1)/size:=D;rw[uf ae,jw,kr]at h5;omega
 have H:=key d.X d.w (i%dE d) A.1.1 G.1 L m1;have F:=key d.Y d.h (i/dE d) A.2.1 hh.1 q0 U;exact⟨H.1,H.2,F.1,F.2⟩
theorem P6 {Z:Nat→Prop}{h:ah}{b:Nat}{d:dm}{p q:Value}(H:sS Z h b d p q)(W:d.Wf){i:Int}(h0:0≤i)(h1:i<ck d):ag prog mL #[ptr b,af i] h λr h'=>
  r=.agg #[af (jq d i),af (kh d i),af (tN d i),af (vY d i)]∧Ext h h':=by
 apply IH;unfold yi;have ti:=Lg W h0 h1;have hb:=dm.bd W;have hw:=W.w;have hh:=W.h;unfold fC at hw hh;have h2:=nW hb.1 W.w;have G:=nW hb.2 W.h;have ab:0≤dE d∧dE d≤65536:=⟨h2.1,h2.2.1⟩
 have ad:=mS (a:=dE d) (A:=65536) (b:=dH d.Y d.h) (B:=65536) h2.1 h2.2.1 G.1 G.2.1;have aa:ck d=dE d*dH d.Y d.h:=rfl;have hc:0<dE d:=by
  rcases mT 0 (dE d)with h|h
  ·exact h
  ·have:dE d=0:=ae;rw[aa,this,Int.zero_mul]at h1;omega
 have hq:=rZ (a:=i) (b:=dE d) (L:=0) (U:=4294967296) ae ae ae ae ae;refine aI λb1 I r1 e1 n1=>?_
 have F:=H.ext e1;simp only[go_sem,aK];refine aQ (λh'=>h'=I) rfl ?_;refine aC (af d.w) (λh' e=>by rw[e];exact am F.row) ?_;refine aC (af d.h) (λh' e=>by rw[e];exact am F.row) ?_;refine(Jb F W).mono λr G ⟨e,D⟩=>?_
 have D:=D.symm;subst e D;refine⟨rfl,?_⟩;rw[dP _ _ _ _ ae,ak,jV h0];simp only[go_sem];refine(Jb F W).mono λr G ⟨e,D⟩=>?_
 have D:=D.symm;subst e D;refine⟨rfl,?_⟩;rw[mo _ _ _ _ ae,ak,wV h0];simp only[go_sem];have ex:i%dE d*d.w=jq d i:=rfl;have ey:i/dE d*d.h=kh d i:=rfl;rw[w64 (n:=i/dE d) ae ae,ex,ey,w64 (n:=jq d i) ae ae,w64 (n:=kh d i) ae ae];refine aQ (λh'=>h'=I) rfl ?_;simp only[go_sem,aK];refine aC (af d.w) (λh' e=>by rw[e];exact am F.row) ?_;refine aC p (λh' e=>by rw[e];exact am F.row) ?_;refine aC (af d.h) (λh' e=>by rw[e];exact am F.row) ?_;refine aC q (λh' e=>by rw[e];exact am F.row) ?_;refine(Dv F.x).mono λr G ⟨e,D⟩=>?_
 have D:=D.symm;subst e D;refine⟨rfl,?_⟩;simp only[go_sem];have eX:(d.s.x.lines.length:Int)=d.X:=rfl;have eY:(d.s.y.lines.length:Int)=d.Y:=rfl;rw[eX,w64 (n:=d.X-jq d i) ae ae];refine aC (af (min d.w (d.X-jq d i))) (λh' e=>by first|exact MC _ _ _|rfl) ?_;refine(Dv F.y).mono λr G ⟨e,D⟩=>?_
 have D:=D.symm;subst e D;refine⟨rfl,?_⟩;simp only[go_sem];rw[eY,w64 (n:=d.Y-kh d i) ae ae];refine aC (af (min d.h (d.Y-kh d i))) (λh' e=>by first|exact MC _ _ _|rfl) ?_;have hf:aM #[ai,ai,ai,ai] [(0,1,af (jq d i)),(1,1,af (kh d i)),(2,1,af (min d.w (d.X-jq d i))),(3,1,af (min d.h (d.Y-kh d i)))]=some #[af (jq d i),af (kh d i),af (tN d i),af (vY d i)]:=rfl;rw[hf,bG,ak];refine cT (l:=[af (jq d i),af (kh d i),af (tN d i),af (vY d i)]) r1 rfl (aq rfl (aq rfl (aq rfl (aq rfl aX)))) rfl λh5 r5 u5=>?_
 rw[aU r5 4 rfl,ak];exact⟨rfl,e1.upd n1 u5⟩
theorem XS (a b c d e f:Int):aM #[ai,ai,ai,ai,ai,ai,ai,ai,ai,ai] [(0,1,af a),(1,4,.agg #[af b,af c,af d,af e]),(9,1,af f)]=some (dC ⟨a,b,c,d,e,0,0,0,0,f⟩).toArray:=by
 refine(bS (n:=1) (l:=[af a]) rfl rfl (by simp)).trans ?_;refine(bS (n:=4) (l:=[af b,af c,af d,af e]) rfl rfl (by simp[cF])).trans ?_;refine(bS (n:=1) (l:=[af f]) rfl rfl (by simp[cF])).trans ?_;rw[gC];simp[wrL,dC]
def aO (d:dm)(i:Int):cZ:=
 ⟨i,jq d i,kh d i,tN d i,vY d i,(xn d.s.x (jq d i) (jq d i+tN d i)).1,(xn d.s.y (kh d i) (kh d i+vY d i)).1,
  (xn d.s.x (jq d i) (jq d i+tN d i)).2,(xn d.s.y (kh d i) (kh d i+vY d i)).2,bH d.s.y.lines⟩
theorem vH {Z:Nat→Prop}{h:ah}{b:Nat}{d:dm}{p q:Value}(H:sS Z h b d p q)(W:d.Wf){i:Int}(h0:0≤i)(h1:i<ck d):ag prog ga #[ptr b,af i] h λr h'=>
  r=.tuple #[.agg (dC (aO d i)).toArray,.bool true]∧Ext h h':=by
 apply GJ;unfold wK;have ti:=Lg W h0 h1;have hb:=dm.bd W;have hw:=W.w;have hh:=W.h;unfold fC at hw hh;refine aI λb1 h2 r1 e1 n1=>?_
 have G:=H.ext e1;have hi:(i<0)=False:=fN ae;simp only[go_sem,hi];refine(Dc G W).mono λr h3 ⟨e,F⟩=>?_
 have F:=F.symm;subst e F;simp only[go_sem];rw[cG ae,cR];have an:=bC r1;refine bB (λxs h'=>∃U,xs=[ptr U]∧Ext h2 h'∧h2.size≤U∧h'[U]? =some (.cells (dC ⟨i,jq d i,kh d i,tN d i,vY d i,0,0,0,0,bH d.s.y.lines⟩).toArray 116 (0,0))) ?_ ?_
 ·simp only[go_sem,aK];refine aQ (Ext h2) (Ext.refl _) ?_;refine aC q (λh' e=>am (e.row G.row)) ?_;have hf:aM #[ai,ai,ai,ai,ai,ai,ai,ai,ai,ai] [(0,1,af i),(1,4,.agg #[af (jq d i),af (kh d i),af (tN d i),af (vY d i)]),(9,1,af (bH d.s.y.lines))]=some (dC ⟨i,jq d i,kh d i,tN d i,vY d i,0,0,0,0,bH d.s.y.lines⟩).toArray:=XS _ _ _ _ _ _;refine⟨?_,?_⟩
  ·refine(P6 G W h0 h1).mono λr h3 ⟨e,D⟩=>?_
   subst e;refine⟨D,?_,?_⟩
   ·refine(Sh (G.y.ext D)).mono λr h4 ⟨e,F⟩=>?_
    have F:=F.symm;subst e F;refine⟨D,?_⟩;rw[hf,bG,ak];refine aI λb4 h4 r4 A n4=>⟨D.trans A,?_⟩
    have I:=aZ D.1 n4;refine cT (l:=dC _) r4 rfl (km _) rfl λh5 r5 u5=>?_
    have E:=(D.trans A).upd I u5;exact⟨E,b4,rfl,E,I,r5⟩
   ·refine aI λb4 h4 r4 A n4=>⟨D.trans A,?_⟩
    have I:=aZ D.1 n4;refine(Sh (G.y.ext (D.trans A))).mono λr h5 ⟨e,F⟩=>?_
    have F:=F.symm;subst e F;refine⟨D.trans A,?_⟩;rw[hf,bG,ak];refine cT (l:=dC _) r4 rfl (km _) rfl λh5 r5 u5=>?_
    have E:=(D.trans A).upd I u5;exact⟨E,b4,rfl,E,I,r5⟩
  ·refine aI λb4 h4 r4 A n4=>⟨A,?_⟩
   refine(P6 (G.ext A) W h0 h1).mono λr h3 ⟨e,D⟩=>?_
   subst e;refine⟨A.trans D,?_⟩;refine(Sh (G.y.ext (A.trans D))).mono λr h5 ⟨e,F⟩=>?_
   have F:=F.symm;subst e F;refine⟨A.trans D,?_⟩;rw[hf,bG,ak];refine cT (l:=dC _) (D.row r4) rfl (km _) rfl λh5 r5 u5=>?_
   have E:=(A.trans D).upd n4 u5;exact⟨E,b4,rfl,E,n4,r5⟩
 rintro xs ρj h3 ⟨U,rfl,E3,L,r3⟩;have H3:=G.ext E3;have ax:=G.row;have ad:b≠U:=by have:=bC G.row;omega
 have al:b1≠U:=ae;have ar:0≤jq d i+tN d i∧jq d i+tN d i≤65536:=by unfold tN;omega
 have au:0≤kh d i+vY d i∧kh d i+vY d i≤65536:=by unfold vY;omega
 refine aQ (λh'=>h'=h3) rfl ?_;simp only[go_sem,aK];refine aC p (λh' e=>by rw[e];exact am H3.row) ?_;refine aC (af (jq d i)) (λh' e=>by rw[e];exact am r3) ?_;refine aC (af (jq d i)) (λh' e=>by rw[e];exact am r3) ?_;refine aC (af (tN d i)) (λh' e=>by rw[e];exact am r3) ?_;simp only[go_sem];rw[w64 ae ae];refine(Sf H3.x W.s.x (by unfold I64;omega) (by unfold I64;omega)).mono λr h4 ⟨e,A⟩=>?_
 subst e;simp only[go_sem,aK];refine bZ (A.row r3) (by simp) rfl λh5 r5 u5=>?_
 refine bZ r5 (by simp) rfl λh6 r6 u6=>?_
 have E6:Ext h2 h6:=((E3.trans A).upd L u5).upd L u6;have H6:=G.ext E6;have r6:h6[U]? =some (.cells (dC ⟨i,jq d i,kh d i,tN d i,vY d i,(xn d.s.x (jq d i) (jq d i+tN d i)).1,0,(xn d.s.x (jq d i) (jq d i+tN d i)).2,0,bH d.s.y.lines⟩).toArray 116 (0,0)):=r6;refine aQ (λh'=>h'=h6) rfl ?_
 try simp only[go_sem,aK]
 refine aC q (λh' e=>by rw[e];exact am H6.row) ?_;refine aC (af (kh d i)) (λh' e=>by rw[e];exact am r6) ?_;refine aC (af (kh d i)) (λh' e=>by rw[e];exact am r6) ?_;refine aC (af (vY d i)) (λh' e=>by rw[e];exact am r6) ?_;simp only[go_sem];rw[w64 ae ae];refine(Sf H6.y W.s.y (by unfold I64;omega) (by unfold I64;omega)).mono λr h7 ⟨e,e7⟩=>?_
 subst e;simp only[go_sem,aK];refine bZ (e7.row r6) (by simp) rfl λh8 r8 u8=>?_
 refine bZ r8 (by simp) rfl λh9 r9 u9=>?_
 have E9:Ext h2 h9:=((E6.trans e7).upd L u8).upd L u9;have r9:h9[U]? =some (.cells (dC (aO d i)).toArray 116 (0,0)):=r9;rw[aU r9 10 rfl,ak];refine cT (l:=dC (aO d i)) (E9.row r1) rfl (km _) rfl λaw ab aa=>?_
 rw[aU ab 10 rfl,ak];exact⟨rfl,(e1.trans E9).upd n1 aa⟩
def LS:OpD:=⟨3,0,0,0,[],[],0,5,3⟩
theorem Vx {h:ah}(G:eF h):ag prog xO #[] h λr h'=>r=.bool true∧Ext h h':=by
 apply Ml;unfold Bd;have hf:(aM #[ai,ai,ai,ai,(.slice none 0 0),(.slice none 0 0),ai,ai,ai] [(0,1,(af 3)),(7,1,(af 5)),(8,1,(af 3)),(6,1,ai)])=some #[af 3,ai,ai,ai,.slice none 0 0,.slice none 0 0,ai,af 5,af 3]:=rfl;rw[hf,bG,ak];have wf:LS.Wf:=Bw (by simp[I64]);refine(Jc (Z:=λ_=>True) (o:=LS) G Bx wf (by simp[LS]) (by simp[LS]) (by unfold I64;omega) (by unfold I64;omega)).mono λw h1 ⟨sv,e,e1,_,s1⟩=>?_
 subst e;have a1:eZ LS 9 9=0:=by decide+kernel
 have HS:=s1 a1;rw[a1];obtain⟨p,q,rfl,hp,hq,D⟩:=jk HS;simp only[go_sem];refine dh (cs:=[p,q,af _]) rfl D rfl λb2 h2 r2 U n2=>?_
 refine(Nv (G.ext (e1.trans U))).mono λr h3 ⟨e,F⟩=>?_
 subst e;have z0:((0:Int)=0)=True:=jx rfl;simp only[go_sem,z0,gn];rw[aU (l:=[p,q,af _]) (F.row r2) 3 rfl,ak];refine(P7 (HS.ext (U.trans F))).mono λr h4 ⟨e4,hy,_⟩=>?_
 obtain⟨b4,p4,q4,e,aa,P⟩:=hy ⟨by decide,by decide⟩;subst e;have np:aj .p .eql (ptr b4) (.pointer none)=some (.bool false):=rfl;simp only[go_sem,z0,np,gn];have PW:dm.Wf ⟨ch LS 9 9,2,2⟩:=⟨(yu a1).1,by decide,by decide⟩
 have A:ck ⟨ch LS 9 9,2,2⟩=6:=by decide+kernel
 refine(vH P PW (i:=5) ae (by rw[A];omega)).mono λr h5 ⟨e,e5⟩=>?_
 subst e;simp only[go_sem];refine dh (cs:=dC _) rfl (km _) rfl λb6 h6 r6 e6 n6=>?_
 refine(Dc (P.ext (e5.trans e6)) PW).mono λr h7 ⟨e,W⟩=>?_
 have W:=W.symm;subst e W;rw[A];have t1:jq ⟨ch LS 9 9,2,2⟩ 5=4:=by decide+kernel
 have t2:kh ⟨ch LS 9 9,2,2⟩ 5=2:=by decide+kernel
 have t3:tN ⟨ch LS 9 9,2,2⟩ 5=1:=by decide+kernel
 have t4:vY ⟨ch LS 9 9,2,2⟩ 5=1:=by decide+kernel
 have I:aP 4 h6 (.pointer (some ⟨b6,1,none⟩))=some (.agg #[af 4,af 2,aH,aH]):=by
  refine HA [af 4,af 2,aH,aH] 4 rfl λj hj=>?_
  rw[am r6]
  match j,hj with
  |0,_=>exact congrArg (λn=>some (af n)) t1
  |1,_=>exact congrArg (λn=>some (af n)) t2
  |2,_=>exact congrArg (λn=>some (af n)) t3
  |3,_=>exact congrArg (λn=>some (af n)) t4
 have L:aM #[ai,ai,ai,ai] [(0,1,(af 4)),(1,1,(af 2)),(2,1,aH),(3,1,aH)]=some #[af 4,af 2,aH,aH]:=rfl;have H:aj (.st [(0,1,.i),(1,1,.i),(2,1,.i),(3,1,.i)]) .eql (.agg #[af 4,af 2,aH,aH]) (.agg #[af 4,af 2,aH,aH])=some (.bool true):=rfl;simp only[go_sem,kR,gn,aK,I,L,bG,H];exact⟨by simp,e1.trans (U.trans (F.trans (e4.trans (e5.trans e6))))⟩
end Go.Proofs.YtjljhnandbbldaaGreatDoor
namespace Go.Crisp
open Go Go.MapKept
section
section
variable {α:Type}
def fP (j:Int):List (Int×α)→Option α
 | []=>none
 |(k,v)::r=>if k=j then some v else fP j r
def Tz (j:Int)(v:α):List (Int×α)→List (Int×α)
 | []=>[(j,v)]
 |(k,u)::r=>if k=j then(j,v)::r else(k,u)::Tz j v r
def pH (j:Int):List (Int×α)→List (Int×α)
 | []=>[]
 |(k,u)::r=>if k=j then r else(k,u)::pH j r
def BR (j:Int):List (Int×α)→Nat→Option (Nat×α)
 | [],_=>none
 |(k,v)::r,i=>if k=j then some (i,v)else BR j r (i+1)
def qx {β:Type}(f:α→β)(l:List (Int×α)):List (Int×β):=l.map λp=>(p.1,f p.2)
theorem yx {β:Type}(f:α→β)(l:List (Int×α)):(qx f l).map Prod.fst=l.map Prod.fst:=by simp[qx,C6,Wz]
theorem rX {β:Type}(f:α→β)(j:Int):∀l:List (Int×α),fP j (qx f l)=(fP j l).map f
 | []=>rfl
 |(k,v)::r=>by
  have A:=rX f j r;unfold qx at A ⊢;simp only[ul,fP];split
  ·rfl
  ·exact A
theorem MT {β:Type}(f:α→β)(j:Int):∀l:List (Int×α),pH j (qx f l)=qx f (pH j l)
 | []=>rfl
 |(k,v)::r=>by
  have A:=MT f j r;unfold qx at A ⊢;simp only[ul,pH];split
  ·rfl
  ·simp[A]
end
def Fl (es:List MapEntry)(kv:List (Int×Value)):Prop:=es.map (λe=>(e.key,e.val))=kv.map λp=>(Value.int .i64 p.1,p.2)
def uv (h:ah)(b:Nat)(kv:List (Int×Value)):Prop:=∃es c,h[b]? =some (.map es c)∧Stamped es c∧Fl es.toList kv
theorem Fl.length {A:List MapEntry}{kv:List (Int×Value)}(H:Fl A kv):A.length=kv.length:=by
 have:=congrArg List.length H;simpa using this
theorem uv.nodup {h:ah}{b:Nat}{kv:List (Int×Value)}(H:uv h b kv):(kv.map Prod.fst).Nodup:=by
 obtain⟨D,c,_,G,F⟩:=H;have h1:D.toList.map (·.key)=(kv.map Prod.fst).map (Value.int .i64):=by
  have:=congrArg (List.map Prod.fst) F;simpa[C6,Wz]using this
 have A:=G.2.2;rw[h1]at A;unfold List.Nodup at A ⊢;rw[List.pairwise_map]at A;exact A.imp λh e=>h (by rw[e])
theorem uv.row {h h':ah}{b:Nat}{kv:List (Int×Value)}(H:uv h b kv)(r:h'[b]? =h[b]?):uv h' b kv:=by
 obtain⟨A,c,h1,D⟩:=H;exact⟨A,c,r.trans h1,D⟩
theorem uv.lt {h:ah}{b:Nat}{kv:List (Int×Value)}(H:uv h b kv):b<h.size:=by
 obtain⟨A,c,h1,_⟩:=H;exact bC h1
theorem uv.fr {M:Nat→Prop}{h h':ah}{b:Nat}{kv:List (Int×Value)}(H:uv h b kv)(f:Fr M h h')(A:¬M b):uv h' b kv:=H.row (f.2 b H.lt A)
theorem uv.ext {h h':ah}{b:Nat}{kv:List (Int×Value)}(H:uv h b kv)(e:Ext h h'):uv h' b kv:=H.row (e.2 b H.lt)
theorem HN (j:Int):∀(A:List MapEntry) (kv:List (Int×Value)) (i:Nat),Fl A kv→Instr.findNow (.int .i64) (af j) A i=some (BR j kv i)
 | [],kv,i,H=>by
  have:kv=[]:=mW (by rw[←Fl.length H];rfl);subst this;rfl
 |e::A,[],i,H=>by have:=Fl.length H;simp at this
 | e::A,(k,v)::kv,i,H=>by
  unfold Fl at H;simp only[ul,List.cons.injEq,za1]at H;obtain⟨⟨h1,G⟩,H⟩:=H;unfold Instr.findNow BR;rw[h1];have I:Instr.sameNow (.int .i64) (af j) (af k)=some (j==k):=by simp[Instr.sameNow]
  rw[I];by_cases D:k=j
  ·subst D;simp[G]
  ·have F:(j==k)=false:=by simp;exact λh=>D h.symm
   rw[F,az D];exact HN j A kv (i+1) H
theorem IT {α:Type}(j:Int):∀(kv:List (Int×α)) (i:Nat),(BR j kv i).map Prod.snd=fP j kv
 | [],_=>rfl
 |(k,v)::r,i=>by
  unfold BR fP;split
  ·rfl
  ·exact IT j r (i+1)
theorem qy {α:Type}{j:Int}:∀{kv:List (Int×α)},fP j kv=none↔j∉kv.map Prod.fst
 | []=>by simp[fP]
 |(k,v)::r=>by
  unfold fP;by_cases A:k=j
  ·simp[A]
  ·simp[A,qy (kv:=r),gY A]
theorem MR {α:Type}{j:Int}{kv:List (Int×α)}{i:Nat}(h:BR j kv i=none):fP j kv=none:=by
 rw[←IT j kv i,h];rfl
theorem Fe {α:Type}{j:Int}:∀{kv:List (Int×α)} {i m:Nat} {v:α},BR j kv i=some (m,v)→i≤m∧kv[m-i]? =some (j,v)∧(∀u,Tz j u kv=kv.set (m-i) (j,u))∧pH j kv=kv.eraseIdx (m-i)
 | [],_,_,_,h=>by cases h
 | (k,v)::r,i,m,u,h=>by
  unfold BR at h;split at h
  ·rename_i A;cases h;subst A;simp[Tz,pH]
  ·rename_i A;obtain⟨h1,G,F,H⟩:=Fe h;have D:m-i=(m-(i+1))+1:=ae;refine⟨ae,?_,λu=>?_,?_⟩
   ·rw[D];simpa using G
   ·rw[D];simp[Tz,A,F u]
   ·rw[D];simp[pH,A,H]
theorem IU {α:Type}{j:Int}{v:α}:∀{kv:List (Int×α)},fP j kv=some v→kv.Perm ((j,v)::pH j kv)
 | (k,u)::r,h=>by
  unfold fP at h;unfold pH;split at h
  ·rename_i A;cases h;subst A;rw[aA rfl]
  ·rename_i A;rw[az A];exact((IU h).cons (k,u)).trans (List.Perm.swap ..)
theorem MQ {α:Type}{j:Int}{v:α}:∀{kv:List (Int×α)},fP j kv=some v→(j,v)∈kv
 | (k,u)::r,h=>by
  unfold fP at h;split at h
  ·rename_i A;cases h;subst A;exact Hq ..
  ·exact xA _ (MQ h)
theorem JJ {α:Type}{j:Int}{v:α}:∀{kv:List (Int×α)},(kv.map Prod.fst).Nodup→(j,v)∈kv→fP j kv=some v
 | (k,u)::r,hn,h=>by
  unfold fP;rw[ul,List.nodup_cons]at hn;rcases kw.1 h with h|h
  ·cases h;rw[aA rfl]
  ·rw[az]
   ·exact JJ hn.2 h
   ·rintro rfl;exact hn.1 (gO.2 ⟨_,h,rfl⟩)
theorem HE {α:Type}{j i:Int}:∀{kv:List (Int×α)},(kv.map Prod.fst).Nodup→fP i (pH j kv)=if i=j then none else fP i kv
 | [],_=>by simp[pH,fP]
 | (k,u)::r,hn=>by
  rw[ul,List.nodup_cons]at hn;unfold pH;by_cases D:k=j
  ·subst D;rw[aA rfl];by_cases hi:i=k
   ·subst hi;rw[aA rfl];exact qy.2 hn.1
   ·rw[az hi,fP,az (gY hi)]
  ·rw[az D];unfold fP;by_cases A:k=i
   ·subst A;rw[aA rfl,az D,aA rfl]
   ·rw[az A,az A];exact HE hn.2
theorem MS {α:Type}{j:Int}:∀{kv:List (Int×α)},(pH j kv).Sublist kv
 | []=>List.Sublist.refl _
 |(k,u)::r=>by
  unfold pH;split
  ·exact List.sublist_cons_self ..
  ·exact MS.cons_cons _
def Tt (ok:Bool)(z:Value):Option Value→Value
 |some v=>bif ok then .tuple #[v,.bool true]else v
 |none=>bif ok then .tuple #[z,.bool false]else z
theorem MJ {h:ah}{b:Nat}{kv:List (Int×Value)}(H:uv h b kv)(z:Value)(ok:Bool)(j:Int):JG (.int .i64) z ok h (.map (some b)) (af j)=some (Tt ok z (fP j kv)):=by
 obtain⟨A,c,F,_,D⟩:=H;have G:Tq h (.map (some b))=some (A,c):=by unfold Tq;simp[F]
 unfold JG;simp only[G,HN j A.toList kv 0 D];rw[←IT j kv 0];cases BR j kv 0 with
 |none=>rfl
 |some p=>rfl
theorem RW {h:ah}{b:Nat}{kv:List (Int×Value)}(H:uv h b kv):Px h (.map (some b))=some (af (kv.length:Nat)):=by
 obtain⟨F,c,D,_,A⟩:=H;unfold Px;simp only[D];rw[←A.length,Hs]
theorem MP {α:Type}{j:Int}{v:α}:∀{kv:List (Int×α)},fP j kv=none→Tz j v kv=kv++[(j,v)]
 | [],_=>rfl
 | (k,u)::r,h=>by
  unfold fP at h;split at h
  ·cases h
  ·rename_i A;simp[Tz,A,MP h]
theorem PC {α:Type}{j:Int}:∀{kv:List (Int×α)},fP j kv=none→pH j kv=kv
 | [],_=>rfl
 | (k,u)::r,h=>by
  unfold fP at h;split at h
  ·cases h
  ·rename_i A;simp[pH,A,PC h]
theorem zaO {h:ah}{b:Nat}{kv:List (Int×Value)}{j:Int}{v:Value}{K:Value→ah→Prop}(H:uv h b kv)(HK:∀h',uv h' b (Tz j v kv)→Upd b h h'→K undef h'):
  tW (.int .i64) (.map (some b)) (af j) v h K:=by
 obtain⟨W,c,hb,hs,D⟩:=H;unfold tW;simp only[hb,HN j W.toList kv 0 D];cases hf:BR j kv 0 with
 | none=>
  have hg:=MR hf;simp only;refine HK _ ⟨_,_,mB hb,stamped_push hs λx U aa=>?_,?_⟩ Upd.set
  ·have h1:j∈kv.map Prod.fst:=by
    have:(x.key,x.val)∈kv.map λp=>(af p.1,p.2):=by rw[←D];exact gO.2 ⟨x,U,rfl⟩
    obtain⟨p,hp,I⟩:=gO.1 this;rw[aa]at I;have G:=congrArg Prod.fst I;simp at G;exact gO.2 ⟨p,hp,G⟩
   exact qy.1 hg h1
  ·unfold Fl at D ⊢;rw[MP hg,Array.toList_push,jT,D,jT];rfl
 | some p=>
  obtain⟨i,u⟩:=p;obtain⟨_,G,h3,_⟩:=Fe hf;rw[zg]at G h3;have hi:i<kv.length:=(KI.1 G).1;have A:i<W.size:=by rw[←Hs,D.length];exact hi
  have F:W[i].key=af j:=by
   have h4:=congrArg (λl=>(l[i]?).map Prod.fst) D;simp only[w7,G,cI,uj,qu A]at h4;exact sN h4
  simp only;refine⟨?_,HK _ ⟨_,_,mB hb,stamped_modify hs i _ (λe _=>rfl) (λe _ U=>?_),?_⟩ Upd.set⟩
  ·rw[qu A];simp only[cI,Option.getD_some,F];simp[Instr.sameBits]
  ·rw[qu A]at U;cases U;exact F.symm
  ·rw[h3];unfold Fl at D ⊢;apply List.ext_getElem?;intro m;have L:=congrArg (λl=>l[m]?) D;simp only[w7,uj]at L ⊢;rw[KU,List.getElem?_set];by_cases hm:i=m
   ·subst hm;rw[aA rfl,aA rfl,aA hi,qu A];rfl
   ·rw[az hm,az hm];exact L
theorem IK {α β:Type}(f:α→β):∀(l:List α) (i:Nat),(l.eraseIdx i).map f=(l.map f).eraseIdx i
 | [],_=>rfl
 |a::l,0=>rfl
 |a::l,i+1=>by simp[IK f l i]
theorem Fl.key {D:List MapEntry}{kv:List (Int×Value)}(H:Fl D kv){e:MapEntry}(G:e∈D):∃j,e.key=af j∧(j,e.val)∈kv:=by
 have:(e.key,e.val)∈kv.map λp=>(af p.1,p.2):=by rw[←H];exact gO.2 ⟨e,G,rfl⟩
 obtain⟨p,I,A⟩:=gO.1 this;have h1:=congrArg Prod.fst A;have F:=congrArg Prod.snd A;simp only at h1 F;exact⟨p.1,h1.symm,by rw[←F];exact I⟩
theorem ZD {h:ah}{b:Nat}{kv:List (Int×Value)}{j:Int}{K:Value→ah→Prop}(H:uv h b kv)
  (HK:∀h',uv h' b (pH j kv)→Upd b h h'→(∀D c,h[b]? =some (.map D c)→∃A,h'[b]? =some (.map A c)∧∀e∈A,e∈D∧e.key≠af j)→K (.tuple #[]) h'):
  oA (.int .i64) (.map (some b)) (af j) h K:=by
 have H0:=H;have al:=H.nodup;obtain⟨D,c,F,hs,I⟩:=H;have sub:∃h',uv h' b (pH j kv)∧Upd b h h'∧(∃A,h'[b]? =some (.map A c)∧(∀e∈A,e∈D)∧Fl A.toList (pH j kv))∧∀K:Value→ah→Prop,K (.tuple #[]) h'→oA (.int .i64) (.map (some b)) (af j) h K:=by
  cases hf:BR j kv 0 with
  |none=>
   have W:Fl D.toList (pH j kv):=by rw[PC (MR hf)];exact I
   refine⟨_,⟨D,c,mB F,hs,W⟩,Upd.set,⟨D,mB F,λe h=>h,W⟩,λK L=>?_⟩;unfold oA;simp only[F,HN j D.toList kv 0 I,hf];exact L
  | some p=>
   obtain⟨i,u⟩:=p;obtain⟨_,h2,_,h4⟩:=Fe hf;rw[zg]at h2 h4;have hi:i<kv.length:=(KI.1 h2).1;have G:i<D.size:=by rw[←Hs,I.length];exact hi
   have W:Fl (D.eraseIdxIfInBounds i).toList (pH j kv):=by
    rw[h4];unfold Fl at I ⊢;rw[Array.eraseIdxIfInBounds,Hb G];have:(D.eraseIdx i G).toList=D.toList.eraseIdx i:=by simp
    rw[this,IK,I,←IK]
   refine⟨_,⟨_,_,mB F,stamped_erase hs i,W⟩,Upd.set,⟨_,mB F,λe h=>?_,W⟩,λK L=>?_⟩
   ·rw[Array.eraseIdxIfInBounds,Hb G,←Rm,Array.toList_eraseIdx]at h;rw[←Rm];exact(List.eraseIdx_sublist ..).subset h
   ·unfold oA;simp only[F,HN j D.toList kv 0 I,hf];exact L
 obtain⟨h',m',u',⟨A,ab,U,ad⟩,L⟩:=sub;refine L K (HK h' m' u' λan c0 h0=>?_);rw[F]at h0;cases h0;refine⟨A,ab,λe h=>⟨U e h,λaa=>?_⟩⟩;obtain⟨i,hi,hm⟩:=ad.key (Rm.2 h);rw[aa]at hi;cases hi;have h1:=JJ m'.nodup hm;rw[HE al,aA rfl]at h1;cases h1
theorem zaU {h:ah}{K:Value→ah→Prop}(A:∀b h',uv h' b []→Ext h h'→h.size≤b→K (.map (some b)) h'):V0 h K:=
 A h.size _ ⟨#[],0,rK,stamped_empty 0,rfl⟩ (Ext.push h _) (cq _)
end
end Go.Crisp
namespace Go.Proofs.YtjljhnandbbldaaGreatDoor
open Go Go.Crisp
open _root_.Go.Proofs.Tryz
def Gs:Go.Shelf.Ren:=⟨λn=>match n with|8=>290|11=>305|n=>n,λn=>match n with|0=>0|24=>28|26=>2|28=>368|33=>332|n=>n,λn=>n⟩
theorem OY:Go.Proofs.SlLaysZI.n8 prog Gs where
 mixed:=by kernel_rfl
 f8:=⟨"slices.Collect[int64]",by kernel_rfl,by kernel_rfl⟩
 f11:=⟨"slices.AppendSeq[[]int64,int64]",by kernel_rfl,by kernel_rfl⟩
 t0:=by kernel_rfl
 a0:=λw=>co (by kernel_rfl)
 z0:=λw=>bD (by kernel_rfl)
 v0:=λw=>bi (by kernel_rfl)
 t24:=by kernel_rfl
 a24:=λw=>co (by kernel_rfl)
 z24:=λw=>bD (by kernel_rfl)
 v24:=λw=>bi (by kernel_rfl)
 t26:=by kernel_rfl
 a26:=λw=>co (by kernel_rfl)
 z26:=λw=>bD (by kernel_rfl)
 v26:=λw=>bi (by kernel_rfl)
 t28:=by kernel_rfl
 a28:=λw=>co (by kernel_rfl)
 z28:=λw=>bD (by kernel_rfl)
 v28:=λw=>bi (by kernel_rfl)
 i26:=by kernel_rfl
def Bv:Go.Shelf.Ren:=⟨λn=>match n with|10=>306|n=>n,λn=>match n with|0=>0|3=>28|4=>4|23=>284|26=>2|33=>332|n=>n,λn=>n⟩
theorem MO:Go.Proofs.SlLaysZI.n10 prog Bv where
 mixed:=by kernel_rfl
 f10:=⟨"maps.Keys[map[int64][]int64,int64,[]int64]$1",by kernel_rfl,by kernel_rfl⟩
 t0:=by kernel_rfl
 a0:=λw=>co (by kernel_rfl)
 z0:=λw=>bD (by kernel_rfl)
 v0:=λw=>bi (by kernel_rfl)
 t4:=by kernel_rfl
 a4:=λw=>co (by kernel_rfl)
 z4:=λw=>bD (by kernel_rfl)
 v4:=λw=>bi (by kernel_rfl)
 t23:=by kernel_rfl
 a23:=λw=>co (by kernel_rfl)
 z23:=λw=>bD (by kernel_rfl)
 v23:=λw=>bi (by kernel_rfl)
 t26:=by kernel_rfl
 a26:=λw=>co (by kernel_rfl)
 z26:=λw=>bD (by kernel_rfl)
 v26:=λw=>bi (by kernel_rfl)
 t33:=by kernel_rfl
 a33:=λw=>co (by kernel_rfl)
 z33:=λw=>bD (by kernel_rfl)
 v33:=λw=>bi (by kernel_rfl)
def vi (x:Int):Value:=.int .i64 x
def lH (h:ah)(v:Value)(l:List Int):Prop:=
 ∃a cap,v=.slice a l.length cap∧(l=[]∨∃b o,a=some ⟨b,o,none⟩∧∀i (hi:i<l.length),aG h ⟨b,o+i,none⟩=some (vi l[i]))
theorem lH.ext {h h':ah}{v:Value}{l:List Int}(H:lH h v l)(e:Ext h h'):lH h' v l:=by
 obtain⟨a,cap,rfl,A⟩:=H;refine⟨a,cap,rfl,A.imp id ?_⟩;rintro⟨b,o,rfl,hc⟩;exact⟨b,o,rfl,λi hi=>e.cell (hc i hi)⟩
def Jg (a b:List Int):Bool:=decide (a.length=b.length)&&(a.zip b).all λp=>decide (p.1≤p.2)
theorem NM {a b:List Int}(h:a.length=b.length):Jg a b=true↔ ∀i (hi:i<a.length),a[i]≤b[i]'(h▸hi):=by
 simp only[Jg,h,gn,Hj,C4,dI];constructor
 ·intro H i hi;have:=H (a[i],b[i]'(h▸hi)) (by rw[oC];exact⟨i,by simp;omega,by simp⟩);exact this
 ·intro H p A;obtain⟨i,hi,rfl⟩:=oC.1 A;simp only[List.length_zip]at hi;simpa using H i ae
theorem zbE {h:ah}{a b:Value}{D lb:List Int}(ha:lH h a D)(hb:lH h b lb)(hn:D.length≤9223372036854775807):
  ag prog xT #[a,b] h λv h'=>v=.bool (Jg D lb)∧h'=h:=by
 apply Mu;unfold Bo;obtain⟨A,ca,rfl,L⟩:=ha;obtain⟨B,cb,rfl,U⟩:=hb;simp only[IR,ak,yC];refine jW (λaa=>?_) (λhe=>?_)
 ·refine⟨?_,trivial⟩;have:¬D.length=lb.length:=by simp at aa;omega
  simp[Jg,this]
 ·have hl:D.length=lb.length:=by simp at he;omega
  refine dx (λd xs h'=>h'=h∧∃k:Nat,k+d=D.length∧xs=[af k]∧∀i (hi:i<k) (h1:i<D.length),D[i]≤lb[i]'(hl▸h1)) D.length ⟨rfl,0,ae,rfl,λi hi=>ae⟩ ?_;rintro d _ ρj _ again ⟨rfl,k,hk,rfl,G⟩ W;simp only[iC,cD,ak];refine ao (λad=>?_) (λal=>?_)
  ·have F:k<D.length:=ae;have H:k<lb.length:=ae;rcases L with rfl|⟨b1,o1,rfl,L⟩
   ·simp at F
   rcases U with rfl|⟨b2,o2,rfl,U⟩
   ·simp at H
   simp only[rY F,rY H,ak,un,lT,L k F,U k H,vi,oJ];refine ao (λan=>?_) (λab=>?_)
   ·refine⟨?_,trivial⟩
    congr 1
    rw[eq_comm,Hn];intro I;have:=(NM hl).1 I k F;omega
   ·simp only[dw,ak];rw[w64 ae ae];refine W _ _ (d-1) ae ⟨rfl,k+1,ae,rfl,λi hi h1=>?_⟩;rcases Wc.1 hi with hi|rfl
    ·exact G i hi h1
    ·omega
  ·refine⟨?_,trivial⟩
   congr 1
   rw[eq_comm,NM hl];intro i hi;exact G i ae hi
theorem WR {a b:List Int}(h:a.length=b.length):a=b↔ ∀i (hi:i<a.length),a[i]=b[i]'(h▸hi):=
 ⟨λe i hi=>by subst e;rfl,λH=>qw h λi h1 A=>H i h1⟩
theorem XZ {h:ah}{a b:Value}{D lb:List Int}(ha:lH h a D)(hb:lH h b lb)(hn:D.length≤9223372036854775807):
  ag prog fY #[a,b] h λv h'=>v=.bool (decide (D=lb))∧h'=h:=by
 apply pF;unfold jd;obtain⟨A,ca,rfl,U⟩:=ha;obtain⟨B,cb,rfl,W⟩:=hb;simp only[IR,ak,yC];refine jW (λad=>?_) (λhe=>?_)
 ·refine⟨?_,trivial⟩;have:¬D=lb:=λe=>by subst e;simp at ad
  simp[this]
 ·have hl:D.length=lb.length:=by simp at he;omega
  refine dx (λd xs h'=>h'=h∧∃k:Nat,k+d=D.length∧xs=[af k]∧∀i (hi:i<k) (h1:i<D.length),D[i]=lb[i]'(hl▸h1)) D.length ⟨rfl,0,ae,rfl,λi hi=>ae⟩ ?_;rintro d _ ρj _ again ⟨rfl,k,hk,rfl,G⟩ aa;simp only[iC,cD,ak];refine ao (λal=>?_) (λan=>?_)
  ·have F:k<D.length:=ae;have H:k<lb.length:=ae;rcases U with rfl|⟨b1,o1,rfl,U⟩
   ·simp at F
   rcases W with rfl|⟨b2,o2,rfl,W⟩
   ·simp at H
   simp only[rY F,rY H,ak,un,lT,U k F,W k H,vi,yC];refine jW (λab=>?_) (λL=>?_)
   ·refine⟨?_,trivial⟩
    congr 1
    rw[eq_comm,G0];intro I;have:=(WR hl).1 I k F;simp[this]at ab
   ·simp only[dw,ak];rw[w64 ae ae];refine aa _ _ (d-1) ae ⟨rfl,k+1,ae,rfl,λi hi h1=>?_⟩;rcases Wc.1 hi with hi|rfl
    ·exact G i hi h1
    ·simpa using L
  ·refine⟨?_,trivial⟩
   congr 1
   rw[eq_comm,dI,WR hl];intro i hi;exact G i ae hi
theorem zbP {h:ah}{a b:Value}{A lb:List Int}(G:lH h a A)(F:lH h b lb)(D:A.length≤9223372036854775807):
  ag prog xU #[a,b] h λv h'=>v=.bool (decide (A=lb))∧h'=h:=by
 apply Mv;unfold Bp;refine(XZ G F D).mono ?_;rintro _ _ ⟨rfl,rfl⟩;exact⟨rfl,rfl⟩
def Ji (a b:List Int):Bool:=Jg a b&& !decide (a=b)
theorem Xb {h:ah}{a b:Value}{D lb:List Int}(H:lH h a D)(G:lH h b lb)(F:D.length≤9223372036854775807):
  ag prog rh #[a,b] h λv h'=>v=.bool (Ji D lb)∧h'=h:=by
 apply Mw;unfold Bq;refine(zbE H G F).mono ?_;rintro _ _ ⟨rfl,rfl⟩;cases A:Jg D lb with
 |false=>simp only[go_sem];exact⟨by simp[Ji,A],trivial⟩
 |true=>
  simp only[go_sem];refine(zbP H G F).mono ?_;rintro _ _ ⟨rfl,rfl⟩;simp only[go_sem];exact⟨by simp[Ji,A],trivial⟩
end Go.Proofs.YtjljhnandbbldaaGreatDoor
namespace Go.Proofs.YtjljhnandbbldaaGreatDoor
open Go Go.Crisp
attribute [local irreducible] ag di aW stK aF vK qK bK gK fo bA mkK dk Fm
open _root_.Go.Proofs.Tryz
def kj (h:ah)(v:Value)(l:List Int):Prop:=Own 1 h v l.length (l.map vi)
theorem lH.sl {h:ah}{v:Value}{l:List Int}(H:lH h v l):SlC 1 h v l.length (l.map vi):=by
 obtain⟨a,cap,rfl,H⟩:=H;refine⟨by simp,a,cap,rfl,?_⟩;rcases H with rfl|⟨b,o,rfl,H⟩
 ·exact .inl rfl
 ·exact .inr ⟨b,o,rfl,λj A=>by rw[eT];exact H j (by simpa using A)⟩
theorem WG {h:ah}{v:Value}{l:List Int}(H:SlC 1 h v l.length (l.map vi)):lH h v l:=by
 obtain⟨_,a,cap,rfl,H⟩:=H;refine⟨a,cap,rfl,?_⟩;rcases H with H|⟨b,o,rfl,H⟩
 ·exact .inl (by simpa using H)
 ·refine .inr ⟨b,o,rfl,λj A=>?_⟩;have:=H j (by simpa using A);rw[eT]at this;exact this
theorem kj.ints {h:ah}{v:Value}{l:List Int}(H:kj h v l):lH h v l:=WG (Own.sl H)
theorem Uu {l:List Int}:∀v∈l.map vi,aR v=true:=by
 intro v A;obtain⟨x,_,rfl⟩:=gO.1 A;rfl
def PD (a b:List Int):List Int:=(List.range (max a.length b.length)).map λi=>max (a.getD i 0) (b.getD i 0)
theorem zw (a b:List Int):(PD a b).length=max a.length b.length:=by simp[PD]
theorem Pi (n:Nat)(f:Nat→Int)(i:Nat)(x:Int):(((List.range n).map f).map vi).set i (vi x)=((List.range n).map λk=>if k=i then x else f k).map vi:=by
 apply qw
 ·simp
 ·intro k h1 A;rw[GY];simp only[eT,y7, @eq_comm _ k i];split<;>rfl
theorem K6 {l:List Int}{k:Nat}(h:k<l.length):l.getD k 0=l[k]:=by simp[List.getD,h]
theorem M5 {l:List Int}{k:Nat}(h:l.length≤k):l.getD k 0=0:=by simp[List.getD,GV h]
theorem zc5 {h:ah}{v u:Value}{a b:List Int}(ha:lH h v a)(hb:lH h u b)(la:a.length≤4398046511104)(lb:b.length≤4398046511104):
  ag prog Aa #[v,u] h λr h'=>kj h' r (PD a b)∧Ext h h'∧∀k,blk r k→h.size≤k:=by
 apply OR;unfold Eb;obtain⟨aa,ac,rfl,_⟩:=ha;obtain⟨ba,bc,rfl,_⟩:=hb;have an:lH h (.slice aa a.length ac) a:=⟨_,_,rfl,by assumption⟩
 have ad:lH h (.slice ba b.length bc) b:=⟨_,_,rfl,by assumption⟩
 simp only[go_sem];rw[show max (a.length:Int) (b.length:Int)=((max a.length b.length:Nat):Int)by omega];generalize hn:max a.length b.length=n;refine og rfl (by omega) (by omega) λs h1 o1 e1 n1=>?_
 refine HZ o1 (an.ext e1).sl Uu λD o2 f2 _=>?_
 have e2:Ext h D:=e1.then_fr f2 n1;have ar:Own 1 D s n (((List.range n).map λk=>a.getD k 0).map vi):=by
  have:(a.map vi).take n++(List.replicate n (Value.int .i64 0)).drop a.length=((List.range n).map λk=>a.getD k 0).map vi:=by
   apply List.ext_getElem
   ·simp;omega
   ·intro k h1 D;simp only[List.getElem_map,List.getElem_range,List.getElem_append,List.getElem_take,List.getElem_drop,List.getElem_replicate];split
    ·rename_i A;rw[List.length_take,List.length_map]at A;rw[K6 (show k<a.length by omega)]
    ·rename_i A;rw[List.length_take,List.length_map]at A;simp at D;rw[M5 (show a.length≤k by omega)];rfl
  rw[←this];exact o2
 refine Fc b.length (λk h'=>k≤b.length∧Own 1 h' s n (((List.range n).map λj=>if j<k then max (a.getD j 0) (b.getD j 0)else a.getD j 0).map vi)∧Ext h h') ⟨Nat.zero_le _,by simpa using ar,e2⟩ ?_;rintro k h3 again ρj ⟨au,W,U⟩ I;simp only[go_sem];refine ao (λA=>?_) (λA=>?_)
 ·have A:k<b.length:=by omega
  obtain⟨p,hp,hq⟩:=(ad.ext U).sl.at1 (k:=.i64) A;rw[List.getElem_map]at hq;obtain⟨p',F,H,L⟩:=W.at1 (k:=.i64) (i:=k) (by omega);have G:∀x:Int,x=max (a.getD k 0) (b.getD k 0)→stK 1 p' (.int .i64 x) h3 λax al=>again [.int .i64 (IntKind.i64.wrap ((k:Int)+1))] al:=by
   intro x hx;refine L _ _ rfl λh4 o4 f4 _=>?_
   rw[w64 (by omega) (by omega)];refine I h4 A ⟨A,?_,U.then_fr f4 n1⟩;rw[show(Value.int .i64 x)=vi x from rfl,Pi]at o4;refine(congrArg (λl:List Int=>Own 1 h4 s n (l.map vi)) ?_).mp o4;apply List.map_congr_left;intro j _;subst hx;by_cases h1:j=k
   ·subst h1;simp
   ·simp only[h1,if_false];by_cases D:j<k
    ·simp[D,Nat.lt_succ_of_lt D]
    ·simp[D,show¬j<k+1 by omega]
  simp only[go_sem,hp,hq,vi];refine ao (λay=>?_) (λaw=>?_)
  ·simp only[go_sem,F];refine G _ ?_;rw[M5 (show a.length≤k by omega),K6 A]
  ·simp only[go_sem,F,H];rw[List.getElem_map,List.getElem_map,List.getElem_range,if_neg (Nat.lt_irrefl k)];simp only[vi,go_sem];exact G _ (by rw[K6 A])
 ·obtain rfl:k=b.length:=by omega
  refine Pu a.length b.length (λk h'=>Own 1 h' s n (((List.range n).map λj=>if j<k then max (a.getD j 0) (b.getD j 0)else a.getD j 0).map vi)∧Ext h h') ⟨W,U⟩ ?_;rintro k h3 again ρj ab ⟨W,U⟩ I;simp only[go_sem];refine ao (λA=>?_) (λA=>?_)
  ·have A:k<a.length:=by omega
   obtain⟨p',F,H,L⟩:=W.at1 (k:=.i64) (i:=k) (by omega);simp only[go_sem,F,H];rw[List.getElem_map,List.getElem_map,List.getElem_range,if_neg (Nat.lt_irrefl k)];simp only[vi,go_sem];refine L _ _ rfl λh4 o4 f4 _=>?_
   rw[w64 (by omega) (by omega)];refine I h4 A ⟨?_,U.then_fr f4 n1⟩;rw[show(Value.int .i64 (max 0 (a.getD k 0)))=vi (max 0 (a.getD k 0))from rfl,Pi]at o4;refine(congrArg (λl:List Int=>Own 1 h4 s n (l.map vi)) ?_).mp o4;apply List.map_congr_left;intro j _;by_cases h1:j=k
   ·subst h1;rw[if_pos rfl,if_pos (Nat.lt_succ_self j),M5 ab,Int.max_comm]
   ·simp only[h1,if_false];by_cases D:j<k
    ·simp[D,Nat.lt_succ_of_lt D]
    ·simp[D,show¬j<k+1 by omega]
  ·refine⟨?_,U,n1⟩;unfold kj;rw[zw,hn];refine(congrArg (λl:List Int=>Own 1 h3 s n (l.map vi)) ?_).mp W;unfold PD;rw[hn];apply List.map_congr_left;intro j hj;rw[if_pos (by have:=List.mem_range.1 hj;omega)]
end Go.Proofs.YtjljhnandbbldaaGreatDoor
namespace Go.Proofs.YtjljhnandbbldaaGreatDoor
open Go Go.Crisp Go.MapKept Go.RowKit
attribute [local irreducible] di aW stK aF vK qK bK gK fo bA mkK dk Fm
open _root_.Go.Proofs.Tryz
theorem UP {w:World}{D:Nat}{e:TypeId}{v:Value}{A:List Int}(H:w.ownsRow D e 1 v A.length (A.map encZ)):kj w.heap v A∧∀b,blk v b→D≤b:=by
 obtain⟨_,H⟩:=H;rcases H with⟨rfl,I⟩|⟨g,cap,cur,rfl,G,U,hc,_,L,F⟩
 ·have:A=[]:=mW I;subst this;exact⟨.inl ⟨rfl,rfl,rfl⟩,λb G=>G.elim⟩
 ·refine⟨.inr ⟨g,cap,cur.toList.drop A.length,e,rfl,hc,by simp,?_,?_⟩,λb h=>by rw[show b=g from h];exact G⟩
  ·rw[lT]at F;rw[show A.map vi=A.map encZ from rfl,←F,lS,Hs];exact L
  ·rw[lT]at F;rw[show A.map vi=A.map encZ from rfl,←F,lS,C1];exact U
theorem Yq {w w':World}(H:Below w.heap.size w w'):dF w w'∧Ext w.heap w'.heap:=⟨⟨H.os,H.tape,H.output⟩,H.size,λb A=>H.block b A⟩
def noR:Value→Option (DataW Unit×List MemPlace):=λ_=>some (.nil,[])
theorem JK (x:Lit×DataW Unit):∀l:List (Lit×DataW Unit),(DataW.insert x l).Perm (x::l)
 | []=>GW _
 |y::r=>by
  unfold DataW.insert;split
  ·exact GW _
  ·exact((JK x r).cons y).trans (List.Perm.swap x y r)
theorem Fj:∀l:List (Lit×DataW Unit),(l.foldr DataW.insert []).Perm l
 | []=>GW _
 |x::l=>by
  rw[List.foldr_cons];exact(JK x _).trans ((Fj l).cons x)
theorem YX {P:Program}{k:TypeId}{w:World}{b:Nat}{kv:List (Int×Value)}(hk:P.underlying k=some (.int .i64))(H:uv w.heap b kv)(hw:∀p∈kv,(Lit.int .i64 p.1).wf=true)(hl:kv.length≤maxLen):
  ∃D:DataW Unit,w.ownsMap P k noR b kv.length D∧(intKeys D).Perm (kv.map Prod.fst)∧Go.Maps.size D=kv.length:=by
 obtain⟨U,c,hb,hs,he⟩:=H;have A:=he.length;have G:∀x∈U.toList,∃j,x.key=.int .i64 j∧(Lit.int .i64 j).wf=true:=λx I=>by
  have:(x.key,x.val)∈kv.map λp=>(Value.int .i64 p.1,p.2):=by rw[←he];exact List.mem_map.2 ⟨x,I,rfl⟩
  obtain⟨p,hp,aa⟩:=List.mem_map.1 this;exact⟨p.1,(congrArg Prod.fst aa).symm,hw p hp⟩
 have W:∀x∈U.toList,∀j,x.key=.int .i64 j→(Lit.int .i64 j).wf=true→WideElems.rd P k noR x=some (.int .i64 j,.nil):=λx I j L F=>by
  unfold WideElems.rd;rw[L];simp[keyOf,hk,mapKey,F,noR]
 refine⟨.map ((U.toList.map (WideElems.rg P k noR)).foldr DataW.insert []),⟨U,c,hb,⟨by rw[←Array.length_toList,A];exact hl,hs,λx I=>?_⟩,by rw[←Array.length_toList,A];exact Nat.le_refl _,rfl⟩,?_,?_⟩
 ·obtain⟨j,L,F⟩:=G x I;exact⟨_,W x I j L F⟩
 ·have h1:(U.toList.map (WideElems.rg P k noR)).map (λp=>_root_.Go.intOf p.1)=kv.map Prod.fst:=by
   have h2:kv.map Prod.fst=(kv.map λp=>(Value.int .i64 p.1,p.2)).map λq=>match q.1 with| .int _ n=>n|_=>0:=by simp[List.map_map,Function.comp_def]
   rw[h2,←he,List.map_map,List.map_map];refine List.map_congr_left λx I=>?_
   obtain⟨j,L,F⟩:=G x I;simp only[Function.comp_def];rw[WideElems.rg_of (W x I j L F),L];rfl
  rw[←h1];exact(Fj _).map _
 ·show(List.foldr DataW.insert [] _).length=_;rw[(Fj _).length_eq,List.length_map,A]
theorem Vo {P:Program}{f:FuncId}{args:Array Value}{w:World}{n:Nat}{R A:Ending→World→Prop}(H:CallsIn Fence.wide n P f args w R)(D:∀e w',R e w'→A e w'):Calls P f args w A:=(callsIn_wide.1 H).mono D
theorem Ug {h:ah}{F b:Nat}{t:TypeId}{kv:List (Int×Value)}(r1:h[F]? =some (.cells #[.map (some b)] t (0,0)))(I:uv h b kv)(U:∀p∈kv,(Lit.int .i64 p.1).wf=true)(hl:kv.length≤1000000):
  ag prog oS #[.func (.func dG) #[] #[.pointer (some ⟨F,0,none⟩)]] h λr h'=>∃ss:List Int,ss.Perm (kv.map Prod.fst)∧kj h' r ss∧Ext h h'∧∀k,blk r k→h.size≤k:=by
 refine ag.ofCalls (by kernel_rfl) λw hh=>?_
 subst hh;obtain⟨D,W,H,G⟩:=YX (P:=prog) (k:=(Bv).t 26) MO.t26 I U (by unfold maxLen;omega);have seq:=AnyZI.keys_gives MO Fence.wide 3 trivial rfl ae F b kv.length D w (bC r1) (show aG w.heap ⟨F,0,none⟩=_ from by rw[am r1];rfl) W;have:=AnyZI.collect_in OY Fence.wide 5 trivial trivial rfl ae _ #[.pointer (some ⟨F,0,none⟩)] trivial (λargs w=>yS (by kernel_rfl)) _ _ (by rw[G];unfold maxLen;omega) (by rw[G];omega) w seq;refine Vo this ?_;rintro e w' ⟨v,ss,rfl,hS,A,_,L⟩;obtain⟨o,n⟩:=UP A;obtain⟨s,e⟩:=Yq L;exact⟨v,rfl,s,ss,hS.trans H,o,e,n⟩
end Go.Proofs.YtjljhnandbbldaaGreatDoor
namespace Go.Proofs.YtjljhnandbbldaaGreatDoor
open Go Go.Crisp
attribute [local irreducible] ag di aW stK aF vK qK bK gK fo bA mkK dk Fm
open _root_.Go.Proofs.Tryz
theorem Qy {h:ah}:kj h (.slice none 0 0) []:=.inl ⟨rfl,rfl,rfl⟩
theorem HU (a:Addr)(n c n' c':Nat):aj .sl .eql (.slice (some a) n c) (.slice none n' c')=some (.bool false):=cP rfl rfl
theorem HV (n c n' c':Nat):aj .sl .eql (.slice none n c) (.slice none n' c')=some (.bool true):=cP rfl rfl
theorem PP {e:TypeId}{h:ah}{v:Value}{l:List Int}{K:Value→ah→Prop}(U:lH h v l)(hl:l.length≤4398046511104)
  (H:∀r h',kj h' r l→Ext h h'→(∀b,blk r b→h.size≤b)→K r h'):di #[] e 0 [] h λL A=>dk ai e 1 8 L v A K:=by
 refine dc (c':=#[]) (by kernel_rfl) λb h1 r1 D F=>?_
 refine vM (n:=0) (cs:=[]) (.inr ⟨b,0,[],e,rfl,cq _,rfl,rfl,r1⟩) (U.ext D).sl Uu rfl ae ae λI G o2 f2 n2=>?_
 rw[aK,fG]at o2;refine H I G o2 (D.then_fr f2 λi hi=>by rw[show i=b from hi];exact F) λk W=>?_
 rcases n2 k W with A|A
 ·rw[show k=b from A];exact F
 ·exact aZ D.1 A
theorem W9 {h:ah}{v:Value}{l:List Int}(A:lH h v l)(G:l.length≤4398046511104):
  ag prog dK #[v] h λr h'=>kj h' r l∧Ext h h'∧∀b,blk r b→h.size≤b:=by
 apply pG;unfold je;have D:=A;obtain⟨a,cap,rfl,A⟩:=A;cases a with
 |none=>
  simp only[HV,go_sem];rcases A with rfl|⟨b,o,h1,_⟩
  ·exact⟨Qy,Ext.refl h,λb F=>F.elim⟩
  ·cases h1
 |some a=>
  simp only[HU,go_sem];exact PP D G λr h' o e n=>⟨o,e,n⟩
structure lM (M:Nat→Prop)(h:ah)(bc:Nat)(sl:Value)(sv:Nat→Value)(t:TypeId)(n:Nat)(rows:Nat→List Int):Prop where
 var:h[bc]? =some (.cells #[sl] t (0,0))
 arr:Own 1 h sl n ((List.range n).map sv)
 row:∀i,i<n→kj h (sv i) (rows i)
 len:∀i,i<n→(rows i).length=n
 pos:1≤n∧n≤512
 inM:M bc∧(∀b,blk sl b→M b)∧∀i,i<n→∀b,blk (sv i) b→M b
 ap1:¬blk sl bc
 ap2:∀i,i<n→∀b,blk (sv i) b→b≠bc∧¬blk sl b
 ap3:∀i j,i<n→j<n→i≠j→∀b,blk (sv i) b→¬blk (sv j) b
 lt:∀b,M b→b<h.size
def fI (M:Nat→Prop)(h:ah)(v:Value)(n:Nat)(rows:Nat→List Int):Prop:=
 ∃bc sl sv t,v=.pointer (some ⟨bc,0,none⟩)∧lM M h bc sl sv t n rows
theorem lM.fr {M Q:Nat→Prop}{h h':ah}{D:Nat}{sl:Value}{sv:Nat→Value}{t:TypeId}{n:Nat}{rows:Nat→List Int}(C:lM M h D sl sv t n rows)(f:Fr Q h h')(hq:∀b,b<h.size→M b→¬Q b):lM M h' D sl sv t n rows:=
 {C with
  var:=f.row C.var (hq D (C.lt _ C.inM.1) C.inM.1)
  arr:=C.arr.fr f λb A=>hq b (C.lt _ (C.inM.2.1 b A)) (C.inM.2.1 b A)
  row:=λi hi=>(C.row i hi).fr f λb A=>hq b (C.lt _ (C.inM.2.2 i hi b A)) (C.inM.2.2 i hi b A)
  lt:=λb A=>bX (C.lt b A) f.1}
theorem lM.ext {M:Nat→Prop}{h h':ah}{A:Nat}{sl:Value}{sv:Nat→Value}{t:TypeId}{n:Nat}{rows:Nat→List Int}(C:lM M h A sl sv t n rows)(e:Ext h h'):lM M h' A sl sv t n rows:=C.fr (Q:=λ_=>False) e.fr λ_ _ _=>id
theorem fI.fr {M Q:Nat→Prop}{h h':ah}{v:Value}{n:Nat}{rows:Nat→List Int}(H:fI M h v n rows)(f:Fr Q h h')(hq:∀b,b<h.size→M b→¬Q b):fI M h' v n rows:=by
 obtain⟨A,sl,sv,t,rfl,C⟩:=H;exact⟨A,sl,sv,t,rfl,C.fr f hq⟩
theorem fI.ext {M:Nat→Prop}{h h':ah}{v:Value}{n:Nat}{rows:Nat→List Int}(H:fI M h v n rows)(e:Ext h h'):fI M h' v n rows:=H.fr (Q:=λ_=>False) e.fr λ_ _ _=>id
theorem zcV {M:Nat→Prop}{h:ah}{v:Value}{n:Nat}{rows:Nat→List Int}(H:fI M h v n rows)(i:Int):
  ag prog jI #[v,af i] h λr h'=>r=.bool (decide (0≤i∧i<n))∧h'=h:=by
 obtain⟨D,sl,sv,t,rfl,C⟩:=H;apply GK;unfold wL;have A:=C.arr.sl;obtain⟨_,a,cap,rfl,_⟩:=A;by_cases h0:0≤i
 ·simp only[go_sem,h0,am C.var,CX,and_true]
 ·simp only[go_sem,h0,false_and,and_true]
def Ku (n:Nat)(rows:Nat→List Int)(i:Int):List Int:=if 0≤i∧i<n then rows i.toNat else[]
theorem zca {M:Nat→Prop}{h:ah}{v:Value}{n:Nat}{rows:Nat→List Int}(H:fI M h v n rows)(i:Int):
  ag prog kP #[v,af i] h λr h'=>kj h' r (Ku n rows i)∧Ext h h'∧∀b,blk r b→h.size≤b:=by
 apply EY;unfold vj;refine(zcV H i).mono ?_;rintro _ h' ⟨rfl,rfl⟩;by_cases hi:0≤i∧i<n
 ·obtain⟨k,rfl⟩:=Rl hi.1;have A:k<n:=ae;obtain⟨G,sl,sv,t,rfl,C⟩:=H;obtain⟨p,F,hq⟩:=C.arr.sl.at1 (k:=.i64) A;rw[eT,y7]at hq;simp only[go_sem,hi,am C.var,F,hq,y9];rw[show Ku n rows (k:Int)=rows k by unfold Ku;rw[aA hi];rfl];refine(W9 (C.row k A).ints (by rw[C.len k A];have:=C.pos;omega)).mono ?_;rintro r h1 H;exact H
 ·simp only[go_sem,hi];rw[show Ku n rows i=[]by unfold Ku;rw[az hi]];exact⟨Qy,Ext.refl _,λb D=>D.elim⟩
theorem lM.put {M:Nat→Prop}{h h':ah}{H:Nat}{sl:Value}{sv:Nat→Value}{t:TypeId}{n:Nat}{rows:Nat→List Int}(C:lM M h H sl sv t n rows){k:Nat}(G:k<n){l:List Int}
  (o:kj h' (sv k) l) (I:l.length=n) (f:Fr (blk (sv k)) h h'):lM M h' H sl sv t n (λj=>if j=k then l else rows j):=
 { C with
  var:=f.row C.var λD=>(C.ap2 k G _ D).1 rfl
  arr:=C.arr.fr f λb D F=>(C.ap2 k G b F).2 D
  row:=λi hi=>by
   by_cases A:i=k
   ·subst A;simpa using o
   ·simp only[A,cE];exact(C.row i hi).fr f λb D=>C.ap3 i k hi G A b D
  len:=λi hi=>by
   by_cases A:i=k
   ·subst A;simpa using I
   ·simp only[A,cE];exact C.len i hi
  lt:=λb D=>bX (C.lt b D) f.1}
def FH (n:Nat)(rows:Nat→List Int)(i:Int):Nat→List Int:=
 if 0≤i∧i<n then λj=>if j=i.toNat then(rows i.toNat).set i.toNat (IntKind.i64.wrap ((rows i.toNat).getD i.toNat 0+1))else rows j else rows
theorem Vz {M:Nat→Prop}{h:ah}{v:Value}{n:Nat}{rows:Nat→List Int}(H:fI M h v n rows)(i:Int):
  ag prog ij #[v,af i] h λr h'=>kj h' r (Ku n rows i)∧fI M h' v n (FH n rows i)∧Fr M h h'∧∀b,blk r b→h.size≤b:=by
 apply Dt;unfold tE;refine(zca H i).mono ?_;rintro r h1 ⟨o1,G,L⟩;refine(zcV (H.ext G) i).mono ?_;rintro _ h2 ⟨rfl,rfl⟩;by_cases hi:0≤i∧i<n
 ·obtain⟨k,rfl⟩:=Rl hi.1;have A:k<n:=ae;obtain⟨bc,sl,sv,t,rfl,I⟩:=H;have C:=I.ext G;obtain⟨p,hp,hq⟩:=C.arr.sl.at1 (k:=.i64) A;rw[eT,y7]at hq;have D:k<(rows k).length:=by rw[C.len k A];exact A
  obtain⟨p',ab,F,aa⟩:=Own.at1 (C.row k A) (k:=.i64) D;rw[eT]at F;simp only[go_sem,hi,am C.var,hp,hq,y9,ab,F,vi];refine aa _ _ rfl λh3 o3 f3 _=>?_
  have o4:kj h3 (sv k) ((rows k).set k (IntKind.i64.wrap ((rows k)[k]+1))):=by
   unfold kj;rw[GU,KM];exact o3
  have C':=C.put A o4 (by rw[GU];exact C.len k A) f3;refine⟨o1.fr f3 λb U W=>?_,⟨bc,sl,sv,t,rfl,?_⟩,?_,L⟩
  ·have h5:=L b U;have:=I.lt b (I.inM.2.2 k A b W);omega
  ·unfold FH;rw[aA hi];simp only[eo];rw[K6 D];exact C'
  ·exact G.fr.trans (f3.mono λb _ U=>C.inM.2.2 k A b U)
 ·simp only[go_sem,hi];refine⟨o1,?_,G.fr,L⟩;unfold FH;rw[az hi];exact H.ext G
theorem c_Min {h:ah}{v:Value}{l:List Int}(hv:lH h v l)(h0:l≠[])(hl:l.length≤4398046511104):
  ag prog gE #[v] h λr h'=>(∃m,r=af m∧(decide (m<0)=l.any λx=>decide (x<0)))∧h'=h:=by
 apply rN;unfold jL;have hp:0<l.length:=w6.2 h0;have hs:=hv.sl;obtain⟨a,cap,rfl,_⟩:=hv;refine bB (λL h'=>L=[]∧h'=h) ?_ ?_
 ·simp only[go_sem];refine ao (λh1=>ae) (λ_=>⟨trivial,trivial⟩)
 ·rintro _ ρj h' ⟨rfl,hh⟩;subst hh;obtain⟨p,G,D⟩:=hs.at1 (k:=.i64) (i:=0) hp;rw[eT]at D;rw[show((0:Nat):Int)=0 from rfl]at G;simp only[go_sem,G,D];refine dx (λd L I=>I=h'∧∃(k:Nat) (m:Int),1≤k∧k≤l.length∧d=l.length-k∧L=[af m,af (k:Int)]∧decide (m<0)=(l.take k).any λx=>decide (x<0)) (l.length-1)
   ⟨rfl,1,l[0],ae,ae,rfl,rfl,?_⟩ ?_
  ·cases l with
   |nil=>exact absurd rfl h0
   |cons x l=>simp
  ·rintro d _ ρj _ again ⟨rfl,k,m,h1,hk,rfl,rfl,W⟩ H;simp only[go_sem];refine ao (λaa=>?_) (λab=>?_)
   ·have A:k<l.length:=ae;obtain⟨p,U,F⟩:=hs.at1 (k:=.i64) A;rw[eT]at F;simp only[go_sem,U,F,vi];rw[w64 ae ae];refine H _ _ (l.length-(k+1)) ae ⟨rfl,k+1,_,ae,ae,rfl,rfl,?_⟩;rw[jU A,List.any_append,←W];simp only[List.any_cons,List.any_nil,Bool.or_false];rw[←Bool.decide_or,gL];omega
   ·refine⟨⟨m,rfl,?_⟩,trivial⟩;rw[W,eS ae]
def Kw (n:Nat)(i:Int)(s:List Int):Bool:=decide (0≤i∧i<n)&&(decide (s.length=n)&& !s.any λx=>decide (x<0))
def oh (n:Nat)(rows:Nat→List Int)(i:Int)(s:List Int):Nat→List Int:=
 if Kw n i s=true then λj=>if j=i.toNat then PD (rows i.toNat) s else rows j else rows
theorem lM.swap {M:Nat→Prop}{h h':ah}{W:Nat}{sl:Value}{sv:Nat→Value}{t:TypeId}{n:Nat}{rows:Nat→List Int}(C:lM M h W sl sv t n rows){k:Nat}(hk:k<n){l:List Int}{v:Value}
  (o:kj h' v l) (hl:l.length=n) (f:Fr (blk sl) h h') (a:Own 1 h' sl n ((List.range n).map λj=>if j=k then v else sv j)) (H:∀b,blk v b→b<h'.size∧¬M b):
  lM (λb=>M b∨blk v b) h' W sl (λj=>if j=k then v else sv j) t n (λj=>if j=k then l else rows j) where
 var:=f.row C.var C.ap1
 arr:=a
 row:=λi hi=>by
  by_cases A:i=k
  ·simp only[A,cJ];exact o
  ·simp only[A,cE];exact(C.row i hi).fr f λb D=>(C.ap2 i hi b D).2
 len:=λi hi=>by
  by_cases A:i=k
  ·simp only[A,cJ];exact hl
  ·simp only[A,cE];exact C.len i hi
 pos:=C.pos
 inM:=⟨.inl C.inM.1,λb D=>.inl (C.inM.2.1 b D),λi hi b D=>by
  by_cases A:i=k
  ·simp only[A,cJ]at D;exact .inr D
  ·simp only[A,cE]at D;exact .inl (C.inM.2.2 i hi b D)⟩
 ap1:=C.ap1
 ap2:=λi hi b D=>by
  by_cases A:i=k
  ·simp only[A,cJ]at D;exact⟨λL=>(H b D).2 (L▸C.inM.1),λhs=>(H b D).2 (C.inM.2.1 b hs)⟩
  ·simp only[A,cE]at D;exact C.ap2 i hi b D
 ap3:=λi j hi U I b D F=>by
  by_cases A:i=k
  ·subst A;simp only[cJ,gY I,cE]at D F;exact(H b D).2 (C.inM.2.2 j U b F)
  ·simp only[A,cE]at D;by_cases G:j=k
   ·simp only[G,cJ]at F;exact(H b F).2 (C.inM.2.2 i hi b D)
   ·simp only[G,cE]at F;exact C.ap3 i j hi U I b D F
 lt:=λb D=>by
  rcases D with D|D
  ·exact bX (C.lt b D) f.1
  ·exact(H b D).1
theorem Lu (n:Nat)(f:Nat→Value)(i:Nat)(x:Value):((List.range n).map f).set i x=(List.range n).map λk=>if k=i then x else f k:=by
 apply qw
 ·simp
 ·intro k h1 A;rw[GY];simp only[eT,y7, @eq_comm _ k i]
theorem CL {h:ah}{v:Value}{l:List Int}(o:kj h v l):aR v=true:=by
 rcases o with⟨rfl,_⟩|⟨b,cap,r,e,rfl,_⟩<;>rfl
theorem zc3 {M:Nat→Prop}{h:ah}{v u:Value}{n:Nat}{rows:Nat→List Int}(H:fI M h v n rows)(i:Int){s:List Int}(hu:lH h u s)(hs:s.length≤4398046511104):
  ag prog gb #[v,af i,u] h λr h'=>r=.bool (Kw n i s)∧∃M',fI M' h' v n (oh n rows i s)∧Fr M h h'∧∀b,M' b→M b∨h.size≤b:=by
 apply Du;unfold tF;refine(zcV H i).mono ?_;rintro _ h' ⟨rfl,hh⟩;subst hh;have no:Kw n i s=false→∃M',fI M' h' v n (oh n rows i s)∧Fr M h' h'∧∀b,M' b→M b∨h'.size≤b:=λW=>
  ⟨M,by unfold oh;rw[W];exact H,Fr.refl _ _,λb D=>.inl D⟩
 have ab:=hu;obtain⟨ua,uc,rfl,_⟩:=hu;by_cases hi:0≤i∧i<n
 ·obtain⟨bc,sl,sv,t,rfl,C⟩:=H;have au:=C.pos;have ar:=C.arr.sl;obtain⟨_,sa,sc,rfl,_⟩:=ar;by_cases hn:s.length=n
  ·have G:((s.length:Int)=(n:Int)):=ae;simp only[go_sem,hi,am C.var,y9,G];refine(c_Min ab (by intro h0;subst h0;simp at hn;omega) hs).mono ?_;rintro _ h1 ⟨⟨m,rfl,W⟩,hh⟩;subst hh;simp only[go_sem,W];cases F:s.any λx=>decide (x<0)with
   |true=>
    have A:Kw n i s=false:=by simp[Kw,F]
    simp only[go_sem];exact⟨by rw[A],no A⟩
   | false=>
    have A:Kw n i s=true:=by simp[Kw,F,hi,hn]
    obtain⟨k,rfl⟩:=Rl hi.1;have I:k<n:=ae;simp only[go_sem];refine PO ?_;obtain⟨p,hp,hq⟩:=C.arr.sl.at1 (k:=.i64) I;rw[eT,y7]at hq;refine aC (.slice sa n sc) (λh2 e=>by rw[am (e.row C.var)];rfl) ?_;refine aC (.slice sa n sc) (λh2 e=>by rw[am (e.row C.var)];rfl) ?_;rw[hp,ak];refine aC (sv k) (λh2 e=>?_) ?_
    ·obtain⟨p2,U,aa⟩:=(C.ext e).arr.sl.at1 (k:=.i64) I;rw[eT,y7]at aa;rw[hp]at U;cases U;exact aa
    refine(zc5 (C.row k I).ints ab (by rw[C.len k I];omega) hs).mono ?_;rintro r h2 ⟨o2,e2,n2⟩;refine⟨e2,?_⟩;have C2:=C.ext e2;obtain⟨p3,L,aw,an⟩:=C2.arr.at1 (k:=.i64) I;rw[hp]at L;cases L;rw[ak];refine an _ _ (CL o2) λh3 o3 f3 _=>?_
    rw[Lu]at o3;have ad:∀b,blk r b→¬M b:=λb D W=>by have:=C.lt b W;have:=n2 b D;omega
    have o4:kj h3 r (PD (rows k) s):=o2.fr f3 λb D al=>ad b D (C.inM.2.1 b al)
    have C3:=C2.swap I o4 (by rw[zw,C.len k I,hn];exact Nat.max_self n) f3 o3 λb D=>⟨Own.lt o4 D,ad b D⟩
    have CC:fI (λb=>M b∨blk r b) h3 (.pointer (some ⟨bc,0,none⟩)) n (oh n rows k s):=by
     unfold oh;rw[aA A];exact⟨bc,_,_,t,rfl,C3⟩
    refine⟨by rw[A],(λb=>M b∨blk r b),CC,e2.fr.trans (f3.mono λb _ D=>C.inM.2.1 b D),λb D=>Or.imp (λh=>h) (n2 b) D⟩
  ·have G:¬((s.length:Int)=(n:Int)):=ae;have A:Kw n i s=false:=by simp[Kw,hn]
   simp only[go_sem,hi,am C.var,y9,G];exact⟨by rw[A],no A⟩
 ·have A:Kw n i s=false:=by simp[Kw,hi]
  simp only[go_sem,hi];exact⟨by rw[A],no A⟩
end Go.Proofs.YtjljhnandbbldaaGreatDoor
namespace Go.Proofs.YtjljhnandbbldaaGreatDoor
open Go Go.Crisp
attribute [local irreducible] ag di aW stK aF vK qK bK gK fo bA mkK dk Fm tW oA V0
open _root_.Go.Proofs.Tryz
section
structure Bag (M:Nat→Prop)(h:ah)(bx bm:Nat)(fr:Value)(w:Nat)(all:List (Value×List Int)):Prop where
 own:∀p∈all,kj h p.1 p.2∧p.2.length=w∧∀k,blk p.1 k→k≠bx∧k≠bm∧¬blk fr k∧M k
 apart:all.Pairwise λa b=>∀k,blk a.1 k→¬blk b.1 k
theorem Bag.perm {M:Nat→Prop}{h:ah}{bx bm:Nat}{fr:Value}{w:Nat}{all A:List (Value×List Int)}(B:Bag M h bx bm fr w all)(p:A.Perm all):Bag M h bx bm fr w A where
 own:=λq hq=>B.own q (p.mem_iff.1 hq)
 apart:=(p.pairwise_iff (λ{x y} D k G F=>D k F G)).2 B.apart
theorem Bag.fr {M Q:Nat→Prop}{h h':ah}{bx bm:Nat}{fr:Value}{w:Nat}{all:List (Value×List Int)}(B:Bag M h bx bm fr w all)(f:Fr Q h h')(q:∀p∈all,∀k,blk p.1 k→¬Q k):Bag M h' bx bm fr w all where
 own:=λp A=>⟨(B.own p A).1.fr f (q p A),(B.own p A).2⟩
 apart:=B.apart
theorem Bag.ext {M:Nat→Prop}{h h':ah}{bx bm:Nat}{fr:Value}{w:Nat}{all:List (Value×List Int)}(B:Bag M h bx bm fr w all)(e:Ext h h'):Bag M h' bx bm fr w all:=B.fr (Q:=λ_=>False) e.fr λ_ _ _ _=>id
theorem Bag.mono {M M':Nat→Prop}{h:ah}{bx bm:Nat}{fr D:Value}{w:Nat}{all:List (Value×List Int)}(B:Bag M h bx bm fr w all)(G:∀k,M k→M' k)(H:∀p∈all,∀k,blk p.1 k→¬blk D k):Bag M' h bx bm D w all where
 own:=λp A=>⟨(B.own p A).1,(B.own p A).2.1,λk F=>⟨((B.own p A).2.2 k F).1,((B.own p A).2.2 k F).2.1,H p A k F,G k ((B.own p A).2.2 k F).2.2.2⟩⟩
 apart:=B.apart
structure zG (M:Nat→Prop)(h:ah)(bx bm:Nat)(fr:Value)(t:TypeId)(room w:Nat)(es:List (Int×(Value×List Int)))(fv xs:List (Value×List Int)):Prop where
 var:h[bx]? =some (.cells #[.int .i64 room,.int .i64 w,.map (some bm),fr] t (0,0))
 map:uv h bm (qx Prod.fst es)
 free:Own 1 h fr fv.length (fv.map Prod.fst)
 bag:Bag M h bx bm fr w (es.map Prod.snd++fv++xs)
 ap:bx≠bm∧¬blk fr bx∧¬blk fr bm
 inM:M bx∧M bm∧∀k,blk fr k→M k
 lt:∀k,M k→k<h.size
 nums:1≤room∧room≤65536∧w≤262144
 keys:∀e∈es,(Lit.int .i64 e.1).wf=true
 len:es.length≤room
 tot:es.length+fv.length+xs.length≤room+1
def ia (M:Nat→Prop)(h:ah)(v:Value)(room w:Nat)(rs:List (Int×List Int)):Prop:=
 ∃bx bm fr t es fv,v=.pointer (some ⟨bx,0,none⟩)∧zG M h bx bm fr t room w es fv []∧rs=qx Prod.snd es∧es.length+fv.length≤room
theorem zG.fr {M Q:Nat→Prop}{h h':ah}{bx bm:Nat}{fr:Value}{t:TypeId}{room w:Nat}{D:List (Int×(Value×List Int))}{G H:List (Value×List Int)}(R:zG M h bx bm fr t room w D G H)(f:Fr Q h h')(q:∀b,b<h.size→M b→¬Q b):zG M h' bx bm fr t room w D G H:=
 {R with
  var:=f.row R.var (q bx (R.lt _ R.inM.1) R.inM.1)
  map:=R.map.fr f (q bm (R.lt _ R.inM.2.1) R.inM.2.1)
  free:=R.free.fr f λk A=>q k (R.lt _ (R.inM.2.2 k A)) (R.inM.2.2 k A)
  bag:=R.bag.fr f λp F k A=>q k (R.lt _ ((R.bag.own p F).2.2 k A).2.2.2) ((R.bag.own p F).2.2 k A).2.2.2
  lt:=λk A=>bX (R.lt k A) f.1}
theorem ia.fr {M Q:Nat→Prop}{h h':ah}{v:Value}{room w:Nat}{rs:List (Int×List Int)}(H:ia M h v room w rs)(f:Fr Q h h')(q:∀b,b<h.size→M b→¬Q b):ia M h' v room w rs:=by
 obtain⟨bx,bm,fr,t,A,F,rfl,R,h1,D⟩:=H;exact⟨bx,bm,fr,t,A,F,rfl,R.fr f q,h1,D⟩
theorem ia.ext {M:Nat→Prop}{h h':ah}{v:Value}{room w:Nat}{rs:List (Int×List Int)}(H:ia M h v room w rs)(e:Ext h h'):ia M h' v room w rs:=H.fr (Q:=λ_=>False) e.fr λ_ _ _=>id
theorem ia.lt {M:Nat→Prop}{h:ah}{v:Value}{room w:Nat}{rs:List (Int×List Int)}(H:ia M h v room w rs){b:Nat}(A:M b):b<h.size:=by
 obtain⟨bx,bm,fr,t,D,G,rfl,R,h1,F⟩:=H;exact R.lt b A
theorem ia.nodup {M:Nat→Prop}{h:ah}{v:Value}{room w:Nat}{rs:List (Int×List Int)}(H:ia M h v room w rs):(rs.map Prod.fst).Nodup:=by
 obtain⟨bx,bm,fr,t,D,A,rfl,R,rfl,F⟩:=H;rw[yx,←yx Prod.fst];exact R.map.nodup
theorem ia.nums {M:Nat→Prop}{h:ah}{v:Value}{room w:Nat}{rs:List (Int×List Int)}(H:ia M h v room w rs):1≤room∧room≤65536∧w≤262144∧rs.length≤room∧(∀p∈rs,p.2.length=w∧(Lit.int .i64 p.1).wf=true):=by
 obtain⟨bx,bm,fr,t,F,I,rfl,R,rfl,G⟩:=H;refine⟨R.nums.1,R.nums.2.1,R.nums.2.2,by simpa[qx]using R.len,λp D=>?_⟩;obtain⟨e,A,rfl⟩:=gO.1 D;exact⟨(R.bag.own e.2 (by simp;exact .inl ⟨e.1,A⟩)).2.1,R.keys e A⟩
def iG (a:Int):Nat:=(min (max 1 a) 65536).toNat
def fB (a:Int):Nat:=(min (max 0 a) 262144).toNat
theorem zc1 {h:ah}(a b:Int):ag prog Fz #[af a,af b] h λr h'=>∃M,ia M h' r (iG a) (fB b) []∧Ext h h'∧∀k,M k→h.size≤k:=by
 apply Tc;unfold Jq;have ha:min (max 1 a) 65536=((iG a:Nat):Int):=by unfold iG;omega
 have W:min (max 0 b) 262144=((fB b:Nat):Int):=by unfold fB;omega
 have h1:1≤iG a∧iG a≤65536:=by unfold iG;omega
 have H:fB b≤262144:=by unfold fB;omega
 simp only[go_sem,ha,W];generalize iG a=room at h1;generalize fB b=w at H;refine zaU λbm h3 F I U=>?_
 rw[Lb _ #[af room,af w,.map (some bm),.slice none 0 0] (by kernel_rfl)];refine aI (c:=#[af room,af w,.map (some bm),.slice none 0 0]) λbx h4 D A n4=>?_
 obtain⟨t,L⟩:∃t,h4[bx]? =some (.cells #[af room,af w,.map (some bm),.slice none 0 0] t (0,0)):=⟨_,D⟩
 have lm:=F.lt;refine⟨λk=>k=bx∨k=bm,⟨bx,bm,.slice none 0 0,t,[],[],rfl,?_,rfl,by simp⟩,I.trans A,?_⟩
 ·exact{
   var:=L,map:=F.ext A,free:=.inl ⟨rfl,rfl,rfl⟩,bag:=⟨λp hp=>absurd hp (by simp),List.Pairwise.nil⟩
   ap:=⟨ae,λh=>h.elim,λh=>h.elim⟩,inM:=⟨.inl rfl,.inr rfl,λk G=>G.elim⟩
   lt:=λk G=>by
    rcases G with rfl|rfl
    ·exact bC L
    ·exact(F.ext A).lt
   nums:=⟨h1.1,h1.2,H⟩,keys:=λe he=>absurd he (by simp),len:=by simp,tot:=by simp}
 ·rintro k (rfl|rfl)
  ·exact aZ I.1 n4
  ·exact U
section
variable {M:Nat→Prop}{h:ah}{v:Value}{room w:Nat}{rs:List (Int×List Int)}
theorem zab (H:ia M h v room w rs):ag prog oV #[v] h λr h'=>r=af (w:Nat)∧h'=h:=by
 obtain⟨bx,bm,fr,t,D,A,rfl,R,rfl,F⟩:=H;apply EM;unfold uT;simp only[go_sem,am R.var];exact⟨trivial,trivial⟩
theorem zaa (H:ia M h v room w rs):ag prog oU #[v] h λr h'=>r=af ((room:Int)*w)∧h'=h:=by
 obtain⟨bx,bm,fr,t,I,F,rfl,R,rfl,L⟩:=H;apply EL;unfold uS;have A:=R.nums;have G:room*w≤65536*262144:=zi A.2.1 A.2.2;have D:((room*w:Nat):Int)=(room:Int)*w:=lR ..;simp only[go_sem,am R.var];rw[w64 ae ae];exact⟨rfl,trivial⟩
theorem zac (H:ia M h v room w rs)(j:Int):ag prog mK #[v,af j] h λr h'=>r=.bool (fP j rs).isSome∧h'=h:=by
 obtain⟨bx,bm,fr,t,A,D,rfl,R,rfl,F⟩:=H;apply IE;unfold ye;simp only[go_sem,am R.var,MJ R.map];rw[rX,rX];cases fP j A with
 |none=>simp only[KX,Tt,sP,go_sem];exact⟨rfl,trivial⟩
 |some p=>simp only[cI,Tt,sP,go_sem];exact⟨rfl,trivial⟩
theorem ND {h:ah}{v:Value}{l:List Int}(A:lH h v l)(G:l.length≤4398046511104):
  ag prog df #[v] h λr h'=>kj h' r l∧Ext h h'∧∀b,blk r b→h.size≤b:=by
 apply jr;unfold fS;have D:=A;obtain⟨a,cap,rfl,A⟩:=A;cases a with
 |none=>
  simp only[HV,go_sem];rcases A with rfl|⟨b,o,h1,_⟩
  ·exact⟨Qy,Ext.refl h,λb F=>F.elim⟩
  ·cases h1
 |some a=>
  simp only[HU,go_sem];exact PP D G λr h' o e n=>⟨o,e,n⟩
theorem zcZ (H:ia M h v room w rs)(j:Int):ag prog sU #[v,af j] h λr h'=>∃u,r=.tuple #[u,.bool (fP j rs).isSome]∧kj h' u ((fP j rs).getD [])∧Ext h h'∧∀b,blk u b→h.size≤b:=by
 have A:=H.nums;obtain⟨bx,bm,fr,t,F,L,rfl,R,rfl,I⟩:=H;apply IC;unfold yc;simp only[go_sem,am R.var,MJ R.map];rw[rX,rX];cases G:fP j F with
 |none=>
  simp only[KX,Tt,sP,go_sem];refine(ND (v:=.slice none 0 0) (l:=[]) ⟨none,0,rfl,.inl rfl⟩ (by simp)).mono ?_;rintro u h1 ⟨o,e,n⟩;exact⟨u,rfl,o,e,n⟩
 |some p=>
  simp only[cI,Tt,sP,go_sem];have D:=R.bag.own p (by simp;exact .inl ⟨j,MQ G⟩);refine(ND D.1.ints (by rw[D.2.1];omega)).mono ?_;rintro u h1 ⟨o,e,n⟩;exact⟨u,rfl,o,e,n⟩
def xx:List Int→Int
 | []=>0
 |x::l=>l.foldl min x
theorem XG {a b:List Int}(h:a.Perm b):xx a=xx b:=by
 have key:∀(l:List Int) (x:Int),(∀y∈x::l,l.foldl min x≤y)∧l.foldl min x∈x::l:=by
  intro l;induction l with
  |nil=>intro x;simp
  | cons z l G=>
   intro x;rw[wZ];obtain⟨h1,D⟩:=G (min x z);have L:=h1 (min x z) (Hq ..);refine⟨λy F=>?_,?_⟩
   ·rcases kw.1 F with rfl|F
    ·omega
    ·rcases kw.1 F with rfl|F
     ·omega
     ·exact h1 y (xA _ F)
   ·rcases kw.1 D with D|D
    ·rw[D];rcases CR x z with A|A
     ·rw[Int.min_eq_left A];simp
     ·rw[Int.min_eq_right A];simp
    ·exact xA _ (xA _ D)
 cases a with
 |nil=>have:=h.nil_eq;subst this;rfl
 | cons x l=>
  cases b with
  |nil=>have:=h.symm.nil_eq;cases this
  |cons y m=>
   obtain⟨a1,a2⟩:=key l x;obtain⟨I,H⟩:=key m y;exact Int.le_antisymm (a1 _ (h.mem_iff.2 H)) (I _ (h.mem_iff.1 a2))
theorem XF {l:List Int}(h:l≠[])(x:Int):xx (l++[x])=min (xx l) x:=by
 cases l with
 |nil=>exact absurd rfl h
 |cons y l=>simp[xx]
theorem zbL {h:ah}{v:Value}{l:List Int}(hv:lH h v l)(h0:l≠[])(hl:l.length≤4398046511104):
  ag prog gP #[v] h λr h'=>r=af (xx l)∧h'=h:=by
 apply sG;unfold kf;have hp:0<l.length:=w6.2 h0;have hs:=hv.sl;obtain⟨a,cap,rfl,_⟩:=hv;refine bB (λL h'=>L=[]∧h'=h) ?_ ?_
 ·simp only[go_sem];refine ao (λh1=>ae) (λ_=>⟨trivial,trivial⟩)
 ·rintro _ ρj h' ⟨rfl,hh⟩;subst hh;obtain⟨p,G,D⟩:=hs.at1 (k:=.i64) (i:=0) hp;rw[eT]at D;rw[show((0:Nat):Int)=0 from rfl]at G;simp only[go_sem,G,D];refine dx (λd L I=>I=h'∧∃(k:Nat),1≤k∧k≤l.length∧d=l.length-k∧L=[af (xx (l.take k)),af (k:Int)]) (l.length-1)
   ⟨rfl,1,ae,ae,rfl,?_⟩ ?_
  ·cases l with
   |nil=>exact absurd rfl h0
   |cons x l=>rfl
  ·rintro d _ ρj _ again ⟨rfl,k,h1,hk,rfl,rfl⟩ H;simp only[go_sem];refine ao (λaa=>?_) (λab=>?_)
   ·have A:k<l.length:=ae;obtain⟨p,U,F⟩:=hs.at1 (k:=.i64) A;rw[eT]at F;simp only[go_sem,U,F,vi];rw[w64 ae ae];refine H _ _ (l.length-(k+1)) ae ⟨rfl,k+1,ae,ae,rfl,?_⟩;have W:l.take k≠[]:=λh=>by
     have h9:=congrArg List.length h;rw[db,kS]at h9;omega
    rw[jU A,XF W];rfl
   ·rw[eS ae];exact⟨rfl,trivial⟩
theorem Ue (H:ia M h v room w rs):ag prog oW #[v] h λr h'=>r=.tuple #[af (xx (rs.map Prod.fst)),.bool (!decide (rs=[]))]∧Ext h h':=by
 have I:=H.nums;obtain⟨bx,bm,fr,t,D,fv,rfl,R,rfl,h2⟩:=H;apply EN;unfold uU;by_cases h0:D=[]
 ·subst h0;simp only[go_sem,am R.var,RW R.map,qx,List.map_nil,kS,Int.natCast_zero];exact⟨rfl,Ext.refl h⟩
 ·have hl:¬(((qx Prod.fst D).length:Nat):Int)=0:=by
   simp only[qx,cQ];have:=w6.2 h0;omega
  simp only[go_sem,am R.var,RW R.map,hl];apply iW;unfold ef;refine aI λb1 h1 r1 L n1=>?_
  have F:(qx Prod.fst D).length≤1000000:=by
   have:=R.len;have:=R.nums;simp only[qx,cQ];omega
  refine(Ug r1 (R.map.ext L) (λp U=>?_) F).mono ?_
  ·obtain⟨e,he,rfl⟩:=gO.1 U;exact R.keys e he
  rintro u h3 ⟨ss,A,o3,W,n3⟩;have G:ss.length=D.length:=by rw[A.length_eq];simp[qx]
  refine(zbL o3.ints (by intro h;subst h;simp at G;exact h0 (mW G.symm)) (by have:=R.len;have:=R.nums;omega)).mono ?_;rintro _ h4 ⟨rfl,rfl⟩;refine⟨?_,L.trans W⟩;rw[XG A,yx,yx];have:¬qx Prod.snd D=[]:=by simpa[qx]using h0
  simp[this]
end
end
theorem HG {α:Type}{j:Int}{p:α}{A:List (Int×α)}(D:fP j A=some p):(pH j A).length+1=A.length:=by
 have:=(IU D).length_eq;simpa using this.symm
theorem zcX {M:Nat→Prop}{h:ah}{bx bm:Nat}{fr:Value}{t:TypeId}{room w:Nat}{I:List (Int×(Value×List Int))}{G:List (Value×List Int)}(R:zG M h bx bm fr t room w I G []){j:Int}{p:Value×List Int}(hg:fP j I=some p):
  ag prog qF #[.pointer (some ⟨bx,0,none⟩),af j] h λ_ h'=>∃M' L,zG M' h' bx bm L t room w (pH j I) (G++[p]) []∧Fr M h h'∧(∀k,M' k→M k∨h.size≤k)∧
   ∀U c,h[bm]? =some (.map U c)→∃au,h'[bm]? =some (.map au c)∧∀e∈au,e∈U∧e.key≠af j:=by
 apply Gx;unfold ww;refine aQ (λhh=>hh[bx]? =some (.cells #[af room,af w,.map (some bm),fr] t (0,0))∧hh[bm]? =h[bm]?) ⟨R.var,rfl⟩ ?_
 try simp only[go_sem]
 refine aC fr (λhh S=>by rw[am S.1];rfl) ?_;refine aC (.map (some bm)) (λhh S=>by rw[am S.1];rfl) ?_;refine aC p.1 (λhh S=>by rw[MJ (R.map.row S.2),rX,hg];rfl) ?_;have al:p∈I.map Prod.snd++G++[]:=by simp;exact .inl ⟨j,MQ hg⟩
 have hp:=R.bag.own p al;have aw:=CL hp.1;refine dc (Rp.fill_one aw) λb1 h1 r1 H n1=>?_
 have a8:=bC R.var;have ab:=R.map.lt;refine⟨⟨H.row R.var,H.2 bm ab⟩,?_⟩;have S1:=Rp.SlC.single (cs:=[p.1]) r1;have a7:=R.nums;have ad:=R.tot;simp only[kS,iA]at ad;refine vM (R.free.fr (M:=λ_=>False) H.fr λ_ _=>id) S1 (aq aw aX) rfl ae ae λL h2 o2 f2 n2=>?_
 have v2:=f2.row (H.row R.var) R.ap.2.1;have m2:h2[bm]? =h[bm]? :=(f2.2 bm (bX ab H.1) R.ap.2.2).trans (H.2 bm ab);refine⟨⟨v2,m2⟩,?_⟩;have F:∀k,blk L k→k≠bx∧k≠bm:=λk A=>by
  rcases n2 k A with h3|h3
  ·exact⟨λh4=>R.ap.2.1 (h4▸h3),λh4=>R.ap.2.2 (h4▸h3)⟩
  ·have:=H.1;exact⟨ae,ae⟩
 obtain⟨fa,fc,rfl⟩:∃a c,L=.slice a (G.length+1) c:=o2.isSl
 try simp only[go_sem]
 refine bZ (o:=3) v2 (by simp) rfl λh3 r3 u3=>?_
 have r3:h3[bx]? =some (.cells #[af room,af w,.map (some bm),.slice fa (G.length+1) fc] t (0,0)):=r3;have m3:h3[bm]? =h[bm]? :=(u3.2 bm (gY R.ap.1)).trans m2;simp only[go_sem,am r3];refine ZD (R.map.row m3) λh4 m4 u4 d4=>?_
 have ar:Fr (λk=>M k) h h4:=((H.fr.trans (f2.mono λk _ A=>R.inM.2.2 k A)).trans (u3.fr.mono λk _ A=>by rw[show k=bx from A];exact R.inM.1)).trans (u4.fr.mono λk _ A=>by rw[show k=bm from A];exact R.inM.2.1);have a9:∀k,M k→k<h.size:=R.lt;have aa:(((pH j I).map Prod.snd++(G++[p]))++[]).Perm (I.map Prod.snd++G++[]):=by
  have W:=(IU hg).map Prod.snd;rw[ul]at W;rw[gM,gM,←cg];exact(GX (l₁:=(pH j I).map Prod.snd++G) (l₂:=[p])).trans (W.symm.append_right G)
 have D:∀q∈I.map Prod.snd++G++[],∀k,blk q.1 k→k≠bx∧k≠bm∧¬blk fr k∧M k:=λq hq=>(R.bag.own q hq).2.2
 have an:Bag M h4 bx bm fr w (I.map Prod.snd++G++[]):=by
  refine(((R.bag.ext H).fr f2 λq hq k A=>(D q hq k A).2.2.1).fr u3.fr λq hq k A=>(D q hq k A).1).fr u4.fr λq hq k A=>(D q hq k A).2.1
 refine⟨λk=>M k∨blk (.slice fa (G.length+1) fc) k,.slice fa (G.length+1) fc,?_,ar,λk A=>?_,?_⟩
 ·exact{
   var:=u4.row (λh=>R.ap.1 h) r3
   map:=by rw[MT]at m4;exact m4
   free:=by
    have:=(o2.fr u3.fr λk A=>(F k A).1).fr u4.fr λk A=>(F k A).2
    rw[cz,jT];exact this
   bag:=(an.mono (λk A=>.inl A) λq hq k A ax=>by
    rcases n2 k ax with W|W
    ·exact(D q hq k A).2.2.1 W
    ·have:=R.lt k (D q hq k A).2.2.2;have:=H.1;omega).perm aa
   ap:=⟨R.ap.1,λA=>(F _ A).1 rfl,λA=>(F _ A).2 rfl⟩
   inM:=⟨.inl R.inM.1,.inl R.inM.2.1,λk A=>.inr A⟩
   lt:=λk A=>by
    rcases A with A|A
    ·exact bX (R.lt k A) ar.1
    ·have:=o2.lt A;have:=u3.1;have:=u4.1;omega
   nums:=R.nums
   keys:=λe he=>R.keys e (MS.subset he)
   len:=by have:=HG hg;have:=R.len;omega
   tot:=by have:=HG hg;simp;omega}
 ·rcases A with A|A
  ·exact .inl A
  ·rcases n2 k A with W|W
   ·exact .inl (R.inM.2.2 k W)
   ·exact .inr (aZ H.1 W)
 ·intro U c ay;exact d4 U c (m3.trans ay)
theorem Own.shrink {h:ah}{v:Value}{n:Nat}{cs:List Value}(H:Own 1 h v n cs)(W:0<n):∃D,xm 1 v none (some (af ((n-1:Nat):Int)))=some D∧Own 1 h D (n-1) cs.dropLast∧(∀k,blk D k→blk v k):=by
 rcases H with⟨rfl,rfl,rfl⟩|⟨b,cap,r,e,rfl,hc,F,L,I⟩
 ·omega
 ·have A:cs≠[]:=λh0=>by rw[h0]at F;simp at F;omega
  refine⟨.slice (some ⟨b,0,none⟩) (n-1) cap,?_,.inr ⟨b,cap,cs.getLast A::r,e,rfl,ae,by simp;omega,?_,?_⟩,λk U=>U⟩
  ·have h1:(0:Int)≤((n-1:Nat):Int)∧((n-1:Nat):Int)≤(cap:Int):=ae;have G:¬cap=0:=ae;simp only[xm,bdV,aA h1,eo,az G,cI,mF,zg,zk,iA]
  ·rw[←L]
   conv=>rhs;rw[←Rk A]
   simp
  ·rw[I]
   conv=>lhs;rw[←Rk A]
   simp
theorem Bag.last {M:Nat→Prop}{h h':ah}{bx bm:Nat}{fr:Value}{w:Nat}{all:List (Value×List Int)}{u:Value}{D l:List Int}(B:Bag M h bx bm fr w (all++[(u,D)]))(f:Fr (blk u) h h')(o:kj h' u l)(I:l.length=w):Bag M h' bx bm fr w (all++[(u,l)]) where
 own:=λp A=>by
  rcases gX.1 A with A|A
  ·have h1:=B.own p (KF _ A);have F:=(qQ.1 B.apart).2.2 p A (u,D) (by simp);exact⟨h1.1.fr f λk H=>F k H,h1.2⟩
  ·rw[iy.1 A];exact⟨o,I,(B.own (u,D) (by simp)).2.2⟩
 apart:=by
  have h1:=qQ.1 B.apart;refine qQ.2 ⟨h1.1,by simp,λa L b G=>?_⟩;rw[iy.1 G];exact h1.2.2 a L (u,D) (by simp)
theorem zbn {M:Nat→Prop}{h:ah}{bx bm:Nat}{fr:Value}{t:TypeId}{room w:Nat}{I:List (Int×(Value×List Int))}{D:List (Value×List Int)}(R:zG M h bx bm fr t room w I D [])(h1:I.length<room)(h2:I.length+D.length≤room):
  ag prog oT #[.pointer (some ⟨bx,0,none⟩)] h λu h'=>∃M' au ab l0,zG M' h' bx bm au t room w I ab [(u,l0)]∧Fr M h h'∧(∀k,M' k→M k∨h.size≤k)∧I.length+1+ab.length≤room:=by
 apply EJ;unfold uR;have a9:=R.nums;obtain⟨fa,fc,rfl⟩:=R.free.isSl;simp only[go_sem,am R.var];refine ao (λhp=>?_) (λhz=>?_)
 ·have hp:0<D.length:=ae;have aa:IntKind.i64.wrap ((D.length:Int)-1)=((D.length-1:Nat):Int):=by rw[w64 ae ae];omega
  obtain⟨p,a7,aw⟩:=R.free.sl.at1 (k:=.i64) (i:=D.length-1) ae;obtain⟨v',al,ad,F⟩:=Own.shrink R.free hp;rw[aa,a7,ak,aw,ak,al,ak];have H:D≠[]:=w6.1 hp;have L:(D.map Prod.fst)[D.length-1]'(by simp;omega)=(D.getLast H).1:=by
   rw[eT];congr 1;rw[List.getLast_eq_getElem]
  rw[L];refine bZ (o:=3) R.var (by simp) (by obtain⟨_,_,rfl⟩:=ad.isSl;rfl) λh3 r3 u3=>?_
  have r3:h3[bx]? =some (.cells #[af room,af w,.map (some bm),v'] t (0,0)):=r3;have ay:D.dropLast.map Prod.fst=(D.map Prod.fst).dropLast:=by simp
  refine⟨M,v',D.dropLast,(D.getLast H).2,?_,u3.fr.mono λk _ A=>by rw[show k=bx from A];exact R.inM.1,λk A=>.inl A,by simp;omega⟩;have ax:∀k,blk v' k→k≠bx:=λk A ar=>R.ap.2.1 (ar▸F k A)
  have U:(I.map Prod.snd++D.dropLast++[D.getLast H]).Perm (I.map Prod.snd++D++[]):=by
   rw[cg,Rk H,gM]
  exact{
   var:=r3
   map:=R.map.row (u3.2 bm (gY R.ap.1))
   free:=by rw[List.length_dropLast,ay];exact ad.fr u3.fr λk A=>ax k A
   bag:=((R.bag.fr u3.fr λq hq k A=>((R.bag.own q hq).2.2 k A).1).mono (λk A=>A) λq hq k A G=>((R.bag.own q hq).2.2 k A).2.2.1 (F k G)).perm U
   ap:=⟨R.ap.1,λA=>R.ap.2.1 (F _ A),λA=>R.ap.2.2 (F _ A)⟩
   inM:=⟨R.inM.1,R.inM.2.1,λk A=>R.inM.2.2 k (F k A)⟩
   lt:=λk A=>by rw[u3.1];exact R.lt k A
   nums:=R.nums,keys:=R.keys,len:=R.len
   tot:=by simp;omega}
 ·have a8:D=[]:=mW ae;subst a8;refine og rfl ae ae λu h3 o3 e3 n3=>?_
  have an:kj h3 u (List.replicate w 0):=by
   unfold kj;rw[vx,Ro];exact o3
  have R3:=R.fr (Q:=λ_=>False) e3.fr λ_ _ _=>id
  refine⟨λk=>M k∨blk u k,.slice fa ([]:List (Value×List Int)).length fc,[],List.replicate w 0,?_,e3.fr,λk A=>A.imp id (n3 k),by simp;omega⟩;have hu:∀k,blk u k→¬M k:=λk A hm=>by have:=R.lt k hm;have:=n3 k A;omega
  exact{R3 with
   bag:=by
    refine⟨λq hq=>?_,?_⟩
    ·rcases gX.1 hq with hq|hq
     ·have W:=R3.bag.own q (by simpa using hq);exact⟨W.1,W.2.1,λk A=>⟨(W.2.2 k A).1,(W.2.2 k A).2.1,(W.2.2 k A).2.2.1,.inl (W.2.2 k A).2.2.2⟩⟩
     ·rw[iy.1 hq];exact⟨an,by simp,λk A=>⟨λh=>hu k A (h▸R.inM.1),λh=>hu k A (h▸R.inM.2.1),λh=>hu k A (R.inM.2.2 k h),.inr A⟩⟩
    ·refine qQ.2 ⟨by simpa using R3.bag.apart,by simp,λa ha b hb k A G=>?_⟩;rw[iy.1 hb]at G;exact hu k G ((R3.bag.own a (by simpa using ha)).2.2 k A).2.2.2
   inM:=⟨.inl R.inM.1,.inl R.inM.2.1,λk A=>.inl (R.inM.2.2 k A)⟩
   lt:=λk A=>by
    rcases A with A|A
    ·exact R3.lt k A
    ·exact o3.lt A
   tot:=by simp;omega}
def BX (room:Nat)(rs:List (Int×List Int)):Bool:=decide (room≤rs.length)
def vu (room w:Nat)(rs:List (Int×List Int))(j:Int)(l:List Int):Bool:=decide (l.length=w)&&((fP j rs).isNone&& !(BX room rs&&decide (j<xx (rs.map Prod.fst))))
def mD (room:Nat)(rs:List (Int×List Int)):List (Int×List Int):=if BX room rs=true then pH (xx (rs.map Prod.fst)) rs else rs
def SV (room w:Nat)(rs:List (Int×List Int))(j:Int)(l:List Int):List (Int×List Int):=if vu room w rs j l=true then mD room rs++[(j,l)]else rs
theorem Tp {l:List Int}(h:l≠[]):xx l∈l:=by
 have key:∀(l:List Int) (x:Int),l.foldl min x∈x::l:=by
  intro l;induction l with
  |nil=>intro x;simp
  | cons z l F=>
   intro x;rw[wZ];rcases kw.1 (F (min x z))with D|D
   ·rw[D];rcases CR x z with A|A
    ·rw[Int.min_eq_left A];simp
    ·rw[Int.min_eq_right A];simp
   ·exact xA _ (xA _ D)
 cases l with
 |nil=>exact absurd rfl h
 |cons x l=>exact key l x
theorem zc0 {M:Nat→Prop} {h:ah} {v u:Value} {room w:Nat} {rs:List (Int×List Int)} (H:ia M h v room w rs) {j:Int} (hj:(Lit.int .i64 j).wf=true) {l:List Int} (hu:lH h u l) (cb:l.length≤9223372036854775807) (hn:∀b,blk u b→¬M b):
  ag prog sV #[v,af j,u] h λr h'=>r=.bool (vu room w rs j l)∧∃M',ia M' h' v room w (SV room w rs j l)∧Fr M h h'∧∀k,M' k→M k∨h.size≤k:=by
 have H0:=H;have b5:=H.nodup;have b7:=H.nums;have bg:=λh' (e:Ext h h')=>Ue (H.ext e)
 obtain⟨bx,bm,fr,t,es,fv,rfl,R,I,ay⟩:=H;apply ID;unfold yd;have b4:=hu;obtain⟨ua,uc,rfl,_⟩:=hu;have no:vu room w rs j l=false→∀h',Ext h h'→∃M',ia M' h' (.pointer (some ⟨bx,0,none⟩)) room w (SV room w rs j l)∧Fr M h h'∧∀k,M' k→M k∨h.size≤k:=λF h' e=>
  ⟨M,by unfold SV;rw[F];exact H0.ext e,e.fr,λk A=>.inl A⟩
 by_cases hw:l.length=w
 ·have ar:(l.length:Int)=(w:Int):=ae;simp only[go_sem,am R.var,ar];refine(zac H0 j).mono ?_;rintro _ h1 ⟨rfl,hh⟩;subst hh
  try simp only[go_sem]
  cases hg:fP j rs with
  |some q=>
   simp only[Option.isSome_some,go_sem];have F:vu room w rs j l=false:=by simp[vu,hg]
   exact⟨by rw[F],no F _ (Ext.refl _)⟩
  | none=>
   simp only[Option.isSome_none,go_sem];refine bB (λxs h'=>xs=[]∧vu room w rs j l=true∧∃M' au ab bc,zG M' h' bx bm au t room w ab bc []∧ab.length<room∧ab.length+bc.length≤room∧qx Prod.snd ab=mD room rs∧Fr M h1 h'∧∀k,M' k→M k∨h1.size≤k) ?_ ?_
   ·refine(Ue H0).mono ?_;rintro _ h2 ⟨rfl,e2⟩;have R2:=R.fr (Q:=λ_=>False) e2.fr λ_ _ _=>id
    have b0:(qx Prod.fst es).length=rs.length:=by rw[I];simp[qx]
    simp only[go_sem,am R2.var,RW R2.map,b0];refine ao (λD=>?_) (λbe=>?_)
    ·have D:room≤rs.length:=ae;have hf:BX room rs=true:=by simp[BX,D]
     refine ao (λb3=>?_) (λb1=>?_)
     ·have F:vu room w rs j l=false:=by simp[vu,hf,b3]
      exact⟨by rw[F],no F _ e2⟩
     ·have F:vu room w rs j l=true:=by simp[vu,hf,b1,hg,hw]
      have b6:rs.map Prod.fst≠[]:=λh0=>by
       have:=congrArg List.length h0;simp at this;rw[this]at D;simp at D;omega
      have W:=Tp b6;generalize hm:xx (rs.map Prod.fst)=m at W;have A:∃p,fP m es=some p:=by
       cases hc:fP m es with
       |some p=>exact⟨p,rfl⟩
       |none=>
        have:=qy.1 hc;rw[I,yx]at W;exact absurd W this
      obtain⟨p,A⟩:=A;refine(zcX R2 A).mono ?_;rintro _ h3 ⟨M',au,G,f3,n3,_⟩;have ca:=HG A;have bk:es.length=rs.length:=by rw[I];simp[qx]
      refine⟨trivial,F,M',au,pH m es,fv++[p],G,by have:=R.len;omega,by simp;omega,?_,e2.fr.trans f3,λk A=>(n3 k A).imp id λU=>aZ e2.1 U⟩;unfold mD;rw[aA hf,hm,I,MT]
    ·have be:¬room≤rs.length:=ae;have hf:BX room rs=false:=by simp[BX];omega
     have bk:es.length=rs.length:=by rw[I];simp[qx]
     refine⟨trivial,by simp[vu,hf,hg,hw],M,fr,es,fv,R2,ae,ay,?_,e2.fr,λk A=>.inl A⟩;unfold mD;rw[hf];exact I.symm
   ·rintro _ ρj h2 ⟨rfl,F,M2,cc,L,b8,R2,l2,t2,a7,f2,n2⟩;refine(zbn R2 l2 t2).mono ?_;rintro x h3 ⟨M3,a9,ax,l0,G,f3,n3,t3⟩;have aa:=G.bag.own (x,l0) (by simp);have f13:Fr (λk=>M k∨h1.size≤k) h1 h3:=(f2.mono λk _ A=>.inl A).trans (f3.mono λk _ A=>n2 k A);have bd:Fr M h1 h3:=⟨f13.1,λb hb hm=>f13.2 b hb λhc=>hc.elim hm λU=>ae⟩
    have us:SlC 1 h3 (.slice ua l.length uc) l.length (l.map vi):=b4.sl.fr bd λb _ hb=>hn b hb
    have xo:Own 1 h3 x w (l0.map vi):=by
     have U:=aa.1;unfold kj at U;rw[aa.2.1]at U;exact U
    have xl:(l0.map vi).length=w:=by rw[cQ];exact aa.2.1
    refine HZ xo us Uu λh4 o4 f4 s4=>?_
    have b2:kj h4 x l:=by
     have h6:(l.map vi).take w++(l0.map vi).drop l.length=l.map vi:=by
      rw[eS (by rw[cQ];omega),qs ae,gM]
     rw[h6]at o4;unfold kj;rw[hw];exact o4
    have al:=G.bag.last (l:=l) f4 b2 hw;have ad:=aa.2.2;have v4:=f4.row G.var λhb=>(ad _ hb).1 rfl
    have m4:=G.map.fr f4 λhb=>(ad _ hb).2.1 rfl
    have bo:=G.free.fr f4 λk A aw=>(ad k aw).2.2.1 A
    simp only[go_sem,am v4];refine zaO m4 λU m5 u5=>?_
    have an:fP j L=none:=by
     cases hc:fP j L with
     |none=>rfl
     | some p=>
      exfalso;have h6:fP j (mD room rs)=some p.2:=by rw[←a7,rX,hc];rfl
      unfold mD at h6;split at h6
      ·rw[HE b5,hg]at h6;split at h6<;>cases h6
      ·rw[hg]at h6;cases h6
    have a8:Tz j x (qx Prod.fst L)=qx Prod.fst (L++[(j,(x,l))]):=by
     rw[MP (by rw[rX,an];rfl)];simp[qx]
    rw[a8]at m5;have f35:Fr M3 h3 U:=(f4.mono λk _ A=>(ad k A).2.2.2).trans (u5.fr.mono λk _ A=>by rw[show k=bm from A];exact G.inM.2.1);have f15:Fr M h1 U:=by
     have h7:Fr (λk=>M k∨h1.size≤k) h1 U:=f13.trans (f35.mono λk _ A=>(n3 k A).elim (n2 k) λh8=>.inr (aZ f2.1 h8));exact⟨h7.1,λb hb hm=>h7.2 b hb λhc=>hc.elim hm λU=>ae⟩
    refine⟨by rw[F],M3,⟨bx,bm,a9,t,L++[(j,(x,l))],ax,rfl,?_,?_,by simp;omega⟩,f15,λk A=>(n3 k A).elim (n2 k) λh8=>.inr (aZ f2.1 h8)⟩
    ·have bv:Bag M3 U bx bm a9 w (L.map Prod.snd++ax++[(x,l)]):=al.fr u5.fr λq hq k A=>((al.own q hq).2.2 k A).2.1
     exact{
      var:=u5.row (λh=>G.ap.1 h) v4
      map:=m5
      free:=bo.fr u5.fr λk A aw=>G.ap.2.2 (aw▸A)
      bag:=bv.perm (by
       rw[gM,jT,cg,cg];exact(GX (l₁:=[(x,l)])).append_left _)
      ap:=G.ap,inM:=G.inM
      lt:=λk A=>bX (G.lt k A) f35.1
      nums:=G.nums
      keys:=λe he=>by
       rcases gX.1 he with he|he
       ·exact G.keys e he
       ·rw[iy.1 he];exact hj
      len:=by simp;omega
      tot:=by simp;omega}
    ·unfold SV;rw[aA F,←a7];simp[qx]
 ·have ar:¬(l.length:Int)=(w:Int):=ae;have F:vu room w rs j l=false:=by simp[vu,hw]
  simp only[go_sem,am R.var,ar];exact⟨by rw[F],no F _ (Ext.refl _)⟩
def Jj (rs:List (Int×List Int))(a b n:Int)(is:Bool):Prop:=
 (is=true∧a≤n∧n<b∧fP n rs=none∧∀i,a≤i→i<n→(fP i rs).isSome=true)∨(is=false∧n=0∧∀i,a≤i→i<b→(fP i rs).isSome=true)
theorem zbK {M:Nat→Prop}{h:ah}{v:Value}{room w:Nat}{rs:List (Int×List Int)}(H:ia M h v room w rs){a b:Int}(ha: -9223372036854775808≤a)(hb:b≤9223372036854775807):
  ag prog qG #[v,af a,af b] h λr h'=>(∃n U,r=.tuple #[af n,.bool U]∧Jj rs a b n U)∧h'=h:=by
 apply Gy;unfold wz;refine dx (λd xs h'=>h'=h∧∃j,a≤j∧d=(b-j).toNat∧xs=[af j]∧∀i,a≤i→i<j→(fP i rs).isSome=true) (b-a).toNat ⟨rfl,a,ae,rfl,rfl,λi h1 D=>ae⟩ ?_;rintro d _ ρj h1 again ⟨hh,j,G,rfl,rfl,A⟩ I;subst hh;simp only[go_sem];refine ao (λF=>?_) (λW=>?_)
 ·refine(zac H j).mono ?_;rintro _ D ⟨rfl,hh⟩;subst hh
  try simp only[go_sem]
  cases L:fP j rs with
  |none=>
   simp only[Option.isSome_none,go_sem];exact⟨⟨j,true,rfl,.inl ⟨rfl,G,F,L,A⟩⟩,trivial⟩
  |some p=>
   simp only[Option.isSome_some,go_sem];rw[w64 ae ae];refine I _ _ (b-(j+1)).toNat ae ⟨rfl,j+1,ae,rfl,rfl,λi h1 D=>?_⟩;by_cases hi:i=j
   ·rw[hi,L];rfl
   ·exact A i h1 ae
 ·exact⟨⟨0,false,rfl,.inr ⟨rfl,rfl,λi h1 D=>A i h1 ae⟩⟩,trivial⟩
theorem wf64 {n:Int}(h1: -9223372036854775808≤n)(A:n≤9223372036854775807):(Lit.int .i64 n).wf=true:=by
 show(decide (IntKind.i64.min≤n)&&decide (n≤IntKind.i64.max))=true;rw[dj,dI,dI];exact⟨h1,A⟩
end Go.Proofs.YtjljhnandbbldaaGreatDoor
namespace Go.Proofs.YtjljhnandbbldaaGreatDoor
open Go Go.Crisp
attribute [local irreducible] ag di aW stK aF vK qK bK gK fo bA mkK dk Fm GM CJ bsK clK tW oA V0
open _root_.Go.Proofs.Tryz
section
structure fO where
 m:Pic
 s:Stg
 t:cZ
structure fO.Wf (d:fO):Prop where
 m:d.m.Wf
 s:d.s.Wf
 su:nJ d.m d.s
 w1:1≤d.t.w
 h1:1≤d.t.h
 x0:0≤d.t.x
 y0:0≤d.t.y
 xw:d.t.x+d.t.w≤d.s.x.lines.length
 yh:d.t.y+d.t.h≤d.s.y.lines.length
abbrev U6 (bf bt:Nat)(p q rv:Value)(d:fO)(y:Int):List Value:=[ptr bf,ptr bt,p,q,.int .i64 d.s.border]++dC d.t++[rv,.int .i64 y]
structure ft (Z M:Nat→Prop)(h:ah)(bj bf:Nat)(vf:Value)(bt:Nat)(vt p q rv:Value)(d:fO)(y:Int)(n:Pic)(room w:Nat)(rs:List (Int×List Int)):Prop where
 row:h[bj]? =some (.cells (U6 bf bt p q rv d y).toArray 246 (0,0))
 src:dd h bf vf d.m
 tx:fJ Z h p d.s.x
 ty:fJ Z h q d.s.y
 ring:ia M h rv room w rs
 out:dd h bt vt n
 zf:Z bf∧∀c,blk vf c→Z c
 zz:∀c,Z c→¬M c∧c≠bj∧¬blk vt c
 mj:¬M bj∧¬M bt∧(∀c,blk vt c→¬M c)
 jt:bj≠bt∧¬blk vt bj
 y0:d.t.y≤y
 y1:y≤d.t.y+d.t.h
 zl:∀c,Z c→c<h.size
section
variable {Z M:Nat→Prop}{h:ah}{bj bf:Nat}{vf:Value}{bt:Nat}{vt p q rv:Value}{d:fO}{y:Int}{n:Pic}{room w:Nat}{rs:List (Int×List Int)}
theorem ft.ext {h':ah}(J:ft Z M h bj bf vf bt vt p q rv d y n room w rs)(e:Ext h h'):ft Z M h' bj bf vf bt vt p q rv d y n room w rs:=
 ⟨e.row J.row,J.src.ext e,J.tx.ext e,J.ty.ext e,J.ring.ext e,J.out.ext e,J.zf,J.zz,J.mj,J.jt,J.y0,J.y1,λc hc=>bX (J.zl c hc) e.1⟩
theorem fO.bd (W:d.Wf):d.t.x+d.t.w≤65536∧d.t.y+d.t.h≤65536:=by
 have:=W.s.x.len;have:=W.s.y.len;have:=W.xw;have:=W.yh;omega
theorem zcS (J:ft Z M h bj bf vf bt vt p q rv d y n room w rs)(W:d.Wf):ag prog oO #[ptr bj] h λr h'=>r=.bool (decide (d.t.y+d.t.h≤y))∧h'=h:=by
 apply EC;unfold uM;have D:=fO.bd W;have h1:=W.y0;have A:=W.h1;simp only[go_sem,aK,am J.row];simp only[U6,dC,mX,fG,y6,BQ,C5,go_sem];rw[w64 (n:=d.t.y+d.t.h) ae ae];exact⟨rfl,trivial⟩
theorem ft.c2 {h':ah}(J:ft Z M h bj bf vf bt vt p q rv d y n room w rs)(e:Ext h h'):aG h' ⟨bj,2,none⟩=some p:=by rw[am (e.row J.row)];rfl
theorem ft.c3 {h':ah}(J:ft Z M h bj bf vf bt vt p q rv d y n room w rs)(e:Ext h h'):aG h' ⟨bj,3,none⟩=some q:=by rw[am (e.row J.row)];rfl
theorem ft.c4 {h':ah}(J:ft Z M h bj bf vf bt vt p q rv d y n room w rs)(e:Ext h h'):aG h' ⟨bj,4,none⟩=some (af d.s.border):=by rw[am (e.row J.row)];rfl
theorem ft.c0 {h':ah}(J:ft Z M h bj bf vf bt vt p q rv d y n room w rs)(e:Ext h h'):aG h' ⟨bj,0,none⟩=some (ptr bf):=by rw[am (e.row J.row)];rfl
theorem ft.c1 {h':ah}(J:ft Z M h bj bf vf bt vt p q rv d y n room w rs)(e:Ext h h'):aG h' ⟨bj,1,none⟩=some (ptr bt):=by rw[am (e.row J.row)];rfl
theorem ft.c6 {h':ah}(J:ft Z M h bj bf vf bt vt p q rv d y n room w rs)(e:Ext h h'):aG h' ⟨bj,6,none⟩=some (af d.t.x):=by rw[am (e.row J.row)];rfl
theorem ft.c8 {h':ah}(J:ft Z M h bj bf vf bt vt p q rv d y n room w rs)(e:Ext h h'):aG h' ⟨bj,8,none⟩=some (af d.t.w):=by rw[am (e.row J.row)];rfl
theorem ft.c15 {h':ah}(J:ft Z M h bj bf vf bt vt p q rv d y n room w rs)(e:Ext h h'):aG h' ⟨bj,15,none⟩=some rv:=by rw[am (e.row J.row)];rfl
theorem ft.c16 {h':ah}(J:ft Z M h bj bf vf bt vt p q rv d y n room w rs)(e:Ext h h'):aG h' ⟨bj,16,none⟩=some (af y):=by rw[am (e.row J.row)];rfl
theorem P8 (J:ft Z M h bj bf vf bt vt p q rv d y n room w rs)(W:d.Wf):ag prog kL #[ptr bj] h λr h'=>
  ∃u,r=.agg #[af (bE d.s.y y).1,u]∧SlI (fQ h h') h' u (bE d.s.y y).2∧Ext h h':=by
 apply ED;unfold uN;refine aI λb1 h1 r1 A H=>?_
 have U:=bC r1;simp only[go_sem,aK];refine aQ (λh'=>h'=h1) rfl ?_;refine aC q (λh' e=>by rw[e];exact J.c3 A) ?_;refine aC (af y) (λh' e=>by rw[e];exact J.c16 A) ?_;refine(Cf (J.ty.ext A) W.s.y).mono λr L ⟨u,e,S,G⟩=>?_
 subst e;refine cT (l:=[af (bE d.s.y y).1,u]) (G.row r1) rfl (aq rfl (aq S.one aX)) rfl λh3 I F=>?_
 rw[aU I 2 rfl,ak];refine⟨u,rfl,?_,(A.trans G).upd H F⟩;refine(S.fr F.fr λc _ D he=>?_).mono λc hc D=>⟨aZ A.1 D.1,hc⟩
 have:=D.1;omega
abbrev BP (k j:Int):Value:=.agg #[.int .i64 k,.int .i64 j]
def Uo (d:fO)(y:Int)(rs:List (Int×List Int))(k j:Int):Prop:=
 if d.t.y+d.t.h≤y then k=0∧j=0 else
  (k=1∧Jj rs (bE d.s.y y).1 ((bE d.s.y y).1+((bE d.s.y y).2.length:Int)) j true)∨(k=2∧j=y∧Jj rs (bE d.s.y y).1 ((bE d.s.y y).1+((bE d.s.y y).2.length:Int)) 0 false)
theorem Yd (J:ft Z M h bj bf vf bt vt p q rv d y n room w rs)(W:d.Wf):ag prog iK #[ptr bj] h λr h'=>∃k j,r=BP k j∧Uo d y rs k j∧Ext h h':=by
 apply EH;unfold uP;refine aI λb1 h1 r1 I U=>?_
 have l1:=bC r1;have G:=J.ext I;refine(zcS G W).mono λr H ⟨e,A⟩=>?_
 have A:=A.symm;subst e A;refine ao (λH=>?_) (λH=>?_)
 ·rw[gC,bG,ak];refine cT (l:=[ai,ai]) r1 rfl (aq rfl (aq rfl aX)) rfl λh3 r3 u3=>?_
  rw[aU r3 2 rfl,ak];exact⟨0,0,rfl,by unfold Uo;rw[aA H];exact⟨rfl,rfl⟩,I.upd U u3⟩
 refine(P8 G W).mono λr h3 ⟨u,e,S,e3⟩=>?_
 subst e;refine dh (cs:=[af (bE d.s.y y).1,u]) rfl (aq rfl (aq S.one aX)) rfl λb4 h4 r4 e4 n4=>?_
 have D:=e3.trans e4;have J4:=G.ext D;have hl:=qP W.s.y y;obtain⟨au,cu,eu⟩:=S.isSl;have aa:aD u=some (af ((bE d.s.y y).2.length:Int)):=by rw[eu];rfl
 have hN:∀k j,Uo d y rs k j↔((k=1∧Jj rs (bE d.s.y y).1 ((bE d.s.y y).1+((bE d.s.y y).2.length:Int)) j true)∨(k=2∧j=y∧Jj rs (bE d.s.y y).1 ((bE d.s.y y).1+((bE d.s.y y).2.length:Int)) 0 false)):=λk j=>by unfold Uo;rw[az H]
 generalize bE d.s.y y=L at*;refine aQ (λh'=>h'=h4) rfl ?_;simp only[go_sem,aK];refine aC rv (λh' e=>by rw[e];exact G.c15 D) ?_;refine aC (af L.1) (λh' e=>by rw[e];exact am r4) ?_;refine aC (af L.1) (λh' e=>by rw[e];exact am r4) ?_;refine aC u (λh' e=>by rw[e];exact am r4) ?_;refine aC (af (L.2.length:Int)) (λh' e=>aa) ?_;simp only[go_sem];rw[w64 (n:=L.1+(L.2.length:Int)) ae ae];refine(zbK J4.ring (a:=L.1) (b:=L.1+(L.2.length:Int)) ae ae).mono λr h5 ⟨⟨j,is,e,hn⟩,A⟩=>?_
 have A:=A.symm;subst e A;simp only[go_sem];have F:=D.row r1;refine jW (λhi=>?_) (λhi=>?_)
 ·subst hi;have hf:aM #[ai,ai] [(0,1,af 1),(1,1,af j)]=some #[aH,af j]:=zF rfl rfl;rw[hf,bG,ak];refine cT (l:=[aH,af j]) F rfl (aq rfl (aq rfl aX)) rfl λh6 r6 u6=>?_
  rw[aU r6 2 rfl,ak];exact⟨1,j,rfl,(hN 1 j).2 (.inl ⟨rfl,hn⟩),(I.trans D).upd U u6⟩
 ·subst hi;have hj:j=0:=by rcases hn with⟨hh,_⟩|⟨_,hh,_⟩;cases hh;exact hh
  subst hj;rw[G.c16 D,ak];have hf:aM #[ai,ai] [(0,1,af 2),(1,1,af y)]=some #[af 2,af y]:=zF rfl rfl;rw[hf,bG,ak];refine cT (l:=[af 2,af y]) F rfl (aq rfl (aq rfl aX)) rfl λh6 r6 u6=>?_
  rw[aU r6 2 rfl,ak];exact⟨2,y,rfl,(hN 2 y).2 (.inr ⟨rfl,rfl,hn⟩),(I.trans D).upd U u6⟩
end
end
section
section
variable {Z M:Nat→Prop}{h:ah}{bj bf:Nat}{vf:Value}{bt:Nat}{vt p q rv:Value}{d:fO}{y:Int}{n:Pic}{room w:Nat}{rs:List (Int×List Int)}
def XV (d:fO)(x row:Int):List Int:=(List.range d.m.c.toNat).map λc:Nat=>IntKind.i64.wrap (uu d.m d.s x row c)
theorem Z6 {h0:ah}{u:Value}{l:List Int}{x row:Int}(J:ft Z M h0 bj bf vf bt vt p q rv d y n room w rs)(W:d.Wf)(N:New (Rp.int .i64) h0 h u l)(hl:l.length≤1000000):
  ag prog lX #[ptr bj,af x,af row,u] h λr h'=>New (Rp.int .i64) h0 h' r (l++XV d x row):=by
 apply BA;unfold rl;have E0:=N.2.1;simp only[go_sem,aK,J.c2 E0];refine(Cf (J.tx.ext E0) W.s.x).mono λr h1 ⟨v,e,S,e1⟩=>?_
 subst e;refine dh (cs:=[af (bE d.s.x x).1,v]) rfl (aq rfl (aq S.one aX)) rfl λb2 h2 r2 e2 n2=>?_
 have E2:=E0.trans (e1.trans e2);simp only[go_sem,aK,J.c0 E2];refine(eU (J.src.ext E2)).mono λr h3 ⟨e,A⟩=>?_
 have A:=A.symm;subst e A;have hf:=du W.m.fits;have aw:=qP W.s.x x;unfold XV uu;obtain⟨C,hC⟩:∃C:Nat,d.m.c=(C:Int):=⟨d.m.c.toNat,ae⟩
 rw[hC,eo];have S2:=S.ext e2;have Sz:SlI (λc=>¬blk u c∧c≠b2∧c<h2.size) h2 v (bE d.s.x x).2:=S2.mono λc hc H=>⟨λhu=>by have:=N.lt hu;have:=H.1;omega,λhe=>by have:=H.2;omega,hc⟩
 have an:¬blk u b2:=λhu=>by have:=N.lt hu;have:=e1.1;omega
 generalize bE d.s.x x=L at*;obtain⟨av,cv,ev⟩:=S.isSl;have au:aD v=some (af (L.2.length:Int)):=by rw[ev];rfl
 obtain⟨g,hg⟩:∃g:Nat→Int,g=λc:Nat=>IntKind.i64.wrap (yO (λi=>L.2.getD i 0*atP d.m (atZ d.s.border (L.1+i) d.m.w) row c) L.2.length):=⟨_,rfl⟩
 rw[←hg];refine bI (α:=Value) C 0 (λc u=>[u,af (c:Int)]) (λc u h'=>New (Rp.int .i64) h0 h' u (l++(List.range c).map g)∧SlI (λc=>¬blk u c∧c≠b2∧c<h2.size) h' v L.2∧h2.size≤h'.size∧h'[b2]? =some (.cells #[af L.1,v] 189 (0,0))∧¬blk u b2∧Ext h0 h') u rfl (b9 _)
  ⟨by simpa using N.ext (e1.trans e2),Sz,cq _,r2,an,E2⟩ λc u h4 again ρ1 _ hc ⟨N4,S4,al,r4,u4,E4⟩ ar=>?_
 simp only[go_sem];refine ao (λh5=>?_) (λh5=>?_)
 ·have c1:aG h4 ⟨b2,1,none⟩=some v:=am r4;simp only[go_sem,aK,c1,au];have J4:=J.ext E4;refine lF (λi=>[af (IntKind.i64.wrap (yO (λi=>L.2.getD i 0*atP d.m (atZ d.s.border (L.1+i) d.m.w) row c) i)),af (i:Int)]) L.2.length 0 rfl (b9 _) λi aa ρ2 _ hi F=>?_
  simp only[go_sem];refine ao (λh6=>?_) (λh6=>?_)
  ·have U:i<L.2.length:=ae;have F:=F U;obtain⟨pi,i1,i2⟩:=S4.int_at (k':=.i64) U;have ea:L.2.getD i 0=L.2[i]:=by simp[dS,U]
   rw[i1,ak,i2,ak,←ea];refine aQ (λh'=>h'=h4) rfl ?_
   try simp only[go_sem,aK]
   refine aC (af d.s.border) (λh' e=>by rw[e];exact J.c4 E4) ?_;refine aC (af L.1) (λh' e=>by rw[e];exact am r4) ?_
   try simp only[go_sem,aK]
   refine aC (ptr bf) (λh' e=>by rw[e];exact J.c0 E4) ?_;rw[w64 (n:=L.1+(i:Int)) ae ae];refine(ur J4.src).mono λr D ⟨e,A⟩=>?_
   have A:=A.symm;subst e A;refine⟨rfl,?_⟩;refine(vI (by unfold I64;omega)).mono λr D ⟨e,A⟩=>?_
   have A:=A.symm;subst e A;simp only[go_sem,aK,J.c0 E4];refine(zbR J4.src W.m).mono λr D ⟨e,A⟩=>?_
   have A:=A.symm;subst e A;have hv:=zam W.m (atZ d.s.border (L.1+(i:Int)) d.m.w) row c;have hm:=W.m.m2;simp only[go_sem];rw[w64 (n:=atP d.m (atZ d.s.border (L.1+(i:Int)) d.m.w) row c) ae ae,Pa,w64 (n:=(i:Int)+1) ae ae];exact F
  ·have ad:i=L.2.length:=ae;subst ad;have ab:IntKind.i64.wrap (yO (λi=>L.2.getD i 0*atP d.m (atZ d.s.border (L.1+i) d.m.w) row c) L.2.length)=g c:=by rw[hg]
   rw[ab];have G:(l++(List.range c).map g).length=l.length+c:=by simp
   refine Rp.push_ow1 (e:=Rp.int .i64) rfl N4.1 (x:=g c) rfl rfl (by rw[G];omega) (by rw[G];omega) (λb hb=>hb.elim) λs' h' o' f' n'=>?_
   try simp only[go_sem]
   rw[w64 ae ae];have E':Ext h0 h':=E4.then_fr f' N4.2.2;have I:∀b,blk s' b→blk u b∨h4.size≤b:=n';refine ar s' h' ae ⟨⟨by rw[sF _ (c+1) c ae,←cg];exact o',E',λb hb=>?_⟩,?_,aZ al f'.1,f'.row r4 u4,λhb=>?_,E'⟩
   ·rcases I b hb with D|D
    ·exact N4.2.2 b D
    ·exact aZ E4.1 D
   ·refine(S4.fr f' λb _ H=>H.1).mono λb hb H=>⟨λhs=>?_,H.2⟩
    rcases I b hs with D|D
    ·exact H.1 D
    ·have:=H.2.2;omega
   ·rcases I _ hb with D|D
    ·exact u4 D
    ·have:=bC r4;omega
 ·have:c=C:=ae;subst this;exact N4
def LH (d:fO)(real:Int):Nat→List Int
 |0=>[]
 |x+1=>LH d real x++XV d (d.t.x+x) real
def Ew (d:fO)(j:Int):List Int:=LH d (atZ d.s.border j d.m.h) d.t.w.toNat
theorem ZF (d:fO)(x row:Int):(XV d x row).length=d.m.c.toNat:=by unfold XV;simp
theorem Bu (d:fO)(real:Int):∀k,(LH d real k).length=k*d.m.c.toNat
 |0=>by simp[LH]
 |k+1=>by unfold LH;rw[cz,Bu,ZF,em,sH]
theorem SQ (d:fO)(real:Int){x c:Nat}(hc:c<d.m.c.toNat):∀{k:Nat},x<k→(LH d real k).getD (x*d.m.c.toNat+c) 0=IntKind.i64.wrap (uu d.m d.s (d.t.x+x) real c)
 |0,h=>absurd h ae
 | k+1,h=>by
  unfold LH;have F:=Bu d real k;by_cases D:x<k
  ·have h1:x*d.m.c.toNat+c<(LH d real k).length:=by
    rw[F];have:(x+1)*d.m.c.toNat≤k*d.m.c.toNat:=iz _ D;rw[em,sH]at this;omega
   have:=SQ d real hc D;rw[dS]at this ⊢;rw[uh h1];exact this
  ·have A:x=k:=ae;subst A;rw[dS,tZ ae,F,Wb];unfold XV;simp[hc]
theorem ZZ {j:Int}(J:ft Z M h bj bf vf bt vt p q rv d y n room w rs)(W:d.Wf)(hj:I64 j)(hs:d.t.w≤300):
  ag prog lW #[ptr bj,af j] h λr h'=>∃M',ft Z M' h' bj bf vf bt vt p q rv d y n room w (SV room w rs j (Ew d j))∧Fr M h h'∧∀k,M' k→M k∨h.size≤k:=by
 apply Bz;unfold rk;have hf:=du W.m.fits;have hb:=fO.bd W;have an:=W.w1;have ar:=W.x0;simp only[go_sem,aK];refine aQ (λh'=>h'=h) rfl ?_;refine aC (af d.s.border) (λh' e=>by rw[e];exact J.c4 (Ext.refl _)) ?_;refine aC (ptr bf) (λh' e=>by rw[e];exact J.c0 (Ext.refl _)) ?_;refine(sh J.src).mono λr h1 ⟨e,I⟩=>?_
 have I:=I.symm;subst e I;refine⟨rfl,?_⟩;refine(vI hj).mono λr h1 ⟨e,I⟩=>?_
 have I:=I.symm;subst e I;simp only[go_sem,aK,J.c8 (Ext.refl _)];unfold Ew;generalize atZ d.s.border j d.m.h=real;obtain⟨N,hN⟩:∃N:Nat,d.t.w=(N:Int):=⟨d.t.w.toNat,ae⟩
 rw[hN,eo];have hC:d.m.c.toNat≤3:=ae;have D:∀k,k≤N→(LH d real k).length≤900:=λk hk=>by
  rw[Bu];have:=zi (show k≤300 by omega) hC;omega
 refine bI (α:=Value) N 0 (λk u=>[u,af (k:Int)]) (λk u h'=>New (Rp.int .i64) h h' u (LH d real k)) (.slice none 0 0) rfl (b9 _) (New.nil (Ext.refl _)) λk u h2 again ρ1 _ hk A ad=>?_
 simp only[go_sem];refine ao (λh3=>?_) (λh3=>?_)
 ·simp only[go_sem,aK,J.c6 A.2.1];rw[w64 (n:=d.t.x+(k:Int)) ae ae];refine(Z6 J W A (by have:=D k hk;omega)).mono λr h4 N4=>?_
  rw[w64 ae ae];exact ad r h4 ae N4
 ·have ab:k=N:=ae;subst ab;have L:=J.ext A.2.1;simp only[go_sem,aK,J.c15 A.2.1];have al:lH h2 u (LH d real k):=by
   obtain⟨a,cap,e⟩:=A.isSl;refine⟨a,cap,e,?_⟩;have o:=(Qz A.1).sl;obtain⟨_,a',c',e',U⟩:=o;rw[e]at e';cases e';rcases U with U|⟨b,o,ha,U⟩
   ·left;simpa using U
   ·refine .inr ⟨b,o,ha,λi hi=>?_⟩;have:=U i (by simpa using hi);rw[this,eT];rfl
  refine(zc0 L.ring (by unfold I64 at hj;exact wf64 hj.1 hj.2) al (by have:=D k hk;omega) λb hb hm=>?_).mono λr h5 ⟨e,M',R',G,m'⟩=>?_
  ·have F:=A.2.2 b hb;have h7:=J.ring.lt hm;omega
  have lt:∀c,c<h.size→¬M c→¬M' c:=λc hc hm aa=>by
   rcases m' c aa with F|F
   ·exact hm F
   ·have:=A.2.1.1;omega
  have zl:=J.zl;have zM:∀c,Z c→¬M c:=λc hc=>(J.zz c hc).1
  refine⟨M',⟨G.row L.row J.mj.1,L.src.fr G (zM _ J.zf.1) λc hc=>zM _ (J.zf.2 c hc),L.tx.fr G λc _ H=>zM c H,L.ty.fr G λc _ H=>zM c H,R',L.out.fr G J.mj.2.1 J.mj.2.2,J.zf,
   λc H=>⟨lt c (zl c H) (zM c H),(J.zz c H).2⟩,⟨lt _ (bC J.row) J.mj.1,lt _ J.out.lt J.mj.2.1,λc hc=>lt c (J.out.ltv hc) (J.mj.2.2 c hc)⟩,J.jt,J.y0,J.y1,λc hc=>?_⟩,A.2.1.fr.trans G,λk hk=>?_⟩
  ·have F:=zl c hc;have h7:=A.2.1.1;have h8:=G.1;omega
  ·rcases m' k hk with F|F
   ·exact .inl F
   ·exact .inr (aZ A.2.1.1 F)
end
end
section
structure Ih (d:fO)(n:Pic):Prop where
 wf:n.Wf
 w:n.w=d.s.x.lines.length
 h:n.h=d.s.y.lines.length
 c:n.c=d.m.c
 m:n.most=d.m.most
section
variable {Z M:Nat→Prop}{h:ah}{bj bf:Nat}{vf:Value}{bt:Nat}{vt p q rv:Value}{d:fO}{y:Int}{n:Pic}{room w:Nat}{rs:List (Int×List Int)}
theorem ft.set {h':ah}{n':Pic}(J:ft Z M h bj bf vf bt vt p q rv d y n room w rs)(f:Fr (blk vt) h h')(I:dd h' bt vt n'):ft Z M h' bj bf vf bt vt p q rv d y n' room w rs:=
 ⟨f.row J.row J.jt.2,J.src.fr f (J.zz _ J.zf.1).2.2 λc hc=>(J.zz _ (J.zf.2 c hc)).2.2,J.tx.fr f λc _ A=>(J.zz c A).2.2,J.ty.fr f λc _ A=>(J.zz c A).2.2,J.ring.fr f λc _ F D=>J.mj.2.2 c D F,I,J.zf,J.zz,J.mj,J.jt,J.y0,J.y1,
  λc hc=>bX (J.zl c hc) f.1⟩
def xV (d:fO)(y:Int)(i:Int)(x' y' c':Int):Prop:=y'=y∧d.t.x≤x'∧x'<d.t.x+d.t.w∧(x'-d.t.x)*d.m.c+c'<i
instance (d:fO)(y i D A c':Int):Decidable (xV d y i D A c'):=by unfold xV;infer_instance
theorem zbl (J:ft Z M h bj bf vf bt vt p q rv d y n room w rs)(W:d.Wf)(O:Ih d n)(hs:d.t.w≤300)(hy:y<d.t.y+d.t.h)(hw:(w:Int)=d.t.w*d.m.c)
  (bv:∀k:Nat,k<(bE d.s.y y).2.length→fP ((bE d.s.y y).1+(k:Int)) rs=some (Ew d ((bE d.s.y y).1+(k:Int)))):
  ag prog mY #[ptr bj] h λr h'=>∃n',ft Z M h' bj bf vf bt vt p q rv d (y+1) n' room w rs∧Ih d n'∧(∀D F c',inP n D F c'→atP n' D F c'=if xV d y w D F c' then xr d.m d.s D F c' else atP n D F c')∧Fr (λc=>blk vt c∨c=bj) h h':=by
 apply Di;unfold tf;have hf:=du W.m.fits;have hb:=fO.bd W;have c7:=W.w1;have ea:=W.x0;have eh:=W.y0;refine(P8 J W).mono λr h1 ⟨u,e,S,e1⟩=>?_
 subst e;have hl:=qP W.s.y y;refine dh (cs:=[af (bE d.s.y y).1,u]) rfl (aq rfl (aq S.one aX)) rfl λb2 h2 r2 e2 n2=>?_
 have E2:=e1.trans e2;have S2:=S.ext e2;obtain⟨au,cu,eu⟩:=S.isSl;have b4:aD u=some (af ((bE d.s.y y).2.length:Int)):=by rw[eu];rfl
 have a9:∀x c,yO (λk=>(bE d.s.y y).2.getD k 0*uu d.m d.s x (atZ d.s.border ((bE d.s.y y).1+k) d.m.h) c) (bE d.s.y y).2.length=Lf d.m d.s x y c:=λx c=>rfl
 generalize bE d.s.y y=L at*;obtain⟨C,hC⟩:∃C:Nat,d.m.c=(C:Int):=⟨d.m.c.toNat,ae⟩
 have ca:1≤C∧C≤3:=ae;obtain⟨Wn,aw⟩:∃Wn:Nat,d.t.w=(Wn:Int):=⟨d.t.w.toNat,ae⟩
 have ab:w=Wn*C:=by
  rw[aw,hC]at hw
  exact_mod_cast hw
 have ei:w≤900:=by
  rw[ab];have:=zi (show Wn≤300 by omega) ca.2;omega
 simp only[go_sem,aK,J.c15 E2];refine(zab (J.ring.ext E2)).mono λr h3 ⟨e,H⟩=>?_
 have H:=H.symm;subst e H;refine og rfl ae ae λsv h3 o3 e3 n3=>?_
 have E3:=E2.trans e3;have c1:aG h3 ⟨b2,1,none⟩=some u:=am (e3.row r2);simp only[go_sem,aK,c1,b4]
 -- the sums
 obtain⟨g,hg⟩:∃g:Nat→Nat→Int,g=λk i=>yO (λk=>L.2.getD k 0*uu d.m d.s (d.t.x+((i/C:Nat):Int)) (atZ d.s.border (L.1+k) d.m.h) ((i%C:Nat):Int)) k:=⟨_,rfl⟩
 refine bI (α:=Unit) L.2.length 0 (λk _=>[af (k:Int)]) (λk _ h'=>Ext h2 h'∧Own 1 h' sv w ((List.range w).map λi=>af (IntKind.i64.wrap (g k i)))) () rfl (b9 _)
  ⟨e3,by
   rw[Kz]at o3;rw[←bN (g:=λi=>af ((λ_=>0:Nat→Int) i)) λi _=>by rw[hg];rfl];exact o3⟩ λk _ h4 again ρ1 _ hk ⟨E4,o4⟩ ax=>?_
 have U:=E2.trans E4;simp only[go_sem];refine ao (λh5=>?_) (λh5=>?_)
 ·have ar:k<L.2.length:=ae;obtain⟨pk,k1,k2⟩:=(S2.ext E4).int_at (k':=.i64) ar;have eb:L.2.getD k 0=L.2[k]:=by simp[dS,ar]
  rw[k1,ak,k2,ak,←eb];refine aQ (λh'=>h'=h4) rfl ?_
  try simp only[go_sem,aK]
  refine aC rv (λh' e=>by rw[e];exact J.c15 U) ?_;refine aC (af L.1) (λh' e=>by rw[e];exact am (E4.row r2)) ?_;simp only[go_sem];rw[w64 (n:=L.1+(k:Int)) ae ae];refine(zcZ (J.ring.ext U) (L.1+(k:Int))).mono λr h5 ⟨v,e,ov,e5,nv⟩=>?_
  subst e;rw[bv k ar]at ov;have ov:kj h5 v (Ew d (L.1+(k:Int))):=ov;have cc:(Ew d (L.1+(k:Int))).length=w:=by
   unfold Ew;rw[Bu,aw,hC,eo,eo,ab]
  have Sv:=EA (k:=.i64) ov;obtain⟨av,cv,ev⟩:=Sv.isSl;have ct:aD v=some (af (w:Int)):=by rw[ev,cc];rfl
  simp only[go_sem,ct];have o5:=o4.fr (M:=λ_=>False) e5.fr λ_ _=>id
  have a7:∀i,i<w→(Ew d (L.1+(k:Int))).getD i 0=IntKind.i64.wrap (uu d.m d.s (d.t.x+((i/C:Nat):Int)) (atZ d.s.border (L.1+(k:Int)) d.m.h) ((i%C:Nat):Int)):=λi hi=>by
   have h6:i%C<C:=gN _ ae;have h7:i/C<Wn:=by rw[vB ae,←ab];exact hi
   have h8:=SQ d (atZ d.s.border (L.1+(k:Int)) d.m.h) (x:=i/C) (c:=i%C) (by rw[hC,eo];exact h6) (k:=Wn) h7;rw[hC,eo,eO,mV]at h8;unfold Ew;rw[aw,eo];exact h8
  have bg:∀c,blk sv c→¬blk v c:=λc hc hv=>by
   have:=nv c hv;have:=o4.lt hc;omega
  refine bI (α:=Unit) w 0 (λi _=>[af (i:Int)]) (λi _ h'=>Ext h2 h'∧Rp.Sl (Rp.int .i64) (blk v) h' v (Ew d (L.1+(k:Int)))∧Own 1 h' sv w ((List.range w).map λj=>af (IntKind.i64.wrap (if j<i then g (k+1) j else g k j)))) () rfl (b9 _)
   ⟨E4.trans e5,Sv,by
    rw[←bN (g:=λi=>af (IntKind.i64.wrap (g k i))) λi _=>by rw[az ae]];exact o5⟩ λi _ h6 b3 ρ2 _ hi ⟨E6,bc,o6⟩ be=>?_
  simp only[go_sem];refine ao (λh7=>?_) (λh7=>?_)
  ·have G:i<w:=ae;obtain⟨pv,v1,v2⟩:=bc.int_at (k':=.i64) (i:=i) ae;have b6:(Ew d (L.1+(k:Int)))[i]'ae=(Ew d (L.1+(k:Int))).getD i 0:=by simp[dS,show i<(Ew d (L.1+(k:Int))).length by omega]
   rw[b6,a7 i G]at v2;obtain⟨ps,s1,s2,s3⟩:=Own.at_map o6 (k:=.i64) G;simp only[go_sem,v1,v2,s1,s2];rw[az ae,Er,Pa];have b8:g k i+L.2.getD k 0*uu d.m d.s (d.t.x+((i/C:Nat):Int)) (atZ d.s.border (L.1+(k:Int)) d.m.h) ((i%C:Nat):Int)=g (k+1) i:=by rw[hg];rfl
   rw[b8];refine s3 _ _ λh8 o8 f8=>?_
   rw[w64 ae ae];refine be () h8 G ⟨E6.then_fr f8 λc hc=>n3 c hc,bc.fr f8 λc _ hz hs=>bg c hs hz,?_⟩;rw[←bN (g:=λj=>af (if j=i then IntKind.i64.wrap (g (k+1) i)else IntKind.i64.wrap (if j<i then g (k+1) j else g k j))) λj _=>by
    congr 1
    by_cases h1:j=i
    ·rw[aA h1,aA ae,h1]
    ·rw[az h1];by_cases h2:j<i
     ·rw[aA h2,aA ae]
     ·rw[az h2,az ae]]
   exact o8
  ·have ay:i=w:=ae;subst ay;rw[w64 ae ae];refine ax () h6 ae ⟨E6,?_⟩;rw[←bN (g:=λj=>af (IntKind.i64.wrap (if j<i then g (k+1) j else g k j))) λj hj=>by rw[aA hj]];exact o6
 have cb:k=L.2.length:=ae;subst cb;have J4:=J.ext U;have bk:Own 1 h4 sv w ((List.range w).map λi=>af (IntKind.i64.wrap (Lf d.m d.s (d.t.x+((i/C:Nat):Int)) y ((i%C:Nat):Int)))):=by
  rw[←bN (g:=λi=>af (IntKind.i64.wrap (g L.2.length i))) λi _=>by rw[hg];rw[←a9]];exact o4
 have cr:∀c,blk sv c→¬blk vt c:=λc hc hv=>by
  have h6:=n3 c hc;have h7:=J.out.ltv hv;have h8:=E2.1;omega
 obtain⟨ec,dl,es⟩:=bk.isSl;have cp:aD sv=some (af (w:Int)):=by rw[es];rfl
 simp only[go_sem,aK,J.c1 U];refine(eU J4.out).mono λr h5 ⟨e,H⟩=>?_
 have H:=H.symm;subst e H;rw[O.c,hC];simp only[go_sem,cp];refine bI (α:=Pic) w 0 (λi _=>[af (i:Int)]) (λi n' h'=>ft Z M h' bj bf vf bt vt p q rv d y n' room w rs∧Ih d n'∧(∀D F c',inP n D F c'→atP n' D F c'=if xV d y i D F c' then xr d.m d.s D F c' else atP n D F c')∧
   Own 1 h' sv w ((List.range w).map λi=>af (IntKind.i64.wrap (Lf d.m d.s (d.t.x+((i/C:Nat):Int)) y ((i%C:Nat):Int))))∧Fr (blk vt) h4 h') n rfl (b9 _)
  ⟨J4,O,λD F c' hi=>by
   rw[az];unfold xV inP at*;rintro⟨a1,a2,a3,a4⟩;have:=ku (show 0≤D-d.t.x by omega) (show 0≤d.m.c by omega);omega,bk,Fr.refl _ _⟩ λi n' h6 again ρ3 _ hi ⟨A,I,A6,o6,f6⟩ ax=>?_
 simp only[go_sem];refine ao (λh7=>?_) (λh7=>?_)
 ·have G:i<w:=ae;obtain⟨ps,s1,s2,_⟩:=Own.at_map o6 (k:=.i64) G;simp only[go_sem,s1,s2];refine aQ (λh'=>h'=h6) rfl ?_
  try simp only[go_sem,aK]
  refine aC (ptr bt) (λh' e=>by rw[e];exact A.c1 (Ext.refl _)) ?_;refine aC (af d.t.x) (λh' e=>by rw[e];exact A.c6 (Ext.refl _)) ?_;rw[mo _ _ _ _ ae,ak,wV ae,show(i:Int)/(C:Int)=((i/C:Nat):Int)by omega];have c2:i/C<Wn:=by rw[vB ae,←ab];exact G
  have c0:i%C<C:=gN _ ae;have dq:=mV i C;have cw:((i/C:Nat):Int)*(C:Int)+((i%C:Nat):Int)=(i:Int):=by
   rw[←lR,eO];omega
  have a8:(i:Int)%(C:Int)=((i%C:Nat):Int):=ae;have c3:=A6;generalize c9:i/C=qd at*;generalize ej:i%C=rd at*;simp only[go_sem];rw[w64 (n:=(qd:Int)) ae ae,w64 (n:=d.t.x+(qd:Int)) ae ae];refine aC (af y) (λh' e=>by rw[e];exact A.c16 (Ext.refl _)) ?_;rw[dP _ _ _ _ ae,ak,jV ae,a8];refine aC (ptr bt) (λh' e=>by rw[e];exact A.c1 (Ext.refl _)) ?_;refine(uH A.out).mono λr h8 ⟨e,H⟩=>?_
  have H:=H.symm;subst e H;refine⟨rfl,?_⟩;refine(W8 (kc _)).mono λr h8 ⟨e,H⟩=>?_
  have H:=H.symm;subst e H;refine⟨rfl,?_⟩;have eg:=W.m.m1;have ee:=W.m.m2;rw[I.m];have hr:=Pk (IntKind.i64.wrap (Lf d.m d.s (d.t.x+(qd:Int)) y (rd:Int))) (most:=d.m.most) ae;refine(W1 A.out I.wf hr.1 hr.2.1).mono λr h8 ⟨e,I8,f8,s8⟩=>?_
  subst e;have c4:=W.xw;have c8:=W.yh;have b5:=J.y0;have bo:inP n' (d.t.x+(qd:Int)) y (rd:Int):=⟨ae,by rw[I.w];omega,ae,by rw[I.h];omega,ae,by rw[I.c];omega⟩
  have al:inP n' (d.t.x+(qd:Int)) y (rd:Int)∧yT (IntKind.i64.wrap (Lf d.m d.s (d.t.x+(qd:Int)) y (rd:Int))) d.m.most≤n'.most:=⟨bo,by rw[I.m];omega⟩
  rw[aA al]at I8
  try simp only[go_sem]
  rw[w64 ae ae];refine ax _ h8 G ⟨A.set f8 I8,⟨VT I.wf hr.1 al.2,I.w,I.h,I.c,I.m⟩,λD F c' b0=>?_,o6.fr f8 cr,f6.trans f8⟩;rw[Uk I.wf bo,A6 D F c' b0];by_cases he:D=d.t.x+(qd:Int)∧F=y∧c'=(rd:Int)
  ·rw[aA he];obtain⟨rfl,rfl,rfl⟩:=he;rw[aA]
   ·rfl
   ·refine⟨rfl,ae,ae,?_⟩;rw[hC,show d.t.x+(qd:Int)-d.t.x=(qd:Int)by omega];omega
  ·rw [az he];have an:xV d y ((i+1:Nat):Int) D F c'↔xV d y (i:Int) D F c':=by
    unfold xV;constructor
    ·rintro⟨a1,a2,a3,a4⟩;refine⟨a1,a2,a3,?_⟩;rcases mT ((D-d.t.x)*d.m.c+c') i with h9|h9
     ·exact h9
     ·exfalso;have b7:(D-d.t.x)*d.m.c+c'=(qd:Int)*d.m.c+(rd:Int):=by rw[hC]at*;omega
      have ci:=b0.2.2.2.2;have dz:=O.c;obtain⟨b1,b2⟩:=Es b7 ci.1 ae ae ae;exact he ⟨ae,a1,b2⟩
    ·rintro⟨a1,a2,a3,a4⟩;exact⟨a1,a2,a3,ae⟩
   by_cases ad:xV d y (i:Int) D F c'
   ·rw[aA ad,aA (an.2 ad)]
   ·rw[az ad,az λhh=>ad (an.1 hh)]
 ·have ay:i=w:=ae;subst ay;simp only[go_sem,aK,A.c16 (Ext.refl _)];have b5:=J.y0;rw[w64 (n:=y+1) ae ae];refine bZ A.row (by simp[U6,dC]) rfl λh8 r8 u8=>?_
  have r8:h8[bj]? =some (.cells (U6 bf bt p q rv d (y+1)).toArray 246 (0,0)):=r8;have aa:∀c,Z c→¬c=bj:=λc hc=>(A.zz c hc).2.1
  refine⟨n',⟨r8,A.src.fr u8.fr (aa _ A.zf.1) λc hc=>aa _ (A.zf.2 c hc),A.tx.fr u8.fr λc _ hz=>aa c hz,A.ty.fr u8.fr λc _ hz=>aa c hz,A.ring.fr u8.fr λc _ hm he=>A.mj.1 (he▸hm),A.out.fr u8.fr (gY A.jt.1) λc hc he=>A.jt.2 (he▸hc),A.zf,A.zz,A.mj,A.jt,ae,ae,
   λc hc=>by rw[u8.1];exact A.zl c hc⟩,I,A6,?_⟩
  exact((U.fr (M:=λc=>blk vt c∨c=bj)).trans (f6.mono λc _ hc=>.inl hc)).trans (u8.fr.mono λc _ hc=>.inr hc)
end
end
end Go.Proofs.YtjljhnandbbldaaGreatDoor
namespace Go.Proofs.YtjljhnandbbldaaGreatDoor
open Go Go.Crisp
theorem BN:∀(k:Nat) (l:List Nat),l.Nodup→(∀x∈l,x<k)→l.length≤k
 |0,[],_,_=>by simp
 |0,x::_,_,h=>absurd (h x (by simp)) ae
 | k+1,l,hn,h=>by
  by_cases D:k∈l
  ·have h1:=BN k (l.erase k) (hn.erase k) λx A=>by
    have G:=h x (List.mem_of_mem_erase A);have F:x≠k:=λe=>by rw[e]at A;exact(List.Nodup.not_mem_erase hn) A
    omega
   rw[List.length_erase_of_mem D]at h1;omega
  ·have:=BN k l hn λx A=>by
    have G:=h x A;have F:x≠k:=λe=>D (e▸A)
    omega
   omega
theorem nodup_range {l:List Int}{a b:Int}(D:l.Nodup)(h:∀x∈l,a≤x∧x<b):(l.length:Int)≤max 0 (b-a):=by
 have h1:(l.map λx=>(x-a).toNat).Nodup:=by
  rw[Wa,List.pairwise_map];have G:=(Wa.1 D)
  refine List.Pairwise.imp_of_mem ?_ G;intro x y A H I U;have:=h x A;have:=h y H;omega
 have F:=BN (b-a).toNat _ h1 λx A=>by
  obtain⟨z,L,rfl⟩:=gO.1 A;have:=h z L;omega
 rw[cQ]at F;omega
theorem PA {α:Type}(j i:Int)(v:α):∀kv:List (Int×α),fP i (kv++[(j,v)])=match fP i kv with|some u=>some u|none=>if i=j then some v else none
 | []=>by
  simp only[fG,fP];by_cases h:j=i
  ·subst h;simp
  ·rw[az h,az (gY h)]
 | (k,u)::kv=>by
  simp only[mX,fP];by_cases h:k=i
  ·rw[aA h,aA h]
  ·rw[az h,az h];exact PA j i v kv
theorem zE:∀(l:List Int) (a:Int),l.foldl min a≤a∧∀x∈l,l.foldl min a≤x
 | [],a=>⟨fT _,λx A=>absurd A (by simp)⟩
 |y::l,a=>by
  have h:=zE l (min a y);rw[wZ];refine⟨by have:=h.1;omega,λx A=>?_⟩;rcases kw.1 A with rfl|A
  ·have:=h.1;omega
  ·exact h.2 x A
theorem zaY {l:List Int}{x:Int}(h:x∈l):xx l≤x:=by
 cases l with
 |nil=>simp at h
 |cons y l=>
  rcases kw.1 h with rfl|h
  ·exact(zE l _).1
  ·exact(zE l y).2 x h
structure Ii (row:Int→List Int)(rs:List (Int×List Int))(F e:Int):Prop where
 nd:(rs.map Prod.fst).Nodup
 inn:∀j,F≤j→j<e→fP j rs=some (row j)
 lt:∀x∈rs.map Prod.fst,x<e
theorem Ii.none {row:Int→List Int}{rs:List (Int×List Int)}{F e:Int}(H:Ii row rs F e){j:Int}(D:e≤j):fP j rs=none:=qy.2 λA=>by have:=H.lt j A;omega
theorem Ii.start (row:Int→List Int)(F:Int):Ii row [] F F:=⟨by simp,λj h1 A=>absurd A ae,by simp⟩
theorem Ii.move {row:Int→List Int}{rs:List (Int×List Int)}{F e A:Int}(H:Ii row rs F e)(G:F≤A):Ii row rs A (max e A):=
 ⟨H.nd,λj h1 I=>H.inn j ae ae,λx D=>by have:=H.lt x D;omega⟩
theorem Ii.next {row:Int→List Int}{rs:List (Int×List Int)}{F e E n:Int}{A:Bool}(H:Ii row rs F e)(h1:F≤e)(G:e≤E)(D:Jj rs F E n A):(e<E∧A=true∧n=e)∨(e=E∧A=false∧n=0):=by
 rcases D with⟨rfl,a1,a2,a3,a4⟩|⟨rfl,rfl,a4⟩
 ·left;have L:¬n<e:=λh=>by rw[H.inn n a1 h]at a3;cases a3
  have I:¬e<n:=λh=>by have:=a4 e h1 h;rw[H.none (fT _)]at this;cases this
  exact⟨ae,rfl,ae⟩
 ·right;refine⟨?_,rfl,rfl⟩;rcases mT e E with h|h
  ·have:=a4 e h1 h;rw[H.none (fT _)]at this;cases this
  ·omega
theorem Ii.put {row:Int→List Int}{rs:List (Int×List Int)}{F e E:Int}{room w:Nat}(H:Ii row rs F e)(h1:F≤e)(h2:e<E)(hr:E-F≤room)(ad:1≤room)(hl:rs.length≤room)(hw:(row e).length=w):
  Ii row (SV room w rs e (row e)) F (e+1)∧(SV room w rs e (row e)).length≤room:=by
 have L:=H.none (fT e);have G:(rs.map Prod.fst).length=rs.length:=by simp
 have I:BX room rs=true→xx (rs.map Prod.fst)∈rs.map Prod.fst:=λA=>Tp λh0=>by
  have:rs.length=0:=by rw[←G,h0];rfl
  unfold BX at A;have:=CY A;omega
 have aa:vu room w rs e (row e)=true:=by
  unfold vu;rw[L,da hw];by_cases A:BX room rs=true
  ·have:=H.lt _ (I A);rw[A,cG (show¬e<xx (rs.map Prod.fst)by omega)];rfl
  ·have A:BX room rs=false:=by simpa using A
   rw[A];rfl
 unfold SV;rw[aA aa]
 -- what is left of the rows
 have key:((mD room rs).map Prod.fst).Nodup∧(∀x∈(mD room rs).map Prod.fst,x<e)∧(∀j,F≤j→j<e→fP j (mD room rs)=some (row j))∧(mD room rs).length+1≤room:=by
  unfold mD;by_cases A:BX room rs=true
  ·rw [aA A];have hm:=I A;have an:room≤rs.length:=CY A;have al:xx (rs.map Prod.fst)<F:=by
    rcases mT (xx (rs.map Prod.fst)) F with h|h
    ·exact h
    ·have W:∀x∈rs.map Prod.fst,F≤x∧x<e:=λx U=>by
      have h3:xx (rs.map Prod.fst)≤x:=zaY U;have:=H.lt x U;omega
     have:=nodup_range H.nd W;rw[G]at this;omega
   have D:(pH (xx (rs.map Prod.fst)) rs).Sublist rs:=MS;have hg:∃v,fP (xx (rs.map Prod.fst)) rs=some v:=by
    cases hg:fP (xx (rs.map Prod.fst)) rs with
    |none=>exact absurd hm (qy.1 hg)
    |some v=>exact⟨v,rfl⟩
   obtain⟨v,hg⟩:=hg;have ar:=HG hg;refine⟨(D.map Prod.fst).nodup H.nd,λx U=>H.lt x ((D.map Prod.fst).subset U),λj j1 j2=>?_,ae⟩;rw[HE H.nd,az ae];exact H.inn j j1 j2
  ·rw[az A];have:¬room≤rs.length:=λh=>A (da h)
   exact⟨H.nd,H.lt,H.inn,ae⟩
 obtain⟨k1,k2,k3,k4⟩:=key;refine⟨⟨?_,λj j1 j2=>?_,λx U=>?_⟩,by simp;omega⟩
 ·rw[jT,List.nodup_append];refine⟨k1,by simp,λa ha b hb he=>?_⟩;have:=k2 a ha;simp at hb;omega
 ·rw[PA];by_cases hj:j<e
  ·rw[k3 j j1 hj]
  ·have ab:j=e:=ae;subst ab;have:fP j (mD room rs)=Option.none:=qy.2 λhm=>by have:=k2 j hm;omega
   rw[this];simp
 ·rw[jT]at U;rcases gX.1 U with h|h
  ·have:=k2 x h;omega
  ·simp at h;omega
theorem C9 {a b c:Int}(h:a≤b)(hc:0<c):a/c≤b/c:=Int.ediv_le_ediv hc h
theorem XH {f n m i k:Int}(A:1≤n)(F:1≤m)(h:i≤k):qn f n m i≤qn f n m k:=by
 unfold qn;have h1:i*n≤k*n:=oB h ae;have D:(2*i+1)*n≤(2*k+1)*n:=oB ae ae;split
 ·exact C9 h1 ae
 ·have:=C9 (a:=(2*i+1)*n-m-cU f*2*max n m) (b:=(2*k+1)*n-m-cU f*2*max n m) (c:=2*m) ae ae;omega
theorem U9 {f n m i k:Int}(A:1≤n)(F:1≤m)(h:i≤k):ns f n m i≤ns f n m k:=by
 unfold ns Ni;have h1:(i+1)*n≤(k+1)*n:=oB ae ae;have D:(2*i+1)*n≤(2*k+1)*n:=oB ae ae;split
 ·have:=C9 (a:= -((k+1)*n)) (b:= -((i+1)*n)) (c:=m) ae ae;omega
 ·have:=C9 (a:= -((2*k+1)*n-m+cU f*2*max n m)) (b:= -((2*i+1)*n-m+cU f*2*max n m)) (c:=2*m) ae ae;omega
theorem qS {g:Nat→Int}:∀{n:Nat},dD g n=0→∀i,i<n→g i=0
 |0,_,i,h=>absurd h ae
 | n+1,hz,i,h=>by
  have e:dD g (n+1)=if dD g n≠0 then dD g n else g n:=rfl
  rw[e]at hz;by_cases h0:dD g n=0
  ·rw[az (by simpa using h0)]at hz;by_cases hi:i=n
   ·rw[hi];exact hz
   ·exact qS h0 i ae
  ·rw[aA h0]at hz;exact absurd hz h0
abbrev lnF (t:Tbl)(y:Int):Int:=(bE t y).1
abbrev lnE (t:Tbl)(y:Int):Int:=(bE t y).1+((bE t y).2.length:Int)
structure De (t:Tbl):Prop where
 f:∀i k:Int,0≤i→i≤k→k<t.lines.length→lnF t i≤lnF t k
 e:∀i k:Int,0≤i→i≤k→k<t.lines.length→lnE t i≤lnE t k
 m:∀i:Int,(((bE t i).2.length:Nat):Int)≤bH t.lines
theorem Tw {n:Int}{N:Nat}{g:Nat→Int×List Int}{i:Int}(h0:0≤i)(h1:i<N):bE ⟨n,(List.range N).map g⟩ i=g i.toNat:=by
 unfold bE;rw[aA h0];have:i.toNat<N:=ae;simp[dS,this]
theorem GR:∀(ls:List (Int×List Int)) (a:Int),a≤ls.foldl (λm x=>max m (x.2.length:Int)) a∧∀x∈ls,((x.2.length:Nat):Int)≤ls.foldl (λm x=>max m (x.2.length:Int)) a
 | [],a=>⟨fT _,λx A=>absurd A (by simp)⟩
 |y::l,a=>by
  have h:=GR l (max a (y.2.length:Int));rw[wZ];refine⟨by have:=h.1;omega,λx A=>?_⟩;rcases kw.1 A with rfl|A
  ·have:=h.1;omega
  ·exact h.2 x A
theorem IP (t:Tbl)(i:Int):(((bE t i).2.length:Nat):Int)≤bH t.lines:=by
 have h:=GR t.lines 0;unfold bE;split
 ·by_cases hi:i.toNat<t.lines.length
  ·have e:t.lines.getD i.toNat (0,[])=t.lines[i.toNat]:=by simp[dS,hi]
   rw[e];exact h.2 _ (cO hi)
  ·have e:t.lines.getD i.toNat (0,[])=(0,[]):=by simp[dS,Hh hi]
   rw[e];exact h.1
 ·exact h.1
theorem vL {l:List Int}(h:cV l=0):(cj l).length=l.length:=by unfold cj;rw[aA h,qe]
theorem SS {f n m:Int}(hc:dy f n m=0):De (fF f n m):=by
 have h0:¬(¬(0≤f∧f<3)∨¬bu n∨¬bu m):=λh=>by unfold dy at hc;rw[aA h]at hc;cases hc
 have hz:=hc;unfold dy at hz;rw[az h0]at hz;have hf:0≤f∧f<3:=cf λh=>h0 (.inl h)
 have L:bu n:=cf λh=>h0 (.inr (.inl h))
 have I:bu m:=cf λh=>h0 (.inr (.inr h))
 unfold bu at L I;have H:(fF f n m).lines.length=m.toNat:=by show(List.map _ (List.range m.toNat)).length=_;rw[cQ,eN]
 have F:∀i:Int,0≤i→i<m→bE (fF f n m) i=(eW f n m i,cj (c5 f n m i)):=λi A G=>by
  have:=Tw (n:=n) (N:=m.toNat) (g:=λi:Nat=>(eW f n m i,cj (c5 f n m i))) A ae;rw[show((i.toNat:Nat):Int)=i by omega]at this;exact this
 have D:∀i:Int,0≤i→i<m→vw f n m i:=λi A G=>⟨hf.1,hf.2,L.1,L.2,I.1,I.2,A,G⟩
 have W:∀i:Int,0≤i→i<m→lnF (fF f n m) i=qn f n m i:=λi A G=>by
  unfold lnF;rw[F i A G];show eW f n m i=_;unfold eW;rw[aA (D i A G)]
 have hE:∀i:Int,0≤i→i<m→lnE (fF f n m) i=ns f n m i:=λi A G=>by
  have h1:=W i A G;unfold lnF at h1;unfold lnE;rw[h1,F i A G];have h2:=qS hz i.toNat ae;rw[show((i.toNat:Nat):Int)=i by omega]at h2;show qn f n m i+(((cj (c5 f n m i)).length:Nat):Int)=_;rw[vL h2];unfold c5;rw[aA (D i A G)];unfold Dh;rw[cQ,eN];have:=Lk (D i A G);omega
 refine⟨λi k A U k1=>?_,λi k A U k1=>?_,IP _⟩
 ·rw[H]at k1;rw[W i A ae,W k ae ae];exact XH L.1 I.1 U
 ·rw[H]at k1;rw[hE i A ae,hE k ae ae];exact U9 L.1 I.1 U
theorem TI (l:List Int)(n:Int):De (jX l n):=by
 have D:(jX l n).lines.length=n.toNat:=by show(List.map _ (List.range n.toNat)).length=_;rw[cQ,eN]
 have A:∀i:Int,0≤i→i<n.toNat→bE (jX l n) i=(i-(l.length/2:Nat),cj l):=λi F I=>by
  have:=Tw (n:=n) (N:=n.toNat) (g:=λi:Nat=>((i:Int)-(l.length/2:Nat),cj l)) F I;rw[show((i.toNat:Nat):Int)=i by omega]at this;exact this
 refine⟨λi k F H G=>?_,λi k F H G=>?_,IP _⟩
 ·rw[D]at G;unfold lnF;rw[A i F ae,A k ae G];show i-_≤k-_;omega
 ·rw[D]at G;unfold lnE;rw[A i F ae,A k ae G];show i-((l.length/2:Nat):Int)+((cj l).length:Int)≤k-((l.length/2:Nat):Int)+((cj l).length:Int);omega
theorem U3 {o:OpD}{w h:Int}(hc:eZ o w h=0):De (ch o w h).y:=by
 have A:iE o w h=0:=by
  unfold eZ at hc;split at hc
  ·cases hc
  ·exact hc
 show De (fj o h);unfold iE at A;unfold fj;split
 ·rename_i D;rw[aA D]at A;by_cases h1:dy o.filter w o.w=0
  ·rw[az (by simpa using h1)]at A;exact SS A
  ·rw[aA h1]at A;exact absurd A h1
 ·exact TI _ _
end Go.Proofs.YtjljhnandbbldaaGreatDoor
namespace Go.Crisp
open Go
theorem ag.at {P:Program}{f:FuncId}{args:Array Value}{h:ah}{v:Value}{K:Value→ah→Prop}(H:ag P f args h λr h'=>r=v∧h'=h)(k:K v h):ag P f args h K:=
 H.mono λr h' ⟨e,w⟩=>by rw[e,w];exact k
theorem ag.to {P:Program}{f:FuncId}{args:Array Value}{h:ah}{v:Value}{K:Value→ah→Prop}(H:ag P f args h λr h'=>r=v∧Ext h h')(k:∀h',Ext h h'→K v h'):ag P f args h K:=
 H.mono λr h' ⟨e,w⟩=>by rw[e];exact k h' w
theorem Fr.after {M N:Nat→Prop}{a b c:ah}(f:Fr M a b)(k:Fr N b c)(n:∀i,i<a.size→N i→M i):Fr M a c:=
 ⟨aZ f.1 k.1,λi hi A=>(k.2 i (bX hi f.1) λx=>A (n i hi x)).trans (f.2 i hi A)⟩
theorem Ext.after {N:Nat→Prop}{a b c:ah}(f:Ext a b)(k:Fr N b c):Fr N a c:=(f.fr (M:=N)).after k λ_ _ x=>x
theorem Fr.ext_r {M:Nat→Prop}{a b c:ah}(f:Fr M a b)(k:Ext b c):Fr M a c:=f.trans k.fr
theorem Fr.upd_new {M:Nat→Prop}{a b c:ah}{x:Nat}(f:Fr M a b)(u:Upd x b c)(n:a.size≤x):Fr M a c:=f.after u.fr λi hi e=>ae
theorem Rp.push_ow1S {α:Type}{e:Rp α}{Z P:Nat→Prop}{Q:ah→Prop}{z z' c:Value}{t L:TypeId}{bytes:Nat}{s:Value}{h:ah}{l:List α}{x:α}{K:Value→ah→Prop}(I:e.w=1)
  (hs:Rp.Ow e Z h s l) (G:e.R Z h [c] x) (hz:z.cells.size=1) (hb:(l.length+1)*bytes≤140737488355328) (hn:l.length+1≤9223372036854775807) (hZ:∀b,Z b→b<h.size) (hQ:∀h',Ext h h'→Q h')
  (H:∀D h',Rp.Ow e Z h' D (l++[x])→Fr (blk s) h h'→(∀b,blk D b→blk s b∨h.size≤b)→K D h'):di #[z'] t 1 [(0,1,c)] h λv2 U=>Q U∧dk z L 1 bytes s v2 U K:=by
 refine dc (fill_one (e.one G c (by simp))) λb h1 r1 A n1=>⟨hQ h1 A,?_⟩
 have W:=SlC.single (cs:=[c]) r1;rw[show[c].length=e.w by rw[I];rfl]at W;have ee:dk z L 1 bytes s (.slice (some ⟨b,0,none⟩) 1 1) h1 K=dk z L e.w bytes s (.slice (some ⟨b,0,none⟩) 1 1) h1 K:=by rw[I]
 rw[ee];refine Rp.app_ow (l2:=[x]) (hs.ext A) W (λi hi=>?_) (hz.trans I.symm) (by simpa using hb) (by simpa using hn) (λk F=>bX (hZ k F) A.1) λD h' o' f' n'=>
  H D h' o' (A.fr.trans f') λk F=>(n' k F).imp id λh2=>aZ A.1 h2
 have hi:i=0:=by simpa using hi
 subst hi;rw[Rp.el_self (e.len G)];exact e.ext G A
theorem New.fr {α:Type}{e:Rp α}{M:Nat→Prop}{h h1 h':ah}{v:Value}{l:List α}(H:New e h h1 v l)(f:Fr M h1 h')(D:∀b,M b→h.size≤b)(q:∀b,blk v b→¬M b):New e h h' v l:=
 ⟨H.1.fr f (λb _ A=>A.elim) q,H.2.1.then_fr f D,H.2.2⟩
theorem eqT (a:Int):(a=a)=True:=jx rfl
theorem UM (a:Nat):aj .p .neq (.pointer (some ⟨a,0,none⟩)) (.pointer none)=some (.bool true):=rfl
theorem UN (a:Nat):aj .p .eql (.pointer (some ⟨a,0,none⟩)) (.pointer none)=some (.bool false):=rfl
theorem zcr:aj .p .neq (.pointer none) (.pointer none)=some (.bool false):=rfl
theorem zcs:aj .p .eql (.pointer none) (.pointer none)=some (.bool true):=rfl
end Go.Crisp
namespace Go.Proofs.YtjljhnandbbldaaGreatDoor
open Go Go.Crisp
attribute [local irreducible] ag di aW stK aF vK qK bK gK fo bA mkK dk Fm GM CJ bsK clK tW oA V0
open _root_.Go.Proofs.Tryz
section
def qE (B:Nat→Prop)(h h':ah):Nat→Prop:=λc=>B c∨(h.size≤c∧c<h'.size)
structure kK (Z B:Nat→Prop)(h:ah)(bj bf:Nat)(vf:Value)(bt:Nat)(vt p q rv:Value)(d:fO)(y e:Int)(n:Pic)(room w:Nat):Prop where
 at_:∃M rs,ft Z M h bj bf vf bt vt p q rv d y n room w rs∧(∀c,M c→B c)∧(y<d.t.y+d.t.h→Ii (Ew d) rs (lnF d.s.y y) e∧lnF d.s.y y≤e∧e≤lnE d.s.y y)
 bj0:B bj
 bl:∀c,B c→c<h.size
 bz:∀c,B c→¬Z c∧c≠bt∧¬blk vt c
 out:Ih d n
theorem kK.ext {Z B:Nat→Prop}{h h':ah}{bj bf:Nat}{vf:Value}{bt:Nat}{vt p q rv:Value}{d:fO}{y e:Int}{n:Pic}{room w:Nat}(S:kK Z B h bj bf vf bt vt p q rv d y e n room w)(k:Ext h h'):kK Z B h' bj bf vf bt vt p q rv d y e n room w:=by
 obtain⟨⟨M,rs,J,a,b⟩,c,f,g,o⟩:=S;exact⟨⟨M,rs,J.ext k,a,b⟩,c,λc hc=>bX (f c hc) k.1,g,o⟩
theorem ft.chg {Z M Q:Nat→Prop}{h h':ah}{bj bf:Nat}{vf:Value}{bt:Nat}{vt p q rv:Value}{d:fO}{y:Int}{n n':Pic}{room w:Nat}{rs:List (Int×List Int)}(J:ft Z M h bj bf vf bt vt p q rv d y n room w rs)(f:Fr Q h h')
  (A:∀c,Z c→¬Q c) (F:∀c,M c→¬Q c) (H:¬Q bj) (I:dd h' bt vt n'):ft Z M h' bj bf vf bt vt p q rv d y n' room w rs:=
 ⟨f.row J.row H,J.src.fr f (A _ J.zf.1) λc hc=>A _ (J.zf.2 c hc),J.tx.fr f λc _ D=>A c D,J.ty.fr f λc _ D=>A c D,J.ring.fr f λc _ G=>F c G,I,J.zf,J.zz,J.mj,J.jt,J.y0,J.y1,λc hc=>bX (J.zl c hc) f.1⟩
theorem kK.other {Z B Q:Nat→Prop}{h h':ah}{bj bf:Nat}{vf:Value}{bt:Nat}{vt p q rv:Value}{d:fO}{y e:Int}{n n':Pic}{room w:Nat}(S:kK Z B h bj bf vf bt vt p q rv d y e n room w)(f:Fr Q h h')
  (D:∀c,Z c→¬Q c) (qb:∀c,B c→¬Q c) (I:dd h' bt vt n') (O:Ih d n'):kK Z B h' bj bf vf bt vt p q rv d y e n' room w:=by
 obtain⟨⟨M,rs,J,a,b⟩,c,l,g,o⟩:=S;exact⟨⟨M,rs,J.chg f D (λk A=>qb k (a k A)) (qb _ c) I,a,b⟩,c,λc hc=>bX (l c hc) f.1,g,O⟩
theorem kK.img {Z B:Nat→Prop}{h:ah}{bj bf:Nat}{vf:Value}{bt:Nat}{vt p q rv:Value}{d:fO}{y e:Int}{n:Pic}{room w:Nat}(S:kK Z B h bj bf vf bt vt p q rv d y e n room w):dd h bt vt n:=by
 obtain⟨⟨M,rs,J,a,b⟩,_⟩:=S;exact J.out
theorem kK.src {Z B:Nat→Prop}{h:ah}{bj bf:Nat}{vf:Value}{bt:Nat}{vt p q rv:Value}{d:fO}{y e:Int}{n:Pic}{room w:Nat}(S:kK Z B h bj bf vf bt vt p q rv d y e n room w):dd h bf vf d.m:=by
 obtain⟨⟨M,rs,J,a,b⟩,_⟩:=S;exact J.src
theorem ft.frq {Z M Q:Nat→Prop}{h h':ah}{bj bf:Nat}{vf:Value}{bt:Nat}{vt p q rv:Value}{d:fO}{y:Int}{n:Pic}{room w:Nat}{rs:List (Int×List Int)}(J:ft Z M h bj bf vf bt vt p q rv d y n room w rs)(f:Fr Q h h')
  (A:∀c,Z c→¬Q c) (F:∀c,M c→¬Q c) (L:¬Q bj) (I:¬Q bt) (H:∀c,blk vt c→¬Q c):ft Z M h' bj bf vf bt vt p q rv d y n room w rs:=
 ⟨f.row J.row L,J.src.fr f (A _ J.zf.1) λc hc=>A _ (J.zf.2 c hc),J.tx.fr f λc _ D=>A c D,J.ty.fr f λc _ D=>A c D,J.ring.fr f λc _ G=>F c G,J.out.fr f I H,J.zf,J.zz,J.mj,J.jt,J.y0,J.y1,λc hc=>bX (J.zl c hc) f.1⟩
structure zap (d:fO)(room w:Nat):Prop where
 mono:De d.s.y
 fit:bH d.s.y.lines≤room
 one:1≤room
 wid:(w:Int)=d.t.w*d.m.c
 small:d.t.w≤300
def cn (d:fO)(y e:Int):Int:=if d.t.y+d.t.h≤y then 0 else if e<lnE d.s.y y then 1 else 2
def iq (d:fO)(y e:Int):Int:=if d.t.y+d.t.h≤y then 0 else if e<lnE d.s.y y then e else y
def gj (d:fO)(y e:Int):Int:=if cn d y e=2 then y+1 else y
def ir (d:fO)(y e:Int):Int:=if cn d y e=1 then e+1 else if cn d y e=2 then max e (lnF d.s.y (y+1))else e
section
variable {Z B:Nat→Prop}{h:ah}{bj bf:Nat}{vf:Value}{bt:Nat}{vt p q rv:Value}{d:fO}{y e:Int}{n:Pic}{room w:Nat}
theorem Ny (S:kK Z B h bj bf vf bt vt p q rv d y e n room w)(W:d.Wf):ag prog iK #[ptr bj] h λr h'=>r=BP (cn d y e) (iq d y e)∧Ext h h':=by
 obtain⟨⟨M,rs,J,a,b⟩,c,f,g,o⟩:=S;refine(Yd J W).mono λr h' ⟨k,j,G,A,E⟩=>⟨?_,E⟩
 rw[G];unfold Uo at A;unfold cn iq;by_cases D:d.t.y+d.t.h≤y
 ·rw[aA D]at A;rw[aA D,aA D,A.1,A.2]
 ·rw[az D]at A;rw[az D,az D];obtain⟨H,h1,F⟩:=b ae;rcases A with⟨rfl,A⟩|⟨rfl,rfl,A⟩
  ·rcases H.next h1 F A with⟨a1,_,a3⟩|⟨_,a2,_⟩
   ·rw[aA a1,aA a1,a3]
   ·cases a2
  ·rcases H.next h1 F A with⟨_,a2,_⟩|⟨a1,_,_⟩
   ·cases a2
   ·rw[az ae,az ae]
theorem Sd (S:kK Z B h bj bf vf bt vt p q rv d y e n room w)(W:d.Wf)(R:zap d room w):ag prog gw #[ptr bj] h λr h'=>
  r=BP (cn d y e) (iq d y e)∧∃n',kK Z (qE B h h') h' bj bf vf bt vt p q rv d (gj d y e) (ir d y e) n' room w∧Fr (λc=>blk vt c∨B c) h h'∧
   (cn d y e≠2→n'=n)∧(cn d y e=2→∀I F c',inP n I F c'→atP n' I F c'=if xV d y w I F c' then xr d.m d.s I F c' else atP n I F c'):=by
 apply EE;unfold uO;refine aI λb1 h1 r1 e1 n1=>?_
 have S1:=S.ext e1;refine(Ny S1 W).mono λr h2 ⟨er,e2⟩=>?_
 subst er;refine dh (cs:=[af (cn d y e),af (iq d y e)]) rfl (aq rfl (aq rfl aX)) rfl λb3 h3 r3 e3 n3=>?_
 have E3:=e1.trans (e2.trans e3);have S3:=S.ext E3;have b0:b1<b3:=by have:=bC r1;have:=e2.1;omega
 have l3:=bC r3;have l1:b1<h3.size:=ae;have aw:=(e2.trans e3).row r1;have cp:=E3.1
 -- the end of a step: the move is handed on
 have fin:∀{U:ah} {n':Pic},Fr (λc=>(blk vt c∨B c)∧c≠b1∧c≠b3) h3 U→
   ((cn d y e≠2→n'=n)∧(cn d y e=2→∀I F c',inP n I F c'→atP n' I F c'=if xV d y w I F c' then xr d.m d.s I F c' else atP n I F c'))→(∀D,Upd b1 U D→kK Z (qE B h D) D bj bf vf bt vt p q rv d (gj d y e) (ir d y e) n' room w)→
   vK (aP 2 U (ptr b3)) λa8=>stK 2 (ptr b1) a8 U λ_ aa=>vK (aP 2 aa (ptr b1)) λbc=>bc=BP (cn d y e) (iq d y e)∧∃n',kK Z (qE B h aa) aa bj bf vf bt vt p q rv d (gj d y e) (ir d y e) n' room w∧Fr (λc=>blk vt c∨B c) h aa∧
    (cn d y e≠2→n'=n)∧(cn d y e=2→∀I F c',inP n I F c'→atP n' I F c'=if xV d y w I F c' then xr d.m d.s I F c' else atP n I F c'):=by
  intro U n' f4 au ay;have bg:=f4.row r3 λL=>L.2.2 rfl
  have bk:=f4.row aw λL=>L.2.1 rfl
  rw[aU (l:=[af (cn d y e),af (iq d y e)]) bg 2 rfl,ak];refine cT (l:=[af (cn d y e),af (iq d y e)]) bk rfl (aq rfl (aq rfl aX)) rfl λD r5 u5=>?_
  rw[aU r5 2 rfl,ak];exact⟨rfl,n',ay D u5,((E3.fr (M:=λc=>blk vt c∨B c)).after f4 λc _ hc=>hc.1).after u5.fr (λc hc he=>ae),au.1,au.2⟩
 obtain⟨⟨M,rs,J,an,hH⟩,ad,bv,bo,hO⟩:=S;have J3:=J.ext E3
 -- a block that is new lies apart from a job
 have ap:∀{b:Nat} {M':Nat→Prop},h.size≤b→b<h3.size→(∀c,M' c→M c∨h3.size≤c)→(∀c,Z c→¬c=b)∧(∀c,M' c→¬c=b)∧¬bj=b∧¬bt=b∧∀c,blk vt c→¬c=b:=by
  intro b M' hb ca ax;refine⟨λc hc he=>?_,λc hc he=>?_,λhe=>?_,λhe=>?_,λc hc he=>?_⟩
  ·have:=J.zl c hc;omega
  ·rcases ax c hc with U|U
   ·have:=J.ring.lt U;omega
   ·omega
  ·have:=bC J.row;omega
  ·have:=J.out.lt;omega
  ·have:=J.out.ltv hc;omega
 have ar:h.size≤b1:=n1;have cc:h.size≤b3:=ae
 -- what is its own, at last
 have gz:∀{D:ah},∀c,qE B h D c→¬Z c∧c≠bt∧¬blk vt c:=λc hc=>by
  rcases hc with hc|hc
  ·exact bo c hc
  ·refine⟨λhz=>?_,λhe=>?_,λhv=>?_⟩
   ·have:=J.zl c hz;omega
   ·have:=J.out.lt;omega
   ·have:=J.out.ltv hv;omega
 have gl:∀{D:ah},h.size≤D.size→∀c,qE B h D c→c<D.size:=λhs c hc=>by
  rcases hc with hc|hc
  ·exact bX (bv c hc) hs
  ·exact hc.2
 simp only[go_sem,aK];have c0:aG h3 ⟨b3,0,none⟩=some (af (cn d y e)):=am r3;have c1:aG h3 ⟨b3,1,none⟩=some (af (iq d y e)):=am r3;simp only[go_sem,c0,c1];refine ao (λG=>?_) (λG=>?_)
 ·-- a row is filtered
  have ab:¬d.t.y+d.t.h≤y:=λh=>by unfold cn at G;rw[aA h]at G;cases G
  have al:e<lnE d.s.y y:=by
   unfold cn at G;rw[az ab]at G;rcases mT e (lnE d.s.y y)with h|h
   ·exact h
   ·rw[az ae]at G;cases G
  have hj:iq d y e=e:=by unfold iq;rw[az ab,aA al]
  have hy:gj d y e=y:=by unfold gj;rw[az ae]
  have he:ir d y e=e+1:=by unfold ir;rw[aA G]
  obtain⟨H,a1,a2⟩:=hH ae;have hl:=qP W.s.y y;rw[hy,he]at fin ⊢;rw[hj]at fin ⊢;refine(ZZ J3 W (j:=e) (by unfold lnF at a1;unfold lnE at al;unfold I64;omega) R.small).mono λr U ⟨M',J4,f4,m4⟩=>?_
  have b4:=R.fit;have b7:=R.mono.m y;have bd:=J3.ring.nums;have be:(Ew d e).length=w:=by
   have D:=R.wid;have hf:=du W.m.fits;have b5:=W.w1;unfold Ew;rw[Bu];have:((d.t.w.toNat*d.m.c.toNat:Nat):Int)=d.t.w*d.m.c:=by rw[lR,wU ae,wU ae]
   omega
  have HP:=H.put (E:=lnE d.s.y y) (room:=room) (w:=w) a1 al (by unfold lnF lnE;omega) R.one bd.2.2.2.1 be;have ap1:=ap ar l1 m4;have a9:=f4.1;refine fin (f4.mono λc hc L=>⟨.inr (an c L),λD=>by have:=J.ring.lt L;omega,λD=>by have:=J.ring.lt L;omega⟩) ⟨λ_=>rfl,λD=>ae⟩ λD u5=>
   ⟨⟨M',_,J4.frq u5.fr ap1.1 ap1.2.1 ap1.2.2.1 ap1.2.2.2.1 ap1.2.2.2.2,λc hc=>?_,λ_=>⟨HP.1,ae,ae⟩⟩,.inl ad,gl (by rw[u5.1];omega),gz,hO⟩
  rcases m4 c hc with h6|h6
  ·exact .inl (an c h6)
  ·have:=J4.ring.lt hc;exact .inr ⟨ae,by rw[u5.1];exact this⟩
 refine ao (λA=>?_) (λA=>?_)
 ·-- a row is written
  have ab:¬d.t.y+d.t.h≤y:=λh=>by unfold cn at A;rw[aA h]at A;cases A
  obtain⟨H,a1,a2⟩:=hH ae;have a7:e=lnE d.s.y y:=by
   unfold cn at G;rw[az ab]at G;rcases mT e (lnE d.s.y y)with h|h
   ·rw[aA h]at G;exact absurd rfl G
   ·omega
  have hy:gj d y e=y+1:=by unfold gj;rw[aA A]
  have he:ir d y e=max e (lnF d.s.y (y+1)):=by unfold ir;rw[az G,aA A]
  rw[hy,he]at fin ⊢;refine(zbl J3 W hO R.small ae R.wid λk b8=>H.inn _ (by unfold lnF;omega) (by rw[a7];unfold lnE;omega)).mono λr U ⟨n',J4,O4,A4,f4⟩=>?_
  have ap1:=ap (M':=M) ar l1 λc hc=>.inl hc
  have L:=R.mono;have cb:=J.y0;have b2:=W.y0;have b6:=W.yh;have a9:=f4.1;refine fin (f4.mono λc hc L=>?_) ⟨λD=>absurd A D,λ_=>A4⟩ λD u5=>
   ⟨⟨M,_,J4.frq u5.fr ap1.1 ap1.2.1 ap1.2.2.1 ap1.2.2.2.1 ap1.2.2.2.2,λc hc=>.inl (an c hc),λal=>?_⟩,.inl ad,gl (by rw[u5.1];omega),gz,O4⟩
  ·rcases L with L|L
   ·have:=J.out.ltv L;exact⟨.inl L,ae,ae⟩
   ·have:=bC J.row;exact⟨.inr (L▸ad),ae,ae⟩
  ·have g1:=L.f y (y+1) ae ae ae;have g2:=L.e y (y+1) ae ae ae;refine⟨H.move g1,ae,?_⟩;have:lnF d.s.y (y+1)≤lnE d.s.y (y+1):=by unfold lnF lnE;omega
   omega
 ·-- it is over
  have ci:cn d y e=0:=by
   unfold cn at*;by_cases U:d.t.y+d.t.h≤y
   ·rw[aA U]
   ·rw[az U]at*;by_cases D:e<lnE d.s.y y
    ·rw[aA D]at G;exact absurd rfl G
    ·rw[az D]at A;exact absurd rfl A
  have hy:gj d y e=y:=by unfold gj;rw[az A]
  have he:ir d y e=e:=by unfold ir;rw[az G,az A]
  rw[hy,he]at fin ⊢;have ap1:=ap (M':=M) ar l1 λc hc=>.inl hc
  exact fin (Fr.refl _ _) ⟨λ_=>rfl,λD=>absurd D A⟩ λD u5=>⟨⟨M,rs,J3.frq u5.fr ap1.1 ap1.2.1 ap1.2.2.1 ap1.2.2.2.1 ap1.2.2.2.2,λc hc=>.inl (an c hc),hH⟩,.inl ad,gl (by rw[u5.1];omega),gz,hO⟩
end
end
theorem pe_ne {h:ah}{a b:Nat}{c c':Array Value}{t H:TypeId}(I:h[a]? =some (.cells c t (0,0)))(G:h[b]? =some (.cells c' H (0,0)))(A:a≠b):peV h .neq (ptr a) (ptr b)=some (.bool true):=by
 have h1:¬(⟨a,0,none⟩:Addr)=⟨b,0,none⟩:=λhh=>A (by injection hh)
 have F:nV h a=true:=by unfold nV;rw[I];rfl
 have D:nV h b=true:=by unfold nV;rw[G];rfl
 show(if(⟨a,0,none⟩:Addr)=⟨b,0,none⟩then some (Value.bool false)else if nV h a&&nV h b then some (.bool true)else none)=_;rw[az h1,F,D];rfl
def lB (m n:Pic)(s:Stg):Prop:=nJ m s∧n.w=s.x.lines.length∧n.h=s.y.lines.length∧n.c=m.c∧n.most=m.most
instance (m n:Pic)(s:Stg):Decidable (lB m n s):=by unfold lB;infer_instance
theorem ZK {h:ah}(G:eF h){Z:Nat→Prop}{bf bt:Nat}{vf vt sv:Value}{m n:Pic}{s:Stg}(I:dd h bf vf m)(O:dd h bt vt n)(W:bf≠bt)(HS:pX Z h sv s):
  ag prog vN #[ptr bf,ptr bt,sv] h λr h'=>r=.bool (decide (lB m n s))∧Ext h h':=by
 apply Kb;unfold Ad;obtain⟨p,q,rfl,hp,hq,aa⟩:=jk HS;simp only[bP];refine aI λb1 h1 r1 H n1=>?_
 refine aQ (λh'=>h'=h1) rfl ?_;simp only[go_sem,UM];refine aC (.bool true) (λh' e=>by rw[e];exact pe_ne (H.row I.row) (H.row O.row) W) ?_
 try simp only[go_sem]
 refine aC (.agg #[p,q,af s.border]) (λh' e=>by rw[e];exact aU (l:=[p,q,af s.border]) r1 3 rfl) ?_;refine ag.to (K7 (G.ext H) (I.ext H) (HS.ext H)) λF e2=>?_
 have A:=H.trans e2;have r2:=e2.row r1;have c0:aG F ⟨b1,0,none⟩=some p:=am r2;have c1:aG F ⟨b1,1,none⟩=some q:=am r2;by_cases g1:nJ m s
 case neg=>
  rw[cG g1,cG λD:lB m n s=>g1 D.1];refine aQ (λh'=>h'=F) rfl ?_;simp only[go_sem];refine aC undef (λ_ _=>rfl) ?_
  try simp only[go_sem]
  refine⟨trivial,?_⟩
  try simp only[go_sem]
  refine aQ (λh'=>h'=F) rfl ?_;simp only[go_sem];refine aC undef (λ_ _=>rfl) ?_
  try simp only[go_sem]
  refine⟨trivial,?_⟩
  try simp only[go_sem]
  exact⟨trivial,A⟩
 rw[da g1];refine aQ (λh'=>h'=F) rfl ?_;simp only[go_sem,aK];refine aC p (λh' e=>by rw[e];exact c0) ?_
 try simp only[go_sem]
 refine ag.at (ur (O.ext A)) ?_;refine⟨rfl,?_⟩
 try simp only[go_sem]
 refine ag.at (Dv (hp.ext A)) ?_;refine aQ (λh'=>h'=F) rfl ?_;by_cases g2:n.w=s.x.lines.length
 case neg=>
  rw[cG λD:lB m n s=>g2 D.2.1];simp only[go_sem,cG g2];refine aC undef (λ_ _=>rfl) ?_
  try simp only[go_sem]
  refine⟨trivial,?_⟩
  try simp only[go_sem]
  exact⟨trivial,A⟩
 simp only[go_sem,aK,g2,eqT];refine aC q (λh' e=>by rw[e];exact c1) ?_
 try simp only[go_sem]
 refine ag.at (sh (O.ext A)) ?_;refine⟨rfl,?_⟩
 try simp only[go_sem]
 refine ag.at (Dv (hq.ext A)) ?_;by_cases U:n.h=s.y.lines.length
 case neg=>
  rw[cG λD:lB m n s=>U D.2.2.1];simp only[go_sem,cG U];exact⟨trivial,A⟩
 simp only[go_sem,aK,U,eqT];refine ag.at (eU (O.ext A)) (ag.at (eU (I.ext A)) ?_);by_cases L:n.c=m.c
 case neg=>
  rw[cG λD:lB m n s=>L D.2.2.2.1];simp only[go_sem,cG L];exact⟨trivial,A⟩
 simp only[go_sem,aK,L,eqT];refine ag.at (uH (O.ext A)) (ag.at (uH (I.ext A)) ?_);simp only[go_sem];refine⟨?_,A⟩
 congr 1
 rw[gL];exact⟨λg5=>⟨g1,g2,U,L,g5⟩,λD=>D.2.2.2.2⟩
abbrev rectV (x y w hh:Int):Value:=.agg #[.int .i64 x,.int .i64 y,.int .i64 w,.int .i64 hh]
def fh (s:Stg)(x y w hh:Int):Prop:=1≤w∧1≤hh∧0≤x∧0≤y∧x<s.x.lines.length∧y<s.y.lines.length∧w≤s.x.lines.length-x∧hh≤s.y.lines.length-y
instance (s:Stg)(x y w hh:Int):Decidable (fh s x y w hh):=by unfold fh;infer_instance
theorem TT {h:ah}{Z:Nat→Prop}{sv:Value}{s:Stg}(HS:pX Z h sv s)(U:s.Wf){x y w hh:Int}:
  ag prog mH #[sv,rectV x y w hh] h λr h'=>r=.bool (decide (fh s x y w hh))∧Ext h h':=by
 apply Iy;unfold xX;obtain⟨p,q,rfl,L,hq,W⟩:=jk HS;have lx:=U.x.len;have ly:=U.y.len;simp only[bP];refine aI λb1 h1 r1 e1 n1=>aI λb2 h2 r2 e2 n2=>?_
 have r1:=e2.row r1;have E:=e1.trans e2;have np:=(Im L).1;have nq:=(Im hq).1;refine aQ (λh'=>h'=h2) rfl ?_;simp only[go_sem,aK];refine aC p (λh' e=>by rw[e];exact am r1) ?_;simp only[go_sem,aK,np];refine aC q (λh' e=>by rw[e];exact am r1) ?_;simp only[go_sem,aK,nq];refine aC (af w) (λh' e=>by rw[e];exact am r2) ?_;by_cases g1:1≤w
 case neg=>
  rw[cG λA:fh s x y w hh=>g1 A.1];simp only[go_sem,cG g1]
  repeat(first|refine aC undef (λ_ _=>rfl) ?_ |(refine⟨trivial,?_⟩)|simp only[go_sem])
  first|exact E|exact⟨trivial,E⟩|exact⟨rfl,E⟩
 simp only[go_sem,aK,da g1];refine aC (af hh) (λh' e=>by rw[e];exact am r2) ?_;by_cases g2:1≤hh
 case neg=>
  rw[cG λA:fh s x y w hh=>g2 A.2.1];simp only[go_sem,cG g2]
  repeat(first|refine aC undef (λ_ _=>rfl) ?_ |(refine⟨trivial,?_⟩)|simp only[go_sem])
  first|exact E|exact⟨trivial,E⟩|exact⟨rfl,E⟩
 simp only[go_sem,aK,da g2];refine aC (af x) (λh' e=>by rw[e];exact am r2) ?_;by_cases H:0≤x
 case neg=>
  rw[cG λA:fh s x y w hh=>H A.2.2.1];simp only[go_sem,cG H]
  repeat(first|refine aC undef (λ_ _=>rfl) ?_ |(refine⟨trivial,?_⟩)|simp only[go_sem])
  first|exact E|exact⟨trivial,E⟩|exact⟨rfl,E⟩
 simp only[go_sem,aK,da H];refine aC (af y) (λh' e=>by rw[e];exact am r2) ?_;by_cases G:0≤y
 case neg=>
  rw[cG λA:fh s x y w hh=>G A.2.2.2.1];simp only[go_sem,cG G]
  repeat(first|refine aC undef (λ_ _=>rfl) ?_ |(refine⟨trivial,?_⟩)|simp only[go_sem])
  first|exact E|exact⟨trivial,E⟩|exact⟨rfl,E⟩
 simp only[go_sem,aK,da G];refine aC (af x) (λh' e=>by rw[e];exact am r2) ?_;refine aC p (λh' e=>by rw[e];exact am r1) ?_
 try simp only[go_sem]
 refine ag.at (Dv (L.ext E)) ?_;refine⟨rfl,?_⟩;by_cases F:x<(s.x.lines.length:Int)
 case neg=>
  rw[cG λA:fh s x y w hh=>F A.2.2.2.2.1];simp only[go_sem,cG F]
  repeat(first|refine aC undef (λ_ _=>rfl) ?_ |(refine⟨trivial,?_⟩)|simp only[go_sem])
  first|exact E|exact⟨trivial,E⟩|exact⟨rfl,E⟩
 simp only[go_sem,aK,da F];refine aC (af y) (λh' e=>by rw[e];exact am r2) ?_;refine aC q (λh' e=>by rw[e];exact am r1) ?_
 try simp only[go_sem]
 refine ag.at (Dv (hq.ext E)) ?_;refine⟨rfl,?_⟩;by_cases D:y<(s.y.lines.length:Int)
 case neg=>
  rw[cG λA:fh s x y w hh=>D A.2.2.2.2.2.1];simp only[go_sem,cG D]
  repeat(first|refine aC undef (λ_ _=>rfl) ?_ |(refine⟨trivial,?_⟩)|simp only[go_sem])
  first|exact E|exact⟨trivial,E⟩|exact⟨rfl,E⟩
 simp only[go_sem,aK,da D];refine aC (af w) (λh' e=>by rw[e];exact am r2) ?_;refine aC p (λh' e=>by rw[e];exact am r1) ?_;refine aC (af x) (λh' e=>by rw[e];exact am r2) ?_
 try simp only[go_sem]
 refine ag.at (Dv (L.ext E)) ?_;refine⟨rfl,?_⟩;simp only[go_sem,aK];rw[w64 ae ae];by_cases I:w≤(s.x.lines.length:Int)-x
 case neg=>
  rw[cG λA:fh s x y w hh=>I A.2.2.2.2.2.2.1];simp only[go_sem,cG I]
  repeat(first|refine aC undef (λ_ _=>rfl) ?_ |(refine⟨trivial,?_⟩)|simp only[go_sem])
  first|exact E|exact⟨trivial,E⟩|exact⟨rfl,E⟩
 simp only[go_sem,aK,da I];refine aC (af hh) (λh' e=>by rw[e];exact am r2) ?_;refine aC q (λh' e=>by rw[e];exact am r1) ?_;refine aC (af y) (λh' e=>by rw[e];exact am r2) ?_
 try simp only[go_sem]
 refine ag.at (Dv (hq.ext E)) ?_;refine⟨rfl,?_⟩;simp only[go_sem,aK];rw[w64 ae ae];refine⟨?_,E⟩
 congr 1
 rw[gL];exact⟨λg8=>⟨g1,g2,H,G,F,D,I,g8⟩,λA=>A.2.2.2.2.2.2.2⟩
abbrev zbZ:Array Value:=#[(.pointer none),(.pointer none),(.pointer none),(.pointer none),(.int .i64 0),(.int .i64 0),(.int .i64 0),(.int .i64 0),(.int .i64 0),(.int .i64 0),(.int .i64 0),(.int .i64 0),(.int .i64 0),(.int .i64 0),(.int .i64 0),(.pointer none),(.int .i64 0)]
theorem Zy {bf bt:Nat}{p q rv:Value}{d:fO}{y:Int}(A:aR rv=true):
  aM zbZ [(0,1,ptr bf),(1,1,ptr bt),(2,3,.agg #[p,q,af d.s.border]),(5,10,.agg (dC d.t).toArray),(15,1,rv),(16,1,af y)]=some (U6 bf bt p q rv d y).toArray:=by
 refine(bS (n:=1) (l:=[ptr bf]) rfl rfl (by simp)).trans ?_;refine(bS (n:=1) (l:=[ptr bt]) rfl rfl (by simp[cF])).trans ?_;refine(bS (n:=3) (l:=[p,q,af d.s.border]) rfl rfl (by simp[cF])).trans ?_;refine(bS (n:=10) (l:=dC d.t) rfl rfl (by simp[cF])).trans ?_;refine(bS (n:=1) (l:=[rv]) (cB A) rfl (by simp[cF])).trans ?_;refine(bS (n:=1) (l:=[af y]) rfl rfl (by simp[cF])).trans ?_;rw[gC];simp[wrL,dC,U6]
theorem MN {h:ah}{b:Nat}{l:List Value}{t:TypeId}{f:Nat×Nat}(r:h[b]? =some (.cells l.toArray t f))(o n:Nat)(m:List Value)(A:(l.drop o).take n=m)(D:m.length=n):aP n h (.pointer (some ⟨b,o,none⟩))=some (.agg m.toArray):=by
 subst A;refine HA _ n D λj G=>?_
 rw[am r];rw[db,iX]at G;have F:o+j<l.length:=ae;rw[um,xa];simp[F]
def nH (m n:Pic)(s:Stg)(t:cZ):Int:=if¬lB m n s then 6 else if¬fh s t.x t.y t.w t.h then 9 else 0
theorem qa {m n:Pic}{s:Stg}{t:cZ}:nH m n s t=0↔lB m n s∧fh s t.x t.y t.w t.h:=by
 unfold nH;by_cases h1:lB m n s
 ·rw[az (by simpa using h1)];by_cases A:fh s t.x t.y t.w t.h
  ·rw[az (by simpa using A)];exact⟨λ_=>⟨h1,A⟩,λ_=>rfl⟩
  ·rw[aA A];exact⟨λh=>absurd h (by decide),λh=>absurd h.2 A⟩
 ·rw[aA h1];exact⟨λh=>absurd h (by decide),λh=>absurd h.1 h1⟩
theorem MU {m n:Pic}{s:Stg}{t:cZ}(W:m.Wf)(A:s.Wf)(hc:nH m n s t=0):fO.Wf ⟨m,s,t⟩:=by
 obtain⟨h1,D⟩:=qa.1 hc;obtain⟨a1,a2,a3,a4,a5,a6,F,G⟩:=D;exact⟨W,A,h1.1,a1,a2,a3,a4,by show t.x+t.w≤(s.x.lines.length:Int);omega,by show t.y+t.h≤(s.y.lines.length:Int);omega⟩
theorem WB {m n:Pic}{s:Stg}{t:cZ}(W:n.Wf)(hc:nH m n s t=0):Ih ⟨m,s,t⟩ n:=by
 obtain⟨h1,A⟩:=qa.1 hc;exact⟨W,h1.2.1,h1.2.2.1,h1.2.2.2.1,h1.2.2.2.2⟩
def VH (Z:Nat→Prop)(h:ah)(bf:Nat)(vf:Value)(bt:Nat)(vt p q:Value)(m n:Pic)(s:Stg)(t:cZ)(r:Value)(h':ah):Prop:=
 Ext h h'∧∃v,r=.tuple #[v,.int .i64 (nH m n s t)]∧(nH m n s t≠0→v=.pointer none)∧
  (nH m n s t=0→∃bj rv,v=ptr bj∧kK Z (qE (λ_=>False) h h') h' bj bf vf bt vt p q rv ⟨m,s,t⟩ t.y (lnF s.y t.y) n (iG (bH s.y.lines)) (fB (t.w*m.c)))
theorem zcQ {h:ah}(G:eF h){Z:Nat→Prop}{bf bt:Nat}{vf vt p q:Value}{m n:Pic}{s:Stg}{t:cZ}(I:dd h bf vf m)(O:dd h bt vt n)(al:bf≠bt)(W:m.Wf)(WO:n.Wf)(hp:fJ Z h p s.x)(hq:fJ Z h q s.y)(WS:s.Wf)
  (zf:Z bf∧∀c,blk vf c→Z c) (zz:∀c,Z c→¬blk vt c) (zl:∀c,Z c→c<h.size):
  ag prog oN #[ptr bf,ptr bt,.agg #[p,q,af s.border],.agg (dC t).toArray] h (VH Z h bf vf bt vt p q m n s t):=by
 apply Ob;unfold Dy;simp only[bP];have HS:pX Z h (.agg #[p,q,af s.border]) s:=⟨p,q,rfl,hp,hq⟩
 refine aI λb1 h1 r1 e1 n1=>aI λb2 h2 r2 e2 n2=>?_
 have L:=e1.trans e2;have r1:=e2.row r1;rw[aU (l:=[p,q,af s.border]) r1 3 rfl,ak];refine ag.to (ZK (G.ext L) (I.ext L) (O.ext L) al (HS.ext L)) λh3 e3=>?_
 have E3:=L.trans e3;by_cases g1:lB m n s
 case neg=>
  have hc:nH m n s t=6:=by unfold nH;rw[aA g1]
  simp only[go_sem,cG g1];exact⟨E3,_,by rw[hc],λ_=>rfl,λh0=>absurd (h0.symm.trans hc) (by decide)⟩
 simp only[go_sem,da g1];have r1:=e3.row r1;have r2:=e3.row r2;rw[aU (l:=[p,q,af s.border]) r1 3 rfl,ak,MN r2 (0+1) 4 [af t.x,af t.y,af t.w,af t.h] rfl rfl,ak];refine ag.to (TT (HS.ext E3) WS) λh4 e4=>?_
 have U:=E3.trans e4;by_cases g2:fh s t.x t.y t.w t.h
 case neg=>
  have hc:nH m n s t=9:=by unfold nH;rw[az (by simpa using g1),aA g2]
  simp only[go_sem,cG g2];exact⟨U,_,by rw[hc],λ_=>rfl,λh0=>absurd (h0.symm.trans hc) (by decide)⟩
 simp only[go_sem,da g2];have hc:nH m n s t=0:=qa.2 ⟨g1,g2⟩;have r1:=e4.row r1;have r2:=e4.row r2;have WJ:=MU (t:=t) W WS hc;have hb:=fO.bd WJ;have aa:=WJ.w1;have ab:=WJ.x0;have hf:=du W.fits;refine aQ (Ext h4) (Ext.refl _) ?_;refine aC (.agg #[p,q,af s.border]) (λh' e=>aU (l:=[p,q,af s.border]) (e.row r1) 3 rfl) ?_;refine aC (.agg (dC t).toArray) (λh' e=>aU (e.row r2) 10 rfl) ?_
 try simp only[go_sem,aK]
 refine aC q (λh' e=>am (e.row r1)) ?_
 try simp only[go_sem,aK]
 refine aC (af t.w) (λh' e=>am (e.row r2)) ?_
 try simp only[go_sem,aK]
 refine aC (af t.y) (λh' e=>am (e.row r2)) ?_;refine ag.at (Sh (hq.ext U)) ?_;refine⟨Ext.refl _,?_⟩;refine ag.at (eU (I.ext U)) ?_;refine⟨Ext.refl _,?_⟩;have au:0≤t.w*m.c∧t.w*m.c≤65536*3:=by
  have h1:(1:Int)≤t.w:=aa;have h2:t.x+t.w≤65536:=hb.1;have h3:0≤t.x:=ab;have:=ks (show t.w≤65536 by omega) hf.2.2.2.2.2.1 ae ae;exact⟨ku ae ae,this⟩
 simp only[go_sem];rw[w64 (n:=t.w*m.c) ae ae];refine(zc1 (bH s.y.lines) (t.w*m.c)).mono λrv h5 ⟨M,R,e5,hM⟩=>?_
 refine⟨e5,?_⟩;have E5:=U.trans e5;have hr:aR rv=true:=by obtain⟨_,_,_,_,_,_,e,_⟩:=R;rw[e];rfl
 have ad:aM zbZ [(0,1,ptr bf),(1,1,ptr bt),(2,3,.agg #[p,q,af s.border]),(5,10,.agg (dC t).toArray),(15,1,rv),(16,1,af t.y)]=some (U6 bf bt p q rv ⟨m,s,t⟩ t.y).toArray:=Zy (d:=⟨m,s,t⟩) hr;rw[ad,bG,ak];refine aI λbj h6 r6 e6 n6=>?_
 have F:=E5.trans e6;have ar:=O.lt;have aw:=E5.1;have an:=U.1;refine⟨F,_,by rw[hc],λh0=>absurd hc h0,λ_=>⟨bj,rv,rfl,⟨M,[],⟨r6,I.ext F,hp.ext F,hq.ext F,R.ext e6,O.ext F,zf,λc D=>⟨λA=>?_,λhe=>?_,zz c D⟩,⟨λA=>?_,λA=>?_,λc H A=>?_⟩,⟨ae,λH=>?_⟩,fT _,?_,λc D=>bX (zl c D) F.1⟩,λc A=>.inr ⟨?_,?_⟩,λ_=>⟨Ii.start _ _,fT _,?_⟩⟩,.inr ⟨ae,bC r6⟩,λc hc=>hc.elim (λh=>h.elim) λh=>h.2,λc hc=>?_,WB WO hc⟩⟩
 ·have:=hM c A;have:=zl c D;omega
 ·have:=zl c D;omega
 ·have:=R.lt A;omega
 ·have:=hM bt A;omega
 ·have:=hM c A;have:=O.ltv H;omega
 ·have:=O.ltv H;omega
 ·show t.y≤t.y+t.h;have:=WJ.h1;have:(1:Int)≤t.h:=this;omega
 ·have:=hM c A;omega
 ·have:=R.lt A;have:=e6.1;omega
 ·show lnF s.y t.y≤lnE s.y t.y;unfold lnF lnE;omega
 ·rcases hc with h|h
  ·exact h.elim
  ·exact⟨λD=>by have:=zl c D;omega,ae,λH=>by have:=O.ltv H;omega⟩
section
theorem Le {a b:Int}(D:1≤a)(A:1≤b):max a b≤a*b:=by
 have h1:a*1≤a*b:=sI A ae;have F:1*b≤a*b:=oB D ae;omega
theorem span0 (X:Int){n m:Int}(H:1≤n)(W:1≤m): -(-(X+n)/m)-X/m≤6*n+4:=by
 have a1:=vy (-(X+n)) m;have a2:=vy X m;have G:=iB (-(X+n)) (show 0<m by omega);have F:=iB X (show 0<m by omega);have U:=Le H W
 revert a1 a2 G F
 generalize-(X+n)/m=D;generalize X/m=A;generalize-(X+n)%m=r1;generalize X%m=r2;intro a1 a2 G F;rcases mT (6*n+4) (-D-A)with h|h
 ·exfalso;have h1:m*(6*n+5)≤m*(-D-A):=sI ae ae;have L:m*(6*n+5)=6*(n*m)+5*m:=by grind
  have I:m*(-D-A)= -(m*D)-m*A:=by grind
  rw[L,I]at h1;omega
 ·omega
theorem span1 (X R:Int){n m:Int}(W:1≤n)(U:1≤m)(L:R≤6*(n*m)): -(-(X+R)/(2*m))-((X-R)/(2*m)+1)≤6*n+4:=by
 have a1:=vy (-(X+R)) (2*m);have a2:=vy (X-R) (2*m);have G:=iB (-(X+R)) (show 0<2*m by omega);have F:=iB (X-R) (show 0<2*m by omega)
 revert a1 a2 G F
 generalize-(X+R)/(2*m)=D;generalize(X-R)/(2*m)=A;generalize-(X+R)%(2*m)=r1;generalize(X-R)%(2*m)=r2;intro a1 a2 G F;rcases mT (6*n+4) (-D-(A+1))with h|h
 ·exfalso;have h1:2*m*(6*n+5)≤2*m*(-D-(A+1)):=sI ae ae;have H:2*m*(6*n+5)=12*(n*m)+10*m:=by grind
  have I:2*m*(-D-(A+1))= -(2*m*D)-2*m*A-2*m:=by grind
  rw[H,I]at h1;omega
 ·omega
theorem zaE {f n m i:Int}(H:0≤f∧f<3)(A:1≤n)(D:1≤m):ns f n m i-qn f n m i≤6*n+4:=by
 have F:=Le A D;unfold ns qn Ni;by_cases h0:f=0
 ·rw[aA h0,aA h0];rw[show(i+1)*n=i*n+n by rw[jw,kr]];exact span0 (i*n) A D
 ·rw[az h0,az h0];have G:cU f*2*max n m≤6*(n*m)∧0≤cU f*2*max n m:=by
   have:(cU f=2∨cU f=3):=by unfold cU;rw[az h0];split<;>simp
   rcases this with h|h<;>rw[h]<;>omega
  generalize cU f*2*max n m=R at*;exact span1 _ _ A D G.1
theorem Fa {ls:List (Int×List Int)}{c:Int}(h0:0≤c)(h:∀x∈ls,(x.2.length:Int)≤c):bH ls≤c:=by
 unfold bH;have:∀(l:List (Int×List Int)) (a:Int),a≤c→(∀x∈l,(x.2.length:Int)≤c)→l.foldl (λm x=>max m (x.2.length:Int)) a≤c:=by
  intro l;induction l with
  |nil=>intro a D _;exact D
  |cons y l F=>
   intro a D A;rw[wZ];exact F _ (by have:=A y (by simp);omega) λx G=>A x (by simp[G])
 exact this ls 0 h0 h
theorem Re (ls:List (Int×List Int)):0≤bH ls:=(GR ls 0).1
theorem Gr {f n m:Int}(hc:dy f n m=0):bH (fF f n m).lines≤6*n+4:=by
 have h0:¬(¬(0≤f∧f<3)∨¬bu n∨¬bu m):=λh=>by unfold dy at hc;rw[aA h]at hc;cases hc
 have G:=hc;unfold dy at G;rw[az h0]at G;have F:0≤f∧f<3:=cf λh=>h0 (.inl h)
 have A:bu n:=cf λh=>h0 (.inr (.inl h))
 have D:bu m:=cf λh=>h0 (.inr (.inr h))
 unfold bu at A D;refine Fa ae λx H=>?_
 obtain⟨i,hi,rfl⟩:=gO.1 H;have hi:=sO.1 hi;have I:=qS G i hi;show((cj (c5 f n m i)).length:Int)≤_;rw[vL I];unfold c5;rw[aA ⟨F.1,F.2,A.1,A.2,D.1,D.2,ae,ae⟩];unfold Dh;rw[cQ,eN];have:=zaE (i:=i) F A.1 D.1;omega
theorem SR {f n m:Int}(hc:dy f n m=0)(A:n≤10000):bH (fF f n m).lines≤65536:=by have:=Gr hc;omega
theorem HT (l:List Int)(n:Int)(hc:iJ l n=0):bH (jX l n).lines≤l.length:=by
 refine Fa ae λx A=>?_
 obtain⟨i,hi,rfl⟩:=gO.1 A;show((cj l).length:Int)≤_;have h0:cV l=0:=by
  unfold iJ at hc;split at hc
  ·cases hc
  ·split at hc
   ·cases hc
   ·exact hc
 rw[vL h0];omega
theorem TH (l:List Int)(A:l.length≤1024)(n:Int)(hc:iJ l n=0):bH (jX l n).lines≤65536:=by have:=HT l n hc;omega
theorem U0 {o:OpD}{w h:Int}(hc:eZ o w h=0)(F:h≤10000):bH (ch o w h).y.lines≤65536:=by
 have A:iE o w h=0:=by
  unfold eZ at hc;split at hc
  ·cases hc
  ·exact hc
 show bH (fj o h).lines≤_;unfold iE at A;unfold fj;split
 ·rename_i D;rw[aA D]at A;by_cases h1:dy o.filter w o.w=0
  ·rw[az (by simpa using h1)]at A;exact SR A F
  ·rw[aA h1]at A;exact absurd A h1
 ·rename_i D;rw[az D]at A;refine TH _ (AL o).2 _ ?_;split at A
  ·exact absurd A (by assumption)
  ·split at A
   ·exact absurd A (by assumption)
   ·exact A
structure Cj (s:Stg):Prop where
 wf:s.Wf
 mono:De s.y
 most:bH s.y.lines≤65536
 side:s.x.lines.length≤300
theorem MH {o:OpD}{w h:Int}(hc:eZ o w h=0)(A:h≤10000)(D:pI o w≤300):Cj (ch o w h):=
 ⟨(yu hc).1,U3 hc,U0 hc A,by have:=(IM hc).1;omega⟩
theorem Cj.room {s:Stg}(H:Cj s){m n:Pic}{t:cZ}(W:m.Wf)(hc:nH m n s t=0):zap ⟨m,s,t⟩ (iG (bH s.y.lines)) (fB (t.w*m.c)):=by
 have A:=MU (t:=t) W H.wf hc;have F:=du W.fits;have h1:1≤t.w:=A.w1;have I:0≤t.x:=A.x0;have G:t.x+t.w≤s.x.lines.length:=A.xw;have L:=H.side;have U:=H.most;have D:0≤t.w*m.c∧t.w*m.c≤300*3:=⟨ku ae ae,ks (show t.w≤300 by omega) F.2.2.2.2.2.1 ae ae⟩
 refine⟨H.mono,?_,?_,?_,?_⟩
 ·unfold iG;show bH s.y.lines≤_;omega
 ·unfold iG;omega
 ·unfold fB;show _=t.w*m.c;omega
 ·show t.w≤300;omega
def ml (d:fO):Nat→Int→Int→Nat
 |0,_,_=>0
 |k+1,y,e=>(lnE d.s.y y-e).toNat+1+ml d k (y+1) (max (lnE d.s.y y) (lnF d.s.y (y+1)))
def rV (d:fO)(y e:Int):Nat:=ml d (d.t.y+d.t.h-y).toNat y e
theorem Py {d:fO}{y e:Int}(h:d.t.y+d.t.h≤y):rV d y e=0:=by
 unfold rV;rw[show(d.t.y+d.t.h-y).toNat=0 by omega];rfl
theorem IS {d:fO}{y e:Int}(h:y<d.t.y+d.t.h):rV d y e=(lnE d.s.y y-e).toNat+1+rV d (y+1) (max (lnE d.s.y y) (lnF d.s.y (y+1))):=by
 unfold rV;rw[show(d.t.y+d.t.h-y).toNat=(d.t.y+d.t.h-(y+1)).toNat+1 by omega];rfl
theorem XJ {d:fO}{y e:Int}(L:cn d y e≠0)(W:e≤lnE d.s.y y):rV d (gj d y e) (ir d y e)+1=rV d y e:=by
 have A:¬d.t.y+d.t.h≤y:=λh=>L (by unfold cn;rw[aA h])
 have I:=IS (e:=e) (show y<d.t.y+d.t.h by omega);by_cases h1:e<lnE d.s.y y
 ·have U:cn d y e=1:=by unfold cn;rw[az A,aA h1]
  have D:gj d y e=y:=by unfold gj;rw[az ae]
  have F:ir d y e=e+1:=by unfold ir;rw[aA U]
  rw[D,F,I,IS (e:=e+1) ae];omega
 ·have H:cn d y e=2:=by unfold cn;rw[az A,az h1]
  have D:gj d y e=y+1:=by unfold gj;rw[aA H]
  have F:ir d y e=max e (lnF d.s.y (y+1)):=by unfold ir;rw[az ae,aA H]
  have G:e=lnE d.s.y y:=ae;rw[D,F,I,G];omega
theorem Y9 {d:fO}{y e:Int}:rV d y e=0↔cn d y e=0:=by
 unfold cn;by_cases h:d.t.y+d.t.h≤y
 ·rw[aA h,Py h];simp
 ·rw[az h,IS ae];constructor
  ·intro h;omega
  ·split<;>intro h<;>cases h
theorem Hz {d:fO}(W:d.s.y.Wf):∀(k:Nat) (y e:Int),lnF d.s.y y≤e→ml d k y e≤k*1048577
 |0,_,_,_=>cq _
 |k+1,y,e,he=>by
  have h1:=Hz W k (y+1) (max (lnE d.s.y y) (lnF d.s.y (y+1))) ae;have A:=qP W y;unfold ml;unfold lnE lnF at*;omega
theorem left_bd {d:fO}(W:d.Wf){y e:Int}(G:d.t.y≤y)(A:y<d.t.y+d.t.h→lnF d.s.y y≤e):rV d y e≤68719542272:=by
 by_cases h:y<d.t.y+d.t.h
 ·have h1:=Hz W.s.y (d.t.y+d.t.h-y).toNat y e (A h);have F:=fO.bd W;have D:=W.y0;unfold rV;omega
 ·rw[Py ae];omega
theorem C8 {B:Nat→Prop}{h:ah}:qE B h h=B:=by
 funext c
 unfold qE;apply propext;constructor
 ·rintro(h|h)
  ·exact h
  ·omega
 ·exact .inl
section
variable {Z B:Nat→Prop}{h:ah}{bj bf:Nat}{vf:Value}{bt:Nat}{vt p q rv:Value}{d:fO}{y e:Int}{n:Pic}{room w:Nat}
theorem Nx (S:kK Z B h bj bf vf bt vt p q rv d y e n room w):ag prog jZ #[ptr bj] h λr h'=>r=af ((room:Int)*w)∧h'=h:=by
 apply Dj;unfold tg;obtain⟨⟨M,rs,J,a,b⟩,_⟩:=S;simp only[go_sem,J.c15 (Ext.refl _)];exact zaa J.ring
end
def yP (s:Stg)(t:cZ)(m:Pic):Nat:=rV ⟨m,s,t⟩ t.y (lnF s.y t.y)
theorem zbH {Z:Nat→Prop}{h:ah}{p q:Value}{s:Stg}{t:cZ}(m:Pic)(hp:fJ Z h p s.x)(hq:fJ Z h q s.y)(F:Cj s):
  ag prog vO #[.agg #[p,q,af s.border],.agg (dC t).toArray] h λr h'=>r=af (if fh s t.x t.y t.w t.h then(yP s t m:Int)else 0)∧Ext h h':=by
 apply Kc;unfold Ae;simp only[bP];have HS:pX Z h (.agg #[p,q,af s.border]) s:=⟨p,q,rfl,hp,hq⟩
 refine aI λb1 h1 r1 e1 n1=>aI λb2 h2 r2 e2 n2=>?_
 have E2:=e1.trans e2;have r1:=e2.row r1;rw[aU (l:=[p,q,af s.border]) r1 3 rfl,ak,TG,ak,MN r2 (0+1) 4 [af t.x,af t.y,af t.w,af t.h] rfl rfl,ak];refine ag.to (TT (HS.ext E2) F.wf) λh4 e4=>?_
 have E4:=E2.trans e4;have r1:=e4.row r1;have r2:=e4.row r2;by_cases g:fh s t.x t.y t.w t.h
 case neg=>
  rw[az g];simp only[go_sem,cG g];exact⟨trivial,E4⟩
 rw[aA g];obtain⟨g1,g2,g3,g4,g5,g6,g7,g8⟩:=g;have q1:aG h4 ⟨b1,1,none⟩=some q:=am r1;have t4:aG h4 ⟨b2,4,none⟩=some (af t.h):=am r2;have t2:aG h4 ⟨b2,2,none⟩=some (af t.y):=am r2;simp only[go_sem,da (show fh s t.x t.y t.w t.h from⟨g1,g2,g3,g4,g5,g6,g7,g8⟩),t4,q1,t2];refine(Cf (hq.ext E4) F.wf.y).mono λr h5 ⟨u,e,S,e5⟩=>?_
 subst e;have E5:=E4.trans e5;have aw:pV false 1 0 (.agg #[af (bE s.y t.y).1,u])=some (af (lnF s.y t.y)):=rfl;have t4:aG h5 ⟨b2,4,none⟩=some (af t.h):=am (e5.row r2);simp only[go_sem,aw,t4];obtain⟨H,hH⟩:∃H:Nat,t.h=(H:Int):=⟨t.h.toNat,ae⟩
 have bk:=F.wf.y.len;have ax:=F.mono;obtain⟨d,hd⟩:∃d:fO,d=⟨m,s,t⟩:=⟨_,rfl⟩
 have G:d.s=s:=by rw[hd]
 have U:yP s t m=ml d H t.y (lnF s.y t.y):=by
  unfold yP rV;rw[hd];show ml _ (t.y+t.h-t.y).toNat _ _=_;rw[show(t.y+t.h-t.y).toNat=H by omega]
 have ab:∀k y e,lnF s.y y≤e→ml d k y e≤k*1048577:=λk y e he=>Hz (by rw[G];exact F.wf.y) k y e (by rw[G];exact he)
 have bv:=ab H t.y (lnF s.y t.y) (fT _);rw[hH];refine bI (α:=Int×Int) H 0 (λk a=>[af a.1,af a.2,af (k:Int)])
  (λk a h'=>Ext h h'∧h'[b1]? =some (.cells #[p,q,af s.border] 81 (0,0))∧h'[b2]? =some (.cells (dC t).toArray 116 (0,0))∧0≤a.1∧a.1+ml d (H-k) (t.y+k) (max a.2 (lnF s.y (t.y+k)))-(H-k:Nat)=yP s t m∧(k<H→a.2≤lnE s.y (t.y+k)∧lnF s.y t.y≤a.2)) ((H:Int),lnF s.y t.y) rfl (b9 _)
  ⟨E5,e5.row r1,e5.row r2,by show(0:Int)≤(H:Int);omega,by
   show((H:Int)+(ml d (H-0) (t.y+(0:Nat)) (max (lnF s.y t.y) (lnF s.y (t.y+(0:Nat)))):Int))-_=_;rw[show t.y+((0:Nat):Int)=t.y by omega,show max (lnF s.y t.y) (lnF s.y t.y)=lnF s.y t.y by omega,U,zg];omega,λ_=>by
   show lnF s.y t.y≤lnE s.y (t.y+(0:Nat))∧_;rw[show t.y+((0:Nat):Int)=t.y by omega];exact⟨by unfold lnE lnF;omega,fT _⟩⟩ λk a h6 again ρ1 _ hk ⟨E6,aa,ad,a0,L,hL⟩ a7=>?_
 obtain⟨n,A⟩:=a;have a0:0≤n:=a0;have L:n+ml d (H-k) (t.y+k) (max A (lnF s.y (t.y+k)))-(H-k:Nat)=yP s t m:=L;have hL:k<H→A≤lnE s.y (t.y+k)∧lnF s.y t.y≤A:=hL;simp only[go_sem];refine ao (λh7=>?_) (λh7=>?_)
 ·have W:k<H:=ae;obtain⟨hL,bd⟩:=hL W;have q1:aG h6 ⟨b1,1,none⟩=some q:=am aa;have t2:aG h6 ⟨b2,2,none⟩=some (af t.y):=am ad;simp only[go_sem,q1,t2];rw[w64 (n:=t.y+(k:Int)) ae ae];refine(Cf (hq.ext E6) F.wf.y).mono λr h7 ⟨u,e,S,e7⟩=>?_
  subst e;have hl:=qP F.wf.y (t.y+k);refine dh (cs:=[af (bE s.y (t.y+k)).1,u]) rfl (aq rfl (aq S.one aX)) rfl λb8 h8 r8 e8 n8=>?_
  obtain⟨au,cu,eu⟩:=S.isSl;have al:aD u=some (af ((bE s.y (t.y+k)).2.length:Int)):=by rw[eu];rfl
  have c0:aG h8 ⟨b8,0,none⟩=some (af (bE s.y (t.y+k)).1):=am r8;have c1:aG h8 ⟨b8,1,none⟩=some u:=am r8;simp only[go_sem,aK,c0,c1,al];have ay:(bE s.y (t.y+k)).1+((bE s.y (t.y+k)).2.length:Int)=lnE s.y (t.y+k):=rfl;have a8:(bE s.y (t.y+k)).1=lnF s.y (t.y+k):=rfl;have be:lnF s.y (t.y+k)≤lnE s.y (t.y+k):=by unfold lnE lnF;omega
  have bc: -70368744177664≤lnE s.y (t.y+k)∧lnE s.y (t.y+k)≤70368745226240:=by unfold lnE;omega
  have I:=qP F.wf.y t.y;have a9: -70368744177664≤lnF s.y t.y∧lnF s.y t.y≤70368744177664:=⟨I.2.1,I.2.2⟩
  have bo: -70368744177664≤lnF s.y (t.y+k):=hl.2.1;rw[w64 (n:=(bE s.y (t.y+k)).1+((bE s.y (t.y+k)).2.length:Int)) ae ae,ay,a8];have D:ml d (H-k) (t.y+k) (max A (lnF s.y (t.y+k)))=(lnE s.y (t.y+k)-max A (lnF s.y (t.y+k))).toNat+1+ml d (H-(k+1)) (t.y+(k+1:Nat)) (max (lnE s.y (t.y+k)) (lnF s.y (t.y+(k+1:Nat)))):=by
   rw[show H-k=(H-(k+1))+1 by omega];rw[ml,G,show t.y+(k:Int)+1=t.y+((k+1:Nat):Int)by omega]
  have b0:=ab (H-(k+1)) (t.y+(k+1:Nat)) (max (lnE s.y (t.y+k)) (lnF s.y (t.y+(k+1:Nat)))) ae;rw[D]at L;generalize ar:ml d (H-(k+1)) (t.y+(k+1:Nat)) (max (lnE s.y (t.y+k)) (lnF s.y (t.y+(k+1:Nat))))=LL at*;rw[w64 (n:=lnE s.y (t.y+k)-max A (lnF s.y (t.y+k))) ae ae,w64 (n:=n+max 0 (lnE s.y (t.y+k)-max A (lnF s.y (t.y+k)))) ae ae,w64 (n:=(k:Int)+1) ae ae];refine a7 (n+max 0 (lnE s.y (t.y+k)-max A (lnF s.y (t.y+k))),max A (lnE s.y (t.y+k))) h8 W ⟨E6.trans (e7.trans e8),(e7.trans e8).row aa,(e7.trans e8).row ad,?_,?_,λbg=>?_⟩
  ·show 0≤n+max 0 (lnE s.y (t.y+k)-max A (lnF s.y (t.y+k)));omega
  ·show n+max 0 (lnE s.y (t.y+k)-max A (lnF s.y (t.y+k)))+(ml d (H-(k+1)) (t.y+(k+1:Nat)) (max (max A (lnE s.y (t.y+k))) (lnF s.y (t.y+(k+1:Nat)))):Int)-_=_;rw[show max A (lnE s.y (t.y+k))=lnE s.y (t.y+k)by omega,ar];omega
  ·have:=ax.e (t.y+k) (t.y+(k+1:Nat)) ae ae ae;show max A (lnE s.y (t.y+k))≤lnE s.y (t.y+(k+1:Nat))∧lnF s.y t.y≤max A (lnE s.y (t.y+k));omega
 ·have an:k=H:=ae;subst an;refine⟨?_,E6⟩;rw[Rj]at L;have:n=yP s t m:=by unfold ml at L;omega
  rw[this]
end
end Go.Proofs.YtjljhnandbbldaaGreatDoor
namespace Go.Proofs.YtjljhnandbbldaaGreatDoor
open Go Go.Crisp
attribute [local irreducible] ag di aW stK aF vK qK bK gK fo bA mkK dk Fm GM CJ bsK clK tW oA V0
theorem Tu {t:Tbl}{i:Nat}(hi:i<t.lines.length):t.lines[i]=bE t (i:Int):=by
 unfold bE;rw[aA ae];simp[dS,hi]
def zcn (m:Pic)(s:Stg)(i:Nat):Int:=xr m s ((i/m.c.toNat%s.x.lines.length:Nat):Int) ((i/m.c.toNat/s.x.lines.length:Nat):Int) ((i%m.c.toNat:Nat):Int)
def Ci (m:Pic)(s:Stg):Pic:=⟨s.x.lines.length,s.y.lines.length,m.c,m.most,(List.range (s.y.lines.length*s.x.lines.length*m.c.toNat)).map λi:Nat=>zcn m s i⟩
theorem zaQ {m:Pic}{s:Stg}{x y c:Nat}(A:x<s.x.lines.length)(hc:c<m.c.toNat):zcn m s ((y*s.x.lines.length+x)*m.c.toNat+c)=xr m s x y c:=by
 unfold zcn;have H:((y*s.x.lines.length+x)*m.c.toNat+c)/m.c.toNat=y*s.x.lines.length+x:=by
  rw[eO,Ri ae,sJ hc,iA]
 have F:((y*s.x.lines.length+x)*m.c.toNat+c)%m.c.toNat=c:=by
  rw[eO,KG,vA hc]
 rw[H,F];have G:(y*s.x.lines.length+x)%s.x.lines.length=x:=by rw[eO,KG,vA A]
 have D:(y*s.x.lines.length+x)/s.x.lines.length=y:=by rw[eO,Ri ae,sJ A,iA]
 rw[G,D]
theorem Ys {m:Pic}{s:Stg}{x y c:Int}(hi:inP (Ci m s) x y c):atP (Ci m s) x y c=xr m s x y c:=by
 unfold atP;rw[aA hi];obtain⟨x0,A,y0,y1,H,D⟩:=hi;have A:x<s.x.lines.length:=A;have y1:y<s.y.lines.length:=y1;have D:c<m.c:=D;obtain⟨a,rfl⟩:∃a:Nat,x=a:=⟨x.toNat,ae⟩
 obtain⟨b,rfl⟩:∃b:Nat,y=b:=⟨y.toNat,ae⟩
 obtain⟨e,rfl⟩:∃e:Nat,c=e:=⟨c.toNat,ae⟩
 have G:(pD (Ci m s) a b e).toNat=(b*s.x.lines.length+a)*m.c.toNat+e:=by
  show(((b:Int)*(s.x.lines.length:Int)+a)*m.c+e).toNat=_;have:((((b*s.x.lines.length+a)*m.c.toNat+e:Nat)):Int)=((b:Int)*(s.x.lines.length:Int)+a)*m.c+e:=by
   rw[KE,lR,KE,lR,wU ae]
  omega
 rw[G];have h1:b*s.x.lines.length+a<s.y.lines.length*s.x.lines.length:=by
  have:(b+1)*s.x.lines.length≤s.y.lines.length*s.x.lines.length:=iz _ ae;rw[em,sH]at this;omega
 have F:(b*s.x.lines.length+a)*m.c.toNat+e<s.y.lines.length*s.x.lines.length*m.c.toNat:=by
  have:(b*s.x.lines.length+a+1)*m.c.toNat≤s.y.lines.length*s.x.lines.length*m.c.toNat:=iz _ ae;rw[em,sH]at this;omega
 show((List.range _).map _).getD _ 0=_;rw[dS,w7,V6 F];exact zaQ ae ae
end Go.Proofs.YtjljhnandbbldaaGreatDoor
namespace Go.Crisp
open Go
def nG (w:Nat)(h:ah)(v:Value)(n:Nat)(cs:List Value):Prop:=
 (v=.slice none 0 0∧n=0∧cs=[])∨∃b cap p r e,v=.slice (some ⟨b,p.length,none⟩) n cap∧n≤cap∧cs.length=n*w∧(cs++r).length=cap*w∧h[b]? =some (.cells (p++(cs++r)).toArray e (0,0))
theorem nG.nil {w:Nat}{h:ah}:nG w h (.slice none 0 0) 0 []:=.inl ⟨rfl,rfl,rfl⟩
theorem Own.o {w:Nat}{h:ah}{v:Value}{n:Nat}{cs:List Value}(H:Own w h v n cs):nG w h v n cs:=by
 rcases H with H|⟨b,cap,r,e,rfl,h1,D,A,F⟩
 ·exact .inl H
 ·exact .inr ⟨b,cap,[],r,e,rfl,h1,D,A,F⟩
theorem nG.fr {w:Nat}{M:Nat→Prop}{h h':ah}{v:Value}{n:Nat}{cs:List Value}(H:nG w h v n cs)(f:Fr M h h')(D:∀b,blk v b→¬M b):nG w h' v n cs:=by
 rcases H with⟨rfl,rfl,rfl⟩|⟨b,cap,p,r,e,rfl,hc,G,F,A⟩
 ·exact .inl ⟨rfl,rfl,rfl⟩
 ·exact .inr ⟨b,cap,p,r,e,rfl,hc,G,F,f.row A (D b rfl)⟩
theorem nG.ext {w:Nat}{h h':ah}{v:Value}{n:Nat}{cs:List Value}(H:nG w h v n cs)(f:Ext h h'):nG w h' v n cs:=H.fr (M:=λ_=>False) f.fr λ_ _=>id
theorem nG.lt {w:Nat}{h:ah}{v:Value}{n:Nat}{cs:List Value}(H:nG w h v n cs){b:Nat}(A:blk v b):b<h.size:=by
 rcases H with⟨rfl,rfl,rfl⟩|⟨D,cap,p,r,e,rfl,hc,G,F,h'⟩
 ·cases A
 ·rw[show b=D from A];exact(lU.1 h').1
theorem nG.sl {w:Nat}{h:ah}{v:Value}{n:Nat}{cs:List Value}(H:nG w h v n cs):SlC w h v n cs:=by
 rcases H with⟨rfl,rfl,rfl⟩|⟨b,cap,p,r,e,rfl,hc,F,_,D⟩
 ·exact⟨by simp,none,0,rfl,.inl rfl⟩
 ·refine⟨F,_,cap,rfl,.inr ⟨b,p.length,rfl,λj A=>?_⟩⟩;rw[am D];simp only[y6];rw[tZ (Nat.le_add_right _ _),Wb,uh A];simp[A]
theorem zav (ds p cs r:List Value)(h:ds.length≤r.length):wrL (p++(cs++r)).toArray (p.length+cs.length) ds=(p++(cs++ds++r.drop ds.length)).toArray:=by
 have:=FD ds (p++cs) r h;rw[cz]at this;rw[←cg,this];simp
theorem Yt {z:Value}{e:TypeId}{w bytes n m:Nat}{s x:Value}{h:ah}{cs ds:List Value}{K:Value→ah→Prop}
  (hs:nG w h s n cs) (hx:SlC w h x m ds) (ho:∀v∈ds,aR v=true) (hz:z.cells.size=w) (W:(n+m)*bytes≤140737488355328) (hn:n+m≤9223372036854775807)
  (H:∀I h',nG w h' I (n+m) (cs++ds)→Fr (blk s) h h'→(∀b,blk I b→blk s b∨h.size≤b)→K I h'):dk z e w bytes s x h K:=by
 rcases hs with⟨rfl,rfl,rfl⟩|⟨b,cap,p,r,e0,rfl,hc,L,hr,G⟩
 ·exact vM (.inl ⟨rfl,rfl,rfl⟩) hx ho hz W hn λI h' o=>H I h' o.o
 ·have F:SlC w h (.slice (some ⟨b,p.length,none⟩) n cap) n cs:=nG.sl (.inr ⟨b,cap,p,r,e0,rfl,hc,L,hr,G⟩);have F:=F.loads;have U:=hx.loads;obtain⟨D,a',ad,rfl,al⟩:=hx;unfold dk;simp only[OX];split
  ·rename_i h0;rw[U];have ab:ds.length≤r.length:=by
    rw[cz]at hr;rw[D];have:(n+m)*w≤cap*w:=iz w h0;rw[em]at this;omega
   have aa:=mO (o:=p.length+n*w) ds 0 h _ G (by simp;omega) ho;simp only[mF,aa];rw[iA,←L,zav ds p cs r ab];refine H _ _ (.inr ⟨b,cap,p,r.drop ds.length,e0,rfl,h0,?_,?_,mB G⟩) (Upd.set.fr) (λk hk=>.inl hk)
   ·simp[L,D,em]
   ·rw[←hr];simp;omega
  ·rename_i h0;rw[F,U];refine⟨by simp only[IntKind.max];simp only[IntKind.signed,IntKind.bits];omega,aZ (RN ae W) (by decide),λA h1 h2=>?_⟩;refine H _ _ (.inr ⟨h.size,A,[],(Builtin.zeroCells z.cells (A-(n+m))).toList,e,rfl,h1,?_,?_,?_⟩) (Ext.push h _).fr (λb W=>.inr (by rw[show b=h.size from W];exact cq _))
   ·simp[L,D,em]
   ·simp[L,D,Qj,hz];rw[←em,←em];congr 1;omega
   ·rw[rK];simp
theorem nG.tail {w:Nat}{h:ah}{v x:Value}{n:Nat}{cs ds:List Value}(H:nG w h v (n+1) (ds++cs))(hd:ds.length=w)(U:0<n){k:IntKind}:
  ∃D,xm w v (some (.int k 1)) none=some D∧nG w h D n cs∧∀b,blk D b→blk v b:=by
 rcases H with⟨_,h0,_⟩|⟨b,cap,p,r,e,rfl,hc,L,F,G⟩
 ·cases h0
 ·have A:¬cap=1:=ae;refine⟨.slice (some ⟨b,p.length+w,none⟩) n (cap-1),?_,.inr ⟨b,cap-1,p++ds,r,e,by rw[cz,hd],ae,?_,?_,?_⟩,λc hc=>hc⟩
  ·have I:bdV (some (Value.int k 1)) 0 (n+1)=some 1:=Dd k 1 0 (n+1) ae;simp only[xm,bdV,I,az A,cI,mF,sH,zj];rw[aA ae];simp[A]
  ·rw[cz,hd,em,sH]at L;omega
  ·simp only[cz]at F ⊢;rw[hd]at F;have:cap*w=(cap-1)*w+w:=by rw[←CU];congr 1;omega
   omega
  ·rw[G];simp
def OwO (k:IntKind)(h:ah)(v:Value)(l:List Int):Prop:=nG 1 h v l.length (l.map λx=>Value.int k x)
theorem OwO.nil {k:IntKind}{h:ah}:OwO k h (.slice none 0 0) []:=nG.nil
theorem OwO.sl {k:IntKind}{h:ah}{v:Value}{l:List Int}(H:OwO k h v l):Rp.Sl (Rp.int k) (blk v) h v l:=by
 have s:=nG.sl H;refine⟨_,s,λ_ b A=>A,λi hi=>?_⟩;show Rp.el 1 (l.map λx=>Value.int k x) i=[Value.int k l[i]];rw[Rp.el_one (by simpa using hi)];simp
theorem OwO.push {k:IntKind}{z I:Value}{t t':TypeId}{bytes:Nat}{s:Value}{h:ah}{l:List Int}{x:Int}{K:Value→ah→Prop}(W:OwO k h s l)(hz:z.cells.size=1)
  (G:(l.length+1)*bytes≤140737488355328) (U:l.length+1≤9223372036854775807)
  (H:∀A h',OwO k h' A (l++[x])→Fr (blk s) h h'→(∀b,blk A b→blk s b∨h.size≤b)→K A h'):di #[I] t 1 [(0,1,.int k x)] h λL h3=>dk z t' 1 bytes s L h3 K:=by
 refine dc (Rp.fill_one rfl) λb h1 r1 D n1=>?_
 refine Yt (nG.ext W D) (Rp.SlC.single (cs:=[.int k x]) r1) (aq (a:=Value.int k x) rfl aX) hz G U λA h' o' f' n'=>H A h' ?_ (D.fr.trans f') λc hc=>(n' c hc).imp id λF=>aZ D.1 F
 unfold OwO;rw[cz,jT];exact o'
theorem OwO.tail {k k':IntKind}{h:ah}{v:Value}{x:Int}{l:List Int}(H:OwO k h v (x::l))(D:0<l.length):
  ∃A,xm 1 v (some (.int k' 1)) none=some A∧OwO k h A l∧∀b,blk A b→blk v b:=
 nG.tail (x:=v) (ds:=[.int k x]) H rfl D
end Go.Crisp
namespace Go.Proofs.YtjljhnandbbldaaGreatDoor
open Go Go.Crisp
attribute [local irreducible] ag di aW stK aF vK qK bK gK fo bA mkK dk Fm GM CJ bsK clK tW oA V0
open _root_.Go.Proofs.Tryz
def tG (e E:Int):List (Int×Int):=(List.range (E-e).toNat).map λi:Nat=>((1:Int),e+(i:Int))
def lQ (d:fO):Nat→Int→Int→List (Int×Int)
 |0,_,_=>[]
 |k+1,y,e=>tG e (lnE d.s.y y)++(2,y)::lQ d k (y+1) (max (lnE d.s.y y) (lnF d.s.y (y+1)))
def Rc (d:fO)(y e:Int):List (Int×Int):=lQ d (d.t.y+d.t.h-y).toNat y e
theorem UD {e E:Int}(h:E≤e):tG e E=[]:=by
 unfold tG;rw[show(E-e).toNat=0 by omega];rfl
theorem UC {e E:Int}(h:e≤E):tG e (E+1)=tG e E++[(1,E)]:=by
 unfold tG;rw[show(E+1-e).toNat=(E-e).toNat+1 by omega,qp,jT]
 congr 1
 show[((1:Int),e+((E-e).toNat:Int))]=[(1,E)];rw[show e+((E-e).toNat:Int)=E by omega]
theorem Is {e E:Int}:(tG e E).length=(E-e).toNat:=by unfold tG;rw[cQ,eN]
theorem MB (d:fO):∀(k:Nat) (y e:Int),(lQ d k y e).length=ml d k y e
 |0,_,_=>rfl
 |k+1,y,e=>by
  unfold lQ ml;rw[cz,oD,Is,MB d k];omega
def Ax:Rp (Int×Int) where
 w:=2
 R:=λ_ _ cs x=>cs=[.int .i64 x.1,.int .i64 x.2]
 len:=by rintro _ _ _ _ rfl;rfl
 one:=by rintro _ _ _ _ rfl;exact aq rfl (aq rfl aX)
 fr:=by rintro _ _ _ _ _ _ h _ _;exact h
 mono:=by rintro _ _ _ _ _ h _;exact h
theorem New.push2 {z:Value}{c:Array Value}{t W:TypeId}{bytes:Nat}{h h1:ah}{v:Value}{l:List (Int×Int)}{a b:Int}{K:Value→ah→Prop}(H:New Ax h h1 v l)(hc:c.size=2)(hz:z.cells.size=2)(A:(l.length+1)*bytes≤140737488355328)(I:l.length+1≤9223372036854775807)
  (U:∀D h',New Ax h h' D (l++[(a,b)])→Fr (blk v) h1 h'→(∀b,blk D b→blk v b∨h1.size≤b)→K D h'):di c t 1 [(0,2,.agg #[af a,af b])] h1 λG L=>dk z W 2 bytes v G L K:=by
 refine Rp.push_ow (e:=Ax) (cs:=[af a,af b]) (x:=(a,b)) H.1 rfl hc hz A I (λb A=>A.elim) λD h' o' F n'=>U D h' ⟨o',H.2.1.then_fr F H.2.2,λb A=>?_⟩ F n'
 rcases n' b A with h1|h1
 ·exact H.2.2 b h1
 ·exact aZ H.2.1.1 h1
theorem zbu {h:ah}{Z:Nat→Prop}{v:Value}{l:List Int}{j:Int}(H:Rp.Sl (Rp.int .i64) Z h v l)(hl:l.length≤4611686018427387904):ag prog FA #[v,af j] h λr h'=>r=.bool (decide (j∈l))∧h'=h:=by
 apply Td;unfold Jr;obtain⟨a,c,e⟩:=H.isSl;have e2:aD v=some (af (l.length:Int)):=by rw[e];rfl
 rw[e2,ak];refine bI (α:=Unit) l.length 0 (λk _=>[af (k:Int)]) (λk _ h'=>h'=h∧∀x∈l.take k,x≠j) () rfl (b9 _) ⟨rfl,by simp⟩ λk _ h1 again ρ1 _ hk ⟨w,F⟩ I=>?_
 subst w;simp only[go_sem];refine ao (λh0=>?_) (λh0=>?_)
 ·have A:k<l.length:=ae;obtain⟨p,W,U⟩:=H.int_at (k':=.i64) A;simp only[go_sem,W,U];refine ao (λG=>?_) (λG=>?_)
  ·refine⟨?_,trivial⟩;rw[da];rw[←G];exact cO A
  ·rw[w64 ae ae];refine I () h1 A ⟨rfl,λx D=>?_⟩;rw[jU A]at D;rcases gX.1 D with D|D
   ·exact F x D
   ·rw[iy.1 D];exact G
 ·have:k=l.length:=ae;subst this;refine⟨?_,trivial⟩;rw[cG];intro L;rw[KD]at F;exact F j L rfl
structure pY (l:List Int)(F e:Int)(most:Nat):Prop where
 up:l.Pairwise (· < ·)
 inn:∀j,F≤j→j<e→j∈l
 lt:∀x∈l,x<e
 len:l.length≤most
theorem pY.start (F:Int)(most:Nat):pY [] F F most:=⟨List.Pairwise.nil,λj a b=>ae,by simp,by simp⟩
theorem pY.move {l:List Int}{F e A:Int}{most:Nat}(H:pY l F e most)(G:F≤A):pY l A (max e A) most:=
 ⟨H.up,λj a b=>H.inn j ae ae,λx D=>by have:=H.lt x D;omega,H.len⟩
theorem pY.nodup {l:List Int}(h:l.Pairwise (· < ·)):l.Nodup:=h.imp λa=>ae
theorem pY.push {l:List Int}{F e:Int}{most:Nat}(H:pY l F e most):(l++[e]).Pairwise (· < ·)∧(∀j,F≤j→j<e+1→j∈l++[e])∧(∀x∈l++[e],x<e+1):=by
 refine⟨?_,λj a b=>?_,λx A=>?_⟩
 ·rw[qQ];exact⟨H.up,by simp,λa I b G=>by rw[iy.1 G];exact H.lt a I⟩
 ·by_cases D:j<e
  ·exact KF _ (H.inn j a D)
  ·rw[show j=e by omega];simp
 ·rcases gX.1 A with h|h
  ·have:=H.lt x h;omega
  ·rw[iy.1 h];omega
theorem pY.next {l:List Int}{F e E:Int}{most:Nat}(H:pY l F e most)(he:F≤e)(hE:e<E)(hm:E-F≤most):(l.length+1≤most∧pY (l++[e]) F (e+1) most)∨(∃x t,l++[e]=x::t∧most<l.length+1∧0<t.length∧pY t F (e+1) most):=by
 obtain⟨U,I,L⟩:=H.push;by_cases h1:l.length+1≤most
 ·exact .inl ⟨h1,U,I,L,by simpa using h1⟩
 ·cases l with
  |nil=>simp at h1;omega
  | cons x l=>
   have W:=H.len;refine .inr ⟨x,l++[e],rfl,ae,by simp,?_⟩;have hx:x<F:=by
    rcases mT x F with h|h
    ·exact h
    ·have D:∀z∈x::l,F≤z∧z<e:=λz A=>by
      refine⟨?_,H.lt z A⟩;rcases kw.1 A with rfl|A
      ·exact h
      ·have:=(Rz.1 H.up).1 z A;omega
     have:=nodup_range (pY.nodup H.up) D;omega
   have G:(x::(l++[e])).Pairwise (· < ·):=U;refine⟨(Rz.1 G).2,λj a b=>?_,λz A=>L z (xA _ A),by simp at W ⊢;omega⟩;have:=I j a b;rcases kw.1 (show j∈x::(l++[e])from this)with h|h
   ·omega
   ·exact h
theorem Vr {h:ah}{Z:Nat→Prop}{ds:List Value}{s:Stg}{m:Pic}{t:cZ}(K:xp.R Z h ds s)(OK:Cj s)(hy:0≤t.y)(hh:1≤t.h)(eg:t.y+t.h≤s.y.lines.length):
  ag prog xF #[.agg ds.toArray,af t.y,af t.h] h λr h'=>New Ax h h' r (Rc ⟨m,s,t⟩ t.y (lnF s.y t.y)):=by
 apply LY;unfold AQ;obtain⟨X,Y,rfl,HX,HY⟩:=K;have WS:=OK.wf;have es:=WS.y.len;simp only[bP];refine aI λb1 h1 r1 e1 n1=>?_
 have k1:aG h1 ⟨b1,1,none⟩=some Y:=am r1;obtain⟨aY,cY,eY⟩:=HY.isSl;have ea:aD Y=some (af (s.y.lines.length:Int)):=by rw[eY];rfl
 simp only[go_sem,aK,k1,ea]
 -- a line, read into a variable
 have rd:∀{I:ah} {i:Nat} (hi:i<s.y.lines.length),Ext h I→∀{Kp:Value→ah→Prop},(∀b h3 u,h3[b]? =some (.cells #[af (bE s.y i).1,u] 240 (0,0))→Ext I h3→I.size≤b→aD u=some (af ((bE s.y i).2.length:Int))→Kp (ptr b) h3)→
   vK (bh 2 Y (af (i:Int))) λc4=>vK (aP 2 I c4) λcr=>aW #[ai,(.slice none 0 0)] 240 I λbg b8=>stK 2 bg cr b8 λer eb=>Kp bg eb:=by
  intro I i hi E Kp HK;obtain⟨p,cs,q1,q2,Rr⟩:=Rp.Sl.atw (e:=mg) (HY.ext E) (show 0<2 by omega) (k:=.i64) hi;rw[Tu hi]at Rr;obtain⟨u,rfl,Su⟩:=Rr;have q1:bh 2 Y (af (i:Int))=some p:=q1;have q2:aP 2 I p=some (.agg #[af (bE s.y i).1,u]):=q2;rw[q1,ak,q2,ak];obtain⟨au,cu,eu⟩:=Su.isSl;exact dh (cs:=[af (bE s.y i).1,u]) rfl (aq rfl (aq Su.one aX)) rfl λb h3 r3 e3 n3=>HK b h3 u r3 e3 n3 (by rw[eu];rfl)
 -- the most taps of a line
 have a8:∀k,k<s.y.lines.length→bH (s.y.lines.take (k+1))=max (bH (s.y.lines.take k)) ((bE s.y k).2.length:Int):=λk hk=>by
  rw[jU hk,Fb,Tu hk]
 have dz:=OK.most;have cb:=Re s.y.lines;have et:∀k,0≤bH (s.y.lines.take k)∧bH (s.y.lines.take k)≤bH s.y.lines:=λk=>⟨Re _,Fa cb λx hx=>(GR s.y.lines 0).2 x (CT hx)⟩
 refine bI (α:=Unit) s.y.lines.length 0 (λk _=>[af (bH (s.y.lines.take k)),af (k:Int)]) (λk _ h'=>Ext h1 h') () rfl (b9 _) (Ext.refl _) λk _ I again ρ1 _ hk E2 ar=>?_
 have ax:=e1.trans E2;simp only[go_sem];refine ao (λg1=>?_) (λg1=>?_)
 ·have ab:k<s.y.lines.length:=ae;refine rd ab ax λb3 h3 u r3 e3 n3 al=>?_
  have c1:aG h3 ⟨b3,1,none⟩=some u:=am r3;have bk:=a8 k ab;simp only[go_sem,aK,c1,al];refine ao (λg2=>?_) (λg2=>?_)
  ·try simp only[go_sem,aK,c1,al]
   rw[w64 ae ae];have:=ar () h3 ab (E2.trans e3);rw[bk,show max (bH (s.y.lines.take k)) ((bE s.y k).2.length:Int)=((bE s.y k).2.length:Int)by omega]at this;exact this
  ·rw[w64 ae ae];have:=ar () h3 ab (E2.trans e3);rw[bk,show max (bH (s.y.lines.take k)) ((bE s.y k).2.length:Int)=bH (s.y.lines.take k)by omega]at this;exact this
 have cw:k=s.y.lines.length:=ae;subst cw;rw[KD]
 clear ar
 obtain⟨most,c8⟩:∃n:Nat,bH s.y.lines=(n:Int):=⟨(bH s.y.lines).toNat,ae⟩
 rw[c8];obtain⟨d,hd⟩:∃d:fO,d=⟨m,s,t⟩:=⟨_,rfl⟩
 have a9:d.s=s:=by rw[hd]
 rw[←hd];obtain⟨H,hH⟩:∃H:Nat,t.h=(H:Int):=⟨t.h.toNat,ae⟩
 obtain⟨y0,bv⟩:∃y0:Nat,t.y=(y0:Int):=⟨t.y.toNat,ae⟩
 have c3:Rc d t.y (lnF s.y t.y)=lQ d H y0 (lnF s.y y0):=by
  unfold Rc;have:d.t=t:=by rw[hd]
  rw[this,bv,show((y0:Int)+t.h-(y0:Int)).toNat=H by omega]
 rw[c3,hH,bv];have ay:∀k y e,lnF s.y y≤e→(lQ d k y e).length≤k*1048577:=λk y e he=>by
  rw[MB];exact Hz (by rw[a9];exact WS.y) k y e (by rw[a9];exact he)
 have ei:=ay H y0 (lnF s.y y0) (fT _);have be:=OK.mono
 -- line by line
 refine bI (α:=Value×Value×List (Int×Int)×List Int×Int) H 0 (λk a=>[a.1,a.2.1,af (k:Int)])
  (λk a h'=>New Ax h h' a.1 a.2.2.1∧OwO .i64 h' a.2.1 a.2.2.2.1∧(∀b,blk a.2.1 b→I.size≤b)∧(∀b,blk a.1 b→I.size≤b∧¬blk a.2.1 b)∧Ext I h'∧(k<H→pY a.2.2.2.1 (lnF s.y (y0+k:Nat)) a.2.2.2.2 most∧lnF s.y (y0+k:Nat)≤a.2.2.2.2∧a.2.2.2.2≤lnE s.y (y0+k:Nat))∧
   a.2.2.1++lQ d (H-k) ((y0+k:Nat):Int) a.2.2.2.2=lQ d H y0 (lnF s.y y0))
  (.slice none 0 0,.slice none 0 0,[],[],lnF s.y y0) rfl (b9 _)
  ⟨New.nil ax,OwO.nil,λb A=>A.elim,λb A=>A.elim,Ext.refl _,λ_=>⟨pY.start _ _,fT _,by unfold lnE lnF;show(bE s.y ((y0+0:Nat):Int)).1≤_;omega⟩,rfl⟩ λk a h3 again ρ2 _ hk ⟨N3,O3,b3,a3,E3,H3,M3⟩ ar=>?_
 obtain⟨ov,U,out,held,e⟩:=a;have N3:New Ax h h3 ov out:=N3;have O3:OwO .i64 h3 U held:=O3;have b3:∀b,blk U b→I.size≤b:=b3;have a3:∀b,blk ov b→I.size≤b∧¬blk U b:=a3;have H3:k<H→pY held (lnF s.y (y0+k:Nat)) e most∧lnF s.y (y0+k:Nat)≤e∧e≤lnE s.y (y0+k:Nat):=H3;have M3:out++lQ d (H-k) ((y0+k:Nat):Int) e=lQ d H y0 (lnF s.y y0):=M3;simp only[go_sem];refine ao (λg1=>?_) (λg1=>?_)
 ·have ab:k<H:=ae;obtain⟨HL,ey,ej⟩:=H3 ab;have k1:aG h3 ⟨b1,1,none⟩=some Y:=am (E3.row (E2.row r1));simp only[go_sem,aK,k1];rw[w64 (n:=(y0:Int)+(k:Int)) ae ae,show(y0:Int)+(k:Int)=((y0+k:Nat):Int)by omega];refine rd ae (ax.trans E3) λb4 h4 u r4 e4 n4 al=>?_
  have c1:aG h4 ⟨b4,1,none⟩=some u:=am r4;simp only[go_sem,aK,c1,al];have hl:=qP WS.y ((y0+k:Nat):Int);have c9:=be.m ((y0+k:Nat):Int);have bo:k+1<H→lnF s.y ((y0+k:Nat):Int)≤lnF s.y ((y0+(k+1):Nat):Int)∧lnE s.y ((y0+k:Nat):Int)≤lnE s.y ((y0+(k+1):Nat):Int):=λh=>⟨be.f _ _ ae ae ae,be.e _ _ ae ae ae⟩
  have ci:lQ d (H-k) ((y0+k:Nat):Int) e=tG e (lnE s.y ((y0+k:Nat):Int))++(2,((y0+k:Nat):Int))::lQ d (H-(k+1)) ((y0+(k+1):Nat):Int) (max (lnE s.y ((y0+k:Nat):Int)) (lnF s.y ((y0+(k+1):Nat):Int))):=by
   rw[show H-k=(H-(k+1))+1 by omega];rw[lQ,a9,show((y0+k:Nat):Int)+1=((y0+(k+1):Nat):Int)by omega]
  rw[ci]at M3;have ec:(lQ d H y0 (lnF s.y y0)).length≤68719542272:=ae;generalize eh:((y0+k:Nat):Int)=W at*;have ct:lnE s.y W=lnF s.y W+((bE s.y W).2.length:Int):=rfl;have ek:(bE s.y W).1=lnF s.y W:=rfl;have ee: -70368744177664≤lnF s.y W∧lnF s.y W≤70368744177664:=hl.2;obtain⟨L,hL⟩:∃L:Nat,(bE s.y W).2.length=L:=⟨_,rfl⟩
  rw[hL]at ct al c9 hl;rw[hL];have ca:h4[b4]? =some (.cells #[af (lnF s.y W),u] 240 (0,0)):=r4;generalize lnF s.y W=F at*
  -- the rows that the line lacks
  refine bI (α:=Value×Value×List Int×Int) L 0 (λi a=>[a.1,a.2.1,af (i:Int)])
   (λi a h'=>New Ax h h' a.1 (out++tG e a.2.2.2)∧OwO .i64 h' a.2.1 a.2.2.1∧(∀b,blk a.2.1 b→I.size≤b∧b≠b4)∧(∀b,blk a.1 b→I.size≤b∧b≠b4∧¬blk a.2.1 b)∧Ext I h'∧h'[b4]? =some (.cells #[af F,u] 240 (0,0))∧b4<h'.size∧pY a.2.2.1 F a.2.2.2 most∧a.2.2.2=max e (F+i))
   (ov,U,held,e) rfl (b9 _)
   ⟨by show New Ax h h4 ov (out++tG e e);rw[UD (fT _),gM];exact N3.ext e4,nG.ext O3 e4,λb A=>⟨b3 b A,λhe=>by have:=nG.lt O3 A;omega⟩,λb A=>⟨(a3 b A).1,λhe=>by have:=N3.lt A;omega,(a3 b A).2⟩,E3.trans e4,ca,bC r4,HL,by show e=max e (F+((0:Nat):Int));omega⟩
   λi a h5 b0 ρ3 _ hi ⟨N5,O5,b5,a5,E5,r5,l5,H5,m5⟩ an=>?_
  obtain⟨bc,aa,D,G⟩:=a;have N5:New Ax h h5 bc (out++tG e G):=N5;have O5:OwO .i64 h5 aa D:=O5;have b5:∀b,blk aa b→I.size≤b∧b≠b4:=b5;have a5:∀b,blk bc b→I.size≤b∧b≠b4∧¬blk aa b:=a5;have H5:pY D F G most:=H5;have m5:G=max e (F+i):=m5;have b6:(out++tG e G).length+1≤68719542273:=by
   have:=congrArg List.length M3;rw[cz,cz,Is]at this;rw[cz,Is];omega
  simp only[go_sem];refine ao (λg2=>?_) (λg2=>?_)
  ·have bd:i<L:=ae;have c0:aG h5 ⟨b4,0,none⟩=some (af F):=am r5;simp only[go_sem,aK,c0];rw[w64 (n:=F+(i:Int)) ae ae];refine ag.at (zbu O5.sl (by have:=H5.len;omega)) ?_;refine ao (λg3=>?_) (λg3=>?_)
   ·have:=H5.lt _ g3;rw[w64 ae ae];refine an (bc,aa,D,G) h5 bd ⟨N5,O5,b5,a5,E5,r5,l5,H5,?_⟩;show G=max e (F+((i+1:Nat):Int));omega
   ·have b2:G=F+i:=by
     rcases mT (F+(i:Int)) G with h|h
     ·exact absurd (H5.inn _ ae h) g3
     ·omega
    rw[←b2];rw[show aM #[ai,ai] [(0,1,aH),(1,1,af G)]=some #[aH,af G]from zF rfl rfl,bG,ak];have ep:G<lnE s.y W:=ae;refine New.push2 (a:=1) (b:=G) N5 rfl rfl ae ae λad h6 N6 f6 n6=>?_
    have O6:OwO .i64 h6 aa D:=nG.fr O5 f6 λb A U=>(a5 b U).2.2 A
    have r6:=f6.row r5 λU=>(a5 _ U).2.1 rfl
    have ew:=f6.1;have v6:∀b,blk ad b→I.size≤b∧b≠b4∧¬blk aa b:=λb A=>by
     rcases n6 b A with h|h
     ·exact a5 b h
     ·have hs:=E5.1;exact⟨ae,ae,λU=>by have:=nG.lt O5 U;omega⟩
    have E6:Ext I h6:=E5.then_fr f6 λb A=>(a5 b A).1
    refine OwO.push (x:=G) O6 rfl (by have:=H5.len;omega) (by have:=H5.len;omega) λaw h7 O7 f7 n7=>?_
    have N7:New Ax h h7 ad (out++tG e (G+1)):=by
     rw[UC ae,←cg];exact N6.fr f7 (λb A=>aZ ax.1 (b5 b A).1) λb A U=>(v6 b A).2.2 U
    have r7:=f7.row r6 λU=>(b5 _ U).2 rfl
    have E7:Ext I h7:=E6.then_fr f7 λb A=>(b5 b A).1
    have l7:=bC r7;have b7:∀b,blk aw b→I.size≤b∧b≠b4:=λb A=>by
     rcases n7 b A with h|h
     ·exact b5 b h
     ·have hs:=E6.1;have:=bC r6;exact⟨ae,ae⟩
    have v7:∀b,blk ad b→I.size≤b∧b≠b4∧¬blk aw b:=λb A=>by
     refine⟨(v6 b A).1,(v6 b A).2.1,λU=>?_⟩;rcases n7 b U with h|h
     ·exact(v6 b A).2.2 h
     ·have:=N6.lt A;omega
    obtain⟨a7,c7,e7⟩:=O7.sl.isSl;have dq:aD aw=some (af ((D.length+1:Nat):Int)):=by rw[e7,cz];rfl
    simp only[go_sem,dq];rcases H5.next (E:=lnE s.y W) ae ae ae with⟨q1,q2⟩|⟨x,tl,q1,q2,q3,q4⟩
    ·rw[cG ae];simp only[go_sem];rw[w64 ae ae];refine an (ad,aw,D++[G],G+1) h7 bd ⟨N7,O7,b7,v7,E7,r7,l7,q2,?_⟩;show G+1=max e (F+((i+1:Nat):Int));omega
    ·rw[da ae];simp only[go_sem];rw[q1]at O7;obtain⟨c6,s8,O8,n8⟩:=O7.tail (k':=.i64) q3;rw[s8,ak,w64 ae ae];refine an (ad,c6,tl,G+1) h7 bd ⟨N7,O8,λb A=>b7 b (n8 b A),λb A=>⟨(v7 b A).1,(v7 b A).2.1,λU=>(v7 b A).2.2 (n8 b U)⟩,E7,r7,l7,q4,?_⟩;show G+1=max e (F+((i+1:Nat):Int));omega
  ·have cp:i=L:=ae;subst cp;have c2:G=lnE s.y W:=ae;rw[show aM #[ai,ai] [(0,1,(af 2)),(1,1,af W)]=some #[af 2,af W]from zF rfl rfl,bG,ak];refine New.push2 (a:=2) (b:=W) N5 rfl rfl ae ae λad h6 N6 f6 n6=>?_
   try simp only[go_sem]
   rw[w64 ae ae];have E6:Ext I h6:=E5.then_fr f6 λb A=>(a5 b A).1
   refine ar (ad,aa,out++tG e G++[(2,W)],D,max G (lnF s.y ((y0+(k+1):Nat):Int))) h6 ab ⟨N6,nG.fr O5 f6 λb A U=>(a5 b U).2.2 A,λb A=>(b5 b A).1,λb A=>?_,E6,λdl=>?_,?_⟩
   ·rcases n6 b A with h|h
    ·exact⟨(a5 b h).1,(a5 b h).2.2⟩
    ·have hs:=E5.1;exact⟨ae,λU=>by have:=nG.lt O5 U;omega⟩
   ·obtain⟨g5,g6⟩:=bo dl;refine⟨H5.move g5,by show _≤max G _;omega,?_⟩;show max G _≤_;have:lnF s.y ((y0+(k+1):Nat):Int)≤lnE s.y ((y0+(k+1):Nat):Int):=by unfold lnE lnF;omega
    omega
   ·show(out++tG e G++[(2,W)])++lQ d (H-(k+1)) ((y0+(k+1):Nat):Int) (max G (lnF s.y ((y0+(k+1):Nat):Int)))=_;rw[c2];rw[←M3];simp
 ·have cc:k=H:=ae;subst cc;rw[Rj]at M3;have M3:out++[]=lQ d k y0 (lnF s.y y0):=M3;rw[gM]at M3;rw[←M3];exact N3
theorem V2 (a b c d:Int):aj (.st [(0,1,.i),(1,1,.i)]) .eql (BP a b) (BP c d)=some (.bool (decide (a=c∧b=d))):=by
 have D:(a==c)=decide (a=c):=rfl;have F:(b==d)=decide (b=d):=rfl;simp only[aj,eqV,Gl,Lw,Lz,xB,y6,C5,BQ,cJ,D,F];by_cases h:a=c<;>by_cases A:b=d<;>simp[h,A]
theorem zaX (a b c d:Int):aj (.st [(0,1,.i),(1,1,.i)]) .neq (BP a b) (BP c d)=some (.bool (!decide (a=c∧b=d))):=by
 have D:(a==c)=decide (a=c):=rfl;have F:(b==d)=decide (b=d):=rfl;simp only[aj,eqV,Gl,Lw,Lz,xB,y6,C5,BQ,cJ,D,F];by_cases h:a=c<;>by_cases A:b=d<;>simp[h,A]
structure Az (Z:Nat→Prop)(h:ah)(bf:Nat)(vf:Value)(bt:Nat)(vt p q:Value)(m n:Pic)(s:Stg):Prop where
 src:dd h bf vf m
 out:dd h bt vt n
 ne:bf≠bt
 tx:fJ Z h p s.x
 ty:fJ Z h q s.y
 zf:Z bf∧∀c,blk vf c→Z c
 zz:∀c,Z c→¬blk vt c
 zb:∀c,Z c→c≠bt
 zl:∀c,Z c→c<h.size
theorem Az.ext {Z:Nat→Prop}{h h':ah}{bf:Nat}{vf:Value}{bt:Nat}{vt p q:Value}{m n:Pic}{s:Stg}(S:Az Z h bf vf bt vt p q m n s)(e:Ext h h'):Az Z h' bf vf bt vt p q m n s:=
 ⟨S.src.ext e,S.out.ext e,S.ne,S.tx.ext e,S.ty.ext e,S.zf,S.zz,S.zb,λc hc=>bX (S.zl c hc) e.1⟩
theorem Az.chg {Z Q:Nat→Prop}{h h':ah}{bf:Nat}{vf:Value}{bt:Nat}{vt p q:Value}{m n n':Pic}{s:Stg}(S:Az Z h bf vf bt vt p q m n s)(f:Fr Q h h')(A:∀c,Z c→¬Q c)(I:dd h' bt vt n'):Az Z h' bf vf bt vt p q m n' s:=
 ⟨S.src.fr f (A _ S.zf.1) λc hc=>A _ (S.zf.2 c hc),I,S.ne,S.tx.fr f λc _ D=>A c D,S.ty.fr f λc _ D=>A c D,S.zf,S.zz,S.zb,λc hc=>bX (S.zl c hc) f.1⟩
theorem Az.mk3 {h0 h1 A:ah}{bf:Nat}{vf:Value}{D p q:Value}{m n:Pic}{s:Stg}(I:dd h1 bf vf m)(nb:h0.size≤bf)(nv:∀c,blk vf c→h0.size≤c)(tx:fJ (fQ h0 h1) h1 p s.x)(ty:fJ (fQ h0 h1) h1 q s.y)(N:sQ h1 A D n):
  ∃bt vt,D=ptr bt∧Az (fQ h0 h1) A bf vf bt vt p q m n s∧h1.size≤bt∧(∀c,blk vt c→h1.size≤c)∧Ext h1 A:=by
 obtain⟨bt,vt,rfl,O,G,mv,E⟩:=N;have l:=I.lt;exact⟨bt,vt,rfl,⟨I.ext E,O,ae,tx.ext E,ty.ext E,⟨⟨nb,l⟩,λc hc=>⟨nv c hc,I.ltv hc⟩⟩,λc hc F=>by have:=hc.2;have:=mv c F;omega,λc hc H=>by have:=hc.2;omega,λc hc=>bX hc.2 E.1⟩,G,mv,E⟩
theorem WW {Z:Nat→Prop}{h:ah}(G:eF h){bf:Nat}{vf:Value}{bt:Nat}{vt p q:Value}{m n:Pic}{s:Stg}{t:cZ}(S:Az Z h bf vf bt vt p q m n s)(W:m.Wf)(D:n.Wf)(A:s.Wf):
  ag prog oN #[ptr bf,ptr bt,.agg #[p,q,af s.border],.agg (dC t).toArray] h (VH Z h bf vf bt vt p q m n s t):=
 zcQ G S.src S.out S.ne W D S.tx S.ty A S.zf S.zz S.zl
def kg:Pic:=uq 3 1 1 255
def nZ:OpD:=⟨1,0,0,1,[],[],0,0,0⟩
def fM:cZ:=⟨0,0,0,3,1,0,0,0,0,0⟩
theorem Vv {h:ah}(G:eF h):ag prog xM #[] h λr h'=>r=.bool true∧Ext h h':=by
 apply Mj;unfold Bb;have a0:BT 3 1 1 255=0:=by decide+kernel
 refine yA.mono λr h1 ⟨pp,e,e1,_,s1⟩=>?_
 subst e;obtain⟨bm,vm,rfl,I,a7,bd,_⟩:=s1 a0;have I:dd h1 bm vm kg:=I;have W:kg.Wf:=C7 a0;rw[a0];simp only[go_sem];have hf:(aM #[ai,ai,ai,ai,(.slice none 0 0),(.slice none 0 0),ai,ai,ai] [(0,1,aH),(3,1,aH)])=some #[aH,ai,ai,aH,.slice none 0 0,.slice none 0 0,ai,ai,ai]:=rfl;rw[hf,bG,ak];have wf:nZ.Wf:=Bw (by simp[I64]);refine(Jc (Z:=λ_=>True) (o:=nZ) (G.ext e1) Bx wf (by simp[nZ]) (by simp[nZ]) (by unfold I64;omega) (by unfold I64;omega)).mono λw h2 ⟨sv,e,e2,_,s2⟩=>?_
 subst e;have a1:eZ nZ 3 1=0:=by decide+kernel
 have HS:=s2 a1;rw[a1];obtain⟨p,q,rfl,hp,hq,au⟩:=jk HS;simp only[go_sem];refine dh (cs:=[p,q,af _]) rfl au rfl λb3 h3 r3 e3 n3=>?_
 refine yA.mono λr h4 ⟨pp,e,e4,_,s4⟩=>?_
 subst e;have N4:=s4 a0;rw[a0];have ab:=e2.trans e3;have up:∀c,c<h2.size→fQ h1 h2 c→fQ h h3 c:=λc hc hz=>⟨aZ e1.1 hz.1,bX hz.2 e3.1⟩
 obtain⟨bn,vn,rfl,S,bk,a9,_⟩:=Az.mk3 (h0:=h) (I.ext ab) a7 bd ((hp.mono up).ext e3) ((hq.mono up).ext e3) N4;simp only[go_sem];have E4:=e1.trans (ab.trans e4);refine ag.to (Vx (G.ext E4)) λh5 e5=>?_
 simp only[go_sem];refine ag.to (Vw (G.ext (E4.trans e5))) λh6 e6=>?_
 have E6:=E4.trans (e5.trans e6);simp only[go_sem,eqT];rw[aU (l:=[p,q,af _]) ((e4.trans (e5.trans e6)).row r3) 3 rfl,ak];have bc:aM #[ai,ai,ai,ai] [(2,1,(af 3)),(3,1,aH)]=some #[ai,ai,af 3,aH]:=rfl;have al:aM #[ai,ai,ai,ai,ai,ai,ai,ai,ai,ai] [(1,4,.agg #[ai,ai,af 3,aH])]=some (dC fM).toArray:=rfl;rw[bc,bG,ak,al,bG,ak];have hN:(uq 3 1 1 255).Wf:=C7 a0;have H:nH kg (uq 3 1 1 255) (ch nZ 3 1) fM=0:=by decide+kernel
 refine(WW (G.ext E6) (S.ext (e5.trans e6)) W hN (yu a1).1).mono λr h7 ⟨e7,v,L,_,s7⟩=>?_
 subst L;obtain⟨bj,rv,rfl,J⟩:=s7 H;rw[H];simp only[go_sem,eqT,UN];have OK:Cj (ch nZ 3 1):=MH a1 ae (by decide+kernel);have R:=OK.room (m:=kg) (n:=uq 3 1 1 255) (t:=fM) W H;have WJ:=MU (t:=fM) W OK.wf H
 -- the steps, one behind the other
 have f1:cn ⟨kg,ch nZ 3 1,fM⟩ 0 (-1)=1∧iq ⟨kg,ch nZ 3 1,fM⟩ 0 (-1)= -1∧gj ⟨kg,ch nZ 3 1,fM⟩ 0 (-1)=0∧ir ⟨kg,ch nZ 3 1,fM⟩ 0 (-1)=0:=by decide+kernel
 have f2:cn ⟨kg,ch nZ 3 1,fM⟩ 0 0=1∧iq ⟨kg,ch nZ 3 1,fM⟩ 0 0=0∧gj ⟨kg,ch nZ 3 1,fM⟩ 0 0=0∧ir ⟨kg,ch nZ 3 1,fM⟩ 0 0=1:=by decide+kernel
 have f3:cn ⟨kg,ch nZ 3 1,fM⟩ 0 1=1∧iq ⟨kg,ch nZ 3 1,fM⟩ 0 1=1∧gj ⟨kg,ch nZ 3 1,fM⟩ 0 1=0∧ir ⟨kg,ch nZ 3 1,fM⟩ 0 1=2:=by decide+kernel
 have f4:cn ⟨kg,ch nZ 3 1,fM⟩ 0 2=2∧iq ⟨kg,ch nZ 3 1,fM⟩ 0 2=0∧gj ⟨kg,ch nZ 3 1,fM⟩ 0 2=1:=by decide+kernel
 have f5:∀e,cn ⟨kg,ch nZ 3 1,fM⟩ 1 e=0∧iq ⟨kg,ch nZ 3 1,fM⟩ 1 e=0:=λe=>by
  have:fM.y+fM.h≤1:=by decide
  unfold cn iq;exact⟨aA this,aA this⟩
 have hF:lnF (ch nZ 3 1).y fM.y= -1:=by decide+kernel
 rw[hF]at J;have J:kK (fQ h h3) (qE (λ_=>False) h6 h7) h7 bj bm vm bn vn p q rv ⟨kg,ch nZ 3 1,fM⟩ 0 (-1) (uq 3 1 1 255) (iG (bH (ch nZ 3 1).y.lines)) (fB (fM.w*kg.c)):=J;generalize hD:(⟨kg,ch nZ 3 1,fM⟩:fO)=D at*;generalize iG (bH (ch nZ 3 1).y.lines)=room at*;generalize fB (fM.w*kg.c)=w at*;have hB:∀c,qE (λ_=>False) h6 h7 c→h.size≤c:=λc hc=>by
  rcases hc with hc|hc
  ·exact hc.elim
  ·have:=E6.1;omega
 have a8:∀c,blk vn c→h.size≤c:=λc hc=>by have:=a9 c hc;have:=e1.1;have:=ab.1;omega
 -- from step to step all that was is as it was
 have aa:∀{h' A:ah} {B:Nat→Prop},Ext h h'→(∀c,B c→h.size≤c)→Fr (λc=>blk vn c∨B c) h' A→Ext h A:=λE hB f=>E.then_fr f λc hc=>by
  rcases hc with hc|hc
  ·exact a8 c hc
  ·exact hB c hc
 have ad:∀{h' A:ah} {B:Nat→Prop},Ext h h'→(∀c,B c→h.size≤c)→∀c,qE B h' A c→h.size≤c:=λE hB c hc=>by
  rcases hc with hc|hc
  ·exact hB c hc
  ·have:=E.1;omega
 have ay:∀a b:Int,aM #[ai,ai] [(0,1,(af a)),(1,1,af b)]=some #[af a,af b]:=λ_ _=>rfl
 have an:∀a:Int,aM #[ai,ai] [(0,1,(af a))]=some #[af a,ai]:=λ_=>rfl
 have E7:=E6.trans e7;refine dx (λk xs h'=>∃e B n',xs=[af e]∧(k:Int)=2-e∧ -1≤e∧Ext h h'∧(∀c,B c→h.size≤c)∧kK (fQ h h3) B h' bj bm vm bn vn p q rv D 0 e n' room w) 3
  ⟨-1,_,_,rfl,ae,ae,E7,hB,J⟩ λk xs ρ1 h8 again ⟨e,B,n',ex,hk,he,E8,F,J8⟩ be=>?_
 subst ex;simp only[go_sem];refine ao (λg1=>?_) (λg1=>?_)
 ·refine(Sd J8 WJ R).mono λr h9 ⟨L,n9,J9,U,_⟩=>?_
  subst L;have hs:cn D 0 e=1∧iq D 0 e=e∧gj D 0 e=0∧ir D 0 e=e+1:=by
   have:e= -1∨e=0∨e=1:=ae;rcases this with rfl|rfl|rfl
   ·exact f1
   ·exact f2
   ·exact f3
  rw[hs.1,hs.2.1]at*;rw[hs.2.2.1,hs.2.2.2]at J9;rw[ay,bG,ak,zaX];simp only[go_sem,eqT,y9];rw[w64 ae ae];exact be _ _ (k-1) ae ⟨e+1,_,n9,rfl,ae,ae,aa E8 F U,ad E8 F,J9⟩
 ·have ax:e=2:=ae;subst ax;refine(Sd J8 WJ R).mono λr h9 ⟨L,n9,J9,U,_⟩=>?_
  subst L;rw[f4.2.2]at J9;rw[f4.1,f4.2.1,an,bG,ak,V2];simp only[go_sem,eqT,y9];refine(Sd J9 WJ R).mono λr bg ⟨L,n10,bo,ar,_⟩=>?_
  subst L;rw[(f5 _).1,(f5 _).2];have aw:aM #[ai,ai] []=some #[ai,ai]:=rfl;simp only[go_sem,aw,bG,V2,eqT,y9];exact⟨by simp,aa (aa E8 F U) (ad E8 F) ar⟩
end Go.Proofs.YtjljhnandbbldaaGreatDoor
namespace Go.Proofs.YtjljhnandbbldaaGreatDoor
open Go Go.Crisp
attribute [local irreducible] ag di aW stK aF vK qK bK gK fo bA mkK dk Fm GM CJ bsK clK tW oA V0
section
def B8 (n:Int):Prop:=0≤n∧n≤255
def bgS (a:si)(o:OpD):Stg:=ch o (eB a).w (eB a).h
def bgN (a:si)(o:OpD):Pic:=uq (bgS a o).x.lines.length (bgS a o).y.lines.length (eB a).c (eB a).most
structure Ky (a:si)(o:OpD):Prop where
 little:¬my 12 o
 made:eZ o (eB a).w (eB a).h=0
 fit:jA (bgS a o).x.lines.length (bgS a o).y.lines.length (eB a).c
 sx:1≤(bgS a o).x.lines.length∧(bgS a o).x.lines.length≤12
 sy:1≤(bgS a o).y.lines.length∧(bgS a o).y.lines.length≤12
theorem bg_ok {a:si}{o:OpD}(L:nr 12 [o])(hc:AB [o] (eB a).w (eB a).h (eB a).c=0):Ky a o:=by
 have h1:¬my 12 o:=L o (by simp);have W:=xb a;unfold AB at hc;rw[az (by simp)]at hc;have I:jA (eB a).w (eB a).h (eB a).c:=(vG a).fits;rw[az (by simpa using I)]at hc;unfold Fx at hc;by_cases F:eZ o (eB a).w (eB a).h=0
 ·rw [az (by simpa using F)]at hc;have A:=IM F;by_cases D:jA (pI o (eB a).w) (te o (eB a).h) (eB a).c
  ·have H:=du D;have⟨b1,U⟩:pI o (eB a).w≤12∧te o (eB a).h≤12:=by
    unfold pI te at H ⊢;unfold my at h1;split<;>rename_i G
    ·rw[aA G,aA G]at H;omega
    ·omega
   refine⟨h1,F,?_,?_,?_⟩
   ·unfold bgS;rw[A.1,A.2];exact D
   ·unfold bgS;omega
   ·unfold bgS;omega
  ·rw[aA D]at hc;cases hc
 ·rw[aA F]at hc;exact absurd hc F
section
variable {a:si}{o:OpD}
theorem Ky.stg (H:Ky a o):Cj (bgS a o):=MH H.made (by have:=xb a;omega) (by have:=(IM H.made).1;have:=H.sx;unfold bgS at this;omega)
theorem Ky.suits (H:Ky a o):lB (eB a) (bgN a o) (bgS a o):=⟨JF H.made,rfl,rfl,rfl,rfl⟩
theorem Ky.imgc (H:Ky a o):BT (bgS a o).x.lines.length (bgS a o).y.lines.length (eB a).c (eB a).most=0:=yz.2 ⟨H.fit,(vG a).m1,(vG a).m2⟩
end
end
section
structure zdf (h:ah)(cs os:List Value)(a:si)(o:OpD):Prop where
 pic:∃Z,nT.R Z h cs a
 wa:a.Wf
 op:∃Z,rOp.R Z h os o
 wo:Eo [o]
theorem To {ls:List (Int×List Int)}{x:Int×List Int}(A:x∈ls)(h1:1≤x.2.length):1≤bH ls:=by
 have:=(GR ls 0).2 x A;unfold bH;omega
theorem Tr {o:OpD}{w h:Int}(hc:eZ o w h=0)(hy:1≤(ch o w h).y.lines.length):1≤bH (ch o w h).y.lines:=by
 have A:iE o w h=0:=by
  unfold eZ at hc;split at hc
  ·cases hc
  ·exact hc
 have hy:1≤(fj o h).lines.length:=hy;show 1≤bH (fj o h).lines;unfold iE at A;by_cases I:o.kind=3
 ·rw[aA I]at A;have e:fj o h=fF o.filter h o.hh:=by unfold fj;rw[aA I]
  by_cases h1:dy o.filter w o.w=0
  ·rw[az (by simpa using h1)]at A;have G:¬(¬(0≤o.filter∧o.filter<3)∨¬bu h∨¬bu o.hh):=λhh=>by unfold dy at A;rw[aA hh]at A;cases A
   have W:=A;unfold dy at W;rw[az G]at W;have F:0≤o.filter∧o.filter<3:=cf λh=>G (.inl h)
   have U:bu h:=cf λh=>G (.inr (.inl h))
   have L:bu o.hh:=cf λh=>G (.inr (.inr h))
   unfold bu at U L;have h2:=qS W 0 ae;have H:vw o.filter h o.hh (0:Nat):=⟨F.1,F.2,U.1,U.2,L.1,L.2,ae,ae⟩
   have D:(eW o.filter h o.hh (0:Nat),cj (c5 o.filter h o.hh (0:Nat)))∈(fF o.filter h o.hh).lines:=gO.2 ⟨0,sO.2 ae,rfl⟩;rw[e];refine To D ?_;show 1≤(cj (c5 o.filter h o.hh (0:Nat))).length;rw[vL h2];unfold c5;rw[aA H];unfold Dh;rw[cQ,eN];have:=Lk H;omega
  ·rw[aA h1]at A;exact absurd A h1
 ·rw[az I]at A;have e:fj o h=jX (cK o) h:=by unfold fj;rw[az I]
  have F:iJ (cK o) h=0:=by
   split at A
   ·exact absurd A (by assumption)
   ·split at A
    ·exact absurd A (by assumption)
    ·exact A
  unfold iJ at F;split at F
  ·cases F
  ·split at F
   ·cases F
   ·rename_i h1 h2;have h3:bu h:=cf h1;unfold bu at h3;have D:(((0:Nat):Int)-((cK o).length/2:Nat),cj (cK o))∈(jX (cK o) h).lines:=gO.2 ⟨0,sO.2 ae,rfl⟩;rw[e];refine To D ?_;show 1≤(cj (cK o)).length;rw[vL F];omega
theorem Ky.most1 {a:si}{o:OpD}(H:Ky a o):1≤bH (bgS a o).y.lines:=Tr H.made H.sy.1
structure Xh (hL:ah)(B0 Q:Nat→Prop)(Z:Nat→Prop)(h:ah)(bj bf:Nat)(vf:Value)(bt:Nat)(vt p q rv:Value)(d:fO)(y e:Int)(n:Pic)(room w:Nat):Prop where
 st:∃B,kK Z B h bj bf vf bt vt p q rv d y e n room w∧∀c,c<hL.size→B c→B0 c
 fr:Fr (λc=>(blk vt c∨B0 c)∨Q c) hL h
def GoFr (vt:Value)(B Q:Nat→Prop)(h h':ah):Prop:=Fr (λc=>(blk vt c∨B c)∨Q c) h h'
theorem GoFr.row {vt:Value}{B Q:Nat→Prop}{h h':ah}(e:GoFr vt B Q h h'){b:Nat}{o:Obj}(r:h[b]? =some o)(A:¬((blk vt b∨B b)∨Q b)):h'[b]? =some o:=Go.Crisp.Fr.row e r A
section
variable {hL:ah}{B0 Q:Nat→Prop}{Z:Nat→Prop}{h:ah}{bj bf:Nat}{vf:Value}{bt:Nat}{vt p q rv:Value}{d:fO}{y e:Int}{n:Pic}{room w:Nat}
theorem Xh.row {b:Nat}{ob:Obj}(J:Xh hL B0 Q Z h bj bf vf bt vt p q rv d y e n room w)(r:hL[b]? =some ob)(A:¬blk vt b)(D:¬B0 b)(F:¬Q b):h[b]? =some ob:=J.fr.row r λhh=>hh.elim (λhh=>hh.elim A D) F
theorem Xh.out (J:Xh hL B0 Q Z h bj bf vf bt vt p q rv d y e n room w):Ih d n∧dd h bt vt n∧dd h bf vf d.m:=by
 obtain⟨⟨B,S,A⟩,f⟩:=J;exact⟨S.out,S.img,S.src⟩
end
theorem VH.go {Z:Nat→Prop}{h:ah}{bf:Nat}{vf:Value}{bt:Nat}{vt p q:Value}{m n:Pic}{s:Stg}{t:cZ}{r:Value}{h':ah}(H:VH Z h bf vf bt vt p q m n s t r h')(hc:nH m n s t=0):
  ∃bj rv,r=.tuple #[ptr bj,ai]∧Ext h h'∧kK Z (qE (λ_=>False) h h') h' bj bf vf bt vt p q rv ⟨m,s,t⟩ t.y (lnF s.y t.y) n (iG (bH s.y.lines)) (fB (t.w*m.c)):=by
 obtain⟨e,v,A,_,H⟩:=H;obtain⟨bj,rv,rfl,J⟩:=H hc;exact⟨bj,rv,by rw[A,hc],e,J⟩
end
end Go.Proofs.YtjljhnandbbldaaGreatDoor
namespace Go.Proofs.YtjljhnandbbldaaGreatDoor
open Go Go.Crisp
theorem Yr {h:ah}{ts:List TS}{args:Array Value}(R:vW (.st Xn:: .st tOp::ts) h args.toList):∃cs os a o r,args.toList=.agg (List.toArray cs):: .agg (List.toArray os)::r∧zdf h cs os a o∧vW ts h r:=by
 obtain⟨v,r,H,⟨x,c,rfl,D⟩,u,I,F,⟨y,d,rfl,A⟩,h0⟩:=R;have D:Rd Xn h c.toList x:=D;have A:Rd tOp h d.toList y:=A;obtain⟨h1,G⟩:=zco D;refine⟨c.toList,d.toList,VY x,S9 y,I,by rw[H,F,C1,C1],⟨⟨_,h1⟩,G,⟨_,(zb4 A).1⟩,zaS A⟩,h0⟩
theorem VP {h:ah}{ts:List TS}{l:List Value}(R:vW (.int .u8::ts) h l):∃n r,l=.int .u8 n::r∧B8 n∧vW ts h r:=by
 obtain⟨v,r,F,⟨x,D,A⟩,h0⟩:=R;obtain rfl:v=.int .u8 x:=by simpa using D
 exact⟨x,r,F,zb2 A,h0⟩
end Go.Proofs.YtjljhnandbbldaaGreatDoor
namespace Go.Proofs.YtjljhnandbbldaaGreatDoor
open Go Go.Crisp
open _root_.Go.Proofs.Tryz
def LM:Go.Shelf.Ren:=⟨λn=>match n with|23=>177|n=>n,λn=>match n with|0=>0|3=>3|4=>4|22=>41|n=>n,λn=>n⟩
theorem U5:Go.Proofs.Lays2.n23 prog LM where
 mixed:=by kernel_rfl
 f23:=by kernel_rfl
 t0:=by kernel_rfl
 a0:=λw=>co (by kernel_rfl)
 z0:=λw=>bD (by kernel_rfl)
 v0:=λw=>bi (by kernel_rfl)
 t3:=by kernel_rfl
 a3:=λw=>co (by kernel_rfl)
 z3:=λw=>bD (by kernel_rfl)
 v3:=λw=>bi (by kernel_rfl)
 t4:=by kernel_rfl
 a4:=λw=>co (by kernel_rfl)
 z4:=λw=>bD (by kernel_rfl)
 v4:=λw=>bi (by kernel_rfl)
 t22:=by kernel_rfl
 a22:=λw=>co (by kernel_rfl)
 z22:=λw=>bD (by kernel_rfl)
 v22:=λw=>bi (by kernel_rfl)
 i3:=by kernel_rfl
end Go.Proofs.YtjljhnandbbldaaGreatDoor
namespace Go.Proofs.YtjljhnandbbldaaGreatDoor
open Go Go.Crisp
attribute [local irreducible] ag di aW stK aF vK qK bK gK fo bA mkK dk Fm GM CJ bsK clK tW oA V0
structure eE (n n':Pic):Prop where
 w:n'.w=n.w
 h:n'.h=n.h
 c:n'.c=n.c
 m:n'.most=n.most
theorem eE.refl (n:Pic):eE n n:=⟨rfl,rfl,rfl,rfl⟩
theorem eE.newC {m n n':Pic}{s:Stg}{t:cZ}(D:eE n n')(h:nH m n s t=0):nH m n' s t=0:=by
 obtain⟨h1,A⟩:=qa.1 h;exact qa.2 ⟨⟨h1.1,by rw[D.w];exact h1.2.1,by rw[D.h];exact h1.2.2.1,by rw[D.c];exact h1.2.2.2.1,by rw[D.m];exact h1.2.2.2.2⟩,A⟩
theorem eE.inP {n n':Pic}(D:eE n n'){x y c:Int}:Go.Proofs.YtjljhnandbbldaaGreatDoor.inP n' x y c↔Go.Proofs.YtjljhnandbbldaaGreatDoor.inP n x y c:=by
 unfold Go.Proofs.YtjljhnandbbldaaGreatDoor.inP;rw[D.w,D.h,D.c]
theorem YV {n n':Pic}(W:n.Wf)(l2:(n'.l.length:Int)=n'.w*n'.h*n'.c)(D:eE n n')(H:∀x y c,inP n x y c→atP n x y c=atP n' x y c):n.l=n'.l:=by
 have hf:=du W.fits;have l1:=W.len;rw[D.w,D.h,D.c]at l2;refine Rf ae λi h1 U=>?_
 have L:0<n.c:=ae;have I:0<n.w:=ae;have e1:=vy (i:Int) n.c;have e2:=vy ((i:Int)/n.c) n.w;have m1:=kz (i:Int) (show n.c≠0 by omega);have m2:=iB (i:Int) L;have m3:=kz ((i:Int)/n.c) (show n.w≠0 by omega);have m4:=iB ((i:Int)/n.c) I;have q0:0≤(i:Int)/n.c:=zc ae ae;have q1:0≤(i:Int)/n.c/n.w:=zc q0 ae;have q2:(i:Int)/n.c<n.w*n.h:=by
  rw[wY L];omega
 have q3:(i:Int)/n.c/n.w<n.h:=by
  rw[wY I,fU];exact q2
 have A:inP n ((i:Int)/n.c%n.w) ((i:Int)/n.c/n.w) ((i:Int)%n.c):=⟨m3,m4,q1,q3,m1,m2⟩
 have F:pD n ((i:Int)/n.c%n.w) ((i:Int)/n.c/n.w) ((i:Int)%n.c)=(i:Int):=by
  unfold pD;rw[fU ((i:Int)/n.c/n.w),e2,fU ((i:Int)/n.c),e1]
 have G:pD n' ((i:Int)/n.c%n.w) ((i:Int)/n.c/n.w) ((i:Int)%n.c)=(i:Int):=by
  unfold pD at F ⊢;rw[D.w,D.c];exact F
 have:=H _ _ _ A;unfold atP at this;rw[aA A,aA (D.inP.2 A),F,G,eo]at this;simpa[dS,h1,U]using this
end Go.Proofs.YtjljhnandbbldaaGreatDoor
namespace Go.Crisp
open Go
def Qe (v:Value):Prop:=∀a n c,v=.slice a n c→c≤9223372036854775807
theorem zan {z:Value}{e:TypeId}{w bytes:Nat}{s x:Value}{h:ah}{K L:Value→ah→Prop}(H:dk z e w bytes s x h K)(U:Qe s)(m:∀I h',K I h'→Qe I→L I h'):dk z e w bytes s x h L:=by
 unfold dk at H ⊢;split at H
 ·rename_i D A G n _;split at H
  ·rename_i h0;rw[aA h0]
   revert H
   cases wj w h n x with
   |none=>exact λH=>H
   | some F=>
    cases D with
    |none=>exact λH=>m _ _ H λa n c e=>by cases e;exact U _ _ _ rfl
    |some a=>
     dsimp only;cases ke h (a.add (A*w)) 0 F with
     |none=>exact λH=>H
     |some h'=>exact λH=>m _ _ H λa n c e=>by cases e;exact U _ _ _ rfl
  ·rename_i h0;rw[az h0];refine⟨H.1,H.2.1,?_⟩;have H:=H.2.2
   revert H
   cases wj w h A (.slice D A G)<;>cases wj w h n x
   ·exact λH=>H
   ·exact λH=>H
   ·exact λH=>H
   ·exact λH c h1 W=>m _ _ (H c h1 W) λa n c' e=>by cases e;omega
 ·exact H
theorem SlC.isSl_one {w:Nat}{h:ah}{v:Value}{n:Nat}{cs:List Value}(H:SlC w h v n cs):aR v=true:=by obtain⟨a,c,e⟩:=H.isSl;rw[e];rfl
def Rp.SlCap (v:Value):Prop:=∃a n c,v=.slice a n c∧n≤c
theorem XX:Qe (.slice none 0 0):=λa n c e=>by cases e;omega
end Go.Crisp
namespace Go.Proofs.YtjljhnandbbldaaGreatDoor
open Go Go.Crisp
attribute [local irreducible] ag di aW stK aF vK qK bK gK fo bA mkK Fm GM CJ bsK clK tW oA V0
open _root_.Go.Proofs.Tryz
section
theorem Qu {α:Type}[Inhabited α](enc:α→Value)(off:Nat)(d:Array α)(c:Array Value)(i:Nat):(Go.Sort.putCells enc off d c)[i]? =c[i]?.map λx=>if off≤i∧i<off+d.size then enc d[i-off]! else x:=by
 unfold Go.Sort.putCells;rw[Array.getElem?_mapIdx]
theorem zaf {h:ah}{v:Value}{x:Int}{l:List Int}(H:Own 1 h v (l.length+1) ((x::l).map λn=>af n))(hc:Qe v):
  ag prog kZ #[v,ai,aH] h λr h'=>Own 1 h' r l.length (l.map λn=>af n)∧Qe r∧Fr (blk v) h h'∧(∀b,blk r b→blk v b):=by
 refine ag.ofCalls (by kernel_rfl) λw hh=>?_
 subst hh;rcases H with⟨_,h0,_⟩|⟨b,cap,r,e,rfl,U,hl,hr,A⟩
 ·cases h0
 have L:=hc _ _ _ rfl;have G:∀j,(D:j<(x::l).length)→w.heap[b]? =some (.cells ((x::l).map (λn=>af n)++r).toArray e (0,0))→aG w.heap ⟨b,0+j,none⟩=some (af (x::l)[j]):=λj D A=>by
  rw[am A,aK];simp only[y6];rw[uh (by simpa using D),w7,iY D];rfl
 have hH:Go.Sort.Holds (Value.int .i64) w b 0 (x::l).toArray:=λj D=>by
  have aa:j<(x::l).length:=by simpa using D
  refine⟨?_,?_⟩
  ·rw[getElem!_pos (x::l).toArray j D];exact G j aa A
  ·show vF w.heap ⟨b,0+j,none⟩=false;unfold vF;simp[A]
 have:=Any.slices_Delete_int U5 b 0 cap 0 1 (x::l) w hH U L ae (by simp);refine this.mono λe' w' ⟨h1,q,h2⟩=>⟨_,h1,?_⟩
 subst h2;have ab:b<w.heap.size:=(lU.1 A).1;have F:(Go.Sort.putRow (Value.int .i64) (Go.Sort.ahead w q) b 0 ((x::l).take 0++(x::l).drop 1++List.replicate (1-0) 0).toArray).heap[b]? =some (.cells (l.map (λn=>af n)++(af 0::r)).toArray e (0,0)):=by
  show(w.heap.modify b (Go.Sort.onCells _))[b]? =_;rw[KU,aA rfl,A];show some (Obj.cells (Go.Sort.putCells _ 0 _ _) e (0,0))=_
  congr 2
  apply Array.ext_getElem?;intro i;rw[Qu];simp only[KJ,fG,List.drop_succ_cons,KS,zg,List.replicate_one,b9,CX,aK,RP,cz,Ws,y6];by_cases I:i<l.length+1
  ·rw[uh (by simpa using I),w7,iY (show i<(x::l).length by simpa using I),cI,cI,aA I,getElem!_pos _ i (by simpa using I)];by_cases W:i<l.length
   ·rw[uh (by simpa using W),w7,iY W];simp[Wq,W]
   ·have:i=l.length:=ae;subst this;rw[tZ (by simp)];simp
  ·have e1:((x::l).map (λn=>af n)++r)[i]? =r[i-(l.length+1)]? :=by
    rw[tZ (by simp;omega)];simp
   have e2:(l.map (λn=>af n)++af 0::r)[i]? =r[i-(l.length+1)]? :=by
    rw[tZ (by simp;omega),cQ,show i-l.length=(i-(l.length+1))+1 by omega,BQ]
   rw[e1,e2];cases r[i-(l.length+1)]? <;>simp[I]
 refine⟨⟨rfl,rfl,rfl⟩,?_,λa n c e=>?_,⟨?_,λk hk hm=>?_⟩,λk hk=>hk⟩
 ·refine .inr ⟨b,cap,af 0::r,e,?_,ae,by simp,?_,F⟩
  ·simp
  ·simp at hr ⊢;omega
 ·cases e;exact L
 ·show w.heap.size≤(w.heap.modify b _).size;simp
 ·show(w.heap.modify b _)[k]? =_;rw[KU,az (λh=>hm h.symm)]
structure QD where
 room:Int
 l:List Int
 closed:Bool
structure QD.Wf (d:QD):Prop where
 r1:1≤d.room
 r2:d.room≤4096
 l:(d.l.length:Int)≤d.room
structure IsQ (Q:Nat→Prop)(h:ah)(b:Nat)(d:QD):Prop where
 at_:∃v,h[b]? =some (.cells #[.int .i64 d.room,v,.bool d.closed] 215 (0,0))∧Own 1 h v d.l.length (d.l.map λn=>Value.int .i64 n)∧Qe v∧¬blk v b∧∀c,blk v c→Q c
 qb:Q b
 ql:∀c,Q c→c<h.size
 wf:d.Wf
theorem IsQ.fr {Q M:Nat→Prop}{h h':ah}{b:Nat}{d:QD}(H:IsQ Q h b d)(f:Fr M h h')(q:∀c,Q c→¬M c):IsQ Q h' b d:=by
 obtain⟨⟨v,r,o,c,n,s⟩,qb,ql,w⟩:=H;exact⟨⟨v,f.row r (q b qb),o.fr f λk A=>q k (s k A),c,n,s⟩,qb,λk A=>bX (ql k A) f.1,w⟩
theorem IsQ.ext {Q:Nat→Prop}{h h':ah}{b:Nat}{d:QD}(H:IsQ Q h b d)(e:Ext h h'):IsQ Q h' b d:=H.fr (M:=λ_=>False) e.fr λ_ _=>id
def pS (d:QD)(x:Int):QD:=if d.closed then d else if d.room≤d.l.length then d else{d with l:=d.l++[x]}
def vl (d:QD):Int:=if d.closed then 2 else if d.room≤d.l.length then 1 else 0
def pT (d:QD):QD:={d with l:=d.l.tail}
def bR (d:QD):Int:=d.l.headD 0
def dX (d:QD):Int:=if d.l=[]then(if d.closed then 2 else 1)else 0
theorem K4 {B:Nat→Prop}{h h':ah}(A:∀c,B c→c<h.size)(D:h.size≤h'.size):∀c,qE B h h' c→c<h'.size:=λc hc=>hc.elim (λh=>bX (A c h) D) λh=>h.2
section
variable {Q:Nat→Prop}{h:ah}{b:Nat}{d:QD}
theorem ZW {h:ah}{n:Int}:ag prog nD #[af n] h λr h'=>∃b,r=ptr b∧IsQ (λc=>c=b) h' b ⟨min (max 1 n) 4096,[],false⟩∧Ext h h'∧h.size≤b:=by
 apply QU;unfold Ga;have F:∀v:Int,aM #[ai,(.slice none 0 0),(.bool false)] [(0,1,af v)]=some #[af v,.slice none 0 0,.bool false]:=λ_=>rfl
 simp only[go_sem,F,bG];refine aI λb h1 r1 D A=>?_
 exact⟨b,rfl,⟨⟨_,r1,.inl ⟨rfl,rfl,rfl⟩,XX,id,λc hc=>hc.elim⟩,rfl,λc hc=>by rw[hc];exact bC r1,⟨by show 1≤min (max 1 n) 4096;omega,by show min (max 1 n) 4096≤4096;omega,by show(0:Int)≤min (max 1 n) 4096;omega⟩⟩,D,A⟩
theorem P3 (H:IsQ Q h b d):ag prog iQ #[ptr b] h λr h'=>r=.bool d.closed∧h'=h:=by
 apply AG;unfold pN;obtain⟨⟨v,r,o,c,n,s⟩,qb,ql,w⟩:=H;have A:aG h ⟨b,2,none⟩=some (.bool d.closed):=am r;simp only[go_sem,A];exact⟨trivial,trivial⟩
theorem P9 (H:IsQ Q h b d):ag prog io #[ptr b] h λr h'=>r=.bool (decide (vl d≠1))∧h'=h:=by
 apply yY;unfold nQ vl;obtain⟨⟨v,r,o,c,n,s⟩,qb,ql,w⟩:=H;have G:aG h ⟨b,0,none⟩=some (af d.room):=am r;have F:aG h ⟨b,1,none⟩=some v:=am r;have A:aG h ⟨b,2,none⟩=some (.bool d.closed):=am r;obtain⟨a,L,e⟩:=o.isSl;have I:aD v=some (af (d.l.length:Int)):=by rw[e];rfl
 cases hc:d.closed with
 |true=>
  rw[hc]at A;simp only[go_sem,G,F,A,I];exact⟨by simp,trivial⟩
 |false=>
  rw[hc]at A;simp only[go_sem,G,F,A,I,aK];refine⟨?_,trivial⟩
  congr 1
  rw[gL];by_cases D:d.room≤d.l.length
  ·simp[D]
  ·simp[D];omega
theorem Sj (H:IsQ Q h b d):ag prog ja #[ptr b] h λr h'=>r=.bool (decide (dX d≠1))∧h'=h:=by
 apply we;unfold lO dX;obtain⟨⟨v,r,o,c,n,s⟩,qb,ql,w⟩:=H;have D:aG h ⟨b,1,none⟩=some v:=am r;have A:aG h ⟨b,2,none⟩=some (.bool d.closed):=am r;obtain⟨a,G,e⟩:=o.isSl;have F:aD v=some (af (d.l.length:Int)):=by rw[e];rfl
 cases hc:d.closed with
 |true=>
  rw[hc]at A;simp only[go_sem,D,A,F];refine⟨?_,trivial⟩;cases d.l<;>simp
 |false=>
  rw[hc]at A;simp only[go_sem,D,A,F,aK];refine⟨?_,trivial⟩;cases d.l<;>simp
theorem zbv (H:IsQ Q h b d){x:Int}:ag prog mZ #[ptr b,af x] h λr h'=>r=af (vl d)∧IsQ (qE Q h h') h' b (pS d x)∧Fr Q h h':=by
 apply Dp;unfold tz;have H0:=H;obtain⟨⟨v,r,o,c,n,s⟩,qb,ql,w⟩:=H;have c1:aG h ⟨b,1,none⟩=some v:=am r;have I:aG h ⟨b,2,none⟩=some (.bool d.closed):=am r;cases hc:d.closed with
 |true=>
  rw[hc]at I;simp only[go_sem,I];unfold vl pS;rw[aA hc,aA hc,C8];exact⟨rfl,H0,Fr.refl _ _⟩
 | false=>
  have A:¬d.closed=true:=by rw[hc];simp
  rw[hc]at I;simp only[go_sem,I];refine ag.at (P9 H0) ?_;by_cases L:d.room≤d.l.length
  ·have hs:vl d=1:=by unfold vl;rw[az A,aA L]
   have hq:pS d x=d:=by unfold pS;rw[az A,aA L]
   rw[hs,hq,C8,cG (by decide)];simp only[go_sem];exact⟨trivial,H0,Fr.refl _ _⟩
  ·have hs:vl d=0:=by unfold vl;rw[az A,az L]
   have hq:pS d x={d with l:=d.l++[x]}:=by unfold pS;rw[az A,az L]
   rw[hs,hq,da (by decide)];simp only[go_sem,c1];have w1:=w.r2;refine dc (Rp.fill_one rfl) λb1 h1 r1 G n1=>?_
   refine zan (vM (o.fr (M:=λ_=>False) G.fr λ_ _=>id) (Rp.SlC.single (cs:=[af x]) r1) (aq rfl aX) rfl ae ae λs' W o2 f2 U=>(⟨o2,f2,U⟩:Own 1 W s' (d.l.length+1) (d.l.map (λn=>af n)++[af x])∧Fr (blk v) h1 W∧∀b,blk s' b→blk v b∨h1.size≤b)) c λv2 W ⟨o2,f2,U⟩ aa=>?_
   have rb:=f2.row (G.row r) n;have an:=bC (G.row r);have F:¬blk v2 b:=λhv=>(U b hv).elim n λhh=>ae
   try simp only[go_sem]
   refine bZ rb (by simp) o2.sl.isSl_one λh3 r3 u3=>?_
   have ab:=G.1;have ad:=f2.1;have al:=u3.1;refine⟨trivial,⟨⟨v2,r3,?_,aa,F,λk D=>?_⟩,.inl qb,K4 ql ae,⟨w.r1,w.r2,by show((d.l++[x]).length:Int)≤d.room;simp;omega⟩⟩,?_⟩
   ·show Own 1 h3 v2 (d.l++[x]).length ((d.l++[x]).map λn=>af n);rw[cz,jT];exact o2.fr u3.fr λk D he=>F (he▸D)
   ·rcases U k D with h5|h5
    ·exact .inl (s k h5)
    ·have:=o2.lt D;exact .inr ⟨ae,ae⟩
   ·exact((G.fr (M:=Q)).after f2 λk _ D=>s k D).after u3.fr λk _ D=>D▸qb
theorem Vs (H:IsQ Q h b d):ag prog kC #[ptr b] h λr h'=>r=.tuple #[af (bR d),af (dX d)]∧IsQ (qE Q h h') h' b (pT d)∧Fr Q h h':=by
 apply yX;unfold nP;have H0:=H;obtain⟨⟨v,r,o,c,n,s⟩,qb,ql,w⟩:=H;have c1:aG h ⟨b,1,none⟩=some v:=am r;have c2:aG h ⟨b,2,none⟩=some (.bool d.closed):=am r;obtain⟨a,cp,e⟩:=o.isSl;have G:aD v=some (af (d.l.length:Int)):=by rw[e];rfl
 cases A:d.l with
 |nil=>
  have U:bR d=0:=by unfold bR;rw[A];rfl
  have hq:pT d=d:=by unfold pT;rw[A];cases d;simp_all
  rw[U,hq];rw[A]at G;have I:¬(0:Int)<((0:Nat):Int):=ae;simp only[go_sem,c1,G,kS,cG I,c2];have L:dX d=if d.closed then 2 else 1:=by unfold dX;rw[aA A]
  rw[L];cases d.closed with
  |true=>rw[gR];exact⟨rfl,by rw[C8];exact H0,Fr.refl _ _⟩
  |false=>rw[cR];exact⟨rfl,by rw[C8];exact H0,Fr.refl _ _⟩
 |cons x t=>
  have U:bR d=x:=by unfold bR;rw[A];rfl
  have hq:pT d={d with l:=t}:=by unfold pT;rw[A];rfl
  have L:dX d=0:=by unfold dX;rw[az (by rw[A];simp)]
  rw[U,hq,L];rw[A]at G o;have o':Own 1 h v (t.length+1) ((x::t).map λn=>af n):=o;have zp:(0:Int)<(((x::t).length:Nat):Int):=by simp
  obtain⟨pp,p1,p2⟩:=(EA (k:=.i64) (l:=x::t) o).int_at (k':=.i64) (i:=0) (by simp);have p1:bh 1 v ai=some pp:=p1;simp only[go_sem,c1,G,da zp,p1,p2];refine(zaf o' c).mono λv2 h2 ⟨o2,aa,f2,n2⟩=>?_
  have rb:=f2.row r n;have F:¬blk v2 b:=λhv=>n (n2 b hv)
  try simp only[go_sem]
  refine bZ rb (by simp) o2.sl.isSl_one λh3 r3 W=>?_
  have ab:=f2.1;have ad:=W.1;have wl:=w.l;rw[A]at wl;refine⟨rfl,⟨⟨v2,r3,o2.fr W.fr λk D he=>F (he▸D),aa,F,λk D=>.inl (s k (n2 k D))⟩,.inl qb,K4 ql ae,⟨w.r1,w.r2,by show(t.length:Int)≤d.room;simp at wl;omega⟩⟩,?_⟩;exact(f2.mono λk _ D=>s k D).trans (W.fr.mono λk _ D=>D▸qb)
theorem T9 (H:IsQ Q h b d):ag prog ji #[ptr b] h λr h'=>r=.bool (!d.closed)∧IsQ Q h' b {d with closed:=true}∧Fr Q h h':=by
 apply BF;unfold rA;obtain⟨⟨v,r,o,c,n,s⟩,qb,ql,w⟩:=H;have F:aG h ⟨b,2,none⟩=some (.bool d.closed):=am r;simp only[go_sem,F];refine bZ r (by simp) rfl λL G D=>?_
 try simp only[go_sem]
 exact⟨trivial,⟨⟨v,G,o.fr D.fr λk A I=>n (I▸A),c,n,s⟩,qb,λc hc=>by rw[D.1];exact ql c hc,⟨w.r1,w.r2,w.l⟩⟩,D.fr.mono λk _ A=>A▸qb⟩
end
end
end Go.Proofs.YtjljhnandbbldaaGreatDoor
namespace Go.Crisp
open Go
theorem Rp.Ow.slcap {α:Type}{e:Rp α}{Z:Nat→Prop}{h:ah}{v:Value}{l:List α}(H:Rp.Ow e Z h v l):Rp.SlCap v:=by
 obtain⟨ds,o,_⟩:=H;rcases o with⟨rfl,_,_⟩|⟨b,cap,r,e,rfl,hc,_⟩
 ·exact⟨_,_,_,rfl,cq _⟩
 ·exact⟨_,_,_,rfl,hc⟩
end Go.Crisp
namespace Go.Proofs.YtjljhnandbbldaaGreatDoor
open Go Go.Crisp
attribute [local irreducible] ag di aW stK aF vK qK bK gK fo bA mkK dk Fm GM CJ bsK clK tW oA V0
open _root_.Go.Proofs.Tryz
section
theorem ZU {h:ah}{n:Int}:ag prog lh #[af n] h λr h'=>r=.agg #[af (min (max 1 n) 4096),.slice none 0 0,.bool false]∧Ext h h':=by
 apply QJ;unfold FR;have A:∀v:Int,aM #[ai,(.slice none 0 0),(.bool false)] [(0,1,af v)]=some #[af v,.slice none 0 0,.bool false]:=λ_=>rfl
 refine aI λF h1 r1 U G=>?_
 have fin:∀v:Int,v=min (max 1 n) 4096→stK 3 (ptr F) (.agg #[af v,.slice none 0 0,.bool false]) h1 λv6 D=>vK (aP 3 D (ptr F)) λI=>I=.agg #[af (min (max 1 n) 4096),.slice none 0 0,.bool false]∧Ext h D:=by
  intro v L;subst L;refine cT (l:=[af (min (max 1 n) 4096),.slice none 0 0,.bool false]) r1 rfl (aq rfl (aq rfl (aq rfl aX))) rfl λW r2 H=>?_
  rw[aU (l:=[af (min (max 1 n) 4096),.slice none 0 0,.bool false]) r2 3 rfl,ak];exact⟨rfl,U.upd G H⟩
 simp only[go_sem];refine ao (λg1=>?_) (λg1=>?_)
 ·rw[cG (by decide)];simp only[go_sem,A,bG];exact fin 1 ae
 ·refine ao (λg2=>?_) (λg2=>?_)
  ·simp only[go_sem,A,bG];exact fin 4096 ae
  ·simp only[go_sem,A,bG];exact fin n ae
section
variable {Z:Nat→Prop}{h:ah}{cs:List Value}{d:QD}
end
end
section
structure WE where
 bf:Nat
 vf:Value
 bt:Nat
 vt:Value
 p:Value
 q:Value
 m:Pic
 s:Stg
structure WE.Ok (E:WE):Prop where
 m:E.m.Wf
 s:Cj E.s
abbrev WE.d (E:WE)(t:cZ):fO:=⟨E.m,E.s,t⟩
def jD (Z B:Nat→Prop)(h:ah)(E:Option WE)(n:Pic)(jv:Value):Option (cZ×Int×Int)→Prop
 |none=>jv=.pointer none
 |some (t,y,e)=>∃E',E=some E'∧E'.Ok∧nH E'.m n E'.s t=0∧∃bj rv,jv=ptr bj∧kK Z B h bj E'.bf E'.vf E'.bt E'.vt E'.p E'.q rv (E'.d t) y e n (iG (bH E'.s.y.lines)) (fB (t.w*E'.m.c))
def dQ (E:Option WE):Nat→Prop:=match E with|none=>λ_=>False|some E=>blk E.vt
def AA (E:Option WE)(b:Nat):Prop:=match E with|none=>True|some E=>b≠E.bt
theorem jD.one {Z B:Nat→Prop}{h:ah}{E:Option WE}{n:Pic}{A:Value}{jo:Option (cZ×Int×Int)}(H:jD Z B h E n A jo):aR A=true:=by
 cases jo with
 |none=>rw[show A=_ from H];rfl
 |some x=>obtain⟨t,y,e⟩:=x;obtain⟨_,_,_,_,bj,rv,rfl,_⟩:=H;rfl
def jf (h:ah)(E:Option WE)(n:Pic):Prop:=∀E',E=some E'→dd h E'.bt E'.vt n∧n.Wf
theorem jD.other {Z B Q:Nat→Prop}{h h':ah}{E:Option WE}{n n':Pic}{F:Value}{jo:Option (cZ×Int×Int)}(H:jD Z B h E n F jo)(f:Fr Q h h')(U:∀c,Z c→¬Q c)(qb:∀c,B c→¬Q c)(I:jf h' E n')(D:eE n n'):jD Z B h' E n' F jo:=by
 cases jo with
 |none=>exact H
 |some x=>
  obtain⟨t,y,e⟩:=x;obtain⟨A,rfl,ok,hc,bj,rv,rfl,S⟩:=H;obtain⟨L,G⟩:=I A rfl;exact⟨A,rfl,ok,D.newC hc,bj,rv,rfl,S.other f U qb L (WB G (D.newC hc))⟩
structure WD where
 state:Int
 tiles:List Int
 job:Option (cZ×Int×Int)
 words:Int
def uo (E:Option WE)(jo:Option (cZ×Int×Int)):Prop:=match jo,E with|some (t,y,e),some E=>cn (E.d t) y e≠0|_,_=>False
structure IsW (Z B:Nat→Prop)(h:ah)(bw:Nat)(E:Option WE)(n:Pic)(w:WD):Prop where
 at_:∃tv jv Bj,h[bw]? =some (.cells #[.int .i64 w.state,tv,jv,.int .i64 w.words] 182 (0,0))∧Own 1 h tv w.tiles.length (w.tiles.map λn=>Value.int .i64 n)∧jD Z Bj h E n jv w.job∧
  (∀c,blk tv c→B c∧¬Bj c∧c≠bw)∧(∀c,Bj c→B c)∧¬Bj bw
 bw0:B bw
 bl:∀c,B c→c<h.size
 bz:∀c,B c→¬Z c∧AA E c∧¬dQ E c
 zl:∀c,Z c→c<h.size
 out:jf h E n
 st:(w.state=1∧uo E w.job∧w.tiles≠[])∨((w.state=0∨w.state=2)∧w.job=none)
theorem IsW.other {Z B Q:Nat→Prop}{h h':ah}{bw:Nat}{E:Option WE}{n n':Pic}{w:WD}(H:IsW Z B h bw E n w)(f:Fr Q h h')(qz:∀c,Z c→¬Q c)(qb:∀c,B c→¬Q c)(I:jf h' E n')(D:eE n n'):IsW Z B h' bw E n' w:=by
 obtain⟨⟨tv,L,U,r,o,J,a1,a2,a3⟩,A,W,F,bz,b4,G⟩:=H;exact⟨⟨tv,L,U,f.row r (qb _ A),o.fr f λc hc=>qb c (a1 c hc).1,J.other f qz (λc hc=>qb c (a2 c hc)) I D,a1,a2,a3⟩,A,λc hc=>bX (W c hc) f.1,F,λc hc=>bX (bz c hc) f.1,I,G⟩
theorem IsW.ext {Z B:Nat→Prop}{h h':ah}{bw:Nat}{E:Option WE}{n:Pic}{w:WD}(H:IsW Z B h bw E n w)(e:Ext h h'):IsW Z B h' bw E n w:=
 H.other (Q:=λ_=>False) e.fr (λ_ _ h=>h) (λ_ _ h=>h) (λD A=>⟨(H.out D A).1.ext e,(H.out D A).2⟩) (eE.refl n)
section
variable {Z B:Nat→Prop}{h:ah}{bw:Nat}{E:Option WE}{n:Pic}{w:WD}
theorem JN {h:ah}:ag prog oM #[] h λr h'=>∃b,r=ptr b∧h'[b]? =some (.cells #[ai,.slice none 0 0,.pointer none,ai] 182 (0,0))∧Ext h h'∧h.size≤b:=by
 apply Oa;unfold Dx;have F:aM #[ai,(.slice none 0 0),(.pointer none),ai] []=some #[ai,.slice none 0 0,.pointer none,ai]:=rfl;simp only[go_sem,F,bG];refine aI λb h1 r1 D A=>?_
 exact⟨b,rfl,r1,D,A⟩
theorem IsW.new {h:ah}{b:Nat}(r:h[b]? =some (.cells #[ai,.slice none 0 0,.pointer none,ai] 182 (0,0)))(D:¬Z b)(h1:AA E b)(A:¬dQ E b)(zl:∀c,Z c→c<h.size)(I:jf h E n):IsW Z (λc=>c=b) h b E n ⟨0,[],none,0⟩:=
 ⟨⟨_,_,λ_=>False,r,.inl ⟨rfl,rfl,rfl⟩,rfl,λc hc=>hc.elim,λc hc=>hc.elim,id⟩,rfl,λc hc=>by rw[hc];exact bC r,λc hc=>by rw[hc];exact⟨D,h1,A⟩,zl,I,.inr ⟨.inl rfl,rfl⟩⟩
theorem zbI (H:IsW Z B h bw E n w):ag prog kB #[ptr bw] h λr h'=>r=af w.state∧h'=h:=by
 apply yV;unfold nN;obtain⟨⟨tv,D,F,r,_⟩,_⟩:=H;have A:aG h ⟨bw,0,none⟩=some (af w.state):=am r;simp only[go_sem,A];exact⟨trivial,trivial⟩
theorem Yh (H:IsW Z B h bw E n w):ag prog jE #[ptr bw] h λr h'=>r=af w.words∧h'=h:=by
 apply xt;unfold me;obtain⟨⟨tv,D,F,r,_⟩,_⟩:=H;have A:aG h ⟨bw,3,none⟩=some (af w.words):=am r;simp only[go_sem,A];exact⟨trivial,trivial⟩
theorem Fv {Q:Nat→Prop}{bq:Nat}{d:QD}(H:IsW Z B h bw E n w)(A:IsQ Q h bq d):ag prog eG #[ptr bw,ptr bq] h λr h'=>r=.bool (decide (w.state=1∨(w.state=0∧dX d≠1)))∧h'=h:=by
 apply vZ;unfold lN;have D:=H.st;obtain⟨⟨tv,G,I,r,_⟩,_⟩:=H;have F:aG h ⟨bw,0,none⟩=some (af w.state):=am r;simp only[go_sem,F];refine ao (λg=>?_) (λg=>?_)
 ·refine ag.at (Sj A) ?_;refine⟨?_,rfl⟩
  congr 1
  rw[gL];constructor
  ·exact λhh=>.inr ⟨g,hh⟩
  ·rintro(hh|hh)
   ·omega
   ·exact hh.2
 ·refine ao (λg1=>?_) (λg1=>?_)
  ·exact⟨by rw[da (.inl g1)],trivial⟩
  ·exact⟨by rw[cG];omega,trivial⟩
def cH (E:Option WE)(jo:Option (cZ×Int×Int)):Option (cZ×Int×Int):=match jo,E with|some (t,y,e),some E=>if cn (E.d t) y e=0 then none else some (t,y,e)|_,_=>none
theorem Ip (E:Option WE)(jo:Option (cZ×Int×Int)):(cH E jo≠none∧uo E (cH E jo)∧cH E jo=jo)∨cH E jo=none:=by
 unfold cH uo;cases jo with
 |none=>exact .inr rfl
 | some x=>
  obtain⟨t,y,e⟩:=x;cases E with
  |none=>exact .inr rfl
  |some E=>
   dsimp only;by_cases A:cn (E.d t) y e=0
   ·rw[aA A];exact .inr rfl
   ·rw[az A];exact .inl ⟨by simp,A,rfl⟩
end
end
end Go.Proofs.YtjljhnandbbldaaGreatDoor
