/- Several texts of this session, one behind the other, without what this claim does not need (put together by its program pack.py). Conditions: none. -/
import Derived.Test.YtjljhnandbbldaaGreatDoorMv2
import Derived.MapKept
import Derived.Test.YtjljhnandbbldaaGreatDoorProg
import Derived.Shelf.SlIterI.Sorted
import Derived.Shelf.Slices.Delete
set_option linter.unusedVariables false
set_option linter.unusedSimpArgs false
set_option maxRecDepth 100000
namespace Go.Proofs.YtjljhnandbbldaaGreatDoor
open Go Go.Crisp
attribute [local irreducible] ag df aW stK aF vK qK bJ gK eK aZ mkK di Fi GM CF bsK clK
open _root_.Go.Proofs.Tryz
def uv (m:Pic)(s:Stg)(x row c:Int):Int:=yL (λi=>(bE s.x x).2.getD i 0*atP m (atZ s.border ((bE s.x x).1+i) m.w) row c) (bE s.x x).2.length
def Li (m:Pic)(s:Stg)(x y c:Int):Int:=yL (λk=>(bE s.y y).2.getD k 0*uv m s x (atZ s.border ((bE s.y y).1+k) m.h) c) (bE s.y y).2.length
def xp (m:Pic)(s:Stg)(x y c:Int):Int:=yQ (IntKind.i64.wrap (Li m s x y c)) m.most
structure Stg.Wf (s:Stg):Prop where
 x:s.x.Wf
 y:s.y.Wf
def nK (m:Pic)(s:Stg):Prop:=s.x.n=m.w∧s.y.n=m.h∧0≤s.border∧s.border<3
instance (m:Pic)(s:Stg):Decidable (nK m s):=by unfold nK;infer_instance
theorem W1 {h:ah}{n most:Int}(D:I64 n):ag prog pB #[af n,af most] h λr h'=>r=.int .u16 (yQ n most)∧h'=h:=by
 apply Ku;unfold Aq;refine(Lb D (by unfold I64;omega)).mono λr h1 ⟨e,A⟩=>?_
 have A:=A.symm;subst e A;simp only[go_sem];refine W9.mono λr h1 ⟨e,A⟩=>?_
 have A:=A.symm;subst e A;simp only[go_sem];rw[wu16 ae ae];exact⟨rfl,trivial⟩
theorem jm {Z:Nat→Prop}{h:ah}{sv:Value}{s:Stg}(H:pU Z h sv s):∃p q,sv=.agg #[p,q,af s.border]∧fG Z h p s.x∧fG Z h q s.y∧(∀v∈[p,q,af s.border],aQ v=true):=by
 obtain⟨p,q,e,A,hq⟩:=H;exact⟨p,q,e,A,hq,aq (mF A) (aq (mF hq) (aq rfl aX))⟩
theorem Io {Z:Nat→Prop}{h:ah}{p:Value}{t:Tbl}(H:fG Z h p t):ak .p .neq p (.pointer none)=some (.bool true)∧ak .p .eql p (.pointer none)=some (.bool false):=by
 obtain⟨_,_,_,A,_⟩:=H;rw[A];exact⟨rfl,rfl⟩
theorem La {h:ah}(G:eB h){Z:Nat→Prop}{b:Nat}{v sv:Value}{m:Pic}{s:Stg}(H:db h b v m)(HS:pU Z h sv s):ag prog jF #[ptr b,sv] h λr h'=>r=.bool (decide (nK m s))∧Ext h h':=by
 apply Kt;unfold Ap;obtain⟨p,q,rfl,U,hq,aa⟩:=jm HS;simp only[bO];refine aI λW h1 r1 I n1=>?_
 have np:=(Io U).1;have nq:=(Io hq).1;have U:=U.ext I;have hq:=hq.ext I;have H:=H.ext I;have q0:aG h1 ⟨W,0,none⟩=some p:=am r1;have q1:aG h1 ⟨W,1,none⟩=some q:=am r1;have q2:aG h1 ⟨W,2,none⟩=some (af s.border):=am r1;simp only[go_sem,aK,q0,q1,q2,np,nq];refine(Sg U).mono λr L ⟨e,A⟩=>?_
 have A:=A.symm;subst e A;refine(ut H).mono λr L ⟨e,A⟩=>?_
 have A:=A.symm;subst e A;simp only[go_sem];by_cases h1':s.x.n=m.w
 ·simp only[go_sem,h1',q1,q2];refine(Sg hq).mono λr L ⟨e,A⟩=>?_
  have A:=A.symm;subst e A;refine(sq H).mono λr L ⟨e,A⟩=>?_
  have A:=A.symm;subst e A;simp only[go_sem];by_cases F:s.y.n=m.h
  ·simp only[go_sem,F,q2];refine(Ie (G.ext I)).mono λr L ⟨e,A⟩=>?_
   have A:=A.symm;subst e A
   try rw[Xf,NG]
   simp only[go_sem];refine⟨?_,I⟩
   congr 1
   have hb:=Ul s.border;by_cases D:NJ s.border=[]
   ·rw[cB (by simpa using D),cB];unfold nK;have:=hb.1 D;rintro⟨_,_,a,b⟩;exact this ⟨a,b⟩
   ·rw[cP (by simpa using D),cP];have:=co λhh=>D (hb.2 hh)
    exact⟨h1',F,this.1,this.2⟩
  ·simp only[go_sem,F];refine⟨?_,I⟩;rw[cB];rintro⟨_,a,_⟩;exact F a
 ·simp only[go_sem,h1'];refine⟨?_,I⟩;rw[cB];rintro⟨a,_⟩;exact h1' a
abbrev LV:Type:=Option (Nat×Option Bool)
abbrev VL:Array Value:=#[.int .i64 0,.slice none 0 0]
def GR (h:ah)(Lx Ly:Int×List Int)(ux uy:Option Value)(b:Nat):Option Bool→Prop
 |none=>h[b]? =some (.cells VL 189 (0,0))
 |some true=>∃u,ux=some u∧Two h b 189 (.int .i64 Lx.1) u
 |some false=>∃u,uy=some u∧Two h b 189 (.int .i64 Ly.1) u
theorem GR.row {h:ah}{F D:Int×List Int}{G A:Option Value}{b:Nat}:∀{s:Option Bool},GR h F D G A b s→b<h.size
 |none,H=>bB H
 |some true,⟨u,_,r⟩=>bB r
 |some false,⟨u,_,r⟩=>bB r
theorem GR.up {h h':ah}{I G:Int×List Int}{L F D A:Option Value}{b:Nat}(e:h'[b]? =h[b]?)(W:∀u,L=some u→D=some u)(U:∀u,F=some u→A=some u):∀{s:Option Bool},GR h I G L F b s→GR h' I G D A b s
 |none,H=>by show h'[b]? =_;rw[e];exact H
 |some true,⟨u,hu,r⟩=>⟨u,W u hu,by show h'[b]? =_;rw[e];exact r⟩
 |some false,⟨u,hu,r⟩=>⟨u,U u hu,by show h'[b]? =_;rw[e];exact r⟩
def apart (v1 v2:LV)(c:Nat):Prop:=(∀p,v1=some p→p.1≠c)∧(∀p,v2=some p→p.1≠c)
structure fO (h0:ah)(Lx Ly:Int×List Int)(ux uy:Option Value)(v1 v2:LV)(h:ah):Prop where
 ext:Ext h0 h
 lx:∀u,ux=some u→SlI (apart v1 v2) h u Lx.2
 ly:∀u,uy=some u→SlI (apart v1 v2) h u Ly.2
 at1:∀p,v1=some p→h0.size≤p.1∧GR h Lx Ly ux uy p.1 p.2
 at2:∀p,v2=some p→h0.size≤p.1∧GR h Lx Ly ux uy p.1 p.2
 dis:∀p q,v1=some p→v2=some q→p.1≠q.1
theorem fO.start (h:ah)(A D:Int×List Int):fO h A D none none none none h:=⟨Ext.refl _,by simp,by simp,by simp,by simp,by simp⟩
theorem fO.line_x {h0 h:ah}{D:Option Value}{I L:LV}{F:Int×List Int}{Z:Nat→Prop}{p:Value}{t:Tbl}{x:Int}{K:Value→ah→Prop}(M:fO h0 (bE t x) F none D I L h)(T:fG Z h0 p t)(W:t.Wf)
  (H:∀u h',fO h0 (bE t x) F (some u) D I L h'→K (.agg #[af (bE t x).1,u]) h'):ag prog bF #[p,af x] h K:=by
 refine(Cb (T.ext M.ext) W (i:=x)).mono λr h' ⟨u,e,S,E⟩=>?_
 subst e;have U:∀(v:LV),(∀p,v=some p→h0.size≤p.1∧GR h (bE t x) F none D p.1 p.2)→∀p,v=some p→h0.size≤p.1∧GR h' (bE t x) F (some u) D p.1 p.2:=λv a p A=>
  ⟨(a p A).1,(a p A).2.up (E.2 _ (a p A).2.row) (by simp) λ_=>id⟩
 refine H u h' ⟨M.ext.trans E,λw G=>?_,λw G=>(M.ly w G).ext E,U _ M.at1,U _ M.at2,M.dis⟩;cases G;refine S.mono λc _ hz=>⟨λp A he=>?_,λp A he=>?_⟩
 ·have:=(M.at1 p A).2.row;omega
 ·have:=(M.at2 p A).2.row;omega
theorem fO.line_y {h0 h:ah}{D:Option Value}{I L:LV}{F:Int×List Int}{Z:Nat→Prop}{p:Value}{t:Tbl}{x:Int}{K:Value→ah→Prop}(M:fO h0 F (bE t x) D none I L h)(T:fG Z h0 p t)(W:t.Wf)
  (H:∀u h',fO h0 F (bE t x) D (some u) I L h'→K (.agg #[af (bE t x).1,u]) h'):ag prog bF #[p,af x] h K:=by
 refine(Cb (T.ext M.ext) W (i:=x)).mono λr h' ⟨u,e,S,E⟩=>?_
 subst e;have U:∀(v:LV),(∀p,v=some p→h0.size≤p.1∧GR h F (bE t x) D none p.1 p.2)→∀p,v=some p→h0.size≤p.1∧GR h' F (bE t x) D (some u) p.1 p.2:=λv a p A=>
  ⟨(a p A).1,(a p A).2.up (E.2 _ (a p A).2.row) (λ_=>id) (by simp)⟩
 refine H u h' ⟨M.ext.trans E,λw G=>(M.lx w G).ext E,λw G=>?_,U _ M.at1,U _ M.at2,M.dis⟩;cases G;refine S.mono λc _ hz=>⟨λp A he=>?_,λp A he=>?_⟩
 ·have:=(M.at1 p A).2.row;omega
 ·have:=(M.at2 p A).2.row;omega
theorem fO.new_1 {h0 h:ah}{I F:Int×List Int}{G D:Option Value}{K:Value→ah→Prop}(M:fO h0 I F G D none none h)
  (H:∀b h',fO h0 I F G D (some (b,none)) none h'→K (ptr b) h'):aW VL 189 h K:=by
 refine aI λb h' r e n=>H b h' ⟨M.ext.trans e,λu hu=>?_,λu hu=>?_,λp A=>?_,by simp,by simp⟩
 ·exact((M.lx u hu).mono (Z':=apart (some (b,none)) none) λc hc _=>⟨λp A=>by cases A;show b≠c;omega,by simp⟩).ext e
 ·exact((M.ly u hu).mono (Z':=apart (some (b,none)) none) λc hc _=>⟨λp A=>by cases A;show b≠c;omega,by simp⟩).ext e
 ·cases A;exact⟨bh M.ext.1 n,r⟩
theorem fO.new_2 {h0 h:ah}{L G:Int×List Int}{I F:Option Value}{a:Nat}{K:Value→ah→Prop}(M:fO h0 L G I F (some (a,none)) none h)
  (H:∀b h',fO h0 L G I F (some (a,none)) (some (b,none)) h'→K (ptr b) h'):aW VL 189 h K:=by
 have a1:=M.at1 _ rfl;have U:a<h.size:=a1.2.row;refine aI λb h' r e n=>H b h' ⟨M.ext.trans e,λu hu=>?_,λu hu=>?_,λp A=>?_,λp A=>?_,λp q A hq=>?_⟩
 ·exact((M.lx u hu).mono (Z':=apart (some (a,none)) (some (b,none))) λc hc D=>⟨D.1,λp A=>by cases A;show b≠c;omega⟩).ext e
 ·exact((M.ly u hu).mono (Z':=apart (some (a,none)) (some (b,none))) λc hc D=>⟨D.1,λp A=>by cases A;show b≠c;omega⟩).ext e
 ·cases A;exact⟨a1.1,a1.2.up (e.2 _ U) (λ_=>id) λ_=>id⟩
 ·cases A;exact⟨bh M.ext.1 n,r⟩
 ·cases A;cases hq;show a≠b;omega
theorem fO.st {h0 h:ah}{Lx U:Int×List Int}{ux L:Option Value}{v1 v2 D F:LV}{b:Nat}{f:Bool}{l:List Value}{K:Value→ah→Prop}(M:fO h0 Lx U ux L v1 v2 h)(hr:h[b]? =some (.cells VL 189 (0,0)))(hn:h0.size≤b)
  (hl:l.length=2) (ho:∀v∈l,aQ v=true) (hf:∀h',h'[b]? =some (.cells l.toArray 189 (0,0))→GR h' Lx U ux L b (some f))
  (h1:(v1=some (b,none)∧D=some (b,some f)∧F=v2∧∀q,v2=some q→q.1≠b)∨(v2=some (b,none)∧F=some (b,some f)∧D=v1∧∀q,v1=some q→q.1≠b))
  (H:∀h',fO h0 Lx U ux L D F h'→K undef h'):stK 2 (ptr b) (.agg l.toArray) h K:=by
 refine cT hr (by rw[hl];rfl) ho hl λh' r u=>H h' ?_
 have E:=M.ext.upd hn u;have G:∀{v:LV},(∀p,v=some p→h0.size≤p.1∧GR h Lx U ux L p.1 p.2)→(∀q,v=some q→q.1≠b)→∀p,v=some p→h0.size≤p.1∧GR h' Lx U ux L p.1 p.2:=λa d p A=>⟨(a p A).1,(a p A).2.up (u.2 _ (d p A)) (λ_=>id) λ_=>id⟩
 rcases h1 with⟨rfl,rfl,rfl,d⟩|⟨rfl,rfl,rfl,d⟩
 ·have W:∀c,apart (some (b,none)) F c→¬c=b:=λc hc he=>hc.1 _ rfl he.symm
  have zb:∀c,apart (some (b,none)) F c→apart (some (b,some f)) F c:=λc hc=>⟨λp A=>by cases A;exact hc.1 (b,none) rfl,hc.2⟩
  refine⟨E,λw I=>((M.lx w I).fr u.fr λc _=>W c).mono λc _=>zb c,λw I=>((M.ly w I).fr u.fr λc _=>W c).mono λc _=>zb c,λp A=>?_,G M.at2 d,λp q A hq=>?_⟩
  ·cases A;exact⟨hn,hf h' r⟩
  ·cases A;exact λhe=>d q hq he.symm
 ·have W:∀c,apart D (some (b,none)) c→¬c=b:=λc hc he=>hc.2 _ rfl he.symm
  have zb:∀c,apart D (some (b,none)) c→apart D (some (b,some f)) c:=λc hc=>⟨hc.1,λp A=>by cases A;exact hc.2 (b,none) rfl⟩
  refine⟨E,λw I=>((M.lx w I).fr u.fr λc _=>W c).mono λc _=>zb c,λw I=>((M.ly w I).fr u.fr λc _=>W c).mono λc _=>zb c,G M.at1 d,λp A=>?_,λp q A hq=>?_⟩
  ·cases A;exact⟨hn,hf h' r⟩
  ·cases hq;exact d p A
theorem fO.st1x {h0 h:ah}{A F:Int×List Int}{u:Value}{D:Option Value}{G:LV}{b:Nat}{K:Value→ah→Prop}(M:fO h0 A F (some u) D (some (b,none)) G h)
  (H:∀h',fO h0 A F (some u) D (some (b,some true)) G h'→K undef h'):stK 2 (ptr b) (.agg #[af A.1,u]) h K:=
 M.st (f:=true) (l:=[af A.1,u]) (M.at1 _ rfl).2 (M.at1 _ rfl).1 rfl (aq rfl (aq (M.lx u rfl).one aX)) (λh' r=>⟨u,rfl,r⟩) (.inl ⟨rfl,rfl,rfl,λq hq I=>M.dis _ _ rfl hq I.symm⟩) H
theorem fO.st2x {h0 h:ah}{A F:Int×List Int}{u:Value}{D:Option Value}{G:LV}{b:Nat}{K:Value→ah→Prop}(M:fO h0 A F (some u) D G (some (b,none)) h)
  (H:∀h',fO h0 A F (some u) D G (some (b,some true)) h'→K undef h'):stK 2 (ptr b) (.agg #[af A.1,u]) h K:=
 M.st (f:=true) (l:=[af A.1,u]) (M.at2 _ rfl).2 (M.at2 _ rfl).1 rfl (aq rfl (aq (M.lx u rfl).one aX)) (λh' r=>⟨u,rfl,r⟩) (.inr ⟨rfl,rfl,rfl,λq hq=>M.dis _ _ hq rfl⟩) H
theorem fO.st1y {h0 h:ah}{D A:Int×List Int}{u:Value}{F:Option Value}{G:LV}{b:Nat}{K:Value→ah→Prop}(M:fO h0 D A F (some u) (some (b,none)) G h)
  (H:∀h',fO h0 D A F (some u) (some (b,some false)) G h'→K undef h'):stK 2 (ptr b) (.agg #[af A.1,u]) h K:=
 M.st (f:=false) (l:=[af A.1,u]) (M.at1 _ rfl).2 (M.at1 _ rfl).1 rfl (aq rfl (aq (M.ly u rfl).one aX)) (λh' r=>⟨u,rfl,r⟩) (.inl ⟨rfl,rfl,rfl,λq hq I=>M.dis _ _ rfl hq I.symm⟩) H
theorem fO.st2y {h0 h:ah}{D A:Int×List Int}{u:Value}{F:Option Value}{G:LV}{b:Nat}{K:Value→ah→Prop}(M:fO h0 D A F (some u) G (some (b,none)) h)
  (H:∀h',fO h0 D A F (some u) G (some (b,some false)) h'→K undef h'):stK 2 (ptr b) (.agg #[af A.1,u]) h K:=
 M.st (f:=false) (l:=[af A.1,u]) (M.at2 _ rfl).2 (M.at2 _ rfl).1 rfl (aq rfl (aq (M.ly u rfl).one aX)) (λh' r=>⟨u,rfl,r⟩) (.inr ⟨rfl,rfl,rfl,λq hq=>M.dis _ _ hq rfl⟩) H
def zdb (h0:ah)(Lx Ly:Int×List Int)(xs:List Value)(h:ah):Prop:=∃a b u w,xs=[ptr a,ptr b]∧Ext h0 h∧Two h a 189 (.int .i64 Lx.1) u∧Two h b 189 (.int .i64 Ly.1) w∧SlI (λ_=>True) h u Lx.2∧SlI (λ_=>True) h w Ly.2
theorem fO.fin {h0 h:ah}{D A:Int×List Int}{u w:Value}{a b:Nat}(M:fO h0 D A (some u) (some w) (some (a,some true)) (some (b,some false)) h):zdb h0 D A [ptr a,ptr b] h:=by
 obtain⟨_,H,G,r1⟩:=M.at1 _ rfl;obtain⟨_,w',F,r2⟩:=M.at2 _ rfl;cases G;cases F;exact⟨a,b,u,w,rfl,M.ext,r1,r2,(M.lx u rfl).mono λ_ _ _=>trivial,(M.ly w rfl).mono λ_ _ _=>trivial⟩
theorem fO.fin2 {h0 h:ah}{D A:Int×List Int}{u w:Value}{a b:Nat}(M:fO h0 D A (some u) (some w) (some (b,some false)) (some (a,some true)) h):zdb h0 D A [ptr a,ptr b] h:=by
 obtain⟨_,w',F,r2⟩:=M.at1 _ rfl;obtain⟨_,H,G,r1⟩:=M.at2 _ rfl;cases G;cases F;exact⟨a,b,u,w,rfl,M.ext,r1,r2,(M.lx u rfl).mono λ_ _ _=>trivial,(M.ly w rfl).mono λ_ _ _=>trivial⟩
theorem qO {t:Tbl}(W:t.Wf)(i:Int):(bE t i).2.length≤1048576∧ -70368744177664≤(bE t i).1∧(bE t i).1≤70368744177664:=by
 unfold bE;split
 ·by_cases h:i.toNat<t.lines.length
  ·have e:t.lines.getD i.toNat (0,[])=t.lines[i.toNat]:=by simp[dQ,h]
   rw[e];exact W.taps _ (cQ h)
  ·have e:t.lines.getD i.toNat (0,[])=(0,[]):=by simp[dQ,Hj h]
   rw[e];simp
 ·simp
theorem zal {m:Pic}(W:m.Wf)(x y c:Int):0≤atP m x y c∧atP m x y c≤m.most:=by
 have:=W.m1;unfold atP;split
 ·rename_i h;by_cases hi:(pC m x y c).toNat<m.l.length
  ·have e:m.l.getD (pC m x y c).toNat 0=m.l[(pC m x y c).toNat]:=by simp[dQ,hi]
   rw[e];exact W.smp _ (cQ hi)
  ·have e:m.l.getD (pC m x y c).toNat 0=0:=by simp[dQ,Hj hi]
   rw[e];omega
 ·omega
theorem c_Sum {h:ah}(G:eB h){Z:Nat→Prop}{b:Nat}{v sv:Value}{m:Pic}{s:Stg}(H:db h b v m)(W:m.Wf)(HS:pU Z h sv s)(WS:s.Wf)(hs:nK m s){x y c:Int}(hc:0≤c∧c<m.c):
  ag prog zZ #[ptr b,sv,af x,af y,af c] h λr h'=>r=af (IntKind.i64.wrap (Li m s x y c))∧Ext h h':=by
 apply OL;unfold D5;obtain⟨p,q,rfl,hp,hq,a7⟩:=jm HS;simp only[bO];refine aI λb1 h1 r1 e1 n1=>?_
 rw[aU (l:=[p,q,af s.border]) r1 3 rfl,aj];refine(La (G.ext e1) (H.ext e1) (HS.ext e1)).mono λr h2 ⟨e,e2⟩=>?_
 subst e;rw[cP hs];have ar:(c<0)=False:=fJ ae;simp only[go_sem,ar];have H2:=H.ext (e1.trans e2);refine(fD H2).mono λr h3 ⟨e,F⟩=>?_
 have F:=F.symm;subst e F;simp only[go_sem];rw[cB ae,cK];have r2:=e2.row r1;have p2:=hp.ext (e1.trans e2);have q2:=hq.ext (e1.trans e2);refine bi (zdb h2 (bE s.x x) (bE s.y y)) ?_ ?_
 ·try simp only[go_sem,aK]
  refine aP (Ext h2) (Ext.refl _) ?_;refine aC p (λh' e=>am (e.row r2)) ?_;refine aC q (λh' e=>am (e.row r2)) ?_;have M0:=fO.start h2 (bE s.x x) (bE s.y y);have wx:=WS.x;have wy:=WS.y
  repeat' first
   |exact fO.fin ‹fO _ _ _ _ _ _ _ _›
   |exact fO.fin2 ‹fO _ _ _ _ _ _ _ _›
   |exact fO.ext ‹fO _ _ _ _ _ _ _ _›
   |refine And.intro ?_ ?_
   |refine fO.line_x ‹fO _ _ _ _ _ _ _ _› p2 wx λu' h' M=>?_
   |refine fO.line_y ‹fO _ _ _ _ _ _ _ _› q2 wy λu' h' M=>?_
   |refine fO.new_1 ‹fO _ _ _ _ _ _ _ _› λb' h' M=>?_
   |refine fO.new_2 ‹fO _ _ _ _ _ _ _ _› λb' h' M=>?_
   |refine fO.st1x ‹fO _ _ _ _ _ _ _ _› λh' M=>?_
   |refine fO.st2x ‹fO _ _ _ _ _ _ _ _› λh' M=>?_
   |refine fO.st1y ‹fO _ _ _ _ _ _ _ _› λh' M=>?_
   |refine fO.st2y ‹fO _ _ _ _ _ _ _ _› λh' M=>?_
 rintro xs ρj h3 ⟨a,d,u,w,rfl,e3,ra,rd,Su,Sw⟩;have bx:=qO WS.x x;have a8:=qO WS.y y;unfold Li;unfold uv;generalize bE s.x x=D at*;generalize bE s.y y=L at*;have hf:=dH W.fits;have c1:aG h3 ⟨d,1,none⟩=some w:=am rd;obtain⟨aw,cw,ew⟩:=Sw.isSl;have an:aD w=some (af (L.2.length:Int)):=by rw[ew];rfl
 obtain⟨au,cu,eu⟩:=Su.isSl;have ax:aD u=some (af (D.2.length:Int)):=by rw[eu];rfl
 simp only[go_sem,aK,c1,an];refine lG (λk=>[af (IntKind.i64.wrap (yL (λk=>L.2.getD k 0*yL (λi=>D.2.getD i 0*atP m (atZ s.border (D.1+i) m.w) (atZ s.border (L.1+k) m.h) c) D.2.length) k)),af (k:Int)]) L.2.length 0 rfl (bZ _) λk again ρk _ hk U=>?_
 simp only[go_sem];refine ao (λh4=>?_) (λh4=>?_)
 ·have ab:k<L.2.length:=ae;have U:=U ab;obtain⟨pk,k1,k2⟩:=Sw.int_at (k':=.i64) ab;have eb:L.2.getD k 0=L.2[k]:=by simp[dQ,ab]
  rw[k1,aj,k2,aj,←eb];have rs:=e3.row r2;refine aP (λh'=>h'=h3) rfl ?_;simp only[go_sem,aK];refine aC (af s.border) (λh' e=>by rw[e];exact am rs) ?_;refine aC (af L.1) (λh' e=>by rw[e];exact am rd) ?_;simp only[go_sem];rw[w64 (n:=L.1+(k:Int)) ae ae];have H3:=H2.ext e3;refine(sq H3).mono λr h5 ⟨e,F⟩=>?_
  have F:=F.symm;subst e F;refine⟨rfl,?_⟩;refine(vI (by unfold I64;omega)).mono λr h5 ⟨e,F⟩=>?_
  have F:=F.symm;subst e F;have c2:aG h3 ⟨a,1,none⟩=some u:=am ra;simp only[go_sem,aK,c2,ax];generalize ad:atZ s.border (L.1+(k:Int)) m.h=row at*;generalize hA:yL (λk=>L.2.getD k 0*yL (λi=>D.2.getD i 0*atP m (atZ s.border (D.1+i) m.w) (atZ s.border (L.1+k) m.h) c) D.2.length) k=A at*;have ay:yL (λk=>L.2.getD k 0*yL (λi=>D.2.getD i 0*atP m (atZ s.border (D.1+i) m.w) (atZ s.border (L.1+k) m.h) c) D.2.length) (k+1)=A+L.2.getD k 0*yL (λi=>D.2.getD i 0*atP m (atZ s.border (D.1+i) m.w) row c) D.2.length:=by
   simp only[yL];rw[hA,ad]
  rw[ay]at U;generalize L.2.getD k 0=bk at*;refine lG (λi=>[af (IntKind.i64.wrap (A+bk*yL (λi=>D.2.getD i 0*atP m (atZ s.border (D.1+i) m.w) row c) i)),af (i:Int)]) D.2.length 0 (by simp[yL]) (bZ _) λi al ρi _ hi I=>?_
  simp only[go_sem];refine ao (λh5=>?_) (λh5=>?_)
  ·have aa:i<D.2.length:=ae;have I:=I aa;obtain⟨pi,i1,i2⟩:=Su.int_at (k':=.i64) aa;have ea:D.2.getD i 0=D.2[i]:=by simp[dQ,aa]
   rw[i1,aj,i2,aj,←ea];refine aP (λh'=>h'=h3) rfl ?_;simp only[go_sem,aK];refine aC (af s.border) (λh' e=>by rw[e];exact am rs) ?_;refine aC (af D.1) (λh' e=>by rw[e];exact am ra) ?_;simp only[go_sem];rw[w64 (n:=D.1+(i:Int)) ae ae];refine(ut H3).mono λr h5 ⟨e,F⟩=>?_
   have F:=F.symm;subst e F;refine⟨rfl,?_⟩;refine(vI (by unfold I64;omega)).mono λr h5 ⟨e,F⟩=>?_
   have F:=F.symm;subst e F
   try simp only[go_sem]
   refine(zbN H3 W).mono λr h5 ⟨e,F⟩=>?_
   have F:=F.symm;subst e F;have hv:=zal W (atZ s.border (D.1+(i:Int)) m.w) row c;have hm:=W.m2;simp only[go_sem];rw[w64 (n:=atP m (atZ s.border (D.1+(i:Int)) m.w) row c) ae ae,Uu,w64 (n:=(i:Int)+1) ae ae];simp only[yL,GZ]at I;rw[←Int.add_assoc]at I;exact I
  ·have:i=D.2.length:=ae;subst this;rw[w64 (n:=(k:Int)+1) ae ae];exact U
 ·have:k=L.2.length:=ae;subst this;exact⟨rfl,e1.trans (e2.trans e3)⟩
theorem Em {A B C c d:Int}(h:A*C+c=B*C+d)(H:0≤c)(G:c<C)(d0:0≤d)(d1:d<C):A=B∧c=d:=by
 have D:(c+A*C)/C=A:=by rw[Rk _ _ ae,qQ H G];omega
 have F:(d+B*C)/C=B:=by rw[Rk _ _ ae,qQ d0 d1];omega
 have I:c+A*C=d+B*C:=ae;rw[I,F]at D;refine⟨D.symm,?_⟩;subst D;omega
theorem zaO {m:Pic}{x y c A H c':Int}(h:inP m x y c)(h':inP m A H c')(e:pC m x y c=pC m A H c'):x=A∧y=H∧c=c':=by
 obtain⟨x0,U,y0,y1,L,W⟩:=h;obtain⟨G,I,aa,ab,D,F⟩:=h';unfold pC at e;obtain⟨e1,e2⟩:=Em e L W D F;obtain⟨e3,e4⟩:=Em e1 x0 U G I;exact⟨e4,e3,e2⟩
theorem Um {m:Pic}(W:m.Wf){x y c n A D c':Int}(h:inP m x y c):atP (SJ m x y c n) A D c'=if A=x∧D=y∧c'=c then n else atP m A D c':=by
 have L:=LO W h;by_cases hi:inP m A D c'
 ·have I:=LO W hi;have F:inP (SJ m x y c n) A D c':=hi;unfold atP;rw[aA F,aA hi];show(m.l.set (pC m x y c).toNat n).getD (pC m A D c').toNat 0=_;by_cases G:A=x∧D=y∧c'=c
  ·rw[aA G];obtain⟨rfl,rfl,rfl⟩:=G;have:(pC m A D c').toNat<m.l.length:=ae;simp[dQ,this]
  ·rw[az G];have H:(pC m x y c).toNat≠(pC m A D c').toNat:=λhh=>G (by
    obtain⟨a,b,d⟩:=zaO hi h ae;exact⟨a,b,d⟩)
   simp[dQ,List.getElem?_set_ne H]
 ·have F:¬inP (SJ m x y c n) A D c':=hi;have G:¬(A=x∧D=y∧c'=c):=by rintro⟨rfl,rfl,rfl⟩;exact hi h
  unfold atP;rw[az F,az hi,az G]
def ahead (x y c x' y' c':Int):Prop:=y'<y∨(y'=y∧(x'<x∨(x'=x∧c'<c)))
structure Ur (h0 h:ah)(b:Nat)(v:Value)(n:Pic)(w hh c most:Int):Prop where
 img:db h b v n
 wf:n.Wf
 pw:n.w=w
 ph:n.h=hh
 pc:n.c=c
 pm:n.most=most
 ext:Ext h0 h
 nb:h0.size≤b
 nv:∀c,blk v c→h0.size≤c
theorem Ur.before {h1 h0 h:ah}{b:Nat}{v:Value}{n:Pic}{w hh c most:Int}(M:Ur h0 h b v n w hh c most)(e:Ext h1 h0):Ur h1 h b v n w hh c most:=
 ⟨M.img,M.wf,M.pw,M.ph,M.pc,M.pm,e.trans M.ext,bh e.1 M.nb,λc hc=>bh e.1 (M.nv c hc)⟩
theorem zbO {h:ah}(G:eB h){Z:Nat→Prop}{b:Nat}{v sv:Value}{m:Pic}{s:Stg}(H:db h b v m)(W:m.Wf)(HS:pU Z h sv s)(WS:s.Wf)(hs:nK m s)(aa:jA s.x.lines.length s.y.lines.length m.c):
  ag prog vT #[ptr b,sv] h λr h'=>∃b' v' n,r=.tuple #[ptr b',ai]∧Ur h h' b' v' n s.x.lines.length s.y.lines.length m.c m.most∧∀x y c,inP n x y c→atP n x y c=xp m s x y c:=by
 apply Kv;unfold Ar;obtain⟨p,q,rfl,hp,hq,bd⟩:=jm HS;simp only[bO];refine aI λb1 h1 r1 e1 n1=>?_
 rw[aU (l:=[p,q,af s.border]) r1 3 rfl,aj];refine(La (G.ext e1) (H.ext e1) (HS.ext e1)).mono λr h2 ⟨e,e2⟩=>?_
 subst e;rw[cP hs];simp only[go_sem,aK];have U:=e1.trans e2;have r2:=e2.row r1;refine aP (Ext h2) (Ext.refl _) ?_;refine aC p (λh' e=>am (e.row r2)) ?_;refine aC q (λh' e=>am (e.row r2)) ?_;refine(Dp (hp.ext U)).mono λr h3 ⟨e,A⟩=>?_
 have A:=A.symm;subst e A;refine⟨Ext.refl _,?_⟩;refine(Dp (hq.ext U)).mono λr h3 ⟨e,A⟩=>?_
 have A:=A.symm;subst e A;refine(fD (H.ext U)).mono λr h3 ⟨e,A⟩=>?_
 have A:=A.symm;subst e A;refine(uH (H.ext U)).mono λr h3 ⟨e,A⟩=>?_
 have A:=A.symm;subst e A;have ad:BN s.x.lines.length s.y.lines.length m.c m.most=0:=yv.2 ⟨aa,W.m1,W.m2⟩;refine yw.mono λr h3 ⟨pp,e,e3,_,s3⟩=>?_
 subst e;obtain⟨nb,nv,rfl,I,a8,a9,_⟩:=s3 ad;have hz:((0:Int)=0)=True:=jx rfl;rw[ad];simp only[go_sem,hz];refine(sq I).mono λr h4 ⟨e,A⟩=>?_
 have A:=A.symm;subst e A;have be:=W.m1;have bg:=W.m2;have M0:Ur h2 h3 nb nv (ur s.x.lines.length s.y.lines.length m.c m.most) s.x.lines.length s.y.lines.length m.c m.most:=⟨I,C1 ad,rfl,rfl,rfl,rfl,e3,a8,a9⟩
 obtain⟨X,hX⟩:∃X,X=s.x.lines.length:=⟨_,rfl⟩
 obtain⟨Y,hY⟩:∃Y,Y=s.y.lines.length:=⟨_,rfl⟩
 rw[←hX,←hY]at M0 aa ⊢;have hf:=dH aa;obtain⟨C,hC⟩:∃C:Nat,m.c=(C:Int):=⟨m.c.toNat,ae⟩
 rw[show(ur (X:Int) (Y:Int) m.c m.most).h=(Y:Int)from rfl]
 -- what holds at a place of the walk
 refine bH (α:=Pic) Y 0 (λy _=>[af (y:Int)]) (λy n h'=>Ur h2 h' nb nv n X Y m.c m.most∧∀F L c',inP n F L c'→ahead 0 y 0 F L c'→atP n F L c'=xp m s F L c') _ rfl (bZ _)
  ⟨M0,λF L c' hi ha=>by unfold ahead inP at*;omega⟩ λy n h4 again ρ1 _ hy ⟨M,D⟩ bc=>?_
 simp only[go_sem];refine ao (λh5=>?_) (λh5=>?_)
 ·refine(ut M.img).mono λr h5 ⟨e,A⟩=>?_
  have A:=A.symm;subst e A;rw[M.pw];refine bH (α:=Pic) X 0 (λx _=>[af (x:Int)]) (λx n h'=>Ur h2 h' nb nv n X Y m.c m.most∧∀F L c',inP n F L c'→ahead x y 0 F L c'→atP n F L c'=xp m s F L c') n rfl (bZ _)
   ⟨M,D⟩ λx n h5 ax ρ2 _ hx ⟨M,D⟩ al=>?_
  simp only[go_sem];refine ao (λh6=>?_) (λh6=>?_)
  ·refine(fD M.img).mono λr h6 ⟨e,A⟩=>?_
   have A:=A.symm;subst e A;rw[M.pc,hC];refine bH (α:=Pic) C 0 (λc _=>[af (c:Int)]) (λc n h'=>Ur h2 h' nb nv n X Y m.c m.most∧∀F L c',inP n F L c'→ahead x y c F L c'→atP n F L c'=xp m s F L c') n rfl (bZ _)
    ⟨M,D⟩ λc n h6 ay ρ3 _ hc ⟨M,D⟩ au=>?_
   simp only[go_sem];refine ao (λh7=>?_) (λh7=>?_)
   ·rw[aU (l:=[p,q,af s.border]) (M.ext.row r2) 3 rfl,aj];have E0:=U.trans M.ext;refine(c_Sum (G.ext E0) (H.ext E0) W (HS.ext E0) WS hs (x:=x) (y:=y) (c:=c) ae).mono λr h8 ⟨e,e8⟩=>?_
    subst e;have E8:=E0.trans e8;refine(uH (H.ext E8)).mono λr h9 ⟨e,A⟩=>?_
    have A:=A.symm;subst e A;refine(W1 (ka _)).mono λr h9 ⟨e,A⟩=>?_
    have A:=A.symm;subst e A;have hr:=Pf (IntKind.i64.wrap (Li m s x y c)) (most:=m.most) ae;have Mi:=M.img.ext e8;refine(W0 Mi M.wf hr.1 hr.2.1).mono λr an ⟨e,aw,f10,bk⟩=>?_
    subst e;have ar:inP n x y c:=⟨ae,by rw[M.pw];omega,ae,by rw[M.ph];omega,ae,by rw[M.pc];omega⟩
    have ab:inP n x y c∧yQ (IntKind.i64.wrap (Li m s x y c)) m.most≤n.most:=⟨ar,by rw[M.pm];omega⟩
    rw[aA ab]at aw;have a7:Ext h2 an:=(M.ext.trans e8).then_fr f10 M.nv
    try simp only[go_sem]
    rw[w64 ae ae];refine au (SJ n x y c (yQ (IntKind.i64.wrap (Li m s x y c)) m.most)) an ae ⟨⟨aw,VU M.wf hr.1 ab.2,M.pw,M.ph,M.pc,M.pm,a7,M.nb,M.nv⟩,λF L c' hi ha=>?_⟩;rw[Um M.wf ar];by_cases he:F=x∧L=y∧c'=c
    ·rw[aA he,he.1,he.2.1,he.2.2];rfl
    ·rw[az he];exact D F L c' hi (by unfold ahead at*;omega)
   ·have:c=C:=ae;subst this;rw[w64 ae ae];refine al n h6 ae ⟨M,λF L c' hi ha=>D F L c' hi ?_⟩;have h1:=M.pc;unfold ahead inP at*;omega
  ·have:x=X:=ae;subst this;rw[w64 ae ae];refine bc n h5 ae ⟨M,λF L c' hi ha=>D F L c' hi ?_⟩;have h1:=M.pw;unfold ahead inP at*;omega
 ·have:y=Y:=ae;subst this;refine⟨nb,nv,n,rfl,M.before U,λF L c' hi=>D F L c' hi ?_⟩;have h1:=M.ph;unfold ahead inP at*;omega
theorem LK (f n:Int){m:Int}(A:bC m):(gb f n m).Wf:=by
 unfold bC at A;refine⟨?_,λx F=>?_⟩
 ·show(List.map _ (List.range m.toNat)).length≤65536;rw[cV,fg];omega
 ·obtain⟨i,_,rfl⟩:=iG.1 F;have D:=qB (vl f n m i);refine⟨D.1,?_⟩;show _≤ft f n m i∧ft f n m i≤_;unfold ft;split
  ·rename_i h;have:=MG h;omega
  ·omega
theorem M6 {l:List Int}(A:∀x∈l,I64 x)(H:l.length≤1024){n:Int}(F:bC n):(lI l n).Wf:=by
 unfold bC at F;refine⟨?_,λx G=>?_⟩
 ·show(List.map _ (List.range n.toNat)).length≤65536;rw[cV,fg];omega
 ·obtain⟨i,hi,rfl⟩:=iG.1 G;have D:=qB A;have:=xy.1 hi;refine⟨D.1,?_⟩;show _≤(i:Int)-(l.length/2:Nat)∧(i:Int)-(l.length/2:Nat)≤_;omega
theorem AJ (o:OpD):(dZ o).length≤1024∧(dy o).length≤1024:=by
 have:=Fc o.sigma;have:=Jf o.radius;have:=xT o.x;have:=xT o.y;unfold dZ dy;constructor<;>split<;>(try split)<;>omega
theorem yq {o:OpD}{w h:Int}(hc:fu o w h=0):(ch o w h).Wf∧kF o∧bC w∧bC h:=by
 unfold fu at hc;split at hc
 ·cases hc
 ·rename_i D;have h1:kF o:=co λhh=>D (.inl hh)
  have F:bC w:=co λhh=>D (.inr (.inl hh))
  have G:bC h:=co λhh=>D (.inr (.inr hh))
  refine⟨⟨?_,?_⟩,h1,F,G⟩
  ·show(ko o w).Wf;unfold ko;split
   ·rename_i A;exact LK _ _ (h1.2.2 A).1
   ·exact M6 (yJ o) (AJ o).1 F
  ·show(gQ o h).Wf;unfold gQ;split
   ·rename_i A;exact LK _ _ (h1.2.2 A).2.1
   ·exact M6 (yI o) (AJ o).2 G
theorem IN {o:OpD}{w h:Int}(hc:fu o w h=0):((ch o w h).x.lines.length:Int)=pH o w∧((ch o w h).y.lines.length:Int)=tj o h:=by
 obtain⟨_,D,F,hh⟩:=yq hc;unfold bC at F hh;constructor
 ·show((ko o w).lines.length:Int)=_;unfold ko pH;split
  ·rename_i A;have:=(D.2.2 A).1;unfold bC at this;show((List.map _ (List.range o.w.toNat)).length:Int)=_;rw[cV,fg];omega
  ·show((List.map _ (List.range w.toNat)).length:Int)=_;rw[cV,fg];omega
 ·show((gQ o h).lines.length:Int)=_;unfold gQ tj;split
  ·rename_i A;have:=(D.2.2 A).2.1;unfold bC at this;show((List.map _ (List.range o.hh.toNat)).length:Int)=_;rw[cV,fg];omega
  ·show((List.map _ (List.range h.toNat)).length:Int)=_;rw[cV,fg];omega
theorem zaY (o:OpD)(w h:Int):(ch o w h).x.n=w∧(ch o w h).y.n=h:=by
 constructor
 ·show(ko o w).n=w;unfold ko;split<;>rfl
 ·show(gQ o h).n=h;unfold gQ;split<;>rfl
theorem JG {o:OpD}{m:Pic}(hc:fu o m.w m.h=0):nK m (ch o m.w m.h):=by
 obtain⟨_,A,_,_⟩:=yq hc;obtain⟨h1,D⟩:=zaY o m.w m.h;exact⟨h1,D,A.2.1.1,A.2.1.2⟩
def Pj:Pic:=⟨1,1,1,255,[7]⟩
def UR:OpD:=⟨1,0,0,2,[],[],0,0,0⟩
theorem Vx {h:ah}(G:eB h):ag prog xK #[] h λr h'=>r=.bool true∧Ext h h':=by
 apply Mh;unfold A9;refine da (c':=#[.int .u16 7]) rfl λb1 h1 r1 e1 n1=>?_
 have S1:=CE (k:=.u16) (l:=[7]) (n:=1) rfl r1;have a0:BN 1 1 1 255=0:=by decide+kernel
 refine(R9 S1 a0 (by decide) (by simp)).mono λr h2 ⟨p,e,N⟩=>?_
 subst e;obtain⟨b,v,rfl,I,nb,nv,e2⟩:=N;have I:db h2 b v Pj:=I;have W:Pj.Wf:=⟨by decide+kernel,by decide,by decide,by decide,by simp[Pj]⟩
 have hf:(aM #[ai,ai,ai,ai,(.slice none 0 0),(.slice none 0 0),ai,ai,ai] [(0,1,aH),(3,1,(af 2))])=some #[aH,ai,ai,af 2,.slice none 0 0,.slice none 0 0,ai,ai,ai]:=rfl;simp only[go_sem];rw[hf,bG,aj];have wf:UR.Wf:=Bt (by simp[I64]);have G2:=G.ext (e1.trans e2);refine(Jd (Z:=λ_=>True) (o:=UR) G2 Bu wf (by simp[UR]) (by simp[UR]) (by unfold I64;omega) (by unfold I64;omega)).mono λw h3 ⟨sv,e,e3,_,s1⟩=>?_
 subst e;have a1:fu UR 1 1=0:=by decide+kernel
 have HS:=s1 a1;rw[a1];obtain⟨p,q,rfl,hp,hq,A⟩:=jm HS;simp only[go_sem];refine dk (cs:=[p,q,af _]) rfl A rfl λb4 h4 r4 e4 n4=>?_
 refine Yd.mono λr h5 ⟨e,F⟩=>?_
 subst e;simp only[go_sem];have E5:=(e1.trans e2).trans (e3.trans (e4.trans F));refine(Nr (G.ext E5)).mono λr h6 ⟨e,D⟩=>?_
 subst e;have z0:((0:Int)=0)=True:=jx rfl;have np:ak .p .eql (ptr b) (.pointer none)=some (.bool false):=rfl;have ab:∀b,ak .p .neq (ptr b) (.pointer none)=some (.bool true):=λ_=>rfl
 simp only[go_sem,z0,np,gm];have E6:=E5.trans D;have aa:=e3.trans (e4.trans (F.trans D));rw[aU (l:=[p,q,af _]) ((F.trans D).row r4) 3 rfl,aj];have hs:nK Pj (ch UR 1 1):=JG (m:=Pj) a1;refine(zbO (G.ext E6) (I.ext aa) W (HS.ext (e4.trans (F.trans D))) (yq a1).1 hs (by decide+kernel)).mono λr h7 ⟨b',v',n,e,M,L⟩=>?_
 subst e;simp only[go_sem,z0,ab,gm];refine(zbN M.img M.wf).mono λr h8 ⟨e,H⟩=>?_
 have H:=H.symm;subst e H;have U:inP n 0 0 0:=⟨ae,by rw[M.pw];decide+kernel,ae,by rw[M.ph];decide+kernel,ae,by rw[M.pc];decide⟩
 rw[L 0 0 0 U];have hv:xp Pj (ch UR 1 1) 0 0 0=7:=by decide+kernel
 rw[hv];simp only[go_sem,kU,gm];exact⟨by simp,E6.trans M.ext⟩
structure sT where
 w:Int
 h:Int
 c:Int
 most:Int
 l:List Int
structure sT.Wf (a:sT):Prop where
 w:U16 a.w
 h:U16 a.h
 c:U16 a.c
 most:U16 a.most
 l:∀x∈a.l,U16 x
 len:a.l.length≤4611686018427387904
def nT:Rp sT where
 w:=5
 R:=λZ h cs a=>∃u,cs=[.int .u16 a.w,.int .u16 a.h,.int .u16 a.c,.int .u16 a.most,u]∧Rp.Sl rU Z h u a.l
 len:=by rintro _ _ _ _ ⟨x,rfl,_⟩;rfl
 one:=by
  rintro _ _ _ _ ⟨x,rfl,H⟩;exact aq rfl (aq rfl (aq rfl (aq rfl (aq H.one aX))))
 fr:=by rintro _ _ _ _ _ _ ⟨x,rfl,H⟩ f q;exact⟨x,rfl,H.fr f q⟩
 mono:=by rintro _ _ _ _ _ ⟨x,rfl,H⟩ q;exact⟨x,rfl,H.mono q⟩
def em (a:sT):Pic:=BV (a.w%12) (a.h%12) a.c a.most a.l
theorem vF (a:sT):(em a).Wf:=TQ _ _ _ _ _
theorem BW (a:sT):1≤(em a).w∧(em a).w≤12∧1≤(em a).h∧(em a).h≤12:=by
 show 1≤1+a.w%12%20∧1+a.w%12%20≤12∧1≤1+a.h%12%20∧1+a.h%12%20≤12;omega
theorem sU.before {h0 h h':ah}{p:Value}{m:Pic}(N:sU h h' p m)(e:Ext h0 h):sU h0 h' p m:=by
 obtain⟨b,v,A,I,nb,nv,E⟩:=N;exact⟨b,v,A,I,bh e.1 nb,λc hc=>bh e.1 (nv c hc),e.trans E⟩
theorem Jb {Z:Nat→Prop}{h:ah}{cs:List Value}{a:sT}(H:nT.R Z h cs a)(W:a.Wf):ag prog eW #[.agg cs.toArray] h λr h'=>sU h h' r (em a):=by
 apply AH;unfold pQ;obtain⟨u,rfl,U⟩:=H;simp only[bO];refine aI λA h1 r1 D n1=>?_
 have I:aG h1 ⟨A,0,none⟩=some (.int .u16 a.w):=am r1;have q1:aG h1 ⟨A,1,none⟩=some (.int .u16 a.h):=am r1;have L:aG h1 ⟨A,2,none⟩=some (.int .u16 a.c):=am r1;have F:aG h1 ⟨A,3,none⟩=some (.int .u16 a.most):=am r1;have G:aG h1 ⟨A,4,none⟩=some u:=am r1;have w0:=W.w;have w1:=W.h;simp only[go_sem,aK,I];rw[dP _ _ _ _ ae,aj];simp only[go_sem,aK,q1];rw[dP _ _ _ _ ae,aj];simp only[go_sem,aK,L,F,G];rw[jT w0.1,jT w1.1];exact(ZX (U.ext D) (by unfold U16;omega) (by unfold U16;omega) W.c W.most W.l W.len).mono λr h' N=>N.before D
theorem jC.since {α:Type}{e:Rp α}{h0 h h':ah}{v:Value}{l:List α}(H:jC e h h' v l)(k:Ext h0 h):Rp.Sl e (fN h0 h') h' v l:=H.sl.mono λc hc A=>⟨bh k.1 A.1,hc⟩
theorem Ud {Z:Nat→Prop}{h:ah}(G:eB h){v:Value}{l:List OpD}{b:Nat}{iv:Value}{m:Pic}(H:Rp.Sl rOp Z h v l)(few:l.length≤4)(WO:Ej l)(I:db h b iv m)(W:m.Wf):
  ag prog iu #[v,ptr b] h λr h'=>Ext h h'∧∃sv rv ok,r=.tuple #[sv,rv,.bool ok]∧aQ sv=true∧(ok=true↔ns 12 l∧Az l m.w m.h m.c=0)∧
   (ok=true→Rp.Sl D8 (fN h h') h' sv (xC l m.w m.h)∧Rp.Sl xm (fN h h') h' rv (xC l m.w m.h)):=by
 apply Kr;unfold An;obtain⟨a,cap,e⟩:=H.isSl;have e2:aD v=some (af (l.length:Int)):=by rw[e];rfl
 have np:ak .p .eql (ptr b) (.pointer none)=some (.bool false):=rfl;simp only[go_sem,e2,np];have h4:((4:Int)<(l.length:Int))=False:=fJ ae;simp only[go_sem,h4];refine(zad (side:=12) H ae).mono λr h1 ⟨e,F⟩=>?_
 subst e;simp only[go_sem];refine ao (λL=>?_) (λL=>?_)
 ·exact⟨F,_,_,false,rfl,rfl,⟨λh=>(by cases h),λh=>absurd h.1 L⟩,λh=>(by cases h)⟩
 have L:ns 12 l:=co L;have hf:=dH W.fits;have hW:I64 m.w:=by unfold I64;omega
 have hH:I64 m.h:=by unfold I64;omega
 have D:∀(U:ah) (E:Ext h U) (K:Value→Value→Value→ah→Prop),K (af m.w) (af m.h) (af m.c) U→
   ag prog bL #[ptr b] U λau an=>ag prog bN #[ptr b] an λar al=>ag prog aV #[ptr b] al λab aw=>K au ar ab aw:=by
  intro U E K HK;refine(ut (I.ext E)).mono λr h3 ⟨e,A⟩=>?_
  have A:=A.symm;subst e A;refine(sq (I.ext E)).mono λr h3 ⟨e,A⟩=>?_
  have A:=A.symm;subst e A;refine(fD (I.ext E)).mono λr h3 ⟨e,A⟩=>?_
  have A:=A.symm;subst e A;exact HK
 refine D h1 F _ ?_;refine(zbu (G.ext F) (H.ext F) WO hW hH (c:=m.c)).mono λr U ⟨sv,e,ad,s0,s1⟩=>?_
 subst e;simp only[go_sem];have E2:=F.trans ad;refine(zcV (H.ext E2) ae).mono λlv h3 ⟨HR,e3⟩=>?_
 have E3:=E2.trans e3;refine D h3 E3 _ ?_;refine(ZU HR WO hW hH (c:=m.c)).mono λr h5 ⟨rv,e,e5,t0,t1⟩=>?_
 subst e;simp only[go_sem];have E5:=E3.trans e5;by_cases hc:Az l m.w m.h m.c=0
 ·have S:=(s1 hc).ext (e3.trans e5);have T:=t1 hc;obtain⟨a7,ay,es⟩:=S.isSl;obtain⟨at_,ct,et⟩:=T.isSl;have ax:aD sv=some (af ((xC l m.w m.h).length:Int)):=by rw[es];rfl
  have aa:aD rv=some (af ((xC l m.w m.h).length:Int)):=by rw[et];rfl
  simp only[go_sem,hc,ax,aa];refine⟨E5,sv,rv,true,by simp,by rw[es];rfl,⟨λ_=>⟨L,trivial⟩,λ_=>rfl⟩,λ_=>⟨?_,?_⟩⟩
  ·exact S.since F
  ·exact T.since E3
 ·simp only[go_sem,hc];exact⟨E5,sv,rv,false,by simp,by rw[s0 hc];rfl,⟨λh=>(by cases h),λh=>h.2.elim⟩,λh=>(by cases h)⟩
end Go.Proofs.YtjljhnandbbldaaGreatDoor
namespace Go.Proofs.YtjljhnandbbldaaGreatDoor
open Go Go.Crisp
open _root_.Go.Proofs.Tryz
structure VK (L:List (String×DataW Unit)):Prop where
 plain:(L.all λx=>x.2.handleName?.isNone)=true
 names:("smalto/border.names",Rows.laid_smalto_border_names)∈L
 kinds:("smalto/raw.kinds",Rows.laid_smalto_raw_kinds)∈L
theorem VK.glob {L:List (String×DataW Unit)}(l:VK L){h:ah}(H:Cg prog L h):eB h:=Zg H l.plain l.names l.kinds
theorem Lf {n:Int}(h:(Lit.int .u16 n).wf=true):0≤n∧n≤65535:=by
 have h:(decide (IntKind.u16.min≤n)&&decide (n≤IntKind.u16.max))=true:=h;rw[dh,dS,dS]at h;exact h
abbrev Uz:TS:=.int .u16
abbrev Xo:TS:=.pair Uz (.pair Uz (.pair Uz (.pair Uz (.pair (.sl Uz 2) .unit))))
def VZ (x:Xo.T):sT:=⟨x.1,x.2.1,x.2.2.1,x.2.2.2.1,x.2.2.2.2.1⟩
theorem UA {h:ah}{v:Value}{l:List Int}(H:SlC 1 h v l.length (l.map (Value.int .u16))):Rp.Sl rU (λ_=>True) h v l:=
 ⟨_,H,λ_ _ _=>trivial,λi hi=>by
  show Rp.el 1 _ i=[.int .u16 l[i]];rw[Rp.el_one (by simpa using hi),eU]⟩
theorem zay {h:ah}{cs:List Value}{l:List Int}(H:Rd (.sl Uz 2) h cs l):∃v,cs=[v]∧Rp.Sl rU (λ_=>True) h v l∧(∀n∈l,U16 n)∧l.length*2≤140737488351232:=by
 obtain⟨v,rfl,h1,D,F⟩:=UC (e:=Uz) (Value.int .u16) U16 rfl (λds x A=>⟨A.1,Lf A.2⟩) H;exact⟨v,rfl,UA h1,D,F⟩
theorem zck {h:ah}{cs:List Value}{x:Xo.T}(H:Rd Xo h cs x):nT.R (λ_=>True) h cs (VZ x)∧(VZ x).Wf:=by
 obtain⟨_,_,rfl,⟨rfl,a1⟩,_,_,rfl,⟨rfl,a2⟩,_,_,rfl,⟨rfl,a3⟩,_,_,rfl,⟨rfl,a4⟩,_,_,rfl,a5,rfl⟩:=H;obtain⟨s,rfl,D,F,A⟩:=zay a5;have A:(VZ x).l.length*2≤140737488351232:=A;exact⟨⟨s,rfl,D⟩,⟨Lf a1,Lf a2,Lf a3,Lf a4,F,ae⟩⟩
theorem zaR {h:ah}{cs:List Value}{x:tOp.T}(H:Rd tOp h cs x):Ej [Tb x]:=by
 have h1:=(zbZ H).2;have D:=zcm H;refine⟨λo A=>?_,λo A=>?_,by simp⟩<;>(rw[ib.1 A])
 ·exact h1
 ·exact D
end Go.Proofs.YtjljhnandbbldaaGreatDoor
namespace Go.Proofs.YtjljhnandbbldaaGreatDoor
open Go Go.Crisp
attribute [local irreducible] ag df aW stK aF vK qK bJ gK eK aZ mkK di Fi GM CF bsK clK
open _root_.Go.Proofs.Tryz
theorem HN (o:Nat):∀(l:List Value) (c:Array Value) (k:Nat),(l.zipIdx k).foldl (λcs (p:Value×Nat)=>cs.setIfInBounds (o+p.2) p.1) c=wrL c (o+k) l
 | [],_,_=>rfl
 |v::l,c,k=>by
  simp only[List.zipIdx_cons,wY,wrL];exact HN o l _ (k+1)
theorem bP {c:Array Value}{o n:Nat}{v:Value}{l:List Value}{rest:List (Nat×Nat×Value)}(D:v.cells=l.toArray)(A:l.length=n)(F:o+n≤c.size):aM c ((o,n,v)::rest)=aM (wrL c o l) rest:=by
 simp only[aM,D];rw[az (by simp[A];omega)]
 congr 1
 rw[Wq,Wp]
 ·exact HN o l c 0
 ·simp
structure dn where
 s:Stg
 w:Int
 h:Int
def fm (n:Int):Prop:=1≤n∧n≤4096
instance (n:Int):Decidable (fm n):=by unfold fm;infer_instance
structure dn.Wf (d:dn):Prop where
 s:d.s.Wf
 w:fm d.w
 h:fm d.h
def dn.X (d:dn):Int:=d.s.x.lines.length
def dn.Y (d:dn):Int:=d.s.y.lines.length
structure sV (Z:Nat→Prop)(h:ah)(b:Nat)(d:dn)(p q:Value):Prop where
 row:h[b]? =some (.cells #[p,q,.int .i64 d.s.border,.int .i64 d.w,.int .i64 d.h] 184 (0,0))
 x:fG Z h p d.s.x
 y:fG Z h q d.s.y
theorem sV.ext {Z:Nat→Prop}{h h':ah}{b:Nat}{d:dn}{p q:Value}(H:sV Z h b d p q)(e:Ext h h'):sV Z h' b d p q:=⟨e.row H.row,H.x.ext e,H.y.ext e⟩
def dG (n size:Int):Int:=(n+size-1)/size
def dC (d:dn):Int:=dG d.X d.w
def bX (d:dn):Int:=dC d*dG d.Y d.h
def jR (d:dn)(i:Int):Int:=i%dC d*d.w
def kf (d:dn)(i:Int):Int:=i/dC d*d.h
def tQ (d:dn)(i:Int):Int:=min d.w (d.X-jR d i)
def vV (d:dn)(i:Int):Int:=min d.h (d.Y-kf d i)
theorem nW {n size:Int}(D:0≤n∧n≤65536)(A:fm size):0≤dG n size∧dG n size≤65536∧(1≤n→1≤dG n size):=by
 unfold fm at A;unfold dG;refine⟨y8 ae ae,?_,λh=>?_⟩
 ·have:=rZ (a:=n+size-1) (b:=size) (L:=0) (U:=70000) ae ae ae ae ae;apply G9;rw[wW ae];omega
 ·rw[ui ae];omega
theorem dn.bd {d:dn}(W:d.Wf):(0≤d.X∧d.X≤65536)∧(0≤d.Y∧d.Y≤65536):=by
 have h1:=W.s.x.len;have A:=W.s.y.len;unfold dn.X dn.Y;omega
theorem WZ {h:ah}{n size:Int}(D:0≤n∧n≤65536)(A:fm size):ag prog uG #[af n,af size] h λr h'=>r=af (dG n size)∧h'=h:=by
 apply OB;unfold DT;have F:=nW D A;unfold fm at A;unfold dG at*;simp only[go_sem];rw[w64 (n:=n+size) ae ae,w64 (n:=n+size-1) ae ae,mq _ _ _ _ ae,aj,wU ae,w64 ae ae];exact⟨rfl,trivial⟩
theorem Jc {Z:Nat→Prop}{h:ah}{b:Nat}{d:dn}{p q:Value}(H:sV Z h b d p q)(W:d.Wf):ag prog gN #[ptr b] h λr h'=>r=af (dC d)∧h'=h:=by
 apply BE;unfold rD;simp only[go_sem,aK];refine aP (λh'=>h'=h) rfl ?_;refine aC p (λh' e=>by rw[e];exact am H.row) ?_;refine aC (af d.w) (λh' e=>by rw[e];exact am H.row) ?_;refine(Dp H.x).mono λr h1 ⟨e,A⟩=>?_
 have A:=A.symm;subst e A;exact⟨rfl,WZ (dn.bd W).1 W.w⟩
theorem C8 {Z:Nat→Prop}{h:ah}{b:Nat}{d:dn}{p q:Value}(H:sV Z h b d p q)(W:d.Wf):ag prog dY #[ptr b] h λr h'=>r=af (bX d)∧h'=h:=by
 apply EP;unfold vd;simp only[go_sem,aK];refine aP (λh'=>h'=h) rfl ?_;refine aC q (λh' e=>by rw[e];exact am H.row) ?_;refine aC (af d.h) (λh' e=>by rw[e];exact am H.row) ?_;refine(Jc H W).mono λr h1 ⟨e,D⟩=>?_
 have D:=D.symm;subst e D;refine⟨rfl,?_⟩;refine(Dp H.y).mono λr h1 ⟨e,D⟩=>?_
 have D:=D.symm;subst e D;refine⟨rfl,?_⟩;refine(WZ (dn.bd W).2 W.h).mono λr h1 ⟨e,D⟩=>?_
 have D:=D.symm;subst e D;simp only[go_sem];have h1:=nW (dn.bd W).1 W.w;have F:=nW (dn.bd W).2 W.h;have G:=mT (a:=dC d) (A:=65536) (b:=dG d.Y d.h) (B:=65536) h1.1 h1.2.1 F.1 F.2.1;have e:dC d*dG (d.s.y.lines.length:Int) d.h=bX d:=rfl;have G:0≤dC d*dG (d.s.y.lines.length:Int) d.h∧dC d*dG (d.s.y.lines.length:Int) d.h≤65536*65536:=G;rw[w64 ae ae];exact⟨rfl,trivial⟩
theorem Np {h:ah}{n:Int}:ag prog xe #[af n] h λr h'=>r=.bool (decide (fm n))∧h'=h:=by
 apply QR;unfold Ga;simp only[go_sem];exact⟨rfl,trivial⟩
theorem PY {Z:Nat→Prop}{h:ah}{sv:Value}{s:Stg}{w hh:Int}(HS:pU Z h sv s):ag prog zS #[sv,af w,af hh] h λr h'=>
  Ext h h'∧((fm w∧fm hh)→∃b p q,r=.tuple #[ptr b,ai]∧h.size≤b∧sV Z h' b ⟨s,w,hh⟩ p q)∧(¬(fm w∧fm hh)→r=.tuple #[.pointer none,af 9]):=by
 apply Tl;unfold Jy;obtain⟨p,q,rfl,hp,hq,U⟩:=jm HS;simp only[bO];refine aI λI h1 r1 D n1=>?_
 have np:=(Io hp).2;have nq:=(Io hq).2;have q0:aG h1 ⟨I,0,none⟩=some p:=am r1;have q1:aG h1 ⟨I,1,none⟩=some q:=am r1;simp only[go_sem,aK,q0,q1,np,nq];refine Np.mono λr W ⟨e,A⟩=>?_
 have A:=A.symm;subst e A;by_cases L:fm w
 ·simp only[go_sem,L];refine Np.mono λr W ⟨e,A⟩=>?_
  have A:=A.symm;subst e A;by_cases F:fm hh
  ·simp only[go_sem,F];rw[aU (l:=[p,q,af s.border]) r1 3 rfl,aj];have hf:aM #[(.pointer none),(.pointer none),ai,ai,ai] [(0,3,.agg #[p,q,af s.border]),(3,1,af w),(4,1,af hh)]=some #[p,q,af s.border,af w,af hh]:=rfl;rw[hf,bG,aj];refine aI (c:=#[p,q,af s.border,af w,af hh]) λb2 W r2 H n2=>?_
   exact⟨D.trans H,λ_=>⟨b2,p,q,rfl,bh D.1 n2,r2,hp.ext (D.trans H),hq.ext (D.trans H)⟩,λG=>absurd ⟨trivial,trivial⟩ G⟩
  ·simp only[go_sem,F];exact⟨D,λG=>G.2.elim,λ_=>by simp⟩
 ·simp only[go_sem,L];exact⟨D,λG=>G.1.elim,λ_=>by simp⟩
structure cZ where
 number:Int
 x:Int
 y:Int
 w:Int
 h:Int
 fx:Int
 fy:Int
 cx:Int
 cy:Int
 ring:Int
abbrev dA (t:cZ):List Value:=[.int .i64 t.number,.int .i64 t.x,.int .i64 t.y,.int .i64 t.w,.int .i64 t.h,.int .i64 t.fx,.int .i64 t.fy,.int .i64 t.cx,.int .i64 t.cy,.int .i64 t.ring]
theorem kj (t:cZ):∀v∈dA t,aQ v=true:=by
 intro v A;simp only[dA,kq,List.not_mem_nil,or_false]at A;rcases A with rfl|rfl|rfl|rfl|rfl|rfl|rfl|rfl|rfl|rfl<;>rfl
theorem Lj {d:dn}(W:d.Wf){i:Int}(h0:0≤i)(h1:i<bX d):0≤jR d i∧jR d i<d.X∧0≤kf d i∧kf d i<d.Y:=by
 have A:=dn.bd W;have G:=W.w;have hh:=W.h;unfold fm at G hh;have L:=nW A.1 W.w;have h3:=nW A.2 W.h;have hc:0<dC d:=by
  rcases mU 0 (dC d)with h|h
  ·exact h
  ·have h4:0≤dC d:=L.1;have:dC d=0:=ae;unfold bX at h1;rw[this,Int.zero_mul]at h1;omega
 have U:=ks i (show dC d≠0 by omega);have m1:=iF i hc;have q0:=y8 h0 (show 0≤dC d by omega);have q1:i/dC d<dG d.Y d.h:=by
  rw[wW hc,fQ];exact h1
 have key:∀(n size k:Int),0≤n→1≤size→0≤k→k<dG n size→0≤k*size∧k*size<n:=by
  intro n size k hn hs I D;refine⟨mV I ae,?_⟩;have h5:k+1≤(n+size-1)/size:=D;rw[ui ae,jw,kp]at h5;omega
 have H:=key d.X d.w (i%dC d) A.1.1 G.1 U m1;have F:=key d.Y d.h (i/dC d) A.2.1 hh.1 q0 q1;exact⟨H.1,H.2,F.1,F.2⟩
theorem PX {Z:Nat→Prop}{h:ah}{b:Nat}{d:dn}{p q:Value}(H:sV Z h b d p q)(W:d.Wf){i:Int}(h0:0≤i)(h1:i<bX d):ag prog mL #[ptr b,af i] h λr h'=>
  r=.agg #[af (jR d i),af (kf d i),af (tQ d i),af (vV d i)]∧Ext h h':=by
 apply II;unfold ye;have ti:=Lj W h0 h1;have hb:=dn.bd W;have hw:=W.w;have hh:=W.h;unfold fm at hw hh;have h2:=nW hb.1 W.w;have G:=nW hb.2 W.h;have ad:0≤dC d∧dC d≤65536:=⟨h2.1,h2.2.1⟩
 have ab:=mT (a:=dC d) (A:=65536) (b:=dG d.Y d.h) (B:=65536) h2.1 h2.2.1 G.1 G.2.1;have aa:bX d=dC d*dG d.Y d.h:=rfl;have hc:0<dC d:=by
  rcases mU 0 (dC d)with h|h
  ·exact h
  ·have:dC d=0:=ae;rw[aa,this,Int.zero_mul]at h1;omega
 have hq:=rZ (a:=i) (b:=dC d) (L:=0) (U:=4294967296) ae ae ae ae ae;refine aI λb1 I r1 e1 n1=>?_
 have F:=H.ext e1;simp only[go_sem,aK];refine aP (λh'=>h'=I) rfl ?_;refine aC (af d.w) (λh' e=>by rw[e];exact am F.row) ?_;refine aC (af d.h) (λh' e=>by rw[e];exact am F.row) ?_;refine(Jc F W).mono λr G ⟨e,D⟩=>?_
 have D:=D.symm;subst e D;refine⟨rfl,?_⟩;rw[dP _ _ _ _ ae,aj,jT h0];simp only[go_sem];refine(Jc F W).mono λr G ⟨e,D⟩=>?_
 have D:=D.symm;subst e D;refine⟨rfl,?_⟩;rw[mq _ _ _ _ ae,aj,wU h0];simp only[go_sem];have ex:i%dC d*d.w=jR d i:=rfl;have ey:i/dC d*d.h=kf d i:=rfl;rw[w64 (n:=i/dC d) ae ae,ex,ey,w64 (n:=jR d i) ae ae,w64 (n:=kf d i) ae ae];refine aP (λh'=>h'=I) rfl ?_;simp only[go_sem,aK];refine aC (af d.w) (λh' e=>by rw[e];exact am F.row) ?_;refine aC p (λh' e=>by rw[e];exact am F.row) ?_;refine aC (af d.h) (λh' e=>by rw[e];exact am F.row) ?_;refine aC q (λh' e=>by rw[e];exact am F.row) ?_;refine(Dp F.x).mono λr G ⟨e,D⟩=>?_
 have D:=D.symm;subst e D;refine⟨rfl,?_⟩;simp only[go_sem];have eX:(d.s.x.lines.length:Int)=d.X:=rfl;have eY:(d.s.y.lines.length:Int)=d.Y:=rfl;rw[eX,w64 (n:=d.X-jR d i) ae ae];refine aC (af (min d.w (d.X-jR d i))) (λh' e=>by first|exact MA _ _ _|rfl) ?_;refine(Dp F.y).mono λr G ⟨e,D⟩=>?_
 have D:=D.symm;subst e D;refine⟨rfl,?_⟩;simp only[go_sem];rw[eY,w64 (n:=d.Y-kf d i) ae ae];refine aC (af (min d.h (d.Y-kf d i))) (λh' e=>by first|exact MA _ _ _|rfl) ?_;have hf:aM #[ai,ai,ai,ai] [(0,1,af (jR d i)),(1,1,af (kf d i)),(2,1,af (min d.w (d.X-jR d i))),(3,1,af (min d.h (d.Y-kf d i)))]=some #[af (jR d i),af (kf d i),af (tQ d i),af (vV d i)]:=rfl;rw[hf,bG,aj];refine cT (l:=[af (jR d i),af (kf d i),af (tQ d i),af (vV d i)]) r1 rfl (aq rfl (aq rfl (aq rfl (aq rfl aX)))) rfl λh5 r5 u5=>?_
 rw[aU r5 4 rfl,aj];exact⟨rfl,e1.upd n1 u5⟩
theorem XW (a b c d e f:Int):aM #[ai,ai,ai,ai,ai,ai,ai,ai,ai,ai] [(0,1,af a),(1,4,.agg #[af b,af c,af d,af e]),(9,1,af f)]=some (dA ⟨a,b,c,d,e,0,0,0,0,f⟩).toArray:=by
 refine(bP (n:=1) (l:=[af a]) rfl rfl (by simp)).trans ?_;refine(bP (n:=4) (l:=[af b,af c,af d,af e]) rfl rfl (by simp[cG])).trans ?_;refine(bP (n:=1) (l:=[af f]) rfl rfl (by simp[cG])).trans ?_;rw[gG];simp[wrL,dA]
def aT (d:dn)(i:Int):cZ:=
 ⟨i,jR d i,kf d i,tQ d i,vV d i,(xk d.s.x (jR d i) (jR d i+tQ d i)).1,(xk d.s.y (kf d i) (kf d i+vV d i)).1,
  (xk d.s.x (jR d i) (jR d i+tQ d i)).2,(xk d.s.y (kf d i) (kf d i+vV d i)).2,cD d.s.y.lines⟩
theorem vH {Z:Nat→Prop}{h:ah}{b:Nat}{d:dn}{p q:Value}(H:sV Z h b d p q)(W:d.Wf){i:Int}(h0:0≤i)(h1:i<bX d):ag prog fY #[ptr b,af i] h λr h'=>
  r=.tuple #[.agg (dA (aT d i)).toArray,.bool true]∧Ext h h':=by
 apply GJ;unfold wK;have ti:=Lj W h0 h1;have hb:=dn.bd W;have hw:=W.w;have hh:=W.h;unfold fm at hw hh;refine aI λb1 h2 r1 e1 n1=>?_
 have G:=H.ext e1;have hi:(i<0)=False:=fJ ae;simp only[go_sem,hi];refine(C8 G W).mono λr h3 ⟨e,F⟩=>?_
 have F:=F.symm;subst e F;simp only[go_sem];rw[cB ae,cK];have au:=bB r1;refine bi (λxs h'=>∃U,xs=[ptr U]∧Ext h2 h'∧h2.size≤U∧h'[U]? =some (.cells (dA ⟨i,jR d i,kf d i,tQ d i,vV d i,0,0,0,0,cD d.s.y.lines⟩).toArray 116 (0,0))) ?_ ?_
 ·simp only[go_sem,aK];refine aP (Ext h2) (Ext.refl _) ?_;refine aC q (λh' e=>am (e.row G.row)) ?_;have hf:aM #[ai,ai,ai,ai,ai,ai,ai,ai,ai,ai] [(0,1,af i),(1,4,.agg #[af (jR d i),af (kf d i),af (tQ d i),af (vV d i)]),(9,1,af (cD d.s.y.lines))]=some (dA ⟨i,jR d i,kf d i,tQ d i,vV d i,0,0,0,0,cD d.s.y.lines⟩).toArray:=XW _ _ _ _ _ _;refine⟨?_,?_⟩
  ·refine(PX G W h0 h1).mono λr h3 ⟨e,D⟩=>?_
   subst e;refine⟨D,?_,?_⟩
   ·refine(Sf (G.y.ext D)).mono λr h4 ⟨e,F⟩=>?_
    have F:=F.symm;subst e F;refine⟨D,?_⟩;rw[hf,bG,aj];refine aI λb4 h4 r4 A n4=>⟨D.trans A,?_⟩
    have I:=bh D.1 n4;refine cT (l:=dA _) r4 rfl (kj _) rfl λh5 r5 u5=>?_
    have E:=(D.trans A).upd I u5;exact⟨E,b4,rfl,E,I,r5⟩
   ·refine aI λb4 h4 r4 A n4=>⟨D.trans A,?_⟩
    have I:=bh D.1 n4;refine(Sf (G.y.ext (D.trans A))).mono λr h5 ⟨e,F⟩=>?_
    have F:=F.symm;subst e F;refine⟨D.trans A,?_⟩;rw[hf,bG,aj];refine cT (l:=dA _) r4 rfl (kj _) rfl λh5 r5 u5=>?_
    have E:=(D.trans A).upd I u5;exact⟨E,b4,rfl,E,I,r5⟩
  ·refine aI λb4 h4 r4 A n4=>⟨A,?_⟩
   refine(PX (G.ext A) W h0 h1).mono λr h3 ⟨e,D⟩=>?_
   subst e;refine⟨A.trans D,?_⟩;refine(Sf (G.y.ext (A.trans D))).mono λr h5 ⟨e,F⟩=>?_
   have F:=F.symm;subst e F;refine⟨A.trans D,?_⟩;rw[hf,bG,aj];refine cT (l:=dA _) (D.row r4) rfl (kj _) rfl λh5 r5 u5=>?_
   have E:=(A.trans D).upd n4 u5;exact⟨E,b4,rfl,E,n4,r5⟩
 rintro xs ρj h3 ⟨U,rfl,E3,L,r3⟩;have H3:=G.ext E3;have ax:=G.row;have ad:b≠U:=by have:=bB G.row;omega
 have al:b1≠U:=ae;have an:0≤jR d i+tQ d i∧jR d i+tQ d i≤65536:=by unfold tQ;omega
 have aw:0≤kf d i+vV d i∧kf d i+vV d i≤65536:=by unfold vV;omega
 refine aP (λh'=>h'=h3) rfl ?_;simp only[go_sem,aK];refine aC p (λh' e=>by rw[e];exact am H3.row) ?_;refine aC (af (jR d i)) (λh' e=>by rw[e];exact am r3) ?_;refine aC (af (jR d i)) (λh' e=>by rw[e];exact am r3) ?_;refine aC (af (tQ d i)) (λh' e=>by rw[e];exact am r3) ?_;simp only[go_sem];rw[w64 ae ae];refine(Sd H3.x W.s.x (by unfold I64;omega) (by unfold I64;omega)).mono λr h4 ⟨e,A⟩=>?_
 subst e;simp only[go_sem,aK];refine b9 (A.row r3) (by simp) rfl λh5 r5 u5=>?_
 refine b9 r5 (by simp) rfl λh6 r6 u6=>?_
 have E6:Ext h2 h6:=((E3.trans A).upd L u5).upd L u6;have H6:=G.ext E6;have r6:h6[U]? =some (.cells (dA ⟨i,jR d i,kf d i,tQ d i,vV d i,(xk d.s.x (jR d i) (jR d i+tQ d i)).1,0,(xk d.s.x (jR d i) (jR d i+tQ d i)).2,0,cD d.s.y.lines⟩).toArray 116 (0,0)):=r6;refine aP (λh'=>h'=h6) rfl ?_
 try simp only[go_sem,aK]
 refine aC q (λh' e=>by rw[e];exact am H6.row) ?_;refine aC (af (kf d i)) (λh' e=>by rw[e];exact am r6) ?_;refine aC (af (kf d i)) (λh' e=>by rw[e];exact am r6) ?_;refine aC (af (vV d i)) (λh' e=>by rw[e];exact am r6) ?_;simp only[go_sem];rw[w64 ae ae];refine(Sd H6.y W.s.y (by unfold I64;omega) (by unfold I64;omega)).mono λr h7 ⟨e,e7⟩=>?_
 subst e;simp only[go_sem,aK];refine b9 (e7.row r6) (by simp) rfl λh8 r8 u8=>?_
 refine b9 r8 (by simp) rfl λh9 r9 u9=>?_
 have E9:Ext h2 h9:=((E6.trans e7).upd L u8).upd L u9;have r9:h9[U]? =some (.cells (dA (aT d i)).toArray 116 (0,0)):=r9;rw[aU r9 10 rfl,aj];refine cT (l:=dA (aT d i)) (E9.row r1) rfl (kj _) rfl λar aa ab=>?_
 rw[aU aa 10 rfl,aj];exact⟨rfl,(e1.trans E9).upd n1 ab⟩
def LR:OpD:=⟨3,0,0,0,[],[],0,5,3⟩
theorem Vy {h:ah}(G:eB h):ag prog xL #[] h λr h'=>r=.bool true∧Ext h h':=by
 apply Mj;unfold Ba;have hf:(aM #[ai,ai,ai,ai,(.slice none 0 0),(.slice none 0 0),ai,ai,ai] [(0,1,(af 3)),(7,1,(af 5)),(8,1,(af 3)),(6,1,ai)])=some #[af 3,ai,ai,ai,.slice none 0 0,.slice none 0 0,ai,af 5,af 3]:=rfl;rw[hf,bG,aj];have wf:LR.Wf:=Bt (by simp[I64]);refine(Jd (Z:=λ_=>True) (o:=LR) G Bu wf (by simp[LR]) (by simp[LR]) (by unfold I64;omega) (by unfold I64;omega)).mono λw h1 ⟨sv,e,e1,_,s1⟩=>?_
 subst e;have a1:fu LR 9 9=0:=by decide+kernel
 have HS:=s1 a1;rw[a1];obtain⟨p,q,rfl,hp,hq,D⟩:=jm HS;simp only[go_sem];refine dk (cs:=[p,q,af _]) rfl D rfl λb2 h2 r2 L n2=>?_
 refine(Nr (G.ext (e1.trans L))).mono λr h3 ⟨e,I⟩=>?_
 subst e;have z0:((0:Int)=0)=True:=jx rfl;simp only[go_sem,z0,gm];rw[aU (l:=[p,q,af _]) (I.row r2) 3 rfl,aj];refine(PY (HS.ext (L.trans I))).mono λr h4 ⟨e4,hy,_⟩=>?_
 obtain⟨b4,p4,q4,e,aa,P⟩:=hy ⟨by decide,by decide⟩;subst e;have np:ak .p .eql (ptr b4) (.pointer none)=some (.bool false):=rfl;simp only[go_sem,z0,np,gm];have PW:dn.Wf ⟨ch LR 9 9,2,2⟩:=⟨(yq a1).1,by decide,by decide⟩
 have A:bX ⟨ch LR 9 9,2,2⟩=6:=by decide+kernel
 refine(vH P PW (i:=5) ae (by rw[A];omega)).mono λr h5 ⟨e,e5⟩=>?_
 subst e;simp only[go_sem];refine dk (cs:=dA _) rfl (kj _) rfl λb6 h6 r6 e6 n6=>?_
 refine(C8 (P.ext (e5.trans e6)) PW).mono λr h7 ⟨e,H⟩=>?_
 have H:=H.symm;subst e H;rw[A];have t1:jR ⟨ch LR 9 9,2,2⟩ 5=4:=by decide+kernel
 have t2:kf ⟨ch LR 9 9,2,2⟩ 5=2:=by decide+kernel
 have t3:tQ ⟨ch LR 9 9,2,2⟩ 5=1:=by decide+kernel
 have t4:vV ⟨ch LR 9 9,2,2⟩ 5=1:=by decide+kernel
 have W:aO 4 h6 (.pointer (some ⟨b6,1,none⟩))=some (.agg #[af 4,af 2,aH,aH]):=by
  refine HC [af 4,af 2,aH,aH] 4 rfl λj hj=>?_
  rw[am r6]
  match j,hj with
  |0,_=>exact congrArg (λn=>some (af n)) t1
  |1,_=>exact congrArg (λn=>some (af n)) t2
  |2,_=>exact congrArg (λn=>some (af n)) t3
  |3,_=>exact congrArg (λn=>some (af n)) t4
 have U:aM #[ai,ai,ai,ai] [(0,1,(af 4)),(1,1,(af 2)),(2,1,aH),(3,1,aH)]=some #[af 4,af 2,aH,aH]:=rfl;have F:ak (.st [(0,1,.i),(1,1,.i),(2,1,.i),(3,1,.i)]) .eql (.agg #[af 4,af 2,aH,aH]) (.agg #[af 4,af 2,aH,aH])=some (.bool true):=rfl;simp only[go_sem,kU,gm,aK,W,U,bG,F];exact⟨by simp,e1.trans (L.trans (I.trans (e4.trans (e5.trans e6))))⟩
end Go.Proofs.YtjljhnandbbldaaGreatDoor
namespace Go.Crisp
open Go Go.MapKept
section
section
variable {α:Type}
def fM (j:Int):List (Int×α)→Option α
 | []=>none
 |(k,v)::r=>if k=j then some v else fM j r
def Tz (j:Int)(v:α):List (Int×α)→List (Int×α)
 | []=>[(j,v)]
 |(k,u)::r=>if k=j then(j,v)::r else(k,u)::Tz j v r
def pG (j:Int):List (Int×α)→List (Int×α)
 | []=>[]
 |(k,u)::r=>if k=j then r else(k,u)::pG j r
def BM (j:Int):List (Int×α)→Nat→Option (Nat×α)
 | [],_=>none
 |(k,v)::r,i=>if k=j then some (i,v)else BM j r (i+1)
def qw {β:Type}(f:α→β)(l:List (Int×α)):List (Int×β):=l.map λp=>(p.1,f p.2)
theorem yu {β:Type}(f:α→β)(l:List (Int×α)):(qw f l).map Prod.fst=l.map Prod.fst:=by simp[qw,CZ,Wz]
theorem rX {β:Type}(f:α→β)(j:Int):∀l:List (Int×α),fM j (qw f l)=(fM j l).map f
 | []=>rfl
 |(k,v)::r=>by
  have A:=rX f j r;unfold qw at A ⊢;simp only[uo,fM];split
  ·rfl
  ·exact A
theorem MR {β:Type}(f:α→β)(j:Int):∀l:List (Int×α),pG j (qw f l)=qw f (pG j l)
 | []=>rfl
 |(k,v)::r=>by
  have A:=MR f j r;unfold qw at A ⊢;simp only[uo,pG];split
  ·rfl
  ·simp[A]
end
def Fh (es:List MapEntry)(kv:List (Int×Value)):Prop:=es.map (λe=>(e.key,e.val))=kv.map λp=>(Value.int .i64 p.1,p.2)
def uw (h:ah)(b:Nat)(kv:List (Int×Value)):Prop:=∃es c,h[b]? =some (.map es c)∧Stamped es c∧Fh es.toList kv
theorem Fh.length {A:List MapEntry}{kv:List (Int×Value)}(H:Fh A kv):A.length=kv.length:=by
 have:=congrArg List.length H;simpa using this
theorem uw.nodup {h:ah}{b:Nat}{kv:List (Int×Value)}(H:uw h b kv):(kv.map Prod.fst).Nodup:=by
 obtain⟨D,c,_,F,G⟩:=H;have h1:D.toList.map (·.key)=(kv.map Prod.fst).map (Value.int .i64):=by
  have:=congrArg (List.map Prod.fst) G;simpa[CZ,Wz]using this
 have A:=F.2.2;rw[h1]at A;unfold List.Nodup at A ⊢;rw[List.pairwise_map]at A;exact A.imp λh e=>h (by rw[e])
theorem uw.row {h h':ah}{b:Nat}{kv:List (Int×Value)}(H:uw h b kv)(r:h'[b]? =h[b]?):uw h' b kv:=by
 obtain⟨D,c,h1,A⟩:=H;exact⟨D,c,r.trans h1,A⟩
theorem uw.lt {h:ah}{b:Nat}{kv:List (Int×Value)}(H:uw h b kv):b<h.size:=by
 obtain⟨A,c,h1,_⟩:=H;exact bB h1
theorem uw.fr {M:Nat→Prop}{h h':ah}{b:Nat}{kv:List (Int×Value)}(H:uw h b kv)(f:Fr M h h')(A:¬M b):uw h' b kv:=H.row (f.2 b H.lt A)
theorem uw.ext {h h':ah}{b:Nat}{kv:List (Int×Value)}(H:uw h b kv)(e:Ext h h'):uw h' b kv:=H.row (e.2 b H.lt)
theorem HT (j:Int):∀(A:List MapEntry) (kv:List (Int×Value)) (i:Nat),Fh A kv→Instr.findNow (.int .i64) (af j) A i=some (BM j kv i)
 | [],kv,i,H=>by
  have:kv=[]:=mX (by rw[←Fh.length H];rfl);subst this;rfl
 |e::A,[],i,H=>by have:=Fh.length H;simp at this
 | e::A,(k,v)::kv,i,H=>by
  unfold Fh at H;simp only[uo,List.cons.injEq,za0]at H;obtain⟨⟨h1,G⟩,H⟩:=H;unfold Instr.findNow BM;rw[h1];have I:Instr.sameNow (.int .i64) (af j) (af k)=some (j==k):=by simp[Instr.sameNow]
  rw[I];by_cases D:k=j
  ·subst D;simp[G]
  ·have F:(j==k)=false:=by simp;exact λh=>D h.symm
   rw[F,az D];exact HT j A kv (i+1) H
theorem IU {α:Type}(j:Int):∀(kv:List (Int×α)) (i:Nat),(BM j kv i).map Prod.snd=fM j kv
 | [],_=>rfl
 |(k,v)::r,i=>by
  unfold BM fM;split
  ·rfl
  ·exact IU j r (i+1)
theorem qx {α:Type}{j:Int}:∀{kv:List (Int×α)},fM j kv=none↔j∉kv.map Prod.fst
 | []=>by simp[fM]
 |(k,v)::r=>by
  unfold fM;by_cases A:k=j
  ·simp[A]
  ·simp[A,qx (kv:=r),ie A]
theorem MP {α:Type}{j:Int}{kv:List (Int×α)}{i:Nat}(h:BM j kv i=none):fM j kv=none:=by
 rw[←IU j kv i,h];rfl
theorem EZ {α:Type}{j:Int}:∀{kv:List (Int×α)} {i m:Nat} {v:α},BM j kv i=some (m,v)→i≤m∧kv[m-i]? =some (j,v)∧(∀u,Tz j u kv=kv.set (m-i) (j,u))∧pG j kv=kv.eraseIdx (m-i)
 | [],_,_,_,h=>by cases h
 | (k,v)::r,i,m,u,h=>by
  unfold BM at h;split at h
  ·rename_i A;cases h;subst A;simp[Tz,pG]
  ·rename_i A;obtain⟨h1,F,G,H⟩:=EZ h;have D:m-i=(m-(i+1))+1:=ae;refine⟨ae,?_,λu=>?_,?_⟩
   ·rw[D];simpa using F
   ·rw[D];simp[Tz,A,G u]
   ·rw[D];simp[pG,A,H]
theorem IV {α:Type}{j:Int}{v:α}:∀{kv:List (Int×α)},fM j kv=some v→kv.Perm ((j,v)::pG j kv)
 | (k,u)::r,h=>by
  unfold fM at h;unfold pG;split at h
  ·rename_i A;cases h;subst A;rw[aA rfl]
  ·rename_i A;rw[az A];exact((IV h).cons (k,u)).trans (List.Perm.swap ..)
theorem MO {α:Type}{j:Int}{v:α}:∀{kv:List (Int×α)},fM j kv=some v→(j,v)∈kv
 | (k,u)::r,h=>by
  unfold fM at h;split at h
  ·rename_i A;cases h;subst A;exact Hr ..
  ·exact xx _ (MO h)
theorem JL {α:Type}{j:Int}{v:α}:∀{kv:List (Int×α)},(kv.map Prod.fst).Nodup→(j,v)∈kv→fM j kv=some v
 | (k,u)::r,hn,h=>by
  unfold fM;rw[uo,List.nodup_cons]at hn;rcases kq.1 h with h|h
  ·cases h;rw[aA rfl]
  ·rw[az]
   ·exact JL hn.2 h
   ·rintro rfl;exact hn.1 (iG.2 ⟨_,h,rfl⟩)
theorem HG {α:Type}{j i:Int}:∀{kv:List (Int×α)},(kv.map Prod.fst).Nodup→fM i (pG j kv)=if i=j then none else fM i kv
 | [],_=>by simp[pG,fM]
 | (k,u)::r,hn=>by
  rw[uo,List.nodup_cons]at hn;unfold pG;by_cases D:k=j
  ·subst D;rw[aA rfl];by_cases hi:i=k
   ·subst hi;rw[aA rfl];exact qx.2 hn.1
   ·rw[az hi,fM,az (ie hi)]
  ·rw[az D];unfold fM;by_cases A:k=i
   ·subst A;rw[aA rfl,az D,aA rfl]
   ·rw[az A,az A];exact HG hn.2
theorem MQ {α:Type}{j:Int}:∀{kv:List (Int×α)},(pG j kv).Sublist kv
 | []=>List.Sublist.refl _
 |(k,u)::r=>by
  unfold pG;split
  ·exact List.sublist_cons_self ..
  ·exact MQ.cons_cons _
def Tt (ok:Bool)(z:Value):Option Value→Value
 |some v=>bif ok then .tuple #[v,.bool true]else v
 |none=>bif ok then .tuple #[z,.bool false]else z
theorem MH {h:ah}{b:Nat}{kv:List (Int×Value)}(H:uw h b kv)(z:Value)(ok:Bool)(j:Int):JI (.int .i64) z ok h (.map (some b)) (af j)=some (Tt ok z (fM j kv)):=by
 obtain⟨A,c,F,_,G⟩:=H;have D:Tr h (.map (some b))=some (A,c):=by unfold Tr;simp[F]
 unfold JI;simp only[D,HT j A.toList kv 0 G];rw[←IU j kv 0];cases BM j kv 0 with
 |none=>rfl
 |some p=>rfl
theorem RT {h:ah}{b:Nat}{kv:List (Int×Value)}(H:uw h b kv):Pq h (.map (some b))=some (af (kv.length:Nat)):=by
 obtain⟨F,c,A,_,D⟩:=H;unfold Pq;simp only[A];rw[←D.length,Hz]
theorem MN {α:Type}{j:Int}{v:α}:∀{kv:List (Int×α)},fM j kv=none→Tz j v kv=kv++[(j,v)]
 | [],_=>rfl
 | (k,u)::r,h=>by
  unfold fM at h;split at h
  ·cases h
  ·rename_i A;simp[Tz,A,MN h]
theorem Pv {α:Type}{j:Int}:∀{kv:List (Int×α)},fM j kv=none→pG j kv=kv
 | [],_=>rfl
 | (k,u)::r,h=>by
  unfold fM at h;split at h
  ·cases h
  ·rename_i A;simp[pG,A,Pv h]
theorem zaN {h:ah}{b:Nat}{kv:List (Int×Value)}{j:Int}{v:Value}{K:Value→ah→Prop}(H:uw h b kv)(HK:∀h',uw h' b (Tz j v kv)→Upd b h h'→K undef h'):
  ud (.int .i64) (.map (some b)) (af j) v h K:=by
 obtain⟨es,c,hb,hs,F⟩:=H;unfold ud;simp only[hb,HT j es.toList kv 0 F];cases hf:BM j kv 0 with
 | none=>
  have hg:=MP hf;simp only;refine HK _ ⟨_,_,mC hb,stamped_push hs λx U aa=>?_,?_⟩ Upd.set
  ·have h1:j∈kv.map Prod.fst:=by
    have:(x.key,x.val)∈kv.map λp=>(af p.1,p.2):=by rw[←F];exact iG.2 ⟨x,U,rfl⟩
    obtain⟨p,hp,L⟩:=iG.1 this;rw[aa]at L;have G:=congrArg Prod.fst L;simp at G;exact iG.2 ⟨p,hp,G⟩
   exact qx.1 hg h1
  ·unfold Fh at F ⊢;rw[MN hg,Array.toList_push,iD,F,iD];rfl
 | some p=>
  obtain⟨i,u⟩:=p;obtain⟨_,G,h3,_⟩:=EZ hf;rw[y9]at G h3;have hi:i<kv.length:=(KK.1 G).1;have A:i<es.size:=by rw[←Hz,F.length];exact hi
  have D:es[i].key=af j:=by
   have h4:=congrArg (λl=>(l[i]?).map Prod.fst) F;simp only[w6,G,cI,um,qs A]at h4;exact sQ h4
  simp only;refine⟨?_,HK _ ⟨_,_,mC hb,stamped_modify hs i _ (λe _=>rfl) (λe _ U=>?_),?_⟩ Upd.set⟩
  ·rw[qs A];simp only[cI,Option.getD_some,D];simp[Instr.sameBits]
  ·rw[qs A]at U;cases U;exact D.symm
  ·rw[h3];unfold Fh at F ⊢;apply List.ext_getElem?;intro m;have I:=congrArg (λl=>l[m]?) F;simp only[w6,um]at I ⊢;rw[KW,List.getElem?_set];by_cases W:i=m
   ·subst W;rw[aA rfl,aA rfl,aA hi,qs A];rfl
   ·rw[az W,az W];exact I
theorem IL {α β:Type}(f:α→β):∀(l:List α) (i:Nat),(l.eraseIdx i).map f=(l.map f).eraseIdx i
 | [],_=>rfl
 |a::l,0=>rfl
 |a::l,i+1=>by simp[IL f l i]
theorem Fh.key {F:List MapEntry}{kv:List (Int×Value)}(H:Fh F kv){e:MapEntry}(I:e∈F):∃j,e.key=af j∧(j,e.val)∈kv:=by
 have:(e.key,e.val)∈kv.map λp=>(af p.1,p.2):=by rw[←H];exact iG.2 ⟨e,I,rfl⟩
 obtain⟨p,G,A⟩:=iG.1 this;have h1:=congrArg Prod.fst A;have D:=congrArg Prod.snd A;simp only at h1 D;exact⟨p.1,h1.symm,by rw[←D];exact G⟩
theorem ZC {h:ah}{b:Nat}{kv:List (Int×Value)}{j:Int}{K:Value→ah→Prop}(H:uw h b kv)
  (HK:∀h',uw h' b (pG j kv)→Upd b h h'→(∀D c,h[b]? =some (.map D c)→∃A,h'[b]? =some (.map A c)∧∀e∈A,e∈D∧e.key≠af j)→K (.tuple #[]) h'):
  oA (.int .i64) (.map (some b)) (af j) h K:=by
 have H0:=H;have ad:=H.nodup;obtain⟨D,c,G,hs,I⟩:=H;have sub:∃h',uw h' b (pG j kv)∧Upd b h h'∧(∃A,h'[b]? =some (.map A c)∧(∀e∈A,e∈D)∧Fh A.toList (pG j kv))∧∀K:Value→ah→Prop,K (.tuple #[]) h'→oA (.int .i64) (.map (some b)) (af j) h K:=by
  cases hf:BM j kv 0 with
  |none=>
   have U:Fh D.toList (pG j kv):=by rw[Pv (MP hf)];exact I
   refine⟨_,⟨D,c,mC G,hs,U⟩,Upd.set,⟨D,mC G,λe h=>h,U⟩,λK hK=>?_⟩;unfold oA;simp only[G,HT j D.toList kv 0 I,hf];exact hK
  | some p=>
   obtain⟨i,u⟩:=p;obtain⟨_,h2,_,h4⟩:=EZ hf;rw[y9]at h2 h4;have hi:i<kv.length:=(KK.1 h2).1;have F:i<D.size:=by rw[←Hz,I.length];exact hi
   have U:Fh (D.eraseIdxIfInBounds i).toList (pG j kv):=by
    rw[h4];unfold Fh at I ⊢;rw[Array.eraseIdxIfInBounds,Hb F];have:(D.eraseIdx i F).toList=D.toList.eraseIdx i:=by simp
    rw[this,IL,I,←IL]
   refine⟨_,⟨_,_,mC G,stamped_erase hs i,U⟩,Upd.set,⟨_,mC G,λe h=>?_,U⟩,λK hK=>?_⟩
   ·rw[Array.eraseIdxIfInBounds,Hb F,←Rj,Array.toList_eraseIdx]at h;rw[←Rj];exact(List.eraseIdx_sublist ..).subset h
   ·unfold oA;simp only[G,HT j D.toList kv 0 I,hf];exact hK
 obtain⟨h',m',u',⟨A,aa,L,ab⟩,hK⟩:=sub;refine hK K (HK h' m' u' λal c0 h0=>?_);rw[G]at h0;cases h0;refine⟨A,aa,λe h=>⟨L e h,λW=>?_⟩⟩;obtain⟨i,hi,hm⟩:=ab.key (Rj.2 h);rw[W]at hi;cases hi;have h1:=JL m'.nodup hm;rw[HG ad,aA rfl]at h1;cases h1
theorem zaT {h:ah}{K:Value→ah→Prop}(A:∀b h',uw h' b []→Ext h h'→h.size≤b→K (.map (some b)) h'):V2 h K:=
 A h.size _ ⟨#[],0,rJ,stamped_empty 0,rfl⟩ (Ext.push h _) (bU _)
end
end Go.Crisp
namespace Go.Proofs.YtjljhnandbbldaaGreatDoor
open Go Go.Crisp
open _root_.Go.Proofs.Tryz
def Gr:Go.Shelf.Ren:=⟨λn=>match n with|8=>290|11=>305|n=>n,λn=>match n with|0=>0|24=>28|26=>2|28=>368|33=>332|n=>n,λn=>n⟩
theorem OU:Go.Proofs.SlLaysZI.n8 prog Gr where
 mixed:=by kernel_rfl
 f8:=⟨"slices.Collect[int64]",by kernel_rfl,by kernel_rfl⟩
 f11:=⟨"slices.AppendSeq[[]int64,int64]",by kernel_rfl,by kernel_rfl⟩
 t0:=by kernel_rfl
 a0:=λw=>cn (by kernel_rfl)
 z0:=λw=>bD (by kernel_rfl)
 v0:=λw=>bA (by kernel_rfl)
 t24:=by kernel_rfl
 a24:=λw=>cn (by kernel_rfl)
 z24:=λw=>bD (by kernel_rfl)
 v24:=λw=>bA (by kernel_rfl)
 t26:=by kernel_rfl
 a26:=λw=>cn (by kernel_rfl)
 z26:=λw=>bD (by kernel_rfl)
 v26:=λw=>bA (by kernel_rfl)
 t28:=by kernel_rfl
 a28:=λw=>cn (by kernel_rfl)
 z28:=λw=>bD (by kernel_rfl)
 v28:=λw=>bA (by kernel_rfl)
 i26:=by kernel_rfl
def Bs:Go.Shelf.Ren:=⟨λn=>match n with|10=>306|n=>n,λn=>match n with|0=>0|3=>28|4=>4|23=>284|26=>2|33=>332|n=>n,λn=>n⟩
theorem MM:Go.Proofs.SlLaysZI.n10 prog Bs where
 mixed:=by kernel_rfl
 f10:=⟨"maps.Keys[map[int64][]int64,int64,[]int64]$1",by kernel_rfl,by kernel_rfl⟩
 t0:=by kernel_rfl
 a0:=λw=>cn (by kernel_rfl)
 z0:=λw=>bD (by kernel_rfl)
 v0:=λw=>bA (by kernel_rfl)
 t4:=by kernel_rfl
 a4:=λw=>cn (by kernel_rfl)
 z4:=λw=>bD (by kernel_rfl)
 v4:=λw=>bA (by kernel_rfl)
 t23:=by kernel_rfl
 a23:=λw=>cn (by kernel_rfl)
 z23:=λw=>bD (by kernel_rfl)
 v23:=λw=>bA (by kernel_rfl)
 t26:=by kernel_rfl
 a26:=λw=>cn (by kernel_rfl)
 z26:=λw=>bD (by kernel_rfl)
 v26:=λw=>bA (by kernel_rfl)
 t33:=by kernel_rfl
 a33:=λw=>cn (by kernel_rfl)
 z33:=λw=>bD (by kernel_rfl)
 v33:=λw=>bA (by kernel_rfl)
def vi (x:Int):Value:=.int .i64 x
def lJ (h:ah)(v:Value)(l:List Int):Prop:=
 ∃a cap,v=.slice a l.length cap∧(l=[]∨∃b o,a=some ⟨b,o,none⟩∧∀i (hi:i<l.length),aG h ⟨b,o+i,none⟩=some (vi l[i]))
theorem lJ.ext {h h':ah}{v:Value}{l:List Int}(H:lJ h v l)(e:Ext h h'):lJ h' v l:=by
 obtain⟨a,cap,rfl,A⟩:=H;refine⟨a,cap,rfl,A.imp id ?_⟩;rintro⟨b,o,rfl,hc⟩;exact⟨b,o,rfl,λi hi=>e.cell (hc i hi)⟩
def Jh (a b:List Int):Bool:=decide (a.length=b.length)&&(a.zip b).all λp=>decide (p.1≤p.2)
theorem NI {a b:List Int}(h:a.length=b.length):Jh a b=true↔ ∀i (hi:i<a.length),a[i]≤b[i]'(h▸hi):=by
 simp only[Jh,h,gm,Hk,CX,dS];constructor
 ·intro H i hi;have:=H (a[i],b[i]'(h▸hi)) (by rw[oC];exact⟨i,by simp;omega,by simp⟩);exact this
 ·intro H p A;obtain⟨i,hi,rfl⟩:=oC.1 A;simp only[List.length_zip]at hi;simpa using H i ae
theorem zbA {h:ah}{a b:Value}{D lb:List Int}(ha:lJ h a D)(hb:lJ h b lb)(hn:D.length≤9223372036854775807):
  ag prog xQ #[a,b] h λv h'=>v=.bool (Jh D lb)∧h'=h:=by
 apply Ms;unfold Bk;obtain⟨A,ca,rfl,W⟩:=ha;obtain⟨B,cb,rfl,hB⟩:=hb;simp only[IS,aj,yz];refine jU (λU=>?_) (λhe=>?_)
 ·refine⟨?_,trivial⟩;have:¬D.length=lb.length:=by simp at U;omega
  simp[Jh,this]
 ·have L:D.length=lb.length:=by simp at he;omega
  refine dw (λd xs h'=>h'=h∧∃k:Nat,k+d=D.length∧xs=[af k]∧∀i (hi:i<k) (h1:i<D.length),D[i]≤lb[i]'(L▸h1)) D.length ⟨rfl,0,ae,rfl,λi hi=>ae⟩ ?_;rintro d _ ρj _ again ⟨rfl,k,hk,rfl,G⟩ aa;simp only[gX,cq,aj];refine ao (λan=>?_) (λad=>?_)
  ·have F:k<D.length:=ae;have H:k<lb.length:=ae;rcases W with rfl|⟨b1,o1,rfl,W⟩
   ·simp at F
   rcases hB with rfl|⟨b2,o2,rfl,hB⟩
   ·simp at H
   simp only[rY F,rY H,aj,qS,lX,W k F,hB k H,vi,sr];refine ao (λal=>?_) (λab=>?_)
   ·refine⟨?_,trivial⟩
    congr 1
    rw[GT,Hp];intro I;have:=(NI L).1 I k F;omega
   ·simp only[du,aj];rw[w64 ae ae];refine aa _ _ (d-1) ae ⟨rfl,k+1,ae,rfl,λi hi h1=>?_⟩;rcases Wd.1 hi with hi|rfl
    ·exact G i hi h1
    ·omega
  ·refine⟨?_,trivial⟩
   congr 1
   rw[GT,NI L];intro i hi;exact G i ae hi
theorem WR {a b:List Int}(h:a.length=b.length):a=b↔ ∀i (hi:i<a.length),a[i]=b[i]'(h▸hi):=
 ⟨λe i hi=>by subst e;rfl,λH=>qu h λi h1 A=>H i h1⟩
theorem X4 {h:ah}{a b:Value}{D lb:List Int}(ha:lJ h a D)(hb:lJ h b lb)(hn:D.length≤9223372036854775807):
  ag prog fV #[a,b] h λv h'=>v=.bool (decide (D=lb))∧h'=h:=by
 apply pE;unfold jf;obtain⟨A,ca,rfl,hA⟩:=ha;obtain⟨B,cb,rfl,hB⟩:=hb;simp only[IS,aj,yz];refine jU (λU=>?_) (λhe=>?_)
 ·refine⟨?_,trivial⟩;have:¬D=lb:=λe=>by subst e;simp at U
  simp[this]
 ·have L:D.length=lb.length:=by simp at he;omega
  refine dw (λd xs h'=>h'=h∧∃k:Nat,k+d=D.length∧xs=[af k]∧∀i (hi:i<k) (h1:i<D.length),D[i]=lb[i]'(L▸h1)) D.length ⟨rfl,0,ae,rfl,λi hi=>ae⟩ ?_;rintro d _ ρj _ again ⟨rfl,k,hk,rfl,G⟩ ab;simp only[gX,cq,aj];refine ao (λal=>?_) (λad=>?_)
  ·have F:k<D.length:=ae;have H:k<lb.length:=ae;rcases hA with rfl|⟨b1,o1,rfl,hA⟩
   ·simp at F
   rcases hB with rfl|⟨b2,o2,rfl,hB⟩
   ·simp at H
   simp only[rY F,rY H,aj,qS,lX,hA k F,hB k H,vi,yz];refine jU (λaa=>?_) (λW=>?_)
   ·refine⟨?_,trivial⟩
    congr 1
    rw[GT,G0];intro I;have:=(WR L).1 I k F;simp[this]at aa
   ·simp only[du,aj];rw[w64 ae ae];refine ab _ _ (d-1) ae ⟨rfl,k+1,ae,rfl,λi hi h1=>?_⟩;rcases Wd.1 hi with hi|rfl
    ·exact G i hi h1
    ·simpa using W
  ·refine⟨?_,trivial⟩
   congr 1
   rw[GT,dS,WR L];intro i hi;exact G i ae hi
theorem zbL {h:ah}{a b:Value}{A lb:List Int}(D:lJ h a A)(F:lJ h b lb)(G:A.length≤9223372036854775807):
  ag prog xR #[a,b] h λv h'=>v=.bool (decide (A=lb))∧h'=h:=by
 apply Mt;unfold Bm;refine(X4 D F G).mono ?_;rintro _ _ ⟨rfl,rfl⟩;exact⟨rfl,rfl⟩
def Jj (a b:List Int):Bool:=Jh a b&& !decide (a=b)
theorem Xa {h:ah}{a b:Value}{D lb:List Int}(F:lJ h a D)(G:lJ h b lb)(H:D.length≤9223372036854775807):
  ag prog rh #[a,b] h λv h'=>v=.bool (Jj D lb)∧h'=h:=by
 apply Mu;unfold Bn;refine(zbA F G H).mono ?_;rintro _ _ ⟨rfl,rfl⟩;cases A:Jh D lb with
 |false=>simp only[go_sem];exact⟨by simp[Jj,A],trivial⟩
 |true=>
  simp only[go_sem];refine(zbL F G H).mono ?_;rintro _ _ ⟨rfl,rfl⟩;simp only[go_sem];exact⟨by simp[Jj,A],trivial⟩
end Go.Proofs.YtjljhnandbbldaaGreatDoor
namespace Go.Proofs.YtjljhnandbbldaaGreatDoor
open Go Go.Crisp
attribute [local irreducible] ag df aW stK aF vK qK bJ gK eK aZ mkK di Fi
open _root_.Go.Proofs.Tryz
def kh (h:ah)(v:Value)(l:List Int):Prop:=Own 1 h v l.length (l.map vi)
theorem lJ.sl {h:ah}{v:Value}{l:List Int}(H:lJ h v l):SlC 1 h v l.length (l.map vi):=by
 obtain⟨a,cap,rfl,H⟩:=H;refine⟨by simp,a,cap,rfl,?_⟩;rcases H with rfl|⟨b,o,rfl,H⟩
 ·exact .inl rfl
 ·exact .inr ⟨b,o,rfl,λj A=>by rw[eU];exact H j (by simpa using A)⟩
theorem WG {h:ah}{v:Value}{l:List Int}(H:SlC 1 h v l.length (l.map vi)):lJ h v l:=by
 obtain⟨_,a,cap,rfl,H⟩:=H;refine⟨a,cap,rfl,?_⟩;rcases H with H|⟨b,o,rfl,H⟩
 ·exact .inl (by simpa using H)
 ·refine .inr ⟨b,o,rfl,λj A=>?_⟩;have:=H j (by simpa using A);rw[eU]at this;exact this
theorem kh.ints {h:ah}{v:Value}{l:List Int}(H:kh h v l):lJ h v l:=WG (Own.sl H)
theorem Uw {l:List Int}:∀v∈l.map vi,aQ v=true:=by
 intro v A;obtain⟨x,_,rfl⟩:=iG.1 A;rfl
def Pw (a b:List Int):List Int:=(List.range (max a.length b.length)).map λi=>max (a.getD i 0) (b.getD i 0)
theorem zu (a b:List Int):(Pw a b).length=max a.length b.length:=by simp[Pw]
theorem Pd (n:Nat)(f:Nat→Int)(i:Nat)(x:Int):(((List.range n).map f).map vi).set i (vi x)=((List.range n).map λk=>if k=i then x else f k).map vi:=by
 apply qu
 ·simp
 ·intro k h1 A;rw[GY];simp only[eU,y5, @eq_comm _ k i];split<;>rfl
theorem K8 {l:List Int}{k:Nat}(h:k<l.length):l.getD k 0=l[k]:=by simp[List.getD,h]
theorem M4 {l:List Int}{k:Nat}(h:l.length≤k):l.getD k 0=0:=by simp[List.getD,GV h]
theorem zc2 {h:ah}{v u:Value}{a b:List Int}(ha:lJ h v a)(hb:lJ h u b)(la:a.length≤4398046511104)(lb:b.length≤4398046511104):
  ag prog z7 #[v,u] h λr h'=>kh h' r (Pw a b)∧Ext h h'∧∀k,blk r k→h.size≤k:=by
 apply OM;unfold D6;obtain⟨aa,ac,rfl,_⟩:=ha;obtain⟨ba,bc,rfl,_⟩:=hb;have ab:lJ h (.slice aa a.length ac) a:=⟨_,_,rfl,by assumption⟩
 have ad:lJ h (.slice ba b.length bc) b:=⟨_,_,rfl,by assumption⟩
 simp only[go_sem];rw[show max (a.length:Int) (b.length:Int)=((max a.length b.length:Nat):Int)by omega];generalize hn:max a.length b.length=n;refine og rfl (by omega) (by omega) λs h1 o1 e1 n1=>?_
 refine Ia o1 (ab.ext e1).sl Uw λD o2 f2 _=>?_
 have e2:Ext h D:=e1.then_fr f2 n1;have al:Own 1 D s n (((List.range n).map λk=>a.getD k 0).map vi):=by
  have:(a.map vi).take n++(List.replicate n (Value.int .i64 0)).drop a.length=((List.range n).map λk=>a.getD k 0).map vi:=by
   apply List.ext_getElem
   ·simp;omega
   ·intro k h1 D;simp only[List.getElem_map,List.getElem_range,List.getElem_append,List.getElem_take,List.getElem_drop,List.getElem_replicate];split
    ·rename_i A;rw[List.length_take,List.length_map]at A;rw[K8 (show k<a.length by omega)]
    ·rename_i A;rw[List.length_take,List.length_map]at A;simp at D;rw[M4 (show a.length≤k by omega)];rfl
  rw[←this];exact o2
 refine EY b.length (λk h'=>k≤b.length∧Own 1 h' s n (((List.range n).map λj=>if j<k then max (a.getD j 0) (b.getD j 0)else a.getD j 0).map vi)∧Ext h h') ⟨Nat.zero_le _,by simpa using al,e2⟩ ?_;rintro k h3 again ρj ⟨ay,W,U⟩ L;simp only[go_sem];refine ao (λA=>?_) (λA=>?_)
 ·have A:k<b.length:=by omega
  obtain⟨p,hp,hq⟩:=(ad.ext U).sl.at1 (k:=.i64) A;rw[List.getElem_map]at hq;obtain⟨p',F,I,H⟩:=W.at1 (k:=.i64) (i:=k) (by omega);have G:∀x:Int,x=max (a.getD k 0) (b.getD k 0)→stK 1 p' (.int .i64 x) h3 λau ar=>again [.int .i64 (IntKind.i64.wrap ((k:Int)+1))] ar:=by
   intro x hx;refine H _ _ rfl λh4 o4 f4 _=>?_
   rw[w64 (by omega) (by omega)];refine L h4 A ⟨A,?_,U.then_fr f4 n1⟩;rw[show(Value.int .i64 x)=vi x from rfl,Pd]at o4;refine(congrArg (λl:List Int=>Own 1 h4 s n (l.map vi)) ?_).mp o4;apply List.map_congr_left;intro j _;subst hx;by_cases h1:j=k
   ·subst h1;simp
   ·simp only[h1,if_false];by_cases D:j<k
    ·simp[D,Nat.lt_succ_of_lt D]
    ·simp[D,show¬j<k+1 by omega]
  simp only[go_sem,hp,hq,vi];refine ao (λaw=>?_) (λax=>?_)
  ·simp only[go_sem,F];refine G _ ?_;rw[M4 (show a.length≤k by omega),K8 A]
  ·simp only[go_sem,F,I];rw[List.getElem_map,List.getElem_map,List.getElem_range,if_neg (Nat.lt_irrefl k)];simp only[vi,go_sem];exact G _ (by rw[K8 A])
 ·obtain rfl:k=b.length:=by omega
  refine Pn a.length b.length (λk h'=>Own 1 h' s n (((List.range n).map λj=>if j<k then max (a.getD j 0) (b.getD j 0)else a.getD j 0).map vi)∧Ext h h') ⟨W,U⟩ ?_;rintro k h3 again ρj an ⟨W,U⟩ L;simp only[go_sem];refine ao (λA=>?_) (λA=>?_)
  ·have A:k<a.length:=by omega
   obtain⟨p',F,I,H⟩:=W.at1 (k:=.i64) (i:=k) (by omega);simp only[go_sem,F,I];rw[List.getElem_map,List.getElem_map,List.getElem_range,if_neg (Nat.lt_irrefl k)];simp only[vi,go_sem];refine H _ _ rfl λh4 o4 f4 _=>?_
   rw[w64 (by omega) (by omega)];refine L h4 A ⟨?_,U.then_fr f4 n1⟩;rw[show(Value.int .i64 (max 0 (a.getD k 0)))=vi (max 0 (a.getD k 0))from rfl,Pd]at o4;refine(congrArg (λl:List Int=>Own 1 h4 s n (l.map vi)) ?_).mp o4;apply List.map_congr_left;intro j _;by_cases h1:j=k
   ·subst h1;rw[if_pos rfl,if_pos (Nat.lt_succ_self j),M4 an,Int.max_comm]
   ·simp only[h1,if_false];by_cases D:j<k
    ·simp[D,Nat.lt_succ_of_lt D]
    ·simp[D,show¬j<k+1 by omega]
  ·refine⟨?_,U,n1⟩;unfold kh;rw[zu,hn];refine(congrArg (λl:List Int=>Own 1 h3 s n (l.map vi)) ?_).mp W;unfold Pw;rw[hn];apply List.map_congr_left;intro j hj;rw[if_pos (by have:=List.mem_range.1 hj;omega)]
end Go.Proofs.YtjljhnandbbldaaGreatDoor
namespace Go.Proofs.YtjljhnandbbldaaGreatDoor
open Go Go.Crisp Go.MapKept Go.RowKit
attribute [local irreducible] df aW stK aF vK qK bJ gK eK aZ mkK di Fi
open _root_.Go.Proofs.Tryz
theorem UQ {w:World}{D:Nat}{e:TypeId}{v:Value}{A:List Int}(H:w.ownsRow D e 1 v A.length (A.map encZ)):kh w.heap v A∧∀b,blk v b→D≤b:=by
 obtain⟨_,H⟩:=H;rcases H with⟨rfl,U⟩|⟨g,cap,cur,rfl,G,L,hc,_,I,F⟩
 ·have:A=[]:=mX U;subst this;exact⟨.inl ⟨rfl,rfl,rfl⟩,λb G=>G.elim⟩
 ·refine⟨.inr ⟨g,cap,cur.toList.drop A.length,e,rfl,hc,by simp,?_,?_⟩,λb h=>by rw[show b=g from h];exact G⟩
  ·rw[lX]at F;rw[show A.map vi=A.map encZ from rfl,←F,lW,Hz];exact I
  ·rw[lX]at F;rw[show A.map vi=A.map encZ from rfl,←F,lW,CW];exact L
theorem Yt {w w':World}(H:Below w.heap.size w w'):dD w w'∧Ext w.heap w'.heap:=⟨⟨H.os,H.tape,H.output⟩,H.size,λb A=>H.block b A⟩
def noR:Value→Option (DataW Unit×List MemPlace):=λ_=>some (.nil,[])
theorem JM (x:Lit×DataW Unit):∀l:List (Lit×DataW Unit),(DataW.insert x l).Perm (x::l)
 | []=>GW _
 |y::r=>by
  unfold DataW.insert;split
  ·exact GW _
  ·exact((JM x r).cons y).trans (List.Perm.swap x y r)
theorem Ff:∀l:List (Lit×DataW Unit),(l.foldr DataW.insert []).Perm l
 | []=>GW _
 |x::l=>by
  rw[List.foldr_cons];exact(JM x _).trans ((Ff l).cons x)
theorem YW {P:Program}{k:TypeId}{w:World}{b:Nat}{kv:List (Int×Value)}(hk:P.underlying k=some (.int .i64))(H:uw w.heap b kv)(hw:∀p∈kv,(Lit.int .i64 p.1).wf=true)(hl:kv.length≤maxLen):
  ∃D:DataW Unit,w.ownsMap P k noR b kv.length D∧(intKeys D).Perm (kv.map Prod.fst)∧Go.Maps.size D=kv.length:=by
 obtain⟨U,c,hb,hs,he⟩:=H;have F:=he.length;have G:∀x∈U.toList,∃j,x.key=.int .i64 j∧(Lit.int .i64 j).wf=true:=λx I=>by
  have:(x.key,x.val)∈kv.map λp=>(Value.int .i64 p.1,p.2):=by rw[←he];exact List.mem_map.2 ⟨x,I,rfl⟩
  obtain⟨p,hp,aa⟩:=List.mem_map.1 this;exact⟨p.1,(congrArg Prod.fst aa).symm,hw p hp⟩
 have W:∀x∈U.toList,∀j,x.key=.int .i64 j→(Lit.int .i64 j).wf=true→WideElems.rd P k noR x=some (.int .i64 j,.nil):=λx I j L A=>by
  unfold WideElems.rd;rw[L];simp[keyOf,hk,mapKey,A,noR]
 refine⟨.map ((U.toList.map (WideElems.rg P k noR)).foldr DataW.insert []),⟨U,c,hb,⟨by rw[←Array.length_toList,F];exact hl,hs,λx I=>?_⟩,by rw[←Array.length_toList,F];exact Nat.le_refl _,rfl⟩,?_,?_⟩
 ·obtain⟨j,L,A⟩:=G x I;exact⟨_,W x I j L A⟩
 ·have h1:(U.toList.map (WideElems.rg P k noR)).map (λp=>_root_.Go.intOf p.1)=kv.map Prod.fst:=by
   have h2:kv.map Prod.fst=(kv.map λp=>(Value.int .i64 p.1,p.2)).map λq=>match q.1 with| .int _ n=>n|_=>0:=by simp[List.map_map,Function.comp_def]
   rw[h2,←he,List.map_map,List.map_map];refine List.map_congr_left λx I=>?_
   obtain⟨j,L,A⟩:=G x I;simp only[Function.comp_def];rw[WideElems.rg_of (W x I j L A),L];rfl
  rw[←h1];exact(Ff _).map _
 ·show(List.foldr DataW.insert [] _).length=_;rw[(Ff _).length_eq,List.length_map,F]
theorem Vp {P:Program}{f:FuncId}{args:Array Value}{w:World}{n:Nat}{R A:Ending→World→Prop}(H:CallsIn Fence.wide n P f args w R)(D:∀e w',R e w'→A e w'):Calls P f args w A:=(callsIn_wide.1 H).mono D
theorem Ui {h:ah}{F b:Nat}{t:TypeId}{kv:List (Int×Value)}(r1:h[F]? =some (.cells #[.map (some b)] t (0,0)))(L:uw h b kv)(I:∀p∈kv,(Lit.int .i64 p.1).wf=true)(hl:kv.length≤1000000):
  ag prog oR #[.func (.func dF) #[] #[.pointer (some ⟨F,0,none⟩)]] h λr h'=>∃ss:List Int,ss.Perm (kv.map Prod.fst)∧kh h' r ss∧Ext h h'∧∀k,blk r k→h.size≤k:=by
 refine ag.ofCalls (by kernel_rfl) λw hh=>?_
 subst hh;obtain⟨D,H,hp,G⟩:=YW (P:=prog) (k:=(Bs).t 26) MM.t26 L I (by unfold maxLen;omega);have seq:=AnyZI.keys_gives MM Fence.wide 3 trivial rfl ae F b kv.length D w (bB r1) (show aG w.heap ⟨F,0,none⟩=_ from by rw[am r1];rfl) H;have:=AnyZI.collect_in OU Fence.wide 5 trivial trivial rfl ae _ #[.pointer (some ⟨F,0,none⟩)] trivial (λargs w=>yP (by kernel_rfl)) _ _ (by rw[G];unfold maxLen;omega) (by rw[G];omega) w seq;refine Vp this ?_;rintro e w' ⟨v,ss,rfl,U,A,_,W⟩;obtain⟨o,n⟩:=UQ A;obtain⟨s,e⟩:=Yt W;exact⟨v,rfl,s,ss,U.trans hp,o,e,n⟩
end Go.Proofs.YtjljhnandbbldaaGreatDoor
namespace Go.Proofs.YtjljhnandbbldaaGreatDoor
open Go Go.Crisp
attribute [local irreducible] ag df aW stK aF vK qK bJ gK eK aZ mkK di Fi
open _root_.Go.Proofs.Tryz
theorem Qt {h:ah}:kh h (.slice none 0 0) []:=.inl ⟨rfl,rfl,rfl⟩
theorem HV (a:Addr)(n c n' c':Nat):ak .sl .eql (.slice (some a) n c) (.slice none n' c')=some (.bool false):=cR rfl rfl
theorem HZ (n c n' c':Nat):ak .sl .eql (.slice none n c) (.slice none n' c')=some (.bool true):=cR rfl rfl
theorem PH {e:TypeId}{h:ah}{v:Value}{l:List Int}{K:Value→ah→Prop}(W:lJ h v l)(hl:l.length≤4398046511104)
  (H:∀r h',kh h' r l→Ext h h'→(∀b,blk r b→h.size≤b)→K r h'):df #[] e 0 [] h λL A=>di ai e 1 8 L v A K:=by
 refine da (c':=#[]) (by kernel_rfl) λb h1 r1 D F=>?_
 refine vJ (n:=0) (cs:=[]) (.inr ⟨b,0,[],e,rfl,bU _,rfl,rfl,r1⟩) (W.ext D).sl Uw rfl ae ae λs' U o2 f2 I=>?_
 rw[aK,fB]at o2;refine H s' U o2 (D.then_fr f2 λi hi=>by rw[show i=b from hi];exact F) λk G=>?_
 rcases I k G with A|A
 ·rw[show k=b from A];exact F
 ·exact bh D.1 A
theorem W8 {h:ah}{v:Value}{l:List Int}(A:lJ h v l)(F:l.length≤4398046511104):
  ag prog dJ #[v] h λr h'=>kh h' r l∧Ext h h'∧∀b,blk r b→h.size≤b:=by
 apply pF;unfold jg;have D:=A;obtain⟨a,cap,rfl,A⟩:=A;cases a with
 |none=>
  simp only[HZ,go_sem];rcases A with rfl|⟨b,o,h1,_⟩
  ·exact⟨Qt,Ext.refl h,λb G=>G.elim⟩
  ·cases h1
 |some a=>
  simp only[HV,go_sem];exact PH D F λr h' o e n=>⟨o,e,n⟩
structure lO (M:Nat→Prop)(h:ah)(bc:Nat)(sl:Value)(sv:Nat→Value)(t:TypeId)(n:Nat)(rows:Nat→List Int):Prop where
 var:h[bc]? =some (.cells #[sl] t (0,0))
 arr:Own 1 h sl n ((List.range n).map sv)
 row:∀i,i<n→kh h (sv i) (rows i)
 len:∀i,i<n→(rows i).length=n
 pos:1≤n∧n≤512
 inM:M bc∧(∀b,blk sl b→M b)∧∀i,i<n→∀b,blk (sv i) b→M b
 ap1:¬blk sl bc
 ap2:∀i,i<n→∀b,blk (sv i) b→b≠bc∧¬blk sl b
 ap3:∀i j,i<n→j<n→i≠j→∀b,blk (sv i) b→¬blk (sv j) b
 lt:∀b,M b→b<h.size
def fF (M:Nat→Prop)(h:ah)(v:Value)(n:Nat)(rows:Nat→List Int):Prop:=
 ∃bc sl sv t,v=.pointer (some ⟨bc,0,none⟩)∧lO M h bc sl sv t n rows
theorem lO.fr {M Q:Nat→Prop}{h h':ah}{D:Nat}{sl:Value}{sv:Nat→Value}{t:TypeId}{n:Nat}{rows:Nat→List Int}(C:lO M h D sl sv t n rows)(f:Fr Q h h')(hq:∀b,b<h.size→M b→¬Q b):lO M h' D sl sv t n rows:=
 {C with
  var:=f.row C.var (hq D (C.lt _ C.inM.1) C.inM.1)
  arr:=C.arr.fr f λb A=>hq b (C.lt _ (C.inM.2.1 b A)) (C.inM.2.1 b A)
  row:=λi hi=>(C.row i hi).fr f λb A=>hq b (C.lt _ (C.inM.2.2 i hi b A)) (C.inM.2.2 i hi b A)
  lt:=λb A=>bT (C.lt b A) f.1}
theorem lO.ext {M:Nat→Prop}{h h':ah}{A:Nat}{sl:Value}{sv:Nat→Value}{t:TypeId}{n:Nat}{rows:Nat→List Int}(C:lO M h A sl sv t n rows)(e:Ext h h'):lO M h' A sl sv t n rows:=C.fr (Q:=λ_=>False) e.fr λ_ _ _=>id
theorem fF.fr {M Q:Nat→Prop}{h h':ah}{v:Value}{n:Nat}{rows:Nat→List Int}(H:fF M h v n rows)(f:Fr Q h h')(hq:∀b,b<h.size→M b→¬Q b):fF M h' v n rows:=by
 obtain⟨A,sl,sv,t,rfl,C⟩:=H;exact⟨A,sl,sv,t,rfl,C.fr f hq⟩
theorem fF.ext {M:Nat→Prop}{h h':ah}{v:Value}{n:Nat}{rows:Nat→List Int}(H:fF M h v n rows)(e:Ext h h'):fF M h' v n rows:=H.fr (Q:=λ_=>False) e.fr λ_ _ _=>id
theorem zcS {M:Nat→Prop}{h:ah}{v:Value}{n:Nat}{rows:Nat→List Int}(H:fF M h v n rows)(i:Int):
  ag prog jG #[v,af i] h λr h'=>r=.bool (decide (0≤i∧i<n))∧h'=h:=by
 obtain⟨D,sl,sv,t,rfl,C⟩:=H;apply GK;unfold wL;have A:=C.arr.sl;obtain⟨_,a,cap,rfl,_⟩:=A;by_cases h0:0≤i
 ·simp only[go_sem,h0,am C.var,CT,and_true]
 ·simp only[go_sem,h0,false_and,and_true]
def Kw (n:Nat)(rows:Nat→List Int)(i:Int):List Int:=if 0≤i∧i<n then rows i.toNat else[]
theorem zb6 {M:Nat→Prop}{h:ah}{v:Value}{n:Nat}{rows:Nat→List Int}(H:fF M h v n rows)(i:Int):
  ag prog kQ #[v,af i] h λr h'=>kh h' r (Kw n rows i)∧Ext h h'∧∀b,blk r b→h.size≤b:=by
 apply ET;unfold vj;refine(zcS H i).mono ?_;rintro _ h' ⟨rfl,rfl⟩;by_cases hi:0≤i∧i<n
 ·obtain⟨k,rfl⟩:=Ri hi.1;have A:k<n:=ae;obtain⟨G,sl,sv,t,rfl,C⟩:=H;obtain⟨p,F,hq⟩:=C.arr.sl.at1 (k:=.i64) A;rw[eU,y5]at hq;simp only[go_sem,hi,am C.var,F,hq,y7];rw[show Kw n rows (k:Int)=rows k by unfold Kw;rw[aA hi];rfl];refine(W8 (C.row k A).ints (by rw[C.len k A];have:=C.pos;omega)).mono ?_;rintro r h1 H;exact H
 ·simp only[go_sem,hi];rw[show Kw n rows i=[]by unfold Kw;rw[az hi]];exact⟨Qt,Ext.refl _,λb D=>D.elim⟩
theorem lO.put {M:Nat→Prop}{h h':ah}{H:Nat}{sl:Value}{sv:Nat→Value}{t:TypeId}{n:Nat}{rows:Nat→List Int}(C:lO M h H sl sv t n rows){k:Nat}(G:k<n){l:List Int}
  (o:kh h' (sv k) l) (I:l.length=n) (f:Fr (blk (sv k)) h h'):lO M h' H sl sv t n (λj=>if j=k then l else rows j):=
 { C with
  var:=f.row C.var λD=>(C.ap2 k G _ D).1 rfl
  arr:=C.arr.fr f λb D F=>(C.ap2 k G b F).2 D
  row:=λi hi=>by
   by_cases A:i=k
   ·subst A;simpa using o
   ·simp only[A,cF];exact(C.row i hi).fr f λb D=>C.ap3 i k hi G A b D
  len:=λi hi=>by
   by_cases A:i=k
   ·subst A;simpa using I
   ·simp only[A,cF];exact C.len i hi
  lt:=λb D=>bT (C.lt b D) f.1}
def FE (n:Nat)(rows:Nat→List Int)(i:Int):Nat→List Int:=
 if 0≤i∧i<n then λj=>if j=i.toNat then(rows i.toNat).set i.toNat (IntKind.i64.wrap ((rows i.toNat).getD i.toNat 0+1))else rows j else rows
theorem VA {M:Nat→Prop}{h:ah}{v:Value}{n:Nat}{rows:Nat→List Int}(H:fF M h v n rows)(i:Int):
  ag prog iy #[v,af i] h λr h'=>kh h' r (Kw n rows i)∧fF M h' v n (FE n rows i)∧Fr M h h'∧∀b,blk r b→h.size≤b:=by
 apply Dn;unfold tH;refine(zb6 H i).mono ?_;rintro r h1 ⟨o1,F,L⟩;refine(zcS (H.ext F) i).mono ?_;rintro _ h2 ⟨rfl,rfl⟩;by_cases hi:0≤i∧i<n
 ·obtain⟨k,rfl⟩:=Ri hi.1;have A:k<n:=ae;obtain⟨bc,sl,sv,t,rfl,C0⟩:=H;have C:=C0.ext F;obtain⟨p,hp,hq⟩:=C.arr.sl.at1 (k:=.i64) A;rw[eU,y5]at hq;have G:k<(rows k).length:=by rw[C.len k A];exact A
  obtain⟨p',W,D,I⟩:=Own.at1 (C.row k A) (k:=.i64) G;rw[eU]at D;simp only[go_sem,hi,am C.var,hp,hq,y7,W,D,vi];refine I _ _ rfl λh3 o3 f3 _=>?_
  have o4:kh h3 (sv k) ((rows k).set k (IntKind.i64.wrap ((rows k)[k]+1))):=by
   unfold kh;rw[GU,KO];exact o3
  have C':=C.put A o4 (by rw[GU];exact C.len k A) f3;refine⟨o1.fr f3 λb hb U=>?_,⟨bc,sl,sv,t,rfl,?_⟩,?_,L⟩
  ·have h5:=L b hb;have:=C0.lt b (C0.inM.2.2 k A b U);omega
  ·unfold FE;rw[aA hi];simp only[eT];rw[K8 G];exact C'
  ·exact F.fr.trans (f3.mono λb _ hb=>C.inM.2.2 k A b hb)
 ·simp only[go_sem,hi];refine⟨o1,?_,F.fr,L⟩;unfold FE;rw[az hi];exact H.ext F
theorem c_Min {h:ah}{v:Value}{l:List Int}(hv:lJ h v l)(h0:l≠[])(hl:l.length≤4398046511104):
  ag prog gH #[v] h λr h'=>(∃m,r=af m∧(decide (m<0)=l.any λx=>decide (x<0)))∧h'=h:=by
 apply rN;unfold jI;have hp:0<l.length:=wZ.2 h0;have hs:=hv.sl;obtain⟨a,cap,rfl,_⟩:=hv;refine bi (λI h'=>I=[]∧h'=h) ?_ ?_
 ·simp only[go_sem];refine ao (λh1=>ae) (λ_=>⟨trivial,trivial⟩)
 ·rintro _ ρj h' ⟨rfl,hh⟩;subst hh;obtain⟨p,A,G⟩:=hs.at1 (k:=.i64) (i:=0) hp;rw[eU]at G;rw[show((0:Nat):Int)=0 from rfl]at A;simp only[go_sem,A,G];refine dw (λd I H=>H=h'∧∃(k:Nat) (m:Int),1≤k∧k≤l.length∧d=l.length-k∧I=[af m,af (k:Int)]∧decide (m<0)=(l.take k).any λx=>decide (x<0)) (l.length-1)
   ⟨rfl,1,l[0],ae,ae,rfl,rfl,?_⟩ ?_
  ·cases l with
   |nil=>exact absurd rfl h0
   |cons x l=>simp
  ·rintro d _ ρj _ again ⟨rfl,k,m,h1,hk,rfl,rfl,W⟩ U;simp only[go_sem];refine ao (λab=>?_) (λaa=>?_)
   ·have F:k<l.length:=ae;obtain⟨p,L,D⟩:=hs.at1 (k:=.i64) F;rw[eU]at D;simp only[go_sem,L,D,vi];rw[w64 ae ae];refine U _ _ (l.length-(k+1)) ae ⟨rfl,k+1,_,ae,ae,rfl,rfl,?_⟩;rw[ju F,List.any_append,←W];simp only[List.any_cons,List.any_nil,Bool.or_false];rw[←RG,gE];omega
   ·refine⟨⟨m,rfl,?_⟩,trivial⟩;rw[W,eS ae]
def Ky (n:Nat)(i:Int)(s:List Int):Bool:=decide (0≤i∧i<n)&&(decide (s.length=n)&& !s.any λx=>decide (x<0))
def oh (n:Nat)(rows:Nat→List Int)(i:Int)(s:List Int):Nat→List Int:=
 if Ky n i s=true then λj=>if j=i.toNat then Pw (rows i.toNat) s else rows j else rows
theorem lO.swap {M:Nat→Prop}{h h':ah}{U:Nat}{sl:Value}{sv:Nat→Value}{t:TypeId}{n:Nat}{rows:Nat→List Int}(C:lO M h U sl sv t n rows){k:Nat}(hk:k<n){l:List Int}{v:Value}
  (o:kh h' v l) (hl:l.length=n) (f:Fr (blk sl) h h') (a:Own 1 h' sl n ((List.range n).map λj=>if j=k then v else sv j)) (H:∀b,blk v b→b<h'.size∧¬M b):
  lO (λb=>M b∨blk v b) h' U sl (λj=>if j=k then v else sv j) t n (λj=>if j=k then l else rows j) where
 var:=f.row C.var C.ap1
 arr:=a
 row:=λi hi=>by
  by_cases A:i=k
  ·simp only[A,cJ];exact o
  ·simp only[A,cF];exact(C.row i hi).fr f λb D=>(C.ap2 i hi b D).2
 len:=λi hi=>by
  by_cases A:i=k
  ·simp only[A,cJ];exact hl
  ·simp only[A,cF];exact C.len i hi
 pos:=C.pos
 inM:=⟨.inl C.inM.1,λb D=>.inl (C.inM.2.1 b D),λi hi b D=>by
  by_cases A:i=k
  ·simp only[A,cJ]at D;exact .inr D
  ·simp only[A,cF]at D;exact .inl (C.inM.2.2 i hi b D)⟩
 ap1:=C.ap1
 ap2:=λi hi b D=>by
  by_cases A:i=k
  ·simp only[A,cJ]at D;exact⟨λL=>(H b D).2 (L▸C.inM.1),λhs=>(H b D).2 (C.inM.2.1 b hs)⟩
  ·simp only[A,cF]at D;exact C.ap2 i hi b D
 ap3:=λi j hi W I b D F=>by
  by_cases A:i=k
  ·subst A;simp only[cJ,ie I,cF]at D F;exact(H b D).2 (C.inM.2.2 j W b F)
  ·simp only[A,cF]at D;by_cases G:j=k
   ·simp only[G,cJ]at F;exact(H b F).2 (C.inM.2.2 i hi b D)
   ·simp only[G,cF]at F;exact C.ap3 i j hi W I b D F
 lt:=λb D=>by
  rcases D with D|D
  ·exact bT (C.lt b D) f.1
  ·exact(H b D).1
theorem Lv (n:Nat)(f:Nat→Value)(i:Nat)(x:Value):((List.range n).map f).set i x=(List.range n).map λk=>if k=i then x else f k:=by
 apply qu
 ·simp
 ·intro k h1 A;rw[GY];simp only[eU,y5, @eq_comm _ k i]
theorem CG {h:ah}{v:Value}{l:List Int}(o:kh h v l):aQ v=true:=by
 rcases o with⟨rfl,_⟩|⟨b,cap,r,e,rfl,_⟩<;>rfl
theorem zc0 {M:Nat→Prop}{h:ah}{v u:Value}{n:Nat}{rows:Nat→List Int}(H:fF M h v n rows)(i:Int){s:List Int}(hu:lJ h u s)(hs:s.length≤4398046511104):
  ag prog fZ #[v,af i,u] h λr h'=>r=.bool (Ky n i s)∧∃M',fF M' h' v n (oh n rows i s)∧Fr M h h'∧∀b,M' b→M b∨h.size≤b:=by
 apply Do;unfold tJ;refine(zcS H i).mono ?_;rintro _ h' ⟨rfl,hh⟩;subst hh;have no:Ky n i s=false→∃M',fF M' h' v n (oh n rows i s)∧Fr M h' h'∧∀b,M' b→M b∨h'.size≤b:=λU=>
  ⟨M,by unfold oh;rw[U];exact H,Fr.refl _ _,λb D=>.inl D⟩
 have L:=hu;obtain⟨ua,uc,rfl,_⟩:=hu;by_cases hi:0≤i∧i<n
 ·obtain⟨bc,sl,sv,t,rfl,C⟩:=H;have au:=C.pos;have ar:=C.arr.sl;obtain⟨_,sa,sc,rfl,_⟩:=ar;by_cases hn:s.length=n
  ·have I:((s.length:Int)=(n:Int)):=ae;simp only[go_sem,hi,am C.var,y7,I];refine(c_Min L (by intro h0;subst h0;simp at hn;omega) hs).mono ?_;rintro _ h1 ⟨⟨m,rfl,U⟩,hh⟩;subst hh;simp only[go_sem,U];cases F:s.any λx=>decide (x<0)with
   |true=>
    have A:Ky n i s=false:=by simp[Ky,F]
    simp only[go_sem];exact⟨by rw[A],no A⟩
   | false=>
    have A:Ky n i s=true:=by simp[Ky,F,hi,hn]
    obtain⟨k,rfl⟩:=Ri hi.1;have G:k<n:=ae;simp only[go_sem];refine PG ?_;obtain⟨p,hp,hq⟩:=C.arr.sl.at1 (k:=.i64) G;rw[eU,y5]at hq;refine aC (.slice sa n sc) (λh2 e=>by rw[am (e.row C.var)];rfl) ?_;refine aC (.slice sa n sc) (λh2 e=>by rw[am (e.row C.var)];rfl) ?_;rw[hp,aj];refine aC (sv k) (λh2 e=>?_) ?_
    ·obtain⟨p2,W,ad⟩:=(C.ext e).arr.sl.at1 (k:=.i64) G;rw[eU,y5]at ad;rw[hp]at W;cases W;exact ad
    refine(zc2 (C.row k G).ints L (by rw[C.len k G];omega) hs).mono ?_;rintro r h2 ⟨o2,e2,n2⟩;refine⟨e2,?_⟩;have C2:=C.ext e2;obtain⟨p3,aa,aw,al⟩:=C2.arr.at1 (k:=.i64) G;rw[hp]at aa;cases aa;rw[aj];refine al _ _ (CG o2) λh3 o3 f3 _=>?_
    rw[Lv]at o3;have ab:∀b,blk r b→¬M b:=λb D U=>by have:=C.lt b U;have:=n2 b D;omega
    have o4:kh h3 r (Pw (rows k) s):=o2.fr f3 λb D an=>ab b D (C.inM.2.1 b an)
    have C3:=C2.swap G o4 (by rw[zu,C.len k G,hn];exact Nat.max_self n) f3 o3 λb D=>⟨Own.lt o4 D,ab b D⟩
    have CC:fF (λb=>M b∨blk r b) h3 (.pointer (some ⟨bc,0,none⟩)) n (oh n rows k s):=by
     unfold oh;rw[aA A];exact⟨bc,_,_,t,rfl,C3⟩
    refine⟨by rw[A],(λb=>M b∨blk r b),CC,e2.fr.trans (f3.mono λb _ D=>C.inM.2.1 b D),λb D=>Or.imp (λh=>h) (n2 b) D⟩
  ·have I:¬((s.length:Int)=(n:Int)):=ae;have A:Ky n i s=false:=by simp[Ky,hn]
   simp only[go_sem,hi,am C.var,y7,I];exact⟨by rw[A],no A⟩
 ·have A:Ky n i s=false:=by simp[Ky,hi]
  simp only[go_sem,hi];exact⟨by rw[A],no A⟩
end Go.Proofs.YtjljhnandbbldaaGreatDoor
namespace Go.Proofs.YtjljhnandbbldaaGreatDoor
open Go Go.Crisp
attribute [local irreducible] ag df aW stK aF vK qK bJ gK eK aZ mkK di Fi ud oA V2
open _root_.Go.Proofs.Tryz
section
structure Bag (M:Nat→Prop)(h:ah)(bx bm:Nat)(fr:Value)(w:Nat)(all:List (Value×List Int)):Prop where
 own:∀p∈all,kh h p.1 p.2∧p.2.length=w∧∀k,blk p.1 k→k≠bx∧k≠bm∧¬blk fr k∧M k
 apart:all.Pairwise λa b=>∀k,blk a.1 k→¬blk b.1 k
theorem Bag.perm {M:Nat→Prop}{h:ah}{bx bm:Nat}{fr:Value}{w:Nat}{all A:List (Value×List Int)}(B:Bag M h bx bm fr w all)(p:A.Perm all):Bag M h bx bm fr w A where
 own:=λq hq=>B.own q (p.mem_iff.1 hq)
 apart:=(p.pairwise_iff (λ{x y} D k G F=>D k F G)).2 B.apart
theorem Bag.fr {M Q:Nat→Prop}{h h':ah}{bx bm:Nat}{fr:Value}{w:Nat}{all:List (Value×List Int)}(B:Bag M h bx bm fr w all)(f:Fr Q h h')(q:∀p∈all,∀k,blk p.1 k→¬Q k):Bag M h' bx bm fr w all where
 own:=λp A=>⟨(B.own p A).1.fr f (q p A),(B.own p A).2⟩
 apart:=B.apart
theorem Bag.ext {M:Nat→Prop}{h h':ah}{bx bm:Nat}{fr:Value}{w:Nat}{all:List (Value×List Int)}(B:Bag M h bx bm fr w all)(e:Ext h h'):Bag M h' bx bm fr w all:=B.fr (Q:=λ_=>False) e.fr λ_ _ _ _=>id
theorem Bag.mono {M M':Nat→Prop}{h:ah}{bx bm:Nat}{fr D:Value}{w:Nat}{all:List (Value×List Int)}(B:Bag M h bx bm fr w all)(G:∀k,M k→M' k)(H:∀p∈all,∀k,blk p.1 k→¬blk D k):Bag M' h bx bm D w all where
 own:=λp A=>⟨(B.own p A).1,(B.own p A).2.1,λk F=>⟨((B.own p A).2.2 k F).1,((B.own p A).2.2 k F).2.1,H p A k F,G k ((B.own p A).2.2 k F).2.2.2⟩⟩
 apart:=B.apart
structure zE (M:Nat→Prop)(h:ah)(bx bm:Nat)(fr:Value)(t:TypeId)(room w:Nat)(es:List (Int×(Value×List Int)))(fv xs:List (Value×List Int)):Prop where
 var:h[bx]? =some (.cells #[.int .i64 room,.int .i64 w,.map (some bm),fr] t (0,0))
 map:uw h bm (qw Prod.fst es)
 free:Own 1 h fr fv.length (fv.map Prod.fst)
 bag:Bag M h bx bm fr w (es.map Prod.snd++fv++xs)
 ap:bx≠bm∧¬blk fr bx∧¬blk fr bm
 inM:M bx∧M bm∧∀k,blk fr k→M k
 lt:∀k,M k→k<h.size
 nums:1≤room∧room≤65536∧w≤262144
 keys:∀e∈es,(Lit.int .i64 e.1).wf=true
 len:es.length≤room
 tot:es.length+fv.length+xs.length≤room+1
def ij (M:Nat→Prop)(h:ah)(v:Value)(room w:Nat)(rs:List (Int×List Int)):Prop:=
 ∃bx bm fr t es fv,v=.pointer (some ⟨bx,0,none⟩)∧zE M h bx bm fr t room w es fv []∧rs=qw Prod.snd es∧es.length+fv.length≤room
theorem zE.fr {M Q:Nat→Prop}{h h':ah}{bx bm:Nat}{fr:Value}{t:TypeId}{room w:Nat}{F:List (Int×(Value×List Int))}{H D:List (Value×List Int)}(R:zE M h bx bm fr t room w F H D)(f:Fr Q h h')(q:∀b,b<h.size→M b→¬Q b):zE M h' bx bm fr t room w F H D:=
 {R with
  var:=f.row R.var (q bx (R.lt _ R.inM.1) R.inM.1)
  map:=R.map.fr f (q bm (R.lt _ R.inM.2.1) R.inM.2.1)
  free:=R.free.fr f λk A=>q k (R.lt _ (R.inM.2.2 k A)) (R.inM.2.2 k A)
  bag:=R.bag.fr f λp G k A=>q k (R.lt _ ((R.bag.own p G).2.2 k A).2.2.2) ((R.bag.own p G).2.2 k A).2.2.2
  lt:=λk A=>bT (R.lt k A) f.1}
theorem ij.fr {M Q:Nat→Prop}{h h':ah}{v:Value}{room w:Nat}{rs:List (Int×List Int)}(H:ij M h v room w rs)(f:Fr Q h h')(q:∀b,b<h.size→M b→¬Q b):ij M h' v room w rs:=by
 obtain⟨bx,bm,fr,t,D,F,rfl,R,h1,A⟩:=H;exact⟨bx,bm,fr,t,D,F,rfl,R.fr f q,h1,A⟩
theorem ij.ext {M:Nat→Prop}{h h':ah}{v:Value}{room w:Nat}{rs:List (Int×List Int)}(H:ij M h v room w rs)(e:Ext h h'):ij M h' v room w rs:=H.fr (Q:=λ_=>False) e.fr λ_ _ _=>id
theorem ij.lt {M:Nat→Prop}{h:ah}{v:Value}{room w:Nat}{rs:List (Int×List Int)}(H:ij M h v room w rs){b:Nat}(A:M b):b<h.size:=by
 obtain⟨bx,bm,fr,t,F,G,rfl,R,h1,D⟩:=H;exact R.lt b A
theorem ij.nodup {M:Nat→Prop}{h:ah}{v:Value}{room w:Nat}{rs:List (Int×List Int)}(H:ij M h v room w rs):(rs.map Prod.fst).Nodup:=by
 obtain⟨bx,bm,fr,t,D,F,rfl,R,rfl,A⟩:=H;rw[yu,←yu Prod.fst];exact R.map.nodup
theorem ij.nums {M:Nat→Prop}{h:ah}{v:Value}{room w:Nat}{rs:List (Int×List Int)}(H:ij M h v room w rs):1≤room∧room≤65536∧w≤262144∧rs.length≤room∧(∀p∈rs,p.2.length=w∧(Lit.int .i64 p.1).wf=true):=by
 obtain⟨bx,bm,fr,t,G,I,rfl,R,rfl,F⟩:=H;refine⟨R.nums.1,R.nums.2.1,R.nums.2.2,by simpa[qw]using R.len,λp D=>?_⟩;obtain⟨e,A,rfl⟩:=iG.1 D;exact⟨(R.bag.own e.2 (by simp;exact .inl ⟨e.1,A⟩)).2.1,R.keys e A⟩
def kE (a:Int):Nat:=(min (max 1 a) 65536).toNat
def gP (a:Int):Nat:=(min (max 0 a) 262144).toNat
theorem zcY {h:ah}(a b:Int):ag prog Fw #[af a,af b] h λr h'=>∃M,ij M h' r (kE a) (gP b) []∧Ext h h'∧∀k,M k→h.size≤k:=by
 apply Te;unfold Jr;have W:min (max 1 a) 65536=((kE a:Nat):Int):=by unfold kE;omega
 have hb:min (max 0 b) 262144=((gP b:Nat):Int):=by unfold gP;omega
 have h1:1≤kE a∧kE a≤65536:=by unfold kE;omega
 have I:gP b≤262144:=by unfold gP;omega
 simp only[go_sem,W,hb];generalize kE a=room at h1;generalize gP b=w at I;refine zaT λbm h3 D L U=>?_
 rw[Le _ #[af room,af w,.map (some bm),.slice none 0 0] (by kernel_rfl)];refine aI (c:=#[af room,af w,.map (some bm),.slice none 0 0]) λbx h4 G F n4=>?_
 obtain⟨t,H⟩:∃t,h4[bx]? =some (.cells #[af room,af w,.map (some bm),.slice none 0 0] t (0,0)):=⟨_,G⟩
 have lm:=D.lt;refine⟨λk=>k=bx∨k=bm,⟨bx,bm,.slice none 0 0,t,[],[],rfl,?_,rfl,by simp⟩,L.trans F,?_⟩
 ·exact{
   var:=H,map:=D.ext F,free:=.inl ⟨rfl,rfl,rfl⟩,bag:=⟨λp hp=>absurd hp (by simp),List.Pairwise.nil⟩
   ap:=⟨ae,λh=>h.elim,λh=>h.elim⟩,inM:=⟨.inl rfl,.inr rfl,λk A=>A.elim⟩
   lt:=λk A=>by
    rcases A with rfl|rfl
    ·exact bB H
    ·exact(D.ext F).lt
   nums:=⟨h1.1,h1.2,I⟩,keys:=λe he=>absurd he (by simp),len:=by simp,tot:=by simp}
 ·rintro k (rfl|rfl)
  ·exact bh L.1 n4
  ·exact U
section
variable {M:Nat→Prop}{h:ah}{v:Value}{room w:Nat}{rs:List (Int×List Int)}
theorem zaa (H:ij M h v room w rs):ag prog oU #[v] h λr h'=>r=af (w:Nat)∧h'=h:=by
 obtain⟨bx,bm,fr,t,D,F,rfl,R,rfl,A⟩:=H;apply EE;unfold uS;simp only[go_sem,am R.var];exact⟨trivial,trivial⟩
theorem Z8 (H:ij M h v room w rs):ag prog oT #[v] h λr h'=>r=af ((room:Int)*w)∧h'=h:=by
 obtain⟨bx,bm,fr,t,G,I,rfl,R,rfl,F⟩:=H;apply ED;unfold uR;have A:=R.nums;have L:room*w≤65536*262144:=zg A.2.1 A.2.2;have D:((room*w:Nat):Int)=(room:Int)*w:=lV ..;simp only[go_sem,am R.var];rw[w64 ae ae];exact⟨rfl,trivial⟩
theorem zab (H:ij M h v room w rs)(j:Int):ag prog mK #[v,af j] h λr h'=>r=.bool (fM j rs).isSome∧h'=h:=by
 obtain⟨bx,bm,fr,t,A,F,rfl,R,rfl,D⟩:=H;apply IF;unfold yb;simp only[go_sem,am R.var,MH R.map];rw[rX,rX];cases fM j A with
 |none=>simp only[KZ,Tt,sS,go_sem];exact⟨rfl,trivial⟩
 |some p=>simp only[cI,Tt,sS,go_sem];exact⟨rfl,trivial⟩
theorem Nz {h:ah}{v:Value}{l:List Int}(A:lJ h v l)(F:l.length≤4398046511104):
  ag prog dd #[v] h λr h'=>kh h' r l∧Ext h h'∧∀b,blk r b→h.size≤b:=by
 apply jr;unfold fP;have D:=A;obtain⟨a,cap,rfl,A⟩:=A;cases a with
 |none=>
  simp only[HZ,go_sem];rcases A with rfl|⟨b,o,h1,_⟩
  ·exact⟨Qt,Ext.refl h,λb G=>G.elim⟩
  ·cases h1
 |some a=>
  simp only[HV,go_sem];exact PH D F λr h' o e n=>⟨o,e,n⟩
theorem zcW (H:ij M h v room w rs)(j:Int):ag prog sX #[v,af j] h λr h'=>∃u,r=.tuple #[u,.bool (fM j rs).isSome]∧kh h' u ((fM j rs).getD [])∧Ext h h'∧∀b,blk u b→h.size≤b:=by
 have A:=H.nums;obtain⟨bx,bm,fr,t,F,L,rfl,R,rfl,I⟩:=H;apply ID;unfold xY;simp only[go_sem,am R.var,MH R.map];rw[rX,rX];cases G:fM j F with
 |none=>
  simp only[KZ,Tt,sS,go_sem];refine(Nz (v:=.slice none 0 0) (l:=[]) ⟨none,0,rfl,.inl rfl⟩ (by simp)).mono ?_;rintro u h1 ⟨o,e,n⟩;exact⟨u,rfl,o,e,n⟩
 |some p=>
  simp only[cI,Tt,sS,go_sem];have D:=R.bag.own p (by simp;exact .inl ⟨j,MO G⟩);refine(Nz D.1.ints (by rw[D.2.1];omega)).mono ?_;rintro u h1 ⟨o,e,n⟩;exact⟨u,rfl,o,e,n⟩
def xt:List Int→Int
 | []=>0
 |x::l=>l.foldl min x
theorem XJ {a b:List Int}(h:a.Perm b):xt a=xt b:=by
 have key:∀(l:List Int) (x:Int),(∀y∈x::l,l.foldl min x≤y)∧l.foldl min x∈x::l:=by
  intro l;induction l with
  |nil=>intro x;simp
  | cons z l H=>
   intro x;rw[wY];obtain⟨h1,D⟩:=H (min x z);have L:=h1 (min x z) (Hr ..);refine⟨λy F=>?_,?_⟩
   ·rcases kq.1 F with rfl|F
    ·omega
    ·rcases kq.1 F with rfl|F
     ·omega
     ·exact h1 y (xx _ F)
   ·rcases kq.1 D with D|D
    ·rw[D];rcases CM x z with A|A
     ·rw[Int.min_eq_left A];simp
     ·rw[Int.min_eq_right A];simp
    ·exact xx _ (xx _ D)
 cases a with
 |nil=>have:=h.nil_eq;subst this;rfl
 | cons x l=>
  cases b with
  |nil=>have:=h.symm.nil_eq;cases this
  |cons y m=>
   obtain⟨a1,a2⟩:=key l x;obtain⟨G,I⟩:=key m y;exact Int.le_antisymm (a1 _ (h.mem_iff.2 I)) (G _ (h.mem_iff.1 a2))
theorem XI {l:List Int}(h:l≠[])(x:Int):xt (l++[x])=min (xt l) x:=by
 cases l with
 |nil=>exact absurd rfl h
 |cons y l=>simp[xt]
theorem zbH {h:ah}{v:Value}{l:List Int}(hv:lJ h v l)(h0:l≠[])(hl:l.length≤4398046511104):
  ag prog gU #[v] h λr h'=>r=af (xt l)∧h'=h:=by
 apply sJ;unfold kc;have hp:0<l.length:=wZ.2 h0;have hs:=hv.sl;obtain⟨a,cap,rfl,_⟩:=hv;refine bi (λL h'=>L=[]∧h'=h) ?_ ?_
 ·simp only[go_sem];refine ao (λh1=>ae) (λ_=>⟨trivial,trivial⟩)
 ·rintro _ ρj h' ⟨rfl,hh⟩;subst hh;obtain⟨p,A,G⟩:=hs.at1 (k:=.i64) (i:=0) hp;rw[eU]at G;rw[show((0:Nat):Int)=0 from rfl]at A;simp only[go_sem,A,G];refine dw (λd L I=>I=h'∧∃(k:Nat),1≤k∧k≤l.length∧d=l.length-k∧L=[af (xt (l.take k)),af (k:Int)]) (l.length-1)
   ⟨rfl,1,ae,ae,rfl,?_⟩ ?_
  ·cases l with
   |nil=>exact absurd rfl h0
   |cons x l=>rfl
  ·rintro d _ ρj _ again ⟨rfl,k,h1,hk,rfl,rfl⟩ W;simp only[go_sem];refine ao (λab=>?_) (λaa=>?_)
   ·have F:k<l.length:=ae;obtain⟨p,U,D⟩:=hs.at1 (k:=.i64) F;rw[eU]at D;simp only[go_sem,U,D,vi];rw[w64 ae ae];refine W _ _ (l.length-(k+1)) ae ⟨rfl,k+1,ae,ae,rfl,?_⟩;have H:l.take k≠[]:=λh=>by
     have h9:=congrArg List.length h;rw[c5,kr]at h9;omega
    rw[ju F,XI H];rfl
   ·rw[eS ae];exact⟨rfl,trivial⟩
theorem Uf (H:ij M h v room w rs):ag prog oV #[v] h λr h'=>r=.tuple #[af (xt (rs.map Prod.fst)),.bool (!decide (rs=[]))]∧Ext h h':=by
 have I:=H.nums;obtain⟨bx,bm,fr,t,G,fv,rfl,R,rfl,h2⟩:=H;apply EH;unfold uT;by_cases h0:G=[]
 ·subst h0;simp only[go_sem,am R.var,RT R.map,qw,List.map_nil,kr,Int.natCast_zero];exact⟨rfl,Ext.refl h⟩
 ·have U:¬(((qw Prod.fst G).length:Nat):Int)=0:=by
   simp only[qw,cV];have:=wZ.2 h0;omega
  simp only[go_sem,am R.var,RT R.map,U];apply iY;unfold ed;refine aI λb1 h1 r1 L n1=>?_
  have D:(qw Prod.fst G).length≤1000000:=by
   have:=R.len;have:=R.nums;simp only[qw,cV];omega
  refine(Ui r1 (R.map.ext L) (λp hp=>?_) D).mono ?_
  ·obtain⟨e,he,rfl⟩:=iG.1 hp;exact R.keys e he
  rintro u h3 ⟨ss,A,W,e3,n3⟩;have F:ss.length=G.length:=by rw[A.length_eq];simp[qw]
  refine(zbH W.ints (by intro h;subst h;simp at F;exact h0 (mX F.symm)) (by have:=R.len;have:=R.nums;omega)).mono ?_;rintro _ h4 ⟨rfl,rfl⟩;refine⟨?_,L.trans e3⟩;rw[XJ A,yu,yu];have:¬qw Prod.snd G=[]:=by simpa[qw]using h0
  simp[this]
end
end
theorem HH {α:Type}{j:Int}{p:α}{A:List (Int×α)}(D:fM j A=some p):(pG j A).length+1=A.length:=by
 have:=(IV D).length_eq;simpa using this.symm
theorem zcU {M:Nat→Prop}{h:ah}{bx bm:Nat}{fr:Value}{t:TypeId}{room w:Nat}{U:List (Int×(Value×List Int))}{G:List (Value×List Int)}(R:zE M h bx bm fr t room w U G []){j:Int}{p:Value×List Int}(hg:fM j U=some p):
  ag prog qE #[.pointer (some ⟨bx,0,none⟩),af j] h λ_ h'=>∃M' L,zE M' h' bx bm L t room w (pG j U) (G++[p]) []∧Fr M h h'∧(∀k,M' k→M k∨h.size≤k)∧
   ∀I c,h[bm]? =some (.map I c)→∃aw,h'[bm]? =some (.map aw c)∧∀e∈aw,e∈I∧e.key≠af j:=by
 apply Gx;unfold ww;refine aP (λhh=>hh[bx]? =some (.cells #[af room,af w,.map (some bm),fr] t (0,0))∧hh[bm]? =h[bm]?) ⟨R.var,rfl⟩ ?_
 try simp only[go_sem]
 refine aC fr (λhh S=>by rw[am S.1];rfl) ?_;refine aC (.map (some bm)) (λhh S=>by rw[am S.1];rfl) ?_;refine aC p.1 (λhh S=>by rw[MH (R.map.row S.2),rX,hg];rfl) ?_;have al:p∈U.map Prod.snd++G++[]:=by simp;exact .inl ⟨j,MO hg⟩
 have hp:=R.bag.own p al;have au:=CG hp.1;refine da (Rp.fill_one au) λb1 h1 r1 H n1=>?_
 have a9:=bB R.var;have ab:=R.map.lt;refine⟨⟨H.row R.var,H.2 bm ab⟩,?_⟩;have S1:=Rp.SlC.single (cs:=[p.1]) r1;have a7:=R.nums;have ar:=R.tot;simp only[kr,iE]at ar;refine vJ (R.free.fr (M:=λ_=>False) H.fr λ_ _=>id) S1 (aq au aX) rfl ae ae λL h2 o2 f2 n2=>?_
 have v2:=f2.row (H.row R.var) R.ap.2.1;have m2:h2[bm]? =h[bm]? :=(f2.2 bm (bT ab H.1) R.ap.2.2).trans (H.2 bm ab);refine⟨⟨v2,m2⟩,?_⟩;have F:∀k,blk L k→k≠bx∧k≠bm:=λk A=>by
  rcases n2 k A with h3|h3
  ·exact⟨λh4=>R.ap.2.1 (h4▸h3),λh4=>R.ap.2.2 (h4▸h3)⟩
  ·have:=H.1;exact⟨ae,ae⟩
 obtain⟨fa,fc,rfl⟩:∃a c,L=.slice a (G.length+1) c:=o2.isSl
 try simp only[go_sem]
 refine b9 (o:=3) v2 (by simp) rfl λh3 r3 u3=>?_
 have r3:h3[bx]? =some (.cells #[af room,af w,.map (some bm),.slice fa (G.length+1) fc] t (0,0)):=r3;have m3:h3[bm]? =h[bm]? :=(u3.2 bm (ie R.ap.1)).trans m2;simp only[go_sem,am r3];refine ZC (R.map.row m3) λh4 m4 u4 d4=>?_
 have an:Fr (λk=>M k) h h4:=((H.fr.trans (f2.mono λk _ A=>R.inM.2.2 k A)).trans (u3.fr.mono λk _ A=>by rw[show k=bx from A];exact R.inM.1)).trans (u4.fr.mono λk _ A=>by rw[show k=bm from A];exact R.inM.2.1);have a8:∀k,M k→k<h.size:=R.lt;have aa:(((pG j U).map Prod.snd++(G++[p]))++[]).Perm (U.map Prod.snd++G++[]):=by
  have W:=(IV hg).map Prod.snd;rw[uo]at W;rw[gR,gR,←cf];exact(GX (l₁:=(pG j U).map Prod.snd++G) (l₂:=[p])).trans (W.symm.append_right G)
 have D:∀q∈U.map Prod.snd++G++[],∀k,blk q.1 k→k≠bx∧k≠bm∧¬blk fr k∧M k:=λq hq=>(R.bag.own q hq).2.2
 have ad:Bag M h4 bx bm fr w (U.map Prod.snd++G++[]):=by
  refine(((R.bag.ext H).fr f2 λq hq k A=>(D q hq k A).2.2.1).fr u3.fr λq hq k A=>(D q hq k A).1).fr u4.fr λq hq k A=>(D q hq k A).2.1
 refine⟨λk=>M k∨blk (.slice fa (G.length+1) fc) k,.slice fa (G.length+1) fc,?_,an,λk A=>?_,?_⟩
 ·exact{
   var:=u4.row (λh=>R.ap.1 h) r3
   map:=by rw[MR]at m4;exact m4
   free:=by
    have:=(o2.fr u3.fr λk A=>(F k A).1).fr u4.fr λk A=>(F k A).2
    rw[ck,iD];exact this
   bag:=(ad.mono (λk A=>.inl A) λq hq k A ax=>by
    rcases n2 k ax with W|W
    ·exact(D q hq k A).2.2.1 W
    ·have:=R.lt k (D q hq k A).2.2.2;have:=H.1;omega).perm aa
   ap:=⟨R.ap.1,λA=>(F _ A).1 rfl,λA=>(F _ A).2 rfl⟩
   inM:=⟨.inl R.inM.1,.inl R.inM.2.1,λk A=>.inr A⟩
   lt:=λk A=>by
    rcases A with A|A
    ·exact bT (R.lt k A) an.1
    ·have:=o2.lt A;have:=u3.1;have:=u4.1;omega
   nums:=R.nums
   keys:=λe he=>R.keys e (MQ.subset he)
   len:=by have:=HH hg;have:=R.len;omega
   tot:=by have:=HH hg;simp;omega}
 ·rcases A with A|A
  ·exact .inl A
  ·rcases n2 k A with W|W
   ·exact .inl (R.inM.2.2 k W)
   ·exact .inr (bh H.1 W)
 ·intro I c ay;exact d4 I c (m3.trans ay)
theorem Own.shrink {h:ah}{v:Value}{n:Nat}{cs:List Value}(H:Own 1 h v n cs)(W:0<n):∃D,xj 1 v none (some (af ((n-1:Nat):Int)))=some D∧Own 1 h D (n-1) cs.dropLast∧(∀k,blk D k→blk v k):=by
 rcases H with⟨rfl,rfl,rfl⟩|⟨b,cap,r,e,rfl,hc,F,U,L⟩
 ·omega
 ·have A:cs≠[]:=λh0=>by rw[h0]at F;simp at F;omega
  refine⟨.slice (some ⟨b,0,none⟩) (n-1) cap,?_,.inr ⟨b,cap,cs.getLast A::r,e,rfl,ae,by simp;omega,?_,?_⟩,λk G=>G⟩
  ·have h1:(0:Int)≤((n-1:Nat):Int)∧((n-1:Nat):Int)≤(cap:Int):=ae;have I:¬cap=0:=ae;simp only[xj,bdV,aA h1,eT,az I,cI,mG,y9,zi,iE]
  ·rw[←U]
   conv=>rhs;rw[←Rh A]
   simp
  ·rw[L]
   conv=>lhs;rw[←Rh A]
   simp
theorem Bag.last {M:Nat→Prop}{h h':ah}{bx bm:Nat}{fr:Value}{w:Nat}{all:List (Value×List Int)}{u:Value}{D l:List Int}(B:Bag M h bx bm fr w (all++[(u,D)]))(f:Fr (blk u) h h')(o:kh h' u l)(F:l.length=w):Bag M h' bx bm fr w (all++[(u,l)]) where
 own:=λp A=>by
  rcases gS.1 A with A|A
  ·have h1:=B.own p (KH _ A);have I:=(qP.1 B.apart).2.2 p A (u,D) (by simp);exact⟨h1.1.fr f λk H=>I k H,h1.2⟩
  ·rw[ib.1 A];exact⟨o,F,(B.own (u,D) (by simp)).2.2⟩
 apart:=by
  have h1:=qP.1 B.apart;refine qP.2 ⟨h1.1,by simp,λa G b L=>?_⟩;rw[ib.1 L];exact h1.2.2 a G (u,D) (by simp)
theorem zbk {M:Nat→Prop}{h:ah}{bx bm:Nat}{fr:Value}{t:TypeId}{room w:Nat}{U:List (Int×(Value×List Int))}{D:List (Value×List Int)}(R:zE M h bx bm fr t room w U D [])(h1:U.length<room)(h2:U.length+D.length≤room):
  ag prog oS #[.pointer (some ⟨bx,0,none⟩)] h λu h'=>∃M' ay ad l0,zE M' h' bx bm ay t room w U ad [(u,l0)]∧Fr M h h'∧(∀k,M' k→M k∨h.size≤k)∧U.length+1+ad.length≤room:=by
 apply EC;unfold uQ;have a9:=R.nums;obtain⟨fa,fc,rfl⟩:=R.free.isSl;simp only[go_sem,am R.var];refine ao (λhp=>?_) (λhz=>?_)
 ·have hp:0<D.length:=ae;have aa:IntKind.i64.wrap ((D.length:Int)-1)=((D.length-1:Nat):Int):=by rw[w64 ae ae];omega
  obtain⟨p,a8,aw⟩:=R.free.sl.at1 (k:=.i64) (i:=D.length-1) ae;obtain⟨v',an,ab,F⟩:=Own.shrink R.free hp;rw[aa,a8,aj,aw,aj,an,aj];have G:D≠[]:=wZ.1 hp;have L:(D.map Prod.fst)[D.length-1]'(by simp;omega)=(D.getLast G).1:=by
   rw[eU];congr 1;rw[List.getLast_eq_getElem]
  rw[L];refine b9 (o:=3) R.var (by simp) (by obtain⟨_,_,rfl⟩:=ab.isSl;rfl) λh3 r3 u3=>?_
  have r3:h3[bx]? =some (.cells #[af room,af w,.map (some bm),v'] t (0,0)):=r3;have ar:D.dropLast.map Prod.fst=(D.map Prod.fst).dropLast:=by simp
  refine⟨M,v',D.dropLast,(D.getLast G).2,?_,u3.fr.mono λk _ A=>by rw[show k=bx from A];exact R.inM.1,λk A=>.inl A,by simp;omega⟩;have al:∀k,blk v' k→k≠bx:=λk A au=>R.ap.2.1 (au▸F k A)
  have I:(U.map Prod.snd++D.dropLast++[D.getLast G]).Perm (U.map Prod.snd++D++[]):=by
   rw[cf,Rh G,gR]
  exact{
   var:=r3
   map:=R.map.row (u3.2 bm (ie R.ap.1))
   free:=by rw[List.length_dropLast,ar];exact ab.fr u3.fr λk A=>al k A
   bag:=((R.bag.fr u3.fr λq hq k A=>((R.bag.own q hq).2.2 k A).1).mono (λk A=>A) λq hq k A H=>((R.bag.own q hq).2.2 k A).2.2.1 (F k H)).perm I
   ap:=⟨R.ap.1,λA=>R.ap.2.1 (F _ A),λA=>R.ap.2.2 (F _ A)⟩
   inM:=⟨R.inM.1,R.inM.2.1,λk A=>R.inM.2.2 k (F k A)⟩
   lt:=λk A=>by rw[u3.1];exact R.lt k A
   nums:=R.nums,keys:=R.keys,len:=R.len
   tot:=by simp;omega}
 ·have ax:D=[]:=mX ae;subst ax;refine og rfl ae ae λu h3 o3 e3 n3=>?_
  have a7:kh h3 u (List.replicate w 0):=by
   unfold kh;rw[vv,Rl];exact o3
  have R3:=R.fr (Q:=λ_=>False) e3.fr λ_ _ _=>id
  refine⟨λk=>M k∨blk u k,.slice fa ([]:List (Value×List Int)).length fc,[],List.replicate w 0,?_,e3.fr,λk A=>A.imp id (n3 k),by simp;omega⟩;have hu:∀k,blk u k→¬M k:=λk A hm=>by have:=R.lt k hm;have:=n3 k A;omega
  exact{R3 with
   bag:=by
    refine⟨λq hq=>?_,?_⟩
    ·rcases gS.1 hq with hq|hq
     ·have W:=R3.bag.own q (by simpa using hq);exact⟨W.1,W.2.1,λk A=>⟨(W.2.2 k A).1,(W.2.2 k A).2.1,(W.2.2 k A).2.2.1,.inl (W.2.2 k A).2.2.2⟩⟩
     ·rw[ib.1 hq];exact⟨a7,by simp,λk A=>⟨λh=>hu k A (h▸R.inM.1),λh=>hu k A (h▸R.inM.2.1),λh=>hu k A (R.inM.2.2 k h),.inr A⟩⟩
    ·refine qP.2 ⟨by simpa using R3.bag.apart,by simp,λa ha b hb k A H=>?_⟩;rw[ib.1 hb]at H;exact hu k H ((R3.bag.own a (by simpa using ha)).2.2 k A).2.2.2
   inM:=⟨.inl R.inM.1,.inl R.inM.2.1,λk A=>.inl (R.inM.2.2 k A)⟩
   lt:=λk A=>by
    rcases A with A|A
    ·exact R3.lt k A
    ·exact o3.lt A
   tot:=by simp;omega}
def BR (room:Nat)(rs:List (Int×List Int)):Bool:=decide (room≤rs.length)
def vq (room w:Nat)(rs:List (Int×List Int))(j:Int)(l:List Int):Bool:=decide (l.length=w)&&((fM j rs).isNone&& !(BR room rs&&decide (j<xt (rs.map Prod.fst))))
def mE (room:Nat)(rs:List (Int×List Int)):List (Int×List Int):=if BR room rs=true then pG (xt (rs.map Prod.fst)) rs else rs
def SY (room w:Nat)(rs:List (Int×List Int))(j:Int)(l:List Int):List (Int×List Int):=if vq room w rs j l=true then mE room rs++[(j,l)]else rs
theorem Tq {l:List Int}(h:l≠[]):xt l∈l:=by
 have key:∀(l:List Int) (x:Int),l.foldl min x∈x::l:=by
  intro l;induction l with
  |nil=>intro x;simp
  | cons z l F=>
   intro x;rw[wY];rcases kq.1 (F (min x z))with D|D
   ·rw[D];rcases CM x z with A|A
    ·rw[Int.min_eq_left A];simp
    ·rw[Int.min_eq_right A];simp
   ·exact xx _ (xx _ D)
 cases l with
 |nil=>exact absurd rfl h
 |cons x l=>exact key l x
theorem zcX {M:Nat→Prop} {h:ah} {v u:Value} {room w:Nat} {rs:List (Int×List Int)} (H:ij M h v room w rs) {j:Int} (hj:(Lit.int .i64 j).wf=true) {l:List Int} (hu:lJ h u l) (cb:l.length≤9223372036854775807) (hn:∀b,blk u b→¬M b):
  ag prog sY #[v,af j,u] h λr h'=>r=.bool (vq room w rs j l)∧∃M',ij M' h' v room w (SY room w rs j l)∧Fr M h h'∧∀k,M' k→M k∨h.size≤k:=by
 have H0:=H;have bv:=H.nodup;have b7:=H.nums;have bg:=λh' (e:Ext h h')=>Uf (H.ext e)
 obtain⟨bx,bm,fr,t,es,fv,rfl,R,L,bc⟩:=H;apply IE;unfold xZ;have b4:=hu;obtain⟨ua,uc,rfl,_⟩:=hu;have no:vq room w rs j l=false→∀h',Ext h h'→∃M',ij M' h' (.pointer (some ⟨bx,0,none⟩)) room w (SY room w rs j l)∧Fr M h h'∧∀k,M' k→M k∨h.size≤k:=λG h' e=>
  ⟨M,by unfold SY;rw[G];exact H0.ext e,e.fr,λk A=>.inl A⟩
 by_cases hw:l.length=w
 ·have ar:(l.length:Int)=(w:Int):=ae;simp only[go_sem,am R.var,ar];refine(zab H0 j).mono ?_;rintro _ h1 ⟨rfl,hh⟩;subst hh
  try simp only[go_sem]
  cases hg:fM j rs with
  |some q=>
   simp only[Option.isSome_some,go_sem];have G:vq room w rs j l=false:=by simp[vq,hg]
   exact⟨by rw[G],no G _ (Ext.refl _)⟩
  | none=>
   simp only[Option.isSome_none,go_sem];refine bi (λxs h'=>xs=[]∧vq room w rs j l=true∧∃M' an ab a9,zE M' h' bx bm an t room w ab a9 []∧ab.length<room∧ab.length+a9.length≤room∧qw Prod.snd ab=mE room rs∧Fr M h1 h'∧∀k,M' k→M k∨h1.size≤k) ?_ ?_
   ·refine(Uf H0).mono ?_;rintro _ h2 ⟨rfl,e2⟩;have R2:=R.fr (Q:=λ_=>False) e2.fr λ_ _ _=>id
    have bo:(qw Prod.fst es).length=rs.length:=by rw[L];simp[qw]
    simp only[go_sem,am R2.var,RT R2.map,bo];refine ao (λD=>?_) (λay=>?_)
    ·have D:room≤rs.length:=ae;have hf:BR room rs=true:=by simp[BR,D]
     refine ao (λb6=>?_) (λb0=>?_)
     ·have G:vq room w rs j l=false:=by simp[vq,hf,b6]
      exact⟨by rw[G],no G _ e2⟩
     ·have G:vq room w rs j l=true:=by simp[vq,hf,b0,hg,hw]
      have b5:rs.map Prod.fst≠[]:=λh0=>by
       have:=congrArg List.length h0;simp at this;rw[this]at D;simp at D;omega
      have W:=Tq b5;generalize hm:xt (rs.map Prod.fst)=m at W;have A:∃p,fM m es=some p:=by
       cases hc:fM m es with
       |some p=>exact⟨p,rfl⟩
       |none=>
        have:=qx.1 hc;rw[L,yu]at W;exact absurd W this
      obtain⟨p,A⟩:=A;refine(zcU R2 A).mono ?_;rintro _ h3 ⟨M',an,F,f3,n3,_⟩;have b8:=HH A;have b1:es.length=rs.length:=by rw[L];simp[qw]
      refine⟨trivial,G,M',an,pG m es,fv++[p],F,by have:=R.len;omega,by simp;omega,?_,e2.fr.trans f3,λk A=>(n3 k A).imp id λU=>bh e2.1 U⟩;unfold mE;rw[aA hf,hm,L,MR]
    ·have ay:¬room≤rs.length:=ae;have hf:BR room rs=false:=by simp[BR];omega
     have b1:es.length=rs.length:=by rw[L];simp[qw]
     refine⟨trivial,by simp[vq,hf,hg,hw],M,fr,es,fv,R2,ae,bc,?_,e2.fr,λk A=>.inl A⟩;unfold mE;rw[hf];exact L.symm
   ·rintro _ ρj h2 ⟨rfl,G,M2,ca,I,cc,R2,l2,t2,a7,f2,n2⟩;refine(zbk R2 l2 t2).mono ?_;rintro x h3 ⟨M3,ax,be,l0,F,f3,n3,t3⟩;have aa:=F.bag.own (x,l0) (by simp);have f13:Fr (λk=>M k∨h1.size≤k) h1 h3:=(f2.mono λk _ A=>.inl A).trans (f3.mono λk _ A=>n2 k A);have bd:Fr M h1 h3:=⟨f13.1,λb hb hm=>f13.2 b hb λhc=>hc.elim hm λU=>ae⟩
    have us:SlC 1 h3 (.slice ua l.length uc) l.length (l.map vi):=b4.sl.fr bd λb _ hb=>hn b hb
    have xo:Own 1 h3 x w (l0.map vi):=by
     have U:=aa.1;unfold kh at U;rw[aa.2.1]at U;exact U
    have xl:(l0.map vi).length=w:=by rw[cV];exact aa.2.1
    refine Ia xo us Uw λh4 o4 f4 s4=>?_
    have b3:kh h4 x l:=by
     have h6:(l.map vi).take w++(l0.map vi).drop l.length=l.map vi:=by
      rw[eS (by rw[cV];omega),qp ae,gR]
     rw[h6]at o4;unfold kh;rw[hw];exact o4
    have al:=F.bag.last (l:=l) f4 b3 hw;have ad:=aa.2.2;have v4:=f4.row F.var λhb=>(ad _ hb).1 rfl
    have m4:=F.map.fr f4 λhb=>(ad _ hb).2.1 rfl
    have bk:=F.free.fr f4 λk A aw=>(ad k aw).2.2.1 A
    simp only[go_sem,am v4];refine zaN m4 λU m5 u5=>?_
    have au:fM j I=none:=by
     cases hc:fM j I with
     |none=>rfl
     | some p=>
      exfalso;have h6:fM j (mE room rs)=some p.2:=by rw[←a7,rX,hc];rfl
      unfold mE at h6;split at h6
      ·rw[HG bv,hg]at h6;split at h6<;>cases h6
      ·rw[hg]at h6;cases h6
    have a8:Tz j x (qw Prod.fst I)=qw Prod.fst (I++[(j,(x,l))]):=by
     rw[MN (by rw[rX,au];rfl)];simp[qw]
    rw[a8]at m5;have f35:Fr M3 h3 U:=(f4.mono λk _ A=>(ad k A).2.2.2).trans (u5.fr.mono λk _ A=>by rw[show k=bm from A];exact F.inM.2.1);have f15:Fr M h1 U:=by
     have h7:Fr (λk=>M k∨h1.size≤k) h1 U:=f13.trans (f35.mono λk _ A=>(n3 k A).elim (n2 k) λh8=>.inr (bh f2.1 h8));exact⟨h7.1,λb hb hm=>h7.2 b hb λhc=>hc.elim hm λU=>ae⟩
    refine⟨by rw[G],M3,⟨bx,bm,ax,t,I++[(j,(x,l))],be,rfl,?_,?_,by simp;omega⟩,f15,λk A=>(n3 k A).elim (n2 k) λh8=>.inr (bh f2.1 h8)⟩
    ·have b2:Bag M3 U bx bm ax w (I.map Prod.snd++be++[(x,l)]):=al.fr u5.fr λq hq k A=>((al.own q hq).2.2 k A).2.1
     exact{
      var:=u5.row (λh=>F.ap.1 h) v4
      map:=m5
      free:=bk.fr u5.fr λk A aw=>F.ap.2.2 (aw▸A)
      bag:=b2.perm (by
       rw[gR,iD,cf,cf];exact(GX (l₁:=[(x,l)])).append_left _)
      ap:=F.ap,inM:=F.inM
      lt:=λk A=>bT (F.lt k A) f35.1
      nums:=F.nums
      keys:=λe he=>by
       rcases gS.1 he with he|he
       ·exact F.keys e he
       ·rw[ib.1 he];exact hj
      len:=by simp;omega
      tot:=by simp;omega}
    ·unfold SY;rw[aA G,←a7];simp[qw]
 ·have ar:¬(l.length:Int)=(w:Int):=ae;have G:vq room w rs j l=false:=by simp[vq,hw]
  simp only[go_sem,am R.var,ar];exact⟨by rw[G],no G _ (Ext.refl _)⟩
def Jk (rs:List (Int×List Int))(a b n:Int)(is:Bool):Prop:=
 (is=true∧a≤n∧n<b∧fM n rs=none∧∀i,a≤i→i<n→(fM i rs).isSome=true)∨(is=false∧n=0∧∀i,a≤i→i<b→(fM i rs).isSome=true)
theorem zbG {M:Nat→Prop}{h:ah}{v:Value}{room w:Nat}{rs:List (Int×List Int)}(H:ij M h v room w rs){a b:Int}(ha: -9223372036854775808≤a)(hb:b≤9223372036854775807):
  ag prog qF #[v,af a,af b] h λr h'=>(∃n L,r=.tuple #[af n,.bool L]∧Jk rs a b n L)∧h'=h:=by
 apply Gy;unfold wz;refine dw (λd xs h'=>h'=h∧∃j,a≤j∧d=(b-j).toNat∧xs=[af j]∧∀i,a≤i→i<j→(fM i rs).isSome=true) (b-a).toNat ⟨rfl,a,ae,rfl,rfl,λi h1 D=>ae⟩ ?_;rintro d _ ρj h1 again ⟨hh,j,G,rfl,rfl,A⟩ I;subst hh;simp only[go_sem];refine ao (λF=>?_) (λW=>?_)
 ·refine(zab H j).mono ?_;rintro _ D ⟨rfl,hh⟩;subst hh
  try simp only[go_sem]
  cases U:fM j rs with
  |none=>
   simp only[Option.isSome_none,go_sem];exact⟨⟨j,true,rfl,.inl ⟨rfl,G,F,U,A⟩⟩,trivial⟩
  |some p=>
   simp only[Option.isSome_some,go_sem];rw[w64 ae ae];refine I _ _ (b-(j+1)).toNat ae ⟨rfl,j+1,ae,rfl,rfl,λi h1 D=>?_⟩;by_cases hi:i=j
   ·rw[hi,U];rfl
   ·exact A i h1 ae
 ·exact⟨⟨0,false,rfl,.inr ⟨rfl,rfl,λi h1 D=>A i h1 ae⟩⟩,trivial⟩
theorem wf64 {n:Int}(h1: -9223372036854775808≤n)(A:n≤9223372036854775807):(Lit.int .i64 n).wf=true:=by
 show(decide (IntKind.i64.min≤n)&&decide (n≤IntKind.i64.max))=true;rw[dh,dS,dS];exact⟨h1,A⟩
end Go.Proofs.YtjljhnandbbldaaGreatDoor
namespace Go.Proofs.YtjljhnandbbldaaGreatDoor
open Go Go.Crisp
attribute [local irreducible] ag df aW stK aF vK qK bJ gK eK aZ mkK di Fi GM CF bsK clK ud oA V2
open _root_.Go.Proofs.Tryz
section
structure fK where
 m:Pic
 s:Stg
 t:cZ
structure fK.Wf (d:fK):Prop where
 m:d.m.Wf
 s:d.s.Wf
 su:nK d.m d.s
 w1:1≤d.t.w
 h1:1≤d.t.h
 x0:0≤d.t.x
 y0:0≤d.t.y
 xw:d.t.x+d.t.w≤d.s.x.lines.length
 yh:d.t.y+d.t.h≤d.s.y.lines.length
abbrev U7 (bf bt:Nat)(p q rv:Value)(d:fK)(y:Int):List Value:=[ptr bf,ptr bt,p,q,.int .i64 d.s.border]++dA d.t++[rv,.int .i64 y]
structure fh (Z M:Nat→Prop)(h:ah)(bj bf:Nat)(vf:Value)(bt:Nat)(vt p q rv:Value)(d:fK)(y:Int)(n:Pic)(room w:Nat)(rs:List (Int×List Int)):Prop where
 row:h[bj]? =some (.cells (U7 bf bt p q rv d y).toArray 246 (0,0))
 src:db h bf vf d.m
 tx:fG Z h p d.s.x
 ty:fG Z h q d.s.y
 ring:ij M h rv room w rs
 out:db h bt vt n
 zf:Z bf∧∀c,blk vf c→Z c
 zz:∀c,Z c→¬M c∧c≠bj∧¬blk vt c
 mj:¬M bj∧¬M bt∧(∀c,blk vt c→¬M c)
 jt:bj≠bt∧¬blk vt bj
 y0:d.t.y≤y
 y1:y≤d.t.y+d.t.h
 zl:∀c,Z c→c<h.size
section
variable {Z M:Nat→Prop}{h:ah}{bj bf:Nat}{vf:Value}{bt:Nat}{vt p q rv:Value}{d:fK}{y:Int}{n:Pic}{room w:Nat}{rs:List (Int×List Int)}
theorem fh.ext {h':ah}(J:fh Z M h bj bf vf bt vt p q rv d y n room w rs)(e:Ext h h'):fh Z M h' bj bf vf bt vt p q rv d y n room w rs:=
 ⟨e.row J.row,J.src.ext e,J.tx.ext e,J.ty.ext e,J.ring.ext e,J.out.ext e,J.zf,J.zz,J.mj,J.jt,J.y0,J.y1,λc hc=>bT (J.zl c hc) e.1⟩
theorem fK.bd (W:d.Wf):d.t.x+d.t.w≤65536∧d.t.y+d.t.h≤65536:=by
 have:=W.s.x.len;have:=W.s.y.len;have:=W.xw;have:=W.yh;omega
theorem zcP (J:fh Z M h bj bf vf bt vt p q rv d y n room w rs)(W:d.Wf):ag prog oN #[ptr bj] h λr h'=>r=.bool (decide (d.t.y+d.t.h≤y))∧h'=h:=by
 apply Ew;unfold uL;have D:=fK.bd W;have h1:=W.y0;have A:=W.h1;simp only[go_sem,aK,am J.row];simp only[U7,dA,mY,fB,y4,BL,CY,go_sem];rw[w64 (n:=d.t.y+d.t.h) ae ae];exact⟨rfl,trivial⟩
theorem fh.c2 {h':ah}(J:fh Z M h bj bf vf bt vt p q rv d y n room w rs)(e:Ext h h'):aG h' ⟨bj,2,none⟩=some p:=by rw[am (e.row J.row)];rfl
theorem fh.c3 {h':ah}(J:fh Z M h bj bf vf bt vt p q rv d y n room w rs)(e:Ext h h'):aG h' ⟨bj,3,none⟩=some q:=by rw[am (e.row J.row)];rfl
theorem fh.c4 {h':ah}(J:fh Z M h bj bf vf bt vt p q rv d y n room w rs)(e:Ext h h'):aG h' ⟨bj,4,none⟩=some (af d.s.border):=by rw[am (e.row J.row)];rfl
theorem fh.c0 {h':ah}(J:fh Z M h bj bf vf bt vt p q rv d y n room w rs)(e:Ext h h'):aG h' ⟨bj,0,none⟩=some (ptr bf):=by rw[am (e.row J.row)];rfl
theorem fh.c1 {h':ah}(J:fh Z M h bj bf vf bt vt p q rv d y n room w rs)(e:Ext h h'):aG h' ⟨bj,1,none⟩=some (ptr bt):=by rw[am (e.row J.row)];rfl
theorem fh.c6 {h':ah}(J:fh Z M h bj bf vf bt vt p q rv d y n room w rs)(e:Ext h h'):aG h' ⟨bj,6,none⟩=some (af d.t.x):=by rw[am (e.row J.row)];rfl
theorem fh.c8 {h':ah}(J:fh Z M h bj bf vf bt vt p q rv d y n room w rs)(e:Ext h h'):aG h' ⟨bj,8,none⟩=some (af d.t.w):=by rw[am (e.row J.row)];rfl
theorem fh.c15 {h':ah}(J:fh Z M h bj bf vf bt vt p q rv d y n room w rs)(e:Ext h h'):aG h' ⟨bj,15,none⟩=some rv:=by rw[am (e.row J.row)];rfl
theorem fh.c16 {h':ah}(J:fh Z M h bj bf vf bt vt p q rv d y n room w rs)(e:Ext h h'):aG h' ⟨bj,16,none⟩=some (af y):=by rw[am (e.row J.row)];rfl
theorem PZ (J:fh Z M h bj bf vf bt vt p q rv d y n room w rs)(W:d.Wf):ag prog kL #[ptr bj] h λr h'=>
  ∃u,r=.agg #[af (bE d.s.y y).1,u]∧SlI (fN h h') h' u (bE d.s.y y).2∧Ext h h':=by
 apply Ey;unfold uM;refine aI λL h1 r1 A H=>?_
 have l1:=bB r1;simp only[go_sem,aK];refine aP (λh'=>h'=h1) rfl ?_;refine aC q (λh' e=>by rw[e];exact J.c3 A) ?_;refine aC (af y) (λh' e=>by rw[e];exact J.c16 A) ?_;refine(Cb (J.ty.ext A) W.s.y).mono λr h2 ⟨u,e,S,G⟩=>?_
 subst e;refine cT (l:=[af (bE d.s.y y).1,u]) (G.row r1) rfl (aq rfl (aq S.one aX)) rfl λU I F=>?_
 rw[aU I 2 rfl,aj];refine⟨u,rfl,?_,(A.trans G).upd H F⟩;refine(S.fr F.fr λc _ D he=>?_).mono λc hc D=>⟨bh A.1 D.1,hc⟩
 have:=D.1;omega
abbrev BK (k j:Int):Value:=.agg #[.int .i64 k,.int .i64 j]
def Uq (d:fK)(y:Int)(rs:List (Int×List Int))(k j:Int):Prop:=
 if d.t.y+d.t.h≤y then k=0∧j=0 else
  (k=1∧Jk rs (bE d.s.y y).1 ((bE d.s.y y).1+((bE d.s.y y).2.length:Int)) j true)∨(k=2∧j=y∧Jk rs (bE d.s.y y).1 ((bE d.s.y y).1+((bE d.s.y y).2.length:Int)) 0 false)
theorem Yh (J:fh Z M h bj bf vf bt vt p q rv d y n room w rs)(W:d.Wf):ag prog iM #[ptr bj] h λr h'=>∃k j,r=BK k j∧Uq d y rs k j∧Ext h h':=by
 apply EA;unfold uO;refine aI λb1 h1 r1 H U=>?_
 have l1:=bB r1;have F:=J.ext H;refine(zcP F W).mono λr I ⟨e,A⟩=>?_
 have A:=A.symm;subst e A;refine ao (λI=>?_) (λI=>?_)
 ·rw[gG,bG,aj];refine cT (l:=[ai,ai]) r1 rfl (aq rfl (aq rfl aX)) rfl λh3 r3 u3=>?_
  rw[aU r3 2 rfl,aj];exact⟨0,0,rfl,by unfold Uq;rw[aA I];exact⟨rfl,rfl⟩,H.upd U u3⟩
 refine(PZ F W).mono λr h3 ⟨u,e,S,e3⟩=>?_
 subst e;refine dk (cs:=[af (bE d.s.y y).1,u]) rfl (aq rfl (aq S.one aX)) rfl λb4 h4 r4 e4 n4=>?_
 have D:=e3.trans e4;have J4:=F.ext D;have hl:=qO W.s.y y;obtain⟨au,cu,eu⟩:=S.isSl;have aa:aD u=some (af ((bE d.s.y y).2.length:Int)):=by rw[eu];rfl
 have hN:∀k j,Uq d y rs k j↔((k=1∧Jk rs (bE d.s.y y).1 ((bE d.s.y y).1+((bE d.s.y y).2.length:Int)) j true)∨(k=2∧j=y∧Jk rs (bE d.s.y y).1 ((bE d.s.y y).1+((bE d.s.y y).2.length:Int)) 0 false)):=λk j=>by unfold Uq;rw[az I]
 generalize bE d.s.y y=L at*;refine aP (λh'=>h'=h4) rfl ?_;simp only[go_sem,aK];refine aC rv (λh' e=>by rw[e];exact F.c15 D) ?_;refine aC (af L.1) (λh' e=>by rw[e];exact am r4) ?_;refine aC (af L.1) (λh' e=>by rw[e];exact am r4) ?_;refine aC u (λh' e=>by rw[e];exact am r4) ?_;refine aC (af (L.2.length:Int)) (λh' e=>aa) ?_;simp only[go_sem];rw[w64 (n:=L.1+(L.2.length:Int)) ae ae];refine(zbG J4.ring (a:=L.1) (b:=L.1+(L.2.length:Int)) ae ae).mono λr h5 ⟨⟨j,is,e,hn⟩,A⟩=>?_
 have A:=A.symm;subst e A;simp only[go_sem];have G:=D.row r1;refine jU (λhi=>?_) (λhi=>?_)
 ·subst hi;have hf:aM #[ai,ai] [(0,1,af 1),(1,1,af j)]=some #[aH,af j]:=zD rfl rfl;rw[hf,bG,aj];refine cT (l:=[aH,af j]) G rfl (aq rfl (aq rfl aX)) rfl λh6 r6 u6=>?_
  rw[aU r6 2 rfl,aj];exact⟨1,j,rfl,(hN 1 j).2 (.inl ⟨rfl,hn⟩),(H.trans D).upd U u6⟩
 ·subst hi;have hj:j=0:=by rcases hn with⟨hh,_⟩|⟨_,hh,_⟩;cases hh;exact hh
  subst hj;rw[F.c16 D,aj];have hf:aM #[ai,ai] [(0,1,af 2),(1,1,af y)]=some #[af 2,af y]:=zD rfl rfl;rw[hf,bG,aj];refine cT (l:=[af 2,af y]) G rfl (aq rfl (aq rfl aX)) rfl λh6 r6 u6=>?_
  rw[aU r6 2 rfl,aj];exact⟨2,y,rfl,(hN 2 y).2 (.inr ⟨rfl,rfl,hn⟩),(H.trans D).upd U u6⟩
end
end
section
section
variable {Z M:Nat→Prop}{h:ah}{bj bf:Nat}{vf:Value}{bt:Nat}{vt p q rv:Value}{d:fK}{y:Int}{n:Pic}{room w:Nat}{rs:List (Int×List Int)}
def XZ (d:fK)(x row:Int):List Int:=(List.range d.m.c.toNat).map λc:Nat=>IntKind.i64.wrap (uv d.m d.s x row c)
theorem Z5 {h0:ah}{u:Value}{l:List Int}{x row:Int}(J:fh Z M h0 bj bf vf bt vt p q rv d y n room w rs)(W:d.Wf)(N:New (Rp.int .i64) h0 h u l)(hl:l.length≤1000000):
  ag prog l9 #[ptr bj,af x,af row,u] h λr h'=>New (Rp.int .i64) h0 h' r (l++XZ d x row):=by
 apply Bx;unfold rn;have E0:=N.2.1;simp only[go_sem,aK,J.c2 E0];refine(Cb (J.tx.ext E0) W.s.x).mono λr h1 ⟨v,e,S,e1⟩=>?_
 subst e;refine dk (cs:=[af (bE d.s.x x).1,v]) rfl (aq rfl (aq S.one aX)) rfl λb2 h2 r2 e2 n2=>?_
 have E2:=E0.trans (e1.trans e2);simp only[go_sem,aK,J.c0 E2];refine(fD (J.src.ext E2)).mono λr h3 ⟨e,A⟩=>?_
 have A:=A.symm;subst e A;have hf:=dH W.m.fits;have aw:=qO W.s.x x;unfold XZ uv;obtain⟨C,hC⟩:∃C:Nat,d.m.c=(C:Int):=⟨d.m.c.toNat,ae⟩
 rw[hC,eT];have S2:=S.ext e2;have Sz:SlI (λc=>¬blk u c∧c≠b2∧c<h2.size) h2 v (bE d.s.x x).2:=S2.mono λc hc G=>⟨λhu=>by have:=N.lt hu;have:=G.1;omega,λhe=>by have:=G.2;omega,hc⟩
 have ad:¬blk u b2:=λhu=>by have:=N.lt hu;have:=e1.1;omega
 generalize bE d.s.x x=L at*;obtain⟨av,cv,ev⟩:=S.isSl;have al:aD v=some (af (L.2.length:Int)):=by rw[ev];rfl
 obtain⟨g,hg⟩:∃g:Nat→Int,g=λc:Nat=>IntKind.i64.wrap (yL (λi=>L.2.getD i 0*atP d.m (atZ d.s.border (L.1+i) d.m.w) row c) L.2.length):=⟨_,rfl⟩
 rw[←hg];refine bH (α:=Value) C 0 (λc u=>[u,af (c:Int)]) (λc u h'=>New (Rp.int .i64) h0 h' u (l++(List.range c).map g)∧SlI (λc=>¬blk u c∧c≠b2∧c<h2.size) h' v L.2∧h2.size≤h'.size∧h'[b2]? =some (.cells #[af L.1,v] 189 (0,0))∧¬blk u b2∧Ext h0 h') u rfl (bZ _)
  ⟨by simpa using N.ext (e1.trans e2),Sz,bU _,r2,ad,E2⟩ λc u h4 again ρ1 _ hc ⟨N4,S4,ab,r4,u4,E4⟩ au=>?_
 simp only[go_sem];refine ao (λh5=>?_) (λh5=>?_)
 ·have c1:aG h4 ⟨b2,1,none⟩=some v:=am r4;simp only[go_sem,aK,c1,al];have J4:=J.ext E4;refine lG (λi=>[af (IntKind.i64.wrap (yL (λi=>L.2.getD i 0*atP d.m (atZ d.s.border (L.1+i) d.m.w) row c) i)),af (i:Int)]) L.2.length 0 rfl (bZ _) λi aa ρ2 _ hi F=>?_
  simp only[go_sem];refine ao (λh6=>?_) (λh6=>?_)
  ·have I:i<L.2.length:=ae;have F:=F I;obtain⟨pi,i1,i2⟩:=S4.int_at (k':=.i64) I;have ea:L.2.getD i 0=L.2[i]:=by simp[dQ,I]
   rw[i1,aj,i2,aj,←ea];refine aP (λh'=>h'=h4) rfl ?_
   try simp only[go_sem,aK]
   refine aC (af d.s.border) (λh' e=>by rw[e];exact J.c4 E4) ?_;refine aC (af L.1) (λh' e=>by rw[e];exact am r4) ?_
   try simp only[go_sem,aK]
   refine aC (ptr bf) (λh' e=>by rw[e];exact J.c0 E4) ?_;rw[w64 (n:=L.1+(i:Int)) ae ae];refine(ut J4.src).mono λr D ⟨e,A⟩=>?_
   have A:=A.symm;subst e A;refine⟨rfl,?_⟩;refine(vI (by unfold I64;omega)).mono λr D ⟨e,A⟩=>?_
   have A:=A.symm;subst e A;simp only[go_sem,aK,J.c0 E4];refine(zbN J4.src W.m).mono λr D ⟨e,A⟩=>?_
   have A:=A.symm;subst e A;have hv:=zal W.m (atZ d.s.border (L.1+(i:Int)) d.m.w) row c;have hm:=W.m.m2;simp only[go_sem];rw[w64 (n:=atP d.m (atZ d.s.border (L.1+(i:Int)) d.m.w) row c) ae ae,OX,w64 (n:=(i:Int)+1) ae ae];exact F
  ·have an:i=L.2.length:=ae;subst an;have ar:IntKind.i64.wrap (yL (λi=>L.2.getD i 0*atP d.m (atZ d.s.border (L.1+i) d.m.w) row c) L.2.length)=g c:=by rw[hg]
   rw[ar];have H:(l++(List.range c).map g).length=l.length+c:=by simp
   refine Rp.push_ow1 (e:=Rp.int .i64) rfl N4.1 (x:=g c) rfl rfl (by rw[H];omega) (by rw[H];omega) (λb hb=>hb.elim) λs' h' o' f' n'=>?_
   try simp only[go_sem]
   rw[w64 ae ae];have E':Ext h0 h':=E4.then_fr f' N4.2.2;have U:∀b,blk s' b→blk u b∨h4.size≤b:=n';refine au s' h' ae ⟨⟨by rw[sH _ (c+1) c ae,←cf];exact o',E',λb hb=>?_⟩,?_,bh ab f'.1,f'.row r4 u4,λhb=>?_,E'⟩
   ·rcases U b hb with D|D
    ·exact N4.2.2 b D
    ·exact bh E4.1 D
   ·refine(S4.fr f' λb _ G=>G.1).mono λb hb G=>⟨λhs=>?_,G.2⟩
    rcases U b hs with D|D
    ·exact G.1 D
    ·have:=G.2.2;omega
   ·rcases U _ hb with D|D
    ·exact u4 D
    ·have:=bB r4;omega
 ·have:c=C:=ae;subst this;exact N4
def LH (d:fK)(real:Int):Nat→List Int
 |0=>[]
 |x+1=>LH d real x++XZ d (d.t.x+x) real
def Ep (d:fK)(j:Int):List Int:=LH d (atZ d.s.border j d.m.h) d.t.w.toNat
theorem ZE (d:fK)(x row:Int):(XZ d x row).length=d.m.c.toNat:=by unfold XZ;simp
theorem Br (d:fK)(real:Int):∀k,(LH d real k).length=k*d.m.c.toNat
 |0=>by simp[LH]
 |k+1=>by unfold LH;rw[ck,Br,ZE,ef,sN]
theorem SR (d:fK)(real:Int){x c:Nat}(hc:c<d.m.c.toNat):∀{k:Nat},x<k→(LH d real k).getD (x*d.m.c.toNat+c) 0=IntKind.i64.wrap (uv d.m d.s (d.t.x+x) real c)
 |0,h=>absurd h ae
 | k+1,h=>by
  unfold LH;have D:=Br d real k;by_cases F:x<k
  ·have h1:x*d.m.c.toNat+c<(LH d real k).length:=by
    rw[D];have:(x+1)*d.m.c.toNat≤k*d.m.c.toNat:=ic _ F;rw[ef,sN]at this;omega
   have:=SR d real hc F;rw[dQ]at this ⊢;rw[uk h1];exact this
  ·have A:x=k:=ae;subst A;rw[dQ,ue ae,D,Wc];unfold XZ;simp[hc]
theorem ZY {j:Int}(J:fh Z M h bj bf vf bt vt p q rv d y n room w rs)(W:d.Wf)(hj:I64 j)(hs:d.t.w≤300):
  ag prog l8 #[ptr bj,af j] h λr h'=>∃M',fh Z M' h' bj bf vf bt vt p q rv d y n room w (SY room w rs j (Ep d j))∧Fr M h h'∧∀k,M' k→M k∨h.size≤k:=by
 apply Bw;unfold rl;have hf:=dH W.m.fits;have hb:=fK.bd W;have an:=W.w1;have ar:=W.x0;simp only[go_sem,aK];refine aP (λh'=>h'=h) rfl ?_;refine aC (af d.s.border) (λh' e=>by rw[e];exact J.c4 (Ext.refl _)) ?_;refine aC (ptr bf) (λh' e=>by rw[e];exact J.c0 (Ext.refl _)) ?_;refine(sq J.src).mono λr h1 ⟨e,G⟩=>?_
 have G:=G.symm;subst e G;refine⟨rfl,?_⟩;refine(vI hj).mono λr h1 ⟨e,G⟩=>?_
 have G:=G.symm;subst e G;simp only[go_sem,aK,J.c8 (Ext.refl _)];unfold Ep;generalize atZ d.s.border j d.m.h=real;obtain⟨N,hN⟩:∃N:Nat,d.t.w=(N:Int):=⟨d.t.w.toNat,ae⟩
 rw[hN,eT];have hC:d.m.c.toNat≤3:=ae;have D:∀k,k≤N→(LH d real k).length≤900:=λk hk=>by
  rw[Br];have:=zg (show k≤300 by omega) hC;omega
 refine bH (α:=Value) N 0 (λk u=>[u,af (k:Int)]) (λk u h'=>New (Rp.int .i64) h h' u (LH d real k)) (.slice none 0 0) rfl (bZ _) (New.nil (Ext.refl _)) λk u h2 again ρ1 _ hk A aa=>?_
 simp only[go_sem];refine ao (λh3=>?_) (λh3=>?_)
 ·simp only[go_sem,aK,J.c6 A.2.1];rw[w64 (n:=d.t.x+(k:Int)) ae ae];refine(Z5 J W A (by have:=D k hk;omega)).mono λr h4 N4=>?_
  rw[w64 ae ae];exact aa r h4 ae N4
 ·have ad:k=N:=ae;subst ad;have L:=J.ext A.2.1;simp only[go_sem,aK,J.c15 A.2.1];have ab:lJ h2 u (LH d real k):=by
   obtain⟨a,cap,e⟩:=A.isSl;refine⟨a,cap,e,?_⟩;have o:=(Qu A.1).sl;obtain⟨_,a',c',e',ho⟩:=o;rw[e]at e';cases e';rcases ho with ho|⟨b,o,ha,ho⟩
   ·left;simpa using ho
   ·refine .inr ⟨b,o,ha,λi hi=>?_⟩;have:=ho i (by simpa using hi);rw[this,eU];rfl
  refine(zcX L.ring (by unfold I64 at hj;exact wf64 hj.1 hj.2) ab (by have:=D k hk;omega) λb hb hm=>?_).mono λr h5 ⟨e,M',R',H,m'⟩=>?_
  ·have F:=A.2.2 b hb;have h7:=J.ring.lt hm;omega
  have lt:∀c,c<h.size→¬M c→¬M' c:=λc hc hm al=>by
   rcases m' c al with F|F
   ·exact hm F
   ·have:=A.2.1.1;omega
  have zl:=J.zl;have U:∀c,Z c→¬M c:=λc hc=>(J.zz c hc).1
  refine⟨M',⟨H.row L.row J.mj.1,L.src.fr H (U _ J.zf.1) λc hc=>U _ (J.zf.2 c hc),L.tx.fr H λc _ I=>U c I,L.ty.fr H λc _ I=>U c I,R',L.out.fr H J.mj.2.1 J.mj.2.2,J.zf,
   λc I=>⟨lt c (zl c I) (U c I),(J.zz c I).2⟩,⟨lt _ (bB J.row) J.mj.1,lt _ J.out.lt J.mj.2.1,λc hc=>lt c (J.out.ltv hc) (J.mj.2.2 c hc)⟩,J.jt,J.y0,J.y1,λc hc=>?_⟩,A.2.1.fr.trans H,λk hk=>?_⟩
  ·have F:=zl c hc;have h7:=A.2.1.1;have h8:=H.1;omega
  ·rcases m' k hk with F|F
   ·exact .inl F
   ·exact .inr (bh A.2.1.1 F)
end
end
section
structure Ij (d:fK)(n:Pic):Prop where
 wf:n.Wf
 w:n.w=d.s.x.lines.length
 h:n.h=d.s.y.lines.length
 c:n.c=d.m.c
 m:n.most=d.m.most
section
variable {Z M:Nat→Prop}{h:ah}{bj bf:Nat}{vf:Value}{bt:Nat}{vt p q rv:Value}{d:fK}{y:Int}{n:Pic}{room w:Nat}{rs:List (Int×List Int)}
theorem fh.set {h':ah}{n':Pic}(J:fh Z M h bj bf vf bt vt p q rv d y n room w rs)(f:Fr (blk vt) h h')(I:db h' bt vt n'):fh Z M h' bj bf vf bt vt p q rv d y n' room w rs:=
 ⟨f.row J.row J.jt.2,J.src.fr f (J.zz _ J.zf.1).2.2 λc hc=>(J.zz _ (J.zf.2 c hc)).2.2,J.tx.fr f λc _ A=>(J.zz c A).2.2,J.ty.fr f λc _ A=>(J.zz c A).2.2,J.ring.fr f λc _ D F=>J.mj.2.2 c F D,I,J.zf,J.zz,J.mj,J.jt,J.y0,J.y1,
  λc hc=>bT (J.zl c hc) f.1⟩
def xS (d:fK)(y:Int)(i:Int)(x' y' c':Int):Prop:=y'=y∧d.t.x≤x'∧x'<d.t.x+d.t.w∧(x'-d.t.x)*d.m.c+c'<i
instance (d:fK)(y i D A c':Int):Decidable (xS d y i D A c'):=by unfold xS;infer_instance
theorem zbi (J:fh Z M h bj bf vf bt vt p q rv d y n room w rs)(W:d.Wf)(O:Ij d n)(hs:d.t.w≤300)(hy:y<d.t.y+d.t.h)(hw:(w:Int)=d.t.w*d.m.c)
  (bv:∀k:Nat,k<(bE d.s.y y).2.length→fM ((bE d.s.y y).1+(k:Int)) rs=some (Ep d ((bE d.s.y y).1+(k:Int)))):
  ag prog mZ #[ptr bj] h λr h'=>∃n',fh Z M h' bj bf vf bt vt p q rv d (y+1) n' room w rs∧Ij d n'∧(∀D F c',inP n D F c'→atP n' D F c'=if xS d y w D F c' then xp d.m d.s D F c' else atP n D F c')∧Fr (λc=>blk vt c∨c=bj) h h':=by
 apply Dd;unfold tm;have hf:=dH W.m.fits;have hb:=fK.bd W;have ei:=W.w1;have ee:=W.x0;have ek:=W.y0;refine(PZ J W).mono λr h1 ⟨u,e,S,e1⟩=>?_
 subst e;have hl:=qO W.s.y y;refine dk (cs:=[af (bE d.s.y y).1,u]) rfl (aq rfl (aq S.one aX)) rfl λb2 h2 r2 e2 n2=>?_
 have E2:=e1.trans e2;have S2:=S.ext e2;obtain⟨au,cu,eu⟩:=S.isSl;have cc:aD u=some (af ((bE d.s.y y).2.length:Int)):=by rw[eu];rfl
 have b0:∀x c,yL (λk=>(bE d.s.y y).2.getD k 0*uv d.m d.s x (atZ d.s.border ((bE d.s.y y).1+k) d.m.h) c) (bE d.s.y y).2.length=Li d.m d.s x y c:=λx c=>rfl
 generalize bE d.s.y y=L at*;obtain⟨C,hC⟩:∃C:Nat,d.m.c=(C:Int):=⟨d.m.c.toNat,ae⟩
 have b8:1≤C∧C≤3:=ae;obtain⟨Wn,aw⟩:∃Wn:Nat,d.t.w=(Wn:Int):=⟨d.t.w.toNat,ae⟩
 have ad:w=Wn*C:=by
  rw[aw,hC]at hw
  exact_mod_cast hw
 have c9:w≤900:=by
  rw[ad];have:=zg (show Wn≤300 by omega) b8.2;omega
 simp only[go_sem,aK,J.c15 E2];refine(zaa (J.ring.ext E2)).mono λr h3 ⟨e,G⟩=>?_
 have G:=G.symm;subst e G;refine og rfl ae ae λsv h3 o3 e3 n3=>?_
 have E3:=E2.trans e3;have c1:aG h3 ⟨b2,1,none⟩=some u:=am (e3.row r2);simp only[go_sem,aK,c1,cc]
 -- the sums
 obtain⟨g,hg⟩:∃g:Nat→Nat→Int,g=λk i=>yL (λk=>L.2.getD k 0*uv d.m d.s (d.t.x+((i/C:Nat):Int)) (atZ d.s.border (L.1+k) d.m.h) ((i%C:Nat):Int)) k:=⟨_,rfl⟩
 refine bH (α:=Unit) L.2.length 0 (λk _=>[af (k:Int)]) (λk _ h'=>Ext h2 h'∧Own 1 h' sv w ((List.range w).map λi=>af (IntKind.i64.wrap (g k i)))) () rfl (bZ _)
  ⟨e3,by
   rw[KB]at o3;rw[←bM (g:=λi=>af ((λ_=>0:Nat→Int) i)) λi _=>by rw[hg];rfl];exact o3⟩ λk _ h4 again ρ1 _ hk ⟨E4,o4⟩ ax=>?_
 have aa:=E2.trans E4;simp only[go_sem];refine ao (λh5=>?_) (λh5=>?_)
 ·have ay:k<L.2.length:=ae;obtain⟨pk,k1,k2⟩:=(S2.ext E4).int_at (k':=.i64) ay;have eb:L.2.getD k 0=L.2[k]:=by simp[dQ,ay]
  rw[k1,aj,k2,aj,←eb];refine aP (λh'=>h'=h4) rfl ?_
  try simp only[go_sem,aK]
  refine aC rv (λh' e=>by rw[e];exact J.c15 aa) ?_;refine aC (af L.1) (λh' e=>by rw[e];exact am (E4.row r2)) ?_;simp only[go_sem];rw[w64 (n:=L.1+(k:Int)) ae ae];refine(zcW (J.ring.ext aa) (L.1+(k:Int))).mono λr h5 ⟨v,e,ov,e5,nv⟩=>?_
  subst e;rw[bv k ay]at ov;have ov:kh h5 v (Ep d (L.1+(k:Int))):=ov;have ca:(Ep d (L.1+(k:Int))).length=w:=by
   unfold Ep;rw[Br,aw,hC,eT,eT,ad]
  have Sv:=Eu (k:=.i64) ov;obtain⟨av,cv,ev⟩:=Sv.isSl;have cb:aD v=some (af (w:Int)):=by rw[ev,ca];rfl
  simp only[go_sem,cb];have o5:=o4.fr (M:=λ_=>False) e5.fr λ_ _=>id
  have a8:∀i,i<w→(Ep d (L.1+(k:Int))).getD i 0=IntKind.i64.wrap (uv d.m d.s (d.t.x+((i/C:Nat):Int)) (atZ d.s.border (L.1+(k:Int)) d.m.h) ((i%C:Nat):Int)):=λi hi=>by
   have h6:i%C<C:=gT _ ae;have h7:i/C<Wn:=by rw[vz ae,←ad];exact hi
   have U:=SR d (atZ d.s.border (L.1+(k:Int)) d.m.h) (x:=i/C) (c:=i%C) (by rw[hC,eT];exact h6) (k:=Wn) h7;rw[hC,eT,eO,mW]at U;unfold Ep;rw[aw,eT];exact U
  have bc:∀c,blk sv c→¬blk v c:=λc hc hv=>by
   have:=nv c hv;have:=o4.lt hc;omega
  refine bH (α:=Unit) w 0 (λi _=>[af (i:Int)]) (λi _ h'=>Ext h2 h'∧Rp.Sl (Rp.int .i64) (blk v) h' v (Ep d (L.1+(k:Int)))∧Own 1 h' sv w ((List.range w).map λj=>af (IntKind.i64.wrap (if j<i then g (k+1) j else g k j)))) () rfl (bZ _)
   ⟨E4.trans e5,Sv,by
    rw[←bM (g:=λi=>af (IntKind.i64.wrap (g k i))) λi _=>by rw[az ae]];exact o5⟩ λi _ h6 b4 ρ2 _ hi ⟨E6,bo,o6⟩ a9=>?_
  simp only[go_sem];refine ao (λh7=>?_) (λh7=>?_)
  ·have H:i<w:=ae;obtain⟨pv,v1,v2⟩:=bo.int_at (k':=.i64) (i:=i) ae;have cr:(Ep d (L.1+(k:Int)))[i]'ae=(Ep d (L.1+(k:Int))).getD i 0:=by simp[dQ,show i<(Ep d (L.1+(k:Int))).length by omega]
   rw[cr,a8 i H]at v2;obtain⟨ps,s1,s2,s3⟩:=Own.at_map o6 (k:=.i64) H;simp only[go_sem,v1,v2,s1,s2];rw[az ae,El,OX];have ct:g k i+L.2.getD k 0*uv d.m d.s (d.t.x+((i/C:Nat):Int)) (atZ d.s.border (L.1+(k:Int)) d.m.h) ((i%C:Nat):Int)=g (k+1) i:=by rw[hg];rfl
   rw[ct];refine s3 _ _ λU o8 f8=>?_
   rw[w64 ae ae];refine a9 () U H ⟨E6.then_fr f8 λc hc=>n3 c hc,bo.fr f8 λc _ hz hs=>bc c hs hz,?_⟩;rw[←bM (g:=λj=>af (if j=i then IntKind.i64.wrap (g (k+1) i)else IntKind.i64.wrap (if j<i then g (k+1) j else g k j))) λj _=>by
    congr 1
    by_cases h1:j=i
    ·rw[aA h1,aA ae,h1]
    ·rw[az h1];by_cases h2:j<i
     ·rw[aA h2,aA ae]
     ·rw[az h2,az ae]]
   exact o8
  ·have a7:i=w:=ae;subst a7;rw[w64 ae ae];refine ax () h6 ae ⟨E6,?_⟩;rw[←bM (g:=λj=>af (IntKind.i64.wrap (if j<i then g (k+1) j else g k j))) λj hj=>by rw[aA hj]];exact o6
 have b6:k=L.2.length:=ae;subst b6;have J4:=J.ext aa;have bk:Own 1 h4 sv w ((List.range w).map λi=>af (IntKind.i64.wrap (Li d.m d.s (d.t.x+((i/C:Nat):Int)) y ((i%C:Nat):Int)))):=by
  rw[←bM (g:=λi=>af (IntKind.i64.wrap (g L.2.length i))) λi _=>by rw[hg];rw[←b0]];exact o4
 have cw:∀c,blk sv c→¬blk vt c:=λc hc hv=>by
  have h6:=n3 c hc;have h7:=J.out.ltv hv;have U:=E2.1;omega
 obtain⟨ea,dq,es⟩:=bk.isSl;have ci:aD sv=some (af (w:Int)):=by rw[es];rfl
 simp only[go_sem,aK,J.c1 aa];refine(fD J4.out).mono λr h5 ⟨e,G⟩=>?_
 have G:=G.symm;subst e G;rw[O.c,hC];simp only[go_sem,ci];refine bH (α:=Pic) w 0 (λi _=>[af (i:Int)]) (λi n' h'=>fh Z M h' bj bf vf bt vt p q rv d y n' room w rs∧Ij d n'∧(∀D F c',inP n D F c'→atP n' D F c'=if xS d y i D F c' then xp d.m d.s D F c' else atP n D F c')∧
   Own 1 h' sv w ((List.range w).map λi=>af (IntKind.i64.wrap (Li d.m d.s (d.t.x+((i/C:Nat):Int)) y ((i%C:Nat):Int))))∧Fr (blk vt) h4 h') n rfl (bZ _)
  ⟨J4,O,λD F c' hi=>by
   rw[az];unfold xS inP at*;rintro⟨a1,a2,a3,a4⟩;have:=mV (show 0≤D-d.t.x by omega) (show 0≤d.m.c by omega);omega,bk,Fr.refl _ _⟩ λi n' h6 again ρ3 _ hi ⟨A,I,A6,o6,f6⟩ ax=>?_
 simp only[go_sem];refine ao (λh7=>?_) (λh7=>?_)
 ·have H:i<w:=ae;obtain⟨ps,s1,s2,_⟩:=Own.at_map o6 (k:=.i64) H;simp only[go_sem,s1,s2];refine aP (λh'=>h'=h6) rfl ?_
  try simp only[go_sem,aK]
  refine aC (ptr bt) (λh' e=>by rw[e];exact A.c1 (Ext.refl _)) ?_;refine aC (af d.t.x) (λh' e=>by rw[e];exact A.c6 (Ext.refl _)) ?_;rw[mq _ _ _ _ ae,aj,wU ae,show(i:Int)/(C:Int)=((i/C:Nat):Int)by omega];have c4:i/C<Wn:=by rw[vz ae,←ad];exact H
  have c3:i%C<C:=gT _ ae;have ej:=mW i C;have c2:((i/C:Nat):Int)*(C:Int)+((i%C:Nat):Int)=(i:Int):=by
   rw[←lV,eO];omega
  have b3:(i:Int)%(C:Int)=((i%C:Nat):Int):=ae;have c0:=A6;generalize c8:i/C=qd at*;generalize eh:i%C=rd at*;simp only[go_sem];rw[w64 (n:=(qd:Int)) ae ae,w64 (n:=d.t.x+(qd:Int)) ae ae];refine aC (af y) (λh' e=>by rw[e];exact A.c16 (Ext.refl _)) ?_;rw[dP _ _ _ _ ae,aj,jT ae,b3];refine aC (ptr bt) (λh' e=>by rw[e];exact A.c1 (Ext.refl _)) ?_;refine(uH A.out).mono λr U ⟨e,G⟩=>?_
  have G:=G.symm;subst e G;refine⟨rfl,?_⟩;refine(W1 (ka _)).mono λr U ⟨e,G⟩=>?_
  have G:=G.symm;subst e G;refine⟨rfl,?_⟩;have dl:=W.m.m1;have ec:=W.m.m2;rw[I.m];have hr:=Pf (IntKind.i64.wrap (Li d.m d.s (d.t.x+(qd:Int)) y (rd:Int))) (most:=d.m.most) ae;refine(W0 A.out I.wf hr.1 hr.2.1).mono λr U ⟨e,I8,f8,s8⟩=>?_
  subst e;have eg:=W.xw;have dz:=W.yh;have cp:=J.y0;have bg:inP n' (d.t.x+(qd:Int)) y (rd:Int):=⟨ae,by rw[I.w];omega,ae,by rw[I.h];omega,ae,by rw[I.c];omega⟩
  have ar:inP n' (d.t.x+(qd:Int)) y (rd:Int)∧yQ (IntKind.i64.wrap (Li d.m d.s (d.t.x+(qd:Int)) y (rd:Int))) d.m.most≤n'.most:=⟨bg,by rw[I.m];omega⟩
  rw[aA ar]at I8
  try simp only[go_sem]
  rw[w64 ae ae];refine ax _ U H ⟨A.set f8 I8,⟨VU I.wf hr.1 ar.2,I.w,I.h,I.c,I.m⟩,λD F c' be=>?_,o6.fr f8 cw,f6.trans f8⟩;rw[Um I.wf bg,A6 D F c' be];by_cases he:D=d.t.x+(qd:Int)∧F=y∧c'=(rd:Int)
  ·rw[aA he];obtain⟨rfl,rfl,rfl⟩:=he;rw[aA]
   ·rfl
   ·refine⟨rfl,ae,ae,?_⟩;rw[hC,show d.t.x+(qd:Int)-d.t.x=(qd:Int)by omega];omega
  ·rw [az he];have an:xS d y ((i+1:Nat):Int) D F c'↔xS d y (i:Int) D F c':=by
    unfold xS;constructor
    ·rintro⟨a1,a2,a3,a4⟩;refine⟨a1,a2,a3,?_⟩;rcases mU ((D-d.t.x)*d.m.c+c') i with h9|h9
     ·exact h9
     ·exfalso;have b5:(D-d.t.x)*d.m.c+c'=(qd:Int)*d.m.c+(rd:Int):=by rw[hC]at*;omega
      have b7:=be.2.2.2.2;have c7:=O.c;obtain⟨b1,b2⟩:=Em b5 b7.1 ae ae ae;exact he ⟨ae,a1,b2⟩
    ·rintro⟨a1,a2,a3,a4⟩;exact⟨a1,a2,a3,ae⟩
   by_cases al:xS d y (i:Int) D F c'
   ·rw[aA al,aA (an.2 al)]
   ·rw[az al,az λhh=>al (an.1 hh)]
 ·have a7:i=w:=ae;subst a7;simp only[go_sem,aK,A.c16 (Ext.refl _)];have cp:=J.y0;rw[w64 (n:=y+1) ae ae];refine b9 A.row (by simp[U7,dA]) rfl λU r8 u8=>?_
  have r8:U[bj]? =some (.cells (U7 bf bt p q rv d (y+1)).toArray 246 (0,0)):=r8;have ab:∀c,Z c→¬c=bj:=λc hc=>(A.zz c hc).2.1
  refine⟨n',⟨r8,A.src.fr u8.fr (ab _ A.zf.1) λc hc=>ab _ (A.zf.2 c hc),A.tx.fr u8.fr λc _ hz=>ab c hz,A.ty.fr u8.fr λc _ hz=>ab c hz,A.ring.fr u8.fr λc _ hm he=>A.mj.1 (he▸hm),A.out.fr u8.fr (ie A.jt.1) λc hc he=>A.jt.2 (he▸hc),A.zf,A.zz,A.mj,A.jt,ae,ae,
   λc hc=>by rw[u8.1];exact A.zl c hc⟩,I,A6,?_⟩
  exact((aa.fr (M:=λc=>blk vt c∨c=bj)).trans (f6.mono λc _ hc=>.inl hc)).trans (u8.fr.mono λc _ hc=>.inr hc)
end
end
end Go.Proofs.YtjljhnandbbldaaGreatDoor
namespace Go.Proofs.YtjljhnandbbldaaGreatDoor
open Go Go.Crisp
theorem BI:∀(k:Nat) (l:List Nat),l.Nodup→(∀x∈l,x<k)→l.length≤k
 |0,[],_,_=>by simp
 |0,x::_,_,h=>absurd (h x (by simp)) ae
 | k+1,l,hn,h=>by
  by_cases D:k∈l
  ·have h1:=BI k (l.erase k) (hn.erase k) λx A=>by
    have F:=h x (List.mem_of_mem_erase A);have G:x≠k:=λe=>by rw[e]at A;exact(List.Nodup.not_mem_erase hn) A
    omega
   rw[List.length_erase_of_mem D]at h1;omega
  ·have:=BI k l hn λx A=>by
    have F:=h x A;have G:x≠k:=λe=>D (e▸A)
    omega
   omega
theorem nodup_range {l:List Int}{a b:Int}(L:l.Nodup)(h:∀x∈l,a≤x∧x<b):(l.length:Int)≤max 0 (b-a):=by
 have h1:(l.map λx=>(x-a).toNat).Nodup:=by
  rw[Wb,List.pairwise_map];have D:=(Wb.1 L)
  refine List.Pairwise.imp_of_mem ?_ D;intro x y A I F U;have:=h x A;have:=h y I;omega
 have G:=BI (b-a).toNat _ h1 λx A=>by
  obtain⟨z,H,rfl⟩:=iG.1 A;have:=h z H;omega
 rw[cV]at G;omega
theorem Pu {α:Type}(j i:Int)(v:α):∀kv:List (Int×α),fM i (kv++[(j,v)])=match fM i kv with|some u=>some u|none=>if i=j then some v else none
 | []=>by
  simp only[fB,fM];by_cases h:j=i
  ·subst h;simp
  ·rw[az h,az (ie h)]
 | (k,u)::kv=>by
  simp only[mY,fM];by_cases h:k=i
  ·rw[aA h,aA h]
  ·rw[az h,az h];exact Pu j i v kv
theorem zy:∀(l:List Int) (a:Int),l.foldl min a≤a∧∀x∈l,l.foldl min a≤x
 | [],a=>⟨gC _,λx A=>absurd A (by simp)⟩
 |y::l,a=>by
  have h:=zy l (min a y);rw[wY];refine⟨by have:=h.1;omega,λx A=>?_⟩;rcases kq.1 A with rfl|A
  ·have:=h.1;omega
  ·exact h.2 x A
theorem zaX {l:List Int}{x:Int}(h:x∈l):xt l≤x:=by
 cases l with
 |nil=>simp at h
 |cons y l=>
  rcases kq.1 h with rfl|h
  ·exact(zy l _).1
  ·exact(zy l y).2 x h
structure Ik (row:Int→List Int)(rs:List (Int×List Int))(F e:Int):Prop where
 nd:(rs.map Prod.fst).Nodup
 inn:∀j,F≤j→j<e→fM j rs=some (row j)
 lt:∀x∈rs.map Prod.fst,x<e
theorem Ik.none {row:Int→List Int}{rs:List (Int×List Int)}{F e:Int}(H:Ik row rs F e){j:Int}(D:e≤j):fM j rs=none:=qx.2 λA=>by have:=H.lt j A;omega
theorem Ik.start (row:Int→List Int)(F:Int):Ik row [] F F:=⟨by simp,λj h1 A=>absurd A ae,by simp⟩
theorem Ik.move {row:Int→List Int}{rs:List (Int×List Int)}{F e A:Int}(H:Ik row rs F e)(I:F≤A):Ik row rs A (max e A):=
 ⟨H.nd,λj h1 G=>H.inn j ae ae,λx D=>by have:=H.lt x D;omega⟩
theorem Ik.next {row:Int→List Int}{rs:List (Int×List Int)}{F e E n:Int}{A:Bool}(H:Ik row rs F e)(h1:F≤e)(I:e≤E)(D:Jk rs F E n A):(e<E∧A=true∧n=e)∨(e=E∧A=false∧n=0):=by
 rcases D with⟨rfl,a1,a2,a3,a4⟩|⟨rfl,rfl,a4⟩
 ·left;have G:¬n<e:=λh=>by rw[H.inn n a1 h]at a3;cases a3
  have L:¬e<n:=λh=>by have:=a4 e h1 h;rw[H.none (gC _)]at this;cases this
  exact⟨ae,rfl,ae⟩
 ·right;refine⟨?_,rfl,rfl⟩;rcases mU e E with h|h
  ·have:=a4 e h1 h;rw[H.none (gC _)]at this;cases this
  ·omega
theorem Ik.put {row:Int→List Int}{rs:List (Int×List Int)}{F e E:Int}{room w:Nat}(H:Ik row rs F e)(h1:F≤e)(h2:e<E)(hr:E-F≤room)(ar:1≤room)(hl:rs.length≤room)(hw:(row e).length=w):
  Ik row (SY room w rs e (row e)) F (e+1)∧(SY room w rs e (row e)).length≤room:=by
 have L:=H.none (gC e);have G:(rs.map Prod.fst).length=rs.length:=by simp
 have I:BR room rs=true→xt (rs.map Prod.fst)∈rs.map Prod.fst:=λA=>Tq λh0=>by
  have:rs.length=0:=by rw[←G,h0];rfl
  unfold BR at A;have:=CU A;omega
 have aa:vq room w rs e (row e)=true:=by
  unfold vq;rw[L,cP hw];by_cases A:BR room rs=true
  ·have:=H.lt _ (I A);rw[A,cB (show¬e<xt (rs.map Prod.fst)by omega)];rfl
  ·have A:BR room rs=false:=by simpa using A
   rw[A];rfl
 unfold SY;rw[aA aa]
 -- what is left of the rows
 have key:((mE room rs).map Prod.fst).Nodup∧(∀x∈(mE room rs).map Prod.fst,x<e)∧(∀j,F≤j→j<e→fM j (mE room rs)=some (row j))∧(mE room rs).length+1≤room:=by
  unfold mE;by_cases A:BR room rs=true
  ·rw [aA A];have hm:=I A;have al:room≤rs.length:=CU A;have an:xt (rs.map Prod.fst)<F:=by
    rcases mU (xt (rs.map Prod.fst)) F with h|h
    ·exact h
    ·have W:∀x∈rs.map Prod.fst,F≤x∧x<e:=λx U=>by
      have h3:xt (rs.map Prod.fst)≤x:=zaX U;have:=H.lt x U;omega
     have:=nodup_range H.nd W;rw[G]at this;omega
   have D:(pG (xt (rs.map Prod.fst)) rs).Sublist rs:=MQ;have hg:∃v,fM (xt (rs.map Prod.fst)) rs=some v:=by
    cases hg:fM (xt (rs.map Prod.fst)) rs with
    |none=>exact absurd hm (qx.1 hg)
    |some v=>exact⟨v,rfl⟩
   obtain⟨v,hg⟩:=hg;have ad:=HH hg;refine⟨(D.map Prod.fst).nodup H.nd,λx U=>H.lt x ((D.map Prod.fst).subset U),λj j1 j2=>?_,ae⟩;rw[HG H.nd,az ae];exact H.inn j j1 j2
  ·rw[az A];have:¬room≤rs.length:=λh=>A (cP h)
   exact⟨H.nd,H.lt,H.inn,ae⟩
 obtain⟨k1,k2,k3,k4⟩:=key;refine⟨⟨?_,λj j1 j2=>?_,λx U=>?_⟩,by simp;omega⟩
 ·rw[iD,List.nodup_append];refine⟨k1,by simp,λa ha b hb he=>?_⟩;have:=k2 a ha;simp at hb;omega
 ·rw[Pu];by_cases hj:j<e
  ·rw[k3 j j1 hj]
  ·have ab:j=e:=ae;subst ab;have:fM j (mE room rs)=Option.none:=qx.2 λhm=>by have:=k2 j hm;omega
   rw[this];simp
 ·rw[iD]at U;rcases gS.1 U with h|h
  ·have:=k2 x h;omega
  ·simp at h;omega
theorem C5 {a b c:Int}(h:a≤b)(hc:0<c):a/c≤b/c:=Int.ediv_le_ediv hc h
theorem XL {f n m i k:Int}(F:1≤n)(D:1≤m)(h:i≤k):qk f n m i≤qk f n m k:=by
 unfold qk;have h1:i*n≤k*n:=sK h ae;have A:(2*i+1)*n≤(2*k+1)*n:=sK ae ae;split
 ·exact C5 h1 ae
 ·have:=C5 (a:=(2*i+1)*n-m-cU f*2*max n m) (b:=(2*k+1)*n-m-cU f*2*max n m) (c:=2*m) ae ae;omega
theorem Va {f n m i k:Int}(F:1≤n)(D:1≤m)(h:i≤k):nA f n m i≤nA f n m k:=by
 unfold nA Ng;have h1:(i+1)*n≤(k+1)*n:=sK ae ae;have A:(2*i+1)*n≤(2*k+1)*n:=sK ae ae;split
 ·have:=C5 (a:= -((k+1)*n)) (b:= -((i+1)*n)) (c:=m) ae ae;omega
 ·have:=C5 (a:= -((2*k+1)*n-m+cU f*2*max n m)) (b:= -((2*i+1)*n-m+cU f*2*max n m)) (c:=2*m) ae ae;omega
theorem xA {g:Nat→Int}:∀{n:Nat},dB g n=0→∀i,i<n→g i=0
 |0,_,i,h=>absurd h ae
 | n+1,hz,i,h=>by
  have e:dB g (n+1)=if dB g n≠0 then dB g n else g n:=rfl
  rw[e]at hz;by_cases h0:dB g n=0
  ·rw[az (by simpa using h0)]at hz;by_cases hi:i=n
   ·rw[hi];exact hz
   ·exact xA h0 i ae
  ·rw[aA h0]at hz;exact absurd hz h0
abbrev lnF (t:Tbl)(y:Int):Int:=(bE t y).1
abbrev lnE (t:Tbl)(y:Int):Int:=(bE t y).1+((bE t y).2.length:Int)
structure Da (t:Tbl):Prop where
 f:∀i k:Int,0≤i→i≤k→k<t.lines.length→lnF t i≤lnF t k
 e:∀i k:Int,0≤i→i≤k→k<t.lines.length→lnE t i≤lnE t k
 m:∀i:Int,(((bE t i).2.length:Nat):Int)≤cD t.lines
theorem Tw {n:Int}{N:Nat}{g:Nat→Int×List Int}{i:Int}(h0:0≤i)(h1:i<N):bE ⟨n,(List.range N).map g⟩ i=g i.toNat:=by
 unfold bE;rw[aA h0];have:i.toNat<N:=ae;simp[dQ,this]
theorem KE:∀(ls:List (Int×List Int)) (a:Int),a≤ls.foldl (λm x=>max m (x.2.length:Int)) a∧∀x∈ls,((x.2.length:Nat):Int)≤ls.foldl (λm x=>max m (x.2.length:Int)) a
 | [],a=>⟨gC _,λx A=>absurd A (by simp)⟩
 |y::l,a=>by
  have h:=KE l (max a (y.2.length:Int));rw[wY];refine⟨by have:=h.1;omega,λx A=>?_⟩;rcases kq.1 A with rfl|A
  ·have:=h.1;omega
  ·exact h.2 x A
theorem IQ (t:Tbl)(i:Int):(((bE t i).2.length:Nat):Int)≤cD t.lines:=by
 have h:=KE t.lines 0;unfold bE;split
 ·by_cases hi:i.toNat<t.lines.length
  ·have e:t.lines.getD i.toNat (0,[])=t.lines[i.toNat]:=by simp[dQ,hi]
   rw[e];exact h.2 _ (cQ hi)
  ·have e:t.lines.getD i.toNat (0,[])=(0,[]):=by simp[dQ,Hj hi]
   rw[e];exact h.1
 ·exact h.1
theorem Ft {l:List Int}(h:cW l=0):(cz l).length=l.length:=by unfold cz;rw[aA h,p8]
theorem SV {f n m:Int}(hc:eI f n m=0):Da (gb f n m):=by
 have h0:¬(¬(0≤f∧f<3)∨¬bC n∨¬bC m):=λh=>by unfold eI at hc;rw[aA h]at hc;cases hc
 have hz:=hc;unfold eI at hz;rw[az h0]at hz;have hf:0≤f∧f<3:=co λh=>h0 (.inl h)
 have L:bC n:=co λh=>h0 (.inr (.inl h))
 have I:bC m:=co λh=>h0 (.inr (.inr h))
 unfold bC at L I;have H:(gb f n m).lines.length=m.toNat:=by show(List.map _ (List.range m.toNat)).length=_;rw[cV,fg]
 have D:∀i:Int,0≤i→i<m→bE (gb f n m) i=(ft f n m i,cz (dr f n m i)):=λi A G=>by
  have:=Tw (n:=n) (N:=m.toNat) (g:=λi:Nat=>(ft f n m i,cz (dr f n m i))) A ae;rw[show((i.toNat:Nat):Int)=i by omega]at this;exact this
 have F:∀i:Int,0≤i→i<m→vY f n m i:=λi A G=>⟨hf.1,hf.2,L.1,L.2,I.1,I.2,A,G⟩
 have W:∀i:Int,0≤i→i<m→lnF (gb f n m) i=qk f n m i:=λi A G=>by
  unfold lnF;rw[D i A G];show ft f n m i=_;unfold ft;rw[aA (F i A G)]
 have hE:∀i:Int,0≤i→i<m→lnE (gb f n m) i=nA f n m i:=λi A G=>by
  have h1:=W i A G;unfold lnF at h1;unfold lnE;rw[h1,D i A G];have h2:=xA hz i.toNat ae;rw[show((i.toNat:Nat):Int)=i by omega]at h2;show qk f n m i+(((cz (dr f n m i)).length:Nat):Int)=_;rw[Ft h2];unfold dr;rw[aA (F i A G)];unfold Er;rw[cV,fg];have:=SF (F i A G);omega
 refine⟨λi k A U k1=>?_,λi k A U k1=>?_,IQ _⟩
 ·rw[H]at k1;rw[W i A ae,W k ae ae];exact XL L.1 I.1 U
 ·rw[H]at k1;rw[hE i A ae,hE k ae ae];exact Va L.1 I.1 U
theorem TJ (l:List Int)(n:Int):Da (lI l n):=by
 have D:(lI l n).lines.length=n.toNat:=by show(List.map _ (List.range n.toNat)).length=_;rw[cV,fg]
 have A:∀i:Int,0≤i→i<n.toNat→bE (lI l n) i=(i-(l.length/2:Nat),cz l):=λi G I=>by
  have:=Tw (n:=n) (N:=n.toNat) (g:=λi:Nat=>((i:Int)-(l.length/2:Nat),cz l)) G I;rw[show((i.toNat:Nat):Int)=i by omega]at this;exact this
 refine⟨λi k G H F=>?_,λi k G H F=>?_,IQ _⟩
 ·rw[D]at F;unfold lnF;rw[A i G ae,A k ae F];show i-_≤k-_;omega
 ·rw[D]at F;unfold lnE;rw[A i G ae,A k ae F];show i-((l.length/2:Nat):Int)+((cz l).length:Int)≤k-((l.length/2:Nat):Int)+((cz l).length:Int);omega
theorem U4 {o:OpD}{w h:Int}(hc:fu o w h=0):Da (ch o w h).y:=by
 have A:jN o w h=0:=by
  unfold fu at hc;split at hc
  ·cases hc
  ·exact hc
 show Da (gQ o h);unfold jN at A;unfold gQ;split
 ·rename_i D;rw[aA D]at A;by_cases h1:eI o.filter w o.w=0
  ·rw[az (by simpa using h1)]at A;exact SV A
  ·rw[aA h1]at A;exact absurd A h1
 ·exact TJ _ _
end Go.Proofs.YtjljhnandbbldaaGreatDoor
namespace Go.Crisp
open Go
theorem ag.at {P:Program}{f:FuncId}{args:Array Value}{h:ah}{v:Value}{K:Value→ah→Prop}(H:ag P f args h λr h'=>r=v∧h'=h)(k:K v h):ag P f args h K:=
 H.mono λr h' ⟨e,w⟩=>by rw[e,w];exact k
theorem ag.to {P:Program}{f:FuncId}{args:Array Value}{h:ah}{v:Value}{K:Value→ah→Prop}(H:ag P f args h λr h'=>r=v∧Ext h h')(k:∀h',Ext h h'→K v h'):ag P f args h K:=
 H.mono λr h' ⟨e,w⟩=>by rw[e];exact k h' w
theorem Fr.after {M N:Nat→Prop}{a b c:ah}(f:Fr M a b)(k:Fr N b c)(n:∀i,i<a.size→N i→M i):Fr M a c:=
 ⟨bh f.1 k.1,λi hi A=>(k.2 i (bT hi f.1) λx=>A (n i hi x)).trans (f.2 i hi A)⟩
theorem Ext.after {N:Nat→Prop}{a b c:ah}(f:Ext a b)(k:Fr N b c):Fr N a c:=(f.fr (M:=N)).after k λ_ _ x=>x
theorem Fr.ext_r {M:Nat→Prop}{a b c:ah}(f:Fr M a b)(k:Ext b c):Fr M a c:=f.trans k.fr
theorem Fr.upd_new {M:Nat→Prop}{a b c:ah}{x:Nat}(f:Fr M a b)(u:Upd x b c)(n:a.size≤x):Fr M a c:=f.after u.fr λi hi e=>ae
theorem Rp.push_ow1S {α:Type}{e:Rp α}{Z P:Nat→Prop}{Q:ah→Prop}{z z' c:Value}{t L:TypeId}{bytes:Nat}{s:Value}{h:ah}{l:List α}{x:α}{K:Value→ah→Prop}(F:e.w=1)
  (hs:Rp.Ow e Z h s l) (I:e.R Z h [c] x) (hz:z.cells.size=1) (hb:(l.length+1)*bytes≤140737488355328) (hn:l.length+1≤9223372036854775807) (hZ:∀b,Z b→b<h.size) (hQ:∀h',Ext h h'→Q h')
  (H:∀D h',Rp.Ow e Z h' D (l++[x])→Fr (blk s) h h'→(∀b,blk D b→blk s b∨h.size≤b)→K D h'):df #[z'] t 1 [(0,1,c)] h λv2 U=>Q U∧di z L 1 bytes s v2 U K:=by
 refine da (fill_one (e.one I c (by simp))) λb h1 r1 A n1=>⟨hQ h1 A,?_⟩
 have W:=SlC.single (cs:=[c]) r1;rw[show[c].length=e.w by rw[F];rfl]at W;have ee:di z L 1 bytes s (.slice (some ⟨b,0,none⟩) 1 1) h1 K=di z L e.w bytes s (.slice (some ⟨b,0,none⟩) 1 1) h1 K:=by rw[F]
 rw[ee];refine Rp.app_ow (l2:=[x]) (hs.ext A) W (λi hi=>?_) (hz.trans F.symm) (by simpa using hb) (by simpa using hn) (λk G=>bT (hZ k G) A.1) λD h' o' f' n'=>
  H D h' o' (A.fr.trans f') λk G=>(n' k G).imp id λh2=>bh A.1 h2
 have hi:i=0:=by simpa using hi
 subst hi;rw[Rp.el_self (e.len I)];exact e.ext I A
theorem New.fr {α:Type}{e:Rp α}{M:Nat→Prop}{h h1 h':ah}{v:Value}{l:List α}(H:New e h h1 v l)(f:Fr M h1 h')(A:∀b,M b→h.size≤b)(q:∀b,blk v b→¬M b):New e h h' v l:=
 ⟨H.1.fr f (λb _ D=>D.elim) q,H.2.1.then_fr f A,H.2.2⟩
theorem eqT (a:Int):(a=a)=True:=jx rfl
theorem UO (a:Nat):ak .p .neq (.pointer (some ⟨a,0,none⟩)) (.pointer none)=some (.bool true):=rfl
theorem UP (a:Nat):ak .p .eql (.pointer (some ⟨a,0,none⟩)) (.pointer none)=some (.bool false):=rfl
theorem zco:ak .p .neq (.pointer none) (.pointer none)=some (.bool false):=rfl
theorem zcp:ak .p .eql (.pointer none) (.pointer none)=some (.bool true):=rfl
end Go.Crisp
namespace Go.Proofs.YtjljhnandbbldaaGreatDoor
open Go Go.Crisp
attribute [local irreducible] ag df aW stK aF vK qK bJ gK eK aZ mkK di Fi GM CF bsK clK ud oA V2
open _root_.Go.Proofs.Tryz
section
def qD (B:Nat→Prop)(h h':ah):Nat→Prop:=λc=>B c∨(h.size≤c∧c<h'.size)
structure kK (Z B:Nat→Prop)(h:ah)(bj bf:Nat)(vf:Value)(bt:Nat)(vt p q rv:Value)(d:fK)(y e:Int)(n:Pic)(room w:Nat):Prop where
 at_:∃M rs,fh Z M h bj bf vf bt vt p q rv d y n room w rs∧(∀c,M c→B c)∧(y<d.t.y+d.t.h→Ik (Ep d) rs (lnF d.s.y y) e∧lnF d.s.y y≤e∧e≤lnE d.s.y y)
 bj0:B bj
 bl:∀c,B c→c<h.size
 bz:∀c,B c→¬Z c∧c≠bt∧¬blk vt c
 out:Ij d n
theorem kK.ext {Z B:Nat→Prop}{h h':ah}{bj bf:Nat}{vf:Value}{bt:Nat}{vt p q rv:Value}{d:fK}{y e:Int}{n:Pic}{room w:Nat}(S:kK Z B h bj bf vf bt vt p q rv d y e n room w)(k:Ext h h'):kK Z B h' bj bf vf bt vt p q rv d y e n room w:=by
 obtain⟨⟨M,rs,J,a,b⟩,c,f,g,o⟩:=S;exact⟨⟨M,rs,J.ext k,a,b⟩,c,λc hc=>bT (f c hc) k.1,g,o⟩
theorem fh.chg {Z M Q:Nat→Prop}{h h':ah}{bj bf:Nat}{vf:Value}{bt:Nat}{vt p q rv:Value}{d:fK}{y:Int}{n n':Pic}{room w:Nat}{rs:List (Int×List Int)}(J:fh Z M h bj bf vf bt vt p q rv d y n room w rs)(f:Fr Q h h')
  (A:∀c,Z c→¬Q c) (F:∀c,M c→¬Q c) (H:¬Q bj) (I:db h' bt vt n'):fh Z M h' bj bf vf bt vt p q rv d y n' room w rs:=
 ⟨f.row J.row H,J.src.fr f (A _ J.zf.1) λc hc=>A _ (J.zf.2 c hc),J.tx.fr f λc _ D=>A c D,J.ty.fr f λc _ D=>A c D,J.ring.fr f λc _ G=>F c G,I,J.zf,J.zz,J.mj,J.jt,J.y0,J.y1,λc hc=>bT (J.zl c hc) f.1⟩
theorem kK.other {Z B Q:Nat→Prop}{h h':ah}{bj bf:Nat}{vf:Value}{bt:Nat}{vt p q rv:Value}{d:fK}{y e:Int}{n n':Pic}{room w:Nat}(S:kK Z B h bj bf vf bt vt p q rv d y e n room w)(f:Fr Q h h')
  (A:∀c,Z c→¬Q c) (qb:∀c,B c→¬Q c) (I:db h' bt vt n') (O:Ij d n'):kK Z B h' bj bf vf bt vt p q rv d y e n' room w:=by
 obtain⟨⟨M,rs,J,a,b⟩,c,l,g,o⟩:=S;exact⟨⟨M,rs,J.chg f A (λk D=>qb k (a k D)) (qb _ c) I,a,b⟩,c,λc hc=>bT (l c hc) f.1,g,O⟩
theorem kK.img {Z B:Nat→Prop}{h:ah}{bj bf:Nat}{vf:Value}{bt:Nat}{vt p q rv:Value}{d:fK}{y e:Int}{n:Pic}{room w:Nat}(S:kK Z B h bj bf vf bt vt p q rv d y e n room w):db h bt vt n:=by
 obtain⟨⟨M,rs,J,a,b⟩,_⟩:=S;exact J.out
theorem kK.src {Z B:Nat→Prop}{h:ah}{bj bf:Nat}{vf:Value}{bt:Nat}{vt p q rv:Value}{d:fK}{y e:Int}{n:Pic}{room w:Nat}(S:kK Z B h bj bf vf bt vt p q rv d y e n room w):db h bf vf d.m:=by
 obtain⟨⟨M,rs,J,a,b⟩,_⟩:=S;exact J.src
theorem fh.frq {Z M Q:Nat→Prop}{h h':ah}{bj bf:Nat}{vf:Value}{bt:Nat}{vt p q rv:Value}{d:fK}{y:Int}{n:Pic}{room w:Nat}{rs:List (Int×List Int)}(J:fh Z M h bj bf vf bt vt p q rv d y n room w rs)(f:Fr Q h h')
  (A:∀c,Z c→¬Q c) (F:∀c,M c→¬Q c) (H:¬Q bj) (I:¬Q bt) (L:∀c,blk vt c→¬Q c):fh Z M h' bj bf vf bt vt p q rv d y n room w rs:=
 ⟨f.row J.row H,J.src.fr f (A _ J.zf.1) λc hc=>A _ (J.zf.2 c hc),J.tx.fr f λc _ D=>A c D,J.ty.fr f λc _ D=>A c D,J.ring.fr f λc _ G=>F c G,J.out.fr f I L,J.zf,J.zz,J.mj,J.jt,J.y0,J.y1,λc hc=>bT (J.zl c hc) f.1⟩
structure zao (d:fK)(room w:Nat):Prop where
 mono:Da d.s.y
 fit:cD d.s.y.lines≤room
 one:1≤room
 wid:(w:Int)=d.t.w*d.m.c
 small:d.t.w≤300
def cj (d:fK)(y e:Int):Int:=if d.t.y+d.t.h≤y then 0 else if e<lnE d.s.y y then 1 else 2
def iA (d:fK)(y e:Int):Int:=if d.t.y+d.t.h≤y then 0 else if e<lnE d.s.y y then e else y
def gi (d:fK)(y e:Int):Int:=if cj d y e=2 then y+1 else y
def iB (d:fK)(y e:Int):Int:=if cj d y e=1 then e+1 else if cj d y e=2 then max e (lnF d.s.y (y+1))else e
section
variable {Z B:Nat→Prop}{h:ah}{bj bf:Nat}{vf:Value}{bt:Nat}{vt p q rv:Value}{d:fK}{y e:Int}{n:Pic}{room w:Nat}
theorem Nt (S:kK Z B h bj bf vf bt vt p q rv d y e n room w)(W:d.Wf):ag prog iM #[ptr bj] h λr h'=>r=BK (cj d y e) (iA d y e)∧Ext h h':=by
 obtain⟨⟨M,rs,J,a,b⟩,c,f,g,o⟩:=S;refine(Yh J W).mono λr h' ⟨k,j,G,A,E⟩=>⟨?_,E⟩
 rw[G];unfold Uq at A;unfold cj iA;by_cases D:d.t.y+d.t.h≤y
 ·rw[aA D]at A;rw[aA D,aA D,A.1,A.2]
 ·rw[az D]at A;rw[az D,az D];obtain⟨H,h1,F⟩:=b ae;rcases A with⟨rfl,A⟩|⟨rfl,rfl,A⟩
  ·rcases H.next h1 F A with⟨a1,_,a3⟩|⟨_,a2,_⟩
   ·rw[aA a1,aA a1,a3]
   ·cases a2
  ·rcases H.next h1 F A with⟨_,a2,_⟩|⟨a1,_,_⟩
   ·cases a2
   ·rw[az ae,az ae]
theorem Sb (S:kK Z B h bj bf vf bt vt p q rv d y e n room w)(W:d.Wf)(R:zao d room w):ag prog gx #[ptr bj] h λr h'=>
  r=BK (cj d y e) (iA d y e)∧∃n',kK Z (qD B h h') h' bj bf vf bt vt p q rv d (gi d y e) (iB d y e) n' room w∧Fr (λc=>blk vt c∨B c) h h'∧
   (cj d y e≠2→n'=n)∧(cj d y e=2→∀F L c',inP n F L c'→atP n' F L c'=if xS d y w F L c' then xp d.m d.s F L c' else atP n F L c'):=by
 apply Ez;unfold uN;refine aI λb1 h1 r1 e1 n1=>?_
 have S1:=S.ext e1;refine(Nt S1 W).mono λr h2 ⟨er,e2⟩=>?_
 subst er;refine dk (cs:=[af (cj d y e),af (iA d y e)]) rfl (aq rfl (aq rfl aX)) rfl λb3 h3 r3 e3 n3=>?_
 have E3:=e1.trans (e2.trans e3);have S3:=S.ext E3;have b0:b1<b3:=by have:=bB r1;have:=e2.1;omega
 have l3:=bB r3;have l1:b1<h3.size:=ae;have be:=(e2.trans e3).row r1;have b5:=E3.1
 -- the end of a step: the move is handed on
 have fin:∀{U:ah} {n':Pic},Fr (λc=>(blk vt c∨B c)∧c≠b1∧c≠b3) h3 U→
   ((cj d y e≠2→n'=n)∧(cj d y e=2→∀F L c',inP n F L c'→atP n' F L c'=if xS d y w F L c' then xp d.m d.s F L c' else atP n F L c'))→(∀A,Upd b1 U A→kK Z (qD B h A) A bj bf vf bt vt p q rv d (gi d y e) (iB d y e) n' room w)→
   vK (aO 2 U (ptr b3)) λbg=>stK 2 (ptr b1) bg U λ_ ad=>vK (aO 2 ad (ptr b1)) λay=>ay=BK (cj d y e) (iA d y e)∧∃n',kK Z (qD B h ad) ad bj bf vf bt vt p q rv d (gi d y e) (iB d y e) n' room w∧Fr (λc=>blk vt c∨B c) h ad∧
    (cj d y e≠2→n'=n)∧(cj d y e=2→∀F L c',inP n F L c'→atP n' F L c'=if xS d y w F L c' then xp d.m d.s F L c' else atP n F L c'):=by
  intro U n' f4 au bd;have aw:=f4.row r3 λG=>G.2.2 rfl
  have bc:=f4.row be λG=>G.2.1 rfl
  rw[aU (l:=[af (cj d y e),af (iA d y e)]) aw 2 rfl,aj];refine cT (l:=[af (cj d y e),af (iA d y e)]) bc rfl (aq rfl (aq rfl aX)) rfl λA r5 u5=>?_
  rw[aU r5 2 rfl,aj];exact⟨rfl,n',bd A u5,((E3.fr (M:=λc=>blk vt c∨B c)).after f4 λc _ hc=>hc.1).after u5.fr (λc hc he=>ae),au.1,au.2⟩
 obtain⟨⟨M,rs,J,aa,hH⟩,ab,ax,a7,hO⟩:=S;have J3:=J.ext E3
 -- a block that is new lies apart from a job
 have ap:∀{b:Nat} {M':Nat→Prop},h.size≤b→b<h3.size→(∀c,M' c→M c∨h3.size≤c)→(∀c,Z c→¬c=b)∧(∀c,M' c→¬c=b)∧¬bj=b∧¬bt=b∧∀c,blk vt c→¬c=b:=by
  intro b M' hb cb bk;refine⟨λc hc he=>?_,λc hc he=>?_,λhe=>?_,λhe=>?_,λc hc he=>?_⟩
  ·have:=J.zl c hc;omega
  ·rcases bk c hc with U|U
   ·have:=J.ring.lt U;omega
   ·omega
  ·have:=bB J.row;omega
  ·have:=J.out.lt;omega
  ·have:=J.out.ltv hc;omega
 have ar:h.size≤b1:=n1;have cp:h.size≤b3:=ae
 -- what is its own, at last
 have gz:∀{A:ah},∀c,qD B h A c→¬Z c∧c≠bt∧¬blk vt c:=λc hc=>by
  rcases hc with hc|hc
  ·exact a7 c hc
  ·refine⟨λhz=>?_,λhe=>?_,λhv=>?_⟩
   ·have:=J.zl c hz;omega
   ·have:=J.out.lt;omega
   ·have:=J.out.ltv hv;omega
 have gl:∀{A:ah},h.size≤A.size→∀c,qD B h A c→c<A.size:=λhs c hc=>by
  rcases hc with hc|hc
  ·exact bT (ax c hc) hs
  ·exact hc.2
 simp only[go_sem,aK];have c0:aG h3 ⟨b3,0,none⟩=some (af (cj d y e)):=am r3;have c1:aG h3 ⟨b3,1,none⟩=some (af (iA d y e)):=am r3;simp only[go_sem,c0,c1];refine ao (λI=>?_) (λI=>?_)
 ·-- a row is filtered
  have al:¬d.t.y+d.t.h≤y:=λh=>by unfold cj at I;rw[aA h]at I;cases I
  have an:e<lnE d.s.y y:=by
   unfold cj at I;rw[az al]at I;rcases mU e (lnE d.s.y y)with h|h
   ·exact h
   ·rw[az ae]at I;cases I
  have hj:iA d y e=e:=by unfold iA;rw[az al,aA an]
  have hy:gi d y e=y:=by unfold gi;rw[az ae]
  have he:iB d y e=e+1:=by unfold iB;rw[aA I]
  obtain⟨H,a1,a2⟩:=hH ae;have hl:=qO W.s.y y;rw[hy,he]at fin ⊢;rw[hj]at fin ⊢;refine(ZY J3 W (j:=e) (by unfold lnF at a1;unfold lnE at an;unfold I64;omega) R.small).mono λr U ⟨M',J4,f4,m4⟩=>?_
  have b2:=R.fit;have b4:=R.mono.m y;have bv:=J3.ring.nums;have bo:(Ep d e).length=w:=by
   have A:=R.wid;have hf:=dH W.m.fits;have ca:=W.w1;unfold Ep;rw[Br];have:((d.t.w.toNat*d.m.c.toNat:Nat):Int)=d.t.w*d.m.c:=by rw[lV,wT ae,wT ae]
   omega
  have HP:=H.put (E:=lnE d.s.y y) (room:=room) (w:=w) a1 an (by unfold lnF lnE;omega) R.one bv.2.2.2.1 bo;have ap1:=ap ar l1 m4;have a8:=f4.1;refine fin (f4.mono λc hc G=>⟨.inr (aa c G),λA=>by have:=J.ring.lt G;omega,λA=>by have:=J.ring.lt G;omega⟩) ⟨λ_=>rfl,λA=>ae⟩ λA u5=>
   ⟨⟨M',_,J4.frq u5.fr ap1.1 ap1.2.1 ap1.2.2.1 ap1.2.2.2.1 ap1.2.2.2.2,λc hc=>?_,λ_=>⟨HP.1,ae,ae⟩⟩,.inl ab,gl (by rw[u5.1];omega),gz,hO⟩
  rcases m4 c hc with h6|h6
  ·exact .inl (aa c h6)
  ·have:=J4.ring.lt hc;exact .inr ⟨ae,by rw[u5.1];exact this⟩
 refine ao (λD=>?_) (λD=>?_)
 ·-- a row is written
  have al:¬d.t.y+d.t.h≤y:=λh=>by unfold cj at D;rw[aA h]at D;cases D
  obtain⟨H,a1,a2⟩:=hH ae;have a9:e=lnE d.s.y y:=by
   unfold cj at I;rw[az al]at I;rcases mU e (lnE d.s.y y)with h|h
   ·rw[aA h]at I;exact absurd rfl I
   ·omega
  have hy:gi d y e=y+1:=by unfold gi;rw[aA D]
  have he:iB d y e=max e (lnF d.s.y (y+1)):=by unfold iB;rw[az I,aA D]
  rw[hy,he]at fin ⊢;refine(zbi J3 W hO R.small ae R.wid λk cc=>H.inn _ (by unfold lnF;omega) (by rw[a9];unfold lnE;omega)).mono λr U ⟨n',J4,O4,A4,f4⟩=>?_
  have ap1:=ap (M':=M) ar l1 λc hc=>.inl hc
  have G:=R.mono;have ci:=J.y0;have b7:=W.y0;have b8:=W.yh;have a8:=f4.1;refine fin (f4.mono λc hc G=>?_) ⟨λA=>absurd D A,λ_=>A4⟩ λA u5=>
   ⟨⟨M,_,J4.frq u5.fr ap1.1 ap1.2.1 ap1.2.2.1 ap1.2.2.2.1 ap1.2.2.2.2,λc hc=>.inl (aa c hc),λan=>?_⟩,.inl ab,gl (by rw[u5.1];omega),gz,O4⟩
  ·rcases G with G|G
   ·have:=J.out.ltv G;exact⟨.inl G,ae,ae⟩
   ·have:=bB J.row;exact⟨.inr (G▸ab),ae,ae⟩
  ·have g1:=G.f y (y+1) ae ae ae;have g2:=G.e y (y+1) ae ae ae;refine⟨H.move g1,ae,?_⟩;have:lnF d.s.y (y+1)≤lnE d.s.y (y+1):=by unfold lnF lnE;omega
   omega
 ·-- it is over
  have b6:cj d y e=0:=by
   unfold cj at*;by_cases U:d.t.y+d.t.h≤y
   ·rw[aA U]
   ·rw[az U]at*;by_cases A:e<lnE d.s.y y
    ·rw[aA A]at I;exact absurd rfl I
    ·rw[az A]at D;exact absurd rfl D
  have hy:gi d y e=y:=by unfold gi;rw[az D]
  have he:iB d y e=e:=by unfold iB;rw[az I,az D]
  rw[hy,he]at fin ⊢;have ap1:=ap (M':=M) ar l1 λc hc=>.inl hc
  exact fin (Fr.refl _ _) ⟨λ_=>rfl,λA=>absurd A D⟩ λA u5=>⟨⟨M,rs,J3.frq u5.fr ap1.1 ap1.2.1 ap1.2.2.1 ap1.2.2.2.1 ap1.2.2.2.2,λc hc=>.inl (aa c hc),hH⟩,.inl ab,gl (by rw[u5.1];omega),gz,hO⟩
end
end
theorem pe_ne {h:ah}{a b:Nat}{c c':Array Value}{t F:TypeId}(G:h[a]? =some (.cells c t (0,0)))(I:h[b]? =some (.cells c' F (0,0)))(A:a≠b):peV h .neq (ptr a) (ptr b)=some (.bool true):=by
 have h1:¬(⟨a,0,none⟩:Addr)=⟨b,0,none⟩:=λhh=>A (by injection hh)
 have D:nV h a=true:=by unfold nV;rw[G];rfl
 have H:nV h b=true:=by unfold nV;rw[I];rfl
 show(if(⟨a,0,none⟩:Addr)=⟨b,0,none⟩then some (Value.bool false)else if nV h a&&nV h b then some (.bool true)else none)=_;rw[az h1,D,H];rfl
def lC (m n:Pic)(s:Stg):Prop:=nK m s∧n.w=s.x.lines.length∧n.h=s.y.lines.length∧n.c=m.c∧n.most=m.most
instance (m n:Pic)(s:Stg):Decidable (lC m n s):=by unfold lC;infer_instance
theorem ZJ {h:ah}(G:eB h){Z:Nat→Prop}{bf bt:Nat}{vf vt sv:Value}{m n:Pic}{s:Stg}(I:db h bf vf m)(O:db h bt vt n)(W:bf≠bt)(HS:pU Z h sv s):
  ag prog vL #[ptr bf,ptr bt,sv] h λr h'=>r=.bool (decide (lC m n s))∧Ext h h':=by
 apply Kd;unfold Aa;obtain⟨p,q,rfl,hp,hq,aa⟩:=jm HS;simp only[bO];refine aI λb1 h1 r1 F n1=>?_
 refine aP (λh'=>h'=h1) rfl ?_;simp only[go_sem,UO];refine aC (.bool true) (λh' e=>by rw[e];exact pe_ne (F.row I.row) (F.row O.row) W) ?_
 try simp only[go_sem]
 refine aC (.agg #[p,q,af s.border]) (λh' e=>by rw[e];exact aU (l:=[p,q,af s.border]) r1 3 rfl) ?_;refine ag.to (La (G.ext F) (I.ext F) (HS.ext F)) λH e2=>?_
 have A:=F.trans e2;have r2:=e2.row r1;have c0:aG H ⟨b1,0,none⟩=some p:=am r2;have c1:aG H ⟨b1,1,none⟩=some q:=am r2;by_cases g1:nK m s
 case neg=>
  rw[cB g1,cB λD:lC m n s=>g1 D.1];refine aP (λh'=>h'=H) rfl ?_;simp only[go_sem];refine aC undef (λ_ _=>rfl) ?_
  try simp only[go_sem]
  refine⟨trivial,?_⟩
  try simp only[go_sem]
  refine aP (λh'=>h'=H) rfl ?_;simp only[go_sem];refine aC undef (λ_ _=>rfl) ?_
  try simp only[go_sem]
  refine⟨trivial,?_⟩
  try simp only[go_sem]
  exact⟨trivial,A⟩
 rw[cP g1];refine aP (λh'=>h'=H) rfl ?_;simp only[go_sem,aK];refine aC p (λh' e=>by rw[e];exact c0) ?_
 try simp only[go_sem]
 refine ag.at (ut (O.ext A)) ?_;refine⟨rfl,?_⟩
 try simp only[go_sem]
 refine ag.at (Dp (hp.ext A)) ?_;refine aP (λh'=>h'=H) rfl ?_;by_cases g2:n.w=s.x.lines.length
 case neg=>
  rw[cB λD:lC m n s=>g2 D.2.1];simp only[go_sem,cB g2];refine aC undef (λ_ _=>rfl) ?_
  try simp only[go_sem]
  refine⟨trivial,?_⟩
  try simp only[go_sem]
  exact⟨trivial,A⟩
 simp only[go_sem,aK,g2,eqT];refine aC q (λh' e=>by rw[e];exact c1) ?_
 try simp only[go_sem]
 refine ag.at (sq (O.ext A)) ?_;refine⟨rfl,?_⟩
 try simp only[go_sem]
 refine ag.at (Dp (hq.ext A)) ?_;by_cases U:n.h=s.y.lines.length
 case neg=>
  rw[cB λD:lC m n s=>U D.2.2.1];simp only[go_sem,cB U];exact⟨trivial,A⟩
 simp only[go_sem,aK,U,eqT];refine ag.at (fD (O.ext A)) (ag.at (fD (I.ext A)) ?_);by_cases L:n.c=m.c
 case neg=>
  rw[cB λD:lC m n s=>L D.2.2.2.1];simp only[go_sem,cB L];exact⟨trivial,A⟩
 simp only[go_sem,aK,L,eqT];refine ag.at (uH (O.ext A)) (ag.at (uH (I.ext A)) ?_);simp only[go_sem];refine⟨?_,A⟩
 congr 1
 rw[gE];exact⟨λg5=>⟨g1,g2,U,L,g5⟩,λD=>D.2.2.2.2⟩
abbrev rectV (x y w hh:Int):Value:=.agg #[.int .i64 x,.int .i64 y,.int .i64 w,.int .i64 hh]
def fj (s:Stg)(x y w hh:Int):Prop:=1≤w∧1≤hh∧0≤x∧0≤y∧x<s.x.lines.length∧y<s.y.lines.length∧w≤s.x.lines.length-x∧hh≤s.y.lines.length-y
instance (s:Stg)(x y w hh:Int):Decidable (fj s x y w hh):=by unfold fj;infer_instance
theorem TU {h:ah}{Z:Nat→Prop}{sv:Value}{s:Stg}(HS:pU Z h sv s)(W:s.Wf){x y w hh:Int}:
  ag prog mH #[sv,rectV x y w hh] h λr h'=>r=.bool (decide (fj s x y w hh))∧Ext h h':=by
 apply Iz;unfold xU;obtain⟨p,q,rfl,L,hq,U⟩:=jm HS;have lx:=W.x.len;have ly:=W.y.len;simp only[bO];refine aI λb1 h1 r1 e1 n1=>aI λb2 h2 r2 e2 n2=>?_
 have r1:=e2.row r1;have E:=e1.trans e2;have np:=(Io L).1;have nq:=(Io hq).1;refine aP (λh'=>h'=h2) rfl ?_;simp only[go_sem,aK];refine aC p (λh' e=>by rw[e];exact am r1) ?_;simp only[go_sem,aK,np];refine aC q (λh' e=>by rw[e];exact am r1) ?_;simp only[go_sem,aK,nq];refine aC (af w) (λh' e=>by rw[e];exact am r2) ?_;by_cases g1:1≤w
 case neg=>
  rw[cB λA:fj s x y w hh=>g1 A.1];simp only[go_sem,cB g1]
  repeat(first|refine aC undef (λ_ _=>rfl) ?_ |(refine⟨trivial,?_⟩)|simp only[go_sem])
  first|exact E|exact⟨trivial,E⟩|exact⟨rfl,E⟩
 simp only[go_sem,aK,cP g1];refine aC (af hh) (λh' e=>by rw[e];exact am r2) ?_;by_cases g2:1≤hh
 case neg=>
  rw[cB λA:fj s x y w hh=>g2 A.2.1];simp only[go_sem,cB g2]
  repeat(first|refine aC undef (λ_ _=>rfl) ?_ |(refine⟨trivial,?_⟩)|simp only[go_sem])
  first|exact E|exact⟨trivial,E⟩|exact⟨rfl,E⟩
 simp only[go_sem,aK,cP g2];refine aC (af x) (λh' e=>by rw[e];exact am r2) ?_;by_cases I:0≤x
 case neg=>
  rw[cB λA:fj s x y w hh=>I A.2.2.1];simp only[go_sem,cB I]
  repeat(first|refine aC undef (λ_ _=>rfl) ?_ |(refine⟨trivial,?_⟩)|simp only[go_sem])
  first|exact E|exact⟨trivial,E⟩|exact⟨rfl,E⟩
 simp only[go_sem,aK,cP I];refine aC (af y) (λh' e=>by rw[e];exact am r2) ?_;by_cases G:0≤y
 case neg=>
  rw[cB λA:fj s x y w hh=>G A.2.2.2.1];simp only[go_sem,cB G]
  repeat(first|refine aC undef (λ_ _=>rfl) ?_ |(refine⟨trivial,?_⟩)|simp only[go_sem])
  first|exact E|exact⟨trivial,E⟩|exact⟨rfl,E⟩
 simp only[go_sem,aK,cP G];refine aC (af x) (λh' e=>by rw[e];exact am r2) ?_;refine aC p (λh' e=>by rw[e];exact am r1) ?_
 try simp only[go_sem]
 refine ag.at (Dp (L.ext E)) ?_;refine⟨rfl,?_⟩;by_cases F:x<(s.x.lines.length:Int)
 case neg=>
  rw[cB λA:fj s x y w hh=>F A.2.2.2.2.1];simp only[go_sem,cB F]
  repeat(first|refine aC undef (λ_ _=>rfl) ?_ |(refine⟨trivial,?_⟩)|simp only[go_sem])
  first|exact E|exact⟨trivial,E⟩|exact⟨rfl,E⟩
 simp only[go_sem,aK,cP F];refine aC (af y) (λh' e=>by rw[e];exact am r2) ?_;refine aC q (λh' e=>by rw[e];exact am r1) ?_
 try simp only[go_sem]
 refine ag.at (Dp (hq.ext E)) ?_;refine⟨rfl,?_⟩;by_cases D:y<(s.y.lines.length:Int)
 case neg=>
  rw[cB λA:fj s x y w hh=>D A.2.2.2.2.2.1];simp only[go_sem,cB D]
  repeat(first|refine aC undef (λ_ _=>rfl) ?_ |(refine⟨trivial,?_⟩)|simp only[go_sem])
  first|exact E|exact⟨trivial,E⟩|exact⟨rfl,E⟩
 simp only[go_sem,aK,cP D];refine aC (af w) (λh' e=>by rw[e];exact am r2) ?_;refine aC p (λh' e=>by rw[e];exact am r1) ?_;refine aC (af x) (λh' e=>by rw[e];exact am r2) ?_
 try simp only[go_sem]
 refine ag.at (Dp (L.ext E)) ?_;refine⟨rfl,?_⟩;simp only[go_sem,aK];rw[w64 ae ae];by_cases H:w≤(s.x.lines.length:Int)-x
 case neg=>
  rw[cB λA:fj s x y w hh=>H A.2.2.2.2.2.2.1];simp only[go_sem,cB H]
  repeat(first|refine aC undef (λ_ _=>rfl) ?_ |(refine⟨trivial,?_⟩)|simp only[go_sem])
  first|exact E|exact⟨trivial,E⟩|exact⟨rfl,E⟩
 simp only[go_sem,aK,cP H];refine aC (af hh) (λh' e=>by rw[e];exact am r2) ?_;refine aC q (λh' e=>by rw[e];exact am r1) ?_;refine aC (af y) (λh' e=>by rw[e];exact am r2) ?_
 try simp only[go_sem]
 refine ag.at (Dp (hq.ext E)) ?_;refine⟨rfl,?_⟩;simp only[go_sem,aK];rw[w64 ae ae];refine⟨?_,E⟩
 congr 1
 rw[gE];exact⟨λg8=>⟨g1,g2,I,G,F,D,H,g8⟩,λA=>A.2.2.2.2.2.2.2⟩
abbrev zbV:Array Value:=#[(.pointer none),(.pointer none),(.pointer none),(.pointer none),(.int .i64 0),(.int .i64 0),(.int .i64 0),(.int .i64 0),(.int .i64 0),(.int .i64 0),(.int .i64 0),(.int .i64 0),(.int .i64 0),(.int .i64 0),(.int .i64 0),(.pointer none),(.int .i64 0)]
theorem Zw {bf bt:Nat}{p q rv:Value}{d:fK}{y:Int}(A:aQ rv=true):
  aM zbV [(0,1,ptr bf),(1,1,ptr bt),(2,3,.agg #[p,q,af d.s.border]),(5,10,.agg (dA d.t).toArray),(15,1,rv),(16,1,af y)]=some (U7 bf bt p q rv d y).toArray:=by
 refine(bP (n:=1) (l:=[ptr bf]) rfl rfl (by simp)).trans ?_;refine(bP (n:=1) (l:=[ptr bt]) rfl rfl (by simp[cG])).trans ?_;refine(bP (n:=3) (l:=[p,q,af d.s.border]) rfl rfl (by simp[cG])).trans ?_;refine(bP (n:=10) (l:=dA d.t) rfl rfl (by simp[cG])).trans ?_;refine(bP (n:=1) (l:=[rv]) (cC A) rfl (by simp[cG])).trans ?_;refine(bP (n:=1) (l:=[af y]) rfl rfl (by simp[cG])).trans ?_;rw[gG];simp[wrL,dA,U7]
theorem ML {h:ah}{b:Nat}{l:List Value}{t:TypeId}{f:Nat×Nat}(r:h[b]? =some (.cells l.toArray t f))(o n:Nat)(m:List Value)(D:(l.drop o).take n=m)(G:m.length=n):aO n h (.pointer (some ⟨b,o,none⟩))=some (.agg m.toArray):=by
 subst D;refine HC _ n G λj F=>?_
 rw[am r];rw[c5,iZ]at F;have A:o+j<l.length:=ae;rw[yZ,w9];simp[A]
def nI (m n:Pic)(s:Stg)(t:cZ):Int:=if¬lC m n s then 6 else if¬fj s t.x t.y t.w t.h then 9 else 0
theorem pZ {m n:Pic}{s:Stg}{t:cZ}:nI m n s t=0↔lC m n s∧fj s t.x t.y t.w t.h:=by
 unfold nI;by_cases h1:lC m n s
 ·rw[az (by simpa using h1)];by_cases A:fj s t.x t.y t.w t.h
  ·rw[az (by simpa using A)];exact⟨λ_=>⟨h1,A⟩,λ_=>rfl⟩
  ·rw[aA A];exact⟨λh=>absurd h (by decide),λh=>absurd h.2 A⟩
 ·rw[aA h1];exact⟨λh=>absurd h (by decide),λh=>absurd h.1 h1⟩
theorem MS {m n:Pic}{s:Stg}{t:cZ}(W:m.Wf)(D:s.Wf)(hc:nI m n s t=0):fK.Wf ⟨m,s,t⟩:=by
 obtain⟨h1,A⟩:=pZ.1 hc;obtain⟨a1,a2,a3,a4,a5,a6,F,G⟩:=A;exact⟨W,D,h1.1,a1,a2,a3,a4,by show t.x+t.w≤(s.x.lines.length:Int);omega,by show t.y+t.h≤(s.y.lines.length:Int);omega⟩
theorem WB {m n:Pic}{s:Stg}{t:cZ}(W:n.Wf)(hc:nI m n s t=0):Ij ⟨m,s,t⟩ n:=by
 obtain⟨h1,A⟩:=pZ.1 hc;exact⟨W,h1.2.1,h1.2.2.1,h1.2.2.2.1,h1.2.2.2.2⟩
def VI (Z:Nat→Prop)(h:ah)(bf:Nat)(vf:Value)(bt:Nat)(vt p q:Value)(m n:Pic)(s:Stg)(t:cZ)(r:Value)(h':ah):Prop:=
 Ext h h'∧∃v,r=.tuple #[v,.int .i64 (nI m n s t)]∧(nI m n s t≠0→v=.pointer none)∧
  (nI m n s t=0→∃bj rv,v=ptr bj∧kK Z (qD (λ_=>False) h h') h' bj bf vf bt vt p q rv ⟨m,s,t⟩ t.y (lnF s.y t.y) n (kE (cD s.y.lines)) (gP (t.w*m.c)))
theorem zcN {h:ah}(G:eB h){Z:Nat→Prop}{bf bt:Nat}{vf vt p q:Value}{m n:Pic}{s:Stg}{t:cZ}(I:db h bf vf m)(O:db h bt vt n)(al:bf≠bt)(W:m.Wf)(WO:n.Wf)(hp:fG Z h p s.x)(hq:fG Z h q s.y)(WS:s.Wf)
  (zf:Z bf∧∀c,blk vf c→Z c) (zz:∀c,Z c→¬blk vt c) (zl:∀c,Z c→c<h.size):
  ag prog oM #[ptr bf,ptr bt,.agg #[p,q,af s.border],.agg (dA t).toArray] h (VI Z h bf vf bt vt p q m n s t):=by
 apply N0;unfold Du;simp only[bO];have HS:pU Z h (.agg #[p,q,af s.border]) s:=⟨p,q,rfl,hp,hq⟩
 refine aI λb1 h1 r1 e1 n1=>aI λb2 h2 r2 e2 n2=>?_
 have U:=e1.trans e2;have r1:=e2.row r1;rw[aU (l:=[p,q,af s.border]) r1 3 rfl,aj];refine ag.to (ZJ (G.ext U) (I.ext U) (O.ext U) al (HS.ext U)) λh3 e3=>?_
 have E3:=U.trans e3;by_cases g1:lC m n s
 case neg=>
  have hc:nI m n s t=6:=by unfold nI;rw[aA g1]
  simp only[go_sem,cB g1];exact⟨E3,_,by rw[hc],λ_=>rfl,λh0=>absurd (h0.symm.trans hc) (by decide)⟩
 simp only[go_sem,cP g1];have r1:=e3.row r1;have r2:=e3.row r2;rw[aU (l:=[p,q,af s.border]) r1 3 rfl,aj,ML r2 (0+1) 4 [af t.x,af t.y,af t.w,af t.h] rfl rfl,aj];refine ag.to (TU (HS.ext E3) WS) λh4 e4=>?_
 have H:=E3.trans e4;by_cases g2:fj s t.x t.y t.w t.h
 case neg=>
  have hc:nI m n s t=9:=by unfold nI;rw[az (by simpa using g1),aA g2]
  simp only[go_sem,cB g2];exact⟨H,_,by rw[hc],λ_=>rfl,λh0=>absurd (h0.symm.trans hc) (by decide)⟩
 simp only[go_sem,cP g2];have hc:nI m n s t=0:=pZ.2 ⟨g1,g2⟩;have r1:=e4.row r1;have r2:=e4.row r2;have WJ:=MS (t:=t) W WS hc;have hb:=fK.bd WJ;have ad:=WJ.w1;have ab:=WJ.x0;have hf:=dH W.fits;refine aP (Ext h4) (Ext.refl _) ?_;refine aC (.agg #[p,q,af s.border]) (λh' e=>aU (l:=[p,q,af s.border]) (e.row r1) 3 rfl) ?_;refine aC (.agg (dA t).toArray) (λh' e=>aU (e.row r2) 10 rfl) ?_
 try simp only[go_sem,aK]
 refine aC q (λh' e=>am (e.row r1)) ?_
 try simp only[go_sem,aK]
 refine aC (af t.w) (λh' e=>am (e.row r2)) ?_
 try simp only[go_sem,aK]
 refine aC (af t.y) (λh' e=>am (e.row r2)) ?_;refine ag.at (Sf (hq.ext H)) ?_;refine⟨Ext.refl _,?_⟩;refine ag.at (fD (I.ext H)) ?_;refine⟨Ext.refl _,?_⟩;have au:0≤t.w*m.c∧t.w*m.c≤65536*3:=by
  have h1:(1:Int)≤t.w:=ad;have h2:t.x+t.w≤65536:=hb.1;have h3:0≤t.x:=ab;have:=qn (show t.w≤65536 by omega) hf.2.2.2.2.2.1 ae ae;exact⟨mV ae ae,this⟩
 simp only[go_sem];rw[w64 (n:=t.w*m.c) ae ae];refine(zcY (cD s.y.lines) (t.w*m.c)).mono λrv h5 ⟨M,R,e5,hM⟩=>?_
 refine⟨e5,?_⟩;have E5:=H.trans e5;have hr:aQ rv=true:=by obtain⟨_,_,_,_,_,_,e,_⟩:=R;rw[e];rfl
 have aa:aM zbV [(0,1,ptr bf),(1,1,ptr bt),(2,3,.agg #[p,q,af s.border]),(5,10,.agg (dA t).toArray),(15,1,rv),(16,1,af t.y)]=some (U7 bf bt p q rv ⟨m,s,t⟩ t.y).toArray:=Zw (d:=⟨m,s,t⟩) hr;rw[aa,bG,aj];refine aI λbj h6 r6 e6 n6=>?_
 have F:=E5.trans e6;have an:=O.lt;have ar:=E5.1;have aw:=H.1;refine⟨F,_,by rw[hc],λh0=>absurd hc h0,λ_=>⟨bj,rv,rfl,⟨M,[],⟨r6,I.ext F,hp.ext F,hq.ext F,R.ext e6,O.ext F,zf,λc D=>⟨λA=>?_,λhe=>?_,zz c D⟩,⟨λA=>?_,λA=>?_,λc L A=>?_⟩,⟨ae,λL=>?_⟩,gC _,?_,λc D=>bT (zl c D) F.1⟩,λc A=>.inr ⟨?_,?_⟩,λ_=>⟨Ik.start _ _,gC _,?_⟩⟩,.inr ⟨ae,bB r6⟩,λc hc=>hc.elim (λh=>h.elim) λh=>h.2,λc hc=>?_,WB WO hc⟩⟩
 ·have:=hM c A;have:=zl c D;omega
 ·have:=zl c D;omega
 ·have:=R.lt A;omega
 ·have:=hM bt A;omega
 ·have:=hM c A;have:=O.ltv L;omega
 ·have:=O.ltv L;omega
 ·show t.y≤t.y+t.h;have:=WJ.h1;have:(1:Int)≤t.h:=this;omega
 ·have:=hM c A;omega
 ·have:=R.lt A;have:=e6.1;omega
 ·show lnF s.y t.y≤lnE s.y t.y;unfold lnF lnE;omega
 ·rcases hc with h|h
  ·exact h.elim
  ·exact⟨λD=>by have:=zl c D;omega,ae,λL=>by have:=O.ltv L;omega⟩
section
theorem Lh {a b:Int}(A:1≤a)(D:1≤b):max a b≤a*b:=by
 have h1:a*1≤a*b:=qR D ae;have F:1*b≤a*b:=sK A ae;omega
theorem span0 (X:Int){n m:Int}(W:1≤n)(L:1≤m): -(-(X+n)/m)-X/m≤6*n+4:=by
 have a1:=vw (-(X+n)) m;have a2:=vw X m;have F:=iF (-(X+n)) (show 0<m by omega);have G:=iF X (show 0<m by omega);have U:=Lh W L
 revert a1 a2 F G
 generalize-(X+n)/m=D;generalize X/m=A;generalize-(X+n)%m=r1;generalize X%m=r2;intro a1 a2 F G;rcases mU (6*n+4) (-D-A)with h|h
 ·exfalso;have h1:m*(6*n+5)≤m*(-D-A):=qR ae ae;have H:m*(6*n+5)=6*(n*m)+5*m:=by grind
  have I:m*(-D-A)= -(m*D)-m*A:=by grind
  rw[H,I]at h1;omega
 ·omega
theorem span1 (X R:Int){n m:Int}(W:1≤n)(L:1≤m)(U:R≤6*(n*m)): -(-(X+R)/(2*m))-((X-R)/(2*m)+1)≤6*n+4:=by
 have a1:=vw (-(X+R)) (2*m);have a2:=vw (X-R) (2*m);have F:=iF (-(X+R)) (show 0<2*m by omega);have G:=iF (X-R) (show 0<2*m by omega)
 revert a1 a2 F G
 generalize-(X+R)/(2*m)=D;generalize(X-R)/(2*m)=A;generalize-(X+R)%(2*m)=r1;generalize(X-R)%(2*m)=r2;intro a1 a2 F G;rcases mU (6*n+4) (-D-(A+1))with h|h
 ·exfalso;have h1:2*m*(6*n+5)≤2*m*(-D-(A+1)):=qR ae ae;have I:2*m*(6*n+5)=12*(n*m)+10*m:=by grind
  have H:2*m*(-D-(A+1))= -(2*m*D)-2*m*A-2*m:=by grind
  rw[I,H]at h1;omega
 ·omega
theorem zaD {f n m i:Int}(H:0≤f∧f<3)(D:1≤n)(A:1≤m):nA f n m i-qk f n m i≤6*n+4:=by
 have G:=Lh D A;unfold nA qk Ng;by_cases h0:f=0
 ·rw[aA h0,aA h0];rw[show(i+1)*n=i*n+n by rw[jw,kp]];exact span0 (i*n) D A
 ·rw[az h0,az h0];have F:cU f*2*max n m≤6*(n*m)∧0≤cU f*2*max n m:=by
   have:(cU f=2∨cU f=3):=by unfold cU;rw[az h0];split<;>simp
   rcases this with h|h<;>rw[h]<;>omega
  generalize cU f*2*max n m=R at*;exact span1 _ _ D A F.1
theorem EV {ls:List (Int×List Int)}{c:Int}(h0:0≤c)(h:∀x∈ls,(x.2.length:Int)≤c):cD ls≤c:=by
 unfold cD;have:∀(l:List (Int×List Int)) (a:Int),a≤c→(∀x∈l,(x.2.length:Int)≤c)→l.foldl (λm x=>max m (x.2.length:Int)) a≤c:=by
  intro l;induction l with
  |nil=>intro a A _;exact A
  |cons y l F=>
   intro a A D;rw[wY];exact F _ (by have:=D y (by simp);omega) λx G=>D x (by simp[G])
 exact this ls 0 h0 h
theorem V6 (ls:List (Int×List Int)):0≤cD ls:=(KE ls 0).1
theorem Gq {f n m:Int}(hc:eI f n m=0):cD (gb f n m).lines≤6*n+4:=by
 have h0:¬(¬(0≤f∧f<3)∨¬bC n∨¬bC m):=λh=>by unfold eI at hc;rw[aA h]at hc;cases hc
 have F:=hc;unfold eI at F;rw[az h0]at F;have G:0≤f∧f<3:=co λh=>h0 (.inl h)
 have D:bC n:=co λh=>h0 (.inr (.inl h))
 have A:bC m:=co λh=>h0 (.inr (.inr h))
 unfold bC at D A;refine EV ae λx I=>?_
 obtain⟨i,hi,rfl⟩:=iG.1 I;have hi:=xy.1 hi;have H:=xA F i hi;show((cz (dr f n m i)).length:Int)≤_;rw[Ft H];unfold dr;rw[aA ⟨G.1,G.2,D.1,D.2,A.1,A.2,ae,ae⟩];unfold Er;rw[cV,fg];have:=zaD (i:=i) G D.1 A.1;omega
theorem SS {f n m:Int}(hc:eI f n m=0)(A:n≤10000):cD (gb f n m).lines≤65536:=by have:=Gq hc;omega
theorem HU (l:List Int)(n:Int)(hc:jV l n=0):cD (lI l n).lines≤l.length:=by
 refine EV ae λx A=>?_
 obtain⟨i,hi,rfl⟩:=iG.1 A;show((cz l).length:Int)≤_;have h0:cW l=0:=by
  unfold jV at hc;split at hc
  ·cases hc
  ·split at hc
   ·cases hc
   ·exact hc
 rw[Ft h0];omega
theorem TI (l:List Int)(A:l.length≤1024)(n:Int)(hc:jV l n=0):cD (lI l n).lines≤65536:=by have:=HU l n hc;omega
theorem U3 {o:OpD}{w h:Int}(hc:fu o w h=0)(F:h≤10000):cD (ch o w h).y.lines≤65536:=by
 have A:jN o w h=0:=by
  unfold fu at hc;split at hc
  ·cases hc
  ·exact hc
 show cD (gQ o h).lines≤_;unfold jN at A;unfold gQ;split
 ·rename_i D;rw[aA D]at A;by_cases h1:eI o.filter w o.w=0
  ·rw[az (by simpa using h1)]at A;exact SS A F
  ·rw[aA h1]at A;exact absurd A h1
 ·rename_i D;rw[az D]at A;refine TI _ (AJ o).2 _ ?_;split at A
  ·exact absurd A (by assumption)
  ·split at A
   ·exact absurd A (by assumption)
   ·exact A
structure Cf (s:Stg):Prop where
 wf:s.Wf
 mono:Da s.y
 most:cD s.y.lines≤65536
 side:s.x.lines.length≤300
theorem MF {o:OpD}{w h:Int}(hc:fu o w h=0)(A:h≤10000)(D:pH o w≤300):Cf (ch o w h):=
 ⟨(yq hc).1,U4 hc,U3 hc A,by have:=(IN hc).1;omega⟩
theorem Cf.room {s:Stg}(H:Cf s){m n:Pic}{t:cZ}(W:m.Wf)(hc:nI m n s t=0):zao ⟨m,s,t⟩ (kE (cD s.y.lines)) (gP (t.w*m.c)):=by
 have A:=MS (t:=t) W H.wf hc;have F:=dH W.fits;have h1:1≤t.w:=A.w1;have G:0≤t.x:=A.x0;have I:t.x+t.w≤s.x.lines.length:=A.xw;have L:=H.side;have U:=H.most;have D:0≤t.w*m.c∧t.w*m.c≤300*3:=⟨mV ae ae,qn (show t.w≤300 by omega) F.2.2.2.2.2.1 ae ae⟩
 refine⟨H.mono,?_,?_,?_,?_⟩
 ·unfold kE;show cD s.y.lines≤_;omega
 ·unfold kE;omega
 ·unfold gP;show _=t.w*m.c;omega
 ·show t.w≤300;omega
def mm (d:fK):Nat→Int→Int→Nat
 |0,_,_=>0
 |k+1,y,e=>(lnE d.s.y y-e).toNat+1+mm d k (y+1) (max (lnE d.s.y y) (lnF d.s.y (y+1)))
def rV (d:fK)(y e:Int):Nat:=mm d (d.t.y+d.t.h-y).toNat y e
theorem Pr {d:fK}{y e:Int}(h:d.t.y+d.t.h≤y):rV d y e=0:=by
 unfold rV;rw[show(d.t.y+d.t.h-y).toNat=0 by omega];rfl
theorem IT {d:fK}{y e:Int}(h:y<d.t.y+d.t.h):rV d y e=(lnE d.s.y y-e).toNat+1+rV d (y+1) (max (lnE d.s.y y) (lnF d.s.y (y+1))):=by
 unfold rV;rw[show(d.t.y+d.t.h-y).toNat=(d.t.y+d.t.h-(y+1)).toNat+1 by omega];rfl
theorem XN {d:fK}{y e:Int}(U:cj d y e≠0)(W:e≤lnE d.s.y y):rV d (gi d y e) (iB d y e)+1=rV d y e:=by
 have A:¬d.t.y+d.t.h≤y:=λh=>U (by unfold cj;rw[aA h])
 have I:=IT (e:=e) (show y<d.t.y+d.t.h by omega);by_cases h1:e<lnE d.s.y y
 ·have L:cj d y e=1:=by unfold cj;rw[az A,aA h1]
  have D:gi d y e=y:=by unfold gi;rw[az ae]
  have F:iB d y e=e+1:=by unfold iB;rw[aA L]
  rw[D,F,I,IT (e:=e+1) ae];omega
 ·have H:cj d y e=2:=by unfold cj;rw[az A,az h1]
  have D:gi d y e=y+1:=by unfold gi;rw[aA H]
  have F:iB d y e=max e (lnF d.s.y (y+1)):=by unfold iB;rw[az ae,aA H]
  have G:e=lnE d.s.y y:=ae;rw[D,F,I,G];omega
theorem Y8 {d:fK}{y e:Int}:rV d y e=0↔cj d y e=0:=by
 unfold cj;by_cases h:d.t.y+d.t.h≤y
 ·rw[aA h,Pr h];simp
 ·rw[az h,IT ae];constructor
  ·intro h;omega
  ·split<;>intro h<;>cases h
theorem HA {d:fK}(W:d.s.y.Wf):∀(k:Nat) (y e:Int),lnF d.s.y y≤e→mm d k y e≤k*1048577
 |0,_,_,_=>bU _
 |k+1,y,e,he=>by
  have h1:=HA W k (y+1) (max (lnE d.s.y y) (lnF d.s.y (y+1))) ae;have A:=qO W y;unfold mm;unfold lnE lnF at*;omega
theorem left_bd {d:fK}(W:d.Wf){y e:Int}(G:d.t.y≤y)(A:y<d.t.y+d.t.h→lnF d.s.y y≤e):rV d y e≤68719542272:=by
 by_cases h:y<d.t.y+d.t.h
 ·have h1:=HA W.s.y (d.t.y+d.t.h-y).toNat y e (A h);have D:=fK.bd W;have F:=W.y0;unfold rV;omega
 ·rw[Pr ae];omega
theorem C4 {B:Nat→Prop}{h:ah}:qD B h h=B:=by
 funext c
 unfold qD;apply propext;constructor
 ·rintro(h|h)
  ·exact h
  ·omega
 ·exact .inl
section
variable {Z B:Nat→Prop}{h:ah}{bj bf:Nat}{vf:Value}{bt:Nat}{vt p q rv:Value}{d:fK}{y e:Int}{n:Pic}{room w:Nat}
theorem Ns (S:kK Z B h bj bf vf bt vt p q rv d y e n room w):ag prog jX #[ptr bj] h λr h'=>r=af ((room:Int)*w)∧h'=h:=by
 apply De;unfold tt;obtain⟨⟨M,rs,J,a,b⟩,_⟩:=S;simp only[go_sem,J.c15 (Ext.refl _)];exact Z8 J.ring
end
def yM (s:Stg)(t:cZ)(m:Pic):Nat:=rV ⟨m,s,t⟩ t.y (lnF s.y t.y)
theorem zbD {Z:Nat→Prop}{h:ah}{p q:Value}{s:Stg}{t:cZ}(m:Pic)(hp:fG Z h p s.x)(hq:fG Z h q s.y)(F:Cf s):
  ag prog vM #[.agg #[p,q,af s.border],.agg (dA t).toArray] h λr h'=>r=af (if fj s t.x t.y t.w t.h then(yM s t m:Int)else 0)∧Ext h h':=by
 apply Ke;unfold Ab;simp only[bO];have HS:pU Z h (.agg #[p,q,af s.border]) s:=⟨p,q,rfl,hp,hq⟩
 refine aI λb1 h1 r1 e1 n1=>aI λb2 h2 r2 e2 n2=>?_
 have E2:=e1.trans e2;have r1:=e2.row r1;rw[aU (l:=[p,q,af s.border]) r1 3 rfl,aj,TH,aj,ML r2 (0+1) 4 [af t.x,af t.y,af t.w,af t.h] rfl rfl,aj];refine ag.to (TU (HS.ext E2) F.wf) λh4 e4=>?_
 have E4:=E2.trans e4;have r1:=e4.row r1;have r2:=e4.row r2;by_cases g:fj s t.x t.y t.w t.h
 case neg=>
  rw[az g];simp only[go_sem,cB g];exact⟨trivial,E4⟩
 rw[aA g];obtain⟨g1,g2,g3,g4,g5,g6,g7,g8⟩:=g;have q1:aG h4 ⟨b1,1,none⟩=some q:=am r1;have t4:aG h4 ⟨b2,4,none⟩=some (af t.h):=am r2;have t2:aG h4 ⟨b2,2,none⟩=some (af t.y):=am r2;simp only[go_sem,cP (show fj s t.x t.y t.w t.h from⟨g1,g2,g3,g4,g5,g6,g7,g8⟩),t4,q1,t2];refine(Cb (hq.ext E4) F.wf.y).mono λr h5 ⟨u,e,S,e5⟩=>?_
 subst e;have E5:=E4.trans e5;have a7:pS false 1 0 (.agg #[af (bE s.y t.y).1,u])=some (af (lnF s.y t.y)):=rfl;have t4:aG h5 ⟨b2,4,none⟩=some (af t.h):=am (e5.row r2);simp only[go_sem,a7,t4];obtain⟨H,hH⟩:∃H:Nat,t.h=(H:Int):=⟨t.h.toNat,ae⟩
 have bk:=F.wf.y.len;have al:=F.mono;obtain⟨d,hd⟩:∃d:fK,d=⟨m,s,t⟩:=⟨_,rfl⟩
 have G:d.s=s:=by rw[hd]
 have ad:yM s t m=mm d H t.y (lnF s.y t.y):=by
  unfold yM rV;rw[hd];show mm _ (t.y+t.h-t.y).toNat _ _=_;rw[show(t.y+t.h-t.y).toNat=H by omega]
 have U:∀k y e,lnF s.y y≤e→mm d k y e≤k*1048577:=λk y e he=>HA (by rw[G];exact F.wf.y) k y e (by rw[G];exact he)
 have bo:=U H t.y (lnF s.y t.y) (gC _);rw[hH];refine bH (α:=Int×Int) H 0 (λk a=>[af a.1,af a.2,af (k:Int)])
  (λk a h'=>Ext h h'∧h'[b1]? =some (.cells #[p,q,af s.border] 81 (0,0))∧h'[b2]? =some (.cells (dA t).toArray 116 (0,0))∧0≤a.1∧a.1+mm d (H-k) (t.y+k) (max a.2 (lnF s.y (t.y+k)))-(H-k:Nat)=yM s t m∧(k<H→a.2≤lnE s.y (t.y+k)∧lnF s.y t.y≤a.2)) ((H:Int),lnF s.y t.y) rfl (bZ _)
  ⟨E5,e5.row r1,e5.row r2,by show(0:Int)≤(H:Int);omega,by
   show((H:Int)+(mm d (H-0) (t.y+(0:Nat)) (max (lnF s.y t.y) (lnF s.y (t.y+(0:Nat)))):Int))-_=_;rw[show t.y+((0:Nat):Int)=t.y by omega,show max (lnF s.y t.y) (lnF s.y t.y)=lnF s.y t.y by omega,ad,y9];omega,λ_=>by
   show lnF s.y t.y≤lnE s.y (t.y+(0:Nat))∧_;rw[show t.y+((0:Nat):Int)=t.y by omega];exact⟨by unfold lnE lnF;omega,gC _⟩⟩ λk a h6 again ρ1 _ hk ⟨E6,W,L,a0,I,hL⟩ a8=>?_
 obtain⟨n,A⟩:=a;have a0:0≤n:=a0;have I:n+mm d (H-k) (t.y+k) (max A (lnF s.y (t.y+k)))-(H-k:Nat)=yM s t m:=I;have hL:k<H→A≤lnE s.y (t.y+k)∧lnF s.y t.y≤A:=hL;simp only[go_sem];refine ao (λh7=>?_) (λh7=>?_)
 ·have ab:k<H:=ae;obtain⟨hL,bc⟩:=hL ab;have q1:aG h6 ⟨b1,1,none⟩=some q:=am W;have t2:aG h6 ⟨b2,2,none⟩=some (af t.y):=am L;simp only[go_sem,q1,t2];rw[w64 (n:=t.y+(k:Int)) ae ae];refine(Cb (hq.ext E6) F.wf.y).mono λr h7 ⟨u,e,S,e7⟩=>?_
  subst e;have hl:=qO F.wf.y (t.y+k);refine dk (cs:=[af (bE s.y (t.y+k)).1,u]) rfl (aq rfl (aq S.one aX)) rfl λb8 h8 r8 e8 n8=>?_
  obtain⟨au,cu,eu⟩:=S.isSl;have aw:aD u=some (af ((bE s.y (t.y+k)).2.length:Int)):=by rw[eu];rfl
  have c0:aG h8 ⟨b8,0,none⟩=some (af (bE s.y (t.y+k)).1):=am r8;have c1:aG h8 ⟨b8,1,none⟩=some u:=am r8;simp only[go_sem,aK,c0,c1,aw];have ar:(bE s.y (t.y+k)).1+((bE s.y (t.y+k)).2.length:Int)=lnE s.y (t.y+k):=rfl;have an:(bE s.y (t.y+k)).1=lnF s.y (t.y+k):=rfl;have bd:lnF s.y (t.y+k)≤lnE s.y (t.y+k):=by unfold lnE lnF;omega
  have bg: -70368744177664≤lnE s.y (t.y+k)∧lnE s.y (t.y+k)≤70368745226240:=by unfold lnE;omega
  have aa:=qO F.wf.y t.y;have a9: -70368744177664≤lnF s.y t.y∧lnF s.y t.y≤70368744177664:=⟨aa.2.1,aa.2.2⟩
  have b0: -70368744177664≤lnF s.y (t.y+k):=hl.2.1;rw[w64 (n:=(bE s.y (t.y+k)).1+((bE s.y (t.y+k)).2.length:Int)) ae ae,ar,an];have D:mm d (H-k) (t.y+k) (max A (lnF s.y (t.y+k)))=(lnE s.y (t.y+k)-max A (lnF s.y (t.y+k))).toNat+1+mm d (H-(k+1)) (t.y+(k+1:Nat)) (max (lnE s.y (t.y+k)) (lnF s.y (t.y+(k+1:Nat)))):=by
   rw[show H-k=(H-(k+1))+1 by omega];rw[mm,G,show t.y+(k:Int)+1=t.y+((k+1:Nat):Int)by omega]
  have bv:=U (H-(k+1)) (t.y+(k+1:Nat)) (max (lnE s.y (t.y+k)) (lnF s.y (t.y+(k+1:Nat)))) ae;rw[D]at I;generalize ay:mm d (H-(k+1)) (t.y+(k+1:Nat)) (max (lnE s.y (t.y+k)) (lnF s.y (t.y+(k+1:Nat))))=LL at*;rw[w64 (n:=lnE s.y (t.y+k)-max A (lnF s.y (t.y+k))) ae ae,w64 (n:=n+max 0 (lnE s.y (t.y+k)-max A (lnF s.y (t.y+k)))) ae ae,w64 (n:=(k:Int)+1) ae ae];refine a8 (n+max 0 (lnE s.y (t.y+k)-max A (lnF s.y (t.y+k))),max A (lnE s.y (t.y+k))) h8 ab ⟨E6.trans (e7.trans e8),(e7.trans e8).row W,(e7.trans e8).row L,?_,?_,λbe=>?_⟩
  ·show 0≤n+max 0 (lnE s.y (t.y+k)-max A (lnF s.y (t.y+k)));omega
  ·show n+max 0 (lnE s.y (t.y+k)-max A (lnF s.y (t.y+k)))+(mm d (H-(k+1)) (t.y+(k+1:Nat)) (max (max A (lnE s.y (t.y+k))) (lnF s.y (t.y+(k+1:Nat)))):Int)-_=_;rw[show max A (lnE s.y (t.y+k))=lnE s.y (t.y+k)by omega,ay];omega
  ·have:=al.e (t.y+k) (t.y+(k+1:Nat)) ae ae ae;show max A (lnE s.y (t.y+k))≤lnE s.y (t.y+(k+1:Nat))∧lnF s.y t.y≤max A (lnE s.y (t.y+k));omega
 ·have ax:k=H:=ae;subst ax;refine⟨?_,E6⟩;rw[Rg]at I;have:n=yM s t m:=by unfold mm at I;omega
  rw[this]
end
end Go.Proofs.YtjljhnandbbldaaGreatDoor
namespace Go.Proofs.YtjljhnandbbldaaGreatDoor
open Go Go.Crisp
attribute [local irreducible] ag df aW stK aF vK qK bJ gK eK aZ mkK di Fi GM CF bsK clK ud oA V2
theorem Tu {t:Tbl}{i:Nat}(hi:i<t.lines.length):t.lines[i]=bE t (i:Int):=by
 unfold bE;rw[aA ae];simp[dQ,hi]
def zcj (m:Pic)(s:Stg)(i:Nat):Int:=xp m s ((i/m.c.toNat%s.x.lines.length:Nat):Int) ((i/m.c.toNat/s.x.lines.length:Nat):Int) ((i%m.c.toNat:Nat):Int)
def Ce (m:Pic)(s:Stg):Pic:=⟨s.x.lines.length,s.y.lines.length,m.c,m.most,(List.range (s.y.lines.length*s.x.lines.length*m.c.toNat)).map λi:Nat=>zcj m s i⟩
theorem zaP {m:Pic}{s:Stg}{x y c:Nat}(A:x<s.x.lines.length)(hc:c<m.c.toNat):zcj m s ((y*s.x.lines.length+x)*m.c.toNat+c)=xp m s x y c:=by
 unfold zcj;have G:((y*s.x.lines.length+x)*m.c.toNat+c)/m.c.toNat=y*s.x.lines.length+x:=by
  rw[eO,Rf ae,sO hc,iE]
 have D:((y*s.x.lines.length+x)*m.c.toNat+c)%m.c.toNat=c:=by
  rw[eO,KI,vy hc]
 rw[G,D];have H:(y*s.x.lines.length+x)%s.x.lines.length=x:=by rw[eO,KI,vy A]
 have F:(y*s.x.lines.length+x)/s.x.lines.length=y:=by rw[eO,Rf ae,sO A,iE]
 rw[H,F]
theorem Yv {m:Pic}{s:Stg}{x y c:Int}(hi:inP (Ce m s) x y c):atP (Ce m s) x y c=xp m s x y c:=by
 unfold atP;rw[aA hi];obtain⟨x0,A,y0,y1,H,D⟩:=hi;have A:x<s.x.lines.length:=A;have y1:y<s.y.lines.length:=y1;have D:c<m.c:=D;obtain⟨a,rfl⟩:∃a:Nat,x=a:=⟨x.toNat,ae⟩
 obtain⟨b,rfl⟩:∃b:Nat,y=b:=⟨y.toNat,ae⟩
 obtain⟨e,rfl⟩:∃e:Nat,c=e:=⟨c.toNat,ae⟩
 have G:(pC (Ce m s) a b e).toNat=(b*s.x.lines.length+a)*m.c.toNat+e:=by
  show(((b:Int)*(s.x.lines.length:Int)+a)*m.c+e).toNat=_;have:((((b*s.x.lines.length+a)*m.c.toNat+e:Nat)):Int)=((b:Int)*(s.x.lines.length:Int)+a)*m.c+e:=by
   rw[KG,lV,KG,lV,wT ae]
  omega
 rw[G];have h1:b*s.x.lines.length+a<s.y.lines.length*s.x.lines.length:=by
  have:(b+1)*s.x.lines.length≤s.y.lines.length*s.x.lines.length:=ic _ ae;rw[ef,sN]at this;omega
 have F:(b*s.x.lines.length+a)*m.c.toNat+e<s.y.lines.length*s.x.lines.length*m.c.toNat:=by
  have:(b*s.x.lines.length+a+1)*m.c.toNat≤s.y.lines.length*s.x.lines.length*m.c.toNat:=ic _ ae;rw[ef,sN]at this;omega
 show((List.range _).map _).getD _ 0=_;rw[dQ,w6,Wa F];exact zaP ae ae
end Go.Proofs.YtjljhnandbbldaaGreatDoor
namespace Go.Crisp
open Go
def nH (w:Nat)(h:ah)(v:Value)(n:Nat)(cs:List Value):Prop:=
 (v=.slice none 0 0∧n=0∧cs=[])∨∃b cap p r e,v=.slice (some ⟨b,p.length,none⟩) n cap∧n≤cap∧cs.length=n*w∧(cs++r).length=cap*w∧h[b]? =some (.cells (p++(cs++r)).toArray e (0,0))
theorem nH.nil {w:Nat}{h:ah}:nH w h (.slice none 0 0) 0 []:=.inl ⟨rfl,rfl,rfl⟩
theorem Own.o {w:Nat}{h:ah}{v:Value}{n:Nat}{cs:List Value}(H:Own w h v n cs):nH w h v n cs:=by
 rcases H with H|⟨b,cap,r,e,rfl,h1,A,D,F⟩
 ·exact .inl H
 ·exact .inr ⟨b,cap,[],r,e,rfl,h1,A,D,F⟩
theorem nH.fr {w:Nat}{M:Nat→Prop}{h h':ah}{v:Value}{n:Nat}{cs:List Value}(H:nH w h v n cs)(f:Fr M h h')(D:∀b,blk v b→¬M b):nH w h' v n cs:=by
 rcases H with⟨rfl,rfl,rfl⟩|⟨b,cap,p,r,e,rfl,hc,A,G,F⟩
 ·exact .inl ⟨rfl,rfl,rfl⟩
 ·exact .inr ⟨b,cap,p,r,e,rfl,hc,A,G,f.row F (D b rfl)⟩
theorem nH.ext {w:Nat}{h h':ah}{v:Value}{n:Nat}{cs:List Value}(H:nH w h v n cs)(f:Ext h h'):nH w h' v n cs:=H.fr (M:=λ_=>False) f.fr λ_ _=>id
theorem nH.lt {w:Nat}{h:ah}{v:Value}{n:Nat}{cs:List Value}(H:nH w h v n cs){b:Nat}(A:blk v b):b<h.size:=by
 rcases H with⟨rfl,rfl,rfl⟩|⟨D,cap,p,r,e,rfl,hc,F,G,h'⟩
 ·cases A
 ·rw[show b=D from A];exact(lY.1 h').1
theorem nH.sl {w:Nat}{h:ah}{v:Value}{n:Nat}{cs:List Value}(H:nH w h v n cs):SlC w h v n cs:=by
 rcases H with⟨rfl,rfl,rfl⟩|⟨b,cap,p,r,e,rfl,hc,D,_,F⟩
 ·exact⟨by simp,none,0,rfl,.inl rfl⟩
 ·refine⟨D,_,cap,rfl,.inr ⟨b,p.length,rfl,λj A=>?_⟩⟩;rw[am F];simp only[y4];rw[ue (Nat.le_add_right _ _),Wc,uk A];simp[A]
theorem zau (ds p cs r:List Value)(h:ds.length≤r.length):wrL (p++(cs++r)).toArray (p.length+cs.length) ds=(p++(cs++ds++r.drop ds.length)).toArray:=by
 have:=FA ds (p++cs) r h;rw[ck]at this;rw[←cf,this];simp
theorem Yw {z:Value}{e:TypeId}{w bytes n m:Nat}{s x:Value}{h:ah}{cs ds:List Value}{K:Value→ah→Prop}
  (hs:nH w h s n cs) (hx:SlC w h x m ds) (ho:∀v∈ds,aQ v=true) (hz:z.cells.size=w) (W:(n+m)*bytes≤140737488355328) (hn:n+m≤9223372036854775807)
  (H:∀L h',nH w h' L (n+m) (cs++ds)→Fr (blk s) h h'→(∀b,blk L b→blk s b∨h.size≤b)→K L h'):di z e w bytes s x h K:=by
 rcases hs with⟨rfl,rfl,rfl⟩|⟨b,cap,p,r,e0,rfl,hc,I,hr,G⟩
 ·exact vJ (.inl ⟨rfl,rfl,rfl⟩) hx ho hz W hn λL h' o=>H L h' o.o
 ·have F:SlC w h (.slice (some ⟨b,p.length,none⟩) n cap) n cs:=nH.sl (.inr ⟨b,cap,p,r,e0,rfl,hc,I,hr,G⟩);have F:=F.loads;have U:=hx.loads;obtain⟨D,a',ad,rfl,al⟩:=hx;unfold di;simp only[OT];split
  ·rename_i h0;rw[U];have ab:ds.length≤r.length:=by
    rw[ck]at hr;rw[D];have:(n+m)*w≤cap*w:=ic w h0;rw[ef]at this;omega
   have aa:=mP (o:=p.length+n*w) ds 0 h _ G (by simp;omega) ho;simp only[mG,aa];rw[iE,←I,zau ds p cs r ab];refine H _ _ (.inr ⟨b,cap,p,r.drop ds.length,e0,rfl,h0,?_,?_,mC G⟩) (Upd.set.fr) (λk hk=>.inl hk)
   ·simp[I,D,ef]
   ·rw[←hr];simp;omega
  ·rename_i h0;rw[F,U];refine⟨by simp only[IntKind.max];simp only[IntKind.signed,IntKind.bits];omega,bh (RL ae W) (by decide),λA h1 h2=>?_⟩;refine H _ _ (.inr ⟨h.size,A,[],(Builtin.zeroCells z.cells (A-(n+m))).toList,e,rfl,h1,?_,?_,?_⟩) (Ext.push h _).fr (λb W=>.inr (by rw[show b=h.size from W];exact bU _))
   ·simp[I,D,ef]
   ·simp[I,D,Qf,hz];rw[←ef,←ef];congr 1;omega
   ·rw[rJ];simp
theorem nH.tail {w:Nat}{h:ah}{v x:Value}{n:Nat}{cs ds:List Value}(H:nH w h v (n+1) (ds++cs))(hd:ds.length=w)(U:0<n){k:IntKind}:
  ∃D,xj w v (some (.int k 1)) none=some D∧nH w h D n cs∧∀b,blk D b→blk v b:=by
 rcases H with⟨_,h0,_⟩|⟨b,cap,p,r,e,rfl,hc,G,F,I⟩
 ·cases h0
 ·have A:¬cap=1:=ae;refine⟨.slice (some ⟨b,p.length+w,none⟩) n (cap-1),?_,.inr ⟨b,cap-1,p++ds,r,e,by rw[ck,hd],ae,?_,?_,?_⟩,λc hc=>hc⟩
  ·have L:bdV (some (Value.int k 1)) 0 (n+1)=some 1:=C9 k 1 0 (n+1) ae;simp only[xj,bdV,L,az A,cI,mG,sN,zh];rw[aA ae];simp[A]
  ·rw[ck,hd,ef,sN]at G;omega
  ·simp only[ck]at F ⊢;rw[hd]at F;have:cap*w=(cap-1)*w+w:=by rw[←CQ];congr 1;omega
   omega
  ·rw[I];simp
def OwO (k:IntKind)(h:ah)(v:Value)(l:List Int):Prop:=nH 1 h v l.length (l.map λx=>Value.int k x)
theorem OwO.nil {k:IntKind}{h:ah}:OwO k h (.slice none 0 0) []:=nH.nil
theorem OwO.sl {k:IntKind}{h:ah}{v:Value}{l:List Int}(H:OwO k h v l):Rp.Sl (Rp.int k) (blk v) h v l:=by
 have s:=nH.sl H;refine⟨_,s,λ_ b A=>A,λi hi=>?_⟩;show Rp.el 1 (l.map λx=>Value.int k x) i=[Value.int k l[i]];rw[Rp.el_one (by simpa using hi)];simp
theorem OwO.push {k:IntKind}{z F:Value}{t t':TypeId}{bytes:Nat}{s:Value}{h:ah}{l:List Int}{x:Int}{K:Value→ah→Prop}(U:OwO k h s l)(hz:z.cells.size=1)
  (W:(l.length+1)*bytes≤140737488355328) (hn:l.length+1≤9223372036854775807)
  (H:∀A h',OwO k h' A (l++[x])→Fr (blk s) h h'→(∀b,blk A b→blk s b∨h.size≤b)→K A h'):df #[F] t 1 [(0,1,.int k x)] h λI G=>di z t' 1 bytes s I G K:=by
 refine da (Rp.fill_one rfl) λb h1 r1 D n1=>?_
 refine Yw (nH.ext U D) (Rp.SlC.single (cs:=[.int k x]) r1) (aq (a:=Value.int k x) rfl aX) hz W hn λA h' o' f' n'=>H A h' ?_ (D.fr.trans f') λc hc=>(n' c hc).imp id λL=>bh D.1 L
 unfold OwO;rw[ck,iD];exact o'
theorem OwO.tail {k k':IntKind}{h:ah}{v:Value}{x:Int}{l:List Int}(H:OwO k h v (x::l))(D:0<l.length):
  ∃A,xj 1 v (some (.int k' 1)) none=some A∧OwO k h A l∧∀b,blk A b→blk v b:=
 nH.tail (x:=v) (ds:=[.int k x]) H rfl D
end Go.Crisp
namespace Go.Proofs.YtjljhnandbbldaaGreatDoor
open Go Go.Crisp
attribute [local irreducible] ag df aW stK aF vK qK bJ gK eK aZ mkK di Fi GM CF bsK clK ud oA V2
open _root_.Go.Proofs.Tryz
def tK (e E:Int):List (Int×Int):=(List.range (E-e).toNat).map λi:Nat=>((1:Int),e+(i:Int))
def lT (d:fK):Nat→Int→Int→List (Int×Int)
 |0,_,_=>[]
 |k+1,y,e=>tK e (lnE d.s.y y)++(2,y)::lT d k (y+1) (max (lnE d.s.y y) (lnF d.s.y (y+1)))
def Q0 (d:fK)(y e:Int):List (Int×Int):=lT d (d.t.y+d.t.h-y).toNat y e
theorem UF {e E:Int}(h:E≤e):tK e E=[]:=by
 unfold tK;rw[show(E-e).toNat=0 by omega];rfl
theorem UE {e E:Int}(h:e≤E):tK e (E+1)=tK e E++[(1,E)]:=by
 unfold tK;rw[show(E+1-e).toNat=(E-e).toNat+1 by omega,lU,iD]
 congr 1
 show[((1:Int),e+((E-e).toNat:Int))]=[(1,E)];rw[show e+((E-e).toNat:Int)=E by omega]
theorem Iu {e E:Int}:(tK e E).length=(E-e).toNat:=by unfold tK;rw[cV,fg]
theorem Mz (d:fK):∀(k:Nat) (y e:Int),(lT d k y e).length=mm d k y e
 |0,_,_=>rfl
 |k+1,y,e=>by
  unfold lT mm;rw[ck,oD,Iu,Mz d k];omega
def Av:Rp (Int×Int) where
 w:=2
 R:=λ_ _ cs x=>cs=[.int .i64 x.1,.int .i64 x.2]
 len:=by rintro _ _ _ _ rfl;rfl
 one:=by rintro _ _ _ _ rfl;exact aq rfl (aq rfl aX)
 fr:=by rintro _ _ _ _ _ _ h _ _;exact h
 mono:=by rintro _ _ _ _ _ h _;exact h
theorem New.push2 {z:Value}{c:Array Value}{t U:TypeId}{bytes:Nat}{h h1:ah}{v:Value}{l:List (Int×Int)}{a b:Int}{K:Value→ah→Prop}(H:New Av h h1 v l)(hc:c.size=2)(W:z.cells.size=2)(A:(l.length+1)*bytes≤140737488355328)(hn:l.length+1≤9223372036854775807)
  (G:∀D h',New Av h h' D (l++[(a,b)])→Fr (blk v) h1 h'→(∀b,blk D b→blk v b∨h1.size≤b)→K D h'):df c t 1 [(0,2,.agg #[af a,af b])] h1 λL I=>di z U 2 bytes v L I K:=by
 refine Rp.push_ow (e:=Av) (cs:=[af a,af b]) (x:=(a,b)) H.1 rfl hc W A hn (λb A=>A.elim) λD h' o' F n'=>G D h' ⟨o',H.2.1.then_fr F H.2.2,λb A=>?_⟩ F n'
 rcases n' b A with h1|h1
 ·exact H.2.2 b h1
 ·exact bh H.2.1.1 h1
theorem zbr {h:ah}{Z:Nat→Prop}{v:Value}{l:List Int}{j:Int}(H:Rp.Sl (Rp.int .i64) Z h v l)(hl:l.length≤4611686018427387904):ag prog Fx #[v,af j] h λr h'=>r=.bool (decide (j∈l))∧h'=h:=by
 apply Tf;unfold Js;obtain⟨a,c,e⟩:=H.isSl;have U:aD v=some (af (l.length:Int)):=by rw[e];rfl
 rw[U,aj];refine bH (α:=Unit) l.length 0 (λk _=>[af (k:Int)]) (λk _ h'=>h'=h∧∀x∈l.take k,x≠j) () rfl (bZ _) ⟨rfl,by simp⟩ λk _ h1 again ρ1 _ hk ⟨w,I⟩ F=>?_
 subst w;simp only[go_sem];refine ao (λh0=>?_) (λh0=>?_)
 ·have A:k<l.length:=ae;obtain⟨p,q1,W⟩:=H.int_at (k':=.i64) A;simp only[go_sem,q1,W];refine ao (λG=>?_) (λG=>?_)
  ·refine⟨?_,trivial⟩;rw[cP];rw[←G];exact cQ A
  ·rw[w64 ae ae];refine F () h1 A ⟨rfl,λx D=>?_⟩;rw[ju A]at D;rcases gS.1 D with D|D
   ·exact I x D
   ·rw[ib.1 D];exact G
 ·have:k=l.length:=ae;subst this;refine⟨?_,trivial⟩;rw[cB];intro L;rw[GS]at I;exact I j L rfl
structure pV (l:List Int)(F e:Int)(most:Nat):Prop where
 up:l.Pairwise (· < ·)
 inn:∀j,F≤j→j<e→j∈l
 lt:∀x∈l,x<e
 len:l.length≤most
theorem pV.start (F:Int)(most:Nat):pV [] F F most:=⟨List.Pairwise.nil,λj a b=>ae,by simp,by simp⟩
theorem pV.move {l:List Int}{F e A:Int}{most:Nat}(H:pV l F e most)(G:F≤A):pV l A (max e A) most:=
 ⟨H.up,λj a b=>H.inn j ae ae,λx D=>by have:=H.lt x D;omega,H.len⟩
theorem pV.nodup {l:List Int}(h:l.Pairwise (· < ·)):l.Nodup:=h.imp λa=>ae
theorem pV.push {l:List Int}{F e:Int}{most:Nat}(H:pV l F e most):(l++[e]).Pairwise (· < ·)∧(∀j,F≤j→j<e+1→j∈l++[e])∧(∀x∈l++[e],x<e+1):=by
 refine⟨?_,λj a b=>?_,λx I=>?_⟩
 ·rw[qP];exact⟨H.up,by simp,λa A b D=>by rw[ib.1 D];exact H.lt a A⟩
 ·by_cases G:j<e
  ·exact KH _ (H.inn j a G)
  ·rw[show j=e by omega];simp
 ·rcases gS.1 I with h|h
  ·have:=H.lt x h;omega
  ·rw[ib.1 h];omega
theorem pV.next {l:List Int}{F e E:Int}{most:Nat}(H:pV l F e most)(he:F≤e)(hE:e<E)(hm:E-F≤most):(l.length+1≤most∧pV (l++[e]) F (e+1) most)∨(∃x t,l++[e]=x::t∧most<l.length+1∧0<t.length∧pV t F (e+1) most):=by
 obtain⟨I,U,L⟩:=H.push;by_cases h1:l.length+1≤most
 ·exact .inl ⟨h1,I,U,L,by simpa using h1⟩
 ·cases l with
  |nil=>simp at h1;omega
  | cons x l=>
   have W:=H.len;refine .inr ⟨x,l++[e],rfl,ae,by simp,?_⟩;have hx:x<F:=by
    rcases mU x F with h|h
    ·exact h
    ·have D:∀z∈x::l,F≤z∧z<e:=λz A=>by
      refine⟨?_,H.lt z A⟩;rcases kq.1 A with rfl|A
      ·exact h
      ·have:=(Rw.1 H.up).1 z A;omega
     have:=nodup_range (pV.nodup H.up) D;omega
   have G:(x::(l++[e])).Pairwise (· < ·):=I;refine⟨(Rw.1 G).2,λj a b=>?_,λz A=>L z (xx _ A),by simp at W ⊢;omega⟩;have:=U j a b;rcases kq.1 (show j∈x::(l++[e])from this)with h|h
   ·omega
   ·exact h
theorem Vs {h:ah}{Z:Nat→Prop}{ds:List Value}{s:Stg}{m:Pic}{t:cZ}(K:xm.R Z h ds s)(OK:Cf s)(hy:0≤t.y)(hh:1≤t.h)(eh:t.y+t.h≤s.y.lines.length):
  ag prog xD #[.agg ds.toArray,af t.y,af t.h] h λr h'=>New Av h h' r (Q0 ⟨m,s,t⟩ t.y (lnF s.y t.y)):=by
 apply LX;unfold AO;obtain⟨X,Y,rfl,HX,HY⟩:=K;have WS:=OK.wf;have ek:=WS.y.len;simp only[bO];refine aI λb1 h1 r1 e1 n1=>?_
 have k1:aG h1 ⟨b1,1,none⟩=some Y:=am r1;obtain⟨aY,cY,eY⟩:=HY.isSl;have dl:aD Y=some (af (s.y.lines.length:Int)):=by rw[eY];rfl
 simp only[go_sem,aK,k1,dl]
 -- a line, read into a variable
 have rd:∀{I:ah} {i:Nat} (hi:i<s.y.lines.length),Ext h I→∀{Kp:Value→ah→Prop},(∀b h3 u,h3[b]? =some (.cells #[af (bE s.y i).1,u] 240 (0,0))→Ext I h3→I.size≤b→aD u=some (af ((bE s.y i).2.length:Int))→Kp (ptr b) h3)→
   vK (bu 2 Y (af (i:Int))) λeb=>vK (aO 2 I eb) λdz=>aW #[ai,(.slice none 0 0)] 240 I λbk c2=>stK 2 bk dz c2 λep ca=>Kp bk ca:=by
  intro I i hi E Kp HK;obtain⟨p,cs,q1,q2,Rr⟩:=Rp.Sl.atw (e:=mh) (HY.ext E) (show 0<2 by omega) (k:=.i64) hi;rw[Tu hi]at Rr;obtain⟨u,rfl,Su⟩:=Rr;have q1:bu 2 Y (af (i:Int))=some p:=q1;have q2:aO 2 I p=some (.agg #[af (bE s.y i).1,u]):=q2;rw[q1,aj,q2,aj];obtain⟨au,cu,eu⟩:=Su.isSl;exact dk (cs:=[af (bE s.y i).1,u]) rfl (aq rfl (aq Su.one aX)) rfl λb h3 r3 e3 n3=>HK b h3 u r3 e3 n3 (by rw[eu];rfl)
 -- the most taps of a line
 have bc:∀k,k<s.y.lines.length→cD (s.y.lines.take (k+1))=max (cD (s.y.lines.take k)) ((bE s.y k).2.length:Int):=λk hk=>by
  rw[ju hk,EW,Tu hk]
 have ci:=OK.most;have c8:=V6 s.y.lines;have eg:∀k,0≤cD (s.y.lines.take k)∧cD (s.y.lines.take k)≤cD s.y.lines:=λk=>⟨V6 _,EV c8 λx hx=>(KE s.y.lines 0).2 x (CP hx)⟩
 refine bH (α:=Unit) s.y.lines.length 0 (λk _=>[af (cD (s.y.lines.take k)),af (k:Int)]) (λk _ h'=>Ext h1 h') () rfl (bZ _) (Ext.refl _) λk _ I again ρ1 _ hk E2 ar=>?_
 have ax:=e1.trans E2;simp only[go_sem];refine ao (λg1=>?_) (λg1=>?_)
 ·have ad:k<s.y.lines.length:=ae;refine rd ad ax λb3 h3 u r3 e3 n3 an=>?_
  have c1:aG h3 ⟨b3,1,none⟩=some u:=am r3;have bo:=bc k ad;simp only[go_sem,aK,c1,an];refine ao (λg2=>?_) (λg2=>?_)
  ·try simp only[go_sem,aK,c1,an]
   rw[w64 ae ae];have:=ar () h3 ad (E2.trans e3);rw[bo,show max (cD (s.y.lines.take k)) ((bE s.y k).2.length:Int)=((bE s.y k).2.length:Int)by omega]at this;exact this
  ·rw[w64 ae ae];have:=ar () h3 ad (E2.trans e3);rw[bo,show max (cD (s.y.lines.take k)) ((bE s.y k).2.length:Int)=cD (s.y.lines.take k)by omega]at this;exact this
 have c9:k=s.y.lines.length:=ae;subst c9;rw[GS]
 clear ar
 obtain⟨most,c3⟩:∃n:Nat,cD s.y.lines=(n:Int):=⟨(cD s.y.lines).toNat,ae⟩
 rw[c3];obtain⟨d,hd⟩:∃d:fK,d=⟨m,s,t⟩:=⟨_,rfl⟩
 have bd:d.s=s:=by rw[hd]
 rw[←hd];obtain⟨H,hH⟩:∃H:Nat,t.h=(H:Int):=⟨t.h.toNat,ae⟩
 obtain⟨y0,bv⟩:∃y0:Nat,t.y=(y0:Int):=⟨t.y.toNat,ae⟩
 have b6:Q0 d t.y (lnF s.y t.y)=lT d H y0 (lnF s.y y0):=by
  unfold Q0;have:d.t=t:=by rw[hd]
  rw[this,bv,show((y0:Int)+t.h-(y0:Int)).toNat=H by omega]
 rw[b6,hH,bv];have be:∀k y e,lnF s.y y≤e→(lT d k y e).length≤k*1048577:=λk y e he=>by
  rw[Mz];exact HA (by rw[bd];exact WS.y) k y e (by rw[bd];exact he)
 have ey:=be H y0 (lnF s.y y0) (gC _);have a9:=OK.mono
 -- line by line
 refine bH (α:=Value×Value×List (Int×Int)×List Int×Int) H 0 (λk a=>[a.1,a.2.1,af (k:Int)])
  (λk a h'=>New Av h h' a.1 a.2.2.1∧OwO .i64 h' a.2.1 a.2.2.2.1∧(∀b,blk a.2.1 b→I.size≤b)∧(∀b,blk a.1 b→I.size≤b∧¬blk a.2.1 b)∧Ext I h'∧(k<H→pV a.2.2.2.1 (lnF s.y (y0+k:Nat)) a.2.2.2.2 most∧lnF s.y (y0+k:Nat)≤a.2.2.2.2∧a.2.2.2.2≤lnE s.y (y0+k:Nat))∧
   a.2.2.1++lT d (H-k) ((y0+k:Nat):Int) a.2.2.2.2=lT d H y0 (lnF s.y y0))
  (.slice none 0 0,.slice none 0 0,[],[],lnF s.y y0) rfl (bZ _)
  ⟨New.nil ax,OwO.nil,λb A=>A.elim,λb A=>A.elim,Ext.refl _,λ_=>⟨pV.start _ _,gC _,by unfold lnE lnF;show(bE s.y ((y0+0:Nat):Int)).1≤_;omega⟩,rfl⟩ λk a h3 again ρ2 _ hk ⟨N3,O3,b3,a3,E3,H3,M3⟩ ar=>?_
 obtain⟨ov,U,out,held,e⟩:=a;have N3:New Av h h3 ov out:=N3;have O3:OwO .i64 h3 U held:=O3;have b3:∀b,blk U b→I.size≤b:=b3;have a3:∀b,blk ov b→I.size≤b∧¬blk U b:=a3;have H3:k<H→pV held (lnF s.y (y0+k:Nat)) e most∧lnF s.y (y0+k:Nat)≤e∧e≤lnE s.y (y0+k:Nat):=H3;have M3:out++lT d (H-k) ((y0+k:Nat):Int) e=lT d H y0 (lnF s.y y0):=M3;simp only[go_sem];refine ao (λg1=>?_) (λg1=>?_)
 ·have ad:k<H:=ae;obtain⟨HL,ej,ei⟩:=H3 ad;have k1:aG h3 ⟨b1,1,none⟩=some Y:=am (E3.row (E2.row r1));simp only[go_sem,aK,k1];rw[w64 (n:=(y0:Int)+(k:Int)) ae ae,show(y0:Int)+(k:Int)=((y0+k:Nat):Int)by omega];refine rd ae (ax.trans E3) λb4 h4 u r4 e4 n4 an=>?_
  have c1:aG h4 ⟨b4,1,none⟩=some u:=am r4;simp only[go_sem,aK,c1,an];have hl:=qO WS.y ((y0+k:Nat):Int);have cb:=a9.m ((y0+k:Nat):Int);have bg:k+1<H→lnF s.y ((y0+k:Nat):Int)≤lnF s.y ((y0+(k+1):Nat):Int)∧lnE s.y ((y0+k:Nat):Int)≤lnE s.y ((y0+(k+1):Nat):Int):=λh=>⟨a9.f _ _ ae ae ae,a9.e _ _ ae ae ae⟩
  have ea:lT d (H-k) ((y0+k:Nat):Int) e=tK e (lnE s.y ((y0+k:Nat):Int))++(2,((y0+k:Nat):Int))::lT d (H-(k+1)) ((y0+(k+1):Nat):Int) (max (lnE s.y ((y0+k:Nat):Int)) (lnF s.y ((y0+(k+1):Nat):Int))):=by
   rw[show H-k=(H-(k+1))+1 by omega];rw[lT,bd,show((y0+k:Nat):Int)+1=((y0+(k+1):Nat):Int)by omega]
  rw[ea]at M3;have ec:(lT d H y0 (lnF s.y y0)).length≤68719542272:=ae;generalize ew:((y0+k:Nat):Int)=W at*;have dq:lnE s.y W=lnF s.y W+((bE s.y W).2.length:Int):=rfl;have er:(bE s.y W).1=lnF s.y W:=rfl;have et: -70368744177664≤lnF s.y W∧lnF s.y W≤70368744177664:=hl.2;obtain⟨L,hL⟩:∃L:Nat,(bE s.y W).2.length=L:=⟨_,rfl⟩
  rw[hL]at dq an cb hl;rw[hL];have c6:h4[b4]? =some (.cells #[af (lnF s.y W),u] 240 (0,0)):=r4;generalize lnF s.y W=F at*
  -- the rows that the line lacks
  refine bH (α:=Value×Value×List Int×Int) L 0 (λi a=>[a.1,a.2.1,af (i:Int)])
   (λi a h'=>New Av h h' a.1 (out++tK e a.2.2.2)∧OwO .i64 h' a.2.1 a.2.2.1∧(∀b,blk a.2.1 b→I.size≤b∧b≠b4)∧(∀b,blk a.1 b→I.size≤b∧b≠b4∧¬blk a.2.1 b)∧Ext I h'∧h'[b4]? =some (.cells #[af F,u] 240 (0,0))∧b4<h'.size∧pV a.2.2.1 F a.2.2.2 most∧a.2.2.2=max e (F+i))
   (ov,U,held,e) rfl (bZ _)
   ⟨by show New Av h h4 ov (out++tK e e);rw[UF (gC _),gR];exact N3.ext e4,nH.ext O3 e4,λb A=>⟨b3 b A,λhe=>by have:=nH.lt O3 A;omega⟩,λb A=>⟨(a3 b A).1,λhe=>by have:=N3.lt A;omega,(a3 b A).2⟩,E3.trans e4,c6,bB r4,HL,by show e=max e (F+((0:Nat):Int));omega⟩
   λi a h5 b0 ρ3 _ hi ⟨N5,O5,b5,a5,E5,r5,l5,H5,m5⟩ al=>?_
  obtain⟨ay,aa,D,G⟩:=a;have N5:New Av h h5 ay (out++tK e G):=N5;have O5:OwO .i64 h5 aa D:=O5;have b5:∀b,blk aa b→I.size≤b∧b≠b4:=b5;have a5:∀b,blk ay b→I.size≤b∧b≠b4∧¬blk aa b:=a5;have H5:pV D F G most:=H5;have m5:G=max e (F+i):=m5;have cp:(out++tK e G).length+1≤68719542273:=by
   have:=congrArg List.length M3;rw[ck,ck,Iu]at this;rw[ck,Iu];omega
  simp only[go_sem];refine ao (λg2=>?_) (λg2=>?_)
  ·have a8:i<L:=ae;have c0:aG h5 ⟨b4,0,none⟩=some (af F):=am r5;simp only[go_sem,aK,c0];rw[w64 (n:=F+(i:Int)) ae ae];refine ag.at (zbr O5.sl (by have:=H5.len;omega)) ?_;refine ao (λg3=>?_) (λg3=>?_)
   ·have:=H5.lt _ g3;rw[w64 ae ae];refine al (ay,aa,D,G) h5 a8 ⟨N5,O5,b5,a5,E5,r5,l5,H5,?_⟩;show G=max e (F+((i+1:Nat):Int));omega
   ·have cr:G=F+i:=by
     rcases mU (F+(i:Int)) G with h|h
     ·exact absurd (H5.inn _ ae h) g3
     ·omega
    rw[←cr];rw[show aM #[ai,ai] [(0,1,aH),(1,1,af G)]=some #[aH,af G]from zD rfl rfl,bG,aj];have es:G<lnE s.y W:=ae;refine New.push2 (a:=1) (b:=G) N5 rfl rfl ae ae λab h6 N6 f6 n6=>?_
    have O6:OwO .i64 h6 aa D:=nH.fr O5 f6 λb A U=>(a5 b U).2.2 A
    have r6:=f6.row r5 λU=>(a5 _ U).2.1 rfl
    have ee:=f6.1;have v6:∀b,blk ab b→I.size≤b∧b≠b4∧¬blk aa b:=λb A=>by
     rcases n6 b A with h|h
     ·exact a5 b h
     ·have hs:=E5.1;exact⟨ae,ae,λU=>by have:=nH.lt O5 U;omega⟩
    have E6:Ext I h6:=E5.then_fr f6 λb A=>(a5 b A).1
    refine OwO.push (x:=G) O6 rfl (by have:=H5.len;omega) (by have:=H5.len;omega) λaw h7 O7 f7 n7=>?_
    have N7:New Av h h7 ab (out++tK e (G+1)):=by
     rw[UE ae,←cf];exact N6.fr f7 (λb A=>bh ax.1 (b5 b A).1) λb A U=>(v6 b A).2.2 U
    have r7:=f7.row r6 λU=>(b5 _ U).2 rfl
    have E7:Ext I h7:=E6.then_fr f7 λb A=>(b5 b A).1
    have l7:=bB r7;have b7:∀b,blk aw b→I.size≤b∧b≠b4:=λb A=>by
     rcases n7 b A with h|h
     ·exact b5 b h
     ·have hs:=E6.1;have:=bB r6;exact⟨ae,ae⟩
    have v7:∀b,blk ab b→I.size≤b∧b≠b4∧¬blk aw b:=λb A=>by
     refine⟨(v6 b A).1,(v6 b A).2.1,λU=>?_⟩;rcases n7 b U with h|h
     ·exact(v6 b A).2.2 h
     ·have:=N6.lt A;omega
    obtain⟨a7,c7,e7⟩:=O7.sl.isSl;have b8:aD aw=some (af ((D.length+1:Nat):Int)):=by rw[e7,ck];rfl
    simp only[go_sem,b8];rcases H5.next (E:=lnE s.y W) ae ae ae with⟨q1,q2⟩|⟨x,tl,q1,q2,q3,q4⟩
    ·rw[cB ae];simp only[go_sem];rw[w64 ae ae];refine al (ab,aw,D++[G],G+1) h7 a8 ⟨N7,O7,b7,v7,E7,r7,l7,q2,?_⟩;show G+1=max e (F+((i+1:Nat):Int));omega
    ·rw[cP ae];simp only[go_sem];rw[q1]at O7;obtain⟨b2,s8,O8,n8⟩:=O7.tail (k':=.i64) q3;rw[s8,aj,w64 ae ae];refine al (ab,b2,tl,G+1) h7 a8 ⟨N7,O8,λb A=>b7 b (n8 b A),λb A=>⟨(v7 b A).1,(v7 b A).2.1,λU=>(v7 b A).2.2 (n8 b U)⟩,E7,r7,l7,q4,?_⟩;show G+1=max e (F+((i+1:Nat):Int));omega
  ·have cw:i=L:=ae;subst cw;have ct:G=lnE s.y W:=ae;rw[show aM #[ai,ai] [(0,1,(af 2)),(1,1,af W)]=some #[af 2,af W]from zD rfl rfl,bG,aj];refine New.push2 (a:=2) (b:=W) N5 rfl rfl ae ae λab h6 N6 f6 n6=>?_
   try simp only[go_sem]
   rw[w64 ae ae];have E6:Ext I h6:=E5.then_fr f6 λb A=>(a5 b A).1
   refine ar (ab,aa,out++tK e G++[(2,W)],D,max G (lnF s.y ((y0+(k+1):Nat):Int))) h6 ad ⟨N6,nH.fr O5 f6 λb A U=>(a5 b U).2.2 A,λb A=>(b5 b A).1,λb A=>?_,E6,λcc=>?_,?_⟩
   ·rcases n6 b A with h|h
    ·exact⟨(a5 b h).1,(a5 b h).2.2⟩
    ·have hs:=E5.1;exact⟨ae,λU=>by have:=nH.lt O5 U;omega⟩
   ·obtain⟨g5,g6⟩:=bg cc;refine⟨H5.move g5,by show _≤max G _;omega,?_⟩;show max G _≤_;have:lnF s.y ((y0+(k+1):Nat):Int)≤lnE s.y ((y0+(k+1):Nat):Int):=by unfold lnE lnF;omega
    omega
   ·show(out++tK e G++[(2,W)])++lT d (H-(k+1)) ((y0+(k+1):Nat):Int) (max G (lnF s.y ((y0+(k+1):Nat):Int)))=_;rw[ct];rw[←M3];simp
 ·have c4:k=H:=ae;subst c4;rw[Rg]at M3;have M3:out++[]=lT d k y0 (lnF s.y y0):=M3;rw[gR]at M3;rw[←M3];exact N3
theorem V5 (a b c d:Int):ak (.st [(0,1,.i),(1,1,.i)]) .eql (BK a b) (BK c d)=some (.bool (decide (a=c∧b=d))):=by
 have F:(a==c)=decide (a=c):=rfl;have D:(b==d)=decide (b=d):=rfl;simp only[ak,eqV,Gj,Lz,LA,xz,y4,CY,BL,cJ,F,D];by_cases h:a=c<;>by_cases A:b=d<;>simp[h,A]
theorem zaW (a b c d:Int):ak (.st [(0,1,.i),(1,1,.i)]) .neq (BK a b) (BK c d)=some (.bool (!decide (a=c∧b=d))):=by
 have F:(a==c)=decide (a=c):=rfl;have D:(b==d)=decide (b=d):=rfl;simp only[ak,eqV,Gj,Lz,LA,xz,y4,CY,BL,cJ,F,D];by_cases h:a=c<;>by_cases A:b=d<;>simp[h,A]
structure Ax (Z:Nat→Prop)(h:ah)(bf:Nat)(vf:Value)(bt:Nat)(vt p q:Value)(m n:Pic)(s:Stg):Prop where
 src:db h bf vf m
 out:db h bt vt n
 ne:bf≠bt
 tx:fG Z h p s.x
 ty:fG Z h q s.y
 zf:Z bf∧∀c,blk vf c→Z c
 zz:∀c,Z c→¬blk vt c
 zb:∀c,Z c→c≠bt
 zl:∀c,Z c→c<h.size
theorem Ax.ext {Z:Nat→Prop}{h h':ah}{bf:Nat}{vf:Value}{bt:Nat}{vt p q:Value}{m n:Pic}{s:Stg}(S:Ax Z h bf vf bt vt p q m n s)(e:Ext h h'):Ax Z h' bf vf bt vt p q m n s:=
 ⟨S.src.ext e,S.out.ext e,S.ne,S.tx.ext e,S.ty.ext e,S.zf,S.zz,S.zb,λc hc=>bT (S.zl c hc) e.1⟩
theorem Ax.chg {Z Q:Nat→Prop}{h h':ah}{bf:Nat}{vf:Value}{bt:Nat}{vt p q:Value}{m n n':Pic}{s:Stg}(S:Ax Z h bf vf bt vt p q m n s)(f:Fr Q h h')(A:∀c,Z c→¬Q c)(I:db h' bt vt n'):Ax Z h' bf vf bt vt p q m n' s:=
 ⟨S.src.fr f (A _ S.zf.1) λc hc=>A _ (S.zf.2 c hc),I,S.ne,S.tx.fr f λc _ D=>A c D,S.ty.fr f λc _ D=>A c D,S.zf,S.zz,S.zb,λc hc=>bT (S.zl c hc) f.1⟩
theorem Ax.mk3 {h0 h1 A:ah}{bf:Nat}{vf:Value}{D p q:Value}{m n:Pic}{s:Stg}(I:db h1 bf vf m)(nb:h0.size≤bf)(nv:∀c,blk vf c→h0.size≤c)(tx:fG (fN h0 h1) h1 p s.x)(ty:fG (fN h0 h1) h1 q s.y)(N:sU h1 A D n):
  ∃bt vt,D=ptr bt∧Ax (fN h0 h1) A bf vf bt vt p q m n s∧h1.size≤bt∧(∀c,blk vt c→h1.size≤c)∧Ext h1 A:=by
 obtain⟨bt,vt,rfl,O,G,mv,E⟩:=N;have l:=I.lt;exact⟨bt,vt,rfl,⟨I.ext E,O,ae,tx.ext E,ty.ext E,⟨⟨nb,l⟩,λc hc=>⟨nv c hc,I.ltv hc⟩⟩,λc hc F=>by have:=hc.2;have:=mv c F;omega,λc hc H=>by have:=hc.2;omega,λc hc=>bT hc.2 E.1⟩,G,mv,E⟩
theorem WW {Z:Nat→Prop}{h:ah}(G:eB h){bf:Nat}{vf:Value}{bt:Nat}{vt p q:Value}{m n:Pic}{s:Stg}{t:cZ}(S:Ax Z h bf vf bt vt p q m n s)(W:m.Wf)(A:n.Wf)(D:s.Wf):
  ag prog oM #[ptr bf,ptr bt,.agg #[p,q,af s.border],.agg (dA t).toArray] h (VI Z h bf vf bt vt p q m n s t):=
 zcN G S.src S.out S.ne W A S.tx S.ty D S.zf S.zz S.zl
def ke:Pic:=ur 3 1 1 255
def nZ:OpD:=⟨1,0,0,1,[],[],0,0,0⟩
def fI:cZ:=⟨0,0,0,3,1,0,0,0,0,0⟩
theorem Vw {h:ah}(G:eB h):ag prog xJ #[] h λr h'=>r=.bool true∧Ext h h':=by
 apply Mg;unfold A8;have a0:BN 3 1 1 255=0:=by decide+kernel
 refine yw.mono λr h1 ⟨pp,e,e1,_,s1⟩=>?_
 subst e;obtain⟨bm,vm,rfl,I,au,bc,_⟩:=s1 a0;have I:db h1 bm vm ke:=I;have W:ke.Wf:=C1 a0;rw[a0];simp only[go_sem];have hf:(aM #[ai,ai,ai,ai,(.slice none 0 0),(.slice none 0 0),ai,ai,ai] [(0,1,aH),(3,1,aH)])=some #[aH,ai,ai,aH,.slice none 0 0,.slice none 0 0,ai,ai,ai]:=rfl;rw[hf,bG,aj];have wf:nZ.Wf:=Bt (by simp[I64]);refine(Jd (Z:=λ_=>True) (o:=nZ) (G.ext e1) Bu wf (by simp[nZ]) (by simp[nZ]) (by unfold I64;omega) (by unfold I64;omega)).mono λw h2 ⟨sv,e,e2,_,s2⟩=>?_
 subst e;have a1:fu nZ 3 1=0:=by decide+kernel
 have HS:=s2 a1;rw[a1];obtain⟨p,q,rfl,hp,hq,ar⟩:=jm HS;simp only[go_sem];refine dk (cs:=[p,q,af _]) rfl ar rfl λb3 h3 r3 e3 n3=>?_
 refine yw.mono λr h4 ⟨pp,e,e4,_,s4⟩=>?_
 subst e;have N4:=s4 a0;rw[a0];have L:=e2.trans e3;have up:∀c,c<h2.size→fN h1 h2 c→fN h h3 c:=λc hc hz=>⟨bh e1.1 hz.1,bT hz.2 e3.1⟩
 obtain⟨bn,vn,rfl,S,bg,a8,_⟩:=Ax.mk3 (h0:=h) (I.ext L) au bc ((hp.mono up).ext e3) ((hq.mono up).ext e3) N4;simp only[go_sem];have E4:=e1.trans (L.trans e4);refine ag.to (Vy (G.ext E4)) λh5 e5=>?_
 simp only[go_sem];refine ag.to (Vx (G.ext (E4.trans e5))) λh6 e6=>?_
 have E6:=E4.trans (e5.trans e6);simp only[go_sem,eqT];rw[aU (l:=[p,q,af _]) ((e4.trans (e5.trans e6)).row r3) 3 rfl,aj];have a7:aM #[ai,ai,ai,ai] [(2,1,(af 3)),(3,1,aH)]=some #[ai,ai,af 3,aH]:=rfl;have an:aM #[ai,ai,ai,ai,ai,ai,ai,ai,ai,ai] [(1,4,.agg #[ai,ai,af 3,aH])]=some (dA fI).toArray:=rfl;rw[a7,bG,aj,an,bG,aj];have hN:(ur 3 1 1 255).Wf:=C1 a0;have F:nI ke (ur 3 1 1 255) (ch nZ 3 1) fI=0:=by decide+kernel
 refine(WW (G.ext E6) (S.ext (e5.trans e6)) W hN (yq a1).1).mono λr h7 ⟨e7,v,er,_,s7⟩=>?_
 subst er;obtain⟨bj,rv,rfl,J⟩:=s7 F;rw[F];simp only[go_sem,eqT,UP];have OK:Cf (ch nZ 3 1):=MF a1 ae (by decide+kernel);have R:=OK.room (m:=ke) (n:=ur 3 1 1 255) (t:=fI) W F;have WJ:=MS (t:=fI) W OK.wf F
 -- the steps, one behind the other
 have f1:cj ⟨ke,ch nZ 3 1,fI⟩ 0 (-1)=1∧iA ⟨ke,ch nZ 3 1,fI⟩ 0 (-1)= -1∧gi ⟨ke,ch nZ 3 1,fI⟩ 0 (-1)=0∧iB ⟨ke,ch nZ 3 1,fI⟩ 0 (-1)=0:=by decide+kernel
 have f2:cj ⟨ke,ch nZ 3 1,fI⟩ 0 0=1∧iA ⟨ke,ch nZ 3 1,fI⟩ 0 0=0∧gi ⟨ke,ch nZ 3 1,fI⟩ 0 0=0∧iB ⟨ke,ch nZ 3 1,fI⟩ 0 0=1:=by decide+kernel
 have f3:cj ⟨ke,ch nZ 3 1,fI⟩ 0 1=1∧iA ⟨ke,ch nZ 3 1,fI⟩ 0 1=1∧gi ⟨ke,ch nZ 3 1,fI⟩ 0 1=0∧iB ⟨ke,ch nZ 3 1,fI⟩ 0 1=2:=by decide+kernel
 have f4:cj ⟨ke,ch nZ 3 1,fI⟩ 0 2=2∧iA ⟨ke,ch nZ 3 1,fI⟩ 0 2=0∧gi ⟨ke,ch nZ 3 1,fI⟩ 0 2=1:=by decide+kernel
 have f5:∀e,cj ⟨ke,ch nZ 3 1,fI⟩ 1 e=0∧iA ⟨ke,ch nZ 3 1,fI⟩ 1 e=0:=λe=>by
  have:fI.y+fI.h≤1:=by decide
  unfold cj iA;exact⟨aA this,aA this⟩
 have hF:lnF (ch nZ 3 1).y fI.y= -1:=by decide+kernel
 rw[hF]at J;have J:kK (fN h h3) (qD (λ_=>False) h6 h7) h7 bj bm vm bn vn p q rv ⟨ke,ch nZ 3 1,fI⟩ 0 (-1) (ur 3 1 1 255) (kE (cD (ch nZ 3 1).y.lines)) (gP (fI.w*ke.c)):=J;generalize hD:(⟨ke,ch nZ 3 1,fI⟩:fK)=D at*;generalize kE (cD (ch nZ 3 1).y.lines)=room at*;generalize gP (fI.w*ke.c)=w at*;have hB:∀c,qD (λ_=>False) h6 h7 c→h.size≤c:=λc hc=>by
  rcases hc with hc|hc
  ·exact hc.elim
  ·have:=E6.1;omega
 have ay:∀c,blk vn c→h.size≤c:=λc hc=>by have:=a8 c hc;have:=e1.1;have:=L.1;omega
 -- from step to step all that was is as it was
 have aa:∀{h' H:ah} {B:Nat→Prop},Ext h h'→(∀c,B c→h.size≤c)→Fr (λc=>blk vn c∨B c) h' H→Ext h H:=λE hB f=>E.then_fr f λc hc=>by
  rcases hc with hc|hc
  ·exact ay c hc
  ·exact hB c hc
 have ab:∀{h' H:ah} {B:Nat→Prop},Ext h h'→(∀c,B c→h.size≤c)→∀c,qD B h' H c→h.size≤c:=λE hB c hc=>by
  rcases hc with hc|hc
  ·exact hB c hc
  ·have:=E.1;omega
 have bd:∀a b:Int,aM #[ai,ai] [(0,1,(af a)),(1,1,af b)]=some #[af a,af b]:=λ_ _=>rfl
 have al:∀a:Int,aM #[ai,ai] [(0,1,(af a))]=some #[af a,ai]:=λ_=>rfl
 have E7:=E6.trans e7;refine dw (λk xs h'=>∃e B n',xs=[af e]∧(k:Int)=2-e∧ -1≤e∧Ext h h'∧(∀c,B c→h.size≤c)∧kK (fN h h3) B h' bj bm vm bn vn p q rv D 0 e n' room w) 3
  ⟨-1,_,_,rfl,ae,ae,E7,hB,J⟩ λk xs ρ1 h8 again ⟨e,B,n',ex,hk,he,E8,A,J8⟩ a9=>?_
 subst ex;simp only[go_sem];refine ao (λg1=>?_) (λg1=>?_)
 ·refine(Sb J8 WJ R).mono λr h9 ⟨er,n9,J9,U,_⟩=>?_
  subst er;have hs:cj D 0 e=1∧iA D 0 e=e∧gi D 0 e=0∧iB D 0 e=e+1:=by
   have:e= -1∨e=0∨e=1:=ae;rcases this with rfl|rfl|rfl
   ·exact f1
   ·exact f2
   ·exact f3
  rw[hs.1,hs.2.1]at*;rw[hs.2.2.1,hs.2.2.2]at J9;rw[bd,bG,aj,zaW];simp only[go_sem,eqT,y7];rw[w64 ae ae];exact a9 _ _ (k-1) ae ⟨e+1,_,n9,rfl,ae,ae,aa E8 A U,ab E8 A,J9⟩
 ·have aw:e=2:=ae;subst aw;refine(Sb J8 WJ R).mono λr h9 ⟨er,n9,J9,U,_⟩=>?_
  subst er;rw[f4.2.2]at J9;rw[f4.1,f4.2.1,al,bG,aj,V5];simp only[go_sem,eqT,y7];refine(Sb J9 WJ R).mono λr bk ⟨er,n10,be,ad,_⟩=>?_
  subst er;rw[(f5 _).1,(f5 _).2];have ax:aM #[ai,ai] []=some #[ai,ai]:=rfl;simp only[go_sem,ax,bG,V5,eqT,y7];exact⟨by simp,aa (aa E8 A U) (ab E8 A) ad⟩
end Go.Proofs.YtjljhnandbbldaaGreatDoor
namespace Go.Proofs.YtjljhnandbbldaaGreatDoor
open Go Go.Crisp
attribute [local irreducible] ag df aW stK aF vK qK bJ gK eK aZ mkK di Fi GM CF bsK clK ud oA V2
section
def B8 (n:Int):Prop:=0≤n∧n≤255
def bgS (a:sT)(o:OpD):Stg:=ch o (em a).w (em a).h
def bgN (a:sT)(o:OpD):Pic:=ur (bgS a o).x.lines.length (bgS a o).y.lines.length (em a).c (em a).most
structure OV (a:sT)(o:OpD):Prop where
 little:¬mz 12 o
 made:fu o (em a).w (em a).h=0
 fit:jA (bgS a o).x.lines.length (bgS a o).y.lines.length (em a).c
 sx:1≤(bgS a o).x.lines.length∧(bgS a o).x.lines.length≤12
 sy:1≤(bgS a o).y.lines.length∧(bgS a o).y.lines.length≤12
theorem bg_ok {a:sT}{o:OpD}(I:ns 12 [o])(hc:Az [o] (em a).w (em a).h (em a).c=0):OV a o:=by
 have h1:¬mz 12 o:=I o (by simp);have W:=BW a;unfold Az at hc;rw[az (by simp)]at hc;have L:jA (em a).w (em a).h (em a).c:=(vF a).fits;rw[az (by simpa using L)]at hc;unfold Fu at hc;by_cases F:fu o (em a).w (em a).h=0
 ·rw [az (by simpa using F)]at hc;have A:=IN F;by_cases D:jA (pH o (em a).w) (tj o (em a).h) (em a).c
  ·have G:=dH D;have⟨U,b2⟩:pH o (em a).w≤12∧tj o (em a).h≤12:=by
    unfold pH tj at G ⊢;unfold mz at h1;split<;>rename_i H
    ·rw[aA H,aA H]at G;omega
    ·omega
   refine⟨h1,F,?_,?_,?_⟩
   ·unfold bgS;rw[A.1,A.2];exact D
   ·unfold bgS;omega
   ·unfold bgS;omega
  ·rw[aA D]at hc;cases hc
 ·rw[aA F]at hc;exact absurd hc F
section
variable {a:sT}{o:OpD}
theorem OV.stg (H:OV a o):Cf (bgS a o):=MF H.made (by have:=BW a;omega) (by have:=(IN H.made).1;have:=H.sx;unfold bgS at this;omega)
theorem OV.suits (H:OV a o):lC (em a) (bgN a o) (bgS a o):=⟨JG H.made,rfl,rfl,rfl,rfl⟩
theorem OV.imgc (H:OV a o):BN (bgS a o).x.lines.length (bgS a o).y.lines.length (em a).c (em a).most=0:=yv.2 ⟨H.fit,(vF a).m1,(vF a).m2⟩
end
end
section
structure zdc (h:ah)(cs os:List Value)(a:sT)(o:OpD):Prop where
 pic:∃Z,nT.R Z h cs a
 wa:a.Wf
 op:∃Z,rOp.R Z h os o
 wo:Ej [o]
structure Xg (hL:ah)(B0 Q:Nat→Prop)(Z:Nat→Prop)(h:ah)(bj bf:Nat)(vf:Value)(bt:Nat)(vt p q rv:Value)(d:fK)(y e:Int)(n:Pic)(room w:Nat):Prop where
 st:∃B,kK Z B h bj bf vf bt vt p q rv d y e n room w∧∀c,c<hL.size→B c→B0 c
 fr:Fr (λc=>(blk vt c∨B0 c)∨Q c) hL h
def GoFr (vt:Value)(B Q:Nat→Prop)(h h':ah):Prop:=Fr (λc=>(blk vt c∨B c)∨Q c) h h'
theorem GoFr.row {vt:Value}{B Q:Nat→Prop}{h h':ah}(e:GoFr vt B Q h h'){b:Nat}{o:Obj}(r:h[b]? =some o)(A:¬((blk vt b∨B b)∨Q b)):h'[b]? =some o:=Go.Crisp.Fr.row e r A
section
variable {hL:ah}{B0 Q:Nat→Prop}{Z:Nat→Prop}{h:ah}{bj bf:Nat}{vf:Value}{bt:Nat}{vt p q rv:Value}{d:fK}{y e:Int}{n:Pic}{room w:Nat}
theorem Xg.row {b:Nat}{ob:Obj}(J:Xg hL B0 Q Z h bj bf vf bt vt p q rv d y e n room w)(r:hL[b]? =some ob)(A:¬blk vt b)(F:¬B0 b)(D:¬Q b):h[b]? =some ob:=J.fr.row r λhh=>hh.elim (λhh=>hh.elim A F) D
theorem Xg.out (J:Xg hL B0 Q Z h bj bf vf bt vt p q rv d y e n room w):Ij d n∧db h bt vt n∧db h bf vf d.m:=by
 obtain⟨⟨B,S,A⟩,f⟩:=J;exact⟨S.out,S.img,S.src⟩
end
theorem VI.go {Z:Nat→Prop}{h:ah}{bf:Nat}{vf:Value}{bt:Nat}{vt p q:Value}{m n:Pic}{s:Stg}{t:cZ}{r:Value}{h':ah}(H:VI Z h bf vf bt vt p q m n s t r h')(hc:nI m n s t=0):
  ∃bj rv,r=.tuple #[ptr bj,ai]∧Ext h h'∧kK Z (qD (λ_=>False) h h') h' bj bf vf bt vt p q rv ⟨m,s,t⟩ t.y (lnF s.y t.y) n (kE (cD s.y.lines)) (gP (t.w*m.c)):=by
 obtain⟨e,v,A,_,H⟩:=H;obtain⟨bj,rv,rfl,J⟩:=H hc;exact⟨bj,rv,by rw[A,hc],e,J⟩
end
end Go.Proofs.YtjljhnandbbldaaGreatDoor
namespace Go.Proofs.YtjljhnandbbldaaGreatDoor
open Go Go.Crisp
theorem Yu {h:ah}{ts:List TS}{args:Array Value}(R:vU (.st Xo:: .st tOp::ts) h args.toList):∃cs os a o r,args.toList=.agg (List.toArray cs):: .agg (List.toArray os)::r∧zdc h cs os a o∧vU ts h r:=by
 obtain⟨v,r,I,⟨x,c,rfl,F⟩,u,G,D,⟨y,d,rfl,A⟩,h0⟩:=R;have F:Rd Xo h c.toList x:=F;have A:Rd tOp h d.toList y:=A;obtain⟨h1,H⟩:=zck F;refine⟨c.toList,d.toList,VZ x,Tb y,G,by rw[I,D,CW,CW],⟨⟨_,h1⟩,H,⟨_,(zbZ A).1⟩,zaR A⟩,h0⟩
theorem VQ {h:ah}{ts:List TS}{l:List Value}(R:vU (.int .u8::ts) h l):∃n r,l=.int .u8 n::r∧B8 n∧vU ts h r:=by
 obtain⟨v,r,F,⟨x,A,D⟩,h0⟩:=R;obtain rfl:v=.int .u8 x:=by simpa using A
 exact⟨x,r,F,zbX D,h0⟩
end Go.Proofs.YtjljhnandbbldaaGreatDoor
namespace Go.Proofs.YtjljhnandbbldaaGreatDoor
open Go Go.Crisp
open _root_.Go.Proofs.Tryz
def LM:Go.Shelf.Ren:=⟨λn=>match n with|23=>177|n=>n,λn=>match n with|0=>0|3=>3|4=>4|22=>41|n=>n,λn=>n⟩
theorem U6:Go.Proofs.Lays2.n23 prog LM where
 mixed:=by kernel_rfl
 f23:=by kernel_rfl
 t0:=by kernel_rfl
 a0:=λw=>cn (by kernel_rfl)
 z0:=λw=>bD (by kernel_rfl)
 v0:=λw=>bA (by kernel_rfl)
 t3:=by kernel_rfl
 a3:=λw=>cn (by kernel_rfl)
 z3:=λw=>bD (by kernel_rfl)
 v3:=λw=>bA (by kernel_rfl)
 t4:=by kernel_rfl
 a4:=λw=>cn (by kernel_rfl)
 z4:=λw=>bD (by kernel_rfl)
 v4:=λw=>bA (by kernel_rfl)
 t22:=by kernel_rfl
 a22:=λw=>cn (by kernel_rfl)
 z22:=λw=>bD (by kernel_rfl)
 v22:=λw=>bA (by kernel_rfl)
 i3:=by kernel_rfl
end Go.Proofs.YtjljhnandbbldaaGreatDoor
namespace Go.Proofs.YtjljhnandbbldaaGreatDoor
open Go Go.Crisp
attribute [local irreducible] ag df aW stK aF vK qK bJ gK eK aZ mkK di Fi GM CF bsK clK ud oA V2
structure eo (n n':Pic):Prop where
 w:n'.w=n.w
 h:n'.h=n.h
 c:n'.c=n.c
 m:n'.most=n.most
theorem eo.refl (n:Pic):eo n n:=⟨rfl,rfl,rfl,rfl⟩
theorem eo.newC {m n n':Pic}{s:Stg}{t:cZ}(D:eo n n')(h:nI m n s t=0):nI m n' s t=0:=by
 obtain⟨h1,A⟩:=pZ.1 h;exact pZ.2 ⟨⟨h1.1,by rw[D.w];exact h1.2.1,by rw[D.h];exact h1.2.2.1,by rw[D.c];exact h1.2.2.2.1,by rw[D.m];exact h1.2.2.2.2⟩,A⟩
theorem eo.inP {n n':Pic}(D:eo n n'){x y c:Int}:Go.Proofs.YtjljhnandbbldaaGreatDoor.inP n' x y c↔Go.Proofs.YtjljhnandbbldaaGreatDoor.inP n x y c:=by
 unfold Go.Proofs.YtjljhnandbbldaaGreatDoor.inP;rw[D.w,D.h,D.c]
theorem YU {n n':Pic}(W:n.Wf)(l2:(n'.l.length:Int)=n'.w*n'.h*n'.c)(D:eo n n')(H:∀x y c,inP n x y c→atP n x y c=atP n' x y c):n.l=n'.l:=by
 have hf:=dH W.fits;have l1:=W.len;rw[D.w,D.h,D.c]at l2;refine Q8 ae λi h1 h2=>?_
 have L:0<n.c:=ae;have I:0<n.w:=ae;have e1:=vw (i:Int) n.c;have e2:=vw ((i:Int)/n.c) n.w;have m1:=ks (i:Int) (show n.c≠0 by omega);have m2:=iF (i:Int) L;have m3:=ks ((i:Int)/n.c) (show n.w≠0 by omega);have m4:=iF ((i:Int)/n.c) I;have q0:0≤(i:Int)/n.c:=y8 ae ae;have q1:0≤(i:Int)/n.c/n.w:=y8 q0 ae;have q2:(i:Int)/n.c<n.w*n.h:=by
  rw[wW L];omega
 have U:(i:Int)/n.c/n.w<n.h:=by
  rw[wW I,fQ];exact q2
 have A:inP n ((i:Int)/n.c%n.w) ((i:Int)/n.c/n.w) ((i:Int)%n.c):=⟨m3,m4,q1,U,m1,m2⟩
 have G:pC n ((i:Int)/n.c%n.w) ((i:Int)/n.c/n.w) ((i:Int)%n.c)=(i:Int):=by
  unfold pC;rw[fQ ((i:Int)/n.c/n.w),e2,fQ ((i:Int)/n.c),e1]
 have F:pC n' ((i:Int)/n.c%n.w) ((i:Int)/n.c/n.w) ((i:Int)%n.c)=(i:Int):=by
  unfold pC at G ⊢;rw[D.w,D.c];exact G
 have:=H _ _ _ A;unfold atP at this;rw[aA A,aA (D.inP.2 A),G,F,eT]at this;simpa[dQ,h1,h2]using this
end Go.Proofs.YtjljhnandbbldaaGreatDoor
namespace Go.Crisp
open Go
def Qa (v:Value):Prop:=∀a n c,v=.slice a n c→c≤9223372036854775807
theorem zam {z:Value}{e:TypeId}{w bytes:Nat}{s x:Value}{h:ah}{K U:Value→ah→Prop}(H:di z e w bytes s x h K)(L:Qa s)(m:∀I h',K I h'→Qa I→U I h'):di z e w bytes s x h U:=by
 unfold di at H ⊢;split at H
 ·rename_i D A F n _;split at H
  ·rename_i h0;rw[aA h0]
   revert H
   cases wj w h n x with
   |none=>exact λH=>H
   | some G=>
    cases D with
    |none=>exact λH=>m _ _ H λa n c e=>by cases e;exact L _ _ _ rfl
    |some a=>
     dsimp only;cases kb h (a.add (A*w)) 0 G with
     |none=>exact λH=>H
     |some h'=>exact λH=>m _ _ H λa n c e=>by cases e;exact L _ _ _ rfl
  ·rename_i h0;rw[az h0];refine⟨H.1,H.2.1,?_⟩;have H:=H.2.2
   revert H
   cases wj w h A (.slice D A F)<;>cases wj w h n x
   ·exact λH=>H
   ·exact λH=>H
   ·exact λH=>H
   ·exact λH c h1 W=>m _ _ (H c h1 W) λa n c' e=>by cases e;omega
 ·exact H
theorem SlC.isSl_one {w:Nat}{h:ah}{v:Value}{n:Nat}{cs:List Value}(H:SlC w h v n cs):aQ v=true:=by obtain⟨a,c,e⟩:=H.isSl;rw[e];rfl
def Rp.SlCap (v:Value):Prop:=∃a n c,v=.slice a n c∧n≤c
theorem X2:Qa (.slice none 0 0):=λa n c e=>by cases e;omega
end Go.Crisp
namespace Go.Proofs.YtjljhnandbbldaaGreatDoor
open Go Go.Crisp
attribute [local irreducible] ag df aW stK aF vK qK bJ gK eK aZ mkK Fi GM CF bsK clK ud oA V2
open _root_.Go.Proofs.Tryz
section
theorem Qp {α:Type}[Inhabited α](enc:α→Value)(off:Nat)(d:Array α)(c:Array Value)(i:Nat):(Go.Sort.putCells enc off d c)[i]? =c[i]?.map λx=>if off≤i∧i<off+d.size then enc d[i-off]! else x:=by
 unfold Go.Sort.putCells;rw[Array.getElem?_mapIdx]
theorem zae {h:ah}{v:Value}{x:Int}{l:List Int}(H:Own 1 h v (l.length+1) ((x::l).map λn=>af n))(hc:Qa v):
  ag prog lh #[v,ai,aH] h λr h'=>Own 1 h' r l.length (l.map λn=>af n)∧Qa r∧Fr (blk v) h h'∧(∀b,blk r b→blk v b):=by
 refine ag.ofCalls (by kernel_rfl) λw hh=>?_
 subst hh;rcases H with⟨_,h0,_⟩|⟨b,cap,r,e,rfl,U,hl,hr,A⟩
 ·cases h0
 have L:=hc _ _ _ rfl;have G:∀j,(D:j<(x::l).length)→w.heap[b]? =some (.cells ((x::l).map (λn=>af n)++r).toArray e (0,0))→aG w.heap ⟨b,0+j,none⟩=some (af (x::l)[j]):=λj D A=>by
  rw[am A,aK];simp only[y4];rw[uk (by simpa using D),w6,ja D];rfl
 have hH:Go.Sort.Holds (Value.int .i64) w b 0 (x::l).toArray:=λj D=>by
  have W:j<(x::l).length:=by simpa using D
  refine⟨?_,?_⟩
  ·rw[getElem!_pos (x::l).toArray j D];exact G j W A
  ·show vE w.heap ⟨b,0+j,none⟩=false;unfold vE;simp[A]
 have:=Any.slices_Delete_int U6 b 0 cap 0 1 (x::l) w hH U L ae (by simp);refine this.mono λe' w' ⟨h1,q,h2⟩=>⟨_,h1,?_⟩
 subst h2;have aa:b<w.heap.size:=(lY.1 A).1;have F:(Go.Sort.putRow (Value.int .i64) (Go.Sort.ahead w q) b 0 ((x::l).take 0++(x::l).drop 1++List.replicate (1-0) 0).toArray).heap[b]? =some (.cells (l.map (λn=>af n)++(af 0::r)).toArray e (0,0)):=by
  show(w.heap.modify b (Go.Sort.onCells _))[b]? =_;rw[KW,aA rfl,A];show some (Obj.cells (Go.Sort.putCells _ 0 _ _) e (0,0))=_
  congr 2
  apply Array.ext_getElem?;intro i;rw[Qp];simp only[KL,fB,List.drop_succ_cons,KU,y9,List.replicate_one,bZ,CT,aK,RM,ck,Hh,y4];by_cases I:i<l.length+1
  ·rw[uk (by simpa using I),w6,ja (show i<(x::l).length by simpa using I),cI,cI,aA I,getElem!_pos _ i (by simpa using I)];by_cases h4:i<l.length
   ·rw[uk (by simpa using h4),w6,ja h4];simp[Wr,h4]
   ·have:i=l.length:=ae;subst this;rw[ue (by simp)];simp
  ·have e1:((x::l).map (λn=>af n)++r)[i]? =r[i-(l.length+1)]? :=by
    rw[ue (by simp;omega)];simp
   have e2:(l.map (λn=>af n)++af 0::r)[i]? =r[i-(l.length+1)]? :=by
    rw[ue (by simp;omega),cV,show i-l.length=(i-(l.length+1))+1 by omega,BL]
   rw[e1,e2];cases r[i-(l.length+1)]? <;>simp[I]
 refine⟨⟨rfl,rfl,rfl⟩,?_,λa n c e=>?_,⟨?_,λk hk hm=>?_⟩,λk hk=>hk⟩
 ·refine .inr ⟨b,cap,af 0::r,e,?_,ae,by simp,?_,F⟩
  ·simp
  ·simp at hr ⊢;omega
 ·cases e;exact L
 ·show w.heap.size≤(w.heap.modify b _).size;simp
 ·show(w.heap.modify b _)[k]? =_;rw[KW,az (λh=>hm h.symm)]
structure QD where
 room:Int
 l:List Int
 closed:Bool
structure QD.Wf (d:QD):Prop where
 r1:1≤d.room
 r2:d.room≤4096
 l:(d.l.length:Int)≤d.room
structure IsQ (Q:Nat→Prop)(h:ah)(b:Nat)(d:QD):Prop where
 at_:∃v,h[b]? =some (.cells #[.int .i64 d.room,v,.bool d.closed] 215 (0,0))∧Own 1 h v d.l.length (d.l.map λn=>Value.int .i64 n)∧Qa v∧¬blk v b∧∀c,blk v c→Q c
 qb:Q b
 ql:∀c,Q c→c<h.size
 wf:d.Wf
theorem IsQ.fr {Q M:Nat→Prop}{h h':ah}{b:Nat}{d:QD}(H:IsQ Q h b d)(f:Fr M h h')(q:∀c,Q c→¬M c):IsQ Q h' b d:=by
 obtain⟨⟨v,r,o,c,n,s⟩,qb,ql,w⟩:=H;exact⟨⟨v,f.row r (q b qb),o.fr f λk A=>q k (s k A),c,n,s⟩,qb,λk A=>bT (ql k A) f.1,w⟩
theorem IsQ.ext {Q:Nat→Prop}{h h':ah}{b:Nat}{d:QD}(H:IsQ Q h b d)(e:Ext h h'):IsQ Q h' b d:=H.fr (M:=λ_=>False) e.fr λ_ _=>id
def kD (d:QD)(x:Int):QD:=if d.closed then d else if d.room≤d.l.length then d else{d with l:=d.l++[x]}
def rG (d:QD):Int:=if d.closed then 2 else if d.room≤d.l.length then 1 else 0
def pR (d:QD):QD:={d with l:=d.l.tail}
def ce (d:QD):Int:=d.l.headD 0
def dE (d:QD):Int:=if d.l=[]then(if d.closed then 2 else 1)else 0
theorem K7 {B:Nat→Prop}{h h':ah}(D:∀c,B c→c<h.size)(A:h.size≤h'.size):∀c,qD B h h' c→c<h'.size:=λc hc=>hc.elim (λh=>bT (D c h) A) λh=>h.2
section
variable {Q:Nat→Prop}{h:ah}{b:Nat}{d:QD}
theorem ZV {h:ah}{n:Int}:ag prog nE #[af n] h λr h'=>∃b,r=ptr b∧IsQ (λc=>c=b) h' b ⟨min (max 1 n) 4096,[],false⟩∧Ext h h'∧h.size≤b:=by
 apply QP;unfold F0;have D:∀v:Int,aM #[ai,(.slice none 0 0),(.bool false)] [(0,1,af v)]=some #[af v,.slice none 0 0,.bool false]:=λ_=>rfl
 simp only[go_sem,D,bG];refine aI λb h1 r1 F A=>?_
 exact⟨b,rfl,⟨⟨_,r1,.inl ⟨rfl,rfl,rfl⟩,X2,id,λc hc=>hc.elim⟩,rfl,λc hc=>by rw[hc];exact bB r1,⟨by show 1≤min (max 1 n) 4096;omega,by show min (max 1 n) 4096≤4096;omega,by show(0:Int)≤min (max 1 n) 4096;omega⟩⟩,F,A⟩
theorem PR (H:IsQ Q h b d):ag prog iS #[ptr b] h λr h'=>r=.bool d.closed∧h'=h:=by
 apply AE;unfold pM;obtain⟨⟨v,r,o,c,n,s⟩,qb,ql,w⟩:=H;have A:aG h ⟨b,2,none⟩=some (.bool d.closed):=am r;simp only[go_sem,A];exact⟨trivial,trivial⟩
theorem P3 (H:IsQ Q h b d):ag prog iz #[ptr b] h λr h'=>r=.bool (decide (rG d≠1))∧h'=h:=by
 apply yV;unfold nR rG;obtain⟨⟨v,r,o,c,n,s⟩,qb,ql,w⟩:=H;have D:aG h ⟨b,0,none⟩=some (af d.room):=am r;have F:aG h ⟨b,1,none⟩=some v:=am r;have A:aG h ⟨b,2,none⟩=some (.bool d.closed):=am r;obtain⟨a,L,e⟩:=o.isSl;have G:aD v=some (af (d.l.length:Int)):=by rw[e];rfl
 cases hc:d.closed with
 |true=>
  rw[hc]at A;simp only[go_sem,D,F,A,G];exact⟨by simp,trivial⟩
 |false=>
  rw[hc]at A;simp only[go_sem,D,F,A,G,aK];refine⟨?_,trivial⟩
  congr 1
  rw[gE];by_cases I:d.room≤d.l.length
  ·simp[I]
  ·simp[I];omega
theorem Sh (H:IsQ Q h b d):ag prog jd #[ptr b] h λr h'=>r=.bool (decide (dE d≠1))∧h'=h:=by
 apply vX;unfold lQ dE;obtain⟨⟨v,r,o,c,n,s⟩,qb,ql,w⟩:=H;have D:aG h ⟨b,1,none⟩=some v:=am r;have A:aG h ⟨b,2,none⟩=some (.bool d.closed):=am r;obtain⟨a,G,e⟩:=o.isSl;have F:aD v=some (af (d.l.length:Int)):=by rw[e];rfl
 cases hc:d.closed with
 |true=>
  rw[hc]at A;simp only[go_sem,D,A,F];refine⟨?_,trivial⟩;cases d.l<;>simp
 |false=>
  rw[hc]at A;simp only[go_sem,D,A,F,aK];refine⟨?_,trivial⟩;cases d.l<;>simp
theorem zbs (H:IsQ Q h b d){x:Int}:ag prog ng #[ptr b,af x] h λr h'=>r=af (rG d)∧IsQ (qD Q h h') h' b (kD d x)∧Fr Q h h':=by
 apply Dj;unfold tE;have H0:=H;obtain⟨⟨v,r,o,c,n,s⟩,qb,ql,w⟩:=H;have c1:aG h ⟨b,1,none⟩=some v:=am r;have I:aG h ⟨b,2,none⟩=some (.bool d.closed):=am r;cases hc:d.closed with
 |true=>
  rw[hc]at I;simp only[go_sem,I];unfold rG kD;rw[aA hc,aA hc,C4];exact⟨rfl,H0,Fr.refl _ _⟩
 | false=>
  have A:¬d.closed=true:=by rw[hc];simp
  rw[hc]at I;simp only[go_sem,I];refine ag.at (P3 H0) ?_;by_cases U:d.room≤d.l.length
  ·have hs:rG d=1:=by unfold rG;rw[az A,aA U]
   have hq:kD d x=d:=by unfold kD;rw[az A,aA U]
   rw[hs,hq,C4,cB (by decide)];simp only[go_sem];exact⟨trivial,H0,Fr.refl _ _⟩
  ·have hs:rG d=0:=by unfold rG;rw[az A,az U]
   have hq:kD d x={d with l:=d.l++[x]}:=by unfold kD;rw[az A,az U]
   rw[hs,hq,cP (by decide)];simp only[go_sem,c1];have w1:=w.r2;refine da (Rp.fill_one rfl) λb1 h1 r1 F n1=>?_
   refine zam (vJ (o.fr (M:=λ_=>False) F.fr λ_ _=>id) (Rp.SlC.single (cs:=[af x]) r1) (aq rfl aX) rfl ae ae λs' h2 o2 f2 L=>(⟨o2,f2,L⟩:Own 1 h2 s' (d.l.length+1) (d.l.map (λn=>af n)++[af x])∧Fr (blk v) h1 h2∧∀b,blk s' b→blk v b∨h1.size≤b)) c λv2 h2 ⟨o2,f2,L⟩ aa=>?_
   have rb:=f2.row (F.row r) n;have ab:=bB (F.row r);have G:¬blk v2 b:=λhv=>(L b hv).elim n λhh=>ae
   try simp only[go_sem]
   refine b9 rb (by simp) o2.sl.isSl_one λh3 r3 W=>?_
   have al:=F.1;have ad:=f2.1;have an:=W.1;refine⟨trivial,⟨⟨v2,r3,?_,aa,G,λk D=>?_⟩,.inl qb,K7 ql ae,⟨w.r1,w.r2,by show((d.l++[x]).length:Int)≤d.room;simp;omega⟩⟩,?_⟩
   ·show Own 1 h3 v2 (d.l++[x]).length ((d.l++[x]).map λn=>af n);rw[ck,iD];exact o2.fr W.fr λk D he=>G (he▸D)
   ·rcases L k D with h5|h5
    ·exact .inl (s k h5)
    ·have:=o2.lt D;exact .inr ⟨ae,ae⟩
   ·exact((F.fr (M:=Q)).after f2 λk _ D=>s k D).after W.fr λk _ D=>D▸qb
theorem Vt (H:IsQ Q h b d):ag prog kz #[ptr b] h λr h'=>r=.tuple #[af (ce d),af (dE d)]∧IsQ (qD Q h h') h' b (pR d)∧Fr Q h h':=by
 apply yU;unfold nQ;have H0:=H;obtain⟨⟨v,r,o,c,n,s⟩,qb,ql,w⟩:=H;have c1:aG h ⟨b,1,none⟩=some v:=am r;have c2:aG h ⟨b,2,none⟩=some (.bool d.closed):=am r;obtain⟨a,cp,e⟩:=o.isSl;have G:aD v=some (af (d.l.length:Int)):=by rw[e];rfl
 cases A:d.l with
 |nil=>
  have W:ce d=0:=by unfold ce;rw[A];rfl
  have hq:pR d=d:=by unfold pR;rw[A];cases d;simp_all
  rw[W,hq];rw[A]at G;have I:¬(0:Int)<((0:Nat):Int):=ae;simp only[go_sem,c1,G,kr,cB I,c2];have hr:dE d=if d.closed then 2 else 1:=by unfold dE;rw[aA A]
  rw[hr];cases d.closed with
  |true=>rw[iI];exact⟨rfl,by rw[C4];exact H0,Fr.refl _ _⟩
  |false=>rw[cK];exact⟨rfl,by rw[C4];exact H0,Fr.refl _ _⟩
 |cons x t=>
  have W:ce d=x:=by unfold ce;rw[A];rfl
  have hq:pR d={d with l:=t}:=by unfold pR;rw[A];rfl
  have hr:dE d=0:=by unfold dE;rw[az (by rw[A];simp)]
  rw[W,hq,hr];rw[A]at G o;have o':Own 1 h v (t.length+1) ((x::t).map λn=>af n):=o;have zp:(0:Int)<(((x::t).length:Nat):Int):=by simp
  obtain⟨pp,U,p2⟩:=(Eu (k:=.i64) (l:=x::t) o).int_at (k':=.i64) (i:=0) (by simp);have U:bu 1 v ai=some pp:=U;simp only[go_sem,c1,G,cP zp,U,p2];refine(zae o' c).mono λv2 h2 ⟨o2,aa,f2,n2⟩=>?_
  have rb:=f2.row r n;have F:¬blk v2 b:=λhv=>n (n2 b hv)
  try simp only[go_sem]
  refine b9 rb (by simp) o2.sl.isSl_one λh3 r3 L=>?_
  have ab:=f2.1;have ad:=L.1;have wl:=w.l;rw[A]at wl;refine⟨rfl,⟨⟨v2,r3,o2.fr L.fr λk D he=>F (he▸D),aa,F,λk D=>.inl (s k (n2 k D))⟩,.inl qb,K7 ql ae,⟨w.r1,w.r2,by show(t.length:Int)≤d.room;simp at wl;omega⟩⟩,?_⟩;exact(f2.mono λk _ D=>s k D).trans (L.fr.mono λk _ D=>D▸qb)
theorem Ua (H:IsQ Q h b d):ag prog jl #[ptr b] h λr h'=>r=.bool (!d.closed)∧IsQ Q h' b {d with closed:=true}∧Fr Q h h':=by
 apply BC;unfold rB;obtain⟨⟨v,r,o,c,n,s⟩,qb,ql,w⟩:=H;have F:aG h ⟨b,2,none⟩=some (.bool d.closed):=am r;simp only[go_sem,F];refine b9 r (by simp) rfl λL G A=>?_
 try simp only[go_sem]
 exact⟨trivial,⟨⟨v,G,o.fr A.fr λk D I=>n (I▸D),c,n,s⟩,qb,λc hc=>by rw[A.1];exact ql c hc,⟨w.r1,w.r2,w.l⟩⟩,A.fr.mono λk _ D=>D▸qb⟩
end
end
end Go.Proofs.YtjljhnandbbldaaGreatDoor
namespace Go.Crisp
open Go
theorem Rp.Ow.slcap {α:Type}{e:Rp α}{Z:Nat→Prop}{h:ah}{v:Value}{l:List α}(H:Rp.Ow e Z h v l):Rp.SlCap v:=by
 obtain⟨ds,o,_⟩:=H;rcases o with⟨rfl,_,_⟩|⟨b,cap,r,e,rfl,hc,_⟩
 ·exact⟨_,_,_,rfl,bU _⟩
 ·exact⟨_,_,_,rfl,hc⟩
end Go.Crisp
namespace Go.Proofs.YtjljhnandbbldaaGreatDoor
open Go Go.Crisp
attribute [local irreducible] ag df aW stK aF vK qK bJ gK eK aZ mkK di Fi GM CF bsK clK ud oA V2
open _root_.Go.Proofs.Tryz
section
theorem ZT {h:ah}{n:Int}:ag prog ll #[af n] h λr h'=>r=.agg #[af (min (max 1 n) 4096),.slice none 0 0,.bool false]∧Ext h h':=by
 apply QE;unfold FP;have A:∀v:Int,aM #[ai,(.slice none 0 0),(.bool false)] [(0,1,af v)]=some #[af v,.slice none 0 0,.bool false]:=λ_=>rfl
 refine aI λD h1 r1 H G=>?_
 have fin:∀v:Int,v=min (max 1 n) 4096→stK 3 (ptr D) (.agg #[af v,.slice none 0 0,.bool false]) h1 λW F=>vK (aO 3 F (ptr D)) λU=>U=.agg #[af (min (max 1 n) 4096),.slice none 0 0,.bool false]∧Ext h F:=by
  intro v I;subst I;refine cT (l:=[af (min (max 1 n) 4096),.slice none 0 0,.bool false]) r1 rfl (aq rfl (aq rfl (aq rfl aX))) rfl λh2 r2 L=>?_
  rw[aU (l:=[af (min (max 1 n) 4096),.slice none 0 0,.bool false]) r2 3 rfl,aj];exact⟨rfl,H.upd G L⟩
 simp only[go_sem];refine ao (λg1=>?_) (λg1=>?_)
 ·rw[cB (by decide)];simp only[go_sem,A,bG];exact fin 1 ae
 ·refine ao (λg2=>?_) (λg2=>?_)
  ·simp only[go_sem,A,bG];exact fin 4096 ae
  ·simp only[go_sem,A,bG];exact fin n ae
section
variable {Z:Nat→Prop}{h:ah}{cs:List Value}{d:QD}
end
end
section
structure WE where
 bf:Nat
 vf:Value
 bt:Nat
 vt:Value
 p:Value
 q:Value
 m:Pic
 s:Stg
structure WE.Ok (E:WE):Prop where
 m:E.m.Wf
 s:Cf E.s
abbrev WE.d (E:WE)(t:cZ):fK:=⟨E.m,E.s,t⟩
def jD (Z B:Nat→Prop)(h:ah)(E:Option WE)(n:Pic)(jv:Value):Option (cZ×Int×Int)→Prop
 |none=>jv=.pointer none
 |some (t,y,e)=>∃E',E=some E'∧E'.Ok∧nI E'.m n E'.s t=0∧∃bj rv,jv=ptr bj∧kK Z B h bj E'.bf E'.vf E'.bt E'.vt E'.p E'.q rv (E'.d t) y e n (kE (cD E'.s.y.lines)) (gP (t.w*E'.m.c))
def de (E:Option WE):Nat→Prop:=match E with|none=>λ_=>False|some E=>blk E.vt
def Ay (E:Option WE)(b:Nat):Prop:=match E with|none=>True|some E=>b≠E.bt
theorem jD.one {Z B:Nat→Prop}{h:ah}{E:Option WE}{n:Pic}{A:Value}{jo:Option (cZ×Int×Int)}(H:jD Z B h E n A jo):aQ A=true:=by
 cases jo with
 |none=>rw[show A=_ from H];rfl
 |some x=>obtain⟨t,y,e⟩:=x;obtain⟨_,_,_,_,bj,rv,rfl,_⟩:=H;rfl
def jh (h:ah)(E:Option WE)(n:Pic):Prop:=∀E',E=some E'→db h E'.bt E'.vt n∧n.Wf
theorem jD.other {Z B Q:Nat→Prop}{h h':ah}{E:Option WE}{n n':Pic}{A:Value}{jo:Option (cZ×Int×Int)}(H:jD Z B h E n A jo)(f:Fr Q h h')(L:∀c,Z c→¬Q c)(qb:∀c,B c→¬Q c)(I:jh h' E n')(D:eo n n'):jD Z B h' E n' A jo:=by
 cases jo with
 |none=>exact H
 |some x=>
  obtain⟨t,y,e⟩:=x;obtain⟨F,rfl,ok,hc,bj,rv,rfl,S⟩:=H;obtain⟨G,U⟩:=I F rfl;exact⟨F,rfl,ok,D.newC hc,bj,rv,rfl,S.other f L qb G (WB U (D.newC hc))⟩
structure WD where
 state:Int
 tiles:List Int
 job:Option (cZ×Int×Int)
 words:Int
def uq (E:Option WE)(jo:Option (cZ×Int×Int)):Prop:=match jo,E with|some (t,y,e),some E=>cj (E.d t) y e≠0|_,_=>False
structure IsW (Z B:Nat→Prop)(h:ah)(bw:Nat)(E:Option WE)(n:Pic)(w:WD):Prop where
 at_:∃tv jv Bj,h[bw]? =some (.cells #[.int .i64 w.state,tv,jv,.int .i64 w.words] 182 (0,0))∧Own 1 h tv w.tiles.length (w.tiles.map λn=>Value.int .i64 n)∧jD Z Bj h E n jv w.job∧
  (∀c,blk tv c→B c∧¬Bj c∧c≠bw)∧(∀c,Bj c→B c)∧¬Bj bw
 bw0:B bw
 bl:∀c,B c→c<h.size
 bz:∀c,B c→¬Z c∧Ay E c∧¬de E c
 zl:∀c,Z c→c<h.size
 out:jh h E n
 st:(w.state=1∧uq E w.job∧w.tiles≠[])∨((w.state=0∨w.state=2)∧w.job=none)
theorem IsW.other {Z B Q:Nat→Prop}{h h':ah}{bw:Nat}{E:Option WE}{n n':Pic}{w:WD}(H:IsW Z B h bw E n w)(f:Fr Q h h')(U:∀c,Z c→¬Q c)(qb:∀c,B c→¬Q c)(I:jh h' E n')(D:eo n n'):IsW Z B h' bw E n' w:=by
 obtain⟨⟨tv,F,L,r,o,J,a1,a2,a3⟩,A,b2,G,bz,b4,W⟩:=H;exact⟨⟨tv,F,L,f.row r (qb _ A),o.fr f λc hc=>qb c (a1 c hc).1,J.other f U (λc hc=>qb c (a2 c hc)) I D,a1,a2,a3⟩,A,λc hc=>bT (b2 c hc) f.1,G,λc hc=>bT (bz c hc) f.1,I,W⟩
theorem IsW.ext {Z B:Nat→Prop}{h h':ah}{bw:Nat}{E:Option WE}{n:Pic}{w:WD}(H:IsW Z B h bw E n w)(e:Ext h h'):IsW Z B h' bw E n w:=
 H.other (Q:=λ_=>False) e.fr (λ_ _ h=>h) (λ_ _ h=>h) (λD A=>⟨(H.out D A).1.ext e,(H.out D A).2⟩) (eo.refl n)
section
variable {Z B:Nat→Prop}{h:ah}{bw:Nat}{E:Option WE}{n:Pic}{w:WD}
theorem JP {h:ah}:ag prog oL #[] h λr h'=>∃b,r=ptr b∧h'[b]? =some (.cells #[ai,.slice none 0 0,.pointer none,ai] 182 (0,0))∧Ext h h'∧h.size≤b:=by
 apply NZ;unfold Dt;have D:aM #[ai,(.slice none 0 0),(.pointer none),ai] []=some #[ai,.slice none 0 0,.pointer none,ai]:=rfl;simp only[go_sem,D,bG];refine aI λb h1 r1 F A=>?_
 exact⟨b,rfl,r1,F,A⟩
theorem IsW.new {h:ah}{b:Nat}(r:h[b]? =some (.cells #[ai,.slice none 0 0,.pointer none,ai] 182 (0,0)))(D:¬Z b)(h1:Ay E b)(A:¬de E b)(zl:∀c,Z c→c<h.size)(I:jh h E n):IsW Z (λc=>c=b) h b E n ⟨0,[],none,0⟩:=
 ⟨⟨_,_,λ_=>False,r,.inl ⟨rfl,rfl,rfl⟩,rfl,λc hc=>hc.elim,λc hc=>hc.elim,id⟩,rfl,λc hc=>by rw[hc];exact bB r,λc hc=>by rw[hc];exact⟨D,h1,A⟩,zl,I,.inr ⟨.inl rfl,rfl⟩⟩
theorem zbE (H:IsW Z B h bw E n w):ag prog kw #[ptr bw] h λr h'=>r=af w.state∧h'=h:=by
 apply yS;unfold nO;obtain⟨⟨tv,D,F,r,_⟩,_⟩:=H;have A:aG h ⟨bw,0,none⟩=some (af w.state):=am r;simp only[go_sem,A];exact⟨trivial,trivial⟩
theorem Fq {Q:Nat→Prop}{bq:Nat}{d:QD}(H:IsW Z B h bw E n w)(D:IsQ Q h bq d):ag prog eE #[ptr bw,ptr bq] h λr h'=>r=.bool (decide (w.state=1∨(w.state=0∧dE d≠1)))∧h'=h:=by
 apply vW;unfold lP;have A:=H.st;obtain⟨⟨tv,G,I,r,_⟩,_⟩:=H;have F:aG h ⟨bw,0,none⟩=some (af w.state):=am r;simp only[go_sem,F];refine ao (λg=>?_) (λg=>?_)
 ·refine ag.at (Sh D) ?_;refine⟨?_,rfl⟩
  congr 1
  rw[gE];constructor
  ·exact λhh=>.inr ⟨g,hh⟩
  ·rintro(hh|hh)
   ·omega
   ·exact hh.2
 ·refine ao (λg1=>?_) (λg1=>?_)
  ·exact⟨by rw[cP (.inl g1)],trivial⟩
  ·exact⟨by rw[cB];omega,trivial⟩
def cH (E:Option WE)(jo:Option (cZ×Int×Int)):Option (cZ×Int×Int):=match jo,E with|some (t,y,e),some E=>if cj (E.d t) y e=0 then none else some (t,y,e)|_,_=>none
theorem Iq (E:Option WE)(jo:Option (cZ×Int×Int)):(cH E jo≠none∧uq E (cH E jo)∧cH E jo=jo)∨cH E jo=none:=by
 unfold cH uq;cases jo with
 |none=>exact .inr rfl
 | some x=>
  obtain⟨t,y,e⟩:=x;cases E with
  |none=>exact .inr rfl
  |some E=>
   dsimp only;by_cases A:cj (E.d t) y e=0
   ·rw[aA A];exact .inr rfl
   ·rw[az A];exact .inl ⟨by simp,A,rfl⟩
end
end
section
theorem jh.fr {Q:Nat→Prop}{h h':ah}{E:Option WE}{n:Pic}(I:jh h E n)(f:Fr Q h h')(hq:∀c,Q c→c<h.size→Ay E c∧¬de E c):jh h' E n:=λF G=>by
 subst G;have A:=(I F rfl).1;exact⟨A.fr f (λhc=>(hq _ hc A.lt).1 rfl) (λc D hc=>(hq c hc (A.ltv D)).2 D),(I F rfl).2⟩
theorem jh.ext {h h':ah}{E:Option WE}{n:Pic}(I:jh h E n)(e:Ext h h'):jh h' E n:=I.fr (Q:=λ_=>False) e.fr λ_ h=>h.elim
theorem jh.new {h:ah}{E:Option WE}{n:Pic}(I:jh h E n){c:Nat}(hc:h.size≤c):Ay E c∧¬de E c:=by
 cases E with
 |none=>exact⟨trivial,id⟩
 |some E=>exact⟨λD=>by have:=(I E rfl).1.lt;rw[D]at hc;omega,λA=>by have:=(I E rfl).1.ltv A;omega⟩
def stJ:Option (cZ×Int×Int)→Int
 |none=>0
 |some _=>1
theorem jD.upd {Z B:Nat→Prop}{h h':ah}{bw:Nat}{E:Option WE}{n:Pic}{D:Value}{jo:Option (cZ×Int×Int)}(H:jD Z B h E n D jo)(u:Upd bw h h')(L:¬Z bw)(G:¬B bw)(h1:Ay E bw)(F:¬de E bw)(I:jh h E n):jD Z B h' E n D jo:=
 H.other u.fr (λc hc A=>L (A▸hc)) (λc hc A=>G (A▸hc)) (I.fr u.fr λc hc _=>by rw[show c=bw from hc];exact⟨h1,F⟩) (eo.refl n)
section
variable {Z B:Nat→Prop}{h:ah}{bw:Nat}{E:Option WE}{n:Pic}{w:WD}
theorem TY {W:Nat→Prop}{st wd:Int}{tv F:Value}{jo:Option (cZ×Int×Int)}(r:h[bw]? =some (.cells #[af st,tv,F,af wd] 182 (0,0)))(J:jD Z W h E n F jo)(hz:¬Z bw)(hb:¬W bw)(G:Ay E bw)(L:¬de E bw)(I:jh h E n):
  ag prog dI #[ptr bw] h λr h'=>∃A,h'[bw]? =some (.cells #[af (stJ (cH E jo)),tv,A,af wd] 182 (0,0))∧jD Z W h' E n A (cH E jo)∧Fr (λc=>c=bw) h h':=by
 apply yo;unfold nj;simp only[go_sem];refine b9 r (by simp) rfl λh1 r1 U=>?_
 have r1:h1[bw]? =some (.cells #[aH,tv,F,af wd] 182 (0,0)):=r1;have J1:=J.upd U hz hb G L I;have I1:=I.fr U.fr λc hc _=>by rw[show c=bw from hc];exact⟨G,L⟩
 have c2:aG h1 ⟨bw,2,none⟩=some F:=am r1;simp only[go_sem,aK,c2]
 -- it goes
 have gone:∀{h2:ah},Ext h1 h2→cH E jo=none→stK 1 (.pointer (some ⟨bw,0,none⟩)) ai h2 λab aa=>stK 1 (.pointer (some ⟨bw,2,none⟩)) (.pointer none) aa λ_ h'=>∃A,h'[bw]? =some (.cells #[af (stJ (cH E jo)),tv,A,af wd] 182 (0,0))∧jD Z W h' E n A (cH E jo)∧Fr (λc=>c=bw) h h':=by
  intro h2 D hs;refine b9 (D.row r1) (by simp) rfl λh3 r3 u3=>?_
  refine b9 r3 (by simp) rfl λh4 r4 u4=>?_
  rw[hs];exact⟨_,r4,rfl,((U.fr.ext_r D).trans u3.fr).trans u4.fr⟩
 cases jo with
 |none=>
  have hj:F=.pointer none:=J;subst hj;simp only[go_sem,c2,zcp];exact gone (Ext.refl _) rfl
 | some x=>
  obtain⟨t,y,e⟩:=x;obtain⟨H,rfl,ok,hc,bj,rv,rfl,S⟩:=J1;simp only[go_sem,c2,UP];refine ag.to (Nt S (MS ok.m ok.s.wf hc)) λh2 D=>?_
  have hp:pS false 1 0 (BK (cj (H.d t) y e) (iA (H.d t) y e))=some (af (cj (H.d t) y e)):=rfl;simp only[go_sem,hp];refine ao (λhk=>?_) (λhk=>?_)
  ·exact gone D (aA hk)
  ·have hs:cH (some H) (some (t,y,e))=some (t,y,e):=az hk;rw[hs];exact⟨_,D.row r1,⟨H,rfl,ok,hc,bj,rv,rfl,S.ext D⟩,U.fr.ext_r D⟩
def YA (E:Option WE)(jo:Option (cZ×Int×Int))(k:Int):Int:=match jo,E with|some (t,_,_),some E=>max k ((kE (cD E.s.y.lines):Int)*(gP (t.w*E.m.c):Int))|_,_=>k
def Ds (E:Option WE)(w:WD)(x:Int)(jo:Option (cZ×Int×Int)):WD:=⟨stJ (cH E jo),w.tiles++[x],cH E jo,YA E jo w.words⟩
def zb9 (Z:Nat→Prop)(E:Option WE)(n:Pic)(ov:Value)(x:Int)(jo:Option (cZ×Int×Int))(Qo M:Nat→Prop)(P0 P1:ah→Prop)(h:ah):Prop:=
 (ov=.nilFunc∧jo=none∧∀g,P0 g→P1 g)∨(ak .f .neq ov .nilFunc=some (.bool true)∧∀h1,Fr M h h1→P0 h1→clK prog ov #[.int .i64 x] h1 λr h2=>∃Bj,(∀c,Bj c→h1.size≤c∧c<h2.size)∧jD Z Bj h2 E n r jo∧Fr Qo h1 h2∧P1 h2)
abbrev Ve (k t mk mr:Int):Value:=.agg #[.int .i64 k,.int .i64 t,.int .i64 mk,.int .i64 mr]
theorem ZI {v:Value}{args:Array Value}{h:ah}{K A:Value→ah→Prop}(H:clK prog v args h K)(k:∀r h',K r h'→A r h'):clK prog v args h A:=by
 unfold clK at H ⊢;split at H
 ·exact H.mono k
 ·exact H.elim
theorem Bp {E:Option WE}{jo:Option (cZ×Int×Int)}:(stJ (cH E jo)=1∧uq E (cH E jo))∨((stJ (cH E jo)=0∨stJ (cH E jo)=2)∧cH E jo=none):=by
 rcases Iq E jo with⟨h1,A,D⟩|h
 ·left;refine⟨?_,A⟩
  revert h1
  cases cH E jo with
  |none=>exact λh=>absurd rfl h
  |some x=>exact λ_=>rfl
 ·rw[h];exact .inr ⟨.inl rfl,rfl⟩
theorem zcO {x:Int}{ov:Value}{jo:Option (cZ×Int×Int)}{Qo:Nat→Prop}{P0 P1:ah→Prop}(H:IsW Z B h bw E n w)(hw:w.state=0)(ht:w.tiles.length≤1000000)(HO:zb9 Z E n ov x jo Qo B P0 P1 h)
  (qo:∀c,Qo c→c<h.size∧¬B c∧¬Z c∧Ay E c∧¬de E c) (hP:∀g g',Fr (λc=>B c∨h.size≤c) g g'→(P0 g→P0 g')∧(P1 g→P1 g')) (p0:P0 h):
  ag prog kZ #[ptr bw,af x,ov] h λr h'=>r=Ve 1 x 0 0∧IsW Z (qD B h h') h' bw E n (Ds E w x jo)∧Fr (λc=>B c∨Qo c) h h'∧P1 h':=by
 apply AA;unfold pI;have H0:=H;obtain⟨⟨tv,jv,W,r,o,J,a1,a2,a3⟩,w0,bl,bz,zl,I,st⟩:=H;have a9:w.job=none:=by
  rcases st with h|h
  ·omega
  ·exact h.2
 rw[a9]at J;have hj:jv=.pointer none:=J;subst hj;refine aI λb1 h1 r1 e1 n1=>?_
 have c1:aG h1 ⟨bw,1,none⟩=some tv:=am (e1.row r);simp only[go_sem,aK,c1];refine da (Rp.fill_one rfl) λb2 h2 r2 e2 n2=>?_
 have E2:=e1.trans e2;refine vJ (m:=1) (o.fr (M:=λ_=>False) E2.fr λ_ _=>id) (Rp.SlC.single (cs:=[af x]) r2) (aq rfl aX) rfl ae ae λv3 h3 o3 f3 n3=>?_
 have b7:=bB r;have b4:=E2.1;have b3:=f3.1;have r3:=f3.row (E2.row r) λhc=>(a1 _ hc).2.2 rfl
 have ad:∀c,blk v3 c→(B c∧c≠bw)∨h.size≤c:=λc hc=>(n3 c hc).imp (λh=>⟨(a1 c h).1,(a1 c h).2.2⟩) λh=>ae
 have F:¬blk v3 bw:=λhc=>(ad _ hc).elim (λh=>h.2 rfl) λh=>ae
 try simp only[go_sem]
 refine b9 r3 (by simp) o3.sl.isSl_one λh4 r4 u4=>?_
 have r4:h4[bw]? =some (.cells #[af w.state,v3,.pointer none,af w.words] 182 (0,0)):=r4;have o4:=o3.fr u4.fr λc hc U=>F (U▸hc)
 have b5:=u4.1;have F4:Fr B h h4:=(E2.fr.after f3 λc _ hc=>(a1 c hc).1).after u4.fr λc _ hc=>hc▸w0
 have I4:jh h4 E n:=I.fr F4 λc hc _=>(bz c hc).2
 have au:P0 h4:=(hP h h4 (F4.mono λc _ hc=>.inl hc)).1 p0;have b0:=e1.1;have bv:=e2.1;have ca:=bB r1;have ar:h.size≤b1:=n1;have e4:h4[b1]? =some (.cells #[ai,ai,ai,ai] 148 (0,0)):=u4.row ae (f3.row (e2.row r1) λhc=>by have:=bl _ (a1 _ hc).1;omega)
 -- with a job, or with none
 refine bi (λxs A=>∃jv W,A[bw]? =some (.cells #[af w.state,v3,jv,af w.words] 182 (0,0))∧jD Z W A E n jv jo∧(∀c,W c→h4.size≤c)∧(∀c,W c→c<A.size)∧Fr (λc=>B c∨Qo c) h A∧h4.size≤A.size∧Own 1 A v3 (w.tiles.length+1) (w.tiles.map (λn=>af n)++[af x])∧P1 A∧A[b1]? =some (.cells #[ai,ai,ai,ai] 148 (0,0))) ?_ ?_
 ·rcases HO with⟨rfl,rfl,hp⟩|⟨a7,ax⟩
  ·have e0:ak .f .neq Value.nilFunc Value.nilFunc=some (.bool false):=rfl;simp only[go_sem,e0];exact⟨_,λ_=>False,r4,rfl,λc hc=>hc.elim,λc hc=>hc.elim,F4.mono λc _ hc=>.inl hc,bU _,o4,hp _ au,e4⟩
  ·simp only[go_sem,a7];refine ZI (ax h4 F4 au) λv5 A ⟨W,k1,k2,k3,k4⟩=>?_
   have r5:=k3.row r4 λhc=>(qo _ hc).2.1 w0
   have o5:=o4.fr k3 λc hc hq=>(ad c hc).elim (λh=>(qo c hq).2.1 h.1) λh=>by have:=(qo c hq).1;omega
   have ay:=k3.1
   try simp only[go_sem]
   refine b9 r5 (by simp) k2.one λG r6 L=>?_
   have an:=L.1;have aa:¬W bw:=λhc=>by have:=(k1 _ hc).1;omega
   have I5:jh A E n:=I4.fr k3 λc hc _=>(qo c hc).2.2.2
   refine⟨v5,W,r6,k2.upd L (bz _ w0).1 aa (bz _ w0).2.1 (bz _ w0).2.2 I5,λc hc=>(k1 c hc).1,λc hc=>by rw[an];exact(k1 c hc).2,?_,ae,o5.fr L.fr λc hc U=>F (U▸hc),?_⟩
   ·exact((F4.mono λc _ hc=>.inl hc).after k3 λc _ hc=>.inr hc).after L.fr λc _ hc=>.inl (hc▸w0)
   ·exact⟨(hP A G (L.fr.mono λc _ hc=>.inl (hc▸w0))).2 k4,L.row ae (k3.row e4 λhc=>by have:=(qo _ hc).1;omega)⟩
 ·rintro xs ρ A ⟨jv,W,r5,J5,k1,k2,F5,ay,o5,p5,e5⟩;have aa:¬W bw:=λhc=>by have:=k1 _ hc;omega
  have I5:jh A E n:=I.fr F5 λc hc _=>hc.elim (λh=>(bz c h).2) λh=>(qo c h).2.2.2
  have c2:aG A ⟨bw,2,none⟩=some jv:=am r5;have c3:aG A ⟨bw,3,none⟩=some (af w.words):=am r5
  -- the end: settled, and told
  have fin:∀{G:ah},G[bw]? =some (.cells #[af w.state,v3,jv,af (YA E jo w.words)] 182 (0,0))→jD Z W G E n jv jo→Fr (λc=>B c∨Qo c) h G→A.size≤G.size→jh G E n→P1 G→
    Own 1 G v3 (w.tiles.length+1) (w.tiles.map (λn=>af n)++[af x])→G[b1]? =some (.cells #[ai,ai,ai,ai] 148 (0,0))→
    ag prog dI #[ptr bw] G λb8 bk=>vK ((aM #[ai,ai,ai,ai] [(0,1,aH),(1,1,af x)]).map .agg) λa8=>stK 4 (ptr b1) a8 bk λcc ab=>vK (aO 4 ab (ptr b1)) λbg=>
     bg=Ve 1 x 0 0∧IsW Z (qD B h ab) ab bw E n (Ds E w x jo)∧Fr (λc=>B c∨Qo c) h ab∧P1 ab:=by
   intro G r6 J6 F6 an I6 p6 o6 e6;refine(TY r6 J6 (bz _ w0).1 aa (bz _ w0).2.1 (bz _ w0).2.2 I6).mono λ_ h7 ⟨bc,r7,J7,f7⟩=>?_
   have hf:∀z:Int,aM #[ai,ai,ai,ai] [(0,1,aH),(1,1,af z)]=some #[aH,af z,ai,ai]:=λ_=>rfl
   have b6:=f7.1;simp only[go_sem,hf,bG];refine cT (l:=[aH,af x,ai,ai]) (f7.row e6 λhc=>ae) rfl (aq rfl (aq rfl (aq rfl (aq rfl aX)))) rfl λh8 r8 u8=>?_
   rw[aU (l:=[aH,af x,ai,ai]) r8 4 rfl,aj];have cb:=u8.1;have I7:jh h7 E n:=I6.fr f7 λc hc _=>by rw[show c=bw from hc];exact(bz _ w0).2
   have F7:Fr (λc=>B c∨Qo c) h h7:=F6.after f7 λc _ hc=>.inl (hc▸w0)
   have F8:Fr (λc=>B c∨Qo c) h h8:=F7.upd_new u8 ar;have al:=I.new ar;have aw:¬Z b1:=λhz=>by have:=zl _ hz;omega
   have bo:¬W b1:=λhc=>by have:=k1 _ hc;omega
   have o8:=(o6.fr f7 λc hc U=>F (U▸hc)).fr u8.fr λc hc U=>by
    have U:c=b1:=U;rcases n3 c hc with D|D
    ·have:=bl _ (a1 c D).1;omega
    ·omega
   have ho:jh h8 E n:=I7.fr u8.fr λc hc _=>by rw[show c=b1 from hc];exact al
   refine⟨rfl,⟨⟨v3,bc,W,u8.row ae r7,?_,J7.upd u8 aw bo al.1 al.2 I7,λc hc=>⟨?_,λhj=>?_,λU=>F (U▸hc)⟩,λc hc=>.inr ⟨?_,?_⟩,aa⟩,.inl w0,K7 bl ae,λc hc=>?_,λc hc=>bT (zl c hc) F8.1,ho,?_⟩,F8,?_⟩
   ·show Own 1 h8 v3 (w.tiles++[x]).length ((w.tiles++[x]).map λn=>af n);rw[ck,iD];exact o8
   ·rcases ad c hc with D|D
    ·exact .inl D.1
    ·exact .inr ⟨D,o8.lt hc⟩
   ·have:=k1 c hj;rcases n3 c hc with D|D
    ·have:=bl _ (a1 c D).1;omega
    ·have:=o3.lt hc;omega
   ·have:=k1 c hc;omega
   ·have:=k2 c hc;omega
   ·rcases hc with D|D
    ·exact bz c D
    ·exact⟨λhz=>by have:=zl c hz;omega,I.new D.1⟩
   ·rcases Bp (E:=E) (jo:=jo)with⟨D,be⟩|D
    ·exact .inl ⟨D,be,by simp[Ds]⟩
    ·exact .inr D
   ·exact(hP h7 h8 (u8.fr.mono λc _ hc=>.inr (by have hc:c=b1:=hc;omega))).2 ((hP G h7 (f7.mono λc _ hc=>.inl (hc▸w0))).2 p6)
  cases jo with
  |none=>
   have hj:jv=.pointer none:=J5;subst hj;simp only[go_sem,c2,zco];exact fin r5 rfl F5 (bU _) I5 p5 o5 e5
  | some y=>
   obtain⟨t,yy,e⟩:=y;have bd:=J5;obtain⟨E',rfl,ok,hc,bj,rv,rfl,S⟩:=J5;simp only[go_sem,c2,UO];refine aP (λg=>g=A) rfl ?_;refine aC (af w.words) (λg e=>by rw[e];exact c3) ?_
   try simp only[go_sem]
   refine aC (ptr bj) (λg e=>by rw[e];exact c2) ?_;refine ag.at (Ns S) ⟨rfl,?_⟩;refine aC (af (max w.words ((kE (cD E'.s.y.lines):Int)*(gP (t.w*E'.m.c):Int)))) (λ_ _=>MD _ _ _) ?_
   try simp only[go_sem]
   refine b9 r5 (by simp) rfl λG r6 L=>?_
   exact fin r6 (bd.upd L (bz _ w0).1 aa (bz _ w0).2.1 (bz _ w0).2.2 I5) (F5.after L.fr λc _ hc=>.inl (hc▸w0)) (by rw[L.1];exact bU _) (I5.fr L.fr λc hc _=>by rw[show c=bw from hc];exact(bz _ w0).2) ((hP A G (L.fr.mono λc _ hc=>.inl (hc▸w0))).2 p5)
    (o5.fr L.fr λc hc U=>F (U▸hc)) (L.row ae e5)
abbrev EvD:=Int×Int×Int×Int
abbrev evV (e:EvD):Value:=Ve e.1 e.2.1 e.2.2.1 e.2.2.2
def cL (E:Option WE)(jo:Option (cZ×Int×Int))(w:WD)(d:QD):WD×QD×EvD:=
 if w.state=1 then
  match w.job,E with
  |some (t,y,e),some E'=>
   let j:=cH E (some (t,gi (E'.d t) y e,iB (E'.d t) y e))
   (⟨stJ j,w.tiles,j,w.words⟩,d,(2,w.tiles.getLast?.getD 0,cj (E'.d t) y e,iA (E'.d t) y e))
  |_,_=>(w,d,(0,0,0,0))
 else if w.state=2 then(w,d,(0,0,0,0))
 else if dE d=0 then(Ds E w (ce d) jo,pR d,(1,ce d,0,0))
 else if dE d=2 then({w with state:=2},pR d,(3,0,0,0))
 else(w,pR d,(0,0,0,0))
def wg (w:WD)(d:QD):Prop:=w.state=0∧dE d=0
def Cv (E:Option WE)(w:WD)(n n':Pic):Prop:=
 eo n n'∧match w.job,E with
  |some (t,y,e),some E=>Ij (E.d t) n∧Ij (E.d t) n'∧(cj (E.d t) y e≠2→n'=n)∧(cj (E.d t) y e=2→∀x' y' c',inP n x' y' c'→atP n' x' y' c'=if xS (E.d t) y (gP (t.w*E.m.c)) x' y' c' then xp E.m E.s x' y' c' else atP n x' y' c')
  |_,_=>n'=n
theorem Cv.same {E:Option WE}{w:WD}{n:Pic}(h:w.job=none):Cv E w n n:=⟨eo.refl n,by rw[h]⟩
structure Xe (Z B Q Qo:Nat→Prop)(h h':ah)(bw bq:Nat)(E:Option WE)(n:Pic)(w w':WD)(d':QD):Prop where
 ex:∃n' B' Q',IsW Z B' h' bw E n' w'∧IsQ Q' h' bq d'∧(∀c,B' c→B c∨h.size≤c)∧(∀c,Q' c→Q c∨h.size≤c)∧(∀c,B' c→¬Q' c)∧Cv E w n n'
 fr:Fr (λc=>de E c∨B c∨Q c∨Qo c) h h'
theorem WV {Q:Nat→Prop}{bq:Nat}{d:QD}{ov:Value}{jo:Option (cZ×Int×Int)}{Qo:Nat→Prop}{P0 P1:ah→Prop}(H:IsW Z B h bw E n w)(HQ:IsQ Q h bq d)(ht:w.tiles.length≤1000000)
  (HO:wg w d→zb9 Z E n ov (ce d) jo Qo (λc=>B c∨Q c) P0 P1 h) (aa:∀c,B c→¬Q c) (qz:∀c,Q c→¬Z c∧Ay E c∧¬de E c) (qo:∀c,Qo c→c<h.size∧¬B c∧¬Q c∧¬Z c∧Ay E c∧¬de E c)
  (hP:∀g g',Fr (λc=>de E c∨B c∨Q c∨h.size≤c) g g'→(P0 g→P0 g')∧(P1 g→P1 g')) (p0:P0 h):
  ag prog cO #[ptr bw,ptr bq,ov] h λr h'=>r=evV (cL E jo w d).2.2∧Xe Z B Q Qo h h' bw bq E n w (cL E jo w d).1 (cL E jo w d).2.1∧(wg w d→P1 h')∧(¬wg w d→P0 h'):=by
 apply AB;unfold pJ;have H0:=H;obtain⟨⟨tv,jv,Bj,r,o,J,a1,a2,a3⟩,w0,bl,bz,zl,I,st⟩:=H;refine aI λb1 h1 r1 e1 n1=>?_
 have b6:=e1.1;have c7:=bB r1;have a8:h.size≤b1:=n1;have c6:=bB r;have r':=e1.row r;have H1:=H0.ext e1;have a9:=HQ.ext e1;have I1:=I.ext e1;have a7:=I.new a8;have an:∀c,Q c→c<h.size:=HQ.ql;have c0:aG h1 ⟨bw,0,none⟩=some (af w.state):=am r';simp only[go_sem,aK,c0];have L:∀{F:ah} {ev:EvD} {w':WD} {d':QD} {n':Pic} {B' Q':Nat→Prop},F[b1]? =some (.cells #[ai,ai,ai,ai] 148 (0,0))→Fr (λc=>de E c∨B c∨Q c∨Qo c) h F→IsW Z B' F bw E n' w'→IsQ Q' F bq d'→(∀c,B' c→(B c∨h.size≤c)∧c≠b1)→(∀c,Q' c→(Q c∨h.size≤c)∧c≠b1)→(∀c,B' c→¬Q' c)→Cv E w n n'→
   (wg w d→P1 F)→(¬wg w d→P0 F)→cL E jo w d=(w',d',ev)→
   stK 4 (ptr b1) (evV ev) F λ_ U=>vK (aO 4 U (ptr b1)) λv=>v=evV (cL E jo w d).2.2∧Xe Z B Q Qo h U bw bq E n w (cL E jo w d).1 (cL E jo w d).2.1∧(wg w d→P1 U)∧(¬wg w d→P0 U):=by
  intro F ev w' d' n' B' Q' e2 F2 W2 Q2 k1 k2 k3 D p1 p0 he;refine cT (l:=[af ev.1,af ev.2.1,af ev.2.2.1,af ev.2.2.2]) e2 rfl (aq rfl (aq rfl (aq rfl (aq rfl aX)))) rfl λU r3 u3=>?_
  rw[aU (l:=[af ev.1,af ev.2.1,af ev.2.2.1,af ev.2.2.2]) r3 4 rfl,aj,he];have bv:∀c,Z c→¬c=b1:=λc hz he=>by have:=zl _ hz;omega
  have hp:=hP F U (u3.fr.mono λc _ hc=>.inr (.inr (.inr (by have hc:c=b1:=hc;omega))));refine⟨rfl,⟨⟨n',B',Q',W2.other u3.fr bv (λc hc=>(k1 c hc).2) (W2.out.fr u3.fr λc hc _=>by rw[show c=b1 from hc];exact a7) (eo.refl n'),Q2.fr u3.fr λc hc=>(k2 c hc).2,λc hc=>(k1 c hc).1,λc hc=>(k2 c hc).1,k3,D⟩,F2.upd_new u3 a8⟩,λh=>hp.2 (p1 h),λh=>hp.1 (p0 h)⟩
 have fE:aM #[ai,ai,ai,ai] []=some #[ai,ai,ai,ai]:=rfl;have fL:aM #[ai,ai,ai,ai] [(0,1,af 3)]=some #[af 3,ai,ai,ai]:=rfl;have ad:∀c,B c→(B c∨h.size≤c)∧c≠b1:=λc hc=>⟨.inl hc,λhe=>by have:=bl c hc;omega⟩
 have au:∀c,Q c→(Q c∨h.size≤c)∧c≠b1:=λc hc=>⟨.inl hc,λhe=>by have:=an c hc;omega⟩
 by_cases s1:w.state=1
 ·-- a job goes on
  have ab:¬wg w d:=λh=>by have:=h.1;omega
  obtain⟨hg,be⟩:uq E w.job∧w.tiles≠[]:=by
   rcases st with h|h
   ·exact h.2
   ·have:=h.1;omega
  cases ar:w.job with
  |none=>rw[ar]at hg;exact hg.elim
  | some q=>
   obtain⟨t,y,e⟩:=q;rw[ar]at J hg;obtain⟨A,rfl,ok,hc,bj,rv,rfl,S⟩:=J;have hg:cj (A.d t) y e≠0:=hg;have cu:=MS ok.m ok.s.wf hc;have c2:aG h1 ⟨bw,2,none⟩=some (ptr bj):=am r';simp only[go_sem,cP s1,c2];refine(Sb (S.ext e1) cu (ok.s.room ok.m hc)).mono λrm F ⟨er,n',S2,f2,b8,ct⟩=>?_
   subst er;have ca:=f2.1;refine dk (cs:=[af (cj (A.d t) y e),af (iA (A.d t) y e)]) rfl (aq rfl (aq rfl aX)) rfl λb3 U r3 e3 n3=>?_
   have S3:=S2.ext e3;have al:=e3.1;have OO:=S3.out;have D:eo n n':=⟨by rw[OO.w,S.out.w],by rw[OO.h,S.out.h],by rw[OO.c,S.out.c],by rw[OO.m,S.out.m]⟩
   have fq:∀c,(blk A.vt c∨Bj c)→de (some A) c∨B c:=λc hc=>hc.imp id λh=>a2 c h
   have nw:¬(blk A.vt bw∨Bj bw):=λhc=>hc.elim (bz _ w0).2.2 a3
   have cw:=e3.row (f2.row r' nw);have I3:jh U (some A) n':=λE2 hE=>by cases hE;exact⟨S3.img,OO.wf⟩
   have bk:¬qD Bj h1 F bw:=λhc=>hc.elim a3 λh=>ae
   have J3:jD Z (qD Bj h1 F) U (some A) n' (ptr bj) (some (t,gi (A.d t) y e,iB (A.d t) y e)):=⟨A,rfl,ok,D.newC hc,bj,rv,rfl,S3⟩
   refine(TY cw J3 (bz _ w0).1 bk (bz _ w0).2.1 (bz _ w0).2.2 I3).mono λ_ h4 ⟨cb,r4,J4,f4⟩=>?_
   have c4:=f4.1;have I4:jh h4 (some A) n':=I3.fr f4 λc hc _=>by rw[show c=bw from hc];exact(bz _ w0).2
   have b2:∀c,blk tv c→¬(blk A.vt c∨Bj c):=λc hc h=>h.elim (bz c (a1 c hc).1).2.2 (a1 c hc).2.1
   have o4:=(((o.fr (M:=λ_=>False) e1.fr λ_ _=>id).fr f2 b2).fr (M:=λ_=>False) e3.fr λ_ _=>id).fr f4 λc hc he=>(a1 c hc).2.2 he
   have c3:=bB r3;have cc:¬(blk A.vt b1∨Bj b1):=λhc=>hc.elim a7.2 λh=>by have:=bl _ (a2 _ h);omega
   have e4:=f4.row (e3.row (f2.row r1 cc)) λhc=>ae
   have bo:=f4.row r3 λhc=>ae
   have c1:aG h4 ⟨bw,1,none⟩=some tv:=am r4;obtain⟨a,cp,et⟩:=o4.isSl;have el:aD tv=some (af (w.tiles.length:Int)):=by rw[et];rfl
   have c8:0<w.tiles.length:=wZ.2 be;obtain⟨pp,p1,p2⟩:=(Eu (k:=.i64) (l:=w.tiles) o4).int_at (k':=.i64) (i:=w.tiles.length-1) ae;have p1:bu 1 tv (af ((w.tiles.length:Int)-1))=some pp:=by rw[show(w.tiles.length:Int)-1=((w.tiles.length-1:Nat):Int)by omega];exact p1
   refine aP (λg=>g=h4) rfl ?_
   try simp only[go_sem,aK]
   refine aC tv (λg e=>by rw[e];exact c1) ?_
   try simp only[go_sem]
   refine aC tv (λg e=>by rw[e];exact c1) ?_;refine aC (af (w.tiles.length:Int)) (λ_ _=>el) ?_;simp only[go_sem];rw[w64 (n:=(w.tiles.length:Int)-1) ae ae,p1,aj];refine aC (af (w.tiles.getLast?.getD 0)) (λg e=>by rw[e,p2,List.getLast?_eq_getElem?,ja];rfl) ?_;refine aC (BK (cj (A.d t) y e) (iA (A.d t) y e)) (λg e=>by rw[e];exact aU (l:=[_,_]) bo 2 rfl) ?_;have hf:∀z a b:Int,aM #[ai,ai,ai,ai] [(0,1,af 2),(1,1,af z),(2,2,BK a b)]=some #[af 2,af z,af a,af b]:=λ_ _ _=>rfl
   simp only[go_sem,hf,bG];have F4:Fr (λc=>de (some A) c∨B c) h h4:=((e1.fr.trans (f2.mono λc _ hc=>fq c hc)).ext_r e3).trans (f4.mono λc _ hc=>.inr (hc▸w0));have hp:=(hP h h4 (F4.mono λc _ hc=>hc.imp id .inl)).1 p0;have nq:∀c,Q c→¬(de (some A) c∨B c):=λc hc h=>h.elim (qz c hc).2.2 λh=>aa c h hc
   refine L (ev:=(2,w.tiles.getLast?.getD 0,cj (A.d t) y e,iA (A.d t) y e)) (w':=⟨stJ (cH (some A) (some (t,gi (A.d t) y e,iB (A.d t) y e))),w.tiles,cH (some A) (some (t,gi (A.d t) y e,iB (A.d t) y e)),w.words⟩) (B':=qD B h1 h4) (Q':=Q) e4 (F4.mono λc _ hc=>hc.imp id .inl)
    ⟨⟨tv,cb,qD Bj h1 F,r4,o4,J4,λc hc=>⟨.inl (a1 c hc).1,λG=>?_,(a1 c hc).2.2⟩,λc hc=>hc.imp (a2 c) λh=>⟨h.1,ae⟩,bk⟩,.inl w0,K7 (λc hc=>bT (bl c hc) b6) ae,λc hc=>?_,λc hc=>bT (zl c hc) F4.1,I4,?_⟩
    (HQ.fr F4 nq) (λc hc=>⟨?_,λhe=>?_⟩) au (λc hc hq=>?_) ⟨D,?_⟩ (λh=>absurd h ab) (λ_=>hp) ?_
   ·rcases G with G|G
    ·exact(a1 c hc).2.1 G
    ·have:=bl c (a1 c hc).1;omega
   ·rcases hc with G|G
    ·exact bz c G
    ·exact⟨λhz=>by have:=zl c hz;omega,I.new ae⟩
   ·rcases Bp (E:=some A) (jo:=some (t,gi (A.d t) y e,iB (A.d t) y e))with⟨G,ci⟩|G
    ·exact .inl ⟨G,ci,be⟩
    ·exact .inr G
   ·exact hc.imp id λh=>ae
   ·rcases hc with G|G
    ·exact(ad c G).2 he
    ·omega
   ·rcases hc with G|G
    ·exact aa c G hq
    ·have:=an c hq;omega
   ·rw[ar];exact⟨S.out,OO,b8,ct⟩
   ·unfold cL;rw[aA s1,ar]
 ·have W:w.job=none:=by
   rcases st with h|h
   ·exact absurd h.1 s1
   ·exact h.2
  simp only[go_sem,cB s1];refine ao (λs2=>?_) (λs2=>?_)
  ·-- it is gone
   simp only[go_sem,fE,bG];have ab:¬wg w d:=λh=>by have:=h.1;omega
   exact L (ev:=(0,0,0,0)) (r1) e1.fr H1 a9 ad au aa (Cv.same W) (λh=>absurd h ab) (λ_=>(hP h h1 e1.fr).1 p0) (by unfold cL;rw[az s1,aA s2])
  ·have s0:w.state=0:=by
    rcases st with h|h
    ·exact absurd h.1 s1
    ·exact h.1.resolve_right s2
   refine(Vt a9).mono λrr F ⟨er,Q2,f2⟩=>?_
   subst er;have ca:=f2.1;have x0:aL (.tuple #[af (ce d),af (dE d)]) 0=some (af (ce d)):=rfl;have x1:aL (.tuple #[af (ce d),af (dE d)]) 1=some (af (dE d)):=rfl;have H2:IsW Z B F bw E n w:=H1.other f2 (λc hz hq=>(qz c hq).1 hz) aa (I1.fr f2 λc hc _=>(qz c hc).2) (eo.refl n);have e2:=f2.row r1 λhc=>by have:=an _ hc;omega
   have F2:Fr (λc=>de E c∨B c∨Q c∨h.size≤c) h F:=e1.fr.trans (f2.mono λc _ hc=>.inr (.inr (.inl hc)));have ax:Fr (λc=>de E c∨B c∨Q c∨Qo c) h F:=e1.fr.trans (f2.mono λc _ hc=>.inr (.inr (.inl hc)));have aw:∀c,qD Q h1 F c→(Q c∨h.size≤c)∧c≠b1:=λc hc=>hc.elim (λh=>au c h) λh=>⟨.inr ae,ae⟩
   have bg:∀c,B c→¬qD Q h1 F c:=λc hc hq=>hq.elim (aa c hc) λh=>by have:=bl c hc;omega
   simp only[go_sem,x0,x1];refine ao (λg0=>?_) (λg0=>?_)
   ·have ay:wg w d:=⟨s0,g0⟩
    refine(zcO H2 s0 ht (jo:=jo) (Qo:=Qo) (P0:=P0) (P1:=P1) ?_ ?_ ?_ ((hP h F F2).1 p0)).mono λrr U ⟨er,W3,f3,p3⟩=>?_
    ·rcases HO ay with ho|⟨cr,b4⟩
     ·exact .inl ho
     ·refine .inr ⟨cr,λU f3 p3=>b4 U ?_ p3⟩;exact(e1.fr.trans (f2.mono λc _ hc=>.inr hc)).after f3 λc _ hc=>.inl hc
    ·exact λc hc=>by have:=qo c hc;exact⟨ae,this.2.1,this.2.2.2⟩
    ·exact λg g' f=>hP g g' (f.mono λc _ hc=>hc.elim (λh=>.inr (.inl h)) λh=>.inr (.inr (.inr ae)))
    ·subst er;have al:=f3.1;have q3:∀c,qD Q h1 F c→¬(B c∨Qo c):=λc hc hb=>hc.elim (λh=>hb.elim (λhb=>aa c hb h) λhb=>(qo c hb).2.2.1 h) λh=>hb.elim (λhb=>by have:=bl c hb;omega) λhb=>by have:=(qo c hb).1;omega
     refine L (ev:=(1,ce d,0,0)) (f3.row e2 λhc=>hc.elim (λh=>(ad _ h).2 rfl) λh=>by have:=(qo _ h).1;omega) (ax.trans (f3.mono λc _ hc=>hc.elim (λh=>.inr (.inl h)) λh=>.inr (.inr (.inr h)))) W3 (Q2.fr f3 q3)
      (λc hc=>hc.elim (λh=>ad c h) λh=>⟨.inr ae,ae⟩) aw (λc hc hq=>?_) (Cv.same W) (λ_=>p3) (λh=>absurd ay h) (by unfold cL;rw[az s1,az s2,aA g0])
     rcases hc with G|G
     ·exact bg c G hq
     ·rcases hq with h8|h8
      ·have:=an c h8;omega
      ·omega
   ·have ab:¬wg w d:=λh=>g0 h.2
    refine ao (λg2=>?_) (λg2=>?_)
    ·obtain⟨⟨bc,b7,bd,r2,o2,J2,k1,k2,k3⟩,_,l2,z2,b5,I2,_⟩:=H2;rw[W]at J2;have b0:b7=.pointer none:=J2;subst b0
     try simp only[go_sem]
     refine b9 r2 (by simp) rfl λU r3 u3=>?_
     have r3:U[bw]? =some (.cells #[af 2,bc,.pointer none,af w.words] 182 (0,0)):=r3;have al:=u3.1;simp only[go_sem,fL,bG];refine L (ev:=(3,0,0,0)) (w':={w with state:=2}) (B':=B) (u3.row ae e2) (ax.after u3.fr λc _ hc=>.inr (.inl (hc▸w0))) ⟨⟨bc,.pointer none,bd,r3,o2.fr u3.fr λc hc he=>(k1 c hc).2.2 he,?_,k1,k2,k3⟩,w0,λc hc=>by rw[al];exact l2 c hc,bz,λc hc=>by rw[al];exact b5 c hc,I2.fr u3.fr λc hc _=>by rw[show c=bw from hc];exact(bz _ w0).2,.inr ⟨.inr rfl,W⟩⟩
      (Q2.fr u3.fr λc hc he=>bg bw w0 (he▸hc)) ad aw bg (Cv.same W) (λh=>absurd h ab) (λ_=>(hP F U (u3.fr.mono λc _ hc=>.inr (.inl (hc▸w0)))).1 ((hP h F F2).1 p0)) (by unfold cL;rw[az s1,az s2,az g0,aA g2])
     show jD Z bd U E n (.pointer none) w.job;rw[W];rfl
    ·simp only[go_sem,fE,bG];exact L (ev:=(0,0,0,0)) e2 ax H2 Q2 ad aw bg (Cv.same W) (λh=>absurd h ab) (λ_=>(hP h F F2).1 p0) (by unfold cL;rw[az s1,az s2,az g0,az g2])
theorem zaf {h:ah}{Z:Nat→Prop}{v:Value}{l:List Int}(H:Rp.Sl (Rp.int .i64) Z h v l)(hl:l.length≤1000000000):
  ag prog iH #[v] h λr h'=>New (Rp.int .i64) h h' r l:=by
 apply vu;unfold kS;obtain⟨ds,⟨A,a,cap,rfl,D⟩,hz,he⟩:=H;rw[Jg,aj];cases a with
 | none=>
  have:l=[]:=by
   rcases D with D|⟨b,o,h0,_⟩
   ·subst D;have W:([]:List Value).length=l.length*1:=A;exact mX (by simpa using W.symm)
   ·cases h0
  subst this;simp only[Rn,go_sem];exact New.nil (Ext.refl _)
 |some a=>
  simp only[Rm,go_sem];refine da (c':=#[]) rfl λb h1 r1 L n1=>?_
  have O:Rp.Ow (Rp.int .i64) (λ_=>False) h1 (.slice (some ⟨b,0,none⟩) 0 0) []:=⟨[],.inr ⟨b,0,[],_,rfl,bU _,rfl,rfl,r1⟩,λb hb G=>G,λi hi=>absurd hi (by simp)⟩
  have S1:SlC 1 h1 (.slice (some a) l.length cap) l.length ds:=SlC.ext ⟨A,some a,cap,rfl,D⟩ L;refine Rp.app_ow (e:=(Rp.int .i64)) (l:=[]) (l2:=l) O S1 (λi hi=>he i hi) rfl (by simp;omega) (by simp;omega) (λb hb=>hb.elim) λv2 W U f2 n2=>?_
  rw[fB]at U;have nb:∀k,blk (.slice (some ⟨b,0,none⟩) 0 0) k→h.size≤k:=λk I=>by have:k=b:=I;omega
  refine⟨U,L.then_fr f2 nb,λk I=>?_⟩;rcases n2 k I with F|F
  ·exact nb k F
  ·exact bh L.1 F
theorem zbC (H:IsW Z B h bw E n w)(F:w.tiles.length≤1000000):ag prog ku #[ptr bw] h λr h'=>New (Rp.int .i64) h h' r w.tiles:=by
 apply yR;unfold nN;obtain⟨⟨tv,D,G,r,o,J,a1,a2,a3⟩,w0,bl,bz,zl,I,st⟩:=H;have A:aG h ⟨bw,1,none⟩=some tv:=am r;simp only[go_sem,A];exact zaf (Eu (k:=.i64) (l:=w.tiles) o) ae
end
end
end Go.Proofs.YtjljhnandbbldaaGreatDoor
