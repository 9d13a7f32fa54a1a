/- Several texts of this session, one behind the other, without what this claim does not need (put together by its program pack.py). Conditions: none. -/
import Derived.Test.YtcoimlclclnlkaaGreatDoorMs3
import Derived.Test.YtcoimlclclnlkaaGreatDoorProg
import Derived.Shelf.Slices.Delete
set_option linter.unusedVariables false
set_option linter.unusedSimpArgs false
set_option maxRecDepth 100000
namespace Go.Proofs.YtcoimlclclnlkaaGreatDoor
open Go Go.Crisp
attribute [local irreducible] ae cF aP stK aA vK qK bD gK dE aS mkK cG Cn DS Ad bsK clK qN lS R9
open _root_.Go.Proofs.Tryz
section
def nJ (B:Nat→Prop)(h h':af):Nat→Prop:=λc=>B c∨(h.size≤c∧c<h'.size)
structure jm (Z B:Nat→Prop)(h:af)(bj bf:Nat)(vf:Value)(bt:Nat)(vt p q rv:Value)(d:em)(y e:Int)(n:Pic)(room w:Nat):Prop where
 at_:∃M rs,dK Z M h bj bf vf bt vt p q rv d y n room w rs∧(∀c,M c→B c)∧(y<d.t.y+d.t.h→Ep (BD d) rs (lnF d.s.y y) e∧lnF d.s.y y≤e∧e≤lnE d.s.y y)
 bj0:B bj
 bl:∀c,B c→c<h.size
 bz:∀c,B c→¬Z c∧c≠bt∧¬blk vt c
 out:En d n
theorem jm.ext {Z B:Nat→Prop}{h h':af}{bj bf:Nat}{vf:Value}{bt:Nat}{vt p q rv:Value}{d:em}{y e:Int}{n:Pic}{room w:Nat}(S:jm Z B h bj bf vf bt vt p q rv d y e n room w)(k:Ext h h'):jm Z B h' bj bf vf bt vt p q rv d y e n room w:=by
 obtain⟨⟨M,rs,J,a,b⟩,c,f,g,o⟩:=S;exact⟨⟨M,rs,J.ext k,a,b⟩,c,λc hc=>Nat.lt_of_lt_of_le (f c hc) k.1,g,o⟩
theorem dK.chg {Z M Q:Nat→Prop}{h h':af}{bj bf:Nat}{vf:Value}{bt:Nat}{vt p q rv:Value}{d:em}{y:Int}{n n':Pic}{room w:Nat}{rs:List (Int×List Int)}(J:dK Z M h bj bf vf bt vt p q rv d y n room w rs)(f:Fr Q h h')
  (A:∀c,Z c→¬Q c) (G:∀c,M c→¬Q c) (F:¬Q bj) (I:cA h' bt vt n'):dK Z M h' bj bf vf bt vt p q rv d y n' room w rs:=
 ⟨f.row J.row F,J.src.fr f (A _ J.zf.1) λc hc=>A _ (J.zf.2 c hc),J.tx.fr f λc _ D=>A c D,J.ty.fr f λc _ D=>A c D,J.ring.fr f λc _ H=>G c H,I,J.zf,J.zz,J.mj,J.jt,J.y0,J.y1,λc hc=>Nat.lt_of_lt_of_le (J.zl c hc) f.1⟩
theorem jm.other {Z B Q:Nat→Prop}{h h':af}{bj bf:Nat}{vf:Value}{bt:Nat}{vt p q rv:Value}{d:em}{y e:Int}{n n':Pic}{room w:Nat}(S:jm Z B h bj bf vf bt vt p q rv d y e n room w)(f:Fr Q h h')
  (A:∀c,Z c→¬Q c) (qb:∀c,B c→¬Q c) (I:cA h' bt vt n') (O:En d n'):jm Z B h' bj bf vf bt vt p q rv d y e n' room w:=by
 obtain⟨⟨M,rs,J,a,b⟩,c,l,g,o⟩:=S;exact⟨⟨M,rs,J.chg f A (λk D=>qb k (a k D)) (qb _ c) I,a,b⟩,c,λc hc=>Nat.lt_of_lt_of_le (l c hc) f.1,g,O⟩
theorem jm.img {Z B:Nat→Prop}{h:af}{bj bf:Nat}{vf:Value}{bt:Nat}{vt p q rv:Value}{d:em}{y e:Int}{n:Pic}{room w:Nat}(S:jm Z B h bj bf vf bt vt p q rv d y e n room w):cA h bt vt n:=by
 obtain⟨⟨M,rs,J,a,b⟩,_⟩:=S;exact J.out
theorem jm.src {Z B:Nat→Prop}{h:af}{bj bf:Nat}{vf:Value}{bt:Nat}{vt p q rv:Value}{d:em}{y e:Int}{n:Pic}{room w:Nat}(S:jm Z B h bj bf vf bt vt p q rv d y e n room w):cA h bf vf d.m:=by
 obtain⟨⟨M,rs,J,a,b⟩,_⟩:=S;exact J.src
theorem dK.frq {Z M Q:Nat→Prop}{h h':af}{bj bf:Nat}{vf:Value}{bt:Nat}{vt p q rv:Value}{d:em}{y:Int}{n:Pic}{room w:Nat}{rs:List (Int×List Int)}(J:dK Z M h bj bf vf bt vt p q rv d y n room w rs)(f:Fr Q h h')
  (A:∀c,Z c→¬Q c) (H:∀c,M c→¬Q c) (G:¬Q bj) (L:¬Q bt) (F:∀c,blk vt c→¬Q c):dK Z M h' bj bf vf bt vt p q rv d y n room w rs:=
 ⟨f.row J.row G,J.src.fr f (A _ J.zf.1) λc hc=>A _ (J.zf.2 c hc),J.tx.fr f λc _ D=>A c D,J.ty.fr f λc _ D=>A c D,J.ring.fr f λc _ I=>H c I,J.out.fr f L F,J.zf,J.zz,J.mj,J.jt,J.y0,J.y1,λc hc=>Nat.lt_of_lt_of_le (J.zl c hc) f.1⟩
structure V5 (d:em)(room w:Nat):Prop where
 mono:Ap d.s.y
 fit:bX d.s.y.lines≤room
 one:1≤room
 wid:(w:Int)=d.t.w*d.m.c
 small:d.t.w≤300
def bM (d:em)(y e:Int):Int:=if d.t.y+d.t.h≤y then 0 else if e<lnE d.s.y y then 1 else 2
def gi (d:em)(y e:Int):Int:=if d.t.y+d.t.h≤y then 0 else if e<lnE d.s.y y then e else y
def eU (d:em)(y e:Int):Int:=if bM d y e=2 then y+1 else y
def gj (d:em)(y e:Int):Int:=if bM d y e=1 then e+1 else if bM d y e=2 then max e (lnF d.s.y (y+1))else e
section
variable {Z B:Nat→Prop}{h:af}{bj bf:Nat}{vf:Value}{bt:Nat}{vt p q rv:Value}{d:em}{y e:Int}{n:Pic}{room w:Nat}
theorem JW (S:jm Z B h bj bf vf bt vt p q rv d y e n room w)(W:d.Wf):ae prog gv #[ptr bj] h λr h'=>r=y5 (bM d y e) (gi d y e)∧Ext h h':=by
 obtain⟨⟨M,rs,J,a,b⟩,c,f,g,o⟩:=S;refine(TX J W).mono λr h' ⟨k,j,G,A,E⟩=>⟨?_,E⟩
 rw[G];unfold Qa at A;unfold bM gi;by_cases D:d.t.y+d.t.h≤y
 ·rw[if_pos D]at A;rw[if_pos D,if_pos D,A.1,A.2]
 ·rw[if_neg D]at A;rw[if_neg D,if_neg D];obtain⟨H,h1,F⟩:=b (by omega);rcases A with⟨rfl,A⟩|⟨rfl,rfl,A⟩
  ·rcases H.next h1 F A with⟨a1,_,a3⟩|⟨_,a2,_⟩
   ·rw[if_pos a1,if_pos a1,a3]
   ·cases a2
  ·rcases H.next h1 F A with⟨_,a2,_⟩|⟨a1,_,_⟩
   ·cases a2
   ·rw[if_neg (by omega),if_neg (by omega)]
theorem NF (S:jm Z B h bj bf vf bt vt p q rv d y e n room w)(W:d.Wf)(R:V5 d room w):ae prog fm #[ptr bj] h λr h'=>
  r=y5 (bM d y e) (gi d y e)∧∃n',jm Z (nJ B h h') h' bj bf vf bt vt p q rv d (eU d y e) (gj d y e) n' room w∧Fr (λc=>blk vt c∨B c) h h'∧
   (bM d y e≠2→n'=n)∧(bM d y e=2→∀L F c',inP n L F c'→atP n' L F c'=if uN d y w L F c' then ui d.m d.s L F c' else atP n L F c'):=by
 apply BK;unfold rn;refine aC λb1 h1 r1 e1 n1=>?_
 have S1:=S.ext e1;refine(JW S1 W).mono λr h2 ⟨er,e2⟩=>?_
 subst er;refine cD (cs:=[.int .i64 (bM d y e),.int .i64 (gi d y e)]) rfl (ak rfl (ak rfl aQ)) rfl λb3 h3 r3 e3 n3=>?_
 have E3:=e1.trans (e2.trans e3);have S3:=S.ext E3;have bv:b1<b3:=by have:=aU r1;have:=e2.1;omega
 have l3:=aU r3;have l1:b1<h3.size:=by omega
 have aw:=(e2.trans e3).row r1;have cc:=E3.1
 -- the end of a step: the move is handed on
 have fin:∀{U:af} {n':Pic},Fr (λc=>(blk vt c∨B c)∧c≠b1∧c≠b3) h3 U→
   ((bM d y e≠2→n'=n)∧(bM d y e=2→∀L F c',inP n L F c'→atP n' L F c'=if uN d y w L F c' then ui d.m d.s L F c' else atP n L F c'))→(∀D,Upd b1 U D→jm Z (nJ B h D) D bj bf vf bt vt p q rv d (eU d y e) (gj d y e) n' room w)→
   vK (aH 2 U (ptr b3)) λa8=>stK 2 (ptr b1) a8 U λ_ ab=>vK (aH 2 ab (ptr b1)) λbi=>bi=y5 (bM d y e) (gi d y e)∧∃n',jm Z (nJ B h ab) ab bj bf vf bt vt p q rv d (eU d y e) (gj d y e) n' room w∧Fr (λc=>blk vt c∨B c) h ab∧
    (bM d y e≠2→n'=n)∧(bM d y e=2→∀L F c',inP n L F c'→atP n' L F c'=if uN d y w L F c' then ui d.m d.s L F c' else atP n L F c'):=by
  intro U n' f4 au ax;have bg:=f4.row r3 λG=>G.2.2 rfl
  have a7:=f4.row aw λG=>G.2.1 rfl
  rw[aI (l:=[.int .i64 (bM d y e),.int .i64 (gi d y e)]) bg 2 rfl,ah];refine ce (l:=[.int .i64 (bM d y e),.int .i64 (gi d y e)]) a7 rfl (ak rfl (ak rfl aQ)) rfl λD r5 u5=>?_
  rw[aI r5 2 rfl,ah];exact⟨rfl,n',ax D u5,((E3.fr (M:=λc=>blk vt c∨B c)).after f4 λc _ hc=>hc.1).after u5.fr (λc hc he=>by omega),au.1,au.2⟩
 obtain⟨⟨M,rs,J,aa,hH⟩,ad,bd,bo,hO⟩:=S;have J3:=J.ext E3
 -- a block that is new lies apart from a job
 have ap:∀{b:Nat} {M':Nat→Prop},h.size≤b→b<h3.size→(∀c,M' c→M c∨h3.size≤c)→(∀c,Z c→¬c=b)∧(∀c,M' c→¬c=b)∧¬bj=b∧¬bt=b∧∀c,blk vt c→¬c=b:=by
  intro b M' hb b7 bk;refine⟨λc hc he=>?_,λc hc he=>?_,λhe=>?_,λhe=>?_,λc hc he=>?_⟩
  ·have:=J.zl c hc;omega
  ·rcases bk c hc with U|U
   ·have:=J.ring.lt U;omega
   ·omega
  ·have:=aU J.row;omega
  ·have:=J.out.lt;omega
  ·have:=J.out.ltv hc;omega
 have ar:h.size≤b1:=n1;have ci:h.size≤b3:=by omega
 -- what is its own, at last
 have gz:∀{D:af},∀c,nJ B h D c→¬Z c∧c≠bt∧¬blk vt c:=λc hc=>by
  rcases hc with hc|hc
  ·exact bo c hc
  ·refine⟨λhz=>?_,λhe=>?_,λhv=>?_⟩
   ·have:=J.zl c hz;omega
   ·have:=J.out.lt;omega
   ·have:=J.out.ltv hv;omega
 have gl:∀{D:af},h.size≤D.size→∀c,nJ B h D c→c<D.size:=λhs c hc=>by
  rcases hc with hc|hc
  ·exact Nat.lt_of_lt_of_le (bd c hc) hs
  ·exact hc.2
 simp only[go_sem,Nat.zero_add];have c0:aB h3 ⟨b3,0,none⟩=some (.int .i64 (bM d y e)):=ai r3;have c1:aB h3 ⟨b3,1,none⟩=some (.int .i64 (gi d y e)):=ai r3;simp only[go_sem,c0,c1];refine aj (λI=>?_) (λI=>?_)
 ·-- a row is filtered
  have an:¬d.t.y+d.t.h≤y:=λh=>by unfold bM at I;rw[if_pos h]at I;cases I
  have al:e<lnE d.s.y y:=by
   unfold bM at I;rw[if_neg an]at I;rcases Int.lt_or_le e (lnE d.s.y y)with h|h
   ·exact h
   ·rw[if_neg (by omega)]at I;cases I
  have hj:gi d y e=e:=by unfold gi;rw[if_neg an,if_pos al]
  have hy:eU d y e=y:=by unfold eU;rw[if_neg (by omega)]
  have he:gj d y e=e+1:=by unfold gj;rw[if_pos I]
  obtain⟨H,a1,a2⟩:=hH (by omega);have hl:=kF W.s.y y;rw[hy,he]at fin ⊢;rw[hj]at fin ⊢;refine(VI J3 W (j:=e) (by unfold lnF at a1;unfold lnE at al;unfold I64;omega) R.small).mono λr U ⟨M',J4,f4,m4⟩=>?_
  have b8:=R.fit;have b0:=R.mono.m y;have bc:=J3.ring.nums;have ay:(BD d e).length=w:=by
   have D:=R.wid;have hf:=cq W.m.fits;have b5:=W.w1;unfold BD;rw[yG];have:((d.t.w.toNat*d.m.c.toNat:Nat):Int)=d.t.w*d.m.c:=by rw[Int.natCast_mul,Int.toNat_of_nonneg (by omega),Int.toNat_of_nonneg (by omega)]
   omega
  have HP:=H.put (E:=lnE d.s.y y) (room:=room) (w:=w) a1 al (by unfold lnF lnE;omega) R.one bc.2.2.2.1 ay;have ap1:=ap ar l1 m4;have a9:=f4.1;refine fin (f4.mono λc hc G=>⟨.inr (aa c G),λD=>by have:=J.ring.lt G;omega,λD=>by have:=J.ring.lt G;omega⟩) ⟨λ_=>rfl,λD=>by omega⟩ λD u5=>
   ⟨⟨M',_,J4.frq u5.fr ap1.1 ap1.2.1 ap1.2.2.1 ap1.2.2.2.1 ap1.2.2.2.2,λc hc=>?_,λ_=>⟨HP.1,by omega,by omega⟩⟩,.inl ad,gl (by rw[u5.1];omega),gz,hO⟩
  rcases m4 c hc with h6|h6
  ·exact .inl (aa c h6)
  ·have:=J4.ring.lt hc;exact .inr ⟨by omega,by rw[u5.1];exact this⟩
 refine aj (λA=>?_) (λA=>?_)
 ·-- a row is written
  have an:¬d.t.y+d.t.h≤y:=λh=>by unfold bM at A;rw[if_pos h]at A;cases A
  obtain⟨H,a1,a2⟩:=hH (by omega);have be:e=lnE d.s.y y:=by
   unfold bM at I;rw[if_neg an]at I;rcases Int.lt_or_le e (lnE d.s.y y)with h|h
   ·rw[if_pos h]at I;exact absurd rfl I
   ·omega
  have hy:eU d y e=y+1:=by unfold eU;rw[if_pos A]
  have he:gj d y e=max e (lnF d.s.y (y+1)):=by unfold gj;rw[if_neg I,if_pos A]
  rw[hy,he]at fin ⊢;refine(Xg J3 W hO R.small (by omega) R.wid λk b4=>H.inn _ (by unfold lnF;omega) (by rw[be];unfold lnE;omega)).mono λr U ⟨n',J4,O4,A4,f4⟩=>?_
  have ap1:=ap (M':=M) ar l1 λc hc=>.inl hc
  have G:=R.mono;have ca:=J.y0;have b6:=W.y0;have cb:=W.yh;have a9:=f4.1;refine fin (f4.mono λc hc G=>?_) ⟨λD=>absurd A D,λ_=>A4⟩ λD u5=>
   ⟨⟨M,_,J4.frq u5.fr ap1.1 ap1.2.1 ap1.2.2.1 ap1.2.2.2.1 ap1.2.2.2.2,λc hc=>.inl (aa c hc),λal=>?_⟩,.inl ad,gl (by rw[u5.1];omega),gz,O4⟩
  ·rcases G with G|G
   ·have:=J.out.ltv G;exact⟨.inl G,by omega,by omega⟩
   ·have:=aU J.row;exact⟨.inr (G▸ad),by omega,by omega⟩
  ·have g1:=G.f y (y+1) (by omega) (by omega) (by omega);have g2:=G.e y (y+1) (by omega) (by omega) (by omega);refine⟨H.move g1,by omega,?_⟩;have:lnF d.s.y (y+1)≤lnE d.s.y (y+1):=by unfold lnF lnE;omega
   omega
 ·-- it is over
  have b2:bM d y e=0:=by
   unfold bM at*;by_cases U:d.t.y+d.t.h≤y
   ·rw[if_pos U]
   ·rw[if_neg U]at*;by_cases D:e<lnE d.s.y y
    ·rw[if_pos D]at I;exact absurd rfl I
    ·rw[if_neg D]at A;exact absurd rfl A
  have hy:eU d y e=y:=by unfold eU;rw[if_neg A]
  have he:gj d y e=e:=by unfold gj;rw[if_neg I,if_neg A]
  rw[hy,he]at fin ⊢;have ap1:=ap (M':=M) ar l1 λc hc=>.inl hc
  exact fin (Fr.refl _ _) ⟨λ_=>rfl,λD=>absurd D A⟩ λD u5=>⟨⟨M,rs,J3.frq u5.fr ap1.1 ap1.2.1 ap1.2.2.1 ap1.2.2.2.1 ap1.2.2.2.2,λc hc=>.inl (aa c hc),hH⟩,.inl ad,gl (by rw[u5.1];omega),gz,hO⟩
end
end
theorem pe_ne {h:af}{a b:Nat}{c c':Array Value}{t G:TypeId}(D:h[a]? =some (.cells c t (0,0)))(F:h[b]? =some (.cells c' G (0,0)))(A:a≠b):peV h .neq (ptr a) (ptr b)=some (.bool true):=by
 have h1:¬(⟨a,0,none⟩:Addr)=⟨b,0,none⟩:=λhh=>A (by injection hh)
 have H:lM h a=true:=by unfold lM;rw[D];rfl
 have I:lM h b=true:=by unfold lM;rw[F];rfl
 show(if(⟨a,0,none⟩:Addr)=⟨b,0,none⟩then some (Value.bool false)else if lM h a&&lM h b then some (.bool true)else none)=_;rw[if_neg h1,H,I];rfl
def jK (m n:Pic)(s:Stg):Prop:=lG m s∧n.w=s.x.lines.length∧n.h=s.y.lines.length∧n.c=m.c∧n.most=m.most
instance (m n:Pic)(s:Stg):Decidable (jK m n s):=by unfold jK;infer_instance
theorem Vp {h:af}(G:dA h){Z:Nat→Prop}{bf bt:Nat}{vf vt sv:Value}{m n:Pic}{s:Stg}(I:cA h bf vf m)(O:cA h bt vt n)(W:bf≠bt)(HS:mV Z h sv s):
  ae prog sw #[ptr bf,ptr bt,sv] h λr h'=>r=.bool (decide (jK m n s))∧Ext h h':=by
 apply Gm;unfold w8;obtain⟨p,q,rfl,hp,hq,aa⟩:=gX HS;simp only[bC];refine aC λb1 h1 r1 F n1=>?_
 refine aG (λh'=>h'=h1) rfl ?_;simp only[go_sem,QB];refine ao (.bool true) (λh' e=>by rw[e];exact pe_ne (F.row I.row) (F.row O.row) W) ?_
 try simp only[go_sem]
 refine ao (.agg #[p,q,.int .i64 s.border]) (λh' e=>by rw[e];exact aI (l:=[p,q,.int .i64 s.border]) r1 3 rfl) ?_;refine ae.to (GS (G.ext F) (I.ext F) (HS.ext F)) λH e2=>?_
 have A:=F.trans e2;have r2:=e2.row r1;have c0:aB H ⟨b1,0,none⟩=some p:=ai r2;have c1:aB H ⟨b1,1,none⟩=some q:=ai r2;by_cases g1:lG m s
 case neg=>
  rw[decide_eq_false g1,decide_eq_false λD:jK m n s=>g1 D.1];refine aG (λh'=>h'=H) rfl ?_;simp only[go_sem];refine ao undef (λ_ _=>rfl) ?_
  try simp only[go_sem]
  refine⟨trivial,?_⟩
  try simp only[go_sem]
  refine aG (λh'=>h'=H) rfl ?_;simp only[go_sem];refine ao undef (λ_ _=>rfl) ?_
  try simp only[go_sem]
  refine⟨trivial,?_⟩
  try simp only[go_sem]
  exact⟨trivial,A⟩
 rw[decide_eq_true g1];refine aG (λh'=>h'=H) rfl ?_;simp only[go_sem,Nat.zero_add];refine ao p (λh' e=>by rw[e];exact c0) ?_
 try simp only[go_sem]
 refine ae.at (nV (O.ext A)) ?_;refine⟨rfl,?_⟩
 try simp only[go_sem]
 refine ae.at (AD (hp.ext A)) ?_;refine aG (λh'=>h'=H) rfl ?_;by_cases g2:n.w=s.x.lines.length
 case neg=>
  rw[decide_eq_false λD:jK m n s=>g2 D.2.1];simp only[go_sem,decide_eq_false g2];refine ao undef (λ_ _=>rfl) ?_
  try simp only[go_sem]
  refine⟨trivial,?_⟩
  try simp only[go_sem]
  exact⟨trivial,A⟩
 simp only[go_sem,Nat.zero_add,g2,eqT];refine ao q (λh' e=>by rw[e];exact c1) ?_
 try simp only[go_sem]
 refine ae.at (lW (O.ext A)) ?_;refine⟨rfl,?_⟩
 try simp only[go_sem]
 refine ae.at (AD (hq.ext A)) ?_;by_cases L:n.h=s.y.lines.length
 case neg=>
  rw[decide_eq_false λD:jK m n s=>L D.2.2.1];simp only[go_sem,decide_eq_false L];exact⟨trivial,A⟩
 simp only[go_sem,Nat.zero_add,L,eqT];refine ae.at (dC (O.ext A)) (ae.at (dC (I.ext A)) ?_);by_cases U:n.c=m.c
 case neg=>
  rw[decide_eq_false λD:jK m n s=>U D.2.2.2.1];simp only[go_sem,decide_eq_false U];exact⟨trivial,A⟩
 simp only[go_sem,Nat.zero_add,U,eqT];refine ae.at (nG (O.ext A)) (ae.at (nG (I.ext A)) ?_);simp only[go_sem];refine⟨?_,A⟩
 congr 1
 rw[decide_eq_decide];exact⟨λg5=>⟨g1,g2,L,U,g5⟩,λD=>D.2.2.2.2⟩
abbrev rectV (x y w hh:Int):Value:=.agg #[.int .i64 x,.int .i64 y,.int .i64 w,.int .i64 hh]
def dO (s:Stg)(x y w hh:Int):Prop:=1≤w∧1≤hh∧0≤x∧0≤y∧x<s.x.lines.length∧y<s.y.lines.length∧w≤s.x.lines.length-x∧hh≤s.y.lines.length-y
instance (s:Stg)(x y w hh:Int):Decidable (dO s x y w hh):=by unfold dO;infer_instance
theorem PC {h:af}{Z:Nat→Prop}{sv:Value}{s:Stg}(HS:mV Z h sv s)(U:s.Wf){x y w hh:Int}:
  ae prog kH #[sv,rectV x y w hh] h λr h'=>r=.bool (decide (dO s x y w hh))∧Ext h h':=by
 apply EH;unfold uP;obtain⟨p,q,rfl,L,hq,aa⟩:=gX HS;have lx:=U.x.len;have ly:=U.y.len;simp only[bC];refine aC λb1 h1 r1 e1 n1=>aC λb2 h2 r2 W n2=>?_
 have r1:=W.row r1;have E:=e1.trans W;have np:=(Et L).1;have nq:=(Et hq).1;refine aG (λh'=>h'=h2) rfl ?_;simp only[go_sem,Nat.zero_add];refine ao p (λh' e=>by rw[e];exact ai r1) ?_;simp only[go_sem,Nat.zero_add,np];refine ao q (λh' e=>by rw[e];exact ai r1) ?_;simp only[go_sem,Nat.zero_add,nq];refine ao (.int .i64 w) (λh' e=>by rw[e];exact ai r2) ?_;by_cases g1:1≤w
 case neg=>
  rw[decide_eq_false λA:dO s x y w hh=>g1 A.1];simp only[go_sem,decide_eq_false g1]
  repeat(first|refine ao undef (λ_ _=>rfl) ?_ |(refine⟨trivial,?_⟩)|simp only[go_sem])
  first|exact E|exact⟨trivial,E⟩|exact⟨rfl,E⟩
 simp only[go_sem,Nat.zero_add,decide_eq_true g1];refine ao (.int .i64 hh) (λh' e=>by rw[e];exact ai r2) ?_;by_cases g2:1≤hh
 case neg=>
  rw[decide_eq_false λA:dO s x y w hh=>g2 A.2.1];simp only[go_sem,decide_eq_false g2]
  repeat(first|refine ao undef (λ_ _=>rfl) ?_ |(refine⟨trivial,?_⟩)|simp only[go_sem])
  first|exact E|exact⟨trivial,E⟩|exact⟨rfl,E⟩
 simp only[go_sem,Nat.zero_add,decide_eq_true g2];refine ao (.int .i64 x) (λh' e=>by rw[e];exact ai r2) ?_;by_cases D:0≤x
 case neg=>
  rw[decide_eq_false λA:dO s x y w hh=>D A.2.2.1];simp only[go_sem,decide_eq_false D]
  repeat(first|refine ao undef (λ_ _=>rfl) ?_ |(refine⟨trivial,?_⟩)|simp only[go_sem])
  first|exact E|exact⟨trivial,E⟩|exact⟨rfl,E⟩
 simp only[go_sem,Nat.zero_add,decide_eq_true D];refine ao (.int .i64 y) (λh' e=>by rw[e];exact ai r2) ?_;by_cases I:0≤y
 case neg=>
  rw[decide_eq_false λA:dO s x y w hh=>I A.2.2.2.1];simp only[go_sem,decide_eq_false I]
  repeat(first|refine ao undef (λ_ _=>rfl) ?_ |(refine⟨trivial,?_⟩)|simp only[go_sem])
  first|exact E|exact⟨trivial,E⟩|exact⟨rfl,E⟩
 simp only[go_sem,Nat.zero_add,decide_eq_true I];refine ao (.int .i64 x) (λh' e=>by rw[e];exact ai r2) ?_;refine ao p (λh' e=>by rw[e];exact ai r1) ?_
 try simp only[go_sem]
 refine ae.at (AD (L.ext E)) ?_;refine⟨rfl,?_⟩;by_cases H:x<(s.x.lines.length:Int)
 case neg=>
  rw[decide_eq_false λA:dO s x y w hh=>H A.2.2.2.2.1];simp only[go_sem,decide_eq_false H]
  repeat(first|refine ao undef (λ_ _=>rfl) ?_ |(refine⟨trivial,?_⟩)|simp only[go_sem])
  first|exact E|exact⟨trivial,E⟩|exact⟨rfl,E⟩
 simp only[go_sem,Nat.zero_add,decide_eq_true H];refine ao (.int .i64 y) (λh' e=>by rw[e];exact ai r2) ?_;refine ao q (λh' e=>by rw[e];exact ai r1) ?_
 try simp only[go_sem]
 refine ae.at (AD (hq.ext E)) ?_;refine⟨rfl,?_⟩;by_cases F:y<(s.y.lines.length:Int)
 case neg=>
  rw[decide_eq_false λA:dO s x y w hh=>F A.2.2.2.2.2.1];simp only[go_sem,decide_eq_false F]
  repeat(first|refine ao undef (λ_ _=>rfl) ?_ |(refine⟨trivial,?_⟩)|simp only[go_sem])
  first|exact E|exact⟨trivial,E⟩|exact⟨rfl,E⟩
 simp only[go_sem,Nat.zero_add,decide_eq_true F];refine ao (.int .i64 w) (λh' e=>by rw[e];exact ai r2) ?_;refine ao p (λh' e=>by rw[e];exact ai r1) ?_;refine ao (.int .i64 x) (λh' e=>by rw[e];exact ai r2) ?_
 try simp only[go_sem]
 refine ae.at (AD (L.ext E)) ?_;refine⟨rfl,?_⟩;simp only[go_sem,Nat.zero_add];rw[w64 (by omega) (by omega)];by_cases G:w≤(s.x.lines.length:Int)-x
 case neg=>
  rw[decide_eq_false λA:dO s x y w hh=>G A.2.2.2.2.2.2.1];simp only[go_sem,decide_eq_false G]
  repeat(first|refine ao undef (λ_ _=>rfl) ?_ |(refine⟨trivial,?_⟩)|simp only[go_sem])
  first|exact E|exact⟨trivial,E⟩|exact⟨rfl,E⟩
 simp only[go_sem,Nat.zero_add,decide_eq_true G];refine ao (.int .i64 hh) (λh' e=>by rw[e];exact ai r2) ?_;refine ao q (λh' e=>by rw[e];exact ai r1) ?_;refine ao (.int .i64 y) (λh' e=>by rw[e];exact ai r2) ?_
 try simp only[go_sem]
 refine ae.at (AD (hq.ext E)) ?_;refine⟨rfl,?_⟩;simp only[go_sem,Nat.zero_add];rw[w64 (by omega) (by omega)];refine⟨?_,E⟩
 congr 1
 rw[decide_eq_decide];exact⟨λg8=>⟨g1,g2,D,I,H,F,G,g8⟩,λA=>A.2.2.2.2.2.2.2⟩
abbrev XT:Array Value:=#[(.pointer none),(.pointer none),(.pointer none),(.pointer none),(.int .i64 0),(.int .i64 0),(.int .i64 0),(.int .i64 0),(.int .i64 0),(.int .i64 0),(.int .i64 0),(.int .i64 0),(.int .i64 0),(.int .i64 0),(.int .i64 0),(.pointer none),(.int .i64 0)]
theorem Vc {bf bt:Nat}{p q rv:Value}{d:em}{y:Int}(A:aJ rv=true):
  aE XT [(0,1,ptr bf),(1,1,ptr bt),(2,3,.agg #[p,q,.int .i64 d.s.border]),(5,10,.agg (cS d.t).toArray),(15,1,rv),(16,1,.int .i64 y)]=some (QV bf bt p q rv d y).toArray:=by
 refine(bI (n:=1) (l:=[ptr bf]) rfl rfl (by simp)).trans ?_;refine(bI (n:=1) (l:=[ptr bt]) rfl rfl (by simp[bZ])).trans ?_;refine(bI (n:=3) (l:=[p,q,.int .i64 d.s.border]) rfl rfl (by simp[bZ])).trans ?_;refine(bI (n:=10) (l:=cS d.t) rfl rfl (by simp[bZ])).trans ?_;refine(bI (n:=1) (l:=[rv]) (bU A) rfl (by simp[bZ])).trans ?_;refine(bI (n:=1) (l:=[.int .i64 y]) rfl rfl (by simp[bZ])).trans ?_;rw[fB];simp[wrL,cS,QV]
theorem D0 {h:af}{b:Nat}{l:List Value}{t:TypeId}{f:Nat×Nat}(r:h[b]? =some (.cells l.toArray t f))(o n:Nat)(m:List Value)(F:(l.drop o).take n=m)(A:m.length=n):aH n h (.pointer (some ⟨b,o,none⟩))=some (.agg m.toArray):=by
 subst F;refine D3 _ n A λj G=>?_
 rw[ai r];rw[List.length_take,List.length_drop]at G;have D:o+j<l.length:=by omega
 rw[List.getElem_take,List.getElem_drop];simp[D]
def lE (m n:Pic)(s:Stg)(t:cz):Int:=if¬jK m n s then 6 else if¬dO s t.x t.y t.w t.h then 9 else 0
theorem ng {m n:Pic}{s:Stg}{t:cz}:lE m n s t=0↔jK m n s∧dO s t.x t.y t.w t.h:=by
 unfold lE;by_cases h1:jK m n s
 ·rw[if_neg (by simpa using h1)];by_cases A:dO s t.x t.y t.w t.h
  ·rw[if_neg (by simpa using A)];exact⟨λ_=>⟨h1,A⟩,λ_=>rfl⟩
  ·rw[if_pos A];exact⟨λh=>absurd h (by decide),λh=>absurd h.2 A⟩
 ·rw[if_pos h1];exact⟨λh=>absurd h (by decide),λh=>absurd h.1 h1⟩
theorem Jo {m n:Pic}{s:Stg}{t:cz}(W:m.Wf)(A:s.Wf)(hc:lE m n s t=0):em.Wf ⟨m,s,t⟩:=by
 obtain⟨h1,D⟩:=ng.1 hc;obtain⟨a1,a2,a3,a4,a5,a6,F,G⟩:=D;exact⟨W,A,h1.1,a1,a2,a3,a4,by show t.x+t.w≤(s.x.lines.length:Int);omega,by show t.y+t.h≤(s.y.lines.length:Int);omega⟩
theorem Sc {m n:Pic}{s:Stg}{t:cz}(W:n.Wf)(hc:lE m n s t=0):En ⟨m,s,t⟩ n:=by
 obtain⟨h1,A⟩:=ng.1 hc;exact⟨W,h1.2.1,h1.2.2.1,h1.2.2.2.1,h1.2.2.2.2⟩
def RL (Z:Nat→Prop)(h:af)(bf:Nat)(vf:Value)(bt:Nat)(vt p q:Value)(m n:Pic)(s:Stg)(t:cz)(r:Value)(h':af):Prop:=
 Ext h h'∧∃v,r=.tuple #[v,.int .i64 (lE m n s t)]∧(lE m n s t≠0→v=.pointer none)∧
  (lE m n s t=0→∃bj rv,v=ptr bj∧jm Z (nJ (λ_=>False) h h') h' bj bf vf bt vt p q rv ⟨m,s,t⟩ t.y (lnF s.y t.y) n (jg (bX s.y.lines)) (fJ (t.w*m.c)))
theorem YJ {h:af}(G:dA h){Z:Nat→Prop}{bf bt:Nat}{vf vt p q:Value}{m n:Pic}{s:Stg}{t:cz}(I:cA h bf vf m)(O:cA h bt vt n)(aa:bf≠bt)(W:m.Wf)(WO:n.Wf)(hp:dZ Z h p s.x)(hq:dZ Z h q s.y)(WS:s.Wf)
  (zf:Z bf∧∀c,blk vf c→Z c) (zz:∀c,Z c→¬blk vt c) (zl:∀c,Z c→c<h.size):
  ae prog l8 #[ptr bf,ptr bt,.agg #[p,q,.int .i64 s.border],.agg (cS t).toArray] h (RL Z h bf vf bt vt p q m n s t):=by
 apply Kw;unfold AH;simp only[bC];have HS:mV Z h (.agg #[p,q,.int .i64 s.border]) s:=⟨p,q,rfl,hp,hq⟩
 refine aC λb1 h1 r1 e1 n1=>aC λb2 h2 r2 e2 n2=>?_
 have H:=e1.trans e2;have r1:=e2.row r1;rw[aI (l:=[p,q,.int .i64 s.border]) r1 3 rfl,ah];refine ae.to (Vp (G.ext H) (I.ext H) (O.ext H) aa (HS.ext H)) λh3 e3=>?_
 have E3:=H.trans e3;by_cases g1:jK m n s
 case neg=>
  have hc:lE m n s t=6:=by unfold lE;rw[if_pos g1]
  simp only[go_sem,decide_eq_false g1];exact⟨E3,_,by rw[hc],λ_=>rfl,λh0=>absurd (h0.symm.trans hc) (by decide)⟩
 simp only[go_sem,decide_eq_true g1];have r1:=e3.row r1;have r2:=e3.row r2;rw[aI (l:=[p,q,.int .i64 s.border]) r1 3 rfl,ah,D0 r2 (0+1) 4 [.int .i64 t.x,.int .i64 t.y,.int .i64 t.w,.int .i64 t.h] rfl rfl,ah];refine ae.to (PC (HS.ext E3) WS) λh4 e4=>?_
 have L:=E3.trans e4;by_cases g2:dO s t.x t.y t.w t.h
 case neg=>
  have hc:lE m n s t=9:=by unfold lE;rw[if_neg (by simpa using g1),if_pos g2]
  simp only[go_sem,decide_eq_false g2];exact⟨L,_,by rw[hc],λ_=>rfl,λh0=>absurd (h0.symm.trans hc) (by decide)⟩
 simp only[go_sem,decide_eq_true g2];have hc:lE m n s t=0:=ng.2 ⟨g1,g2⟩;have r1:=e4.row r1;have r2:=e4.row r2;have WJ:=Jo (t:=t) W WS hc;have hb:=em.bd WJ;have ad:=WJ.w1;have ab:=WJ.x0;have hf:=cq W.fits;refine aG (Ext h4) (Ext.refl _) ?_;refine ao (.agg #[p,q,.int .i64 s.border]) (λh' e=>aI (l:=[p,q,.int .i64 s.border]) (e.row r1) 3 rfl) ?_;refine ao (.agg (cS t).toArray) (λh' e=>aI (e.row r2) 10 rfl) ?_
 try simp only[go_sem,Nat.zero_add]
 refine ao q (λh' e=>ai (e.row r1)) ?_
 try simp only[go_sem,Nat.zero_add]
 refine ao (.int .i64 t.w) (λh' e=>ai (e.row r2)) ?_
 try simp only[go_sem,Nat.zero_add]
 refine ao (.int .i64 t.y) (λh' e=>ai (e.row r2)) ?_;refine ae.at (NK (hq.ext L)) ?_;refine⟨Ext.refl _,?_⟩;refine ae.at (dC (I.ext L)) ?_;refine⟨Ext.refl _,?_⟩;have aw:0≤t.w*m.c∧t.w*m.c≤65536*3:=by
  have h1:(1:Int)≤t.w:=ad;have h2:t.x+t.w≤65536:=hb.1;have h3:0≤t.x:=ab;have:=Int.mul_le_mul (show t.w≤65536 by omega) hf.2.2.2.2.2.1 (by omega) (by omega);exact⟨Int.mul_nonneg (by omega) (by omega),this⟩
 simp only[go_sem];rw[w64 (n:=t.w*m.c) (by omega) (by omega)];refine(YW (bX s.y.lines) (t.w*m.c)).mono λrv h5 ⟨M,R,e5,hM⟩=>?_
 refine⟨e5,?_⟩;have E5:=L.trans e5;have hr:aJ rv=true:=by obtain⟨_,_,_,_,_,_,e,_⟩:=R;rw[e];rfl
 have al:aE XT [(0,1,ptr bf),(1,1,ptr bt),(2,3,.agg #[p,q,.int .i64 s.border]),(5,10,.agg (cS t).toArray),(15,1,rv),(16,1,.int .i64 t.y)]=some (QV bf bt p q rv ⟨m,s,t⟩ t.y).toArray:=Vc (d:=⟨m,s,t⟩) hr;rw[al,bA,ah];refine aC λbj h6 r6 e6 n6=>?_
 have F:=E5.trans e6;have an:=O.lt;have ar:=E5.1;have au:=L.1;refine⟨F,_,by rw[hc],λh0=>absurd hc h0,λ_=>⟨bj,rv,rfl,⟨M,[],⟨r6,I.ext F,hp.ext F,hq.ext F,R.ext e6,O.ext F,zf,λc D=>⟨λA=>?_,λhe=>?_,zz c D⟩,⟨λA=>?_,λA=>?_,λc U A=>?_⟩,⟨by omega,λU=>?_⟩,Int.le_refl _,?_,λc D=>Nat.lt_of_lt_of_le (zl c D) F.1⟩,λc A=>.inr ⟨?_,?_⟩,λ_=>⟨Ep.start _ _,Int.le_refl _,?_⟩⟩,.inr ⟨by omega,aU r6⟩,λc hc=>hc.elim (λh=>h.elim) λh=>h.2,λc hc=>?_,Sc WO hc⟩⟩
 ·have:=hM c A;have:=zl c D;omega
 ·have:=zl c D;omega
 ·have:=R.lt A;omega
 ·have:=hM bt A;omega
 ·have:=hM c A;have:=O.ltv U;omega
 ·have:=O.ltv U;omega
 ·show t.y≤t.y+t.h;have:=WJ.h1;have:(1:Int)≤t.h:=this;omega
 ·have:=hM c A;omega
 ·have:=R.lt A;have:=e6.1;omega
 ·show lnF s.y t.y≤lnE s.y t.y;unfold lnF lnE;omega
 ·rcases hc with h|h
  ·exact h.elim
  ·exact⟨λD=>by have:=zl c D;omega,by omega,λU=>by have:=O.ltv U;omega⟩
section
theorem GY {a b:Int}(A:1≤a)(D:1≤b):max a b≤a*b:=by
 have h1:a*1≤a*b:=Int.mul_le_mul_of_nonneg_left D (by omega);have F:1*b≤a*b:=Int.mul_le_mul_of_nonneg_right A (by omega);omega
theorem span0 (X:Int){n m:Int}(H:1≤n)(I:1≤m): -(-(X+n)/m)-X/m≤6*n+4:=by
 have a1:=Int.mul_ediv_add_emod (-(X+n)) m;have a2:=Int.mul_ediv_add_emod X m;have F:=Int.emod_lt_of_pos (-(X+n)) (show 0<m by omega);have G:=Int.emod_lt_of_pos X (show 0<m by omega);have U:=GY H I
 revert a1 a2 F G
 generalize-(X+n)/m=A;generalize X/m=D;generalize-(X+n)%m=r1;generalize X%m=r2;intro a1 a2 F G;rcases Int.lt_or_le (6*n+4) (-A-D)with h|h
 ·exfalso;have h1:m*(6*n+5)≤m*(-A-D):=Int.mul_le_mul_of_nonneg_left (by omega) (by omega);have L:m*(6*n+5)=6*(n*m)+5*m:=by grind
  have W:m*(-A-D)= -(m*A)-m*D:=by grind
  rw[L,W]at h1;omega
 ·omega
theorem span1 (X R:Int){n m:Int}(W:1≤n)(U:1≤m)(L:R≤6*(n*m)): -(-(X+R)/(2*m))-((X-R)/(2*m)+1)≤6*n+4:=by
 have a1:=Int.mul_ediv_add_emod (-(X+R)) (2*m);have a2:=Int.mul_ediv_add_emod (X-R) (2*m);have F:=Int.emod_lt_of_pos (-(X+R)) (show 0<2*m by omega);have G:=Int.emod_lt_of_pos (X-R) (show 0<2*m by omega)
 revert a1 a2 F G
 generalize-(X+R)/(2*m)=A;generalize(X-R)/(2*m)=D;generalize-(X+R)%(2*m)=r1;generalize(X-R)%(2*m)=r2;intro a1 a2 F G;rcases Int.lt_or_le (6*n+4) (-A-(D+1))with h|h
 ·exfalso;have h1:2*m*(6*n+5)≤2*m*(-A-(D+1)):=Int.mul_le_mul_of_nonneg_left (by omega) (by omega);have H:2*m*(6*n+5)=12*(n*m)+10*m:=by grind
  have I:2*m*(-A-(D+1))= -(2*m*A)-2*m*D-2*m:=by grind
  rw[H,I]at h1;omega
 ·omega
theorem Wq {f n m i:Int}(H:0≤f∧f<3)(A:1≤n)(D:1≤m):lg f n m i-nB f n m i≤6*n+4:=by
 have G:=GY A D;unfold lg nB JH;by_cases h0:f=0
 ·rw[if_pos h0,if_pos h0];rw[show(i+1)*n=i*n+n by rw[Int.add_mul,Int.one_mul]];exact span0 (i*n) A D
 ·rw[if_neg h0,if_neg h0];have F:ck f*2*max n m≤6*(n*m)∧0≤ck f*2*max n m:=by
   have:(ck f=2∨ck f=3):=by unfold ck;rw[if_neg h0];split<;>simp
   rcases this with h|h<;>rw[h]<;>omega
  generalize ck f*2*max n m=R at*;exact span1 _ _ A D F.1
theorem Cb {ls:List (Int×List Int)}{c:Int}(h0:0≤c)(h:∀x∈ls,(x.2.length:Int)≤c):bX ls≤c:=by
 unfold bX;have:∀(l:List (Int×List Int)) (a:Int),a≤c→(∀x∈l,(x.2.length:Int)≤c)→l.foldl (λm x=>max m (x.2.length:Int)) a≤c:=by
  intro l;induction l with
  |nil=>intro a A _;exact A
  |cons y l F=>
   intro a A D;rw[List.foldl_cons];exact F _ (by have:=D y (by simp);omega) λx G=>D x (by simp[G])
 exact this ls 0 h0 h
theorem Sb (ls:List (Int×List Int)):0≤bX ls:=(GN ls 0).1
theorem Dw {f n m:Int}(hc:dx f n m=0):bX (eS f n m).lines≤6*n+4:=by
 have h0:¬(¬(0≤f∧f<3)∨¬aZ n∨¬aZ m):=λh=>by unfold dx at hc;rw[if_pos h]at hc;cases hc
 have F:=hc;unfold dx at F;rw[if_neg h0]at F;have G:0≤f∧f<3:=Decidable.of_not_not λh=>h0 (.inl h)
 have A:aZ n:=Decidable.of_not_not λh=>h0 (.inr (.inl h))
 have D:aZ m:=Decidable.of_not_not λh=>h0 (.inr (.inr h))
 unfold aZ at A D;refine Cb (by omega) λx H=>?_
 obtain⟨i,hi,rfl⟩:=List.mem_map.1 H;have hi:=List.mem_range.1 hi;have I:=um F i hi;show((bS (cL f n m i)).length:Int)≤_;rw[Cx I];unfold cL;rw[if_pos ⟨G.1,G.2,A.1,A.2,D.1,D.2,by omega,by omega⟩];unfold BE;rw[List.length_map,List.length_range];have:=Wq (i:=i) G A.1 D.1;omega
theorem Ov {f n m:Int}(hc:dx f n m=0)(A:n≤10000):bX (eS f n m).lines≤65536:=by have:=Dw hc;omega
theorem Ec (l:List Int)(n:Int)(hc:iJ l n=0):bX (jP l n).lines≤l.length:=by
 refine Cb (by omega) λx A=>?_
 obtain⟨i,hi,rfl⟩:=List.mem_map.1 A;show((bS l).length:Int)≤_;have h0:cn l=0:=by
  unfold iJ at hc;split at hc
  ·cases hc
  ·split at hc
   ·cases hc
   ·exact hc
 rw[Cx h0];omega
theorem Pp (l:List Int)(A:l.length≤1024)(n:Int)(hc:iJ l n=0):bX (jP l n).lines≤65536:=by have:=Ec l n hc;omega
theorem QR {o:OpD}{w h:Int}(hc:dT o w h=0)(F:h≤10000):bX (bL o w h).y.lines≤65536:=by
 have A:iB o w h=0:=by
  unfold dT at hc;split at hc
  ·cases hc
  ·exact hc
 show bX (fK o h).lines≤_;unfold iB at A;unfold fK;split
 ·rename_i D;rw[if_pos D]at A;by_cases h1:dx o.filter w o.w=0
  ·rw[if_neg (by simpa using h1)]at A;exact Ov A F
  ·rw[if_pos h1]at A;exact absurd A h1
 ·rename_i D;rw[if_neg D]at A;refine Pp _ (xL o).2 _ ?_;split at A
  ·exact absurd A (by assumption)
  ·split at A
   ·exact absurd A (by assumption)
   ·exact A
structure zF (s:Stg):Prop where
 wf:s.Wf
 mono:Ap s.y
 most:bX s.y.lines≤65536
 side:s.x.lines.length≤300
theorem Jb {o:OpD}{w h:Int}(hc:dT o w h=0)(A:h≤10000)(D:mH o w≤300):zF (bL o w h):=
 ⟨(vu hc).1,QS hc,QR hc A,by have:=(EW hc).1;omega⟩
theorem zF.room {s:Stg}(H:zF s){m n:Pic}{t:cz}(W:m.Wf)(hc:lE m n s t=0):V5 ⟨m,s,t⟩ (jg (bX s.y.lines)) (fJ (t.w*m.c)):=by
 have A:=Jo (t:=t) W H.wf hc;have F:=cq W.fits;have h1:1≤t.w:=A.w1;have L:0≤t.x:=A.x0;have U:t.x+t.w≤s.x.lines.length:=A.xw;have I:=H.side;have G:=H.most;have D:0≤t.w*m.c∧t.w*m.c≤300*3:=⟨Int.mul_nonneg (by omega) (by omega),Int.mul_le_mul (show t.w≤300 by omega) F.2.2.2.2.2.1 (by omega) (by omega)⟩
 refine⟨H.mono,?_,?_,?_,?_⟩
 ·unfold jg;show bX s.y.lines≤_;omega
 ·unfold jg;omega
 ·unfold fJ;show _=t.w*m.c;omega
 ·show t.w≤300;omega
def kp (d:em):Nat→Int→Int→Nat
 |0,_,_=>0
 |k+1,y,e=>(lnE d.s.y y-e).toNat+1+kp d k (y+1) (max (lnE d.s.y y) (lnF d.s.y (y+1)))
def pC (d:em)(y e:Int):Nat:=kp d (d.t.y+d.t.h-y).toNat y e
theorem LN {d:em}{y e:Int}(h:d.t.y+d.t.h≤y):pC d y e=0:=by
 unfold pC;rw[show(d.t.y+d.t.h-y).toNat=0 by omega];rfl
theorem Fc {d:em}{y e:Int}(h:y<d.t.y+d.t.h):pC d y e=(lnE d.s.y y-e).toNat+1+pC d (y+1) (max (lnE d.s.y y) (lnF d.s.y (y+1))):=by
 unfold pC;rw[show(d.t.y+d.t.h-y).toNat=(d.t.y+d.t.h-(y+1)).toNat+1 by omega];rfl
theorem Tq {d:em}{y e:Int}(L:bM d y e≠0)(W:e≤lnE d.s.y y):pC d (eU d y e) (gj d y e)+1=pC d y e:=by
 have A:¬d.t.y+d.t.h≤y:=λh=>L (by unfold bM;rw[if_pos h])
 have I:=Fc (e:=e) (show y<d.t.y+d.t.h by omega);by_cases h1:e<lnE d.s.y y
 ·have U:bM d y e=1:=by unfold bM;rw[if_neg A,if_pos h1]
  have D:eU d y e=y:=by unfold eU;rw[if_neg (by omega)]
  have G:gj d y e=e+1:=by unfold gj;rw[if_pos U]
  rw[D,G,I,Fc (e:=e+1) (by omega)];omega
 ·have H:bM d y e=2:=by unfold bM;rw[if_neg A,if_neg h1]
  have D:eU d y e=y+1:=by unfold eU;rw[if_pos H]
  have G:gj d y e=max e (lnF d.s.y (y+1)):=by unfold gj;rw[if_neg (by omega),if_pos H]
  have F:e=lnE d.s.y y:=by omega
  rw[D,G,I,F];omega
theorem UQ {d:em}{y e:Int}:pC d y e=0↔bM d y e=0:=by
 unfold bM;by_cases h:d.t.y+d.t.h≤y
 ·rw[if_pos h,LN h];simp
 ·rw[if_neg h,Fc (by omega)];constructor
  ·intro h;omega
  ·split<;>intro h<;>cases h
theorem DZ {d:em}(W:d.s.y.Wf):∀(k:Nat) (y e:Int),lnF d.s.y y≤e→kp d k y e≤k*1048577
 |0,_,_,_=>Nat.le_refl _
 |k+1,y,e,he=>by
  have h1:=DZ W k (y+1) (max (lnE d.s.y y) (lnF d.s.y (y+1))) (by omega);have A:=kF W y;unfold kp;unfold lnE lnF at*;omega
theorem left_bd {d:em}(W:d.Wf){y e:Int}(D:d.t.y≤y)(A:y<d.t.y+d.t.h→lnF d.s.y y≤e):pC d y e≤68719542272:=by
 by_cases h:y<d.t.y+d.t.h
 ·have h1:=DZ W.s.y (d.t.y+d.t.h-y).toNat y e (A h);have F:=em.bd W;have G:=W.y0;unfold pC;omega
 ·rw[LN (by omega)];omega
theorem Ai {B:Nat→Prop}{h:af}:nJ B h h=B:=by
 funext c
 unfold nJ;apply propext;constructor
 ·rintro(h|h)
  ·exact h
  ·omega
 ·exact .inl
section
variable {Z B:Nat→Prop}{h:af}{bj bf:Nat}{vf:Value}{bt:Nat}{vt p q rv:Value}{d:em}{y e:Int}{n:Pic}{room w:Nat}
theorem JV (S:jm Z B h bj bf vf bt vt p q rv d y e n room w):ae prog iL #[ptr bj] h λr h'=>r=.int .i64 ((room:Int)*w)∧h'=h:=by
 apply At;unfold qh;obtain⟨⟨M,rs,J,a,b⟩,_⟩:=S;simp only[go_sem,J.c15 (Ext.refl _)];exact VP J.ring
end
def vS (s:Stg)(t:cz)(m:Pic):Nat:=pC ⟨m,s,t⟩ t.y (lnF s.y t.y)
theorem XB {Z:Nat→Prop}{h:af}{p q:Value}{s:Stg}{t:cz}(m:Pic)(hp:dZ Z h p s.x)(hq:dZ Z h q s.y)(F:zF s):
  ae prog sA #[.agg #[p,q,.int .i64 s.border],.agg (cS t).toArray] h λr h'=>r=.int .i64 (if dO s t.x t.y t.w t.h then(vS s t m:Int)else 0)∧Ext h h':=by
 apply Gn;unfold w9;simp only[bC];have HS:mV Z h (.agg #[p,q,.int .i64 s.border]) s:=⟨p,q,rfl,hp,hq⟩
 refine aC λb1 h1 r1 e1 n1=>aC λb2 h2 r2 e2 n2=>?_
 have E2:=e1.trans e2;have r1:=e2.row r1;rw[aI (l:=[p,q,.int .i64 s.border]) r1 3 rfl,ah,Po,ah,D0 r2 (0+1) 4 [.int .i64 t.x,.int .i64 t.y,.int .i64 t.w,.int .i64 t.h] rfl rfl,ah];refine ae.to (PC (HS.ext E2) F.wf) λh4 e4=>?_
 have E4:=E2.trans e4;have r1:=e4.row r1;have r2:=e4.row r2;by_cases g:dO s t.x t.y t.w t.h
 case neg=>
  rw[if_neg g];simp only[go_sem,decide_eq_false g];exact⟨trivial,E4⟩
 rw[if_pos g];obtain⟨g1,g2,g3,g4,g5,g6,g7,g8⟩:=g;have q1:aB h4 ⟨b1,1,none⟩=some q:=ai r1;have t4:aB h4 ⟨b2,4,none⟩=some (.int .i64 t.h):=ai r2;have t2:aB h4 ⟨b2,2,none⟩=some (.int .i64 t.y):=ai r2;simp only[go_sem,decide_eq_true (show dO s t.x t.y t.w t.h from⟨g1,g2,g3,g4,g5,g6,g7,g8⟩),t4,q1,t2];refine(zy (hq.ext E4) F.wf.y).mono λr h5 ⟨u,e,S,e5⟩=>?_
 subst e;have E5:=E4.trans e5;have ay:mT false 1 0 (.agg #[.int .i64 (aW s.y t.y).1,u])=some (.int .i64 (lnF s.y t.y)):=rfl;have t4:aB h5 ⟨b2,4,none⟩=some (.int .i64 t.h):=ai (e5.row r2);simp only[go_sem,ay,t4];obtain⟨H,hH⟩:∃H:Nat,t.h=(H:Int):=⟨t.h.toNat,by omega⟩
 have bc:=F.wf.y.len;have aw:=F.mono;obtain⟨d,hd⟩:∃d:em,d=⟨m,s,t⟩:=⟨_,rfl⟩
 have G:d.s=s:=by rw[hd]
 have ab:vS s t m=kp d H t.y (lnF s.y t.y):=by
  unfold vS pC;rw[hd];show kp _ (t.y+t.h-t.y).toNat _ _=_;rw[show(t.y+t.h-t.y).toNat=H by omega]
 have aa:∀k y e,lnF s.y y≤e→kp d k y e≤k*1048577:=λk y e he=>DZ (by rw[G];exact F.wf.y) k y e (by rw[G];exact he)
 have bo:=aa H t.y (lnF s.y t.y) (Int.le_refl _);rw[hH];refine bB (α:=Int×Int) H 0 (λk a=>[.int .i64 a.1,.int .i64 a.2,.int .i64 (k:Int)])
  (λk a h'=>Ext h h'∧h'[b1]? =some (.cells #[p,q,.int .i64 s.border] 46 (0,0))∧h'[b2]? =some (.cells (cS t).toArray 65 (0,0))∧0≤a.1∧a.1+kp d (H-k) (t.y+k) (max a.2 (lnF s.y (t.y+k)))-(H-k:Nat)=vS s t m∧(k<H→a.2≤lnE s.y (t.y+k)∧lnF s.y t.y≤a.2)) ((H:Int),lnF s.y t.y) rfl (Nat.zero_le _)
  ⟨E5,e5.row r1,e5.row r2,by show(0:Int)≤(H:Int);omega,by
   show((H:Int)+(kp d (H-0) (t.y+(0:Nat)) (max (lnF s.y t.y) (lnF s.y (t.y+(0:Nat)))):Int))-_=_;rw[show t.y+((0:Nat):Int)=t.y by omega,show max (lnF s.y t.y) (lnF s.y t.y)=lnF s.y t.y by omega,ab,Nat.sub_zero];omega,λ_=>by
   show lnF s.y t.y≤lnE s.y (t.y+(0:Nat))∧_;rw[show t.y+((0:Nat):Int)=t.y by omega];exact⟨by unfold lnE lnF;omega,Int.le_refl _⟩⟩ λk a h6 again ρ1 _ hk ⟨E6,W,U,a0,I,hL⟩ ar=>?_
 obtain⟨n,A⟩:=a;have a0:0≤n:=a0;have I:n+kp d (H-k) (t.y+k) (max A (lnF s.y (t.y+k)))-(H-k:Nat)=vS s t m:=I;have hL:k<H→A≤lnE s.y (t.y+k)∧lnF s.y t.y≤A:=hL;simp only[go_sem];refine aj (λh7=>?_) (λh7=>?_)
 ·have L:k<H:=by omega
  obtain⟨hL,bg⟩:=hL L;have q1:aB h6 ⟨b1,1,none⟩=some q:=ai W;have t2:aB h6 ⟨b2,2,none⟩=some (.int .i64 t.y):=ai U;simp only[go_sem,q1,t2];rw[w64 (n:=t.y+(k:Int)) (by omega) (by omega)];refine(zy (hq.ext E6) F.wf.y).mono λr h7 ⟨u,e,S,e7⟩=>?_
  subst e;have hl:=kF F.wf.y (t.y+k);refine cD (cs:=[.int .i64 (aW s.y (t.y+k)).1,u]) rfl (ak rfl (ak S.one aQ)) rfl λb8 h8 r8 e8 n8=>?_
  obtain⟨au,cu,eu⟩:=S.isSl;have an:aq u=some (.int .i64 ((aW s.y (t.y+k)).2.length:Int)):=by rw[eu];rfl
  have c0:aB h8 ⟨b8,0,none⟩=some (.int .i64 (aW s.y (t.y+k)).1):=ai r8;have c1:aB h8 ⟨b8,1,none⟩=some u:=ai r8;simp only[go_sem,Nat.zero_add,c0,c1,an];have a8:(aW s.y (t.y+k)).1+((aW s.y (t.y+k)).2.length:Int)=lnE s.y (t.y+k):=rfl;have ax:(aW s.y (t.y+k)).1=lnF s.y (t.y+k):=rfl;have be:lnF s.y (t.y+k)≤lnE s.y (t.y+k):=by unfold lnE lnF;omega
  have bi: -70368744177664≤lnE s.y (t.y+k)∧lnE s.y (t.y+k)≤70368745226240:=by unfold lnE;omega
  have ad:=kF F.wf.y t.y;have a9: -70368744177664≤lnF s.y t.y∧lnF s.y t.y≤70368744177664:=⟨ad.2.1,ad.2.2⟩
  have bd: -70368744177664≤lnF s.y (t.y+k):=hl.2.1;rw[w64 (n:=(aW s.y (t.y+k)).1+((aW s.y (t.y+k)).2.length:Int)) (by omega) (by omega),a8,ax];have D:kp d (H-k) (t.y+k) (max A (lnF s.y (t.y+k)))=(lnE s.y (t.y+k)-max A (lnF s.y (t.y+k))).toNat+1+kp d (H-(k+1)) (t.y+(k+1:Nat)) (max (lnE s.y (t.y+k)) (lnF s.y (t.y+(k+1:Nat)))):=by
   rw[show H-k=(H-(k+1))+1 by omega];rw[kp,G,show t.y+(k:Int)+1=t.y+((k+1:Nat):Int)by omega]
  have bv:=aa (H-(k+1)) (t.y+(k+1:Nat)) (max (lnE s.y (t.y+k)) (lnF s.y (t.y+(k+1:Nat)))) (by omega);rw[D]at I;generalize a7:kp d (H-(k+1)) (t.y+(k+1:Nat)) (max (lnE s.y (t.y+k)) (lnF s.y (t.y+(k+1:Nat))))=LL at*;rw[w64 (n:=lnE s.y (t.y+k)-max A (lnF s.y (t.y+k))) (by omega) (by omega),w64 (n:=n+max 0 (lnE s.y (t.y+k)-max A (lnF s.y (t.y+k)))) (by omega) (by omega),w64 (n:=(k:Int)+1) (by omega) (by omega)];refine ar (n+max 0 (lnE s.y (t.y+k)-max A (lnF s.y (t.y+k))),max A (lnE s.y (t.y+k))) h8 L ⟨E6.trans (e7.trans e8),(e7.trans e8).row W,(e7.trans e8).row U,?_,?_,λbk=>?_⟩
  ·show 0≤n+max 0 (lnE s.y (t.y+k)-max A (lnF s.y (t.y+k)));omega
  ·show n+max 0 (lnE s.y (t.y+k)-max A (lnF s.y (t.y+k)))+(kp d (H-(k+1)) (t.y+(k+1:Nat)) (max (max A (lnE s.y (t.y+k))) (lnF s.y (t.y+(k+1:Nat)))):Int)-_=_;rw[show max A (lnE s.y (t.y+k))=lnE s.y (t.y+k)by omega,a7];omega
  ·have:=aw.e (t.y+k) (t.y+(k+1:Nat)) (by omega) (by omega) (by omega);show max A (lnE s.y (t.y+k))≤lnE s.y (t.y+(k+1:Nat))∧lnF s.y t.y≤max A (lnE s.y (t.y+k));omega
 ·have al:k=H:=by omega
  subst al;refine⟨?_,E6⟩;rw[Nat.sub_self]at I;have:n=vS s t m:=by unfold kp at I;omega
  rw[this]
end
theorem Ul (a b:Nat→Int)(v:Nat→Nat→Int)(n m:Nat):fh (λi=>a i*fh (λk=>b k*v i k) m) n=fh (λk=>b k*fh (λi=>a i*v i k) n) m:=by
 have A:∀i,a i*fh (λk=>b k*v i k) m=fh (λk=>a i*(b k*v i k)) m:=λi=>(G8 (a i) _ m).symm
 have D:∀k,b k*fh (λi=>a i*v i k) n=fh (λi=>a i*(b k*v i k)) n:=λk=>by
  rw[←G8];exact vR λi _=>by rw[←Int.mul_assoc,←Int.mul_assoc,Int.mul_comm (b k) (a i)]
 rw[vR λi _=>A i,Lp,vR λk _=>(D k).symm]
theorem DY {t:Tbl}{i:Nat}(hi:i<t.lines.length):t.lines[i]=aW t (i:Int):=by
 unfold aW;rw[if_pos (by omega)];simp[List.getD_eq_getElem?_getD,hi]
theorem Rs {h:af}{n most:Int}(I:I64 n):ae prog ut #[.int .i64 n,.int .i64 most] h λr h'=>r=.int .u16 (pS n most)∧Ext h h':=by
 apply Ie;unfold xR;refine ae.to (Ak I (by unfold I64;omega)) λh1 A=>?_
 unfold pS;generalize kQ n 28=v;refine aV (λH h'=>H=[.int .i64 (max 0 most)]∧h'=h1) ?_ ?_
 ·simp only[go_sem];refine aj (λF=>?_) (λF=>?_)
  ·rw[show max 0 most=0 by omega];exact⟨rfl,trivial⟩
  ·rw[show max 0 most=most by omega];exact⟨rfl,trivial⟩
 rintro _ ρ h' ⟨rfl,w⟩;have w:=w.symm;subst w;simp only[go_sem];refine aj (λF=>?_) (λF=>?_)
 ·refine aj (λG=>?_) (λG=>?_)
  ·rw[show max 0 (min v (max 0 (min most 65535)))=0 by omega];exact⟨rfl,A⟩
  refine aj (λD=>?_) (λD=>?_)
  ·rw[SR (by omega) (by omega),show max 0 (min v (max 0 (min most 65535)))=65535 by omega];exact⟨rfl,A⟩
  ·rw[SR (by omega) (by omega),show max 0 (min v (max 0 (min most 65535)))=v by omega];exact⟨rfl,A⟩
 ·refine aj (λG=>?_) (λG=>?_)
  ·rw[show max 0 (min v (max 0 (min most 65535)))=0 by omega];exact⟨rfl,A⟩
  refine aj (λD=>?_) (λD=>?_)
  ·rw[SR (by omega) (by omega),show max 0 (min v (max 0 (min most 65535)))=max 0 most by omega];exact⟨rfl,A⟩
  ·rw[SR (by omega) (by omega),show max 0 (min v (max 0 (min most 65535)))=v by omega];exact⟨rfl,A⟩
theorem VC {h:af}{Z Z':Nat→Prop}{cs ds:List Value}{m:Pic}{s:Stg}(H:ug.R Z h cs m)(W:m.Wf)(K:oZ.R Z' h ds s)(WS:s.Wf){x y:Nat}(hx:x<s.x.lines.length)(hy:y<s.y.lines.length){c:Int}:
  ae prog zK #[.agg cs.toArray,.agg ds.toArray,.int .i64 (x:Int),.int .i64 (y:Int),.int .i64 c] h λr h'=>r=.int .i64 (IntKind.i64.wrap (BA m s x y c))∧Ext h h':=by
 apply MU;unfold CZ;have H0:=H;obtain⟨u,rfl,Hu⟩:=H;obtain⟨X,Y,rfl,HX,HY⟩:=K;simp only[bC];refine aC λb1 h1 r1 e1 n1=>aC λb2 h2 r2 e2 n2=>?_
 have E2:=e1.trans e2;have r1:=e2.row r1;have k0:aB h2 ⟨b2,0,none⟩=some X:=ai r2;simp only[go_sem,Nat.zero_add,k0];obtain⟨bx,ox,cx,G,lx,ax,Rx,_⟩:=HX.atp (show 0<2 by omega) (k:=.i64) hx;obtain⟨ux,rfl,Sx⟩:=Rx;rw[DY hx]at ax Sx;obtain⟨bd,oy,cy,F,ly,ay,Ry,_⟩:=HY.atp (show 0<2 by omega) (k:=.i64) hy;obtain⟨uy,rfl,Sy⟩:=Ry;rw[DY hy]at ay Sy;have G:aR 2 X (.int .i64 (x:Int))=some (.pointer (some ⟨bx,ox,none⟩)):=G;have F:aR 2 Y (.int .i64 (y:Int))=some (.pointer (some ⟨bd,oy,none⟩)):=F;have x0:=ax 0 (by simp);have x1:=ax 1 (by simp);have y0:=ay 0 (by simp);have y1:=ay 1 (by simp);simp only[Nat.add_zero,List.getElem_cons_zero,List.getElem_cons_succ]at x0 x1 y0 y1;have bo:=kF WS.x (x:Int);have bk:=kF WS.y (y:Int);have hf:=cq W.fits;have I:BA m s x y c=fh (λi=>(aW s.x x).2.getD i 0*fh (λk=>(aW s.y y).2.getD k 0*atP m (atZ s.border ((aW s.x x).1+i) m.w) (atZ s.border ((aW s.y y).1+k) m.h) c) (aW s.y y).2.length) (aW s.x x).2.length:=by
  unfold BA nW;exact(Ul _ _ (λi k=>atP m (atZ s.border ((aW s.x x).1+i) m.w) (atZ s.border ((aW s.y y).1+k) m.h) c) _ _).symm
 rw[I]
 clear I
 generalize aW s.x x=D at*;generalize aW s.y y=A at*;obtain⟨b0,bv,be⟩:=Sx.isSl;have al:aq ux=some (.int .i64 (D.2.length:Int)):=by rw[be];rfl
 obtain⟨b3,b4,bg⟩:=Sy.isSl;have ar:aq uy=some (.int .i64 (A.2.length:Int)):=by rw[bg];rfl
 simp only[go_sem,G,E2.cell x1,al];refine bB (α:=Unit) D.2.length 0 (λi _=>[.int .i64 (IntKind.i64.wrap (fh (λi=>D.2.getD i 0*fh (λk=>A.2.getD k 0*atP m (atZ s.border (D.1+i) m.w) (atZ s.border (A.1+k) m.h) c) A.2.length) i)),.int .i64 (i:Int)]) (λi _ h'=>Ext h2 h') () rfl (Nat.zero_le _) (Ext.refl _)
  λi _ h3 again ρ1 _ hi E3 bi=>?_
 simp only[go_sem];refine aj (λg1=>?_) (λg1=>?_)
 ·have L:i<D.2.length:=by omega
  have ad:=E2.trans E3;obtain⟨pi,p1,p2⟩:=(Sx.ext ad).int_at (k':=.i64) L;have ea:D.2.getD i 0=D.2[i]:=by simp[List.getD_eq_getElem?_getD,L]
  rw[p1,ah,p2,ah,←ea];have a8:=E3.row r1;have ab:=E3.row r2;refine aG (λh'=>h'=h3) rfl ?_
  try simp only[go_sem,Nat.zero_add]
  refine ao (.int .i64 s.border) (λh' e=>by rw[e];exact ai ab) ?_;refine ao X (λh' e=>by rw[e];exact ai ab) ?_;simp only[go_sem,G];refine ao (.int .i64 D.1) (λh' e=>by rw[e];exact ad.cell x0) ?_
  try simp only[go_sem]
  refine ao (.int .i64 m.w) (λh' e=>by rw[e];exact ai a8) ?_;rw[w64 (n:=D.1+(i:Int)) (by omega) (by omega)];refine ae.at (Vw (by unfold I64;omega)) ?_;have k1:aB h3 ⟨b2,1,none⟩=some Y:=ai ab;simp only[go_sem,k1,F,ad.cell y1,ar];refine bB (α:=Unit) A.2.length 0 (λk _=>[.int .i64 (IntKind.i64.wrap (fh (λk=>A.2.getD k 0*atP m (atZ s.border (D.1+i) m.w) (atZ s.border (A.1+k) m.h) c) k)),.int .i64 (k:Int)]) (λi _ h'=>Ext h2 h') () rfl (Nat.zero_le _) E3
   λk _ h4 a7 ρ2 _ hk E4 au=>?_
  simp only[go_sem];refine aj (λg2=>?_) (λg2=>?_)
  ·have U:k<A.2.length:=by omega
   have aa:=E2.trans E4;obtain⟨pk,q1,q2⟩:=(Sy.ext aa).int_at (k':=.i64) U;have eb:A.2.getD k 0=A.2[k]:=by simp[List.getD_eq_getElem?_getD,U]
   rw[q1,ah,q2,ah,←eb];have an:=E4.row r1;have aw:=E4.row r2;refine aG (λh'=>h'=h4) rfl ?_
   try simp only[go_sem,Nat.zero_add]
   refine ao (.int .i64 s.border) (λh' e=>by rw[e];exact ai aw) ?_;refine ao Y (λh' e=>by rw[e];exact ai aw) ?_;simp only[go_sem,F];refine ao (.int .i64 A.1) (λh' e=>by rw[e];exact aa.cell y0) ?_
   try simp only[go_sem]
   refine ao (.int .i64 m.h) (λh' e=>by rw[e];exact ai an) ?_;rw[w64 (n:=A.1+(k:Int)) (by omega) (by omega)];refine ae.at (Vw (by unfold I64;omega)) ?_;rw[aI (l:=[.int .i64 m.w,.int .i64 m.h,.int .i64 m.c,.int .i64 m.most,u]) an 5 rfl,ah];refine ae.to (YM (ug.ext H0 aa) W) λh5 e5=>?_
   have hv:=RJ W (atZ s.border (D.1+(i:Int)) m.w) (atZ s.border (A.1+(k:Int)) m.h) c;have hm:=W.m2;simp only[go_sem];rw[w64 (n:=atP m (atZ s.border (D.1+(i:Int)) m.w) (atZ s.border (A.1+(k:Int)) m.h) c) (by omega) (by omega),zY,w64 (n:=(k:Int)+1) (by omega) (by omega)];exact au () h5 U (E4.trans e5)
  ·have bc:k=A.2.length:=by omega
   subst bc;rw[vL,zY,w64 (n:=(i:Int)+1) (by omega) (by omega)];exact bi () h4 L E4
 ·have a9:i=D.2.length:=by omega
  subst a9;exact⟨rfl,E2.trans E3⟩
def QE (m:Pic)(s:Stg)(i:Nat):Int:=ui m s ((i/m.c.toNat%s.x.lines.length:Nat):Int) ((i/m.c.toNat/s.x.lines.length:Nat):Int) ((i%m.c.toNat:Nat):Int)
def sq (m:Pic)(s:Stg):Pic:=⟨s.x.lines.length,s.y.lines.length,m.c,m.most,(List.range (s.y.lines.length*s.x.lines.length*m.c.toNat)).map λi:Nat=>QE m s i⟩
theorem R4 {m:Pic}{s:Stg}{x y c:Nat}(A:x<s.x.lines.length)(hc:c<m.c.toNat):QE m s ((y*s.x.lines.length+x)*m.c.toNat+c)=ui m s x y c:=by
 unfold QE;have F:((y*s.x.lines.length+x)*m.c.toNat+c)/m.c.toNat=y*s.x.lines.length+x:=by
  rw[Nat.mul_comm,Nat.mul_add_div (by omega),Nat.div_eq_of_lt hc,Nat.add_zero]
 have H:((y*s.x.lines.length+x)*m.c.toNat+c)%m.c.toNat=c:=by
  rw[Nat.mul_comm,Nat.mul_add_mod,Nat.mod_eq_of_lt hc]
 rw[F,H];have D:(y*s.x.lines.length+x)%s.x.lines.length=x:=by rw[Nat.mul_comm,Nat.mul_add_mod,Nat.mod_eq_of_lt A]
 have G:(y*s.x.lines.length+x)/s.x.lines.length=y:=by rw[Nat.mul_comm,Nat.mul_add_div (by omega),Nat.div_eq_of_lt A,Nat.add_zero]
 rw[D,G]
theorem Ud {m:Pic}{s:Stg}{x y c:Int}(hi:inP (sq m s) x y c):atP (sq m s) x y c=ui m s x y c:=by
 unfold atP;rw[if_pos hi];obtain⟨x0,A,y0,y1,H,D⟩:=hi;have A:x<s.x.lines.length:=A;have y1:y<s.y.lines.length:=y1;have D:c<m.c:=D;obtain⟨a,rfl⟩:∃a:Nat,x=a:=⟨x.toNat,by omega⟩
 obtain⟨b,rfl⟩:∃b:Nat,y=b:=⟨y.toNat,by omega⟩
 obtain⟨e,rfl⟩:∃e:Nat,c=e:=⟨c.toNat,by omega⟩
 have G:(kn (sq m s) a b e).toNat=(b*s.x.lines.length+a)*m.c.toNat+e:=by
  show(((b:Int)*(s.x.lines.length:Int)+a)*m.c+e).toNat=_;have:((((b*s.x.lines.length+a)*m.c.toNat+e:Nat)):Int)=((b:Int)*(s.x.lines.length:Int)+a)*m.c+e:=by
   rw[Int.natCast_add,Int.natCast_mul,Int.natCast_add,Int.natCast_mul,Int.toNat_of_nonneg (by omega)]
  omega
 rw[G];have h1:b*s.x.lines.length+a<s.y.lines.length*s.x.lines.length:=by
  have:(b+1)*s.x.lines.length≤s.y.lines.length*s.x.lines.length:=Nat.mul_le_mul_right _ (by omega);rw[Nat.add_mul,Nat.one_mul]at this;omega
 have F:(b*s.x.lines.length+a)*m.c.toNat+e<s.y.lines.length*s.x.lines.length*m.c.toNat:=by
  have:(b*s.x.lines.length+a+1)*m.c.toNat≤s.y.lines.length*s.x.lines.length*m.c.toNat:=Nat.mul_le_mul_right _ (by omega);rw[Nat.add_mul,Nat.one_mul]at this;omega
 show((List.range _).map _).getD _ 0=_;rw[List.getD_eq_getElem?_getD,List.getElem?_map,List.getElem?_range F];exact R4 (by omega) (by omega)
theorem Rt {h:af}{Z Z':Nat→Prop}{cs ds:List Value}{m:Pic}{s:Stg}(H:ug.R Z h cs m)(W:m.Wf)(K:oZ.R Z' h ds s)(WS:s.Wf)(hf:gu s.x.lines.length s.y.lines.length m.c):
  ae prog uu #[.agg cs.toArray,.agg ds.toArray] h λr h'=>∃es,r=.agg es.toArray∧ug.R (dJ h h') h' es (sq m s)∧Ext h h':=by
 apply If;unfold xS;have H0:=H;have K0:=K;obtain⟨u,rfl,Hu⟩:=H;obtain⟨X,Y,rfl,HX,HY⟩:=K;simp only[bC];refine aC λb1 h1 r1 e1 n1=>aC λb2 h2 r2 e2 n2=>aC λb3 U r3 e3 n3=>?_
 have r1:=(e2.trans e3).row r1;have r2:=e3.row r2;have E3:=e1.trans (e2.trans e3);obtain⟨aX,cX,eX⟩:=HX.isSl;have ar:aq X=some (.int .i64 (s.x.lines.length:Int)):=by rw[eX];rfl
 obtain⟨aY,cY,eY⟩:=HY.isSl;have au:aq Y=some (.int .i64 (s.y.lines.length:Int)):=by rw[eY];rfl
 have k0:aB U ⟨b2,0,none⟩=some X:=ai r2;have k1:aB U ⟨b2,1,none⟩=some Y:=ai r2;have k2:aB U ⟨b1,2,none⟩=some (.int .i64 m.c):=ai r1;have k3:aB U ⟨b1,3,none⟩=some (.int .i64 m.most):=ai r1;simp only[go_sem,Nat.zero_add,k0,k1,k2,k3,ar,au];have cb:aE #[(.int .i64 0),(.int .i64 0),(.int .i64 0),(.int .i64 0),(.slice none 0 0)] [(0,1,.int .i64 (s.x.lines.length:Int)),(1,1,.int .i64 (s.y.lines.length:Int)),(2,1,.int .i64 m.c),(3,1,.int .i64 m.most)]=some #[.int .i64 (s.x.lines.length:Int),.int .i64 (s.y.lines.length:Int),.int .i64 m.c,.int .i64 m.most,.slice none 0 0]:=rfl;rw[cb,bA,ah];refine cD (cs:=[.int .i64 (s.x.lines.length:Int),.int .i64 (s.y.lines.length:Int),.int .i64 m.c,.int .i64 m.most,.slice none 0 0]) rfl (ak rfl (ak rfl (ak rfl (ak rfl (ak rfl aQ))))) rfl λb4 h4 r4 e4 n4=>?_
 have aa:=r1;have a9:=r2;have k1:aB h4 ⟨b2,1,none⟩=some Y:=ai (e4.row r2);simp only[go_sem,Nat.zero_add,k1,au];have E4:=E3.trans e4;have hb:=cq hf;have an:Ext h U:=E3;obtain⟨C,hC⟩:∃C:Nat,m.c=(C:Int):=⟨m.c.toNat,by omega⟩
 obtain⟨A,L⟩:∃A,A=s.x.lines.length:=⟨_,rfl⟩
 obtain⟨D,G⟩:∃D,D=s.y.lines.length:=⟨_,rfl⟩
 have bd:m.c.toNat=C:=by omega
 have ct:D*A*C≤268435456:=by
  have h1:((D*A*C:Nat):Int)=(A:Int)*(D:Int)*(C:Int):=by rw[Int.natCast_mul,Int.natCast_mul,Int.mul_comm (D:Int)]
  have:=hb.2.2.2.2.2.2.2.2.2;rw[←L,←G,hC]at this;omega
 have a7:sq m s=⟨A,D,m.c,m.most,(List.range (D*A*C)).map λi:Nat=>QE m s i⟩:=by unfold sq;rw[←L,←G,bd]
 rw[←L,←G,hC]at r4 hb;rw[hC]at aa H0;rw[←L]at ar;rw[←G]at au;rw[←G]
 -- what holds behind so many samples
 obtain⟨I,hI⟩:∃I:Nat→Value→af→Prop,I=λN v h'=>New rU U h' v ((List.range N).map λi:Nat=>QE m s i)∧h'[b4]? =some (.cells #[.int .i64 (A:Int),.int .i64 (D:Int),.int .i64 (C:Int),.int .i64 m.most,v] 115 (0,0))∧¬blk v b4:=⟨_,rfl⟩
 refine bB (α:=Value) D 0 (λy _=>[.int .i64 (y:Int)]) (λy v h'=>I (y*A*C) v h') (.slice none 0 0) rfl (Nat.zero_le _)
  (by rw[hI,Nat.zero_mul,Nat.zero_mul];exact⟨New.nil e4,r4,λhh=>hh⟩) λy v h5 again ρ1 _ hy HI cc=>?_
 simp only[go_sem];refine aj (λg1=>?_) (λg1=>?_)
 ·have b6:y<D:=by omega
  have E5:Ext U h5:=by rw[hI]at HI;exact HI.1.2.1
  have k0:aB h5 ⟨b2,0,none⟩=some X:=ai (E5.row a9);simp only[go_sem,Nat.zero_add,k0,ar];refine bB (α:=Value) A 0 (λx _=>[.int .i64 (x:Int)]) (λx v h'=>I ((y*A+x)*C) v h') v rfl (Nat.zero_le _)
   (by rw[Nat.add_zero];exact HI) λx v h6 bk ρ2 _ hx ab bc=>?_
  simp only[go_sem];refine aj (λg2=>?_) (λg2=>?_)
  ·have b7:x<A:=by omega
   have E6:Ext U h6:=by rw[hI]at ab;exact ab.1.2.1
   have k2:aB h6 ⟨b1,2,none⟩=some (.int .i64 (C:Int)):=ai (E6.row aa);simp only[go_sem,Nat.zero_add,k2];refine bB (α:=Value) C 0 (λc _=>[.int .i64 (c:Int)]) (λc v h'=>I ((y*A+x)*C+c) v h') v rfl (Nat.zero_le _)
    (by rw[Nat.add_zero];exact ab) λc v h7 bi ρ3 _ hc al ay=>?_
   simp only[go_sem];refine aj (λg3=>?_) (λg3=>?_)
   ·have b5:c<C:=by omega
    rw[hI]at al;obtain⟨N7,ad,a8⟩:=al;have E7:=N7.2.1;have bg:=an.trans E7;have cr:(y*A+x)*C+c<D*A*C:=by
     have h1:(y+1)*A≤D*A:=Nat.mul_le_mul_right _ (by omega);rw[Nat.add_mul,Nat.one_mul]at h1;have h2:(y*A+x+1)*C≤D*A*C:=Nat.mul_le_mul_right _ (by omega);rw[Nat.add_mul,Nat.one_mul]at h2;omega
    refine aG (Ext h7) (Ext.refl _) ?_
    try simp only[go_sem,Nat.zero_add]
    refine ao v (λh' e=>ai (e.row ad)) ?_;refine ao (.agg #[.int .i64 m.w,.int .i64 m.h,.int .i64 (C:Int),.int .i64 m.most,u]) (λh' e=>aI (l:=[.int .i64 m.w,.int .i64 m.h,.int .i64 (C:Int),.int .i64 m.most,u]) ((E7.trans e).row aa) 5 rfl) ?_;refine ao (.agg #[X,Y,.int .i64 s.x.n,.int .i64 s.y.n,.int .i64 s.border]) (λh' e=>aI (l:=[X,Y,.int .i64 s.x.n,.int .i64 s.y.n,.int .i64 s.border]) ((E7.trans e).row a9) 5 rfl) ?_
    try simp only[go_sem,Nat.zero_add]
    refine ao (.int .i64 m.most) (λh' e=>ai ((E7.trans e).row aa)) ?_;refine ae.to (VC (ug.ext H0 bg) W (oZ.ext K0 bg) WS (x:=x) (y:=y) (by omega) (by omega)) λh8 e8=>?_
    refine⟨e8,?_⟩;refine ae.to (Rs (gW _)) λh9 e9=>?_
    have F:=e8.trans e9;refine⟨F,?_⟩;have b8:pS (IntKind.i64.wrap (BA m s x y c)) m.most=QE m s ((y*A+x)*C+c):=by
     have:=R4 (m:=m) (s:=s) (x:=x) (y:=y) (c:=c) (by omega) (by omega);rw[bd,←L]at this;rw[this];rfl
    rw[b8];refine New.pushS (e:=rU) (x:=QE m s ((y*A+x)*C+c)) rfl (N7.ext F) rfl rfl (by rw[List.length_map,List.length_range];omega) (by rw[List.length_map,List.length_range];omega) (λh' e=>F.trans e) λv' cu aw f10 n10=>?_
    have ax:=f10.row (F.row ad) a8;refine bJ ax (by simp) aw.sl.one λcp bo ca=>?_
    rw[w64 (by omega) (by omega)];have b0:U.size≤b4:=n4;have be:¬blk v' b4:=λhv=>by
     rcases n10 b4 hv with h|h
     ·exact a8 h
     ·have:=aU ad;have:=F.1;omega
    refine ay v' cp b5 ?_;rw[hI];refine⟨?_,bo,be⟩;rw[show(y*A+x)*C+(c+1)=(y*A+x)*C+c+1 by omega,List.range_succ,List.map_append];exact aw.fr ca.fr (λb hb=>by rw[hb];exact b0) λb hb he=>be (he▸hb)
   ·have:c=C:=by omega
    subst this;rw[w64 (by omega) (by omega)];refine bc v h7 b7 ?_;rw[show(y*A+(x+1))*c=(y*A+x)*c+c by rw[←Nat.add_assoc,Nat.add_mul (y*A+x) 1,Nat.one_mul]];exact al
  ·have:x=A:=by omega
   subst this;rw[w64 (by omega) (by omega)];refine cc v h6 b6 ?_;rw[show(y+1)*x=y*x+x by rw[Nat.add_mul,Nat.one_mul]];exact ab
 ·have:y=D:=by omega
  subst this;rw[hI]at HI;obtain⟨N5,bv,c0⟩:=HI;rw[aI (l:=[.int .i64 (A:Int),.int .i64 (y:Int),.int .i64 (C:Int),.int .i64 m.most,v]) bv 5 rfl,ah];have ci:=N5.2.1.row r3;refine ce (l:=[.int .i64 (A:Int),.int .i64 (y:Int),.int .i64 (C:Int),.int .i64 m.most,v]) ci rfl (ak rfl (ak rfl (ak rfl (ak rfl (ak N5.sl.one aQ))))) rfl λh6 r6 u6=>?_
  rw[aI r6 5 rfl,ah];refine⟨_,rfl,⟨v,by rw[a7];show _=[Value.int .i64 (A:Int),.int .i64 (y:Int),.int .i64 m.c,.int .i64 m.most,v];rw[hC],?_⟩,(an.trans N5.2.1).upd (Nat.le_trans (e1.trans e2).1 n3) u6⟩;rw[a7];have cw:b3<U.size:=aU r3;refine(N5.sl.fr u6.fr λc _ hc he=>?_).mono λc hc hv=>⟨Nat.le_trans an.1 (N5.2.2 c hv),hc⟩
  have:=N5.2.2 c hc;omega
end Go.Proofs.YtcoimlclclnlkaaGreatDoor
namespace Go.Crisp
open Go
def lD (w:Nat)(h:af)(v:Value)(n:Nat)(cs:List Value):Prop:=
 (v=.slice none 0 0∧n=0∧cs=[])∨∃b cap p r e,v=.slice (some ⟨b,p.length,none⟩) n cap∧n≤cap∧cs.length=n*w∧(cs++r).length=cap*w∧h[b]? =some (.cells (p++(cs++r)).toArray e (0,0))
theorem lD.nil {w:Nat}{h:af}:lD w h (.slice none 0 0) 0 []:=.inl ⟨rfl,rfl,rfl⟩
theorem Own.o {w:Nat}{h:af}{v:Value}{n:Nat}{cs:List Value}(H:Own w h v n cs):lD w h v n cs:=by
 rcases H with H|⟨b,cap,r,e,rfl,h1,D,F,A⟩
 ·exact .inl H
 ·exact .inr ⟨b,cap,[],r,e,rfl,h1,D,F,A⟩
theorem lD.fr {w:Nat}{M:Nat→Prop}{h h':af}{v:Value}{n:Nat}{cs:List Value}(H:lD w h v n cs)(f:Fr M h h')(A:∀b,blk v b→¬M b):lD w h' v n cs:=by
 rcases H with⟨rfl,rfl,rfl⟩|⟨b,cap,p,r,e,rfl,hc,G,D,F⟩
 ·exact .inl ⟨rfl,rfl,rfl⟩
 ·exact .inr ⟨b,cap,p,r,e,rfl,hc,G,D,f.row F (A b rfl)⟩
theorem lD.ext {w:Nat}{h h':af}{v:Value}{n:Nat}{cs:List Value}(H:lD w h v n cs)(f:Ext h h'):lD w h' v n cs:=H.fr (M:=λ_=>False) f.fr λ_ _=>id
theorem lD.lt {w:Nat}{h:af}{v:Value}{n:Nat}{cs:List Value}(H:lD w h v n cs){b:Nat}(A:blk v b):b<h.size:=by
 rcases H with⟨rfl,rfl,rfl⟩|⟨D,cap,p,r,e,rfl,hc,G,F,h'⟩
 ·cases A
 ·rw[show b=D from A];exact(Array.getElem?_eq_some_iff.1 h').1
theorem lD.sl {w:Nat}{h:af}{v:Value}{n:Nat}{cs:List Value}(H:lD w h v n cs):SlC w h v n cs:=by
 rcases H with⟨rfl,rfl,rfl⟩|⟨b,cap,p,r,e,rfl,hc,F,_,D⟩
 ·exact⟨by simp,none,0,rfl,.inl rfl⟩
 ·refine⟨F,_,cap,rfl,.inr ⟨b,p.length,rfl,λj A=>?_⟩⟩;rw[ai D];simp only[List.getElem?_toArray];rw[List.getElem?_append_right (Nat.le_add_right _ _),Nat.add_sub_cancel_left,List.getElem?_append_left A];simp[A]
theorem Wd (ds p cs r:List Value)(h:ds.length≤r.length):wrL (p++(cs++r)).toArray (p.length+cs.length) ds=(p++(cs++ds++r.drop ds.length)).toArray:=by
 have:=CI ds (p++cs) r h;rw[List.length_append]at this;rw[←List.append_assoc,this];simp
theorem Ue {z:Value}{e:TypeId}{w bytes n m:Nat}{s x:Value}{h:af}{cs ds:List Value}{K:Value→af→Prop}
  (hs:lD w h s n cs) (hx:SlC w h x m ds) (ho:∀v∈ds,aJ v=true) (hz:z.cells.size=w) (W:(n+m)*bytes≤140737488355328) (hn:n+m≤9223372036854775807)
  (H:∀I h',lD w h' I (n+m) (cs++ds)→Fr (blk s) h h'→(∀b,blk I b→blk s b∨h.size≤b)→K I h'):cG z e w bytes s x h K:=by
 rcases hs with⟨rfl,rfl,rfl⟩|⟨b,cap,p,r,e0,rfl,hc,U,hr,G⟩
 ·exact sr (.inl ⟨rfl,rfl,rfl⟩) hx ho hz W hn λI h' o=>H I h' o.o
 ·have F:SlC w h (.slice (some ⟨b,p.length,none⟩) n cap) n cs:=lD.sl (.inr ⟨b,cap,p,r,e0,rfl,hc,U,hr,G⟩);have F:=F.loads;have L:=hx.loads;obtain⟨D,a',ad,rfl,al⟩:=hx;unfold cG;simp only[Lg];split
  ·rename_i h0;rw[L];have aa:ds.length≤r.length:=by
    rw[List.length_append]at hr;rw[D];have:(n+m)*w≤cap*w:=Nat.mul_le_mul_right w h0;rw[Nat.add_mul]at this;omega
   have ab:=kO (o:=p.length+n*w) ds 0 h _ G (by simp;omega) ho;simp only[kG,ab];rw[Nat.add_zero,←U,Wd ds p cs r aa];refine H _ _ (.inr ⟨b,cap,p,r.drop ds.length,e0,rfl,h0,?_,?_,kB G⟩) (Upd.set.fr) (λk hk=>.inl hk)
   ·simp[U,D,Nat.add_mul]
   ·rw[←hr];simp;omega
  ·rename_i h0;rw[F,L];refine⟨by simp only[IntKind.max];simp only[IntKind.signed,IntKind.bits];omega,Nat.le_trans (growslice_fits (by omega) W) (by decide),λA h1 h2=>?_⟩;refine H _ _ (.inr ⟨h.size,A,[],(Builtin.zeroCells z.cells (A-(n+m))).toList,e,rfl,h1,?_,?_,?_⟩) (Ext.push h _).fr (λb W=>.inr (by rw[show b=h.size from W];exact Nat.le_refl _))
   ·simp[U,D,Nat.add_mul]
   ·simp[U,D,My,hz];rw[←Nat.add_mul,←Nat.add_mul];congr 1;omega
   ·rw[o0];simp
theorem lD.tail {w:Nat}{h:af}{v x:Value}{n:Nat}{cs ds:List Value}(H:lD w h v (n+1) (ds++cs))(hd:ds.length=w)(U:0<n){k:IntKind}:
  ∃D,ue w v (some (.int k 1)) none=some D∧lD w h D n cs∧∀b,blk D b→blk v b:=by
 rcases H with⟨_,h0,_⟩|⟨b,cap,p,r,e,rfl,hc,L,F,I⟩
 ·cases h0
 ·have A:¬cap=1:=by omega
  refine⟨.slice (some ⟨b,p.length+w,none⟩) n (cap-1),?_,.inr ⟨b,cap-1,p++ds,r,e,by rw[List.length_append,hd],by omega,?_,?_,?_⟩,λc hc=>hc⟩
  ·have G:bdV (some (Value.int k 1)) 0 (n+1)=some 1:=Ao k 1 0 (n+1) (by omega);simp only[ue,bdV,G,if_neg A,Option.map_some,kG,Nat.one_mul,Nat.add_sub_cancel];rw[if_pos (by omega)];simp[A]
  ·rw[List.length_append,hd,Nat.add_mul,Nat.one_mul]at L;omega
  ·simp only[List.length_append]at F ⊢;rw[hd]at F;have:cap*w=(cap-1)*w+w:=by rw[←Nat.succ_mul];congr 1;omega
   omega
  ·rw[I];simp
def OwO (k:IntKind)(h:af)(v:Value)(l:List Int):Prop:=lD 1 h v l.length (l.map λx=>Value.int k x)
theorem OwO.nil {k:IntKind}{h:af}:OwO k h (.slice none 0 0) []:=lD.nil
theorem OwO.sl {k:IntKind}{h:af}{v:Value}{l:List Int}(H:OwO k h v l):Rp.Sl (Rp.int k) (blk v) h v l:=by
 have s:=lD.sl H;refine⟨_,s,λ_ b A=>A,λi hi=>?_⟩;show Rp.el 1 (l.map λx=>Value.int k x) i=[Value.int k l[i]];rw[Rp.el_one (by simpa using hi)];simp
theorem OwO.push {k:IntKind}{z z':Value}{t t':TypeId}{bytes:Nat}{s:Value}{h:af}{l:List Int}{x:Int}{K:Value→af→Prop}(F:OwO k h s l)(G:z.cells.size=1)
  (U:(l.length+1)*bytes≤140737488355328) (hn:l.length+1≤9223372036854775807)
  (H:∀A h',OwO k h' A (l++[x])→Fr (blk s) h h'→(∀b,blk A b→blk s b∨h.size≤b)→K A h'):cF #[z'] t 1 [(0,1,.int k x)] h λL h3=>cG z t' 1 bytes s L h3 K:=by
 refine cH (Rp.fill_one rfl) λb h1 r1 D n1=>?_
 refine Ue (lD.ext F D) (Rp.SlC.single (cs:=[.int k x]) r1) (ak (a:=Value.int k x) rfl aQ) G U hn λA h' o' I n'=>H A h' ?_ (D.fr.trans I) λc hc=>(n' c hc).imp id λW=>Nat.le_trans D.1 W
 unfold OwO;rw[List.length_append,List.map_append];exact o'
theorem OwO.tail {k k':IntKind}{h:af}{v:Value}{x:Int}{l:List Int}(H:OwO k h v (x::l))(D:0<l.length):
  ∃A,ue 1 v (some (.int k' 1)) none=some A∧OwO k h A l∧∀b,blk A b→blk v b:=
 lD.tail (x:=v) (ds:=[.int k x]) H rfl D
end Go.Crisp
namespace Go.Proofs.YtcoimlclclnlkaaGreatDoor
open Go Go.Crisp
attribute [local irreducible] ae cF aP stK aA vK qK bD gK dE aS mkK cG Cn DS Ad bsK clK qN lS R9
open _root_.Go.Proofs.Tryz
def qB (e E:Int):List (Int×Int):=(List.range (E-e).toNat).map λi:Nat=>((1:Int),e+(i:Int))
def ka (d:em):Nat→Int→Int→List (Int×Int)
 |0,_,_=>[]
 |k+1,y,e=>qB e (lnE d.s.y y)++(2,y)::ka d k (y+1) (max (lnE d.s.y y) (lnF d.s.y (y+1)))
def Nm (d:em)(y e:Int):List (Int×Int):=ka d (d.t.y+d.t.h-y).toNat y e
theorem Qs {e E:Int}(h:E≤e):qB e E=[]:=by
 unfold qB;rw[show(E-e).toNat=0 by omega];rfl
theorem Qr {e E:Int}(h:e≤E):qB e (E+1)=qB e E++[(1,E)]:=by
 unfold qB;rw[show(E+1-e).toNat=(E-e).toNat+1 by omega,List.range_succ,List.map_append]
 congr 1
 show[((1:Int),e+((E-e).toNat:Int))]=[(1,E)];rw[show e+((E-e).toNat:Int)=E by omega]
theorem Ez {e E:Int}:(qB e E).length=(E-e).toNat:=by unfold qB;rw[List.length_map,List.length_range]
theorem IU (d:em):∀(k:Nat) (y e:Int),(ka d k y e).length=kp d k y e
 |0,_,_=>rfl
 |k+1,y,e=>by
  unfold ka kp;rw[List.length_append,List.length_cons,Ez,IU d k];omega
def xv:Rp (Int×Int) where
 w:=2
 R:=λ_ _ cs x=>cs=[.int .i64 x.1,.int .i64 x.2]
 len:=by rintro _ _ _ _ rfl;rfl
 one:=by rintro _ _ _ _ rfl;exact ak rfl (ak rfl aQ)
 fr:=by rintro _ _ _ _ _ _ h _ _;exact h
 mono:=by rintro _ _ _ _ _ h _;exact h
theorem New.push2 {z:Value}{c:Array Value}{t t':TypeId}{bytes:Nat}{h h1:af}{v:Value}{l:List (Int×Int)}{a b:Int}{K:Value→af→Prop}(H:New xv h h1 v l)(hc:c.size=2)(G:z.cells.size=2)(D:(l.length+1)*bytes≤140737488355328)(W:l.length+1≤9223372036854775807)
  (L:∀A h',New xv h h' A (l++[(a,b)])→Fr (blk v) h1 h'→(∀b,blk A b→blk v b∨h1.size≤b)→K A h'):cF c t 1 [(0,2,.agg #[.int .i64 a,.int .i64 b])] h1 λI U=>cG z t' 2 bytes v I U K:=by
 refine Rp.push_ow (e:=xv) (cs:=[.int .i64 a,.int .i64 b]) (x:=(a,b)) H.1 rfl hc G D W (λb D=>D.elim) λA h' o' F n'=>L A h' ⟨o',H.2.1.then_fr F H.2.2,λb D=>?_⟩ F n'
 rcases n' b D with h1|h1
 ·exact H.2.2 b h1
 ·exact Nat.le_trans H.2.1.1 h1
theorem Xq {h:af}{Z:Nat→Prop}{v:Value}{l:List Int}{j:Int}(H:Rp.Sl (Rp.int .i64) Z h v l)(hl:l.length≤4611686018427387904):ae prog CD #[v,.int .i64 j] h λr h'=>r=.bool (decide (j∈l))∧h'=h:=by
 apply OM;unfold FB;obtain⟨a,c,e⟩:=H.isSl;have U:aq v=some (.int .i64 (l.length:Int)):=by rw[e];rfl
 rw[U,ah];refine bB (α:=Unit) l.length 0 (λk _=>[.int .i64 (k:Int)]) (λk _ h'=>h'=h∧∀x∈l.take k,x≠j) () rfl (Nat.zero_le _) ⟨rfl,by simp⟩ λk _ h1 again ρ1 _ hk ⟨w,F⟩ G=>?_
 subst w;simp only[go_sem];refine aj (λh0=>?_) (λh0=>?_)
 ·have A:k<l.length:=by omega
  obtain⟨p,W,q2⟩:=H.int_at (k':=.i64) A;simp only[go_sem,W,q2];refine aj (λI=>?_) (λI=>?_)
  ·refine⟨?_,trivial⟩;rw[decide_eq_true];rw[←I];exact List.getElem_mem A
  ·rw[w64 (by omega) (by omega)];refine G () h1 A ⟨rfl,λx D=>?_⟩;rw[List.take_succ_eq_append_getElem A]at D;rcases List.mem_append.1 D with D|D
   ·exact F x D
   ·rw[List.mem_singleton.1 D];exact I
 ·have:k=l.length:=by omega
  subst this;refine⟨?_,trivial⟩;rw[decide_eq_false];intro L;rw[List.take_length]at F;exact F j L rfl
structure mW (l:List Int)(F e:Int)(most:Nat):Prop where
 up:l.Pairwise (· < ·)
 inn:∀j,F≤j→j<e→j∈l
 lt:∀x∈l,x<e
 len:l.length≤most
theorem mW.start (F:Int)(most:Nat):mW [] F F most:=⟨List.Pairwise.nil,λj a b=>by omega,by simp,by simp⟩
theorem mW.move {l:List Int}{F e A:Int}{most:Nat}(H:mW l F e most)(G:F≤A):mW l A (max e A) most:=
 ⟨H.up,λj a b=>H.inn j (by omega) (by omega),λx D=>by have:=H.lt x D;omega,H.len⟩
theorem mW.nodup {l:List Int}(h:l.Pairwise (· < ·)):l.Nodup:=h.imp λa=>by omega
theorem mW.push {l:List Int}{F e:Int}{most:Nat}(H:mW l F e most):(l++[e]).Pairwise (· < ·)∧(∀j,F≤j→j<e+1→j∈l++[e])∧(∀x∈l++[e],x<e+1):=by
 refine⟨?_,λj a b=>?_,λx G=>?_⟩
 ·rw[List.pairwise_append];exact⟨H.up,by simp,λa A b D=>by rw[List.mem_singleton.1 D];exact H.lt a A⟩
 ·by_cases I:j<e
  ·exact List.mem_append_left _ (H.inn j a I)
  ·rw[show j=e by omega];simp
 ·rcases List.mem_append.1 G with h|h
  ·have:=H.lt x h;omega
  ·rw[List.mem_singleton.1 h];omega
theorem mW.next {l:List Int}{F e E:Int}{most:Nat}(H:mW l F e most)(he:F≤e)(hE:e<E)(hm:E-F≤most):(l.length+1≤most∧mW (l++[e]) F (e+1) most)∨(∃x t,l++[e]=x::t∧most<l.length+1∧0<t.length∧mW t F (e+1) most):=by
 obtain⟨I,U,L⟩:=H.push;by_cases h1:l.length+1≤most
 ·exact .inl ⟨h1,I,U,L,by simpa using h1⟩
 ·cases l with
  |nil=>simp at h1;omega
  | cons x l=>
   have W:=H.len;refine .inr ⟨x,l++[e],rfl,by omega,by simp,?_⟩;have hx:x<F:=by
    rcases Int.lt_or_le x F with h|h
    ·exact h
    ·have D:∀z∈x::l,F≤z∧z<e:=λz A=>by
      refine⟨?_,H.lt z A⟩;rcases List.mem_cons.1 A with rfl|A
      ·exact h
      ·have:=(List.pairwise_cons.1 H.up).1 z A;omega
     have:=nodup_range (mW.nodup H.up) D;omega
   have G:(x::(l++[e])).Pairwise (· < ·):=I;refine⟨(List.pairwise_cons.1 G).2,λj a b=>?_,λz A=>L z (List.mem_cons_of_mem _ A),by simp at W ⊢;omega⟩;have:=U j a b;rcases List.mem_cons.1 (show j∈x::(l++[e])from this)with h|h
   ·omega
   ·exact h
theorem Rq {h:af}{Z:Nat→Prop}{ds:List Value}{s:Stg}{m:Pic}{t:cz}(K:oZ.R Z h ds s)(OK:zF s)(hy:0≤t.y)(hh:1≤t.h)(es:t.y+t.h≤s.y.lines.length):
  ae prog ur #[.agg ds.toArray,.int .i64 t.y,.int .i64 t.h] h λr h'=>New xv h h' r (Nm ⟨m,s,t⟩ t.y (lnF s.y t.y)):=by
 apply Ic;unfold xQ;obtain⟨X,Y,rfl,HX,HY⟩:=K;have WS:=OK.wf;have ej:=WS.y.len;simp only[bC];refine aC λb1 h1 r1 e1 n1=>?_
 have k1:aB h1 ⟨b1,1,none⟩=some Y:=ai r1;obtain⟨aY,cY,eY⟩:=HY.isSl;have ea:aq Y=some (.int .i64 (s.y.lines.length:Int)):=by rw[eY];rfl
 simp only[go_sem,Nat.zero_add,k1,ea]
 -- a line, read into a variable
 have rd:∀{I:af} {i:Nat} (hi:i<s.y.lines.length),Ext h I→∀{Kp:Value→af→Prop},(∀b h3 u,h3[b]? =some (.cells #[.int .i64 (aW s.y i).1,u] 161 (0,0))→Ext I h3→I.size≤b→aq u=some (.int .i64 ((aW s.y i).2.length:Int))→Kp (ptr b) h3)→
   vK (aR 2 Y (.int .i64 (i:Int))) λcr=>vK (aH 2 I cr) λc8=>aP #[(.int .i64 0),(.slice none 0 0)] 161 I λbk cw=>stK 2 bk c8 cw λep ci=>Kp bk ci:=by
  intro I i hi E Kp HK;obtain⟨p,cs,q1,q2,Rr⟩:=Rp.Sl.atw (e:=km) (HY.ext E) (show 0<2 by omega) (k:=.i64) hi;rw[DY hi]at Rr;obtain⟨u,rfl,Su⟩:=Rr;have q1:aR 2 Y (.int .i64 (i:Int))=some p:=q1;have q2:aH 2 I p=some (.agg #[.int .i64 (aW s.y i).1,u]):=q2;rw[q1,ah,q2,ah];obtain⟨au,cu,eu⟩:=Su.isSl;exact cD (cs:=[.int .i64 (aW s.y i).1,u]) rfl (ak rfl (ak Su.one aQ)) rfl λb h3 r3 e3 n3=>HK b h3 u r3 e3 n3 (by rw[eu];rfl)
 -- the most taps of a line
 have a9:∀k,k<s.y.lines.length→bX (s.y.lines.take (k+1))=max (bX (s.y.lines.take k)) ((aW s.y k).2.length:Int):=λk hk=>by
  rw[List.take_succ_eq_append_getElem hk,Cc,DY hk]
 have c6:=OK.most;have dq:=Sb s.y.lines;have ek:∀k,0≤bX (s.y.lines.take k)∧bX (s.y.lines.take k)≤bX s.y.lines:=λk=>⟨Sb _,Cb dq λx hx=>(GN s.y.lines 0).2 x (List.mem_of_mem_take hx)⟩
 refine bB (α:=Unit) s.y.lines.length 0 (λk _=>[.int .i64 (bX (s.y.lines.take k)),.int .i64 (k:Int)]) (λk _ h'=>Ext h1 h') () rfl (Nat.zero_le _) (Ext.refl _) λk _ I again ρ1 _ hk E2 an=>?_
 have aw:=e1.trans E2;simp only[go_sem];refine aj (λg1=>?_) (λg1=>?_)
 ·have aa:k<s.y.lines.length:=by omega
  refine rd aa aw λb3 h3 u r3 e3 n3 al=>?_
  have c1:aB h3 ⟨b3,1,none⟩=some u:=ai r3;have bg:=a9 k aa;simp only[go_sem,Nat.zero_add,c1,al];refine aj (λg2=>?_) (λg2=>?_)
  ·try simp only[go_sem,Nat.zero_add,c1,al]
   rw[w64 (by omega) (by omega)];have:=an () h3 aa (E2.trans e3);rw[bg,show max (bX (s.y.lines.take k)) ((aW s.y k).2.length:Int)=((aW s.y k).2.length:Int)by omega]at this;exact this
  ·rw[w64 (by omega) (by omega)];have:=an () h3 aa (E2.trans e3);rw[bg,show max (bX (s.y.lines.take k)) ((aW s.y k).2.length:Int)=bX (s.y.lines.take k)by omega]at this;exact this
 have c3:k=s.y.lines.length:=by omega
 subst c3;rw[List.take_length]
 clear an
 obtain⟨most,c4⟩:∃n:Nat,bX s.y.lines=(n:Int):=⟨(bX s.y.lines).toNat,by omega⟩
 rw[c4];obtain⟨d,hd⟩:∃d:em,d=⟨m,s,t⟩:=⟨_,rfl⟩
 have bd:d.s=s:=by rw[hd]
 rw[←hd];obtain⟨H,hH⟩:∃H:Nat,t.h=(H:Int):=⟨t.h.toNat,by omega⟩
 obtain⟨y0,bo⟩:∃y0:Nat,t.y=(y0:Int):=⟨t.y.toNat,by omega⟩
 have cc:Nm d t.y (lnF s.y t.y)=ka d H y0 (lnF s.y y0):=by
  unfold Nm;have:d.t=t:=by rw[hd]
  rw[this,bo,show((y0:Int)+t.h-(y0:Int)).toNat=H by omega]
 rw[cc,hH,bo];have ay:∀k y e,lnF s.y y≤e→(ka d k y e).length≤k*1048577:=λk y e he=>by
  rw[IU];exact DZ (by rw[bd];exact WS.y) k y e (by rw[bd];exact he)
 have ei:=ay H y0 (lnF s.y y0) (Int.le_refl _);have be:=OK.mono
 -- line by line
 refine bB (α:=Value×Value×List (Int×Int)×List Int×Int) H 0 (λk a=>[a.1,a.2.1,.int .i64 (k:Int)])
  (λk a h'=>New xv h h' a.1 a.2.2.1∧OwO .i64 h' a.2.1 a.2.2.2.1∧(∀b,blk a.2.1 b→I.size≤b)∧(∀b,blk a.1 b→I.size≤b∧¬blk a.2.1 b)∧Ext I h'∧(k<H→mW a.2.2.2.1 (lnF s.y (y0+k:Nat)) a.2.2.2.2 most∧lnF s.y (y0+k:Nat)≤a.2.2.2.2∧a.2.2.2.2≤lnE s.y (y0+k:Nat))∧
   a.2.2.1++ka d (H-k) ((y0+k:Nat):Int) a.2.2.2.2=ka d H y0 (lnF s.y y0))
  (.slice none 0 0,.slice none 0 0,[],[],lnF s.y y0) rfl (Nat.zero_le _)
  ⟨New.nil aw,OwO.nil,λb A=>A.elim,λb A=>A.elim,Ext.refl _,λ_=>⟨mW.start _ _,Int.le_refl _,by unfold lnE lnF;show(aW s.y ((y0+0:Nat):Int)).1≤_;omega⟩,rfl⟩ λk a h3 again ρ2 _ hk ⟨N3,O3,b3,a3,E3,H3,M3⟩ an=>?_
 obtain⟨ov,U,out,held,e⟩:=a;have N3:New xv h h3 ov out:=N3;have O3:OwO .i64 h3 U held:=O3;have b3:∀b,blk U b→I.size≤b:=b3;have a3:∀b,blk ov b→I.size≤b∧¬blk U b:=a3;have H3:k<H→mW held (lnF s.y (y0+k:Nat)) e most∧lnF s.y (y0+k:Nat)≤e∧e≤lnE s.y (y0+k:Nat):=H3;have M3:out++ka d (H-k) ((y0+k:Nat):Int) e=ka d H y0 (lnF s.y y0):=M3;simp only[go_sem];refine aj (λg1=>?_) (λg1=>?_)
 ·have aa:k<H:=by omega
  obtain⟨HL,er,eg⟩:=H3 aa;have k1:aB h3 ⟨b1,1,none⟩=some Y:=ai (E3.row (E2.row r1));simp only[go_sem,Nat.zero_add,k1];rw[w64 (n:=(y0:Int)+(k:Int)) (by omega) (by omega),show(y0:Int)+(k:Int)=((y0+k:Nat):Int)by omega];refine rd (by omega) (aw.trans E3) λb4 h4 u r4 e4 n4 al=>?_
  have c1:aB h4 ⟨b4,1,none⟩=some u:=ai r4;simp only[go_sem,Nat.zero_add,c1,al];have hl:=kF WS.y ((y0+k:Nat):Int);have b8:=be.m ((y0+k:Nat):Int);have bi:k+1<H→lnF s.y ((y0+k:Nat):Int)≤lnF s.y ((y0+(k+1):Nat):Int)∧lnE s.y ((y0+k:Nat):Int)≤lnE s.y ((y0+(k+1):Nat):Int):=λh=>⟨be.f _ _ (by omega) (by omega) (by omega),be.e _ _ (by omega) (by omega) (by omega)⟩
  have ct:ka d (H-k) ((y0+k:Nat):Int) e=qB e (lnE s.y ((y0+k:Nat):Int))++(2,((y0+k:Nat):Int))::ka d (H-(k+1)) ((y0+(k+1):Nat):Int) (max (lnE s.y ((y0+k:Nat):Int)) (lnF s.y ((y0+(k+1):Nat):Int))):=by
   rw[show H-k=(H-(k+1))+1 by omega];rw[ka,bd,show((y0+k:Nat):Int)+1=((y0+(k+1):Nat):Int)by omega]
  rw[ct]at M3;have eb:(ka d H y0 (lnF s.y y0)).length≤68719542272:=by omega
  generalize eh:((y0+k:Nat):Int)=W at*;have dz:lnE s.y W=lnF s.y W+((aW s.y W).2.length:Int):=rfl;have et:(aW s.y W).1=lnF s.y W:=rfl;have ew: -70368744177664≤lnF s.y W∧lnF s.y W≤70368744177664:=hl.2;obtain⟨L,hL⟩:∃L:Nat,(aW s.y W).2.length=L:=⟨_,rfl⟩
  rw[hL]at dz al b8 hl;rw[hL];have c2:h4[b4]? =some (.cells #[.int .i64 (lnF s.y W),u] 161 (0,0)):=r4;generalize lnF s.y W=F at*
  -- the rows that the line lacks
  refine bB (α:=Value×Value×List Int×Int) L 0 (λi a=>[a.1,a.2.1,.int .i64 (i:Int)])
   (λi a h'=>New xv h h' a.1 (out++qB e a.2.2.2)∧OwO .i64 h' a.2.1 a.2.2.1∧(∀b,blk a.2.1 b→I.size≤b∧b≠b4)∧(∀b,blk a.1 b→I.size≤b∧b≠b4∧¬blk a.2.1 b)∧Ext I h'∧h'[b4]? =some (.cells #[.int .i64 F,u] 161 (0,0))∧b4<h'.size∧mW a.2.2.1 F a.2.2.2 most∧a.2.2.2=max e (F+i))
   (ov,U,held,e) rfl (Nat.zero_le _)
   ⟨by show New xv h h4 ov (out++qB e e);rw[Qs (Int.le_refl _),List.append_nil];exact N3.ext e4,lD.ext O3 e4,λb A=>⟨b3 b A,λhe=>by have:=lD.lt O3 A;omega⟩,λb A=>⟨(a3 b A).1,λhe=>by have:=N3.lt A;omega,(a3 b A).2⟩,E3.trans e4,c2,aU r4,HL,by show e=max e (F+((0:Nat):Int));omega⟩
   λi a h5 bv ρ3 _ hi ⟨N5,O5,b5,a5,E5,r5,l5,H5,m5⟩ ar=>?_
  obtain⟨bc,ab,D,G⟩:=a;have N5:New xv h h5 bc (out++qB e G):=N5;have O5:OwO .i64 h5 ab D:=O5;have b5:∀b,blk ab b→I.size≤b∧b≠b4:=b5;have a5:∀b,blk bc b→I.size≤b∧b≠b4∧¬blk ab b:=a5;have H5:mW D F G most:=H5;have m5:G=max e (F+i):=m5;have b6:(out++qB e G).length+1≤68719542273:=by
   have:=congrArg List.length M3;rw[List.length_append,List.length_append,Ez]at this;rw[List.length_append,Ez];omega
  simp only[go_sem];refine aj (λg2=>?_) (λg2=>?_)
  ·have a8:i<L:=by omega
   have c0:aB h5 ⟨b4,0,none⟩=some (.int .i64 F):=ai r5;simp only[go_sem,Nat.zero_add,c0];rw[w64 (n:=F+(i:Int)) (by omega) (by omega)];refine ae.at (Xq O5.sl (by have:=H5.len;omega)) ?_;refine aj (λg3=>?_) (λg3=>?_)
   ·have:=H5.lt _ g3;rw[w64 (by omega) (by omega)];refine ar (bc,ab,D,G) h5 a8 ⟨N5,O5,b5,a5,E5,r5,l5,H5,?_⟩;show G=max e (F+((i+1:Nat):Int));omega
   ·have c9:G=F+i:=by
     rcases Int.lt_or_le (F+(i:Int)) G with h|h
     ·exact absurd (H5.inn _ (by omega) h) g3
     ·omega
    rw[←c9];rw[show aE #[(.int .i64 0),(.int .i64 0)] [(0,1,(.int .i64 1)),(1,1,.int .i64 G)]=some #[.int .i64 1,.int .i64 G]from wz rfl rfl,bA,ah];have ec:G<lnE s.y W:=by omega
    refine New.push2 (a:=1) (b:=G) N5 rfl rfl (by omega) (by omega) λad h6 N6 f6 n6=>?_
    have O6:OwO .i64 h6 ab D:=lD.fr O5 f6 λb A U=>(a5 b U).2.2 A
    have r6:=f6.row r5 λU=>(a5 _ U).2.1 rfl
    have ee:=f6.1;have v6:∀b,blk ad b→I.size≤b∧b≠b4∧¬blk ab b:=λb A=>by
     rcases n6 b A with h|h
     ·exact a5 b h
     ·have hs:=E5.1;exact⟨by omega,by omega,λU=>by have:=lD.lt O5 U;omega⟩
    have E6:Ext I h6:=E5.then_fr f6 λb A=>(a5 b A).1
    refine OwO.push (x:=G) O6 rfl (by have:=H5.len;omega) (by have:=H5.len;omega) λax h7 O7 f7 n7=>?_
    have N7:New xv h h7 ad (out++qB e (G+1)):=by
     rw[Qr (by omega),←List.append_assoc];exact N6.fr f7 (λb A=>Nat.le_trans aw.1 (b5 b A).1) λb A U=>(v6 b A).2.2 U
    have r7:=f7.row r6 λU=>(b5 _ U).2 rfl
    have E7:Ext I h7:=E6.then_fr f7 λb A=>(b5 b A).1
    have l7:=aU r7;have b7:∀b,blk ax b→I.size≤b∧b≠b4:=λb A=>by
     rcases n7 b A with h|h
     ·exact b5 b h
     ·have hs:=E6.1;have:=aU r6;exact⟨by omega,by omega⟩
    have v7:∀b,blk ad b→I.size≤b∧b≠b4∧¬blk ax b:=λb A=>by
     refine⟨(v6 b A).1,(v6 b A).2.1,λU=>?_⟩;rcases n7 b U with h|h
     ·exact(v6 b A).2.2 h
     ·have:=N6.lt A;omega
    obtain⟨a7,c7,e7⟩:=O7.sl.isSl;have b0:aq ax=some (.int .i64 ((D.length+1:Nat):Int)):=by rw[e7,List.length_append];rfl
    simp only[go_sem,b0];rcases H5.next (E:=lnE s.y W) (by omega) (by omega) (by omega)with⟨q1,q2⟩|⟨x,tl,q1,q2,q3,q4⟩
    ·rw[decide_eq_false (by omega)];simp only[go_sem];rw[w64 (by omega) (by omega)];refine ar (ad,ax,D++[G],G+1) h7 a8 ⟨N7,O7,b7,v7,E7,r7,l7,q2,?_⟩;show G+1=max e (F+((i+1:Nat):Int));omega
    ·rw[decide_eq_true (by omega)];simp only[go_sem];rw[q1]at O7;obtain⟨cp,s8,O8,n8⟩:=O7.tail (k':=.i64) q3;rw[s8,ah,w64 (by omega) (by omega)];refine ar (ad,cp,tl,G+1) h7 a8 ⟨N7,O8,λb A=>b7 b (n8 b A),λb A=>⟨(v7 b A).1,(v7 b A).2.1,λU=>(v7 b A).2.2 (n8 b U)⟩,E7,r7,l7,q4,?_⟩;show G+1=max e (F+((i+1:Nat):Int));omega
  ·have ca:i=L:=by omega
   subst ca;have dl:G=lnE s.y W:=by omega
   rw[show aE #[(.int .i64 0),(.int .i64 0)] [(0,1,(.int .i64 2)),(1,1,.int .i64 W)]=some #[.int .i64 2,.int .i64 W]from wz rfl rfl,bA,ah];refine New.push2 (a:=2) (b:=W) N5 rfl rfl (by omega) (by omega) λad h6 N6 f6 n6=>?_
   try simp only[go_sem]
   rw[w64 (by omega) (by omega)];have E6:Ext I h6:=E5.then_fr f6 λb A=>(a5 b A).1
   refine an (ad,ab,out++qB e G++[(2,W)],D,max G (lnF s.y ((y0+(k+1):Nat):Int))) h6 aa ⟨N6,lD.fr O5 f6 λb A U=>(a5 b U).2.2 A,λb A=>(b5 b A).1,λb A=>?_,E6,λcb=>?_,?_⟩
   ·rcases n6 b A with h|h
    ·exact⟨(a5 b h).1,(a5 b h).2.2⟩
    ·have hs:=E5.1;exact⟨by omega,λU=>by have:=lD.lt O5 U;omega⟩
   ·obtain⟨g5,g6⟩:=bi cb;refine⟨H5.move g5,by show _≤max G _;omega,?_⟩;show max G _≤_;have:lnF s.y ((y0+(k+1):Nat):Int)≤lnE s.y ((y0+(k+1):Nat):Int):=by unfold lnE lnF;omega
    omega
   ·show(out++qB e G++[(2,W)])++ka d (H-(k+1)) ((y0+(k+1):Nat):Int) (max G (lnF s.y ((y0+(k+1):Nat):Int)))=_;rw[dl];rw[←M3];simp
 ·have b2:k=H:=by omega
  subst b2;rw[Nat.sub_self]at M3;have M3:out++[]=ka d k y0 (lnF s.y y0):=M3;rw[List.append_nil]at M3;rw[←M3];exact N3
theorem Sa (a b c d:Int):ag (.st [(0,1,.i),(1,1,.i)]) .eql (y5 a b) (y5 c d)=some (.bool (decide (a=c∧b=d))):=by
 have A:(a==c)=decide (a=c):=rfl;have F:(b==d)=decide (b=d):=rfl;simp only[ag,eqV,Dq,Hm,Hn,cond_false,List.getElem?_toArray,List.getElem?_cons_zero,List.getElem?_cons_succ,if_true,A,F];by_cases h:a=c<;>by_cases D:b=d<;>simp[h,D]
theorem WN (a b c d:Int):ag (.st [(0,1,.i),(1,1,.i)]) .neq (y5 a b) (y5 c d)=some (.bool (!decide (a=c∧b=d))):=by
 have A:(a==c)=decide (a=c):=rfl;have F:(b==d)=decide (b=d):=rfl;simp only[ag,eqV,Dq,Hm,Hn,cond_false,List.getElem?_toArray,List.getElem?_cons_zero,List.getElem?_cons_succ,if_true,A,F];by_cases h:a=c<;>by_cases D:b=d<;>simp[h,D]
structure xy (Z:Nat→Prop)(h:af)(bf:Nat)(vf:Value)(bt:Nat)(vt p q:Value)(m n:Pic)(s:Stg):Prop where
 src:cA h bf vf m
 out:cA h bt vt n
 ne:bf≠bt
 tx:dZ Z h p s.x
 ty:dZ Z h q s.y
 zf:Z bf∧∀c,blk vf c→Z c
 zz:∀c,Z c→¬blk vt c
 zb:∀c,Z c→c≠bt
 zl:∀c,Z c→c<h.size
theorem xy.ext {Z:Nat→Prop}{h h':af}{bf:Nat}{vf:Value}{bt:Nat}{vt p q:Value}{m n:Pic}{s:Stg}(S:xy Z h bf vf bt vt p q m n s)(e:Ext h h'):xy Z h' bf vf bt vt p q m n s:=
 ⟨S.src.ext e,S.out.ext e,S.ne,S.tx.ext e,S.ty.ext e,S.zf,S.zz,S.zb,λc hc=>Nat.lt_of_lt_of_le (S.zl c hc) e.1⟩
theorem xy.chg {Z Q:Nat→Prop}{h h':af}{bf:Nat}{vf:Value}{bt:Nat}{vt p q:Value}{m n n':Pic}{s:Stg}(S:xy Z h bf vf bt vt p q m n s)(f:Fr Q h h')(A:∀c,Z c→¬Q c)(I:cA h' bt vt n'):xy Z h' bf vf bt vt p q m n' s:=
 ⟨S.src.fr f (A _ S.zf.1) λc hc=>A _ (S.zf.2 c hc),I,S.ne,S.tx.fr f λc _ D=>A c D,S.ty.fr f λc _ D=>A c D,S.zf,S.zz,S.zb,λc hc=>Nat.lt_of_lt_of_le (S.zl c hc) f.1⟩
theorem xy.mk3 {h0 h1 A:af}{bf:Nat}{vf:Value}{D p q:Value}{m n:Pic}{s:Stg}(I:cA h1 bf vf m)(nb:h0.size≤bf)(nv:∀c,blk vf c→h0.size≤c)(tx:dZ (dJ h0 h1) h1 p s.x)(ty:dZ (dJ h0 h1) h1 q s.y)(N:pU h1 A D n):
  ∃bt vt,D=ptr bt∧xy (dJ h0 h1) A bf vf bt vt p q m n s∧h1.size≤bt∧(∀c,blk vt c→h1.size≤c)∧Ext h1 A:=by
 obtain⟨bt,vt,rfl,O,F,mv,E⟩:=N;have l:=I.lt;exact⟨bt,vt,rfl,⟨I.ext E,O,by omega,tx.ext E,ty.ext E,⟨⟨nb,l⟩,λc hc=>⟨nv c hc,I.ltv hc⟩⟩,λc hc G=>by have:=hc.2;have:=mv c G;omega,λc hc H=>by have:=hc.2;omega,λc hc=>Nat.lt_of_lt_of_le hc.2 E.1⟩,F,mv,E⟩
theorem Ss {Z:Nat→Prop}{h:af}(G:dA h){bf:Nat}{vf:Value}{bt:Nat}{vt p q:Value}{m n:Pic}{s:Stg}{t:cz}(S:xy Z h bf vf bt vt p q m n s)(W:m.Wf)(A:n.Wf)(D:s.Wf):
  ae prog l8 #[ptr bf,ptr bt,.agg #[p,q,.int .i64 s.border],.agg (cS t).toArray] h (RL Z h bf vf bt vt p q m n s t):=
 YJ G S.src S.out S.ne W A S.tx S.ty D S.zf S.zz S.zl
def iQ:Pic:=qP 3 1 1 255
def lO:OpD:=⟨1,0,0,1,[],[],0,0,0⟩
def ef:cz:=⟨0,0,0,3,1,0,0,0,0,0⟩
theorem Rz {h:af}(G:dA h):ae prog uE #[] h λr h'=>r=.bool true∧Ext h h':=by
 apply Iz;unfold ym;have a0:y7 3 1 1 255=0:=by decide+kernel
 refine vA.mono λr h1 ⟨pp,e,e1,_,s1⟩=>?_
 subst e;obtain⟨bm,vm,rfl,I,ax,be,_⟩:=s1 a0;have I:cA h1 bm vm iQ:=I;have W:iQ.Wf:=Ah a0;rw[a0];simp only[go_sem];have hf:(aE #[(.int .i64 0),(.int .i64 0),(.int .i64 0),(.int .i64 0),(.slice none 0 0),(.slice none 0 0),(.int .i64 0),(.int .i64 0),(.int .i64 0)] [(0,1,(.int .i64 1)),(3,1,(.int .i64 1))])=some #[.int .i64 1,.int .i64 0,.int .i64 0,.int .i64 1,.slice none 0 0,.slice none 0 0,.int .i64 0,.int .i64 0,.int .i64 0]:=rfl;rw[hf,bA,ah];have wf:lO.Wf:=yI (by simp[I64]);refine(Fl (Z:=λ_=>True) (o:=lO) (G.ext e1) yJ wf (by simp[lO]) (by simp[lO]) (by unfold I64;omega) (by unfold I64;omega)).mono λw h2 ⟨sv,e,e2,_,s2⟩=>?_
 subst e;have a1:dT lO 3 1=0:=by decide+kernel
 have HS:=s2 a1;rw[a1];obtain⟨p,q,rfl,hp,hq,au⟩:=gX HS;simp only[go_sem];refine cD (cs:=[p,q,.int .i64 _]) rfl au rfl λb3 h3 r3 e3 n3=>?_
 refine vA.mono λr h4 ⟨pp,e,e4,_,s4⟩=>?_
 subst e;have N4:=s4 a0;rw[a0];have aa:=e2.trans e3;have up:∀c,c<h2.size→dJ h1 h2 c→dJ h h3 c:=λc hc hz=>⟨Nat.le_trans e1.1 hz.1,Nat.lt_of_lt_of_le hz.2 e3.1⟩
 obtain⟨bn,vn,rfl,S,bk,a7,_⟩:=xy.mk3 (h0:=h) (I.ext aa) ax be ((hp.mono up).ext e3) ((hq.mono up).ext e3) N4;simp only[go_sem];have E4:=e1.trans (aa.trans e4);refine ae.to (RB (G.ext E4)) λh5 e5=>?_
 simp only[go_sem];refine ae.to (RA (G.ext (E4.trans e5))) λh6 e6=>?_
 have E6:=E4.trans (e5.trans e6);simp only[go_sem,eqT];rw[aI (l:=[p,q,.int .i64 _]) ((e4.trans (e5.trans e6)).row r3) 3 rfl,ah];have aw:aE #[(.int .i64 0),(.int .i64 0),(.int .i64 0),(.int .i64 0)] [(2,1,(.int .i64 3)),(3,1,(.int .i64 1))]=some #[.int .i64 0,.int .i64 0,.int .i64 3,.int .i64 1]:=rfl;have an:aE #[(.int .i64 0),(.int .i64 0),(.int .i64 0),(.int .i64 0),(.int .i64 0),(.int .i64 0),(.int .i64 0),(.int .i64 0),(.int .i64 0),(.int .i64 0)] [(1,4,.agg #[.int .i64 0,.int .i64 0,.int .i64 3,.int .i64 1])]=some (cS ef).toArray:=rfl;rw[aw,bA,ah,an,bA,ah];have hN:(qP 3 1 1 255).Wf:=Ah a0;have H:lE iQ (qP 3 1 1 255) (bL lO 3 1) ef=0:=by decide+kernel
 refine(Ss (G.ext E6) (S.ext (e5.trans e6)) W hN (vu a1).1).mono λr h7 ⟨e7,v,U,_,s7⟩=>?_
 subst U;obtain⟨bj,rv,rfl,J⟩:=s7 H;rw[H];simp only[go_sem,eqT,QC];have OK:zF (bL lO 3 1):=Jb a1 (by omega) (by decide+kernel);have R:=OK.room (m:=iQ) (n:=qP 3 1 1 255) (t:=ef) W H;have WJ:=Jo (t:=ef) W OK.wf H
 -- the steps, one behind the other
 have f1:bM ⟨iQ,bL lO 3 1,ef⟩ 0 (-1)=1∧gi ⟨iQ,bL lO 3 1,ef⟩ 0 (-1)= -1∧eU ⟨iQ,bL lO 3 1,ef⟩ 0 (-1)=0∧gj ⟨iQ,bL lO 3 1,ef⟩ 0 (-1)=0:=by decide+kernel
 have f2:bM ⟨iQ,bL lO 3 1,ef⟩ 0 0=1∧gi ⟨iQ,bL lO 3 1,ef⟩ 0 0=0∧eU ⟨iQ,bL lO 3 1,ef⟩ 0 0=0∧gj ⟨iQ,bL lO 3 1,ef⟩ 0 0=1:=by decide+kernel
 have f3:bM ⟨iQ,bL lO 3 1,ef⟩ 0 1=1∧gi ⟨iQ,bL lO 3 1,ef⟩ 0 1=1∧eU ⟨iQ,bL lO 3 1,ef⟩ 0 1=0∧gj ⟨iQ,bL lO 3 1,ef⟩ 0 1=2:=by decide+kernel
 have f4:bM ⟨iQ,bL lO 3 1,ef⟩ 0 2=2∧gi ⟨iQ,bL lO 3 1,ef⟩ 0 2=0∧eU ⟨iQ,bL lO 3 1,ef⟩ 0 2=1:=by decide+kernel
 have f5:∀e,bM ⟨iQ,bL lO 3 1,ef⟩ 1 e=0∧gi ⟨iQ,bL lO 3 1,ef⟩ 1 e=0:=λe=>by
  have:ef.y+ef.h≤1:=by decide
  unfold bM gi;exact⟨if_pos this,if_pos this⟩
 have hF:lnF (bL lO 3 1).y ef.y= -1:=by decide+kernel
 rw[hF]at J;have J:jm (dJ h h3) (nJ (λ_=>False) h6 h7) h7 bj bm vm bn vn p q rv ⟨iQ,bL lO 3 1,ef⟩ 0 (-1) (qP 3 1 1 255) (jg (bX (bL lO 3 1).y.lines)) (fJ (ef.w*iQ.c)):=J;generalize hD:(⟨iQ,bL lO 3 1,ef⟩:em)=D at*;generalize jg (bX (bL lO 3 1).y.lines)=room at*;generalize fJ (ef.w*iQ.c)=w at*;have hB:∀c,nJ (λ_=>False) h6 h7 c→h.size≤c:=λc hc=>by
  rcases hc with hc|hc
  ·exact hc.elim
  ·have:=E6.1;omega
 have bc:∀c,blk vn c→h.size≤c:=λc hc=>by have:=a7 c hc;have:=e1.1;have:=aa.1;omega
 -- from step to step all that was is as it was
 have ab:∀{h' A:af} {B:Nat→Prop},Ext h h'→(∀c,B c→h.size≤c)→Fr (λc=>blk vn c∨B c) h' A→Ext h A:=λE hB f=>E.then_fr f λc hc=>by
  rcases hc with hc|hc
  ·exact bc c hc
  ·exact hB c hc
 have ar:∀{h' A:af} {B:Nat→Prop},Ext h h'→(∀c,B c→h.size≤c)→∀c,nJ B h' A c→h.size≤c:=λE hB c hc=>by
  rcases hc with hc|hc
  ·exact hB c hc
  ·have:=E.1;omega
 have a9:∀a b:Int,aE #[(.int .i64 0),(.int .i64 0)] [(0,1,(.int .i64 a)),(1,1,.int .i64 b)]=some #[.int .i64 a,.int .i64 b]:=λ_ _=>rfl
 have ad:∀a:Int,aE #[(.int .i64 0),(.int .i64 0)] [(0,1,(.int .i64 a))]=some #[.int .i64 a,.int .i64 0]:=λ_=>rfl
 have E7:=E6.trans e7;refine cP (λk xs h'=>∃e B n',xs=[.int .i64 e]∧(k:Int)=2-e∧ -1≤e∧Ext h h'∧(∀c,B c→h.size≤c)∧jm (dJ h h3) B h' bj bm vm bn vn p q rv D 0 e n' room w) 3
  ⟨-1,_,_,rfl,by omega,by omega,E7,hB,J⟩ λk xs ρ1 h8 again ⟨e,B,n',ex,hk,he,E8,F,J8⟩ ay=>?_
 subst ex;simp only[go_sem];refine aj (λg1=>?_) (λg1=>?_)
 ·refine(NF J8 WJ R).mono λr h9 ⟨U,n9,J9,L,_⟩=>?_
  subst U;have hs:bM D 0 e=1∧gi D 0 e=e∧eU D 0 e=0∧gj D 0 e=e+1:=by
   have:e= -1∨e=0∨e=1:=by omega
   rcases this with rfl|rfl|rfl
   ·exact f1
   ·exact f2
   ·exact f3
  rw[hs.1,hs.2.1]at*;rw[hs.2.2.1,hs.2.2.2]at J9;rw[a9,bA,ah,WN];simp only[go_sem,eqT,and_self];rw[w64 (by omega) (by omega)];exact ay _ _ (k-1) (by omega) ⟨e+1,_,n9,rfl,by omega,by omega,ab E8 F L,ar E8 F,J9⟩
 ·have bd:e=2:=by omega
  subst bd;refine(NF J8 WJ R).mono λr h9 ⟨U,n9,J9,L,_⟩=>?_
  subst U;rw[f4.2.2]at J9;rw[f4.1,f4.2.1,ad,bA,ah,Sa];simp only[go_sem,eqT,and_self];refine(NF J9 WJ R).mono λr bi ⟨U,n10,bg,al,_⟩=>?_
  subst U;rw[(f5 _).1,(f5 _).2];have a8:aE #[(.int .i64 0),(.int .i64 0)] []=some #[.int .i64 0,.int .i64 0]:=rfl;simp only[go_sem,a8,bA,Sa,eqT,and_self];exact⟨by simp,ab (ab E8 F L) (ar E8 F) al⟩
end Go.Proofs.YtcoimlclclnlkaaGreatDoor
namespace Go.Proofs.YtcoimlclclnlkaaGreatDoor
open Go Go.Crisp
attribute [local irreducible] ae cF aP stK aA vK qK bD gK dE aS mkK cG Cn DS Ad bsK clK qN lS R9
section
def B8 (n:Int):Prop:=0≤n∧n≤255
def bgS (a:qR)(o:OpD):Stg:=bL o (dp a).w (dp a).h
def bgN (a:qR)(o:OpD):Pic:=qP (bgS a o).x.lines.length (bgS a o).y.lines.length (dp a).c (dp a).most
structure Lj (a:qR)(o:OpD):Prop where
 little:¬kw 12 o
 made:dT o (dp a).w (dp a).h=0
 fit:gu (bgS a o).x.lines.length (bgS a o).y.lines.length (dp a).c
 sx:1≤(bgS a o).x.lines.length∧(bgS a o).x.lines.length≤12
 sy:1≤(bgS a o).y.lines.length∧(bgS a o).y.lines.length≤12
theorem bg_ok {a:qR}{o:OpD}(L:kZ 12 [o])(hc:xB [o] (dp a).w (dp a).h (dp a).c=0):Lj a o:=by
 have h1:¬kw 12 o:=L o (by simp);have W:=zk a;unfold xB at hc;rw[if_neg (by simp)]at hc;have I:gu (dp a).w (dp a).h (dp a).c:=(sb a).fits;rw[if_neg (by simpa using I)]at hc;unfold Cy at hc;by_cases F:dT o (dp a).w (dp a).h=0
 ·rw [if_neg (by simpa using F)]at hc;have A:=EW F;by_cases D:gu (mH o (dp a).w) (qf o (dp a).h) (dp a).c
  ·have H:=cq D;have⟨U,b2⟩:mH o (dp a).w≤12∧qf o (dp a).h≤12:=by
    unfold mH qf at H ⊢;unfold kw at h1;split<;>rename_i G
    ·rw[if_pos G,if_pos G]at H;omega
    ·omega
   refine⟨h1,F,?_,?_,?_⟩
   ·unfold bgS;rw[A.1,A.2];exact D
   ·unfold bgS;omega
   ·unfold bgS;omega
  ·rw[if_pos D]at hc;cases hc
 ·rw[if_pos F]at hc;exact absurd hc F
section
variable {a:qR}{o:OpD}
theorem Lj.stg (H:Lj a o):zF (bgS a o):=Jb H.made (by have:=zk a;omega) (by have:=(EW H.made).1;have:=H.sx;unfold bgS at this;omega)
theorem Lj.suits (H:Lj a o):jK (dp a) (bgN a o) (bgS a o):=⟨FS H.made,rfl,rfl,rfl,rfl⟩
theorem Lj.imgc (H:Lj a o):y7 (bgS a o).x.lines.length (bgS a o).y.lines.length (dp a).c (dp a).most=0:=vz.2 ⟨H.fit,(sb a).m1,(sb a).m2⟩
end
end
section
structure Zc (h:af)(cs os:List Value)(a:qR)(o:OpD):Prop where
 pic:∃Z,mS.R Z h cs a
 wa:a.Wf
 op:∃Z,rOp.R Z h os o
 wo:Eo [o]
structure SO (hL:af)(B0 Q:Nat→Prop)(Z:Nat→Prop)(h:af)(bj bf:Nat)(vf:Value)(bt:Nat)(vt p q rv:Value)(d:em)(y e:Int)(n:Pic)(room w:Nat):Prop where
 st:∃B,jm Z B h bj bf vf bt vt p q rv d y e n room w∧∀c,c<hL.size→B c→B0 c
 fr:Fr (λc=>(blk vt c∨B0 c)∨Q c) hL h
def GoFr (vt:Value)(B Q:Nat→Prop)(h h':af):Prop:=Fr (λc=>(blk vt c∨B c)∨Q c) h h'
theorem GoFr.row {vt:Value}{B Q:Nat→Prop}{h h':af}(e:GoFr vt B Q h h'){b:Nat}{o:Obj}(r:h[b]? =some o)(A:¬((blk vt b∨B b)∨Q b)):h'[b]? =some o:=Go.Crisp.Fr.row e r A
section
variable {hL:af}{B0 Q:Nat→Prop}{Z:Nat→Prop}{h:af}{bj bf:Nat}{vf:Value}{bt:Nat}{vt p q rv:Value}{d:em}{y e:Int}{n:Pic}{room w:Nat}
theorem SO.row {b:Nat}{ob:Obj}(J:SO hL B0 Q Z h bj bf vf bt vt p q rv d y e n room w)(r:hL[b]? =some ob)(A:¬blk vt b)(D:¬B0 b)(F:¬Q b):h[b]? =some ob:=J.fr.row r λhh=>hh.elim (λhh=>hh.elim A D) F
theorem SO.out (J:SO hL B0 Q Z h bj bf vf bt vt p q rv d y e n room w):En d n∧cA h bt vt n∧cA h bf vf d.m:=by
 obtain⟨⟨B,S,A⟩,f⟩:=J;exact⟨S.out,S.img,S.src⟩
end
theorem RL.go {Z:Nat→Prop}{h:af}{bf:Nat}{vf:Value}{bt:Nat}{vt p q:Value}{m n:Pic}{s:Stg}{t:cz}{r:Value}{h':af}(H:RL Z h bf vf bt vt p q m n s t r h')(hc:lE m n s t=0):
  ∃bj rv,r=.tuple #[ptr bj,.int .i64 0]∧Ext h h'∧jm Z (nJ (λ_=>False) h h') h' bj bf vf bt vt p q rv ⟨m,s,t⟩ t.y (lnF s.y t.y) n (jg (bX s.y.lines)) (fJ (t.w*m.c)):=by
 obtain⟨e,v,A,_,H⟩:=H;obtain⟨bj,rv,rfl,J⟩:=H hc;exact⟨bj,rv,by rw[A,hc],e,J⟩
end
end Go.Proofs.YtcoimlclclnlkaaGreatDoor
namespace Go.Proofs.YtcoimlclclnlkaaGreatDoor
open Go Go.Crisp
theorem Uc {h:af}{G:List TS}{args:Array Value}(R:sK (.st SY:: .st tOp::G) h args.toList):∃cs H a o r,args.toList=.agg (List.toArray cs):: .agg (List.toArray H)::r∧Zc h cs H a o∧sK G h r:=by
 obtain⟨v,r,L,⟨x,c,rfl,D⟩,u,I,F,⟨y,d,rfl,A⟩,h0⟩:=R;have D:Rd SY h c.toList x:=D;have A:Rd tOp h d.toList y:=A;obtain⟨h1,U⟩:=Yh D;refine⟨c.toList,d.toList,R6 x,OH y,I,by rw[L,F,Array.toArray_toList,Array.toArray_toList],⟨⟨_,h1⟩,U,⟨_,(XX A).1⟩,WG A⟩,h0⟩
theorem RU {h:af}{F:List TS}{l:List Value}(R:sK (.int .u8::F) h l):∃n r,l=.int .u8 n::r∧B8 n∧sK F h r:=by
 obtain⟨v,r,G,⟨x,A,D⟩,h0⟩:=R;obtain rfl:v=.int .u8 x:=by simpa using A
 exact⟨x,r,G,XV D,h0⟩
end Go.Proofs.YtcoimlclclnlkaaGreatDoor
namespace Go.Proofs.YtcoimlclclnlkaaGreatDoor
open Go Go.Crisp
open _root_.Go.Proofs.Tryz
def HM:Go.Shelf.Ren:=⟨λn=>match n with|23=>130|n=>n,λn=>match n with|0=>0|3=>3|4=>4|22=>73|n=>n,λn=>n⟩
theorem QU:Go.Proofs.Lays2.n23 prog HM where
 mixed:=by kernel_rfl
 f23:=by kernel_rfl
 t0:=by kernel_rfl
 a0:=λw=>bO (by kernel_rfl)
 z0:=λw=>bh (by kernel_rfl)
 v0:=λw=>aT (by kernel_rfl)
 t3:=by kernel_rfl
 a3:=λw=>bO (by kernel_rfl)
 z3:=λw=>bh (by kernel_rfl)
 v3:=λw=>aT (by kernel_rfl)
 t4:=by kernel_rfl
 a4:=λw=>bO (by kernel_rfl)
 z4:=λw=>bh (by kernel_rfl)
 v4:=λw=>aT (by kernel_rfl)
 t22:=by kernel_rfl
 a22:=λw=>bO (by kernel_rfl)
 z22:=λw=>bh (by kernel_rfl)
 v22:=λw=>aT (by kernel_rfl)
 i3:=by kernel_rfl
end Go.Proofs.YtcoimlclclnlkaaGreatDoor
namespace Go.Proofs.YtcoimlclclnlkaaGreatDoor
open Go Go.Crisp
attribute [local irreducible] ae cF aP stK aA vK qK bD gK dE aS mkK cG Cn DS Ad bsK clK qN lS R9
structure dr (n n':Pic):Prop where
 w:n'.w=n.w
 h:n'.h=n.h
 c:n'.c=n.c
 m:n'.most=n.most
theorem dr.refl (n:Pic):dr n n:=⟨rfl,rfl,rfl,rfl⟩
theorem dr.newC {m n n':Pic}{s:Stg}{t:cz}(D:dr n n')(h:lE m n s t=0):lE m n' s t=0:=by
 obtain⟨h1,A⟩:=ng.1 h;exact ng.2 ⟨⟨h1.1,by rw[D.w];exact h1.2.1,by rw[D.h];exact h1.2.2.1,by rw[D.c];exact h1.2.2.2.1,by rw[D.m];exact h1.2.2.2.2⟩,A⟩
theorem dr.inP {n n':Pic}(D:dr n n'){x y c:Int}:Go.Proofs.YtcoimlclclnlkaaGreatDoor.inP n' x y c↔Go.Proofs.YtcoimlclclnlkaaGreatDoor.inP n x y c:=by
 unfold Go.Proofs.YtcoimlclclnlkaaGreatDoor.inP;rw[D.w,D.h,D.c]
theorem UE {n n':Pic}(W:n.Wf)(l2:(n'.l.length:Int)=n'.w*n'.h*n'.c)(D:dr n n')(H:∀x y c,inP n x y c→atP n x y c=atP n' x y c):n.l=n'.l:=by
 have hf:=cq W.fits;have l1:=W.len;rw[D.w,D.h,D.c]at l2;refine DX (by omega) λi h1 h2=>?_
 have L:0<n.c:=by omega
 have I:0<n.w:=by omega
 have U:=Int.mul_ediv_add_emod (i:Int) n.c;have e2:=Int.mul_ediv_add_emod ((i:Int)/n.c) n.w;have m1:=Int.emod_nonneg (i:Int) (show n.c≠0 by omega);have m2:=Int.emod_lt_of_pos (i:Int) L;have m3:=Int.emod_nonneg ((i:Int)/n.c) (show n.w≠0 by omega);have m4:=Int.emod_lt_of_pos ((i:Int)/n.c) I;have q0:0≤(i:Int)/n.c:=Int.ediv_nonneg (by omega) (by omega);have q1:0≤(i:Int)/n.c/n.w:=Int.ediv_nonneg q0 (by omega);have q2:(i:Int)/n.c<n.w*n.h:=by
  rw[Int.ediv_lt_iff_lt_mul L];omega
 have q3:(i:Int)/n.c/n.w<n.h:=by
  rw[Int.ediv_lt_iff_lt_mul I,Int.mul_comm];exact q2
 have A:inP n ((i:Int)/n.c%n.w) ((i:Int)/n.c/n.w) ((i:Int)%n.c):=⟨m3,m4,q1,q3,m1,m2⟩
 have G:kn n ((i:Int)/n.c%n.w) ((i:Int)/n.c/n.w) ((i:Int)%n.c)=(i:Int):=by
  unfold kn;rw[Int.mul_comm ((i:Int)/n.c/n.w),e2,Int.mul_comm ((i:Int)/n.c),U]
 have F:kn n' ((i:Int)/n.c%n.w) ((i:Int)/n.c/n.w) ((i:Int)%n.c)=(i:Int):=by
  unfold kn at G ⊢;rw[D.w,D.c];exact G
 have:=H _ _ _ A;unfold atP at this;rw[if_pos A,if_pos (D.inP.2 A),G,F,Int.toNat_natCast]at this;simpa[List.getD_eq_getElem?_getD,h1,h2]using this
end Go.Proofs.YtcoimlclclnlkaaGreatDoor
namespace Go.Crisp
open Go
def Mt (v:Value):Prop:=∀a n c,v=.slice a n c→c≤9223372036854775807
theorem V0 {z:Value}{e:TypeId}{w bytes:Nat}{s x:Value}{h:af}{K U:Value→af→Prop}(H:cG z e w bytes s x h K)(L:Mt s)(m:∀I h',K I h'→Mt I→U I h'):cG z e w bytes s x h U:=by
 unfold cG at H ⊢;split at H
 ·rename_i D A F n _;split at H
  ·rename_i h0;rw[if_pos h0]
   revert H
   cases sW w h n x with
   |none=>exact λH=>H
   | some G=>
    cases D with
    |none=>exact λH=>m _ _ H λa n c e=>by cases e;exact L _ _ _ rfl
    |some a=>
     dsimp only;cases iO h (a.add (A*w)) 0 G with
     |none=>exact λH=>H
     |some h'=>exact λH=>m _ _ H λa n c e=>by cases e;exact L _ _ _ rfl
  ·rename_i h0;rw[if_neg h0];refine⟨H.1,H.2.1,?_⟩;have H:=H.2.2
   revert H
   cases sW w h A (.slice D A F)<;>cases sW w h n x
   ·exact λH=>H
   ·exact λH=>H
   ·exact λH=>H
   ·exact λH c h1 W=>m _ _ (H c h1 W) λa n c' e=>by cases e;omega
 ·exact H
theorem SlC.isSl_one {w:Nat}{h:af}{v:Value}{n:Nat}{cs:List Value}(H:SlC w h v n cs):aJ v=true:=by obtain⟨a,c,e⟩:=H.isSl;rw[e];rfl
def Rp.SlCap (v:Value):Prop:=∃a n c,v=.slice a n c∧n≤c
theorem TF:Mt (.slice none 0 0):=λa n c e=>by cases e;omega
end Go.Crisp
namespace Go.Proofs.YtcoimlclclnlkaaGreatDoor
open Go Go.Crisp
attribute [local irreducible] ae cF aP stK aA vK qK bD gK dE aS mkK Cn DS Ad bsK clK qN lS R9
open _root_.Go.Proofs.Tryz
section
theorem MF {α:Type}[Inhabited α](A:α→Value)(off:Nat)(d:Array α)(c:Array Value)(i:Nat):(Go.Sort.putCells A off d c)[i]? =c[i]?.map λx=>if off≤i∧i<off+d.size then A d[i-off]! else x:=by
 unfold Go.Sort.putCells;rw[Array.getElem?_mapIdx]
theorem VU {h:af}{v:Value}{x:Int}{l:List Int}(H:Own 1 h v (l.length+1) ((x::l).map λn=>Value.int .i64 n))(hc:Mt v):
  ae prog jE #[v,.int .i64 0,.int .i64 1] h λr h'=>Own 1 h' r l.length (l.map λn=>Value.int .i64 n)∧Mt r∧Fr (blk v) h h'∧(∀b,blk r b→blk v b):=by
 refine ae.ofCalls (by kernel_rfl) λw hh=>?_
 subst hh;rcases H with⟨_,h0,_⟩|⟨b,cap,r,e,rfl,U,hl,hr,A⟩
 ·cases h0
 have I:=hc _ _ _ rfl;have F:∀j,(D:j<(x::l).length)→w.heap[b]? =some (.cells ((x::l).map (λn=>Value.int .i64 n)++r).toArray e (0,0))→aB w.heap ⟨b,0+j,none⟩=some (.int .i64 (x::l)[j]):=λj D A=>by
  rw[ai A,Nat.zero_add];simp only[List.getElem?_toArray];rw[List.getElem?_append_left (by simpa using D),List.getElem?_map,List.getElem?_eq_getElem D];rfl
 have hH:Go.Sort.Holds (Value.int .i64) w b 0 (x::l).toArray:=λj D=>by
  have W:j<(x::l).length:=by simpa using D
  refine⟨?_,?_⟩
  ·rw[getElem!_pos (x::l).toArray j D];exact F j W A
  ·show rZ w.heap ⟨b,0+j,none⟩=false;unfold rZ;simp[A]
 have:=Any.slices_Delete_int QU b 0 cap 0 1 (x::l) w hH U I (by omega) (by simp);refine this.mono λe' w' ⟨h1,q,h2⟩=>⟨_,h1,?_⟩
 subst h2;have aa:b<w.heap.size:=(Array.getElem?_eq_some_iff.1 A).1;have G:(Go.Sort.putRow (Value.int .i64) (Go.Sort.ahead w q) b 0 ((x::l).take 0++(x::l).drop 1++List.replicate (1-0) 0).toArray).heap[b]? =some (.cells (l.map (λn=>Value.int .i64 n)++(Value.int .i64 0::r)).toArray e (0,0)):=by
  show(w.heap.modify b (Go.Sort.onCells _))[b]? =_;rw[Array.getElem?_modify,if_pos rfl,A];show some (Obj.cells (Go.Sort.putCells _ 0 _ _) e (0,0))=_
  congr 2
  apply Array.ext_getElem?;intro i;rw[MF];simp only[List.take_zero,List.nil_append,List.drop_succ_cons,List.drop_zero,Nat.sub_zero,List.replicate_one,Nat.zero_le,true_and,Nat.zero_add,List.size_toArray,List.length_append,List.length_singleton,List.getElem?_toArray];by_cases L:i<l.length+1
  ·rw[List.getElem?_append_left (by simpa using L),List.getElem?_map,List.getElem?_eq_getElem (show i<(x::l).length by simpa using L),Option.map_some,Option.map_some,if_pos L,getElem!_pos _ i (by simpa using L)];by_cases h4:i<l.length
   ·rw[List.getElem?_append_left (by simpa using h4),List.getElem?_map,List.getElem?_eq_getElem h4];simp[List.getElem_append_left,h4]
   ·have:i=l.length:=by omega
    subst this;rw[List.getElem?_append_right (by simp)];simp
  ·have e1:((x::l).map (λn=>Value.int .i64 n)++r)[i]? =r[i-(l.length+1)]? :=by
    rw[List.getElem?_append_right (by simp;omega)];simp
   have e2:(l.map (λn=>Value.int .i64 n)++Value.int .i64 0::r)[i]? =r[i-(l.length+1)]? :=by
    rw[List.getElem?_append_right (by simp;omega),List.length_map,show i-l.length=(i-(l.length+1))+1 by omega,List.getElem?_cons_succ]
   rw[e1,e2];cases r[i-(l.length+1)]? <;>simp[L]
 refine⟨⟨rfl,rfl,rfl⟩,?_,λa n c e=>?_,⟨?_,λk hk hm=>?_⟩,λk hk=>hk⟩
 ·refine .inr ⟨b,cap,Value.int .i64 0::r,e,?_,by omega,by simp,?_,G⟩
  ·simp
  ·simp at hr ⊢;omega
 ·cases e;exact I
 ·show w.heap.size≤(w.heap.modify b _).size;simp
 ·show(w.heap.modify b _)[k]? =_;rw[Array.getElem?_modify,if_neg (λh=>hm h.symm)]
structure QD where
 room:Int
 l:List Int
 closed:Bool
structure QD.Wf (d:QD):Prop where
 r1:1≤d.room
 r2:d.room≤4096
 l:(d.l.length:Int)≤d.room
structure IsQ (Q:Nat→Prop)(h:af)(b:Nat)(d:QD):Prop where
 at_:∃v,h[b]? =some (.cells #[.int .i64 d.room,v,.bool d.closed] 173 (0,0))∧Own 1 h v d.l.length (d.l.map λn=>Value.int .i64 n)∧Mt v∧¬blk v b∧∀c,blk v c→Q c
 qb:Q b
 ql:∀c,Q c→c<h.size
 wf:d.Wf
theorem IsQ.fr {Q M:Nat→Prop}{h h':af}{b:Nat}{d:QD}(H:IsQ Q h b d)(f:Fr M h h')(q:∀c,Q c→¬M c):IsQ Q h' b d:=by
 obtain⟨⟨v,r,o,c,n,s⟩,qb,ql,w⟩:=H;exact⟨⟨v,f.row r (q b qb),o.fr f λk A=>q k (s k A),c,n,s⟩,qb,λk A=>Nat.lt_of_lt_of_le (ql k A) f.1,w⟩
theorem IsQ.ext {Q:Nat→Prop}{h h':af}{b:Nat}{d:QD}(H:IsQ Q h b d)(e:Ext h h'):IsQ Q h' b d:=H.fr (M:=λ_=>False) e.fr λ_ _=>id
def mQ (d:QD)(x:Int):QD:=if d.closed then d else if d.room≤d.l.length then d else{d with l:=d.l++[x]}
def rP (d:QD):Int:=if d.closed then 2 else if d.room≤d.l.length then 1 else 0
def mR (d:QD):QD:={d with l:=d.l.tail}
def bN (d:QD):Int:=d.l.headD 0
def di (d:QD):Int:=if d.l=[]then(if d.closed then 2 else 1)else 0
theorem GQ {B:Nat→Prop}{h h':af}(D:∀c,B c→c<h.size)(A:h.size≤h'.size):∀c,nJ B h h' c→c<h'.size:=λc hc=>hc.elim (λh=>Nat.lt_of_lt_of_le (D c h) A) λh=>h.2
section
variable {Q:Nat→Prop}{h:af}{b:Nat}{d:QD}
theorem VF {h:af}{n:Int}:ae prog lz #[.int .i64 n] h λr h'=>∃b,r=ptr b∧IsQ (λc=>c=b) h' b ⟨min (max 1 n) 4096,[],false⟩∧Ext h h'∧h.size≤b:=by
 apply M9;unfold Dd;have D:∀v:Int,aE #[(.int .i64 0),(.slice none 0 0),(.bool false)] [(0,1,.int .i64 v)]=some #[.int .i64 v,.slice none 0 0,.bool false]:=λ_=>rfl
 simp only[go_sem,D,bA];refine aC λb h1 r1 A F=>?_
 exact⟨b,rfl,⟨⟨_,r1,.inl ⟨rfl,rfl,rfl⟩,TF,id,λc hc=>hc.elim⟩,rfl,λc hc=>by rw[hc];exact aU r1,⟨by show 1≤min (max 1 n) 4096;omega,by show min (max 1 n) 4096≤4096;omega,by show(0:Int)≤min (max 1 n) 4096;omega⟩⟩,A,F⟩
theorem Me (H:IsQ Q h b d):ae prog gC #[ptr b] h λr h'=>r=.bool d.closed∧h'=h:=by
 apply xG;unfold mM;obtain⟨⟨v,r,o,c,n,s⟩,qb,ql,w⟩:=H;have A:aB h ⟨b,2,none⟩=some (.bool d.closed):=ai r;simp only[go_sem,A];exact⟨trivial,trivial⟩
theorem Mn (H:IsQ Q h b d):ae prog gh #[ptr b] h λr h'=>r=.bool (decide (rP d≠1))∧h'=h:=by
 apply vZ;unfold lK rP;obtain⟨⟨v,r,o,c,n,s⟩,qb,ql,w⟩:=H;have G:aB h ⟨b,0,none⟩=some (.int .i64 d.room):=ai r;have I:aB h ⟨b,1,none⟩=some v:=ai r;have A:aB h ⟨b,2,none⟩=some (.bool d.closed):=ai r;obtain⟨a,L,e⟩:=o.isSl;have F:aq v=some (.int .i64 (d.l.length:Int)):=by rw[e];rfl
 cases hc:d.closed with
 |true=>
  rw[hc]at A;simp only[go_sem,G,I,A,F];exact⟨by simp,trivial⟩
 |false=>
  rw[hc]at A;simp only[go_sem,G,I,A,F,Nat.zero_add];refine⟨?_,trivial⟩
  congr 1
  rw[decide_eq_decide];by_cases D:d.room≤d.l.length
  ·simp[D]
  ·simp[D];omega
theorem NM (H:IsQ Q h b d):ae prog gM #[ptr b] h λr h'=>r=.bool (decide (di d≠1))∧h'=h:=by
 apply sQ;unfold jY di;obtain⟨⟨v,r,o,c,n,s⟩,qb,ql,w⟩:=H;have F:aB h ⟨b,1,none⟩=some v:=ai r;have A:aB h ⟨b,2,none⟩=some (.bool d.closed):=ai r;obtain⟨a,G,e⟩:=o.isSl;have D:aq v=some (.int .i64 (d.l.length:Int)):=by rw[e];rfl
 cases hc:d.closed with
 |true=>
  rw[hc]at A;simp only[go_sem,F,A,D];refine⟨?_,trivial⟩;cases d.l<;>simp
 |false=>
  rw[hc]at A;simp only[go_sem,F,A,D,Nat.zero_add];refine⟨?_,trivial⟩;cases d.l<;>simp
theorem Xr (H:IsQ Q h b d){x:Int}:ae prog kV #[ptr b,.int .i64 x] h λr h'=>r=.int .i64 (rP d)∧IsQ (nJ Q h h') h' b (mQ d x)∧Fr Q h h':=by
 apply Ay;unfold qu;have H0:=H;obtain⟨⟨v,r,o,c,n,s⟩,qb,ql,w⟩:=H;have c1:aB h ⟨b,1,none⟩=some v:=ai r;have U:aB h ⟨b,2,none⟩=some (.bool d.closed):=ai r;cases hc:d.closed with
 |true=>
  rw[hc]at U;simp only[go_sem,U];unfold rP mQ;rw[if_pos hc,if_pos hc,Ai];exact⟨rfl,H0,Fr.refl _ _⟩
 | false=>
  have A:¬d.closed=true:=by rw[hc];simp
  rw[hc]at U;simp only[go_sem,U];refine ae.at (Mn H0) ?_;by_cases L:d.room≤d.l.length
  ·have W:rP d=1:=by unfold rP;rw[if_neg A,if_pos L]
   have hq:mQ d x=d:=by unfold mQ;rw[if_neg A,if_pos L]
   rw[W,hq,Ai,decide_eq_false (by decide)];simp only[go_sem];exact⟨trivial,H0,Fr.refl _ _⟩
  ·have W:rP d=0:=by unfold rP;rw[if_neg A,if_neg L]
   have hq:mQ d x={d with l:=d.l++[x]}:=by unfold mQ;rw[if_neg A,if_neg L]
   rw[W,hq,decide_eq_true (by decide)];simp only[go_sem,c1];have w1:=w.r2;refine cH (Rp.fill_one rfl) λb1 h1 r1 G n1=>?_
   refine V0 (sr (o.fr (M:=λ_=>False) G.fr λ_ _=>id) (Rp.SlC.single (cs:=[.int .i64 x]) r1) (ak rfl aQ) rfl (by omega) (by omega) λs' h2 o2 f2 I=>(⟨o2,f2,I⟩:Own 1 h2 s' (d.l.length+1) (d.l.map (λn=>Value.int .i64 n)++[.int .i64 x])∧Fr (blk v) h1 h2∧∀b,blk s' b→blk v b∨h1.size≤b)) c λv2 h2 ⟨o2,f2,I⟩ aa=>?_
   have rb:=f2.row (G.row r) n;have an:=aU (G.row r);have F:¬blk v2 b:=λhv=>(I b hv).elim n λhh=>by omega
   try simp only[go_sem]
   refine bJ rb (by simp) o2.sl.isSl_one λh3 r3 u3=>?_
   have al:=G.1;have ab:=f2.1;have ad:=u3.1;refine⟨trivial,⟨⟨v2,r3,?_,aa,F,λk D=>?_⟩,.inl qb,GQ ql (by omega),⟨w.r1,w.r2,by show((d.l++[x]).length:Int)≤d.room;simp;omega⟩⟩,?_⟩
   ·show Own 1 h3 v2 (d.l++[x]).length ((d.l++[x]).map λn=>Value.int .i64 n);rw[List.length_append,List.map_append];exact o2.fr u3.fr λk D he=>F (he▸D)
   ·rcases I k D with h5|h5
    ·exact .inl (s k h5)
    ·have:=o2.lt D;exact .inr ⟨by omega,by omega⟩
   ·exact((G.fr (M:=Q)).after f2 λk _ D=>s k D).after u3.fr λk _ D=>D▸qb
theorem Ru (H:IsQ Q h b d):ae prog jc #[ptr b] h λr h'=>r=.tuple #[.int .i64 (bN d),.int .i64 (di d)]∧IsQ (nJ Q h h') h' b (mR d)∧Fr Q h h':=by
 apply vY;unfold lJ;have H0:=H;obtain⟨⟨v,r,o,c,n,s⟩,qb,ql,w⟩:=H;have c1:aB h ⟨b,1,none⟩=some v:=ai r;have c2:aB h ⟨b,2,none⟩=some (.bool d.closed):=ai r;obtain⟨a,cp,e⟩:=o.isSl;have G:aq v=some (.int .i64 (d.l.length:Int)):=by rw[e];rfl
 cases A:d.l with
 |nil=>
  have hx:bN d=0:=by unfold bN;rw[A];rfl
  have hq:mR d=d:=by unfold mR;rw[A];cases d;simp_all
  rw[hx,hq];rw[A]at G;have U:¬(0:Int)<((0:Nat):Int):=by omega
  simp only[go_sem,c1,G,List.length_nil,decide_eq_false U,c2];have I:di d=if d.closed then 2 else 1:=by unfold di;rw[if_pos A]
  rw[I];cases d.closed with
  |true=>rw[fP];exact⟨rfl,by rw[Ai];exact H0,Fr.refl _ _⟩
  |false=>rw[cf];exact⟨rfl,by rw[Ai];exact H0,Fr.refl _ _⟩
 |cons x t=>
  have hx:bN d=x:=by unfold bN;rw[A];rfl
  have hq:mR d={d with l:=t}:=by unfold mR;rw[A];rfl
  have I:di d=0:=by unfold di;rw[if_neg (by rw[A];simp)]
  rw[hx,hq,I];rw[A]at G o;have o':Own 1 h v (t.length+1) ((x::t).map λn=>Value.int .i64 n):=o;have zp:(0:Int)<(((x::t).length:Nat):Int):=by simp
  obtain⟨pp,W,p2⟩:=(EE (k:=.i64) (l:=x::t) o).int_at (k':=.i64) (i:=0) (by simp);have W:aR 1 v (.int .i64 0)=some pp:=W;simp only[go_sem,c1,G,decide_eq_true zp,W,p2];refine(VU o' c).mono λv2 h2 ⟨o2,aa,f2,n2⟩=>?_
  have rb:=f2.row r n;have F:¬blk v2 b:=λhv=>n (n2 b hv)
  try simp only[go_sem]
  refine bJ rb (by simp) o2.sl.isSl_one λh3 r3 L=>?_
  have ab:=f2.1;have ad:=L.1;have wl:=w.l;rw[A]at wl;refine⟨rfl,⟨⟨v2,r3,o2.fr L.fr λk D he=>F (he▸D),aa,F,λk D=>.inl (s k (n2 k D))⟩,.inl qb,GQ ql (by omega),⟨w.r1,w.r2,by show(t.length:Int)≤d.room;simp at wl;omega⟩⟩,?_⟩;exact(f2.mono λk _ D=>s k D).trans (L.fr.mono λk _ D=>D▸qb)
theorem PP (H:IsQ Q h b d):ae prog gU #[ptr b] h λr h'=>r=.bool (!d.closed)∧IsQ Q h' b {d with closed:=true}∧Fr Q h h':=by
 apply yS;unfold oQ;obtain⟨⟨v,r,o,c,n,s⟩,qb,ql,w⟩:=H;have G:aB h ⟨b,2,none⟩=some (.bool d.closed):=ai r;simp only[go_sem,G];refine bJ r (by simp) rfl λL I A=>?_
 try simp only[go_sem]
 exact⟨trivial,⟨⟨v,I,o.fr A.fr λk D F=>n (F▸D),c,n,s⟩,qb,λc hc=>by rw[A.1];exact ql c hc,⟨w.r1,w.r2,w.l⟩⟩,A.fr.mono λk _ D=>D▸qb⟩
end
end
end Go.Proofs.YtcoimlclclnlkaaGreatDoor
namespace Go.Crisp
open Go
theorem Rp.Ow.slcap {α:Type}{e:Rp α}{Z:Nat→Prop}{h:af}{v:Value}{l:List α}(H:Rp.Ow e Z h v l):Rp.SlCap v:=by
 obtain⟨ds,o,_⟩:=H;rcases o with⟨rfl,_,_⟩|⟨b,cap,r,e,rfl,hc,_⟩
 ·exact⟨_,_,_,rfl,Nat.le_refl _⟩
 ·exact⟨_,_,_,rfl,hc⟩
end Go.Crisp
namespace Go.Proofs.YtcoimlclclnlkaaGreatDoor
open Go Go.Crisp
attribute [local irreducible] ae cF aP stK aA vK qK bD gK dE aS mkK cG Cn DS Ad bsK clK qN lS R9
open _root_.Go.Proofs.Tryz
section
theorem VB {h:af}{n:Int}:ae prog jG #[.int .i64 n] h λr h'=>r=.agg #[.int .i64 (min (max 1 n) 4096),.slice none 0 0,.bool false]∧Ext h h':=by
 apply MT;unfold CY;have A:∀v:Int,aE #[(.int .i64 0),(.slice none 0 0),(.bool false)] [(0,1,.int .i64 v)]=some #[.int .i64 v,.slice none 0 0,.bool false]:=λ_=>rfl
 refine aC λD h1 r1 I U=>?_
 have fin:∀v:Int,v=min (max 1 n) 4096→stK 3 (ptr D) (.agg #[.int .i64 v,.slice none 0 0,.bool false]) h1 λW F=>vK (aH 3 F (ptr D)) λG=>G=.agg #[.int .i64 (min (max 1 n) 4096),.slice none 0 0,.bool false]∧Ext h F:=by
  intro v L;subst L;refine ce (l:=[.int .i64 (min (max 1 n) 4096),.slice none 0 0,.bool false]) r1 rfl (ak rfl (ak rfl (ak rfl aQ))) rfl λh2 r2 H=>?_
  rw[aI (l:=[.int .i64 (min (max 1 n) 4096),.slice none 0 0,.bool false]) r2 3 rfl,ah];exact⟨rfl,I.upd U H⟩
 simp only[go_sem];refine aj (λg1=>?_) (λg1=>?_)
 ·rw[decide_eq_false (by decide)];simp only[go_sem,A,bA];exact fin 1 (by omega)
 ·refine aj (λg2=>?_) (λg2=>?_)
  ·simp only[go_sem,A,bA];exact fin 4096 (by omega)
  ·simp only[go_sem,A,bA];exact fin n (by omega)
section
variable {Z:Nat→Prop}{h:af}{cs:List Value}{d:QD}
end
end
section
structure WE where
 bf:Nat
 vf:Value
 bt:Nat
 vt:Value
 p:Value
 q:Value
 m:Pic
 s:Stg
structure WE.Ok (E:WE):Prop where
 m:E.m.Wf
 s:zF E.s
abbrev WE.d (E:WE)(t:cz):em:=⟨E.m,E.s,t⟩
def ie (Z B:Nat→Prop)(h:af)(E:Option WE)(n:Pic)(jv:Value):Option (cz×Int×Int)→Prop
 |none=>jv=.pointer none
 |some (t,y,e)=>∃E',E=some E'∧E'.Ok∧lE E'.m n E'.s t=0∧∃bj rv,jv=ptr bj∧jm Z B h bj E'.bf E'.vf E'.bt E'.vt E'.p E'.q rv (E'.d t) y e n (jg (bX E'.s.y.lines)) (fJ (t.w*E'.m.c))
def de (E:Option WE):Nat→Prop:=match E with|none=>λ_=>False|some E=>blk E.vt
def xA (E:Option WE)(b:Nat):Prop:=match E with|none=>True|some E=>b≠E.bt
theorem ie.one {Z B:Nat→Prop}{h:af}{E:Option WE}{n:Pic}{A:Value}{jo:Option (cz×Int×Int)}(H:ie Z B h E n A jo):aJ A=true:=by
 cases jo with
 |none=>rw[show A=_ from H];rfl
 |some x=>obtain⟨t,y,e⟩:=x;obtain⟨_,_,_,_,bj,rv,rfl,_⟩:=H;rfl
def gR (h:af)(E:Option WE)(n:Pic):Prop:=∀E',E=some E'→cA h E'.bt E'.vt n∧n.Wf
theorem ie.other {Z B Q:Nat→Prop}{h h':af}{E:Option WE}{n n':Pic}{F:Value}{jo:Option (cz×Int×Int)}(H:ie Z B h E n F jo)(f:Fr Q h h')(L:∀c,Z c→¬Q c)(qb:∀c,B c→¬Q c)(I:gR h' E n')(D:dr n n'):ie Z B h' E n' F jo:=by
 cases jo with
 |none=>exact H
 |some x=>
  obtain⟨t,y,e⟩:=x;obtain⟨A,rfl,ok,hc,bj,rv,rfl,S⟩:=H;obtain⟨G,U⟩:=I A rfl;exact⟨A,rfl,ok,D.newC hc,bj,rv,rfl,S.other f L qb G (Sc U (D.newC hc))⟩
structure WD where
 state:Int
 tiles:List Int
 job:Option (cz×Int×Int)
 words:Int
def qO (E:Option WE)(jo:Option (cz×Int×Int)):Prop:=match jo,E with|some (t,y,e),some E=>bM (E.d t) y e≠0|_,_=>False
structure IsW (Z B:Nat→Prop)(h:af)(bw:Nat)(E:Option WE)(n:Pic)(w:WD):Prop where
 at_:∃tv jv Bj,h[bw]? =some (.cells #[.int .i64 w.state,tv,jv,.int .i64 w.words] 175 (0,0))∧Own 1 h tv w.tiles.length (w.tiles.map λn=>Value.int .i64 n)∧ie Z Bj h E n jv w.job∧
  (∀c,blk tv c→B c∧¬Bj c∧c≠bw)∧(∀c,Bj c→B c)∧¬Bj bw
 bw0:B bw
 bl:∀c,B c→c<h.size
 bz:∀c,B c→¬Z c∧xA E c∧¬de E c
 zl:∀c,Z c→c<h.size
 out:gR h E n
 st:(w.state=1∧qO E w.job∧w.tiles≠[])∨((w.state=0∨w.state=2)∧w.job=none)
theorem IsW.other {Z B Q:Nat→Prop}{h h':af}{bw:Nat}{E:Option WE}{n n':Pic}{w:WD}(H:IsW Z B h bw E n w)(f:Fr Q h h')(U:∀c,Z c→¬Q c)(qb:∀c,B c→¬Q c)(I:gR h' E n')(D:dr n n'):IsW Z B h' bw E n' w:=by
 obtain⟨⟨tv,jv,F,r,o,J,a1,a2,a3⟩,A,W,G,bz,b4,L⟩:=H;exact⟨⟨tv,jv,F,f.row r (qb _ A),o.fr f λc hc=>qb c (a1 c hc).1,J.other f U (λc hc=>qb c (a2 c hc)) I D,a1,a2,a3⟩,A,λc hc=>Nat.lt_of_lt_of_le (W c hc) f.1,G,λc hc=>Nat.lt_of_lt_of_le (bz c hc) f.1,I,L⟩
theorem IsW.ext {Z B:Nat→Prop}{h h':af}{bw:Nat}{E:Option WE}{n:Pic}{w:WD}(H:IsW Z B h bw E n w)(e:Ext h h'):IsW Z B h' bw E n w:=
 H.other (Q:=λ_=>False) e.fr (λ_ _ h=>h) (λ_ _ h=>h) (λA D=>⟨(H.out A D).1.ext e,(H.out A D).2⟩) (dr.refl n)
section
variable {Z B:Nat→Prop}{h:af}{bw:Nat}{E:Option WE}{n:Pic}{w:WD}
theorem F0 {h:af}:ae prog lZ #[] h λr h'=>∃b,r=ptr b∧h'[b]? =some (.cells #[.int .i64 0,.slice none 0 0,.pointer none,.int .i64 0] 175 (0,0))∧Ext h h'∧h.size≤b:=by
 apply Kv;unfold AG;have D:aE #[(.int .i64 0),(.slice none 0 0),(.pointer none),(.int .i64 0)] []=some #[.int .i64 0,.slice none 0 0,.pointer none,.int .i64 0]:=rfl;simp only[go_sem,D,bA];refine aC λb h1 r1 A F=>?_
 exact⟨b,rfl,r1,A,F⟩
theorem IsW.new {h:af}{b:Nat}(r:h[b]? =some (.cells #[.int .i64 0,.slice none 0 0,.pointer none,.int .i64 0] 175 (0,0)))(D:¬Z b)(h1:xA E b)(A:¬de E b)(zl:∀c,Z c→c<h.size)(I:gR h E n):IsW Z (λc=>c=b) h b E n ⟨0,[],none,0⟩:=
 ⟨⟨_,_,λ_=>False,r,.inl ⟨rfl,rfl,rfl⟩,rfl,λc hc=>hc.elim,λc hc=>hc.elim,id⟩,rfl,λc hc=>by rw[hc];exact aU r,λc hc=>by rw[hc];exact⟨D,h1,A⟩,zl,I,.inr ⟨.inl rfl,rfl⟩⟩
theorem XC (H:IsW Z B h bw E n w):ae prog ja #[ptr bw] h λr h'=>r=.int .i64 w.state∧h'=h:=by
 apply vW;unfold lH;obtain⟨⟨tv,F,D,r,_⟩,_⟩:=H;have A:aB h ⟨bw,0,none⟩=some (.int .i64 w.state):=ai r;simp only[go_sem,A];exact⟨trivial,trivial⟩
theorem Cv {Q:Nat→Prop}{bq:Nat}{d:QD}(H:IsW Z B h bw E n w)(D:IsQ Q h bq d):ae prog dt #[ptr bw,ptr bq] h λr h'=>r=.bool (decide (w.state=1∨(w.state=0∧di d≠1)))∧h'=h:=by
 apply sP;unfold jX;have A:=H.st;obtain⟨⟨tv,I,G,r,_⟩,_⟩:=H;have F:aB h ⟨bw,0,none⟩=some (.int .i64 w.state):=ai r;simp only[go_sem,F];refine aj (λg=>?_) (λg=>?_)
 ·refine ae.at (NM D) ?_;refine⟨?_,rfl⟩
  congr 1
  rw[decide_eq_decide];constructor
  ·exact λhh=>.inr ⟨g,hh⟩
  ·rintro(hh|hh)
   ·omega
   ·exact hh.2
 ·refine aj (λg1=>?_) (λg1=>?_)
  ·exact⟨by rw[decide_eq_true (.inl g1)],trivial⟩
  ·exact⟨by rw[decide_eq_false];omega,trivial⟩
def b9 (E:Option WE)(jo:Option (cz×Int×Int)):Option (cz×Int×Int):=match jo,E with|some (t,y,e),some E=>if bM (E.d t) y e=0 then none else some (t,y,e)|_,_=>none
theorem Ev (E:Option WE)(jo:Option (cz×Int×Int)):(b9 E jo≠none∧qO E (b9 E jo)∧b9 E jo=jo)∨b9 E jo=none:=by
 unfold b9 qO;cases jo with
 |none=>exact .inr rfl
 | some x=>
  obtain⟨t,y,e⟩:=x;cases E with
  |none=>exact .inr rfl
  |some E=>
   dsimp only;by_cases A:bM (E.d t) y e=0
   ·rw[if_pos A];exact .inr rfl
   ·rw[if_neg A];exact .inl ⟨by simp,A,rfl⟩
end
end
section
theorem gR.fr {Q:Nat→Prop}{h h':af}{E:Option WE}{n:Pic}(I:gR h E n)(f:Fr Q h h')(hq:∀c,Q c→c<h.size→xA E c∧¬de E c):gR h' E n:=λF G=>by
 subst G;have A:=(I F rfl).1;exact⟨A.fr f (λhc=>(hq _ hc A.lt).1 rfl) (λc D hc=>(hq c hc (A.ltv D)).2 D),(I F rfl).2⟩
theorem gR.ext {h h':af}{E:Option WE}{n:Pic}(I:gR h E n)(e:Ext h h'):gR h' E n:=I.fr (Q:=λ_=>False) e.fr λ_ h=>h.elim
theorem gR.new {h:af}{E:Option WE}{n:Pic}(I:gR h E n){c:Nat}(hc:h.size≤c):xA E c∧¬de E c:=by
 cases E with
 |none=>exact⟨trivial,id⟩
 |some E=>exact⟨λD=>by have:=(I E rfl).1.lt;rw[D]at hc;omega,λA=>by have:=(I E rfl).1.ltv A;omega⟩
def stJ:Option (cz×Int×Int)→Int
 |none=>0
 |some _=>1
theorem ie.upd {Z B:Nat→Prop}{h h':af}{bw:Nat}{E:Option WE}{n:Pic}{D:Value}{jo:Option (cz×Int×Int)}(H:ie Z B h E n D jo)(u:Upd bw h h')(F:¬Z bw)(G:¬B bw)(h1:xA E bw)(L:¬de E bw)(I:gR h E n):ie Z B h' E n D jo:=
 H.other u.fr (λc hc A=>F (A▸hc)) (λc hc A=>G (A▸hc)) (I.fr u.fr λc hc _=>by rw[show c=bw from hc];exact⟨h1,L⟩) (dr.refl n)
section
variable {Z B:Nat→Prop}{h:af}{bw:Nat}{E:Option WE}{n:Pic}{w:WD}
theorem PE {U:Nat→Prop}{st wd:Int}{tv L:Value}{jo:Option (cz×Int×Int)}(r:h[bw]? =some (.cells #[.int .i64 st,tv,L,.int .i64 wd] 175 (0,0)))(J:ie Z U h E n L jo)(hz:¬Z bw)(hb:¬U bw)(F:xA E bw)(G:¬de E bw)(I:gR h E n):
  ae prog da #[ptr bw] h λr h'=>∃A,h'[bw]? =some (.cells #[.int .i64 (stJ (b9 E jo)),tv,A,.int .i64 wd] 175 (0,0))∧ie Z U h' E n A (b9 E jo)∧Fr (λc=>c=bw) h h':=by
 apply vl;unfold kX;simp only[go_sem];refine bJ r (by simp) rfl λh1 r1 W=>?_
 have r1:h1[bw]? =some (.cells #[.int .i64 1,tv,L,.int .i64 wd] 175 (0,0)):=r1;have J1:=J.upd W hz hb F G I;have I1:=I.fr W.fr λc hc _=>by rw[show c=bw from hc];exact⟨F,G⟩
 have c2:aB h1 ⟨bw,2,none⟩=some L:=ai r1;simp only[go_sem,Nat.zero_add,c2]
 -- it goes
 have gone:∀{h2:af},Ext h1 h2→b9 E jo=none→stK 1 (.pointer (some ⟨bw,0,none⟩)) (.int .i64 0) h2 λab aa=>stK 1 (.pointer (some ⟨bw,2,none⟩)) (.pointer none) aa λ_ h'=>∃A,h'[bw]? =some (.cells #[.int .i64 (stJ (b9 E jo)),tv,A,.int .i64 wd] 175 (0,0))∧ie Z U h' E n A (b9 E jo)∧Fr (λc=>c=bw) h h':=by
  intro h2 D hs;refine bJ (D.row r1) (by simp) rfl λh3 r3 u3=>?_
  refine bJ r3 (by simp) rfl λh4 r4 u4=>?_
  rw[hs];exact⟨_,r4,rfl,((W.fr.ext_r D).trans u3.fr).trans u4.fr⟩
 cases jo with
 |none=>
  have hj:L=.pointer none:=J;subst hj;simp only[go_sem,c2,Yk];exact gone (Ext.refl _) rfl
 | some x=>
  obtain⟨t,y,e⟩:=x;obtain⟨H,rfl,ok,hc,bj,rv,rfl,S⟩:=J1;simp only[go_sem,c2,QC];refine ae.to (JW S (Jo ok.m ok.s.wf hc)) λh2 D=>?_
  have hp:mT false 1 0 (y5 (bM (H.d t) y e) (gi (H.d t) y e))=some (.int .i64 (bM (H.d t) y e)):=rfl;simp only[go_sem,hp];refine aj (λhk=>?_) (λhk=>?_)
  ·exact gone D (if_pos hk)
  ·have hs:b9 (some H) (some (t,y,e))=some (t,y,e):=if_neg hk;rw[hs];exact⟨_,D.row r1,⟨H,rfl,ok,hc,bj,rv,rfl,S.ext D⟩,W.fr.ext_r D⟩
def Uh (E:Option WE)(jo:Option (cz×Int×Int))(k:Int):Int:=match jo,E with|some (t,_,_),some E=>max k ((jg (bX E.s.y.lines):Int)*(fJ (t.w*E.m.c):Int))|_,_=>k
def AF (E:Option WE)(w:WD)(x:Int)(jo:Option (cz×Int×Int)):WD:=⟨stJ (b9 E jo),w.tiles++[x],b9 E jo,Uh E jo w.words⟩
def X7 (Z:Nat→Prop)(E:Option WE)(n:Pic)(ov:Value)(x:Int)(jo:Option (cz×Int×Int))(Qo M:Nat→Prop)(P0 P1:af→Prop)(h:af):Prop:=
 (ov=.nilFunc∧jo=none∧∀g,P0 g→P1 g)∨(ag .f .neq ov .nilFunc=some (.bool true)∧∀h1,Fr M h h1→P0 h1→clK prog ov #[.int .i64 x] h1 λr h2=>∃Bj,(∀c,Bj c→h1.size≤c∧c<h2.size)∧ie Z Bj h2 E n r jo∧Fr Qo h1 h2∧P1 h2)
abbrev Ra (k t mk mr:Int):Value:=.agg #[.int .i64 k,.int .i64 t,.int .i64 mk,.int .i64 mr]
theorem Vo {v:Value}{args:Array Value}{h:af}{K A:Value→af→Prop}(H:clK prog v args h K)(k:∀r h',K r h'→A r h'):clK prog v args h A:=by
 unfold clK at H ⊢;split at H
 ·exact H.mono k
 ·exact H.elim
theorem yE {E:Option WE}{jo:Option (cz×Int×Int)}:(stJ (b9 E jo)=1∧qO E (b9 E jo))∨((stJ (b9 E jo)=0∨stJ (b9 E jo)=2)∧b9 E jo=none):=by
 rcases Ev E jo with⟨h1,A,D⟩|h
 ·left;refine⟨?_,A⟩
  revert h1
  cases b9 E jo with
  |none=>exact λh=>absurd rfl h
  |some x=>exact λ_=>rfl
 ·rw[h];exact .inr ⟨.inl rfl,rfl⟩
theorem YK {x:Int}{ov:Value}{jo:Option (cz×Int×Int)}{Qo:Nat→Prop}{P0 P1:af→Prop}(H:IsW Z B h bw E n w)(hw:w.state=0)(ht:w.tiles.length≤1000000)(HO:X7 Z E n ov x jo Qo B P0 P1 h)
  (qo:∀c,Qo c→c<h.size∧¬B c∧¬Z c∧xA E c∧¬de E c) (hP:∀g g',Fr (λc=>B c∨h.size≤c) g g'→(P0 g→P0 g')∧(P1 g→P1 g')) (p0:P0 h):
  ae prog jC #[ptr bw,.int .i64 x,ov] h λr h'=>r=Ra 1 x 0 0∧IsW Z (nJ B h h') h' bw E n (AF E w x jo)∧Fr (λc=>B c∨Qo c) h h'∧P1 h':=by
 apply xC;unfold mI;have H0:=H;obtain⟨⟨tv,jv,U,r,o,J,a1,a2,a3⟩,w0,bl,bz,zl,I,st⟩:=H;have a7:w.job=none:=by
  rcases st with h|h
  ·omega
  ·exact h.2
 rw[a7]at J;have hj:jv=.pointer none:=J;subst hj;refine aC λb1 h1 r1 e1 n1=>?_
 have c1:aB h1 ⟨bw,1,none⟩=some tv:=ai (e1.row r);simp only[go_sem,Nat.zero_add,c1];refine cH (Rp.fill_one rfl) λb2 h2 r2 e2 n2=>?_
 have E2:=e1.trans e2;refine sr (m:=1) (o.fr (M:=λ_=>False) E2.fr λ_ _=>id) (Rp.SlC.single (cs:=[.int .i64 x]) r2) (ak rfl aQ) rfl (by omega) (by omega) λv3 h3 o3 f3 n3=>?_
 have ca:=aU r;have b7:=E2.1;have b8:=f3.1;have r3:=f3.row (E2.row r) λhc=>(a1 _ hc).2.2 rfl
 have ad:∀c,blk v3 c→(B c∧c≠bw)∨h.size≤c:=λc hc=>(n3 c hc).imp (λh=>⟨(a1 c h).1,(a1 c h).2.2⟩) λh=>by omega
 have D:¬blk v3 bw:=λhc=>(ad _ hc).elim (λh=>h.2 rfl) λh=>by omega
 try simp only[go_sem]
 refine bJ r3 (by simp) o3.sl.isSl_one λh4 r4 u4=>?_
 have r4:h4[bw]? =some (.cells #[.int .i64 w.state,v3,.pointer none,.int .i64 w.words] 175 (0,0)):=r4;have o4:=o3.fr u4.fr λc hc W=>D (W▸hc)
 have b6:=u4.1;have F4:Fr B h h4:=(E2.fr.after f3 λc _ hc=>(a1 c hc).1).after u4.fr λc _ hc=>hc▸w0
 have I4:gR h4 E n:=I.fr F4 λc hc _=>(bz c hc).2
 have an:P0 h4:=(hP h h4 (F4.mono λc _ hc=>.inl hc)).1 p0;have bv:=e1.1;have bo:=e2.1;have cb:=aU r1;have ar:h.size≤b1:=n1;have e4:h4[b1]? =some (.cells #[.int .i64 0,.int .i64 0,.int .i64 0,.int .i64 0] 99 (0,0)):=u4.row (by omega) (f3.row (e2.row r1) λhc=>by have:=bl _ (a1 _ hc).1;omega)
 -- with a job, or with none
 refine aV (λxs A=>∃jv U,A[bw]? =some (.cells #[.int .i64 w.state,v3,jv,.int .i64 w.words] 175 (0,0))∧ie Z U A E n jv jo∧(∀c,U c→h4.size≤c)∧(∀c,U c→c<A.size)∧Fr (λc=>B c∨Qo c) h A∧h4.size≤A.size∧Own 1 A v3 (w.tiles.length+1) (w.tiles.map (λn=>Value.int .i64 n)++[.int .i64 x])∧P1 A∧A[b1]? =some (.cells #[.int .i64 0,.int .i64 0,.int .i64 0,.int .i64 0] 99 (0,0))) ?_ ?_
 ·rcases HO with⟨rfl,rfl,hp⟩|⟨aw,a8⟩
  ·have e0:ag .f .neq Value.nilFunc Value.nilFunc=some (.bool false):=rfl;simp only[go_sem,e0];exact⟨_,λ_=>False,r4,rfl,λc hc=>hc.elim,λc hc=>hc.elim,F4.mono λc _ hc=>.inl hc,Nat.le_refl _,o4,hp _ an,e4⟩
  ·simp only[go_sem,aw];refine Vo (a8 h4 F4 an) λv5 A ⟨U,k1,k2,k3,k4⟩=>?_
   have r5:=k3.row r4 λhc=>(qo _ hc).2.1 w0
   have o5:=o4.fr k3 λc hc hq=>(ad c hc).elim (λh=>(qo c hq).2.1 h.1) λh=>by have:=(qo c hq).1;omega
   have ax:=k3.1
   try simp only[go_sem]
   refine bJ r5 (by simp) k2.one λG r6 L=>?_
   have au:=L.1;have aa:¬U bw:=λhc=>by have:=(k1 _ hc).1;omega
   have I5:gR A E n:=I4.fr k3 λc hc _=>(qo c hc).2.2.2
   refine⟨v5,U,r6,k2.upd L (bz _ w0).1 aa (bz _ w0).2.1 (bz _ w0).2.2 I5,λc hc=>(k1 c hc).1,λc hc=>by rw[au];exact(k1 c hc).2,?_,by omega,o5.fr L.fr λc hc W=>D (W▸hc),?_⟩
   ·exact((F4.mono λc _ hc=>.inl hc).after k3 λc _ hc=>.inr hc).after L.fr λc _ hc=>.inl (hc▸w0)
   ·exact⟨(hP A G (L.fr.mono λc _ hc=>.inl (hc▸w0))).2 k4,L.row (by omega) (k3.row e4 λhc=>by have:=(qo _ hc).1;omega)⟩
 ·rintro xs ρ A ⟨jv,U,r5,J5,k1,k2,F5,ax,o5,p5,e5⟩;have aa:¬U bw:=λhc=>by have:=k1 _ hc;omega
  have I5:gR A E n:=I.fr F5 λc hc _=>hc.elim (λh=>(bz c h).2) λh=>(qo c h).2.2.2
  have c2:aB A ⟨bw,2,none⟩=some jv:=ai r5;have c3:aB A ⟨bw,3,none⟩=some (.int .i64 w.words):=ai r5
  -- the end: settled, and told
  have fin:∀{G:af},G[bw]? =some (.cells #[.int .i64 w.state,v3,jv,.int .i64 (Uh E jo w.words)] 175 (0,0))→ie Z U G E n jv jo→Fr (λc=>B c∨Qo c) h G→A.size≤G.size→gR G E n→P1 G→
    Own 1 G v3 (w.tiles.length+1) (w.tiles.map (λn=>Value.int .i64 n)++[.int .i64 x])→G[b1]? =some (.cells #[.int .i64 0,.int .i64 0,.int .i64 0,.int .i64 0] 99 (0,0))→
    ae prog da #[ptr bw] G λb5 bc=>vK ((aE #[(.int .i64 0),(.int .i64 0),(.int .i64 0),(.int .i64 0)] [(0,1,(.int .i64 1)),(1,1,.int .i64 x)]).map .agg) λbd=>stK 4 (ptr b1) bd bc λb0 ab=>vK (aH 4 ab (ptr b1)) λay=>
     ay=Ra 1 x 0 0∧IsW Z (nJ B h ab) ab bw E n (AF E w x jo)∧Fr (λc=>B c∨Qo c) h ab∧P1 ab:=by
   intro G r6 J6 F6 au I6 p6 o6 e6;refine(PE r6 J6 (bz _ w0).1 aa (bz _ w0).2.1 (bz _ w0).2.2 I6).mono λ_ h7 ⟨be,r7,J7,f7⟩=>?_
   have hf:∀z:Int,aE #[(.int .i64 0),(.int .i64 0),(.int .i64 0),(.int .i64 0)] [(0,1,.int .i64 1),(1,1,.int .i64 z)]=some #[.int .i64 1,.int .i64 z,.int .i64 0,.int .i64 0]:=λ_=>rfl
   have b3:=f7.1;simp only[go_sem,hf,bA];refine ce (l:=[.int .i64 1,.int .i64 x,.int .i64 0,.int .i64 0]) (f7.row e6 λhc=>by omega) rfl (ak rfl (ak rfl (ak rfl (ak rfl aQ)))) rfl λh8 r8 u8=>?_
   rw[aI (l:=[.int .i64 1,.int .i64 x,.int .i64 0,.int .i64 0]) r8 4 rfl,ah];have b4:=u8.1;have I7:gR h7 E n:=I6.fr f7 λc hc _=>by rw[show c=bw from hc];exact(bz _ w0).2
   have F7:Fr (λc=>B c∨Qo c) h h7:=F6.after f7 λc _ hc=>.inl (hc▸w0)
   have F8:Fr (λc=>B c∨Qo c) h h8:=F7.upd_new u8 ar;have al:=I.new ar;have bk:¬Z b1:=λhz=>by have:=zl _ hz;omega
   have bi:¬U b1:=λhc=>by have:=k1 _ hc;omega
   have o8:=(o6.fr f7 λc hc W=>D (W▸hc)).fr u8.fr λc hc W=>by
    have W:c=b1:=W;rcases n3 c hc with F|F
    ·have:=bl _ (a1 c F).1;omega
    ·omega
   have ho:gR h8 E n:=I7.fr u8.fr λc hc _=>by rw[show c=b1 from hc];exact al
   refine⟨rfl,⟨⟨v3,be,U,u8.row (by omega) r7,?_,J7.upd u8 bk bi al.1 al.2 I7,λc hc=>⟨?_,λhj=>?_,λW=>D (W▸hc)⟩,λc hc=>.inr ⟨?_,?_⟩,aa⟩,.inl w0,GQ bl (by omega),λc hc=>?_,λc hc=>Nat.lt_of_lt_of_le (zl c hc) F8.1,ho,?_⟩,F8,?_⟩
   ·show Own 1 h8 v3 (w.tiles++[x]).length ((w.tiles++[x]).map λn=>Value.int .i64 n);rw[List.length_append,List.map_append];exact o8
   ·rcases ad c hc with F|F
    ·exact .inl F.1
    ·exact .inr ⟨F,o8.lt hc⟩
   ·have:=k1 c hj;rcases n3 c hc with F|F
    ·have:=bl _ (a1 c F).1;omega
    ·have:=o3.lt hc;omega
   ·have:=k1 c hc;omega
   ·have:=k2 c hc;omega
   ·rcases hc with F|F
    ·exact bz c F
    ·exact⟨λhz=>by have:=zl c hz;omega,I.new F.1⟩
   ·rcases yE (E:=E) (jo:=jo)with⟨F,a9⟩|F
    ·exact .inl ⟨F,a9,by simp[AF]⟩
    ·exact .inr F
   ·exact(hP h7 h8 (u8.fr.mono λc _ hc=>.inr (by have hc:c=b1:=hc;omega))).2 ((hP G h7 (f7.mono λc _ hc=>.inl (hc▸w0))).2 p6)
  cases jo with
  |none=>
   have hj:jv=.pointer none:=J5;subst hj;simp only[go_sem,c2,Yj];exact fin r5 rfl F5 (Nat.le_refl _) I5 p5 o5 e5
  | some y=>
   obtain⟨t,yy,e⟩:=y;have bg:=J5;obtain⟨E',rfl,ok,hc,bj,rv,rfl,S⟩:=J5;simp only[go_sem,c2,QB];refine aG (λg=>g=A) rfl ?_;refine ao (.int .i64 w.words) (λg e=>by rw[e];exact c3) ?_
   try simp only[go_sem]
   refine ao (ptr bj) (λg e=>by rw[e];exact c2) ?_;refine ae.at (JV S) ⟨rfl,?_⟩;refine ao (.int .i64 (max w.words ((jg (bX E'.s.y.lines):Int)*(fJ (t.w*E'.m.c):Int)))) (λ_ _=>I9 _ _ _) ?_
   try simp only[go_sem]
   refine bJ r5 (by simp) rfl λG r6 L=>?_
   exact fin r6 (bg.upd L (bz _ w0).1 aa (bz _ w0).2.1 (bz _ w0).2.2 I5) (F5.after L.fr λc _ hc=>.inl (hc▸w0)) (by rw[L.1];exact Nat.le_refl _) (I5.fr L.fr λc hc _=>by rw[show c=bw from hc];exact(bz _ w0).2) ((hP A G (L.fr.mono λc _ hc=>.inl (hc▸w0))).2 p5)
    (o5.fr L.fr λc hc W=>D (W▸hc)) (L.row (by omega) e5)
abbrev EvD:=Int×Int×Int×Int
abbrev evV (e:EvD):Value:=Ra e.1 e.2.1 e.2.2.1 e.2.2.2
def cE (E:Option WE)(jo:Option (cz×Int×Int))(w:WD)(d:QD):WD×QD×EvD:=
 if w.state=1 then
  match w.job,E with
  |some (t,y,e),some E'=>
   let j:=b9 E (some (t,eU (E'.d t) y e,gj (E'.d t) y e))
   (⟨stJ j,w.tiles,j,w.words⟩,d,(2,w.tiles.getLast?.getD 0,bM (E'.d t) y e,gi (E'.d t) y e))
  |_,_=>(w,d,(0,0,0,0))
 else if w.state=2 then(w,d,(0,0,0,0))
 else if di d=0 then(AF E w (bN d) jo,mR d,(1,bN d,0,0))
 else if di d=2 then({w with state:=2},mR d,(3,0,0,0))
 else(w,mR d,(0,0,0,0))
def sU (w:WD)(d:QD):Prop:=w.state=0∧di d=0
def zW (E:Option WE)(w:WD)(n n':Pic):Prop:=
 dr n n'∧match w.job,E with
  |some (t,y,e),some E=>En (E.d t) n∧En (E.d t) n'∧(bM (E.d t) y e≠2→n'=n)∧(bM (E.d t) y e=2→∀x' y' c',inP n x' y' c'→atP n' x' y' c'=if uN (E.d t) y (fJ (t.w*E.m.c)) x' y' c' then ui E.m E.s x' y' c' else atP n x' y' c')
  |_,_=>n'=n
theorem zW.same {E:Option WE}{w:WD}{n:Pic}(h:w.job=none):zW E w n n:=⟨dr.refl n,by rw[h]⟩
structure SM (Z B Q Qo:Nat→Prop)(h h':af)(bw bq:Nat)(E:Option WE)(n:Pic)(w w':WD)(d':QD):Prop where
 ex:∃n' B' Q',IsW Z B' h' bw E n' w'∧IsQ Q' h' bq d'∧(∀c,B' c→B c∨h.size≤c)∧(∀c,Q' c→Q c∨h.size≤c)∧(∀c,B' c→¬Q' c)∧zW E w n n'
 fr:Fr (λc=>de E c∨B c∨Q c∨Qo c) h h'
theorem Sr {Q:Nat→Prop}{bq:Nat}{d:QD}{ov:Value}{jo:Option (cz×Int×Int)}{Qo:Nat→Prop}{P0 P1:af→Prop}(H:IsW Z B h bw E n w)(HQ:IsQ Q h bq d)(ht:w.tiles.length≤1000000)
  (HO:sU w d→X7 Z E n ov (bN d) jo Qo (λc=>B c∨Q c) P0 P1 h) (ab:∀c,B c→¬Q c) (qz:∀c,Q c→¬Z c∧xA E c∧¬de E c) (qo:∀c,Qo c→c<h.size∧¬B c∧¬Q c∧¬Z c∧xA E c∧¬de E c)
  (hP:∀g g',Fr (λc=>de E c∨B c∨Q c∨h.size≤c) g g'→(P0 g→P0 g')∧(P1 g→P1 g')) (p0:P0 h):
  ae prog cg #[ptr bw,ptr bq,ov] h λr h'=>r=evV (cE E jo w d).2.2∧SM Z B Q Qo h h' bw bq E n w (cE E jo w d).1 (cE E jo w d).2.1∧(sU w d→P1 h')∧(¬sU w d→P0 h'):=by
 apply xD;unfold mJ;have H0:=H;obtain⟨⟨tv,jv,Bj,r,o,J,a1,a2,a3⟩,w0,bl,bz,zl,I,st⟩:=H;refine aC λb1 h1 r1 e1 n1=>?_
 have bv:=e1.1;have c7:=aU r1;have a7:h.size≤b1:=n1;have c3:=aU r;have r':=e1.row r;have H1:=H0.ext e1;have ay:=HQ.ext e1;have I1:=I.ext e1;have a8:=I.new a7;have al:∀c,Q c→c<h.size:=HQ.ql;have c0:aB h1 ⟨bw,0,none⟩=some (.int .i64 w.state):=ai r';simp only[go_sem,Nat.zero_add,c0];have L:∀{F:af} {ev:EvD} {w':WD} {d':QD} {n':Pic} {B' Q':Nat→Prop},F[b1]? =some (.cells #[.int .i64 0,.int .i64 0,.int .i64 0,.int .i64 0] 99 (0,0))→Fr (λc=>de E c∨B c∨Q c∨Qo c) h F→IsW Z B' F bw E n' w'→IsQ Q' F bq d'→(∀c,B' c→(B c∨h.size≤c)∧c≠b1)→(∀c,Q' c→(Q c∨h.size≤c)∧c≠b1)→(∀c,B' c→¬Q' c)→zW E w n n'→
   (sU w d→P1 F)→(¬sU w d→P0 F)→cE E jo w d=(w',d',ev)→
   stK 4 (ptr b1) (evV ev) F λ_ U=>vK (aH 4 U (ptr b1)) λv=>v=evV (cE E jo w d).2.2∧SM Z B Q Qo h U bw bq E n w (cE E jo w d).1 (cE E jo w d).2.1∧(sU w d→P1 U)∧(¬sU w d→P0 U):=by
  intro F ev w' d' n' B' Q' e2 F2 W2 Q2 k1 k2 k3 D p1 p0 he;refine ce (l:=[.int .i64 ev.1,.int .i64 ev.2.1,.int .i64 ev.2.2.1,.int .i64 ev.2.2.2]) e2 rfl (ak rfl (ak rfl (ak rfl (ak rfl aQ)))) rfl λU r3 u3=>?_
  rw[aI (l:=[.int .i64 ev.1,.int .i64 ev.2.1,.int .i64 ev.2.2.1,.int .i64 ev.2.2.2]) r3 4 rfl,ah,he];have cu:∀c,Z c→¬c=b1:=λc hz he=>by have:=zl _ hz;omega
  have hp:=hP F U (u3.fr.mono λc _ hc=>.inr (.inr (.inr (by have hc:c=b1:=hc;omega))));refine⟨rfl,⟨⟨n',B',Q',W2.other u3.fr cu (λc hc=>(k1 c hc).2) (W2.out.fr u3.fr λc hc _=>by rw[show c=b1 from hc];exact a8) (dr.refl n'),Q2.fr u3.fr λc hc=>(k2 c hc).2,λc hc=>(k1 c hc).1,λc hc=>(k2 c hc).1,k3,D⟩,F2.upd_new u3 a7⟩,λh=>hp.2 (p1 h),λh=>hp.1 (p0 h)⟩
 have fE:aE #[(.int .i64 0),(.int .i64 0),(.int .i64 0),(.int .i64 0)] []=some #[.int .i64 0,.int .i64 0,.int .i64 0,.int .i64 0]:=rfl;have fL:aE #[(.int .i64 0),(.int .i64 0),(.int .i64 0),(.int .i64 0)] [(0,1,.int .i64 3)]=some #[.int .i64 3,.int .i64 0,.int .i64 0,.int .i64 0]:=rfl;have aa:∀c,B c→(B c∨h.size≤c)∧c≠b1:=λc hc=>⟨.inl hc,λhe=>by have:=bl c hc;omega⟩
 have au:∀c,Q c→(Q c∨h.size≤c)∧c≠b1:=λc hc=>⟨.inl hc,λhe=>by have:=al c hc;omega⟩
 by_cases s1:w.state=1
 ·-- a job goes on
  have ad:¬sU w d:=λh=>by have:=h.1;omega
  obtain⟨hg,bd⟩:qO E w.job∧w.tiles≠[]:=by
   rcases st with h|h
   ·exact h.2
   ·have:=h.1;omega
  cases an:w.job with
  |none=>rw[an]at hg;exact hg.elim
  | some q=>
   obtain⟨t,y,e⟩:=q;rw[an]at J hg;obtain⟨A,rfl,ok,hc,bj,rv,rfl,S⟩:=J;have hg:bM (A.d t) y e≠0:=hg;have b5:=Jo ok.m ok.s.wf hc;have c2:aB h1 ⟨bw,2,none⟩=some (ptr bj):=ai r';simp only[go_sem,decide_eq_true s1,c2];refine(NF (S.ext e1) b5 (ok.s.room ok.m hc)).mono λrm F ⟨er,n',S2,f2,b0,bo⟩=>?_
   subst er;have cc:=f2.1;refine cD (cs:=[.int .i64 (bM (A.d t) y e),.int .i64 (gi (A.d t) y e)]) rfl (ak rfl (ak rfl aQ)) rfl λb3 U r3 e3 n3=>?_
   have S3:=S2.ext e3;have ar:=e3.1;have OO:=S3.out;have D:dr n n':=⟨by rw[OO.w,S.out.w],by rw[OO.h,S.out.h],by rw[OO.c,S.out.c],by rw[OO.m,S.out.m]⟩
   have fq:∀c,(blk A.vt c∨Bj c)→de (some A) c∨B c:=λc hc=>hc.imp id λh=>a2 c h
   have nw:¬(blk A.vt bw∨Bj bw):=λhc=>hc.elim (bz _ w0).2.2 a3
   have b2:=e3.row (f2.row r' nw);have I3:gR U (some A) n':=λE2 hE=>by cases hE;exact⟨S3.img,OO.wf⟩
   have be:¬nJ Bj h1 F bw:=λhc=>hc.elim a3 λh=>by omega
   have J3:ie Z (nJ Bj h1 F) U (some A) n' (ptr bj) (some (t,eU (A.d t) y e,gj (A.d t) y e)):=⟨A,rfl,ok,D.newC hc,bj,rv,rfl,S3⟩
   refine(PE b2 J3 (bz _ w0).1 be (bz _ w0).2.1 (bz _ w0).2.2 I3).mono λ_ h4 ⟨b7,r4,J4,f4⟩=>?_
   have c6:=f4.1;have I4:gR h4 (some A) n':=I3.fr f4 λc hc _=>by rw[show c=bw from hc];exact(bz _ w0).2
   have bk:∀c,blk tv c→¬(blk A.vt c∨Bj c):=λc hc h=>h.elim (bz c (a1 c hc).1).2.2 (a1 c hc).2.1
   have o4:=(((o.fr (M:=λ_=>False) e1.fr λ_ _=>id).fr f2 bk).fr (M:=λ_=>False) e3.fr λ_ _=>id).fr f4 λc hc he=>(a1 c hc).2.2 he
   have cw:=aU r3;have ci:¬(blk A.vt b1∨Bj b1):=λhc=>hc.elim a8.2 λh=>by have:=bl _ (a2 _ h);omega
   have e4:=f4.row (e3.row (f2.row r1 ci)) λhc=>by omega
   have b4:=f4.row r3 λhc=>by omega
   have c1:aB h4 ⟨bw,1,none⟩=some tv:=ai r4;obtain⟨a,cp,et⟩:=o4.isSl;have el:aq tv=some (.int .i64 (w.tiles.length:Int)):=by rw[et];rfl
   have c4:0<w.tiles.length:=List.length_pos_iff.2 bd;obtain⟨pp,p1,p2⟩:=(EE (k:=.i64) (l:=w.tiles) o4).int_at (k':=.i64) (i:=w.tiles.length-1) (by omega);have p1:aR 1 tv (.int .i64 ((w.tiles.length:Int)-1))=some pp:=by rw[show(w.tiles.length:Int)-1=((w.tiles.length-1:Nat):Int)by omega];exact p1
   refine aG (λg=>g=h4) rfl ?_
   try simp only[go_sem,Nat.zero_add]
   refine ao tv (λg e=>by rw[e];exact c1) ?_
   try simp only[go_sem]
   refine ao tv (λg e=>by rw[e];exact c1) ?_;refine ao (.int .i64 (w.tiles.length:Int)) (λ_ _=>el) ?_;simp only[go_sem];rw[w64 (n:=(w.tiles.length:Int)-1) (by omega) (by omega),p1,ah];refine ao (.int .i64 (w.tiles.getLast?.getD 0)) (λg e=>by rw[e,p2,List.getLast?_eq_getElem?,List.getElem?_eq_getElem];rfl) ?_;refine ao (y5 (bM (A.d t) y e) (gi (A.d t) y e)) (λg e=>by rw[e];exact aI (l:=[_,_]) b4 2 rfl) ?_;have hf:∀z a b:Int,aE #[(.int .i64 0),(.int .i64 0),(.int .i64 0),(.int .i64 0)] [(0,1,.int .i64 2),(1,1,.int .i64 z),(2,2,y5 a b)]=some #[.int .i64 2,.int .i64 z,.int .i64 a,.int .i64 b]:=λ_ _ _=>rfl
   simp only[go_sem,hf,bA];have F4:Fr (λc=>de (some A) c∨B c) h h4:=((e1.fr.trans (f2.mono λc _ hc=>fq c hc)).ext_r e3).trans (f4.mono λc _ hc=>.inr (hc▸w0));have hp:=(hP h h4 (F4.mono λc _ hc=>hc.imp id .inl)).1 p0;have nq:∀c,Q c→¬(de (some A) c∨B c):=λc hc h=>h.elim (qz c hc).2.2 λh=>ab c h hc
   refine L (ev:=(2,w.tiles.getLast?.getD 0,bM (A.d t) y e,gi (A.d t) y e)) (w':=⟨stJ (b9 (some A) (some (t,eU (A.d t) y e,gj (A.d t) y e))),w.tiles,b9 (some A) (some (t,eU (A.d t) y e,gj (A.d t) y e)),w.words⟩) (B':=nJ B h1 h4) (Q':=Q) e4 (F4.mono λc _ hc=>hc.imp id .inl)
    ⟨⟨tv,b7,nJ Bj h1 F,r4,o4,J4,λc hc=>⟨.inl (a1 c hc).1,λG=>?_,(a1 c hc).2.2⟩,λc hc=>hc.imp (a2 c) λh=>⟨h.1,by omega⟩,be⟩,.inl w0,GQ (λc hc=>Nat.lt_of_lt_of_le (bl c hc) bv) (by omega),λc hc=>?_,λc hc=>Nat.lt_of_lt_of_le (zl c hc) F4.1,I4,?_⟩
    (HQ.fr F4 nq) (λc hc=>⟨?_,λhe=>?_⟩) au (λc hc hq=>?_) ⟨D,?_⟩ (λh=>absurd h ad) (λ_=>hp) ?_
   ·rcases G with G|G
    ·exact(a1 c hc).2.1 G
    ·have:=bl c (a1 c hc).1;omega
   ·rcases hc with G|G
    ·exact bz c G
    ·exact⟨λhz=>by have:=zl c hz;omega,I.new (by omega)⟩
   ·rcases yE (E:=some A) (jo:=some (t,eU (A.d t) y e,gj (A.d t) y e))with⟨G,b6⟩|G
    ·exact .inl ⟨G,b6,bd⟩
    ·exact .inr G
   ·exact hc.imp id λh=>by omega
   ·rcases hc with G|G
    ·exact(aa c G).2 he
    ·omega
   ·rcases hc with G|G
    ·exact ab c G hq
    ·have:=al c hq;omega
   ·rw[an];exact⟨S.out,OO,b0,bo⟩
   ·unfold cE;rw[if_pos s1,an]
 ·have W:w.job=none:=by
   rcases st with h|h
   ·exact absurd h.1 s1
   ·exact h.2
  simp only[go_sem,decide_eq_false s1];refine aj (λs2=>?_) (λs2=>?_)
  ·-- it is gone
   simp only[go_sem,fE,bA];have ad:¬sU w d:=λh=>by have:=h.1;omega
   exact L (ev:=(0,0,0,0)) (r1) e1.fr H1 ay aa au ab (zW.same W) (λh=>absurd h ad) (λ_=>(hP h h1 e1.fr).1 p0) (by unfold cE;rw[if_neg s1,if_pos s2])
  ·have s0:w.state=0:=by
    rcases st with h|h
    ·exact absurd h.1 s1
    ·exact h.1.resolve_right s2
   refine(Ru ay).mono λrr F ⟨er,Q2,f2⟩=>?_
   subst er;have cc:=f2.1;have x0:aF (.tuple #[.int .i64 (bN d),.int .i64 (di d)]) 0=some (.int .i64 (bN d)):=rfl;have x1:aF (.tuple #[.int .i64 (bN d),.int .i64 (di d)]) 1=some (.int .i64 (di d)):=rfl;have H2:IsW Z B F bw E n w:=H1.other f2 (λc hz hq=>(qz c hq).1 hz) ab (I1.fr f2 λc hc _=>(qz c hc).2) (dr.refl n);have e2:=f2.row r1 λhc=>by have:=al _ hc;omega
   have F2:Fr (λc=>de E c∨B c∨Q c∨h.size≤c) h F:=e1.fr.trans (f2.mono λc _ hc=>.inr (.inr (.inl hc)));have aw:Fr (λc=>de E c∨B c∨Q c∨Qo c) h F:=e1.fr.trans (f2.mono λc _ hc=>.inr (.inr (.inl hc)));have ax:∀c,nJ Q h1 F c→(Q c∨h.size≤c)∧c≠b1:=λc hc=>hc.elim (λh=>au c h) λh=>⟨.inr (by omega),by omega⟩
   have bg:∀c,B c→¬nJ Q h1 F c:=λc hc hq=>hq.elim (ab c hc) λh=>by have:=bl c hc;omega
   simp only[go_sem,x0,x1];refine aj (λg0=>?_) (λg0=>?_)
   ·have a9:sU w d:=⟨s0,g0⟩
    refine(YK H2 s0 ht (jo:=jo) (Qo:=Qo) (P0:=P0) (P1:=P1) ?_ ?_ ?_ ((hP h F F2).1 p0)).mono λrr U ⟨er,W3,f3,p3⟩=>?_
    ·rcases HO a9 with ho|⟨ca,cr⟩
     ·exact .inl ho
     ·refine .inr ⟨ca,λU f3 p3=>cr U ?_ p3⟩;exact(e1.fr.trans (f2.mono λc _ hc=>.inr hc)).after f3 λc _ hc=>.inl hc
    ·exact λc hc=>by have:=qo c hc;exact⟨by omega,this.2.1,this.2.2.2⟩
    ·exact λg g' f=>hP g g' (f.mono λc _ hc=>hc.elim (λh=>.inr (.inl h)) λh=>.inr (.inr (.inr (by omega))))
    ·subst er;have ar:=f3.1;have q3:∀c,nJ Q h1 F c→¬(B c∨Qo c):=λc hc hb=>hc.elim (λh=>hb.elim (λhb=>ab c hb h) λhb=>(qo c hb).2.2.1 h) λh=>hb.elim (λhb=>by have:=bl c hb;omega) λhb=>by have:=(qo c hb).1;omega
     refine L (ev:=(1,bN d,0,0)) (f3.row e2 λhc=>hc.elim (λh=>(aa _ h).2 rfl) λh=>by have:=(qo _ h).1;omega) (aw.trans (f3.mono λc _ hc=>hc.elim (λh=>.inr (.inl h)) λh=>.inr (.inr (.inr h)))) W3 (Q2.fr f3 q3)
      (λc hc=>hc.elim (λh=>aa c h) λh=>⟨.inr (by omega),by omega⟩) ax (λc hc hq=>?_) (zW.same W) (λ_=>p3) (λh=>absurd a9 h) (by unfold cE;rw[if_neg s1,if_neg s2,if_pos g0])
     rcases hc with G|G
     ·exact bg c G hq
     ·rcases hq with h8|h8
      ·have:=al c h8;omega
      ·omega
   ·have ad:¬sU w d:=λh=>g0 h.2
    refine aj (λg2=>?_) (λg2=>?_)
    ·obtain⟨⟨bc,b8,bi,r2,o2,J2,k1,k2,k3⟩,_,l2,z2,cb,I2,_⟩:=H2;rw[W]at J2;have ct:b8=.pointer none:=J2;subst ct
     try simp only[go_sem]
     refine bJ r2 (by simp) rfl λU r3 u3=>?_
     have r3:U[bw]? =some (.cells #[.int .i64 2,bc,.pointer none,.int .i64 w.words] 175 (0,0)):=r3;have ar:=u3.1;simp only[go_sem,fL,bA];refine L (ev:=(3,0,0,0)) (w':={w with state:=2}) (B':=B) (u3.row (by omega) e2) (aw.after u3.fr λc _ hc=>.inr (.inl (hc▸w0))) ⟨⟨bc,.pointer none,bi,r3,o2.fr u3.fr λc hc he=>(k1 c hc).2.2 he,?_,k1,k2,k3⟩,w0,λc hc=>by rw[ar];exact l2 c hc,bz,λc hc=>by rw[ar];exact cb c hc,I2.fr u3.fr λc hc _=>by rw[show c=bw from hc];exact(bz _ w0).2,.inr ⟨.inr rfl,W⟩⟩
      (Q2.fr u3.fr λc hc he=>bg bw w0 (he▸hc)) aa ax bg (zW.same W) (λh=>absurd h ad) (λ_=>(hP F U (u3.fr.mono λc _ hc=>.inr (.inl (hc▸w0)))).1 ((hP h F F2).1 p0)) (by unfold cE;rw[if_neg s1,if_neg s2,if_neg g0,if_pos g2])
     show ie Z bi U E n (.pointer none) w.job;rw[W];rfl
    ·simp only[go_sem,fE,bA];exact L (ev:=(0,0,0,0)) e2 aw H2 Q2 aa ax bg (zW.same W) (λh=>absurd h ad) (λ_=>(hP h F F2).1 p0) (by unfold cE;rw[if_neg s1,if_neg s2,if_neg g0,if_neg g2])
end
end
section
theorem ev_ne (a b:EvD):ag (.st [(0,1,.i),(1,1,.i),(2,2,(.st [(0,1,.i),(1,1,.i)]))]) .neq (evV a) (evV b)=some (.bool (decide (a≠b))):=by
 obtain⟨a1,a2,a3,a4⟩:=a;obtain⟨D,G,A,F⟩:=b;have H:(a1==D)=decide (a1=D):=rfl;have e2:(a2==G)=decide (a2=G):=rfl;have I:(a3==A)=decide (a3=A):=rfl;have L:(a4==F)=decide (a4=F):=rfl;simp only[ag,eqV,Dq,Hm,Hn,mT,cond_false,cond_true,List.getElem?_toArray,List.getElem?_cons_zero,List.getElem?_cons_succ,if_true,H,e2,Prod.mk.injEq,ne_eq];by_cases h1:a1=D<;>by_cases W:a2=G<;>by_cases h3:a3=A<;>by_cases U:a4=F<;>simp[h1,W,h3,U,I,L]
theorem X0 (a b:EvD):ag (.st [(0,1,.i),(1,1,.i),(2,2,(.st [(0,1,.i),(1,1,.i)]))]) .eql (evV a) (evV b)=some (.bool (decide (a=b))):=by
 obtain⟨a1,a2,a3,a4⟩:=a;obtain⟨D,G,A,F⟩:=b;have H:(a1==D)=decide (a1=D):=rfl;have e2:(a2==G)=decide (a2=G):=rfl;have I:(a3==A)=decide (a3=A):=rfl;have L:(a4==F)=decide (a4=F):=rfl;simp only[ag,eqV,Dq,Hm,Hn,mT,cond_false,cond_true,List.getElem?_toArray,List.getElem?_cons_zero,List.getElem?_cons_succ,if_true,H,e2,Prod.mk.injEq,ne_eq];by_cases h1:a1=D<;>by_cases W:a2=G<;>by_cases h3:a3=A<;>by_cases U:a4=F<;>simp[h1,W,h3,U,I,L]
abbrev UJ:Pic:=⟨0,0,0,0,[]⟩
abbrev noZ:Nat→Prop:=λ_=>False
theorem zW.none {w:WD}{n n':Pic}(D:zW none w n n'):n'=n:=by
 have:=D.2;cases h:w.job<;>simp only[h]at this<;>exact this
def StepN (B Q:Nat→Prop)(M:Nat→Prop)(h h':af)(bw bq:Nat)(w:WD)(d:QD):Prop:=
 ∃B' Q',IsW noZ B' h' bw none UJ w∧IsQ Q' h' bq d∧(∀c,B' c→B c∨h.size≤c)∧(∀c,Q' c→Q c∨h.size≤c)∧(∀c,B' c→¬Q' c)∧Fr (λc=>B c∨Q c∨M c) h h'
section
variable {B Q:Nat→Prop}{h:af}{bw bq:Nat}{w:WD}{d:QD}
theorem Fi (H:IsW noZ B h bw none UJ w)(G:IsQ Q h bq d)(U:w.tiles.length≤1000000)(A:∀c,B c→¬Q c):
  ae prog cg #[ptr bw,ptr bq,.nilFunc] h λr h'=>r=evV (cE none none w d).2.2∧StepN B Q noZ h h' bw bq (cE none none w d).1 (cE none none w d).2.1:=
 (Sr (Z:=noZ) (ov:=.nilFunc) (jo:=none) (Qo:=noZ) (P0:=λ_=>True) (P1:=λ_=>True) H G U (λ_=>.inl ⟨rfl,rfl,λ_ h=>h⟩) A (λ_ _=>⟨id,trivial,id⟩) (λ_ h=>h.elim) (λ_ _ _=>⟨id,id⟩) trivial).mono
  λr h' ⟨e,⟨⟨n',B',Q',W,q,L,I,F,D⟩,f⟩,_⟩=>by
   have:=D.none;subst this;exact⟨e,B',Q',W,q,L,I,F,f.mono λc _ hc=>hc.elim (λh=>h.elim) id⟩
end
theorem Rw {h:af}(G:dA h):ae prog uC #[] h λr h'=>r=.bool true∧Ext h h':=by
 apply Ix;unfold yj;refine F0.mono λr h1 ⟨bw,A,r1,W,n1⟩=>?_
 subst A;refine VF.mono λr h2 ⟨bq,A,Q2,e2,n2⟩=>?_
 subst A;have E2:=W.trans e2;refine ae.to (Rz (G.ext E2)) λh3 I=>?_
 have U:=E2.trans I;have lw:=aU r1;have W3:IsW noZ (λc=>c=bw) h3 bw none UJ ⟨0,[],none,0⟩:=IsW.new ((e2.trans I).row r1) id trivial id (λ_ h=>h.elim) λ_ h=>by cases h
 have Q3:=Q2.ext I;simp only[go_sem,QC];refine(Fi W3 Q3 (by simp) λc hc hq=>by have hq:c=bq:=hq;have hc:c=bw:=hc;omega).mono λr h4 ⟨A,B4,q4,L,H,k1,k2,k3,f4⟩=>?_
 subst A;have s1:cE none none ⟨0,[],none,0⟩ ⟨min (max 1 1) 4096,[],false⟩=(⟨0,[],none,0⟩,⟨1,[],false⟩,(0,0,0,0)):=rfl;rw[s1]at L H ⊢;have E4:Ext h h4:=U.then_fr f4 λc hc=>by
  rcases hc with hc|hc|hc
  ·rw[show c=bw from hc];exact n1
  ·rw[show c=bq from hc];exact Nat.le_trans W.1 n2
  ·exact hc.elim
 have F:∀c,B4 c→h.size≤c:=λc hc=>(k1 c hc).elim (λh=>by rw[h];exact n1) λh=>Nat.le_trans U.1 h
 have D:∀c,q4 c→h.size≤c:=λc hc=>(k2 c hc).elim (λh=>by rw[h];exact Nat.le_trans W.1 n2) λh=>Nat.le_trans U.1 h
 have f0:aE #[(.int .i64 0),(.int .i64 0),(.int .i64 0),(.int .i64 0)] []=some #[.int .i64 0,.int .i64 0,.int .i64 0,.int .i64 0]:=rfl;have f3:aE #[(.int .i64 0),(.int .i64 0),(.int .i64 0),(.int .i64 0)] [(0,1,.int .i64 3)]=some #[.int .i64 3,.int .i64 0,.int .i64 0,.int .i64 0]:=rfl;have n0:=ev_ne (0,0,0,0) (0,0,0,0);have q0:=X0 (0,0,0,0) (0,0,0,0);have q3:=X0 (3,0,0,0) (3,0,0,0);simp only[go_sem,f0,bA,n0,ne_eq,not_true,decide_false];refine ae.at (Cv L H) ?_;have d1:decide ((0:Int)=1∨((0:Int)=0∧di ⟨1,[],false⟩≠1))=false:=rfl;rw[d1];simp only[go_sem];refine(PP H).mono λ_ h5 ⟨_,Q5,f5⟩=>?_
 have W5:=L.other f5 (λc h=>h.elim) k3 (λ_ h=>by cases h) (dr.refl _);have E5:=E4.then_fr f5 D;refine ae.at (Cv W5 Q5) ?_;have d2:decide ((0:Int)=1∨((0:Int)=0∧di ⟨1,[],true⟩≠1))=true:=rfl;rw[d2];simp only[go_sem];refine(Fi W5 Q5 (by simp) k3).mono λr h6 ⟨A,B6,q6,W6,Q6,l1,l2,l3,f6⟩=>?_
 subst A;have s2:cE none none ⟨0,[],none,0⟩ ⟨1,[],true⟩=(⟨2,[],none,0⟩,⟨1,[],true⟩,(3,0,0,0)):=rfl;rw[s2]at W6 Q6 ⊢;have E6:Ext h h6:=E5.then_fr f6 λc hc=>hc.elim (F c) λhc=>hc.elim (D c) λhc=>hc.elim
 simp only[go_sem,f3,bA,q3,decide_true];refine(Fi W6 Q6 (by simp) l3).mono λr h7 ⟨A,B7,q7,W7,Q7,m1,m2,m3,f7⟩=>?_
 subst A;have s3:cE none none ⟨2,[],none,0⟩ ⟨1,[],true⟩=(⟨2,[],none,0⟩,⟨1,[],true⟩,(0,0,0,0)):=rfl;rw[s3]at W7 Q7 ⊢;have E7:Ext h h7:=E6.then_fr f7 λc hc=>by
  have hs:=E5.1;rcases hc with hc|hc|hc
  ·exact(l1 c hc).elim (F c) λh=>by omega
  ·exact(l2 c hc).elim (D c) λh=>by omega
  ·exact hc.elim
 simp only[go_sem,f0,bA,q0,decide_true];refine ae.at (XC W7) ?_;simp only[go_sem];exact⟨trivial,E7⟩
end
end Go.Proofs.YtcoimlclclnlkaaGreatDoor
namespace Go.Proofs.YtcoimlclclnlkaaGreatDoor
open Go Go.Crisp
attribute [local irreducible] ae cF aP stK aA vK qK bD gK dE aS mkK cG Cn DS Ad bsK clK qN lS R9
structure Za (h0:af)(T:TypeId)(N:Pic)(im:Option (Nat×Value))(va:Option (Nat×Bool))(g:af):Prop where
 ext:Ext h0 g
 mi:∀p,im=some p→cA g p.1 p.2 N∧h0.size≤p.1∧∀c,blk p.2 c→h0.size≤c
 av:∀q,va=some q→h0.size≤q.1∧g[q.1]? =some (.cells #[if q.2 then(match im with|some p=>ptr p.1|none=>.pointer none)else .pointer none] T (0,0))
 dis:∀p q,im=some p→va=some q→p.1≠q.1∧¬blk p.2 q.1
theorem Za.st {h0 g:af}{T:TypeId}{N:Pic}{b bt:Nat}{vt:Value}{K:Value→af→Prop}(M:Za h0 T N (some (bt,vt)) (some (b,false)) g)(H:∀A,Za h0 T N (some (bt,vt)) (some (b,true)) A→K undef A):stK 1 (ptr b) (ptr bt) g K:=by
 obtain⟨a1,a2⟩:=M.av _ rfl;obtain⟨d1,d2⟩:=M.dis _ _ rfl rfl;refine bJ a2 (by simp) rfl λA r u=>H A ⟨M.ext.upd a1 u,λp D=>?_,λq hq=>?_,λp q D hq=>?_⟩
 ·cases D;obtain⟨G,F⟩:=M.mi _ rfl;exact⟨G.fr u.fr d1 λc L I=>d2 (I▸L),F⟩
 ·cases hq;exact⟨a1,r⟩
 ·cases D;cases hq;exact⟨d1,d2⟩
theorem Wl {Z:Nat→Prop}{h:af}{sv:Value}{s:Stg}(H:Rp.Sl Bp Z h sv [s]):∃p q b o,aR 3 sv (.int .i64 0)=some (.pointer (some ⟨b,o,none⟩))∧aB h ⟨b,o,none⟩=some p∧aB h ⟨b,o+1,none⟩=some q∧SlC 3 h sv 1 [p,q,.int .i64 s.border]∧(∀c,blk sv c→Z c)∧dZ Z h p s.x∧dZ Z h q s.y:=by
 obtain⟨ds,⟨D,a,cap,rfl,A⟩,G,I⟩:=H;have D:ds.length=3:=D;have F:Bp.R Z h (Rp.el 3 ds 0) s:=I 0 (by simp);rw[Rp.el_self D]at F;obtain⟨p,q,rfl,L,hq⟩:=F;rcases A with h0|⟨b,o,rfl,A⟩
 ·cases h0
 ·exact⟨p,q,b,o,rfl,A 0 (by simp),A 1 (by simp),⟨rfl,_,cap,rfl,.inr ⟨b,o,rfl,A⟩⟩,λc hc=>G (by simp) c hc,L,hq⟩
abbrev MI (a:qR)(o:OpD)(tw th:Int):cK:=⟨bgS a o,1+tw%13,1+th%13⟩
section
theorem jw {d:cK}(W:d.Wf){i:Int}(h0:0≤i)(h1:i<bP d):dO d.s (aM d i).x (aM d i).y (aM d i).w (aM d i).h:=by
 have A:=GZ W h0 h1;have D:=W.w;have hh:=W.h;unfold dP at D hh;unfold cK.X cK.Y at A;show 1≤qG d i∧1≤sO d i∧0≤iF d i∧0≤iR d i∧iF d i<_∧iR d i<_∧qG d i≤d.s.x.lines.length-iF d i∧sO d i≤d.s.y.lines.length-iR d i;unfold qG sO cK.X cK.Y;omega
def LS (d:cK)(i:Int):cz×Int×Int:=(aM d i,(aM d i).y,lnF d.s.y (aM d i).y)
structure C21 where
 bm:Nat
 bn:Nat
 bs:Nat
 bp:Nat
 bf:Nat
 vf:Value
 bt:Nat
 vt:Value
 p:Value
 q:Value
 rv:Value
 bl:Nat
 pp:Value
 pq:Value
 m:Pic
 d:cK
 bw:Nat
 bq:Nat
abbrev C21.E (C:C21):WE:=⟨C.bf,C.vf,C.bt,C.vt,C.p,C.q,C.m,C.d.s⟩
structure C21.Ok (C:C21):Prop where
 m:C.m.Wf
 d:C.d.Wf
 s:zF C.d.s
abbrev C21.jo (C:C21)(i:Int):Option (cz×Int×Int):=some (LS C.d i)
abbrev C21.suits (C:C21)(n:Pic):Prop:=n.Wf∧jK C.m n C.d.s
theorem C21.newC {C:C21}(O:C.Ok){n:Pic}(S:C.suits n){i:Int}(h0:0≤i)(h1:i<bP C.d):lE C.m n C.d.s (aM C.d i)=0:=ng.2 ⟨S.2,jw O.d h0 h1⟩
section
variable {C:C21}{Z:Nat→Prop}{g:af}{n:Pic}{x:Int}
theorem RL.has {h':af}{r:Value}(O:C.Ok)(S:C.suits n)(h0:0≤x)(h1:x<bP C.d)(H:RL Z g C.bf C.vf C.bt C.vt C.p C.q C.m n C.d.s (aM C.d x) r h'):
  ∃bj rv,r=.tuple #[ptr bj,.int .i64 0]∧Ext g h'∧ie Z (nJ (λ_=>False) g h') h' (some C.E) n (ptr bj) (C.jo x)∧jm Z (nJ (λ_=>False) g h') h' bj C.bf C.vf C.bt C.vt C.p C.q rv ⟨C.m,C.d.s,aM C.d x⟩ (aM C.d x).y (lnF C.d.s.y (aM C.d x).y) n (jg (bX C.d.s.y.lines)) (fJ ((aM C.d x).w*C.m.c)):=by
 have hc:=C21.newC O S h0 h1;obtain⟨bj,rv,A,e,J⟩:=H.go hc;exact⟨bj,rv,A,e,⟨C.E,rfl,⟨O.m,O.s⟩,hc,bj,rv,rfl,J⟩,J⟩
end
end
def muJ (E:WE):Option (cz×Int×Int)→Nat
 |none=>0
 |some (t,y,e)=>pC (E.d t) y e
def ni (C:C21)(i:Int):Nat:=pC (C.E.d (aM C.d i)) (aM C.d i).y (lnF C.d.s.y (aM C.d i).y)
theorem LH {E:WE}{t:cz}{y e:Int}:muJ E (b9 (some E) (some (t,y,e)))=pC (E.d t) y e:=by
 show muJ E (if bM (E.d t) y e=0 then none else some (t,y,e))=_;split
 ·rename_i h;rw[UQ.2 h];rfl
 ·rfl
theorem NW {o:OpD}(h:¬kw 12 o):(cR o).length≤41:=by
 unfold kw at h;have hu:∀l:List Int,(oJ l).length≤l.length:=λl=>by unfold oJ;split<;>simp
 unfold cR;split
 ·unfold lT;split
  ·simp
  ·rename_i A;unfold kq at A;rw[List.length_map,List.length_range];unfold fD;omega
 split
 ·unfold vB;split
  ·simp
  ·rename_i A;unfold qQ at A;have:=hu (List.replicate (2*o.radius+1).toNat 1);rw[List.length_replicate]at this;omega
 ·have:=hu o.y;omega
theorem Tn {o:OpD}{w h:Int}(hc:dT o w h=0)(G:¬kw 12 o)(H:h≤12):bX (bL o w h).y.lines≤80:=by
 have A:iB o w h=0:=by
  unfold dT at hc;split at hc
  ·cases hc
  ·exact hc
 show bX (fK o h).lines≤_;unfold iB at A;unfold fK;split
 ·rename_i D;rw[if_pos D]at A;by_cases h1:dx o.filter w o.w=0
  ·rw[if_neg (by simpa using h1)]at A;have:=Dw A;omega
  ·rw[if_pos h1]at A;exact absurd A h1
 ·rename_i D;rw[if_neg D]at A;have I:=NW G;have F:iJ (cR o) h=0:=by
   split at A
   ·exact absurd A (by assumption)
   ·split at A
    ·exact absurd A (by assumption)
    ·exact A
  have:=Ec _ _ F;omega
theorem LO {d:em}{M:Nat}(A:bX d.s.y.lines≤M):∀(k:Nat) (y e:Int),lnF d.s.y y≤e→kp d k y e≤k*(M+1)
 |0,_,_,_=>by unfold kp;omega
 |k+1,y,e,he=>by
  have h1:=LO A k (y+1) (max (lnE d.s.y y) (lnF d.s.y (y+1))) (by omega);have D:=EZ d.s.y y;rw[Nat.add_mul,Nat.one_mul];unfold kp;unfold lnE lnF at*;omega
def gS (C:C21):Nat→Nat→Nat
 |0,_=>0
 |j+1,i=>ni C i+gS C j (i+1)
theorem Ob {C:C21}{H M:Nat}(A:bX C.d.s.y.lines≤M)(hh:∀i:Nat,(aM C.d i).h≤H):∀j i,gS C j i≤j*(H*(M+1))
 |0,_=>by simp[gS]
 | j+1,i=>by
  have h1:=Ob A hh j (i+1);have D:ni C i≤H*(M+1):=by
   unfold ni pC;refine Nat.le_trans (LO (d:=C.E.d (aM C.d i)) A _ _ _ (Int.le_refl _)) (Nat.mul_le_mul_right _ ?_);have:=hh i;show((aM C.d i).y+(aM C.d i).h-(aM C.d i).y).toNat≤H;omega
  unfold gS;rw[Nat.add_mul,Nat.one_mul];omega
theorem LF {n size:Int}(G:1≤n∧n≤12)(D:1≤size∧size≤13):1≤c5 n size∧c5 n size≤12∧c5 n size*min size n≤24:=by
 unfold c5;have h1:=Int.mul_ediv_add_emod (n+size-1) size;have H:=Int.emod_nonneg (n+size-1) (show size≠0 by omega);have I:=Int.emod_lt_of_pos (n+size-1) (show 0<size by omega);generalize(n+size-1)/size=k at*;generalize(n+size-1)%size=r at*;rcases Int.lt_or_le n size with h|h
 ·have:k=1:=by
   have a1:k<2:=by
    refine Int.lt_of_not_ge λA=>?_
    have:size*2≤size*k:=Int.mul_le_mul_of_nonneg_left A (by omega);omega
   have a2:0<k:=by
    refine Int.lt_of_not_ge λA=>?_
    have:size*k≤size*0:=Int.mul_le_mul_of_nonneg_left A (by omega);omega
   omega
  subst this;omega
 ·have F:k*min size n=size*k:=by rw[show min size n=size by omega,Int.mul_comm]
  rw[F];have a2:0<k:=by
   refine Int.lt_of_not_ge λA=>?_
   have:size*k≤size*0:=Int.mul_le_mul_of_nonneg_left A (by omega);omega
  have a3:1*k≤size*k:=Int.mul_le_mul_of_nonneg_right D.1 (by omega);refine⟨by omega,?_,by omega⟩;refine Int.le_of_not_gt λA=>?_
  have:size*13≤size*k:=Int.mul_le_mul_of_nonneg_left (by omega) (by omega);omega
theorem Y7 {a:qR}{o:OpD}(B:Lj a o){tw th:Int}(hw:0≤tw)(hh:0≤th){C:C21}(W:C.d=MI a o tw th):∃N:Nat,(N:Int)=bP C.d∧1≤N∧N≤144∧gS C N 0≤23328:=by
 have ab:=B.sx;have al:=B.sy;have aa:0≤tw%13∧tw%13<13:=⟨Int.emod_nonneg _ (by omega),Int.emod_lt_of_pos _ (by omega)⟩
 have ad:0≤th%13∧th%13<13:=⟨Int.emod_nonneg _ (by omega),Int.emod_lt_of_pos _ (by omega)⟩
 have px:=LF (n:=(bgS a o).x.lines.length) (size:=1+tw%13) (by omega) (by omega);have U:=LF (n:=(bgS a o).y.lines.length) (size:=1+th%13) (by omega) (by omega);have hc:bP C.d=c5 (bgS a o).x.lines.length (1+tw%13)*c5 (bgS a o).y.lines.length (1+th%13):=by rw[W];rfl
 have hm:bX C.d.s.y.lines≤((80:Nat):Int):=by
  rw[W];exact Tn B.made B.little (by have:=zk a;omega)
 obtain⟨H,I⟩:∃H:Nat,(H:Int)=min (1+th%13) (bgS a o).y.lines.length:=⟨(min (1+th%13) (bgS a o).y.lines.length).toNat,by omega⟩
 have hH:∀i:Nat,(aM C.d i).h≤H:=by
  intro i;rw[I,W];show min (1+th%13) ((bgS a o).y.lines.length-iR _ _)≤_;have:0≤iR (MI a o tw th) i:=by
   unfold iR;refine Int.mul_nonneg (Int.ediv_nonneg (by omega) ?_) (by show 0≤1+th%13;omega);show 0≤c5 (bgS a o).x.lines.length (1+tw%13);omega
  omega
 have L:=Ob (C:=C) hm hH;rw[hc]
 revert L px U I
 generalize c5 (bgS a o).x.lines.length (1+tw%13)=A;generalize c5 (bgS a o).y.lines.length (1+th%13)=D;intro px U I L;obtain⟨G,rfl⟩:∃G:Nat,(G:Int)=A:=⟨A.toNat,by omega⟩
 obtain⟨F,rfl⟩:∃F:Nat,(F:Int)=D:=⟨D.toNat,by omega⟩
 have e1:G*F≤12*12:=Nat.mul_le_mul (by omega) (by omega);have e2:1*1≤G*F:=Nat.mul_le_mul (by omega) (by omega);have e3:F*H≤24:=by
  have:((F*H:Nat):Int)≤24:=by rw[Int.natCast_mul,I];exact U.2.2
  omega
 refine⟨G*F,by rw[Int.natCast_mul],by omega,e1,Nat.le_trans (L _ _) ?_⟩;have e4:G*F*(H*81)=G*(F*H)*81:=by rw[Nat.mul_assoc,←Nat.mul_assoc F H 81,←Nat.mul_assoc]
 have e5:G*(F*H)≤12*24:=Nat.mul_le_mul (by omega) e3;show G*F*(H*81)≤_;omega
end Go.Proofs.YtcoimlclclnlkaaGreatDoor
namespace Go.Proofs.YtcoimlclclnlkaaGreatDoor
open Go Go.Crisp
attribute [local irreducible] ae cF aP stK aA vK qK bD gK dE aS mkK cG Cn DS Ad bsK clK qN lS R9
open _root_.Go.Proofs.Tryz
def Ux:Rp cz where
 w:=10
 R:=λ_ _ cs t=>cs=cS t
 len:=by rintro _ _ _ _ rfl;rfl
 one:=by rintro _ _ _ _ rfl;exact iV _
 fr:=by rintro _ _ _ _ _ _ rfl _ _;rfl
 mono:=by rintro _ _ _ _ _ rfl _;rfl
def dI (d:cK)(N:Nat):List cz:=(List.range N).map λi:Nat=>aM d i
theorem TP {Z:Nat→Prop}{h:af}{b:Nat}{d:cK}{p q:Value}(H:pV Z h b d p q)(W:d.Wf){N:Nat}(hN:(N:Int)=bP d)(ab:N≤4096):ae prog p9 #[ptr b] h λr h'=>New Ux h h' r (dI d N):=by
 apply ES;unfold uZ;refine ae.at (An H W) ?_;rw[←hN];refine bB (α:=Value) N 0 (λi v=>[v,.int .i64 (i:Int)]) (λi v g=>New Ux h g v (dI d i)) (.slice none 0 0) rfl (Nat.zero_le _) (New.nil (Ext.refl _)) λi v g again ρ _ hi I F=>?_
 simp only[gJ,vy];rw[cj,ah];refine aj (λg1=>?_) (λg1=>?_)
 ·have D:i<N:=by omega
  refine ae.to (sf (H.ext I.2.1) W (i:=i) (by omega) (by omega)) λg2 e2=>?_
  have x0:aF (.tuple #[.agg (cS (aM d i)).toArray,.bool true]) 0=some (.agg (cS (aM d i)).toArray):=rfl;have U:aF (.tuple #[.agg (cS (aM d i)).toArray,.bool true]) 1=some (.bool true):=rfl;simp only[go_sem,x0,U];refine cD (cs:=cS (aM d i)) rfl (iV _) rfl λb3 g3 r3 e3 n3=>?_
  rw[aI r3 10 rfl,ah];have A:=I.ext (e2.trans e3);have L:(dI d i).length=i:=by simp[dI]
  refine Rp.push_ow (e:=Ux) (x:=aM d i) A.1 rfl rfl rfl (by rw[L];omega) (by rw[L];omega) (λ_ h=>h.elim) λv4 g4 o4 f4 n4=>?_
  have G:(i:Int)+1=((i+1:Nat):Int):=by omega
  try simp only[go_sem]
  rw[w64 (n:=(i:Int)+1) (by omega) (by omega),G];have e1:dI d (i+1)=dI d i++[aM d i]:=by simp[dI,List.range_succ]
  have aa:=A.2.1.1;refine F v4 g4 D ⟨by rw[e1];exact o4,A.2.1.then_fr f4 A.2.2,λc hc=>(n4 c hc).elim (A.2.2 c) λh=>by omega⟩
 ·have:i=N:=by omega
  subst this;exact I
def Jq (t:cz)(x y:Int):Prop:=t.x≤x∧x<t.x+t.w∧t.y≤y∧y<t.y+t.h
theorem Qi {d:cK}(W:d.Wf){x y:Int}(x0:0≤x)(L:x<d.X)(y0:0≤y)(y1:y<d.Y):∃i:Nat,(i:Int)<bP d∧Jq (aM d i) x y:=by
 have G:=W.w;have hh:=W.h;unfold dP at G hh;have a1:=Int.mul_ediv_add_emod x d.w;have a2:=Int.emod_nonneg x (show d.w≠0 by omega);have a3:=Int.emod_lt_of_pos x (show 0<d.w by omega);have U:=Int.mul_ediv_add_emod y d.h;have b2:=Int.emod_nonneg y (show d.h≠0 by omega);have I:=Int.emod_lt_of_pos y (show 0<d.h by omega);have D:0≤x/d.w:=Int.ediv_nonneg x0 (by omega);have H:0≤y/d.h:=Int.ediv_nonneg y0 (by omega);have F:x/d.w<cU d:=by
  unfold cU c5;apply Int.lt_of_add_one_le;rw[Int.le_ediv_iff_mul_le (by omega),Int.add_mul,Int.one_mul,Int.mul_comm];omega
 have r1:y/d.h<c5 d.Y d.h:=by
  unfold c5;apply Int.lt_of_add_one_le;rw[Int.le_ediv_iff_mul_le (by omega),Int.add_mul,Int.one_mul,Int.mul_comm];omega
 have hc:(y/d.h+1)*cU d≤c5 d.Y d.h*cU d:=Int.mul_le_mul_of_nonneg_right (by omega) (by omega);rw[Int.add_mul,Int.one_mul]at hc;have A:0≤y/d.h*cU d+x/d.w:=by
  have:=Int.mul_nonneg H (show 0≤cU d by omega);omega
 refine⟨(y/d.h*cU d+x/d.w).toNat,?_,?_⟩
 ·rw[Int.toNat_of_nonneg A];unfold bP;rw[Int.mul_comm (cU d)];omega
 ·rw[Int.toNat_of_nonneg A];have m1:(y/d.h*cU d+x/d.w)%cU d=x/d.w:=by
   rw[Int.add_comm,Int.add_mul_emod_self_right,Int.emod_eq_of_lt D F]
  have m2:(y/d.h*cU d+x/d.w)/cU d=y/d.h:=by
   rw[Int.add_comm,Int.add_mul_ediv_right _ _ (by omega),Int.ediv_eq_zero_of_lt D F,Int.zero_add]
  show iF d _≤x∧x<iF d _+qG d _∧iR d _≤y∧y<iR d _+sO d _;unfold qG sO iF iR;rw[m1,m2,Int.mul_comm (x/d.w),Int.mul_comm (y/d.h)];omega
def XS (C:C21)(k:Nat)(jo:Option (cz×Int×Int))(n:Pic):Prop:=
 ∀x y c,inP n x y c→∀i:Nat,i<k→Jq (aM C.d i) x y→(∀t yy e,jo=some (t,yy,e)→i+1=k→y<yy)→atP n x y c=ui C.m C.d.s x y c
theorem OF {C:C21}(O:C.Ok){N:Nat}{n:Pic}(hN:(N:Int)=bP C.d)(P:XS C N none n)(su:C.suits n):n.l=(sq C.m C.d.s).l:=by
 obtain⟨s1,D,H,W,s5⟩:=su.2;have hf:=cq O.m.fits;refine UE su.1 ?_ ⟨D.symm,H.symm,W.symm,s5.symm⟩ λx y c hi=>?_
 ·show(((List.range (C.d.s.y.lines.length*C.d.s.x.lines.length*C.m.c.toNat)).map _).length:Int)=(C.d.s.x.lines.length:Int)*(C.d.s.y.lines.length:Int)*C.m.c;rw[List.length_map,List.length_range,Int.natCast_mul,Int.natCast_mul,Int.toNat_of_nonneg (by omega),Int.mul_comm (C.d.s.y.lines.length:Int)]
 ·obtain⟨h1,F,G,I,L,U⟩:=hi;obtain⟨i,aa,A⟩:=Qi O.d h1 (by show x<(C.d.s.x.lines.length:Int);rw[←D];exact F) G (by show y<(C.d.s.y.lines.length:Int);rw[←H];exact I);rw[P x y c ⟨h1,F,G,I,L,U⟩ i (by omega) A λ_ _ _ h=>by cases h];rw[Ud];exact⟨h1,by show x<(C.d.s.x.lines.length:Int);rw[←D];exact F,G,by show y<(C.d.s.y.lines.length:Int);rw[←H];exact I,L,by show c<C.m.c;rw[←W];exact U⟩
section
theorem Gb {h:af}{Z:Nat→Prop}{v:Value}{l:List (Int×List Int)}(H:Rp.Sl km Z h v l)(hl:l.length≤1000000000)(hb:∀x∈l,x.2.length≤1073741824){a b:Int}:ae prog oe #[v,.int .i64 a,.int .i64 b] h λr h'=>(∃x y c,r=.tuple #[.int .i64 x,.int .i64 y,.bool c])∧Ext h h':=by
 apply Ig;unfold xT;obtain⟨av,cv,ev⟩:=H.isSl;have el:aq v=some (.int .i64 (l.length:Int)):=by rw[ev];rfl
 rw[el,ah];refine bB (α:=Int×Int×Bool) l.length 0 (λi s=>[.int .i64 s.1,.int .i64 s.2.1,.bool s.2.2,.int .i64 (i:Int)]) (λi s g=>Ext h g) (0,0,false) rfl (Nat.zero_le _) (Ext.refl _) λi s g again ρ _ hi E I=>?_
 simp only[gJ,vy,WR,Ym];rw[cj,ah];refine aj (λg1=>?_) (λg1=>?_)
 ·have D:i<l.length:=by omega
  have U:(i:Int)+1=((i+1:Nat):Int):=by omega
  obtain⟨pt,cs,q1,q2,u,q3,q4⟩:=(H.ext E).atw (show 0<2 by omega) (k:=.i64) (i:=i) D;have q1:aR 2 v (.int .i64 (i:Int))=some pt:=q1;have q2:aH 2 g pt=some (.agg cs.toArray):=q2;subst q3;rw[q1,ah,q2,ah];refine cD (cs:=[.int .i64 l[i].1,u]) rfl (ak rfl (ak q4.one aQ)) rfl λb5 g5 r5 e5 n5=>?_
  have c0:aB g5 ⟨b5,0,none⟩=some (.int .i64 l[i].1):=ai r5;have c1:aB g5 ⟨b5,1,none⟩=some u:=ai r5;obtain⟨au,cu,eu⟩:=q4.isSl;have aa:aq u=some (.int .i64 (l[i].2.length:Int)):=by rw[eu];rfl
  simp only[go_sem,Nat.zero_add,c1,aa];refine aj (λg2=>?_) (λg2=>?_)
  ·rw[w64 (n:=(i:Int)+1) (by omega) (by omega),U];exact I s g5 D (E.trans e5)
  ·have ab:=hb l[i] (List.getElem_mem D);refine bB (α:=Int×Int×Bool) l[i].2.length 0 (λj s=>[.int .i64 s.1,.int .i64 s.2.1,.bool s.2.2,.int .i64 (j:Int)]) (λj s g'=>g'=g5) s rfl (Nat.zero_le _) rfl λj s' g' W ρ' _ hj eg A=>?_
   subst eg;simp only[gJ,vy,WR,Ym];rw[cj,ah];refine aj (λg3=>?_) (λg3=>?_)
   ·have F:j<l[i].2.length:=by omega
    have G:(j:Int)+1=((j+1:Nat):Int):=by omega
    simp only[go_sem,Nat.zero_add,c0];refine aV (λxs L=>(∃n,xs=[.int .i64 n])∧L=g') ?_ ?_
    ·obtain⟨s1,s2,s3⟩:=s';cases s3<;>simp only[go_sem]
     ·exact⟨⟨_,rfl⟩,trivial⟩
     ·refine aj (λ_=>?_) (λ_=>?_)
      ·exact⟨⟨_,rfl⟩,trivial⟩
      ·exact⟨⟨_,rfl⟩,trivial⟩
    ·rintro xs ρ'' L ⟨⟨n,rfl⟩,rfl⟩;obtain⟨s1,s2,s3⟩:=s';simp only[gJ];cases s3<;>simp only[go_sem]
     ·rw[w64 (n:=(j:Int)+1) (by omega) (by omega),G];exact A (n,_,true) _ F rfl
     ·refine aj (λ_=>?_) (λ_=>?_)
      ·rw[w64 (n:=(j:Int)+1) (by omega) (by omega),G];exact A (n,_,true) _ F rfl
      ·rw[w64 (n:=(j:Int)+1) (by omega) (by omega),G];exact A (n,s2,true) _ F rfl
   ·rw[w64 (n:=(i:Int)+1) (by omega) (by omega),U];exact I s' _ D (E.trans e5)
 ·exact⟨⟨_,_,_,rfl⟩,E⟩
theorem OE {n size:Int}(A:1≤size)(j:Int):j*size<n↔j<c5 n size:=by
 unfold c5;rw[show(j<(n+size-1)/size)↔(j+1≤(n+size-1)/size)from Iff.rfl,Int.le_ediv_iff_mul_le (by omega),Int.add_mul,Int.one_mul];omega
structure VD where
 state:Int
 tiles:List Int
 left:List (Int×Int)
def rVD:Rp VD where
 w:=3
 R:=λZ h cs v=>∃t l,cs=[.int .i64 v.state,t,l]∧Rp.Sl (Rp.int .i64) Z h t v.tiles∧Rp.Sl xv Z h l v.left∧Rp.SlCap l
 len:=by rintro _ _ _ _ ⟨_,_,rfl,_⟩;rfl
 one:=by
  rintro _ _ _ _ ⟨_,_,rfl,H,K,_⟩;exact ak rfl (ak H.one (ak K.one aQ))
 fr:=by rintro _ _ _ _ _ _ ⟨t,l,rfl,H,K,c⟩ f q;exact⟨t,l,rfl,H.fr f q,K.fr f q,c⟩
 mono:=by rintro _ _ _ _ _ ⟨t,l,rfl,H,K,c⟩ q;exact⟨t,l,rfl,H.mono q,K.mono q,c⟩
def Yf:Rp (List (Int×Int)) where
 w:=1
 R:=λZ h cs l=>∃v,cs=[v]∧Rp.Sl xv Z h v l∧Rp.SlCap v
 len:=by rintro _ _ _ _ ⟨_,rfl,_⟩;rfl
 one:=by
  rintro _ _ _ _ ⟨_,rfl,H,_⟩;exact ak H.one aQ
 fr:=by rintro _ _ _ _ _ _ ⟨v,rfl,H,c⟩ f q;exact⟨v,rfl,H.fr f q,c⟩
 mono:=by rintro _ _ _ _ _ ⟨v,rfl,H,c⟩ q;exact⟨v,rfl,H.mono q,c⟩
section
variable {Z:Nat→Prop}{h:af}{cs ds:List Value}{v:VD}{d:QD}{mv:Value}{M:List (List (Int×Int))}
end
end
theorem TL {h:af}{Z:Nat→Prop}{v:Value}{l:List (Int×List Int)}(H:Rp.Sl km Z h v l)(hl:l.length≤1000000000):ae prog wF #[v] h λr h'=>r=.int .i64 (bX l)∧Ext h h':=by
 apply KC;unfold AN;obtain⟨av,cv,ev⟩:=H.isSl;have el:aq v=some (.int .i64 (l.length:Int)):=by rw[ev];rfl
 rw[el,ah];refine bB (α:=Int) l.length 0 (λi s=>[.int .i64 s,.int .i64 (i:Int)]) (λi s g=>s=bX (l.take i)∧Ext h g) 0 rfl (Nat.zero_le _) ⟨rfl,Ext.refl _⟩ λi s g again ρ _ hi E D=>?_
 obtain⟨es,E⟩:=E;simp only[gJ,vy];rw[cj,ah];refine aj (λg1=>?_) (λg1=>?_)
 ·have A:i<l.length:=by omega
  have W:bX (l.take (i+1))=max s (l[i].2.length:Int):=by rw[List.take_succ_eq_append_getElem A,Cc,es]
  have F:(i:Int)+1=((i+1:Nat):Int):=by omega
  obtain⟨pt,cs,I,U,u,q3,q4⟩:=(H.ext E).atw (show 0<2 by omega) (k:=.i64) (i:=i) A;have I:aR 2 v (.int .i64 (i:Int))=some pt:=I;have U:aH 2 g pt=some (.agg cs.toArray):=U;subst q3;rw[I,ah,U,ah];refine cD (cs:=[.int .i64 l[i].1,u]) rfl (ak rfl (ak q4.one aQ)) rfl λb5 G r5 e5 n5=>?_
  have c1:aB G ⟨b5,1,none⟩=some u:=ai r5;obtain⟨au,cu,eu⟩:=q4.isSl;have L:aq u=some (.int .i64 (l[i].2.length:Int)):=by rw[eu];rfl
  simp only[go_sem,Nat.zero_add,c1,L];refine aj (λg2=>?_) (λg2=>?_)
  ·rw[w64 (n:=(i:Int)+1) (by omega) (by omega),F];exact D _ G A ⟨by rw[W];omega,E.trans e5⟩
  ·rw[w64 (n:=(i:Int)+1) (by omega) (by omega),F];exact D s G A ⟨by rw[W];omega,E.trans e5⟩
 ·have:i=l.length:=by omega
  rw[es,this,List.take_length];exact⟨rfl,E⟩
theorem Vb (a b c d e f:Int):aE #[(.int .i64 0),(.int .i64 0),(.int .i64 0),(.int .i64 0),(.int .i64 0),(.int .i64 0),(.int .i64 0),(.int .i64 0),(.int .i64 0),(.int .i64 0)] [(0,1,Value.int .i64 a),(1,1,.int .i64 b),(2,1,.int .i64 c),(3,1,.int .i64 d),(4,1,.int .i64 e),(9,1,.int .i64 f)]=
  some [Value.int .i64 a,.int .i64 b,.int .i64 c,.int .i64 d,.int .i64 e,.int .i64 0,.int .i64 0,.int .i64 0,.int .i64 0,.int .i64 f].toArray:=by
 refine(bI (n:=1) (l:=[.int .i64 a]) rfl rfl (by simp)).trans ?_;refine(bI (n:=1) (l:=[.int .i64 b]) rfl rfl (by simp[bZ])).trans ?_;refine(bI (n:=1) (l:=[.int .i64 c]) rfl rfl (by simp[bZ])).trans ?_;refine(bI (n:=1) (l:=[.int .i64 d]) rfl rfl (by simp[bZ])).trans ?_;refine(bI (n:=1) (l:=[.int .i64 e]) rfl rfl (by simp[bZ])).trans ?_;refine(bI (n:=1) (l:=[.int .i64 f]) rfl rfl (by simp[bZ])).trans ?_;rw[fB];simp[wrL]
def Dz:Rp cz where
 w:=10
 R:=λ_ _ cs t=>∃a b c d,cs=[.int .i64 t.number,.int .i64 t.x,.int .i64 t.y,.int .i64 t.w,.int .i64 t.h,.int .i64 a,.int .i64 b,.int .i64 c,.int .i64 d,.int .i64 t.ring]
 len:=by rintro _ _ _ _ ⟨_,_,_,_,rfl⟩;rfl
 one:=by
  rintro _ _ _ _ ⟨_,_,_,_,rfl⟩;exact ak rfl (ak rfl (ak rfl (ak rfl (ak rfl (ak rfl (ak rfl (ak rfl (ak rfl (ak rfl aQ)))))))))
 fr:=by rintro _ _ _ _ _ _ h _ _;exact h
 mono:=by rintro _ _ _ _ _ h _;exact h
theorem NZ (d:cK)(k:Nat):dI d (k+1)=dI d k++[aM d k]:=by simp[dI,List.range_succ]
theorem TM {h:af}{Z:Nat→Prop}{cs:List Value}{d:cK}(K:oZ.R Z h cs d.s)(W:d.Wf)(few:∀x∈d.s.x.lines++d.s.y.lines,x.2.length≤1073741824){N:Nat}(hN:(N:Int)=bP d)(ej:N≤4096)(hX:1≤d.X)(hY:1≤d.Y):
  ae prog jH #[.agg cs.toArray,.int .i64 d.w,.int .i64 d.h] h λr h'=>New Dz h h' r (dI d N):=by
 apply MV;unfold C1;obtain⟨X,Y,rfl,HX,HY⟩:=K;have ek:=cK.bd W;have hw:=W.w;have hh:=W.h;unfold dP at hw hh;have pc:=lN (n:=d.X) (size:=d.w) (by omega) W.w;have pr:=lN (n:=d.Y) (size:=d.h) (by omega) W.h;obtain⟨A,eA⟩:∃A:Nat,(A:Int)=cU d:=⟨(cU d).toNat,by have:=pc.1;unfold cU;omega⟩
 obtain⟨D,eD⟩:∃D:Nat,(D:Int)=c5 d.Y d.h:=⟨(c5 d.Y d.h).toNat,by have:=pr.1;omega⟩
 have eg:1≤A:=by have:=pc.2.2 hX;have e:cU d=c5 d.X d.w:=rfl;omega
 have bc:N=D*A:=by
  have:(N:Int)=((D*A:Nat):Int):=by rw[hN,Int.natCast_mul,eA,eD,Int.mul_comm];rfl
  omega
 simp only[bC];refine aC λG h1 r1 e1 n1=>?_
 obtain⟨ax,cx,ex⟩:=HX.isSl;obtain⟨ay,cy,ey⟩:=HY.isSl;have a8:aq X=some (.int .i64 d.X):=by rw[ex];rfl
 have ar:aq Y=some (.int .i64 d.Y):=by rw[ey];rfl
 have L:∀i:Nat,(i:Int)*d.w<d.X↔i<A:=λi=>by rw[OE hw.1];show(i:Int)<cU d↔_;omega
 have H:∀j:Nat,(j:Int)*d.h<d.Y↔j<D:=λj=>by rw[OE hh.1];omega
 refine bB (α:=Value) D 0 (λj v=>[v,.int .i64 ((j:Int)*d.h)]) (λj v g=>New Dz h1 g v (dI d (j*A))) (.slice none 0 0) (by rw[show((0:Nat):Int)*d.h=0 by omega]) (Nat.zero_le _) (by rw[Nat.zero_mul];exact New.nil (Ext.refl _)) λj v g again ρ _ hj NT cr=>?_
 have c1:aB g ⟨G,1,none⟩=some Y:=ai (NT.2.1.row r1);simp only[gJ,vy,go_sem,Nat.zero_add,c1,ar];refine aj (λg1=>?_) (λg1=>?_)
 ·have au:j<D:=(H j).1 g1;have cc:(j+1)*A≤N:=by rw[bc];exact Nat.mul_le_mul_right _ au
  rw[Nat.add_mul,Nat.one_mul]at cc;have et:0≤(j:Int)*d.h:=Int.mul_nonneg (by omega) (by omega);refine bB (α:=Value) A 0 (λi v=>[v,.int .i64 ((i:Int)*d.w)]) (λi v g=>New Dz h1 g v (dI d (j*A+i))) v (by rw[show((0:Nat):Int)*d.w=0 by omega]) (Nat.zero_le _) NT λi v2 g2 bv ρ2 _ hi N2 bi=>?_
  have c0:aB g2 ⟨G,0,none⟩=some X:=ai (N2.2.1.row r1);simp only[gJ,vy,go_sem,Nat.zero_add,c0,a8];refine aj (λg3=>?_) (λg3=>?_)
  ·have aa:i<A:=(L i).1 g3;have eh:0≤(i:Int)*d.w:=Int.mul_nonneg (by omega) (by omega);obtain⟨a2,es,e2⟩:=N2.sl.isSl;have ab:(dI d (j*A+i)).length=j*A+i:=by simp[dI]
   have b2:aq v2=some (.int .i64 ((j*A+i:Nat):Int)):=by rw[e2,ab];rfl
   have c7:aB g2 ⟨G,1,none⟩=some Y:=ai (N2.2.1.row r1);simp only[b2,ah,go_sem,Nat.zero_add,c7];refine(TL (HY.ext (e1.trans N2.2.1)) (by have e:d.Y=d.s.y.lines.length:=rfl;omega)).mono λrr g4 ⟨er,e4⟩=>?_
   subst er;have N4:=N2.ext e4;have b6:=N4.2.1.row r1;rw[Vb,bA,ah];have aw:∀a b c d' e f g k l m:Int,∀v∈[Value.int .i64 a,.int .i64 b,.int .i64 c,.int .i64 d',.int .i64 e,.int .i64 f,.int .i64 g,.int .i64 k,.int .i64 l,.int .i64 m],aJ v=true:=λ_ _ _ _ _ _ _ _ _ _=>ak rfl (ak rfl (ak rfl (ak rfl (ak rfl (ak rfl (ak rfl (ak rfl (ak rfl (ak rfl aQ)))))))))
   refine aC λbt g5 r5 e5 n5=>?_
   refine ce r5 rfl (aw _ _ _ _ _ _ _ _ _ _) rfl λg6 r6 u6=>?_
   have eu:=N4.2.1.1;have eb:=e5.1;have ez:=u6.1;have ew:=aU r1;have c2:g4.size≤bt:=n5;have a9:g6[G]? =some (.cells [X,Y,.int .i64 d.s.x.n,.int .i64 d.s.y.n,.int .i64 d.s.border].toArray 56 (0,0)):=u6.row (by omega) (e5.row b6);have E6:Ext g4 g6:=e5.upd c2 u6;have c6:aB g6 ⟨G,0,none⟩=some X:=ai a9
   -- the width
   have hH:(aM d ((j*A+i:Nat):Int)).y=(j:Int)*d.h∧(aM d ((j*A+i:Nat):Int)).h=min d.h (d.Y-(j:Int)*d.h):=by
    have q:((j*A+i:Nat):Int)/cU d=(j:Int):=by
     rw[←eA,←Int.natCast_ediv]
     congr 1
     rw[Nat.mul_comm,Nat.mul_add_div (by omega),Nat.div_eq_of_lt aa,Nat.add_zero]
    constructor
    ·show iR d _=_;unfold iR;rw[q]
    ·show sO d _=_;unfold sO iR;rw[q]
   have hq:((j*A+i:Nat):Int)%cU d=(i:Int):=by
    rw[←eA,←Int.natCast_emod]
    congr 1
    rw[Nat.mul_comm,Nat.mul_add_mod,Nat.mod_eq_of_lt aa]
   have b8:(aM d ((j*A+i:Nat):Int)).x=(i:Int)*d.w:=by
    show iF d _=_;unfold iF;rw[hq]
   have I:(aM d ((j*A+i:Nat):Int)).w=min d.w (d.X-(i:Int)*d.w):=by
    show qG d _=_;unfold qG iF;rw[hq]
   refine aV (λxs g=>xs=[]∧g[bt]? =some (.cells [.int .i64 ((j*A+i:Nat):Int),.int .i64 ((i:Int)*d.w),.int .i64 ((j:Int)*d.h),.int .i64 (aM d ((j*A+i:Nat):Int)).w,.int .i64 d.h,.int .i64 0,.int .i64 0,.int .i64 0,.int .i64 0,.int .i64 (bX d.s.y.lines)].toArray 58 (0,0))∧Fr (λc=>c=bt) g6 g) ?_ ?_
   ·simp only[go_sem,Nat.zero_add,c6,a8];rw[w64 (n:=(i:Int)*d.w+d.w) (by omega) (by omega)];refine aj (λU=>?_) (λU=>?_)
    ·rw[w64 (n:=d.X-(i:Int)*d.w) (by omega) (by omega)];refine bJ r6 (by simp) rfl λg7 r7 u7=>⟨trivial,?_,u7.fr⟩
     rw[I,show min d.w (d.X-(i:Int)*d.w)=d.X-(i:Int)*d.w by omega];exact r7
    ·refine⟨trivial,?_,Fr.refl _ _⟩;rw[I,show min d.w (d.X-(i:Int)*d.w)=d.w by omega];exact r6
   rintro xs ρ7 g7 ⟨rfl,r7,f7⟩;have ee:=f7.1;have bk:=f7.row a9 (show¬G=bt by omega);have cw:aB g7 ⟨G,1,none⟩=some Y:=ai bk
   -- the height
   refine aV (λxs g=>xs=[]∧g[bt]? =some (.cells [.int .i64 ((j*A+i:Nat):Int),.int .i64 ((i:Int)*d.w),.int .i64 ((j:Int)*d.h),.int .i64 (aM d ((j*A+i:Nat):Int)).w,.int .i64 (aM d ((j*A+i:Nat):Int)).h,.int .i64 0,.int .i64 0,.int .i64 0,.int .i64 0,.int .i64 (bX d.s.y.lines)].toArray 58 (0,0))∧Fr (λc=>c=bt) g7 g) ?_ ?_
   ·simp only[go_sem,Nat.zero_add,cw,ar];rw[w64 (n:=(j:Int)*d.h+d.h) (by omega) (by omega)];refine aj (λU=>?_) (λU=>?_)
    ·rw[w64 (n:=d.Y-(j:Int)*d.h) (by omega) (by omega)];refine bJ r7 (by simp) rfl λg9 r9 u9=>⟨trivial,?_,u9.fr⟩
     rw[hH.2,show min d.h (d.Y-(j:Int)*d.h)=d.Y-(j:Int)*d.h by omega];exact r9
    ·refine⟨trivial,?_,Fr.refl _ _⟩;rw[hH.2,show min d.h (d.Y-(j:Int)*d.h)=d.h by omega];exact r7
   rintro xs ρ8 U ⟨rfl,r8,f8⟩;have ei:=f8.1;have F8:Fr (λc=>c=bt) g6 U:=f7.trans f8;have E8:Ext g4 U:=E6.then_fr F8 λc hc=>by have hc:c=bt:=hc;omega
   have bo:=f8.row bk (show¬G=bt by omega);have b4:aB U ⟨G,0,none⟩=some X:=ai bo;have b7:aB U ⟨bt,3,none⟩=some (.int .i64 (aM d ((j*A+i:Nat):Int)).w):=ai r8;simp only[go_sem,Nat.zero_add,b4,b7];refine(Gb ((HX.ext e1).ext (N4.2.1.trans E8)) (by have e:d.X=d.s.x.lines.length:=rfl;omega) λx hx=>few x (List.mem_append_left _ hx)).mono λrr g9 ⟨⟨x1,y1,z1,er⟩,e9⟩=>?_
   subst er;have x0:∀x y:Int,∀z,aF (.tuple #[.int .i64 x,.int .i64 y,.bool z]) 0=some (.int .i64 x):=λ_ _ _=>rfl
   have be:∀x y:Int,∀z,aF (.tuple #[.int .i64 x,.int .i64 y,.bool z]) 1=some (.int .i64 y):=λ_ _ _=>rfl
   have an:∀x y:Int,∀z,aF (.tuple #[.int .i64 x,.int .i64 y,.bool z]) 2=some (.bool z):=λ_ _ _=>rfl
   have bg:=e9.row r8;have b5:aB g9 ⟨G,1,none⟩=some Y:=ai (e9.row bo);have ct:aB g9 ⟨bt,4,none⟩=some (.int .i64 (aM d ((j*A+i:Nat):Int)).h):=ai bg;simp only[go_sem,Nat.zero_add,x0,be,an,b5,ct];refine(Gb ((HY.ext e1).ext (N4.2.1.trans (E8.trans e9))) (by have e:d.Y=d.s.y.lines.length:=rfl;omega) λx hx=>few x (List.mem_append_right _ hx)).mono λrr ci ⟨⟨x3,y3,z3,er⟩,ad⟩=>?_
   subst er;have ea:=e9.1;have dl:=ad.1;simp only[go_sem,Nat.zero_add,x0,be,an];refine bJ (ad.row bg) (by simp) rfl λdz b3 cb=>?_
   try simp only[go_sem,Nat.zero_add]
   refine bJ b3 (by simp) rfl λec c9 c4=>?_
   try simp only[go_sem,Nat.zero_add]
   refine bJ c9 (by simp) rfl λep b0 c8=>?_
   try simp only[go_sem,Nat.zero_add]
   refine bJ b0 (by simp) rfl λa7 al ca=>?_
   have c3:Fr (λc=>c=bt) ci a7:=cb.fr.trans (c4.fr.trans (c8.fr.trans ca.fr));have cp:Ext g4 a7:=(E8.trans (e9.trans ad)).then_fr c3 λc hc=>by have hc:c=bt:=hc;omega
   rw[aI (l:=[.int .i64 ((j*A+i:Nat):Int),.int .i64 ((i:Int)*d.w),.int .i64 ((j:Int)*d.h),.int .i64 (aM d ((j*A+i:Nat):Int)).w,.int .i64 (aM d ((j*A+i:Nat):Int)).h,.int .i64 x1,.int .i64 x3,.int .i64 (IntKind.i64.wrap (y1-x1)),.int .i64 (IntKind.i64.wrap (y3-x3)),.int .i64 (bX d.s.y.lines)]) al 10 rfl,ah];have F:=N4.ext cp;refine Rp.push_ow (e:=Dz) (x:=aM d ((j*A+i:Nat):Int)) F.1 ⟨_,_,_,_,by rw[hH.1,b8];rfl⟩ rfl rfl (by rw[ab];omega) (by rw[ab];omega) (λ_ h=>h.elim) λv4 cu o4 f4 n4=>?_
   have dq:=F.2.1.1;have e3:(i:Int)*d.w+d.w=((i+1:Nat):Int)*d.w:=by rw[Int.natCast_add,Int.add_mul];simp
   try simp only[go_sem]
   rw[w64 (n:=(i:Int)*d.w+d.w) (by omega) (by omega),e3];refine bi v4 cu aa ⟨?_,F.2.1.then_fr f4 F.2.2,λc hc=>(n4 c hc).elim (F.2.2 c) λh=>by omega⟩;rw[←Nat.add_assoc,NZ];exact o4
  ·have:i=A:=by
    have:=mt (L i).2 g3;omega
   subst this;have e3:(j:Int)*d.h+d.h=((j+1:Nat):Int)*d.h:=by rw[Int.natCast_add,Int.add_mul];simp
   rw[w64 (n:=(j:Int)*d.h+d.h) (by omega) (by omega),e3];refine cr v2 g2 au ?_;rw[Nat.add_mul,Nat.one_mul];exact N2
 ·have:j=D:=by
   have:=mt (H j).2 g1;omega
  subst this;rw[bc];exact⟨NT.1,e1.trans NT.2.1,λc hc=>Nat.le_trans e1.1 (NT.2.2 c hc)⟩
end Go.Proofs.YtcoimlclclnlkaaGreatDoor
namespace Go.Proofs.YtcoimlclclnlkaaGreatDoor
open Go Go.Crisp
attribute [local irreducible] ae cF aP stK aA vK qK bD gK dE aS mkK cG Cn DS Ad bsK clK qN lS R9
def No (E:WE):Option (cz×Int×Int)→List (Int×Int)
 |none=>[]
 |some (t,y,e)=>Nm (E.d t) y e
def vOf (E:WE)(w:WD):VD:=⟨w.state,w.tiles,No E w.job⟩
def Ca (C:C21)(N:Nat):List (List (Int×Int)):=(List.range N).map λi:Nat=>No C.E (some (LS C.d i))
end Go.Proofs.YtcoimlclclnlkaaGreatDoor
namespace Go.Crisp
open Go
open _root_.Go.Proofs.YtcoimlclclnlkaaGreatDoor
theorem ic.push1 {α:Type}{e:Rp α}{z z' c:Value}{t t':TypeId}{bytes:Nat}{h h1:af}{v:Value}{l:List α}{x:α}{Y:Nat→Prop}{K:Value→af→Prop}(hw:e.w=1)(H:ic e h h1 v l)
  (hx:e.R Y h1 [c] x) (hY:∀b,Y b→h.size≤b∧b<h1.size∧¬blk v b) (D:z.cells.size=1) (A:(l.length+1)*bytes≤140737488355328) (hn:l.length+1≤9223372036854775807)
  (W:∀F h',ic e h h' F (l++[x])→K F h'):cF #[z'] t 1 [(0,1,c)] h1 λL h3=>cG z t' 1 bytes v L h3 K:=by
 obtain⟨Z,o,ex,n,zf⟩:=H;have U:∀b,blk v b→¬Z b:=by obtain⟨ds,_,d,_⟩:=o;exact d
 have o2:Rp.Ow e (λb=>Z b∨Y b) h1 v l:=o.mono (λb _ A=>.inl A) λb A D=>by
  rcases D with D|D
  ·exact U b A D
  ·exact(hY b D).2.2 A
 refine Rp.push_ow1 hw o2 (e.mono hx λb _ A=>.inr A) D A hn (λb A=>?_) λF h' o' I n'=>W F h' ⟨λb=>Z b∨Y b,o',ex.then_fr I n,λb A=>?_,λb A=>?_⟩
 ·rcases A with A|A
  ·exact(zf b A).2
  ·exact(hY b A).2.1
 ·rcases n' b A with G|G
  ·exact n b G
  ·exact Nat.le_trans ex.1 G
 ·have hl:=I.1;rcases A with A|A
  ·have:=zf b A;omega
  ·have:=hY b A;omega
end Go.Crisp
namespace Go.Proofs.YtcoimlclclnlkaaGreatDoor
open Go Go.Crisp
attribute [local irreducible] ae cF aP stK aA vK qK bD gK dE aS mkK cG Cn DS Ad bsK clK qN lS R9
theorem O0 (C:C21)(k:Nat):Ca C (k+1)=Ca C k++[No C.E (some (LS C.d k))]:=by simp[Ca,List.range_succ]
theorem G7 (C:C21):∀a b i:Nat,gS C (a+b) i=gS C a i+gS C b (i+a)
 |0,b,i=>by rw[Nat.zero_add,Nat.add_zero];show _=0+_;omega
 |a+1,b,i=>by
  have h:=G7 C a b (i+1);rw[show a+1+b=(a+b)+1 by omega];show ni C i+gS C (a+b) (i+1)=ni C i+gS C a (i+1)+_;rw[h,show i+1+a=i+(a+1)by omega];omega
section
theorem IsW.job_e {Z B:Nat→Prop}{h:af}{bw:Nat}{E:WE}{n:Pic}{w:WD}(H:IsW Z B h bw (some E) n w):∀t y e,w.job=some (t,y,e)→e≤lnE E.s.y y:=by
 obtain⟨⟨tv,L,G,r,o,J,_⟩,_,_,_,_,_,st⟩:=H;intro t y e F;rw[F]at J st;obtain⟨I,D,ok,hc,bj,rv,_,S⟩:=J;cases D;obtain⟨⟨M,rs,_,_,k⟩,_⟩:=S;rcases st with⟨_,A,_⟩|⟨_,h⟩
 ·have A:bM (E.d t) y e≠0:=A;unfold bM at A;split at A
  ·exact absurd rfl A
  ·exact(k (by omega)).2.2
 ·cases h
section
variable {a:Bool}{C:C21}{Z X Zd:Nat→Prop}{N:Nat}{h0 h:af}{mv:Value}{bQ bW bV:Nat}{TW TV:TypeId}{n:Pic}{ba bb:Nat}{wa wb:WD}{q:QD}
end
end
theorem Od {E:Option WE}{jo:Option (cz×Int×Int)}{w:WD}{d:QD}:(cE E jo w d).1.tiles.length≤w.tiles.length+1:=by
 obtain⟨st,tl,j,A⟩:=w;unfold cE;split
 ·split
  ·exact Nat.le_succ _
  ·exact Nat.le_succ _
 ·split
  ·exact Nat.le_succ _
  ·split
   ·simp[AF]
   ·split<;>exact Nat.le_succ _
theorem RT {t m:Int}(h:B8 t)(D:0<m∧m≤100){K:Value→Prop}(H:K (.int .i64 (1+t%m))):vK (ag .i .rem (.int .u8 t) (.int .u8 m)) λa=>vK (dY .i64 a) λb=>vK (ag .i .add (.int .i64 1) b) λc=>K c:=by
 have A:0≤t%m∧t%m<m:=⟨Int.emod_nonneg _ (by omega),Int.emod_lt_of_pos _ (by omega)⟩
 rw[cV _ _ _ _ (by omega),ah,Int.tmod_eq_emod_of_nonneg h.1];simp only[go_sem];rw[w64 (n:=t%m) (by omega) (by omega),w64 (n:=1+t%m) (by omega) (by omega)];exact H
end Go.Proofs.YtcoimlclclnlkaaGreatDoor
namespace Go.Proofs.YtcoimlclclnlkaaGreatDoor
open Go Go.Crisp
theorem Qn {h:af}{v:Value}{l:List Int}(H:SlC 1 h v l.length (l.map (Value.int .u8))):Rp.Sl (Rp.int .u8) (λ_=>True) h v l:=
 ⟨_,H,λ_ _ _=>trivial,λi hi=>by
  show Rp.el 1 _ i=[.int .u8 l[i]];rw[Rp.el_one (by simpa using hi),List.getElem_map]⟩
theorem Uj {h:af}{A:List TS}{l:List Value}(R:sK (.sl (.int .u8) 1::A) h l):∃v,∃k:List Int,∃r,l=v::r∧Rp.Sl (Rp.int .u8) (λ_=>True) h v k∧(∀x∈k,B8 x)∧k.length≤1000000000000000∧sK A h r:=by
 obtain⟨v,r,H,⟨x,G⟩,h0⟩:=R;obtain⟨u,hu,h1,F,D⟩:=Yb (l:=x) (show Rd (.sl (.int .u8) 1) h [v] x from G);obtain rfl:v=u:=by simpa using hu
 have D:List.length (α:=Int) x*1≤140737488351232:=D;exact⟨v,x,r,H,Qn h1,F,by omega,h0⟩
end Go.Proofs.YtcoimlclclnlkaaGreatDoor
namespace Go.Proofs.YtcoimlclclnlkaaGreatDoor
open Go Go.Crisp
attribute [local irreducible] ae cF aP stK aA vK qK bD gK dE aS mkK cG Cn
open _root_.Go.Proofs.Tryz
def Lb (a:Int):Nat:=(min (max 1 a) 512).toNat
def qL (n:Nat)(j:Nat):List Int:=(List.range n).map λm=>if m=j then 1 else 0
theorem Ja (n:Nat)(f g:Nat→Value)(h:∀k,k<n→f k=g k):(List.range n).map f=(List.range n).map g:=
 List.map_congr_left λk A=>h k (List.mem_range.1 A)
theorem c_New {h:af}(a:Int):ae prog lC #[.int .i64 a] h λr h'=>∃M,dX M h' r (Lb a) (qL (Lb a))∧Ext h h'∧∀b,M b→h.size≤b:=by
 apply Nk;unfold Do;have bi:min (max 1 a) 512=((Lb a:Nat):Int):=by unfold Lb;omega
 have ax:1≤Lb a∧Lb a≤512:=by unfold Lb;omega
 simp only[go_sem,bi];generalize Lb a=n at ax;refine lQ rfl (by omega) (by omega) λs h1 o1 e1 n1=>?_
 have bk:=o1.sl;obtain⟨_,I,L,rfl,_⟩:=bk;rw[GV _ #[.slice I n L] (by kernel_rfl)];refine aC (c:=#[.slice I n L]) λbc W ay e2 n2=>?_
 obtain⟨t0,r2⟩:∃t,W[bc]? =some (.cells #[.slice I n L] t (0,0)):=⟨_,ay⟩
 clear ay
 simp only[go_sem,ai r2];have a7:¬blk (.slice I n L) bc:=λA=>by have:=o1.lt A;omega
 refine Cd n (λk h'=>k≤n∧Ext h h'∧∃sv:Nat→Value,h'[bc]? =some (.cells #[.slice I n L] t0 (0,0))∧Own 1 h' (.slice I n L) n ((List.range n).map λj=>if j<k then sv j else .slice none 0 0)∧
   (∀j,j<k→iT h' (sv j) (qL n j))∧(∀j,j<k→∀b,blk (sv j) b→h.size≤b∧b≠bc∧¬blk (.slice I n L) b)∧∀i j,i<k→j<k→i≠j→∀b,blk (sv i) b→¬blk (sv j) b)
  ⟨Nat.zero_le _,e1.trans e2,λ_=>.nilFunc,r2,?_,λj F=>by omega,λj F=>by omega,λi j hi=>by omega⟩ ?_
 ·have:=o1.fr (M:=λ_=>False) e2.fr λ_ _=>id
  rw[show List.replicate n (Value.slice none 0 0)=(List.range n).map λj=>if j<0 then Value.nilFunc else .slice none 0 0 by
   apply List.ext_getElem<;>simp]at this
  exact this
 rintro k h3 again ρj ⟨b3,e3,sv,r3,o3,G,U,an⟩ be;simp only[go_sem];refine aj (λhk=>?_) (λhk=>?_)
 ·have hk:k<n:=by omega
  refine L4 ?_;refine ao (.slice I n L) (λh' e=>by rw[ai (e.row r3)];rfl) ?_;refine lQ rfl (by omega) (by omega) λs4 h4 o4 e4 n4=>?_
  refine⟨e4,?_⟩;obtain⟨p,hp,hq,bd⟩:=(o3.fr (M:=λ_=>False) e4.fr λ_ _=>id).at1 (k:=.i64) hk;simp only[go_sem,hp];have au:iT h4 s4 (List.replicate n 0):=by
   unfold iT;rw[List.length_replicate,List.map_replicate];exact o4
  refine bd _ _ (Ae au) λh5 o5 f5 _=>?_
  rw[Hk]at o5;have al:∀b,blk s4 b→¬blk (.slice I n L) b:=λb A D=>by have:=n4 b A;have:=o3.lt D;omega
  have o6:iT h5 s4 (List.replicate n 0):=au.fr f5 λb A=>al b A
  have r5:h5[bc]? =some (.cells #[.slice I n L] t0 (0,0)):=f5.row (e4.row r3) a7;obtain⟨p6,a9,a8⟩:=o5.sl.at1 (k:=.i64) hk;rw[hp]at a9;cases a9;rw[List.getElem_map,List.getElem_range,if_pos rfl]at a8;obtain⟨p7,bv,b2,aw⟩:=Own.at1 o6 (k:=.i64) (i:=k) (by simpa using hk);simp only[go_sem,ai r5,hp,a8,bv];refine aw _ _ rfl λh8 o8 f8 _=>?_
  rw[w64 (by omega) (by omega)];have f58:Fr (blk s4) h5 h8:=f8;have H:∀b,blk s4 b→h3.size≤b:=n4;have bg:Ext h h8:=((e3.trans e4).then_fr f5 n1).then_fr f58 λb A=>Nat.le_trans e3.1 (H b A)
  have ar:∀b,blk s4 b→h.size≤b∧b≠bc∧¬blk (.slice I n L) b:=λb A=>
   ⟨Nat.le_trans e3.1 (H b A),λb1=>by
    have h1:=H b A;have W:=(Array.getElem?_eq_some_iff.1 r3).1;omega,al b A⟩
  have aa:∀j,j<k→∀b,blk (sv j) b→¬blk s4 b:=λj F b A D=>by
   have h1:=H b D;have W:=(G j F).lt A;omega
  refine be h8 hk ⟨hk,bg,λj=>if j=k then s4 else sv j,?_,?_,?_,?_,?_⟩
  ·exact f58.row r5 λA=>(ar _ A).2.1 rfl
  ·have:=o5.fr f58 λb A D=>al b D A
   rw[Ja n _ (λj=>if j<k+1 then(if j=k then s4 else sv j)else .slice none 0 0) ?_]at this
   ·exact this
   ·intro j F;by_cases h1:j=k
    ·subst h1;simp
    ·by_cases W:j<k
     ·simp[h1,W,Nat.lt_succ_of_lt W]
     ·simp[h1,W,show¬j<k+1 by omega]
  ·intro j F;by_cases h1:j=k
   ·subst h1;simp only[if_true];have o9:Own 1 h8 s4 (qL n j).length ((qL n j).map vi):=by
     refine(congr (congrArg (Own 1 h8 s4) ?_) ?_).mp o8
     ·simp[qL]
     ·apply List.ext_getElem
      ·simp[qL]
      ·intro m h1 W;rw[List.getElem_set];simp only[qL,List.getElem_map,List.getElem_replicate,List.getElem_range,vi, @eq_comm _ m j];split<;>rfl
    exact o9
   ·simp only[h1,if_false];have ad:j<k:=by omega
    have h9:=((G j ad).fr (M:=λ_=>False) e4.fr λ_ _=>id)
    have bo:iT h5 (sv j) (qL n j):=h9.fr f5 λb A=>(U j ad b A).2.2
    exact bo.fr f58 λb A=>aa j ad b A
  ·intro j F b A;by_cases h1:j=k
   ·simp only[h1,if_true]at A;exact ar b A
   ·simp only[h1,if_false]at A;exact U j (by omega) b A
  ·intro i j hi F ab b A D;by_cases h1:i=k
   ·simp only[h1,if_true]at A;have W:j≠k:=λh=>ab (h1.trans h.symm)
    simp only[W,if_false]at D;exact aa j (by omega) b D A
   ·simp only[h1,if_false]at A;by_cases W:j=k
    ·simp only[W,if_true]at D;exact aa i (by omega) b A D
    ·simp only[W,if_false]at D;exact an i j (by omega) (by omega) ab b A D
 ·obtain rfl:k=n:=by omega
  have b0:Own 1 h3 (.slice I k L) k ((List.range k).map sv):=by
   rw[Ja k _ sv (λj F=>by simp[F])]at o3;exact o3
  refine⟨λb=>b=bc∨blk (.slice I k L) b∨∃j,j<k∧blk (sv j) b,⟨bc,.slice I k L,sv,t0,rfl,?_⟩,e3,?_⟩
  ·exact{
    var:=r3,arr:=b0,row:=G,len:=λi hi=>by simp[qL],pos:=ax
    inM:=⟨.inl rfl,λb A=>.inr (.inl A),λi hi b A=>.inr (.inr ⟨i,hi,A⟩)⟩
    ap1:=a7,ap2:=λi hi b A=>(U i hi b A).2,ap3:=λi j hi F ab b=>an i j hi F ab b
    lt:=λb A=>by
     rcases A with rfl|A|⟨j,F,A⟩
     ·exact(Array.getElem?_eq_some_iff.1 r3).1
     ·exact o3.lt A
     ·exact(G j F).lt A}
  ·intro b A;rcases A with rfl|A|⟨j,F,A⟩
   ·exact Nat.le_trans e1.1 n2
   ·exact n1 b A
   ·exact(U j F b A).1
end Go.Proofs.YtcoimlclclnlkaaGreatDoor
namespace Go.Proofs.YtcoimlclclnlkaaGreatDoor
open Go Go.Crisp
open _root_.Go.Proofs.Tryz
structure Acc where
 who:Int
 when_:List Int
 buf:Int
 lo:Int
 hi:Int
 wr:Bool
def vG (h:af)(v:Value)(a:Acc):Prop:=∃s,v=.agg #[.int .i64 a.who,s,.int .i64 a.buf,.int .i64 a.lo,.int .i64 a.hi,.bool a.wr]∧jR h s a.when_
theorem vG.ext {h h':af}{v:Value}{a:Acc}(H:vG h v a)(e:Ext h h'):vG h' v a:=by
 obtain⟨s,rfl,A⟩:=H;exact⟨s,rfl,A.ext e⟩
def IY (a b:Acc):Bool:=decide (a.buf=b.buf)&&decide (max a.lo b.lo<min a.hi b.hi)
def FO (a b:Acc):Bool:= !decide (a.who=b.who)&&(a.wr||b.wr)&&IY a b&& !Fs a.when_ b.when_&& !Fs b.when_ a.when_
theorem Xv {h:af}{v u:Value}{a b:Acc}(H:vG h v a)(I:vG h u b):
  ae prog sG #[v,u] h λr h'=>r=.bool (IY a b)∧Ext h h':=by
 apply Gy;unfold xj;obtain⟨s,rfl,L⟩:=H;obtain⟨U,rfl,F⟩:=I;simp only[bC];refine aC λW h1 r1 G _=>aC λb2 h2 r2 D _=>?_
 have r1:=D.row r1;have e:=G.trans D;simp only[go_sem,ai r1,ai r2];by_cases A:a.buf=b.buf
 ·simp only[go_sem,A,ai r1,ai r2];exact⟨by simp[IY,A],e⟩
 ·simp only[go_sem,A];exact⟨by simp[IY,A],e⟩
theorem VN {h:af}{v u:Value}{a b:Acc}(ha:vG h v a)(hb:vG h u b)(hn:a.when_.length≤9223372036854775807)(hm:b.when_.length≤9223372036854775807):
  ae prog oB #[v,u] h λr h'=>r=.bool (FO a b)∧Ext h h':=by
 apply Ir;unfold ye;have W:=ha;have L:=hb;obtain⟨s,rfl,hs⟩:=ha;obtain⟨s',rfl,F⟩:=hb;simp only[bC];refine aC λb1 h1 r1 e1 _=>aC λb2 h2 r2 e2 _=>?_
 have r1:=e2.row r1;have e:=e1.trans e2;have l1:=aI r1 6 rfl;have l2:=aI r2 6 rfl;simp only[go_sem,ai r1,ai r2];by_cases I:a.who=b.who
 ·simp only[go_sem,I];exact⟨by simp[FO,I],e⟩
 cases A:a.wr<;>cases D:b.wr<;>simp only[go_sem,I,ai r1,ai r2,l1,l2,A,D]
 ·exact⟨by simp[FO,A,D],e⟩
 all_goals
  refine(Xv (a:=a) (b:=b) ?_ ?_).mono ?_
  ·rw[←A];exact W.ext e
  ·rw[←D];exact L.ext e
  rintro _ h3 ⟨rfl,U⟩;have r1:=U.row r1;have r2:=U.row r2;have e:=e.trans U;cases G:IY a b with
  |false=>simp only[go_sem];exact⟨by simp[FO,G],e⟩
  | true=>
   simp only[go_sem,ai r1,ai r2];refine(SI (hs.ext e) (F.ext e) hn).mono ?_;rintro _ _ ⟨rfl,rfl⟩;cases H:Fs a.when_ b.when_ with
   |true=>simp only[go_sem];exact⟨by simp[FO,H],e⟩
   |false=>
    simp only[go_sem,ai r1,ai r2];refine(SI (F.ext e) (hs.ext e) hm).mono ?_;rintro _ _ ⟨rfl,rfl⟩;simp only[go_sem];exact⟨by simp[FO,I,G,H,A,D],e⟩
end Go.Proofs.YtcoimlclclnlkaaGreatDoor
namespace Go.Proofs.YtcoimlclclnlkaaGreatDoor
open Go Go.Crisp
attribute [local irreducible] ae cF aP stK aA vK qK bD gK dE aS
open _root_.Go.Proofs.Tryz
theorem Pi {h:af}{b:Nat}{l:List Int}{t:TypeId}{f:Nat×Nat}{cap:Nat}(r:h[b]? =some (.cells (l.map vi).toArray t f)):jR h (.slice (some ⟨b,0,none⟩) l.length cap) l:=
 ⟨_,cap,rfl,.inr ⟨b,0,rfl,λi hi=>by rw[Nat.zero_add,ai r];simp[hi]⟩⟩
theorem XG {h:af}:ae prog uD #[] h λr h'=>r=.bool true∧Ext h h':=by
 apply Iy;unfold yl;refine cH (c':=#[.int .i64 1,.int .i64 0]) (by kernel_rfl) λG h1 r1 e1 _=>?_
 rw[GV _ #[.int .i64 0,.slice (some ⟨G,0,none⟩) 2 2,.int .i64 0,.int .i64 3,.int .i64 4,.bool true] (by kernel_rfl)];refine aC λb2 h2 r2 e2 n2=>?_
 refine ce (l:=[.int .i64 0,.slice (some ⟨G,0,none⟩) 2 2,.int .i64 0,.int .i64 3,.int .i64 4,.bool true]) r2 rfl (by simp[aJ]) rfl λh3 r3 u3=>?_
 have I:Ext h1 h3:=e2.upd n2 u3;refine cH (c':=#[.int .i64 0,.int .i64 1]) (by kernel_rfl) λH h4 r4 e4 _=>?_
 rw[GV _ #[.int .i64 1,.slice (some ⟨H,0,none⟩) 2 2,.int .i64 0,.int .i64 2,.int .i64 9,.bool true] (by kernel_rfl)];refine aC λb5 h5 r5 e5 n5=>?_
 refine ce (l:=[.int .i64 1,.slice (some ⟨H,0,none⟩) 2 2,.int .i64 0,.int .i64 2,.int .i64 9,.bool true]) r5 rfl (by simp[aJ]) rfl λA r6 u6=>?_
 have U:Ext h4 A:=e5.upd n5 u6;have D:Ext h3 A:=e4.trans U;have l3:=aI (D.row r3) 6 rfl;have L:=aI r6 6 rfl;have i1:jR A (.slice (some ⟨G,0,none⟩) 2 2) [1,0]:=Pi (l:=[1,0]) ((I.trans D).row r1);have i4:jR A (.slice (some ⟨H,0,none⟩) 2 2) [0,1]:=Pi (l:=[0,1]) (U.row r4);have W:vG A (.agg #[.int .i64 0,.slice (some ⟨G,0,none⟩) 2 2,.int .i64 0,.int .i64 3,.int .i64 4,.bool true]) ⟨0,[1,0],0,3,4,true⟩:=⟨_,rfl,i1⟩
 have A4:vG A (.agg #[.int .i64 1,.slice (some ⟨H,0,none⟩) 2 2,.int .i64 0,.int .i64 2,.int .i64 9,.bool true]) ⟨1,[0,1],0,2,9,true⟩:=⟨_,rfl,i4⟩
 have e:Ext h A:=e1.trans (I.trans D);simp only[go_sem,l3,L];refine(VN W A4 (by simp) (by simp)).mono ?_;rintro _ h7 ⟨rfl,F⟩;rw[show FO ⟨0,[1,0],0,3,4,true⟩ ⟨1,[0,1],0,2,9,true⟩=true from by decide];simp only[go_sem,F.lds l3,F.lds L];refine(VN (A4.ext F) (W.ext F) (by simp) (by simp)).mono ?_;rintro _ h8 ⟨rfl,e8⟩;rw[show FO ⟨1,[0,1],0,2,9,true⟩ ⟨0,[1,0],0,3,4,true⟩=true from by decide];simp only[go_sem];exact⟨trivial,e.trans (F.trans e8)⟩
end Go.Proofs.YtcoimlclclnlkaaGreatDoor
namespace Go.Proofs.YtcoimlclclnlkaaGreatDoor
open Go Go.Crisp
attribute [local irreducible] ae cF aP stK aA vK qK bD gK dE aS mkK cG Cn
open _root_.Go.Proofs.Tryz
abbrev rIa:Rp Int:=Rp.int .i64
theorem Mx {Z:Nat→Prop}{h:af}{v:Value}{l:List Int}(H:Rp.Sl rIa Z h v l):jR h v l:=by
 obtain⟨ds,A,_,F⟩:=H;have I:ds.length=l.length:=by have:=A.1;simpa[Rp.int]using this
 have:ds=l.map vi:=by
  apply List.ext_getElem (by simp[I]);intro i h1 L;have G:=F i (by omega);have D:Rp.el 1 ds i=[.int .i64 l[i]]:=G;rw[Rp.el_one h1]at D;rw[List.getElem_map];simpa[vi]using D
 subst this;exact Se A
theorem wn {Z:Nat→Prop}{h:af}{v:Value}{l:List Int}(H:jR h v l)(A:l≠[]→∀b,blk v b→Z b):Rp.Sl rIa Z h v l:=by
 refine⟨l.map vi,H.sl,λh0=>A (by simpa using h0),λi hi=>?_⟩;show Rp.el 1 (l.map vi) i=[.int .i64 l[i]];rw[Rp.el_one (by simpa using hi)];simp[vi]
def uh:Rp Acc where
 w:=6
 R:=λZ h cs a=>∃s,cs=[.int .i64 a.who,s,.int .i64 a.buf,.int .i64 a.lo,.int .i64 a.hi,.bool a.wr]∧Rp.Sl rIa Z h s a.when_
 len:=by rintro _ _ _ _ ⟨s,rfl,_⟩;rfl
 one:=by
  rintro _ _ _ _ ⟨s,rfl,H⟩ v hv;have:=H.one;simp only[List.mem_cons,List.not_mem_nil,or_false]at hv;rcases hv with rfl|rfl|rfl|rfl|rfl|rfl<;>first|rfl|exact this
 fr:=by rintro _ _ _ _ _ _ ⟨s,rfl,H⟩ f q;exact⟨s,rfl,H.fr f q⟩
 mono:=by rintro _ _ _ _ _ ⟨s,rfl,H⟩ q;exact⟨s,rfl,H.mono q⟩
def QQ (a:Acc):Bool:=decide (0≤a.who)&&(decide (0≤a.buf)&&(decide (0≤a.lo)&&decide (a.lo<a.hi)))
theorem c_may {h:af}{v:Value}{a:Acc}(H:vG h v a):ae prog wT #[v] h λr h'=>r=.bool (QQ a)∧Ext h h':=by
 obtain⟨s,rfl,_⟩:=H;apply KZ;unfold Bd;simp only[bC];refine aC λb h1 r1 F I=>?_
 by_cases A:0≤a.who
 ·by_cases D:0≤a.buf
  ·by_cases G:0≤a.lo
   ·simp only[go_sem,ai r1,A,D,G];exact⟨by simp[QQ,A,D,G],F⟩
   ·simp only[go_sem,ai r1,A,D,G];exact⟨by simp[QQ,A,D,G],F⟩
  ·simp only[go_sem,ai r1,A,D];exact⟨by simp[QQ,A,D],F⟩
 ·simp only[go_sem,ai r1,A];exact⟨by simp[QQ,A],F⟩
theorem XA {h:af}{v:Value}{a:Acc}(ha:vG h v a)(hl:a.when_.length≤4398046511104):
  ae prog sH #[v] h λr h'=>∃ds,r=.agg (List.toArray ds)∧uh.R (λb=>h.size≤b∧b<h'.size) h' ds a∧Ext h h':=by
 obtain⟨s,rfl,hs⟩:=ha;apply Gz;unfold xk;simp only[bC];refine aC λb1 h1 r1 I n1=>aC λb3 h3 r3 H n3=>?_
 have D:=H.row r1;simp only[go_sem,ai D];refine(SG ((hs.ext I).ext H) hl).mono ?_;rintro F h4 ⟨o4,U,n4⟩;have aa:=Ae o4;refine bJ (o:=1) (U.row D) (by simp) aa λh5 W L=>?_
 have W:h5[b1]? =some (.cells (List.toArray [.int .i64 a.who,F,.int .i64 a.buf,.int .i64 a.lo,.int .i64 a.hi,.bool a.wr]) _ (0,0)):=W;rw[aI W 6 rfl,ah];have ab:b3≠b1:=by have:=aU r1;omega
 refine ce (l:=[.int .i64 a.who,F,.int .i64 a.buf,.int .i64 a.lo,.int .i64 a.hi,.bool a.wr]) (L.row ab (U.row r3)) rfl (by repeat' (first|rfl|assumption|exact aQ|refine ak ?_ ?_)) rfl λh6 r6 u6=>?_
 rw[aI r6 6 rfl,ah];have ad:Ext h h6:=(((I.trans H).trans U).upd n1 L).upd (Nat.le_trans I.1 n3) u6;refine⟨_,rfl,⟨F,rfl,?_⟩,ad⟩;have G:∀b,blk F b→b≠b1∧b≠b3:=λb A=>by
  have h1:=n4 b A;have h2:=aU D;have h3:=aU r3;exact⟨by omega,by omega⟩
 have o6:iT h6 F a.when_:=(o4.fr L.fr λb A=>(G b A).1).fr u6.fr λb A=>(G b A).2
 exact wn o6.ints λ_ b A=>⟨Nat.le_trans (I.trans H).1 (n4 b A),o6.lt A⟩
end Go.Proofs.YtcoimlclclnlkaaGreatDoor
namespace Go.Proofs.YtcoimlclclnlkaaGreatDoor
open Go Go.Crisp
attribute [local irreducible] ae cF aP stK aA vK qK bD gK dE aS mkK cG Cn
instance:Inhabited Acc:=⟨⟨0,[],0,0,0,false⟩⟩
end Go.Proofs.YtcoimlclclnlkaaGreatDoor
namespace Go.Proofs.YtcoimlclclnlkaaGreatDoor
open Go Go.Crisp
attribute [local irreducible] ae cF aP stK aA vK qK bD gK dE aS mkK cG Cn qN lS R9
open _root_.Go.Proofs.Tryz
section
section
variable {Z:Nat→Prop}{h:af}{bx o:Nat}{cs:Array Value}{t:TypeId}{sl:Value}{l:List Acc}
structure V7 (Z:Nat→Prop)(h:af)(bx o:Nat)(cs:Array Value)(t:TypeId)(sl:Value)(l:List Acc):Prop where
 var:h[bx]? =some (.cells cs t (0,0))
 pl:cs[o]? =some sl
 own:Rp.Ow uh Z h sl l
 ap:¬blk sl bx∧¬Z bx
 zlt:∀b,Z b→b<h.size
theorem Y5 {u:Value}{a:Acc}(L:V7 Z h bx o cs t sl l)(hu:vG h u a)(ha:a.when_.length≤4398046511104)(hl:l.length≤1000000)(hm:QQ a=true):
  ae prog kh #[.pointer (some ⟨bx,o,none⟩),u] h λr h'=>∃s' Z',V7 Z' h' bx o (cs.setIfInBounds o s') t s' (l++[a])∧Fr (λb=>b=bx∨blk sl b) h h'∧(∀b,blk s' b→blk sl b∨h.size≤b)∧∀b,Z' b→Z b∨h.size≤b:=by
 have ar:=aU L.var;have ho:o<cs.size:=(Array.getElem?_eq_some_iff.1 L.pl).1;obtain⟨s,rfl,hs⟩:=hu;apply yV;unfold oT;simp only[bC];refine aC λb1 h1 r1 e1 n1=>?_
 rw[aI (l:=[.int .i64 a.who,s,.int .i64 a.buf,.int .i64 a.lo,.int .i64 a.hi,.bool a.wr]) r1 6 rfl,ah];have A1:vG h1 (.agg #[.int .i64 a.who,s,.int .i64 a.buf,.int .i64 a.lo,.int .i64 a.hi,.bool a.wr]) a:=⟨s,rfl,hs.ext e1⟩
 refine(c_may A1).mono ?_;rintro _ h2 ⟨rfl,e2⟩;have G:=e1.trans e2;simp only[hm,go_sem,Nat.add_zero];have F:=e2.row r1;have v2:=G.row L.var;refine aG (λhh=>hh[bx]? =some (.cells cs t (0,0))∧aH 6 hh (.pointer (some ⟨b1,0,none⟩))=some (.agg #[.int .i64 a.who,s,.int .i64 a.buf,.int .i64 a.lo,.int .i64 a.hi,.bool a.wr]))
  ⟨v2,aI (l:=[.int .i64 a.who,s,.int .i64 a.buf,.int .i64 a.lo,.int .i64 a.hi,.bool a.wr]) F 6 rfl⟩ ?_
 refine ao sl (λhh S=>by rw[ai S.1,L.pl]) ?_;refine ao _ (λhh S=>S.2) ?_;refine(XA (A1.ext e2) ha).mono ?_;rintro _ h3 ⟨ds,rfl,aa,e3⟩;have an:=G.trans e3;refine⟨⟨e3.row v2,aI (l:=[.int .i64 a.who,s,.int .i64 a.buf,.int .i64 a.lo,.int .i64 a.hi,.bool a.wr]) (e3.row F) 6 rfl⟩,?_⟩;have I:ds.length=6:=uh.len aa;refine cH (Rp.fill_whole rfl I) λb4 h4 r4 H n4=>?_
 have D:=an.trans H;refine⟨⟨H.row (e3.row v2),H.lds (aI (l:=[.int .i64 a.who,s,.int .i64 a.buf,.int .i64 a.lo,.int .i64 a.hi,.bool a.wr]) (e3.row F) 6 rfl)⟩,?_⟩;have S1:=Rp.SlC.single r4;rw[I]at S1;have dz:∀b,blk sl b→¬Z b:=by obtain⟨_,_,d,_⟩:=L.own;exact d
 have o4:Rp.Ow uh (λb=>Z b∨(h.size≤b∧b<h3.size)) h4 sl l:=(L.own.ext D).mono (λb _ A=>.inl A) λb A hz=>by
  rcases hz with hz|hz
  ·exact dz b A hz
  ·have:=L.own.lt A;omega
 refine Rp.app_ow (e:=uh) (l2:=[a]) o4 S1 (λi hi=>?_) rfl (by simp;omega) (by simp;omega) (λb A=>?_) λs' h5 o5 f5 n5=>?_
 ·have hi:i=0:=by simpa using hi
  subst hi;rw[show Rp.el uh.w ds 0=ds from Rp.el_self I];exact uh.mono (uh.ext aa H) λb _ A=>.inr ⟨Nat.le_trans G.1 A.1,A.2⟩
 ·rcases A with A|A
  ·exact Nat.lt_of_lt_of_le (L.zlt b A) D.1
  ·exact Nat.lt_of_lt_of_le A.2 H.1
 have v5:h5[bx]? =some (.cells cs t (0,0)):=f5.row (D.row L.var) L.ap.1;have al:¬blk sl b1:=λA=>by have:=L.own.lt A;omega
 refine⟨⟨v5,aI (l:=[.int .i64 a.who,s,.int .i64 a.buf,.int .i64 a.lo,.int .i64 a.hi,.bool a.wr]) (f5.row ((e3.trans H).row F) al) 6 rfl⟩,?_⟩;refine bJ v5 ho o5.one λh6 r6 u6=>?_
 have ab:∀b,blk s' b→b≠bx:=λb A U=>by
  rcases n5 b A with W|W
  ·exact L.ap.1 (U▸W)
  ·have:=D.1;omega
 have ad:∀b,(Z b∨(h.size≤b∧b<h3.size))→b≠bx:=λb A U=>by
  rcases A with A|A
  ·exact L.ap.2 (U▸A)
  ·omega
 have o6:=o5.fr u6.fr (λb _ A=>ad b A) ab;refine⟨s',λb=>Z b∨(h.size≤b∧b<h3.size),⟨r6,by simp[ho],o6,⟨λA=>ab bx A rfl,λA=>ad bx A rfl⟩,λb A=>?_⟩,?_,λb A=>?_,λb A=>A.imp id And.left⟩
 ·have W:h4.size≤h6.size:=by rw[u6.1];exact f5.1
  rcases A with A|A
  ·have:=L.zlt b A;have:=D.1;omega
  ·have:=H.1;omega
 ·exact(D.fr.trans (f5.mono λb _ A=>.inr A)).trans (u6.fr.mono λb _ A=>.inl A)
 ·rcases n5 b A with W|W
  ·exact .inl W
  ·exact .inr (Nat.le_trans D.1 W)
end
end
end Go.Proofs.YtcoimlclclnlkaaGreatDoor
namespace Go.Proofs.YtcoimlclclnlkaaGreatDoor
open Go Go.Crisp
attribute [local irreducible] ae cF aP stK aA vK qK bD gK dE aS mkK cG Cn DS Ad bsK clK qN lS R9
section
def rIs:Rp (List Int) where
 w:=1
 R:=λZ h cs l=>∃v,cs=[v]∧Rp.Sl (Rp.int .i64) Z h v l
 len:=by rintro _ _ _ _ ⟨_,rfl,_⟩;rfl
 one:=by
  rintro _ _ _ _ ⟨_,rfl,H⟩;exact ak H.one aQ
 fr:=by rintro _ _ _ _ _ _ ⟨v,rfl,H⟩ f q;exact⟨v,rfl,H.fr f q⟩
 mono:=by rintro _ _ _ _ _ ⟨v,rfl,H⟩ q;exact⟨v,rfl,H.mono q⟩
structure PV where
 vc:Value
 sl:Value
 wv:Value
 dv:Value
 sv:Value
 ev:Value
 lv:Value
structure bR where
 q:QD
 rows:Nat→List Int
 acc:List Acc
 ws:Nat→WD
 words:Nat→Int
 sent:Int
 stamps:List (List Int)
 fin:List Int
 left:List (List Int)
 ret:Bool
 picks:Int
def gn (C:C21)(V:PV)(P:bR):Array Value:=#[ptr C.bf,ptr C.bt,ptr C.bl,ptr C.bq,V.vc,V.sl,V.wv,V.dv,.int .i64 P.sent,V.sv,V.ev,V.lv,.bool P.ret,.int .i64 P.picks]
def qE (o:Nat→Nat)(k:Nat)(h:af)(v:Value)(l:List (List Int)):Prop:=∃Z:Nat→Prop,Rp.Ow rIs Z h v l∧(∀c,Z c→o c=k)∧∀c,blk v c→o c=k
structure aL (X:Nat→Prop)(C:C21)(Z:Nat→Prop)(K:Nat)(h0:af)(bw:Nat→Nat)(bp:Nat)(o:Nat→Nat)(n:Pic)(V:PV)(P:bR)(h:af):Prop where
 q:¬X 1→IsQ (λc=>o c=1) h C.bq P.q
 c:¬X 2→dX (λc=>o c=2) h V.vc (K+1) P.rows
 l:¬X 3→∃Zl:Nat→Prop,Rp.Ow uh Zl h V.sl P.acc∧(∀c,Zl c→o c=3)∧∀c,blk V.sl c→o c=3
 p:¬X 4→h[bp]? =some (.cells (gn C V P) 197 (0,0))
 w:¬X 5→Own 1 h V.dv K ((List.range K).map λi=>.int .i64 (P.words i))∧∀c,blk V.dv c→o c=5
 s:¬X 6→qE o 6 h V.sv P.stamps
 f:¬X 7→qE o 7 h V.lv P.left
 e:¬X 8→Rp.Sl (Rp.int .i64) (λc=>o c=8) h V.ev P.fin
 wk:¬X 9→SlC 1 h V.wv K ((List.range K).map λi=>ptr (bw i))∧∀c,blk V.wv c→o c=9
 ws:∀i,i<K→¬X (10+i)→IsW Z (λc=>o c=10+i) h (bw i) (some C.E) n (P.ws i)
 po:o bp=4
 set:xy Z h C.bf C.vf C.bt C.vt C.p C.q C.m n C.d.s
 pl:pV Z h C.bl C.d C.pp C.pq
 zl:Z C.bl∧C.pp=C.p∧C.pq=C.q
 sui:C.suits n
 ow:∀c,o c≠0→c<h.size∧h0.size≤c∧¬Z c∧xA (some C.E) c∧¬de (some C.E) c
 ext:Ext h0 h
 few:1≤K∧K≤256
section
variable {X:Nat→Prop}{C:C21}{Z:Nat→Prop}{K:Nat}{h0 h h':af}{bw:Nat→Nat}{bp:Nat}{o:Nat→Nat}{n:Pic}{V:PV}{P:bR}
theorem qE.fr {k:Nat}{v:Value}{l:List (List Int)}{M:Nat→Prop}(H:qE o k h v l)(f:Fr M h h')(q:∀c,o c=k→¬M c):qE o k h' v l:=by
 obtain⟨Z,F,D,A⟩:=H;exact⟨Z,F.fr f (λc _ hc=>q c (D c hc)) λc hc=>q c (A c hc),D,A⟩
theorem aL.chgO (H:aL X C Z K h0 bw bp o n V P h){A:Nat→Prop}(ha:¬A 0){n':Pic}(hb:∀c,de (some C.E) c→h0.size≤c)(f:Fr (λc=>A (o c)∨de (some C.E) c) h h')(I2:gR h' (some C.E) n')(D:dr n n'):aL (λk=>X k∨A k) C Z K h0 bw bp o n' V P h':=by
 have no:∀c,o c≠0→¬de (some C.E) c:=λc hc=>(H.ow c hc).2.2.2.2
 have g:∀k,k≠0→¬A k→∀c,o c=k→¬(A (o c)∨de (some C.E) c):=λk h0 hk c hc h=>h.elim (by rw[hc];exact hk) (no c (by rw[hc];exact h0))
 have G:∀{k},¬(X k∨A k)→¬X k∧¬A k:=λh=>⟨λx=>h (.inl x),λx=>h (.inr x)⟩
 have oa:∀c,A (o c)→c<h.size∧h0.size≤c∧¬Z c∧xA (some C.E) c∧¬de (some C.E) c:=λc hc=>H.ow c λh=>ha (h▸hc)
 have L:∀c,Z c→¬(A (o c)∨de (some C.E) c):=λc W hc=>hc.elim (λhc=>(oa c hc).2.2.1 W) (H.set.zz c W)
 obtain⟨p1,p2,p3⟩:=H.pl;obtain⟨I,wf⟩:=I2 C.E rfl;obtain⟨s1,s2,s3,s4,s5⟩:=H.sui.2;refine⟨λF=>(H.q (G F).1).fr f (g 1 (by omega) (G F).2),λF=>(H.c (G F).1).fr f λc _=>g 2 (by omega) (G F).2 c,λF=>?_,λF=>f.row (H.p (G F).1) (g 4 (by omega) (G F).2 bp H.po),λF=>⟨(H.w (G F).1).1.fr f λc hc=>g 5 (by omega) (G F).2 c ((H.w (G F).1).2 c hc),(H.w (G F).1).2⟩,λF=>(H.s (G F).1).fr f (g 6 (by omega) (G F).2),λF=>(H.f (G F).1).fr f (g 7 (by omega) (G F).2),λF=>(H.e (G F).1).fr f λc _=>g 8 (by omega) (G F).2 c,
  λF=>⟨(H.wk (G F).1).1.fr f λc _ hc=>g 9 (by omega) (G F).2 c ((H.wk (G F).1).2 c hc),(H.wk (G F).1).2⟩,λi hi F=>(H.ws i hi (G F).1).other f L (g (10+i) (by omega) (G F).2) I2 D,H.po,H.set.chg f L I,⟨f.row p1 (L _ H.zl.1),p2.fr f λc _=>L c,p3.fr f λc _=>L c⟩,H.zl,⟨wf,s1,by rw[D.w];exact s2,by rw[D.h];exact s3,by rw[D.c];exact s4,by rw[D.m];exact s5⟩,λc hc=>⟨Nat.lt_of_lt_of_le (H.ow c hc).1 f.1,(H.ow c hc).2⟩,H.ext.then_fr f λc hc=>hc.elim (λh=>(oa c h).2.1) (hb c),H.few⟩
 obtain⟨Zl,o1,U,z2⟩:=H.l (G F).1;exact⟨Zl,o1.fr f (λc _ hc=>g 3 (by omega) (G F).2 c (U c hc)) λc hc=>g 3 (by omega) (G F).2 c (z2 c hc),U,z2⟩
theorem aL.ex0 (H:aL X C Z K h0 bw bp o n V P h):gR h (some C.E) n:=λD A=>by cases A;exact⟨H.set.out,H.sui.1⟩
theorem aL.chgM (H:aL X C Z K h0 bw bp o n V P h){A M:Nat→Prop}(f:Fr M h h')(I:∀c,M c→(A (o c)∨o c=0)∧h0.size≤c∧¬Z c∧xA (some C.E) c∧¬de (some C.E) c):aL (λk=>X k∨A k) C Z K h0 bw bp o n V P h':=by
 have W:gR h' (some C.E) n:=H.ex0.fr f λc hc _=>(I c hc).2.2.2
 have G:∀c,Z c→¬M c:=λc hz hc=>(I c hc).2.2.1 hz
 have g:∀k,k≠0→¬A k→∀c,o c=k→¬M c:=λk k0 hk c hc hm=>(I c hm).1.elim (by rw[hc];exact hk) λh=>k0 (by rw[←hc,h])
 have F:∀{k},¬(X k∨A k)→¬X k∧¬A k:=λh=>⟨λx=>h (.inl x),λx=>h (.inr x)⟩
 obtain⟨p1,p2,p3⟩:=H.pl;refine⟨λD=>(H.q (F D).1).fr f (g 1 (by omega) (F D).2),λD=>(H.c (F D).1).fr f λc _=>g 2 (by omega) (F D).2 c,λD=>?_,λD=>f.row (H.p (F D).1) (g 4 (by omega) (F D).2 bp H.po),λD=>⟨(H.w (F D).1).1.fr f λc hc=>g 5 (by omega) (F D).2 c ((H.w (F D).1).2 c hc),(H.w (F D).1).2⟩,λD=>(H.s (F D).1).fr f (g 6 (by omega) (F D).2),λD=>(H.f (F D).1).fr f (g 7 (by omega) (F D).2),λD=>(H.e (F D).1).fr f λc _=>g 8 (by omega) (F D).2 c,
  λD=>⟨(H.wk (F D).1).1.fr f λc _ hc=>g 9 (by omega) (F D).2 c ((H.wk (F D).1).2 c hc),(H.wk (F D).1).2⟩,λi hi D=>(H.ws i hi (F D).1).other f G (g (10+i) (by omega) (F D).2) W (dr.refl n),H.po,H.set.chg f G (W C.E rfl).1,⟨f.row p1 (G _ H.zl.1),p2.fr f λc _=>G c,p3.fr f λc _=>G c⟩,H.zl,H.sui,λc hc=>⟨Nat.lt_of_lt_of_le (H.ow c hc).1 f.1,(H.ow c hc).2⟩,H.ext.then_fr f λc hc=>(I c hc).2.1,H.few⟩
 obtain⟨Zl,o1,L,U⟩:=H.l (F D).1;exact⟨Zl,o1.fr f (λc _ hc=>g 3 (by omega) (F D).2 c (L c hc)) λc hc=>g 3 (by omega) (F D).2 c (U c hc),L,U⟩
theorem aL.chg (H:aL X C Z K h0 bw bp o n V P h){A:Nat→Prop}(D:¬A 0)(f:Fr (λc=>A (o c)) h h'):aL (λk=>X k∨A k) C Z K h0 bw bp o n V P h':=
 H.chgM f λc hc=>⟨.inl hc,(H.ow c λh=>D (h▸hc)).2⟩
theorem aL.less {Y:Nat→Prop}(H:aL X C Z K h0 bw bp o n V P h)(k:∀i,X i→Y i):aL Y C Z K h0 bw bp o n V P h:=
 ⟨λA=>H.q (A∘k _),λA=>H.c (A∘k _),λA=>H.l (A∘k _),λA=>H.p (A∘k _),λA=>H.w (A∘k _),λA=>H.s (A∘k _),λA=>H.f (A∘k _),λA=>H.e (A∘k _),λA=>H.wk (A∘k _),λi hi A=>H.ws i hi (A∘k _),H.po,H.set,H.pl,H.zl,H.sui,H.ow,H.ext,H.few⟩
theorem aL.loc (H:aL X C Z K h0 bw bp o n V P h){b:Nat}(u:Upd b h h')(D:o b=0∧h0.size≤b∧¬Z b∧xA (some C.E) b∧¬de (some C.E) b):aL X C Z K h0 bw bp o n V P h':=
 (H.chgM (A:=λ_=>False) u.fr λc hc=>by rw[show c=b from hc];exact⟨.inr D.1,D.2⟩).less λk F=>F.elim id False.elim
theorem aL.ex (H:aL X C Z K h0 bw bp o n V P h)(e:Ext h h'):aL X C Z K h0 bw bp o n V P h':=by
 obtain⟨W,D,p3⟩:=H.pl;have I2:gR h' (some C.E) n:=λE' I=>by cases I;exact⟨H.set.out.ext e,H.sui.1⟩
 refine⟨λA=>(H.q A).ext e,λA=>(H.c A).ext e,λA=>?_,λA=>e.row (H.p A),λA=>⟨(H.w A).1.fr (M:=λ_=>False) e.fr λ_ _=>id,(H.w A).2⟩,λA=>(H.s A).fr (M:=λ_=>False) e.fr λ_ _=>id,λA=>(H.f A).fr (M:=λ_=>False) e.fr λ_ _=>id,λA=>(H.e A).ext e,λA=>⟨(H.wk A).1.ext e,(H.wk A).2⟩,λi hi A=>(H.ws i hi A).ext e,H.po,H.set.ext e,⟨e.row W,D.ext e,p3.ext e⟩,H.zl,H.sui,λc hc=>⟨Nat.lt_of_lt_of_le (H.ow c hc).1 e.1,(H.ow c hc).2⟩,H.ext.trans e,H.few⟩;obtain⟨U,F,L,G⟩:=H.l A;exact⟨U,F.ext e,L,G⟩
def grow (o:Nat→Nat)(b lo hi:Nat):Nat→Nat:=λc=>if lo≤c∧c<hi then b else o c
theorem gq {b lo hi c:Nat}(h:c<lo):grow o b lo hi c=o c:=if_neg (by omega)
theorem aL.relab (H:aL X C Z K h0 bw bp o n V P h){B:Nat→Prop}{o':Nat→Nat}{lo:Nat}(e:∀c,c<lo→o' c=o c)(hl:∀c,lo≤c→o c=0)(hb:∀c,lo≤c→o' c≠0→B (o' c)∧c<h.size)(h1:h0.size≤lo)(h2:∀c,lo≤c→¬Z c∧xA (some C.E) c∧¬de (some C.E) c):aL (λk=>X k∨B k) C Z K h0 bw bp o' n V P h:=by
 have D:∀{k},¬(X k∨B k)→¬X k∧¬B k:=λh=>⟨λx=>h (.inl x),λx=>h (.inr x)⟩
 have g:∀k,¬B k→k≠0→∀c,o' c=k↔o c=k:=λk F h0 c=>by
  rcases Nat.lt_or_ge c lo with h|h
  ·rw[e c h]
  ·rw[hl c h];exact⟨λW=>absurd (by rw[←W];exact(hb c h (by omega)).1) F,λW=>absurd W.symm h0⟩
 have G:∀k,¬B k→k≠0→(λc=>o' c=k)=λc=>o c=k:=λk F h0=>funext λc=>propext (g k F h0 c)
 have gr:∀{k v l},¬B k→k≠0→qE o k h v l→qE o' k h v l:=λF h0 ⟨Z1,I,L,U⟩=>⟨Z1,I,λc hc=>(g _ F h0 c).2 (L c hc),λc hc=>(g _ F h0 c).2 (U c hc)⟩
 have lb:bp<lo:=Nat.lt_of_not_le λh=>by have:=hl bp h;have:=H.po;omega
 refine⟨λA=>by rw[G 1 (D A).2 (by omega)];exact H.q (D A).1,λA=>by rw[G 2 (D A).2 (by omega)];exact H.c (D A).1,λA=>?_,λA=>H.p (D A).1,λA=>⟨(H.w (D A).1).1,λc hc=>(g 5 (D A).2 (by omega) c).2 ((H.w (D A).1).2 c hc)⟩,λA=>gr (D A).2 (by omega) (H.s (D A).1),λA=>gr (D A).2 (by omega) (H.f (D A).1),λA=>by rw[G 8 (D A).2 (by omega)];exact H.e (D A).1,λA=>⟨(H.wk (D A).1).1,λc hc=>(g 9 (D A).2 (by omega) c).2 ((H.wk (D A).1).2 c hc)⟩,
  λi hi A=>by rw[G (10+i) (D A).2 (by omega)];exact H.ws i hi (D A).1,by rw[e bp lb];exact H.po,H.set,H.pl,H.zl,H.sui,λc hc=>?_,H.ext,H.few⟩
 ·obtain⟨Zl,I,L,U⟩:=H.l (D A).1;exact⟨Zl,I,λc hc=>(g 3 (D A).2 (by omega) c).2 (L c hc),λc hc=>(g 3 (D A).2 (by omega) c).2 (U c hc)⟩
 ·rcases Nat.lt_or_ge c lo with h|h
  ·rw[e c h]at hc;exact H.ow c hc
  ·exact⟨(hb c h hc).2,by omega,h2 c h⟩
theorem aL.own (H:aL X C Z K h0 bw bp o n V P h){b lo:Nat}(A:∀c,lo≤c→o c=0)(h1:h0.size≤lo)(F:∀c,lo≤c→¬Z c∧xA (some C.E) c∧¬de (some C.E) c):aL (λk=>X k∨k=b) C Z K h0 bw bp (grow o b lo h.size) n V P h:=
 H.relab (λc hc=>gq hc) A (λc hc h=>by
  unfold grow at h ⊢;split at h
  ·rename_i D;rw[if_pos D];exact⟨rfl,D.2⟩
  ·exact absurd (A c hc) h) h1 F
theorem aL.fresh (H:aL X C Z K h0 bw bp o n V P h){c:Nat}(hc:h.size≤c):o c=0∧¬Z c∧xA (some C.E) c∧¬de (some C.E) c:=by
 have F:gR h (some C.E) n:=λG A=>by cases A;exact⟨H.set.out,H.sui.1⟩
 refine⟨Classical.byContradiction λh=>?_,λD=>?_,F.new hc⟩
 ·have:=(H.ow c h).1;omega
 ·have:=H.set.zl c D;omega
theorem aL.take (H:aL X C Z K h0 bw bp o n V P h){F:PV}{P1:bR}{A:Pic}{D:Nat→Prop}(G:aL D C Z K h0 bw bp o A F P1 h'){b:Nat}:aL (λk=>D k∨k=b) C Z K h0 bw bp (grow o b h.size h'.size) A F P1 h':=
 G.own (λc hc=>(H.fresh hc).1) H.ext.1 λc hc=>(H.fresh hc).2
theorem aL.fq (H:aL (λk=>X k∨k=1) C Z K h0 bw bp o n V P h){q:QD}(hq:IsQ (λc=>o c=1) h C.bq q):aL X C Z K h0 bw bp o n V {P with q:=q} h:=
 have D:∀{k},¬X k→k≠1→¬(X k∨k=1):=λa b h=>h.elim a b
 ⟨λ_=>hq,λA=>H.c (D A (by omega)),λA=>H.l (D A (by omega)),λA=>H.p (D A (by omega)),λA=>H.w (D A (by omega)),λA=>H.s (D A (by omega)),λA=>H.f (D A (by omega)),λA=>H.e (D A (by omega)),λA=>H.wk (D A (by omega)),λi hi A=>H.ws i hi (D A (by omega)),H.po,H.set,H.pl,H.zl,H.sui,H.ow,H.ext,H.few⟩
theorem aL.fc (H:aL (λk=>X k∨k=2) C Z K h0 bw bp o n V P h){r:Nat→List Int}(hc:dX (λc=>o c=2) h V.vc (K+1) r):aL X C Z K h0 bw bp o n V {P with rows:=r} h:=
 have D:∀{k},¬X k→k≠2→¬(X k∨k=2):=λa b h=>h.elim a b
 ⟨λA=>H.q (D A (by omega)),λ_=>hc,λA=>H.l (D A (by omega)),λA=>H.p (D A (by omega)),λA=>H.w (D A (by omega)),λA=>H.s (D A (by omega)),λA=>H.f (D A (by omega)),λA=>H.e (D A (by omega)),λA=>H.wk (D A (by omega)),λi hi A=>H.ws i hi (D A (by omega)),H.po,H.set,H.pl,H.zl,H.sui,H.ow,H.ext,H.few⟩
theorem aL.fl (H:aL (λk=>X k∨k=3) C Z K h0 bw bp o n V P h)(G:X 4){sl:Value}{acc:List Acc}(I:∃F:Nat→Prop,Rp.Ow uh F h sl acc∧(∀c,F c→o c=3)∧∀c,blk sl c→o c=3):aL X C Z K h0 bw bp o n {V with sl:=sl} {P with acc:=acc} h:=
 have D:∀{k},¬X k→k≠3→¬(X k∨k=3):=λa b h=>h.elim a b
 ⟨λA=>H.q (D A (by omega)),λA=>H.c (D A (by omega)),λA=>I,λA=>absurd G A,λA=>H.w (D A (by omega)),λA=>H.s (D A (by omega)),λA=>H.f (D A (by omega)),λA=>H.e (D A (by omega)),λA=>H.wk (D A (by omega)),λi hi A=>H.ws i hi (D A (by omega)),H.po,H.set,H.pl,H.zl,H.sui,H.ow,H.ext,H.few⟩
theorem aL.fp (H:aL (λk=>X k∨k=4) C Z K h0 bw bp o n V P h){st:Int}{rt:Bool}{pk:Int}(F:h[bp]? =some (.cells (gn C V {P with sent:=st,ret:=rt,picks:=pk}) 197 (0,0))):aL X C Z K h0 bw bp o n V {P with sent:=st,ret:=rt,picks:=pk} h:=
 have D:∀{k},¬X k→k≠4→¬(X k∨k=4):=λa b h=>h.elim a b
 ⟨λA=>H.q (D A (by omega)),λA=>H.c (D A (by omega)),λA=>H.l (D A (by omega)),λ_=>F,λA=>H.w (D A (by omega)),λA=>H.s (D A (by omega)),λA=>H.f (D A (by omega)),λA=>H.e (D A (by omega)),λA=>H.wk (D A (by omega)),λi hi A=>H.ws i hi (D A (by omega)),H.po,H.set,H.pl,H.zl,H.sui,H.ow,H.ext,H.few⟩
theorem aL.fs (H:aL (λk=>X k∨k=6) C Z K h0 bw bp o n V P h)(G:X 4){sv:Value}{l:List (List Int)}(F:qE o 6 h sv l):aL X C Z K h0 bw bp o n {V with sv:=sv} {P with stamps:=l} h:=
 have D:∀{k},¬X k→k≠6→¬(X k∨k=6):=λa b h=>h.elim a b
 ⟨λA=>H.q (D A (by omega)),λA=>H.c (D A (by omega)),λA=>H.l (D A (by omega)),λA=>absurd G A,λA=>H.w (D A (by omega)),λ_=>F,λA=>H.f (D A (by omega)),λA=>H.e (D A (by omega)),λA=>H.wk (D A (by omega)),λi hi A=>H.ws i hi (D A (by omega)),H.po,H.set,H.pl,H.zl,H.sui,H.ow,H.ext,H.few⟩
theorem aL.ff (H:aL (λk=>X k∨k=7) C Z K h0 bw bp o n V P h)(G:X 4){lv:Value}{l:List (List Int)}(F:qE o 7 h lv l):aL X C Z K h0 bw bp o n {V with lv:=lv} {P with left:=l} h:=
 have D:∀{k},¬X k→k≠7→¬(X k∨k=7):=λa b h=>h.elim a b
 ⟨λA=>H.q (D A (by omega)),λA=>H.c (D A (by omega)),λA=>H.l (D A (by omega)),λA=>absurd G A,λA=>H.w (D A (by omega)),λA=>H.s (D A (by omega)),λ_=>F,λA=>H.e (D A (by omega)),λA=>H.wk (D A (by omega)),λi hi A=>H.ws i hi (D A (by omega)),H.po,H.set,H.pl,H.zl,H.sui,H.ow,H.ext,H.few⟩
theorem aL.fe (H:aL (λk=>X k∨k=8) C Z K h0 bw bp o n V P h)(G:X 4){ev:Value}{l:List Int}(F:Rp.Sl (Rp.int .i64) (λc=>o c=8) h ev l):aL X C Z K h0 bw bp o n {V with ev:=ev} {P with fin:=l} h:=
 have D:∀{k},¬X k→k≠8→¬(X k∨k=8):=λa b h=>h.elim a b
 ⟨λA=>H.q (D A (by omega)),λA=>H.c (D A (by omega)),λA=>H.l (D A (by omega)),λA=>absurd G A,λA=>H.w (D A (by omega)),λA=>H.s (D A (by omega)),λA=>H.f (D A (by omega)),λ_=>F,λA=>H.wk (D A (by omega)),λi hi A=>H.ws i hi (D A (by omega)),H.po,H.set,H.pl,H.zl,H.sui,H.ow,H.ext,H.few⟩
end
end
end Go.Proofs.YtcoimlclclnlkaaGreatDoor
namespace Go.Crisp
open Go
section
structure Cp {α:Type}(e:Rp α)(Z:Nat→Prop)(h0:af)(r:Option (Value×List α))(o:Option (Value×α))(g:af):Prop where
 ext:Ext h0 g
 zl:∀b,Z b→b<h0.size
 row:∀p,r=some p→Rp.Ow e Z g p.1 p.2∧∀b,blk p.1 b→h0.size≤b
 el:∀p,o=some p→(∃cs,SlC e.w g p.1 1 cs∧e.R Z g (Rp.el e.w cs 0) p.2)∧∀b,blk p.1 b→h0.size≤b∧b<g.size
 apart:∀p q,r=some p→o=some q→∀b,blk p.1 b→¬blk q.1 b
section
variable {α:Type}{e:Rp α}{Z:Nat→Prop}{h0 g:af}{r:Option (Value×List α)}{o:Option (Value×α)}{K:Value→af→Prop}
theorem Cp.start (h:af)(zl:∀b,Z b→b<h.size):Cp e Z h none none h:=⟨Ext.refl _,zl,by simp,by simp,by simp⟩
theorem Cp.row0 {t:TypeId}(C:Cp e Z h0 none o g)(H:∀v L,Cp e Z h0 (some (v,[])) o L→K v L):cF #[] t 0 [] g K:=by
 refine cH (c':=#[]) rfl λb L r1 F W=>H _ _ ⟨C.ext.trans F,C.zl,λp A=>?_,λp A=>?_,λp q A hq D G I=>?_⟩
 ·cases A;refine⟨⟨[],.inr ⟨b,0,[],t,rfl,Nat.le_refl _,by simp,by simp,r1⟩,λc hc U=>?_,λi hi=>absurd hi (by simp)⟩,λc hc=>?_⟩
  ·have h1:=C.zl c U;have:=C.ext.1;rw[show c=b from hc]at h1;omega
  ·rw[show c=b from hc];exact Nat.le_trans C.ext.1 W
 ·obtain⟨⟨cs,a,D⟩,c⟩:=C.el p A;exact⟨⟨cs,a.fr F.fr λ_ _ _=>id,e.ext D F⟩,λb G=>⟨(c b G).1,Nat.lt_of_lt_of_le (c b G).2 F.1⟩⟩
 ·cases A;have:=((C.el q hq).2 D I).2;rw[show D=b from G]at this;omega
theorem Cp.row1 {t:TypeId}{c:Array Value}{cs:List Value}{x:α}(C:Cp e Z h0 r none g)(D:e.R Z h0 cs x)(hc:c.size=e.w)(H:∀v G,Cp e Z h0 r (some (v,x)) G→K v G):cF c t 1 [(0,e.w,.agg cs.toArray)] g K:=by
 refine cH (Rp.fill_whole hc (e.len D)) λb G r1 I n1=>H _ _ ⟨C.ext.trans I,C.zl,λp A=>⟨(C.row p A).1.ext I,(C.row p A).2⟩,λp A=>?_,λp q A hq U W F=>?_⟩
 ·cases A;have L:=Rp.SlC.single r1;rw[e.len D]at L;refine⟨⟨cs,L,?_⟩,λk hk=>?_⟩
  ·rw[Rp.el_self (e.len D)];exact e.ext D (C.ext.trans I)
  ·rw[show k=b from hk];exact⟨Nat.le_trans C.ext.1 n1,aU r1⟩
 ·cases hq;have:=(C.row p A).1.lt W;rw[show U=b from F]at this;omega
theorem Cp.app {t:TypeId}{z v u:Value}{l l2:List α}{bytes:Nat}(C:Cp e Z h0 (some (v,l)) o g)(hu:Rp.Sl e Z h0 u l2)(W:z.cells.size=e.w)(A:(l.length+l2.length)*bytes≤140737488355328)(hn:l.length+l2.length≤9223372036854775807)
  (H:∀G L,Cp e Z h0 (some (G,l++l2)) o L→K G L):cG z t e.w bytes v u g K:=by
 obtain⟨o1,n1⟩:=C.row _ rfl;obtain⟨ds,hs,_,he⟩:=hu.ext C.ext;refine Rp.app_ow (l2:=l2) o1 hs he W A hn (λb A=>Nat.lt_of_lt_of_le (C.zl b A) C.ext.1) λG L o' I n'=>H G L ⟨C.ext.then_fr I n1,C.zl,λp D=>?_,λp D=>?_,λp q D hq b A F=>?_⟩
 ·cases D;refine⟨o',λb A=>?_⟩;rcases n' b A with h|h
  ·exact n1 b h
  ·exact Nat.le_trans C.ext.1 h
 ·obtain⟨⟨cs,a,b'⟩,c⟩:=C.el p D;obtain⟨aa,_,U,_⟩:=o1;refine⟨⟨cs,a.fr I λb _ A hv=>C.apart _ _ rfl D b hv A,e.fr b' I λb _ W A=>U b A W⟩,λb A=>⟨(c b A).1,Nat.lt_of_lt_of_le (c b A).2 I.1⟩⟩
 ·cases D;rcases n' b A with h|h
  ·exact C.apart _ _ rfl hq b h F
  ·have:=((C.el q hq).2 b F).2;omega
theorem Cp.app1 {t:TypeId}{z v u:Value}{l:List α}{x:α}{bytes:Nat}(C:Cp e Z h0 (some (v,l)) (some (u,x)) g)(L:z.cells.size=e.w)(F:(l.length+1)*bytes≤140737488355328)(hn:l.length+1≤9223372036854775807)
  (H:∀A D,Rp.Ow e Z D A (l++[x])→Ext h0 D→(∀b,blk A b→h0.size≤b)→K A D):cG z t e.w bytes v u g K:=by
 obtain⟨I,G⟩:=C.row _ rfl;obtain⟨⟨cs,a,W⟩,c⟩:=C.el _ rfl;refine Rp.app_ow (l2:=[x]) I a (λi hi=>?_) L F hn (λb F=>Nat.lt_of_lt_of_le (C.zl b F) C.ext.1) λA D o' U n'=>H A D o' (C.ext.then_fr U G) λb F=>?_
 ·have h0:i=0:=by simpa using hi
  subst h0;exact W
 rcases n' b F with h|h
 ·exact G b h
 ·exact Nat.le_trans C.ext.1 h
end
end
end Go.Crisp
namespace Go.Proofs.YtcoimlclclnlkaaGreatDoor
open Go Go.Crisp
attribute [local irreducible] ae cF aP stK aA vK qK bD gK dE aS mkK cG Cn DS Ad bsK clK qN lS R9
open _root_.Go.Proofs.Tryz
section
theorem Ct {h:af}{b:Nat}{v:Value}{m:Pic}(H:cA h b v m)(A:gu m.w m.h m.c):ae prog pM #[ptr b] h λr h'=>r=.int .i64 (m.w*m.h*m.c)∧h'=h:=by
 apply Na;unfold De;have D:=cq A;refine ae.at (nV H) (ae.at (lW H) ?_);simp only[go_sem];rw[w64 (n:=m.w*m.h) (by omega) (by omega)];refine ae.at (dC H) ?_;simp only[go_sem];rw[w64 (n:=m.w*m.h*m.c) (by omega) (by omega)];exact⟨rfl,trivial⟩
def eZ (C:C21)(Z:Nat→Prop)(K:Nat)(h0:af)(bw:Nat→Nat)(bp:Nat)(o:Nat→Nat)(n:Pic)(P:bR)(h:af):Prop:=∃V,aL (λ_=>False) C Z K h0 bw bp o n V P h
def PTo (C:C21)(Z:Nat→Prop)(K:Nat)(h0:af)(bw:Nat→Nat)(bp:Nat)(o:Nat→Nat)(h:af)(n':Pic)(P':bR)(h':af):Prop:=∃o',eZ C Z K h0 bw bp o' n' P' h'∧(∀c,c<h.size→o' c=o c)∧Fr (λc=>o c≠0∨de (some C.E) c) h h'
def qD (P:bR)(who:Nat)(buf lo cnt:Int)(wr:Bool):bR:={P with acc:=P.acc++[⟨who,P.rows who,buf,lo,lo+cnt,wr⟩]}
section
variable {C:C21}{Z:Nat→Prop}{K:Nat}{h0 h:af}{bw:Nat→Nat}{bp:Nat}{o:Nat→Nat}{n:Pic}{P:bR}
theorem eZ.row (H:eZ C Z K h0 bw bp o n P h):∃V,aL (λ_=>False) C Z K h0 bw bp o n V P h∧h[bp]? =some (.cells (gn C V P) 197 (0,0)):=by
 obtain⟨V,H⟩:=H;exact⟨V,H,H.p id⟩
theorem PTo.refl (H:eZ C Z K h0 bw bp o n P h):PTo C Z K h0 bw bp o h n P h:=⟨o,H,λ_ _=>rfl,Fr.refl _ _⟩
theorem eZ.ext {h':af}(H:eZ C Z K h0 bw bp o n P h)(e:Ext h h'):eZ C Z K h0 bw bp o n P h':=by
 obtain⟨V,H⟩:=H;exact⟨V,H.ex e⟩
theorem PTo.trans {A:Nat→Nat}{h1 G:af}{I F:Pic}{P1 D:bR}(a:eZ C Z K h0 bw bp A I P1 h1∧(∀c,c<h.size→A c=o c)∧Fr (λc=>o c≠0∨de (some C.E) c) h h1)(b:PTo C Z K h0 bw bp A h1 F D G):PTo C Z K h0 bw bp o h F D G:=by
 obtain⟨L,a1,f1⟩:=a;obtain⟨o2,H,a2,f2⟩:=b;have s:=f1.1;exact⟨o2,H,λc hc=>(a2 c (by omega)).trans (a1 c hc),f1.after f2 λc hc h=>h.imp (λh=>by rwa [a1 c hc]at h) id⟩
theorem Ps {r:Value}(A:aJ r=true)(a b c d:Int)(w:Bool):aE #[(.int .i64 0),(.slice none 0 0),(.int .i64 0),(.int .i64 0),(.int .i64 0),(.bool false)] [(0,1,.int .i64 a),(1,1,r),(2,1,.int .i64 b),(3,1,.int .i64 c),(4,1,.int .i64 d),(5,1,.bool w)]=some #[.int .i64 a,r,.int .i64 b,.int .i64 c,.int .i64 d,.bool w]:=by
 refine(bI (n:=1) (l:=[.int .i64 a]) rfl rfl (by simp)).trans ?_;refine(bI (n:=1) (l:=[r]) (bU A) rfl (by simp[bZ])).trans ?_;refine(bI (n:=1) (l:=[.int .i64 b]) rfl rfl (by simp[bZ])).trans ?_;refine(bI (n:=1) (l:=[.int .i64 c]) rfl rfl (by simp[bZ])).trans ?_;refine(bI (n:=1) (l:=[.int .i64 d]) rfl rfl (by simp[bZ])).trans ?_;refine(bI (n:=1) (l:=[.bool w]) rfl rfl (by simp[bZ])).trans ?_;rw[fB];simp[wrL]
theorem Cu (H:eZ C Z K h0 bw bp o n P h){who:Nat}(hw:who≤K){buf lo cnt:Int}{wr:Bool}(hl:P.acc.length≤1000000)(hb:0≤buf)(h1:0≤lo)(h2:1≤cnt)(h3:lo+cnt≤1000000000000):
  ae prog dd #[ptr bp,.int .i64 (who:Int),.int .i64 buf,.int .i64 lo,.int .i64 cnt,.bool wr] h λr h'=>r=.tuple #[]∧PTo C Z K h0 bw bp o h n (qD P who buf lo cnt wr) h':=by
 obtain⟨V,H,row⟩:=H.row;apply DL;unfold tz;have c4:aB h ⟨bp,4,none⟩=some V.vc:=ai row;refine aG (λk=>k=h) rfl ?_;simp only[go_sem,Nat.zero_add];refine ao V.vc (λk e=>by rw[e];exact c4) ?_;rw[w64 (n:=lo+cnt) (by omega) (by omega)];refine(X4 (H.c id) who).mono λr g1 ⟨U,F,n1⟩=>?_
 have D:GF (K+1) P.rows (who:Int)=P.rows who:=by
  unfold GF;rw[if_pos (by omega),Int.toNat_natCast]
 rw[D]at U;have aa:(P.rows who).length=K+1:=by
  obtain⟨bc,sl,sv,t,_,CA⟩:=H.c id;exact CA.len who (by omega)
 have hK:=H.few;rw[GV _ #[.int .i64 (who:Int),r,.int .i64 buf,.int .i64 lo,.int .i64 (lo+cnt),.bool wr] (Ps (Ae U) _ _ _ _ _)];have H1:=H.ex F;obtain⟨Zl,ol,W,z2⟩:=H1.l id;have I:=H.po;have L:V7 Zl g1 bp 5 (gn C V P) 197 V.sl P.acc:=⟨F.row row,rfl,ol,⟨λh=>by have:=z2 _ h;omega,λh=>by have:=W _ h;omega⟩,λc hc=>(H1.ow c (by rw[W c hc];omega)).1⟩
 refine(Y5 (a:=⟨who,P.rows who,buf,lo,lo+cnt,wr⟩) L ⟨r,rfl,U.ints⟩ (by show(P.rows who).length≤_;omega) hl (by simp[QQ];omega)).mono λ_ g2 ⟨s',Z',G,f2,n2,nz⟩=>?_
 have A0:Fr (λc=>(λk=>k=3∨k=4) (o c)) g1 g2:=f2.mono λc _ hc=>hc.elim (λh=>.inr (by rw[h];exact I)) λh=>.inl (z2 c h)
 have H2:=H.take ((H1.chg (A:=λk=>k=3∨k=4) (by omega) A0)) (b:=3);have s1:=F.1;have s2:=f2.1;have g3:∀c,blk s' c∨Z' c→grow o 3 h.size g2.size c=3:=λc hc=>by
  have lt:c<g2.size:=hc.elim (λh=>G.own.lt h) λh=>G.zlt c h
  unfold grow;split
  ·rfl
  ·rcases hc with h9|h9
   ·exact(n2 c h9).elim (z2 c) λh=>by omega
   ·exact(nz c h9).elim (W c) λh=>by omega
 have H3:=(H2.less (Y:=λk=>k=4∨k=3) λk hk=>by rcases hk with (h|h|h)|h<;>first|exact h.elim|exact .inr h|exact .inl h).fl (X:=λk=>k=4) rfl ⟨Z',G.own,λc hc=>g3 c (.inr hc),λc hc=>g3 c (.inl hc)⟩;have H4:=(H3.less (Y:=λk=>False∨k=4) λk hk=>.inr hk).fp (X:=λ_=>False) (st:=P.sent) (rt:=P.ret) (pk:=P.picks) G.var;exact⟨trivial,_,⟨_,H4⟩,λc hc=>gq hc,(F.fr (M:=λc=>o c≠0∨de (some C.E) c)).after A0 λc _ hc=>.inl (by rcases hc with h|h<;>omega)⟩
end
end
section
def gQ (C:C21)(K:Nat)(P:bR)(i:Int):Bool:=
 if i<0∨(K:Int)<i then false
 else if 0<i then decide ((P.ws (i-1).toNat).state=1∨((P.ws (i-1).toNat).state=0∧di P.q≠1))
 else if P.ret=true then false
 else if P.sent<bP C.d then decide (rP P.q≠1)
 else !P.q.closed||decide (P.left.length=K)
section
variable {C:C21}{Z:Nat→Prop}{K:Nat}{h0 h:af}{bw:Nat→Nat}{bp:Nat}{o:Nat→Nat}{n:Pic}{P:bR}
theorem SlC.len {w:Nat}{h:af}{v:Value}{n:Nat}{cs:List Value}(H:SlC w h v n cs):aq v=some (.int .i64 (n:Int)):=by
 obtain⟨a,c,e⟩:=H.isSl;rw[e];rfl
theorem qE.len {k:Nat}{v:Value}{l:List (List Int)}(H:qE o k h v l):aq v=some (.int .i64 (l.length:Int)):=by
 obtain⟨Z,A,_⟩:=H;obtain⟨a,c,e⟩:=A.isSl;rw[e];rfl
theorem aL.wat {X:Nat→Prop}{V:PV}(H:aL X C Z K h0 bw bp o n V P h)(A:¬X 9){i:Nat}(hi:i<K):∃p,aR 1 V.wv (.int .i64 (i:Int))=some p∧ldV h p=some (ptr (bw i)):=by
 obtain⟨p,a1,a2⟩:=(H.wk A).1.at1 (k:=.i64) hi;refine⟨p,a1,?_⟩;rw[a2];simp[hi]
theorem YR (H:eZ C Z K h0 bw bp o n P h):ae prog nU #[ptr bp] h λr h'=>r=.bool (decide (P.left.length=K))∧h'=h:=by
 obtain⟨V,H,row⟩:=H.row;apply DN;unfold tD;have G:aB h ⟨bp,6,none⟩=some V.wv:=ai row;have D:aB h ⟨bp,11,none⟩=some V.lv:=ai row;have F:=SlC.len (H.wk id).1;have A:=(H.f id).len;simp only[go_sem,Nat.zero_add,G,D,F,A];exact⟨by congr 1;simp;omega,trivial⟩
theorem Vs (O:C.Ok)(H:eZ C Z K h0 bw bp o n P h){i:Int}(hi:I64 i):ae prog jU #[ptr bp,.int .i64 i] h λr h'=>r=.bool (gQ C K P i)∧h'=h:=by
 have HP:=H;obtain⟨V,H,row⟩:=H.row;apply DJ;unfold tt;have D:aB h ⟨bp,6,none⟩=some V.wv:=ai row;have I:aB h ⟨bp,3,none⟩=some (ptr C.bq):=ai row;have L:aB h ⟨bp,12,none⟩=some (.bool P.ret):=ai row;have c8:aB h ⟨bp,8,none⟩=some (.int .i64 P.sent):=ai row;have c2:aB h ⟨bp,2,none⟩=some (ptr C.bl):=ai row;have U:=SlC.len (H.wk id).1;have hq:=H.q id;unfold gQ;unfold I64 at hi;by_cases h1:i<0
 ·simp only[go_sem,h1];exact⟨by simp,trivial⟩
 by_cases W:(K:Int)<i
 ·simp only[go_sem,Nat.zero_add,h1,D,U,W];exact⟨by simp,trivial⟩
 rw[if_neg (by omega)];by_cases F:0<i
 ·rw[if_pos F];simp only[go_sem,Nat.zero_add,h1,D,U,W,F];refine aG (λk=>k=h) rfl ?_;refine ao V.wv (λk e=>by rw[e];exact D) ?_;rw[w64 (n:=i-1) (by omega) (by omega)];obtain⟨m,hm⟩:∃m:Nat,i-1=(m:Int):=⟨(i-1).toNat,by omega⟩
  have A:m<K:=by omega
  obtain⟨p,a1,a2⟩:=H.wat id A;rw[hm,a1,ah];refine ao (ptr (bw m)) (λk e=>by rw[e];exact a2) ?_
  try simp only[go_sem,Nat.zero_add]
  refine ao (ptr C.bq) (λk e=>by rw[e];exact I) ?_;refine(Cv (H.ws m A id) hq).mono λr h' ⟨er,eh⟩=>?_
  subst eh;exact⟨by rw[er,Int.toNat_natCast],rfl⟩
 ·rw [if_neg F];simp only[go_sem,Nat.zero_add,h1,D,U,W,F,L];by_cases G:P.ret=true
  ·rw[if_pos G,G];simp only[go_sem];exact⟨trivial,trivial⟩
  ·rw[if_neg G];have h5:P.ret=false:=by simpa using G
   rw[h5];simp only[go_sem,Nat.zero_add];refine aG (λk=>k=h) rfl ?_;refine ao (.int .i64 P.sent) (λk e=>by rw[e];exact c8) ?_
   try simp only[go_sem,Nat.zero_add]
   refine ao (ptr C.bl) (λk e=>by rw[e];exact c2) ?_;refine ae.at (An H.pl O.d) ⟨rfl,?_⟩;rw[cj,ah];refine aj (λg=>?_) (λg=>?_)
   ·rw[if_pos g];simp only[go_sem,Nat.zero_add,I];exact Mn hq
   ·rw[if_neg g];simp only[go_sem,Nat.zero_add,I];refine ae.at (Me hq) ?_;cases hc:P.q.closed with
    |true=>
     simp only[go_sem];refine ae.at (YR HP) ?_;simp only[go_sem];exact⟨by simp,trivial⟩
    |false=>
     simp only[go_sem];exact⟨by simp,trivial⟩
end
end
section
def xz (C:C21)(K:Nat)(P:bR)(k:Nat):List Int:=((List.range k).map λi:Nat=>(i:Int)).filter λi=>gQ C K P i
theorem S9 (C:C21)(K:Nat)(P:bR)(k:Nat):xz C K P (k+1)=xz C K P k++if gQ C K P (k:Int)=true then[(k:Int)]else[]:=by
 unfold xz;rw[List.range_succ,List.map_append,List.filter_append]
 congr 1
 simp[List.filter_cons]
theorem HA (C:C21)(K:Nat)(P:bR)(k:Nat):(xz C K P k).length≤k:=by
 unfold xz;exact Nat.le_trans (List.length_filter_le _ _) (by simp)
section
variable {C:C21}{Z:Nat→Prop}{K:Nat}{h0 h:af}{bw:Nat→Nat}{bp:Nat}{o:Nat→Nat}{n:Pic}{P:bR}
theorem P3 (H:eZ C Z K h0 bw bp o n P h):ae prog iN #[ptr bp] h λr h'=>r=.int .i64 ((K+1:Nat):Int)∧h'=h:=by
 obtain⟨V,H,row⟩:=H.row;apply AA;unfold qx;have D:aB h ⟨bp,6,none⟩=some V.wv:=ai row;have A:=SlC.len (H.wk id).1;have F:=H.few;simp only[go_sem,Nat.zero_add,D,A];rw[w64 (n:=(K:Int)+1) (by omega) (by omega)];exact⟨rfl,trivial⟩
theorem zw (O:C.Ok)(H:eZ C Z K h0 bw bp o n P h):ae prog fg #[ptr bp] h λr h'=>New (Rp.int .i64) h h' r (xz C K P (K+1)):=by
 apply xH;unfold mN;have hk:K≤256:=by obtain⟨V,H⟩:=H;exact H.few.2
 refine ae.at (P3 H) ?_;refine bB (α:=Value) (K+1) 0 (λi v=>[v,.int .i64 (i:Int)]) (λi v g=>New (Rp.int .i64) h g v (xz C K P i)) (.slice none 0 0) rfl (Nat.zero_le _) (New.nil (Ext.refl _)) λi v g again ρ _ hi N D=>?_
 simp only[gJ,vy];rw[cj,ah];refine aj (λg1=>?_) (λg1=>?_)
 ·have A:i<K+1:=by omega
  have F:(i:Int)+1=((i+1:Nat):Int):=by omega
  have W:=HA C K P i;refine ae.at (Vs O (H.ext N.2.1) (by unfold I64;omega)) ?_;have G:=S9 C K P i;cases I:gQ C K P (i:Int)with
  |true=>
   rw[I,if_pos rfl]at G;rw[fP];refine New.push_int N rfl (by omega) (by omega) λL g2 U=>?_
   simp only[go_sem];rw[w64 (n:=(i:Int)+1) (by omega) (by omega),F];exact D L g2 A (by rw[G];exact U)
  |false=>
   rw[I]at G;rw[cf];simp only[go_sem];rw[w64 (n:=(i:Int)+1) (by omega) (by omega),F];exact D v g A (by rw[G];simpa using N)
 ·have:i=K+1:=by omega
  subst this;exact N
theorem JQ (H:eZ C Z K h0 bw bp o n P h):ae prog jI #[ptr bp] h λr h'=>r=.bool P.ret∧h'=h:=by
 obtain⟨V,H,row⟩:=H.row;apply xI;unfold mO;have c:aB h ⟨bp,12,none⟩=some (.bool P.ret):=ai row;simp only[go_sem,Nat.zero_add,c];exact⟨trivial,trivial⟩
theorem PQ (H:eZ C Z K h0 bw bp o n P h):ae prog mA #[ptr bp] h λr h'=>r=.int .i64 P.picks∧h'=h:=by
 obtain⟨V,H,row⟩:=H.row;apply BW;unfold rH;have c:aB h ⟨bp,13,none⟩=some (.int .i64 P.picks):=ai row;simp only[go_sem,Nat.zero_add,c];exact⟨trivial,trivial⟩
theorem wA (H:eZ C Z K h0 bw bp o n P h):ae prog fZ #[ptr bp] h λr h'=>(P.ret=false∧r=.tuple #[.pointer none,.bool false]∧h'=h)∨(P.ret=true∧∃p,r=.tuple #[p,.bool true]∧pU h h' p n):=by
 obtain⟨V,H,row⟩:=H.row;apply Az;unfold qw;have A:aB h ⟨bp,12,none⟩=some (.bool P.ret):=ai row;have D:aB h ⟨bp,1,none⟩=some (ptr C.bt):=ai row;simp only[go_sem,Nat.zero_add,A];cases P.ret with
 |false=>
  simp only[go_sem];exact .inl ⟨trivial,trivial,trivial⟩
 |true=>
  simp only[go_sem,Nat.zero_add,D];exact(Y3 H.set.out H.sui.1).mono λr h' N=>.inr ⟨trivial,r,rfl,N⟩
theorem RV {p:Value}{t:Tbl}(H:dZ Z h p t):aJ p=true:=by
 obtain⟨b,lv,rfl,_⟩:=H.open;rfl
theorem NG {b:Nat}{d:cK}{p q:Value}(H:pV Z h b d p q):ae prog gE #[ptr b] h λr h'=>r=.agg #[p,q,.int .i64 d.s.border]∧Ext h h':=by
 apply BX;unfold rJ;refine aC λG h1 r1 A D=>?_
 simp only[go_sem];rw[D0 (A.row H.row) 0 3 [p,q,.int .i64 d.s.border] rfl rfl,ah];refine ce (l:=[p,q,.int .i64 d.s.border]) r1 rfl (ak (RV H.x) (ak (RV H.y) (ak rfl aQ))) rfl λI r2 F=>?_
 rw[aI r2 3 rfl,ah];exact⟨rfl,A.upd D F⟩
end
end
end Go.Proofs.YtcoimlclclnlkaaGreatDoor
namespace Go.Proofs.YtcoimlclclnlkaaGreatDoor
open Go Go.Crisp
open _root_.Go.Proofs.Tryz
section
theorem clK12 {f:FuncId}{a D A:Value}{h:af}{K:Value→af→Prop}:clK prog (.func (.func f) #[] #[D,A]) #[a] h K=ae prog f #[a,D,A] h K:=rfl
attribute [local irreducible] ae cF aP stK aA vK qK bD gK dE aS mkK cG Cn DS Ad bsK clK qN lS R9
def pQ (C:C21)(x:Int):Int:=(jg (bX C.d.s.y.lines):Int)*(fJ ((aM C.d x).w*C.m.c):Int)
section
variable {X:Nat→Prop}{C:C21}{Z:Nat→Prop}{K:Nat}{h0 h g:af}{bw:Nat→Nat}{bp:Nat}{o:Nat→Nat}{n:Pic}{V:PV}{P:bR}{x:Int}
theorem YO (O:C.Ok)(G:dA h0)(H:aL X C Z K h0 bw bp o n V P g)(x4:¬X 4)(h1:0≤x)(W:x<bP C.d):ae prog nR #[ptr bp,.int .i64 x] g λr g2=>
  ∃L bj rv,r=ptr bj∧Ext g g2∧(∀c,L c→g.size≤c∧c<g2.size)∧ie Z L g2 (some C.E) n (ptr bj) (C.jo x)∧jm Z L g2 bj C.bf C.vf C.bt C.vt C.p C.q rv ⟨C.m,C.d.s,aM C.d x⟩ (aM C.d x).y (lnF C.d.s.y (aM C.d x).y) n (jg (bX C.d.s.y.lines)) (fJ ((aM C.d x).w*C.m.c)):=by
 have row:=H.p x4;apply DK;unfold tu;have c2:aB g ⟨bp,2,none⟩=some (ptr C.bl):=ai row;simp only[go_sem,Nat.zero_add,c2];refine ae.to (sf H.pl O.d h1 W) λg1 e1=>?_
 have x0:aF (.tuple #[.agg (cS (aM C.d x)).toArray,.bool true]) 0=some (.agg (cS (aM C.d x)).toArray):=rfl;have x1:aF (.tuple #[.agg (cS (aM C.d x)).toArray,.bool true]) 1=some (.bool true):=rfl;simp only[x0,x1,ah];refine cD (cs:=cS (aM C.d x)) rfl (iV _) rfl λb g2 r2 e2 n2=>?_
 have I:=e1.trans e2;have A:=I.row row;have H2:=H.ex I;refine aG (Ext g2) (Ext.refl _) ?_
 try simp only[go_sem,Nat.zero_add]
 refine ao (ptr C.bf) (λk e=>ai (e.row A)) ?_;refine ao (ptr C.bt) (λk e=>ai (e.row A)) ?_;refine ao (ptr C.bl) (λk e=>ai (e.row A)) ?_;refine ao (.agg (cS (aM C.d x)).toArray) (λk e=>aI (e.row r2) 10 rfl) ?_;refine(NG H2.pl).mono λr g3 ⟨U,F⟩=>?_
 subst U;refine⟨F,?_⟩;rw[H.zl.2.1,H.zl.2.2];have D:=H2.ex F;refine(Ss (G.ext D.ext) D.set O.m D.sui.1 O.s.wf).mono λr g4 HW=>?_
 obtain⟨bj,rv,U,e4,J,JS⟩:=RL.has O D.sui h1 W HW;subst U;have y0:aF (.tuple #[ptr bj,.int .i64 0]) 0=some (ptr bj):=rfl;have y1:aF (.tuple #[ptr bj,.int .i64 0]) 1=some (.int .i64 0):=rfl;simp only[go_sem,y0,y1,ne_eq,eqT,not_true,decide_false];have le:g.size≤g3.size:=(I.trans F).1;exact⟨_,bj,rv,rfl,(I.trans F).trans e4,λc hc=>hc.elim False.elim λh=>⟨by omega,h.2⟩,J,JS⟩
theorem WH (O:C.Ok)(G:dA h0)(H:aL X C Z K h0 bw bp o n V P g)(x4:¬X 4)(U:¬X 5)(h1:0≤x)(h2:x<bP C.d){W b3 k:Nat}{T1 T3:TypeId}(hk:k<K)(r1:g[W]? =some (.cells #[ptr bp] T1 (0,0)))(r3:g[b3]? =some (.cells #[.int .i64 ((k:Int)+1)] T3 (0,0))):
  clK prog (.func (.func fG) #[] #[ptr W,ptr b3]) #[.int .i64 x] g λr g2=>∃D,(∀c,D c→g.size≤c∧c<g2.size)∧ie Z D g2 (some C.E) n r (C.jo x)∧Fr (blk V.dv) g g2∧Own 1 g2 V.dv K ((List.range K).map λi=>.int .i64 (if i=k then pQ C x else P.words i)):=by
 rw[clK12];apply yT;unfold oR;have hK:=H.few;have c1:aB g ⟨W,0,none⟩=some (ptr bp):=ai r1;simp only[go_sem,c1];refine(YO O G H x4 h1 h2).mono λr g2 ⟨D,bj,rv,er,A,I,J,JS⟩=>?_
 subst er;rw[QB,ah,fP];have row:=A.row (H.p x4);have c7:aB g2 ⟨bp,7,none⟩=some V.dv:=ai row;refine aG (λk=>k=g2) rfl ?_;refine ao (ptr bp) (λk e=>by rw[e];exact ai (A.row r1)) ?_
 try simp only[go_sem,Nat.zero_add]
 refine ao V.dv (λk e=>by rw[e];exact c7) ?_;refine ao (.int .i64 ((k:Int)+1)) (λk e=>by rw[e];exact ai (A.row r3)) ?_;simp only[go_sem];rw[w64 (n:=(k:Int)+1-1) (by omega) (by omega),show(k:Int)+1-1=(k:Int)by omega];refine ae.at (JV JS) ⟨rfl,?_⟩;have o2:Own 1 g2 V.dv K ((List.range K).map λi=>Value.int .i64 (P.words i)):=(H.w U).1.fr (M:=λ_=>False) A.fr λ_ _=>id
 obtain⟨p,a1,a2,a3⟩:=Own.at_map o2 (k:=.i64) hk;rw[a1,ah];refine a3 _ _ λg3 o3 f3=>?_
 have F:∀c,blk V.dv c→c<g.size:=λc hc=>(H.w U).1.lt hc
 have L:∀c,blk V.dv c→o c=5:=(H.w U).2;have sz:=A.1;have J3:=J.other f3 (λc hz hc=>(H.ow c (by rw[L c hc];omega)).2.2.1 hz) (λc hb hc=>by have:=I c hb;have:=F c hc;omega) (λE' hE=>by cases hE;exact⟨((H.ex A).set.out).fr f3 (λhc=>(H.ow _ (by rw[L _ hc];omega)).2.2.2.1 rfl) λc hv hc=>(H.ow c (by rw[L c hc];omega)).2.2.2.2 hv,H.sui.1⟩) (dr.refl n);exact⟨D,λc hc=>⟨(I c hc).1,Nat.lt_of_lt_of_le (I c hc).2 f3.1⟩,J3,A.after f3,o3⟩
end
end
end Go.Proofs.YtcoimlclclnlkaaGreatDoor
namespace Go.Proofs.YtcoimlclclnlkaaGreatDoor
open Go Go.Crisp
attribute [local irreducible] ae cF aP stK aA vK qK bD gK dE aS mkK cG Cn DS Ad bsK clK qN lS R9
open _root_.Go.Proofs.Tryz
section
theorem IsW.bmono {Z B B':Nat→Prop}{h:af}{bw:Nat}{E:Option WE}{n:Pic}{w:WD}(H:IsW Z B h bw E n w)(A:∀c,B c→B' c)(L:∀c,B' c→c<h.size)(F:∀c,B' c→¬Z c∧xA E c∧¬de E c):IsW Z B' h bw E n w:=by
 obtain⟨⟨tv,U,D,r,o,J,a1,a2,a3⟩,G,b2,W,zl,I,st⟩:=H;exact⟨⟨tv,U,D,r,o,J,λc hc=>⟨A c (a1 c hc).1,(a1 c hc).2⟩,λc hc=>A c (a2 c hc),a3⟩,A _ G,L,F,zl,I,st⟩
theorem IsQ.bmono {Q Q':Nat→Prop}{h:af}{b:Nat}{d:QD}(H:IsQ Q h b d)(A:∀c,Q c→Q' c)(D:∀c,Q' c→c<h.size):IsQ Q' h b d:=by
 obtain⟨⟨v,r,o,c,n,s⟩,qb,ql,w⟩:=H;exact⟨⟨v,r,o,c,n,λc hc=>A c (s c hc)⟩,A _ qb,D,w⟩
theorem dX.bmono {M M':Nat→Prop}{h:af}{v:Value}{n:Nat}{rows:Nat→List Int}(H:dX M h v n rows)(A:∀c,M c→M' c)(F:∀c,M' c→c<h.size):dX M' h v n rows:=by
 obtain⟨D,sl,sv,t,e,L⟩:=H;exact⟨D,sl,sv,t,e,L.var,L.arr,L.row,L.len,L.pos,⟨A _ L.inM.1,λb hc=>A b (L.inM.2.1 b hc),λi hi b hc=>A b (L.inM.2.2 i hi b hc)⟩,L.ap1,L.ap2,L.ap3,F⟩
def gY (C:C21)(P:bR)(k:Nat):bR:=
 {P with q:=(cE (some C.E) (C.jo (bN P.q)) (P.ws k) P.q).2.1,ws:=λi=>if i=k then(cE (some C.E) (C.jo (bN P.q)) (P.ws k) P.q).1 else P.ws i,words:=λi=>if i=k∧(P.ws k).state=0∧di P.q=0 then pQ C (bN P.q)else P.words i}
section
variable {C:C21}{Z:Nat→Prop}{K:Nat}{h0 h:af}{bw:Nat→Nat}{bp:Nat}{o:Nat→Nat}{n:Pic}{V:PV}{P:bR}
theorem St (O:C.Ok)(G:dA h0)(H:aL (λ_=>False) C Z K h0 bw bp o n V P h){k:Nat}(hk:k<K){b1 b3:Nat}{T1 T3:TypeId}(r1:h[b1]? =some (.cells #[ptr bp] T1 (0,0)))(r3:h[b3]? =some (.cells #[.int .i64 ((k:Int)+1)] T3 (0,0)))(p1:o b1=0)(p3:o b3=0)(ht:(P.ws k).tiles.length≤1000000)(hb:∀c,de (some C.E) c→h0.size≤c)
  (hx:sU (P.ws k) P.q→0≤bN P.q∧bN P.q<bP C.d):
  ae prog cg #[ptr (bw k),ptr C.bq,.func (.func fG) #[] #[ptr b1,ptr b3]] h λr h'=>r=evV (cE (some C.E) (C.jo (bN P.q)) (P.ws k) P.q).2.2∧
   ∃n' o',aL (λ_=>False) C Z K h0 bw bp o' n' V (gY C P k) h'∧(∀c,c<h.size→o' c=o c)∧Fr (λc=>(o c=10+k∨o c=1∨o c=5)∨de (some C.E) c) h h'∧zW (some C.E) (P.ws k) n n':=by
 have W:=H.ws k hk id;have Q:=H.q id;obtain⟨L,F⟩:=H.w id;have U:∀c,blk V.dv c→c<h.size:=λc hc=>L.lt hc
 have ab:∀c,o c≠0→¬de (some C.E) c:=λc hc=>(H.ow c hc).2.2.2.2
 refine(Sr (jo:=C.jo (bN P.q)) (Qo:=blk V.dv) (P0:=λg=>Own 1 g V.dv K ((List.range K).map λi=>Value.int .i64 (P.words i))) (P1:=λg=>Own 1 g V.dv K ((List.range K).map λi=>Value.int .i64 (if i=k then pQ C (bN P.q)else P.words i))) W Q ht (λtk=>.inr ⟨rfl,λh1 f1 w1=>?_⟩) (λc hc h=>by omega) (λc hc=>(H.ow c (by omega)).2.2) (λc hc=>?_) (λg g' f=>?_) L).mono λr h' ⟨er,⟨⟨n',B',Q',W',q',j1,j2,j3,Dr⟩,f⟩,al,aa⟩=>?_
 ·have f2:Fr (λc=>(λj=>j=10+k∨j=1) (o c)) h h1:=f1;have H1:=H.chg (A:=λj=>j=10+k∨j=1) (by omega) f2;have nx:∀{j},j≠10+k→j≠1→¬(False∨(j=10+k∨j=1)):=λa b h=>by rcases h with h|h|h<;>first|exact h|exact a h|exact b h
  exact WH O G H1 (nx (by omega) (by omega)) (nx (by omega) (by omega)) (hx tk).1 (hx tk).2 hk (f1.row r1 (by omega)) (f1.row r3 (by omega))
 ·have h5:=F c hc;have:=H.ow c (by omega);exact⟨this.1,by omega,by omega,this.2.2⟩
 ·have q:∀c,blk V.dv c→¬(de (some C.E) c∨o c=10+k∨o c=1∨h.size≤c):=λc hc hh=>by
   have h5:=F c hc;have:=U c hc;rcases hh with hh|hh
   ·exact ab c (by omega) hh
   ·omega
  exact⟨λw=>w.fr f q,λw=>w.fr f q⟩
 ·have f2:Fr (λc=>(λj=>j=10+k∨j=1∨j=5) (o c)∨de (some C.E) c) h h':=f.mono λc _ hc=>by
   rcases hc with hc|hc|hc|hc
   ·exact .inr hc
   ·exact .inl (.inl hc)
   ·exact .inl (.inr (.inl hc))
   ·exact .inl (.inr (.inr (F c hc)))
  have sz:=f.1;have H2:=H.chgO (A:=λj=>j=10+k∨j=1∨j=5) (by omega) hb f2 W'.out Dr.1;have Bl:=W'.bl;have Ql:=q'.ql;obtain⟨o',oo,on,ob,oq⟩:∃o':Nat→Nat,(∀c,c<h.size→o' c=o c)∧(∀c,h.size≤c→o' c≠0→(o' c=10+k∨o' c=1)∧c<h'.size)∧(∀c,B' c→o' c=10+k)∧∀c,Q' c→o' c=1:=by
   classical
   refine⟨λc=>if c<h.size then o c else if B' c then 10+k else if Q' c then 1 else 0,λc hc=>if_pos hc,λc hc h1=>?_,λc hc=>?_,λc hc=>?_⟩
   ·have I:¬c<h.size:=by omega
    simp only[if_neg I]at h1 ⊢;by_cases b:B' c
    ·simp only[if_pos b];exact⟨.inl trivial,Bl c b⟩
    ·simp only[if_neg b]at h1 ⊢;by_cases q:Q' c
     ·simp only[if_pos q];exact⟨.inr trivial,Ql c q⟩
     ·simp only[if_neg q]at h1;exact absurd rfl h1
   ·by_cases I:c<h.size
    ·simp only[if_pos I];exact(j1 c hc).elim id λh=>by omega
    ·simp only[if_neg I,if_pos hc]
   ·have nb:¬B' c:=λhb=>j3 c hb hc
    by_cases I:c<h.size
    ·simp only[if_pos I];exact(j2 c hc).elim id λh=>by omega
    ·simp only[if_neg I,if_neg nb,if_pos hc]
  have D:=H2.relab (B:=λj=>j=10+k∨j=1) (o':=o') oo (λc hc=>(H.fresh hc).1) on H.ext.1 λc hc=>(H.fresh hc).2
  have q3:IsQ (λc=>o' c=1) h' C.bq _:=q'.bmono oq λc hc=>(D.ow c (by rw[hc];omega)).1
  have W3:IsW Z (λc=>o' c=10+k) h' (bw k) (some C.E) n' _:=W'.bmono ob (λc hc=>(D.ow c (by rw[hc];omega)).1) λc hc=>(D.ow c (by rw[hc];omega)).2.2
  have w3:Own 1 h' V.dv K ((List.range K).map λi=>Value.int .i64 ((gY C P k).words i)):=by
   by_cases tk:(P.ws k).state=0∧di P.q=0
   ·have e:(λi=>Value.int .i64 ((gY C P k).words i))=λi=>Value.int .i64 (if i=k then pQ C (bN P.q)else P.words i):=by
     funext i
     show Value.int .i64 (if i=k∧(P.ws k).state=0∧di P.q=0 then _ else _)=_;by_cases hi:i=k
     ·rw[if_pos ⟨hi,tk⟩,if_pos hi]
     ·rw[if_neg (λh=>hi h.1),if_neg hi]
    rw[e];exact al tk
   ·have e:(λi=>Value.int .i64 ((gY C P k).words i))=λi=>Value.int .i64 (P.words i):=by
     funext i
     show Value.int .i64 (if i=k∧(P.ws k).state=0∧di P.q=0 then _ else _)=_;rw[if_neg λh=>tk h.2]
    rw[e];exact aa tk
  have ad:∀c,blk V.dv c→o' c=5:=λc hc=>by rw[oo c (U c hc)];exact F c hc
  have nx:∀{j},j≠10+k→j≠1→j≠5→¬((False∨(j=10+k∨j=1∨j=5))∨(j=10+k∨j=1)):=λa b c h=>by rcases h with (h|h|h|h)|h|h<;>first|exact h|exact a h|exact b h|exact c h
  refine⟨er,n',o',⟨λ_=>q3,λ_=>D.c (nx (by omega) (by omega) (by omega)),λ_=>D.l (nx (by omega) (by omega) (by omega)),λ_=>D.p (nx (by omega) (by omega) (by omega)),λ_=>⟨w3,ad⟩,λ_=>D.s (nx (by omega) (by omega) (by omega)),λ_=>D.f (nx (by omega) (by omega) (by omega)),λ_=>D.e (nx (by omega) (by omega) (by omega)),λ_=>D.wk (nx (by omega) (by omega) (by omega)),λi hi _=>?_,D.po,D.set,D.pl,D.zl,D.sui,D.ow,D.ext,D.few⟩,oo,f2,Dr⟩;by_cases he:i=k
  ·subst he;show IsW Z _ h' _ _ n' (if i=i then _ else _);rw[if_pos rfl];exact W3
  ·show IsW Z _ h' _ _ n' (if i=k then _ else _);rw[if_neg he];exact D.ws i hi (nx (by omega) (by omega) (by omega))
end
end
section
def we (C:C21)(P:bR)(k:Nat)(e:EvD):bR:=
 if e.2.2.1=1 then qD (qD P (k+1) 0 (atZ C.d.s.border e.2.2.2 C.m.h*(C.m.w*C.m.c)) (C.m.w*C.m.c) false) (k+1) (k+2) 0 (P.words k) true
 else qD (qD P (k+1) (k+2) 0 (P.words k) false) (k+1) 1 ((e.2.2.2*C.d.X+(aM C.d e.2.1).x)*C.m.c) ((aM C.d e.2.1).w*C.m.c) true
section
variable {C:C21}{Z:Nat→Prop}{K:Nat}{h0 h:af}{bw:Nat→Nat}{bp:Nat}{o:Nat→Nat}{n:Pic}{P:bR}
theorem Xu (O:C.Ok)(H:eZ C Z K h0 bw bp o n P h){k:Nat}(hk:k<K){e:EvD}(hl:P.acc.length≤999999)(hx:0≤e.2.1∧e.2.1<bP C.d)(hr:I64 e.2.2.2)(hy:e.2.2.1≠1→0≤e.2.2.2∧e.2.2.2<C.d.Y)(hw:1≤P.words k∧P.words k≤100000000000):
  ae prog mz #[ptr bp,.int .i64 ((k:Int)+1),evV e] h λr h'=>r=.tuple #[]∧PTo C Z K h0 bw bp o h n (we C P k e) h':=by
 obtain⟨ek,G,W,D⟩:=e;have HP:=H;obtain⟨V,H,row⟩:=H.row;apply BU;unfold rF;have x0:aF (.tuple #[.agg (cS (aM C.d G)).toArray,.bool true]) 0=some (.agg (cS (aM C.d G)).toArray):=rfl;have x1:aF (.tuple #[.agg (cS (aM C.d G)).toArray,.bool true]) 1=some (.bool true):=rfl;refine aC λb1 h1 r1 e1 n1=>?_
 have r1:h1[b1]? =some (.cells #[.int .i64 ek,.int .i64 G,.int .i64 W,.int .i64 D] 99 (0,0)):=r1;refine aV (λxs g=>∃bt,xs=[ptr bt]∧h.size≤bt∧Ext h1 g∧g[bt]? =some (.cells (cS (aM C.d G)).toArray 65 (0,0))) ?_ ?_
 ·refine aG (Ext h1) (Ext.refl _) ?_;simp only[go_sem,Nat.zero_add];refine ao (ptr C.bl) (λg e=>ai (e.row (e1.row row))) ?_;refine ao (.int .i64 G) (λg e=>ai (e.row r1)) ?_;have one:∀v∈cS (aM C.d G),aJ v=true:=iV _;refine⟨?_,?_⟩
  ·refine ae.to (sf (H.ex e1).pl O.d hx.1 hx.2) λg2 I=>⟨I,?_⟩
   simp only[x0,x1,ah];refine aC λbt g3 r3 L n3=>⟨I.trans L,?_⟩
   refine ce (l:=cS (aM C.d G)) r3 rfl one rfl λg4 r4 u4=>?_
   have E:=(I.trans L).upd (Nat.le_trans I.1 n3) u4;have s1:=e1.1;have s2:=I.1;exact⟨E,bt,rfl,by omega,E,r4⟩
  ·refine aC λbt g2 r2 I n2=>⟨I,?_⟩
   refine ae.to (sf ((H.ex e1).ex I).pl O.d hx.1 hx.2) λg3 L=>⟨I.trans L,?_⟩
   simp only[x0,x1,ah];refine ce (l:=cS (aM C.d G)) (L.row r2) rfl one rfl λg4 r4 u4=>?_
   have E:=(I.trans L).upd n2 u4;have s1:=e1.1;exact⟨E,bt,rfl,by omega,E,r4⟩
 rintro xs ρ g ⟨bt,rfl,ar,I,rt⟩;have E:=e1.trans I;have rg:=I.row r1;have F:=E.row row;have c7:aB g ⟨bp,7,none⟩=some V.dv:=ai F;have c1:aB g ⟨bp,1,none⟩=some (ptr C.bt):=ai F;have m2:aB g ⟨b1,2,none⟩=some (.int .i64 W):=ai rg;have hK:=H.few;have Hg:=H.ex E;have U:=HP.ext E;simp only[gJ,go_sem,Nat.zero_add,c7];rw[w64 (n:=(k:Int)+1-1) (by omega) (by omega),show(k:Int)+1-1=(k:Int)by omega];obtain⟨p,a1,a2,_⟩:=Own.at_map (Hg.w id).1 (k:=.i64) hk;rw[a1,ah,a2,ah,m2,ah,si,ah];have bf:=cq O.m.fits;have sui:=H.sui.2;obtain⟨s1,s2,s3,s4,s5⟩:=sui;have who:((k:Int)+1)=((k+1:Nat):Int):=by omega
 have ab:∀{h'} {P'},PTo C Z K h0 bw bp o g n P' h'→PTo C Z K h0 bw bp o h n P' h':=λ{h' P'} T=>PTo.trans (h1:=g) ⟨U,λ_ _=>rfl,E.fr⟩ T
 refine aj (λhm=>?_) (λhm=>?_)
 ·have hm:W=1:=hm;subst hm;refine aG (λk=>k=g) rfl ?_;refine ao (ptr C.bf) (λk e=>by rw[e];exact ai F) ?_;refine ao (ptr C.bf) (λk e=>by rw[e];exact ai F) ?_;refine ae.at (nV Hg.set.src) ⟨rfl,?_⟩;refine ae.at (dC Hg.set.src) ?_;have wc:1≤C.m.w*C.m.c∧C.m.w*C.m.c≤65536*3:=⟨Int.mul_pos (by omega) (by omega),Int.mul_le_mul (by omega) (by omega) (by omega) (by omega)⟩
  simp only[go_sem];rw[w64 (n:=C.m.w*C.m.c) (by omega) (by omega)];refine aG (Ext g) (Ext.refl _) ?_;refine ao (ptr C.bl) (λk e=>ai (e.row F)) ?_
  try simp only[go_sem,Nat.zero_add]
  refine ao (.int .i64 D) (λk e=>ai (e.row rg)) ?_
  try simp only[go_sem,Nat.zero_add]
  refine ao (ptr C.bf) (λk e=>ai (e.row F)) ?_;refine(NG Hg.pl).mono λr g3 ⟨er,L⟩=>?_
  subst er;refine⟨L,?_⟩;have pv:mT false 1 2 (.agg #[C.pp,C.pq,.int .i64 C.d.s.border])=some (.int .i64 C.d.s.border):=rfl;rw[pv,ah];have H3:=Hg.ex L;refine ae.at (lW H3.set.src) ⟨L,?_⟩;refine ae.at (sh hr) ?_;have ha:=Y8 (p:=C.d.s.border) (j:=D) (n:=C.m.h) (by omega) (by omega);have aw:=kT (a:=atZ C.d.s.border D C.m.h) (A:=65536) (b:=C.m.w*C.m.c) (B:=65536*3) (by omega) (by omega) (by omega) (by omega);simp only[go_sem];rw[w64 (n:=atZ C.d.s.border D C.m.h*(C.m.w*C.m.c)) (by omega) (by omega),who];refine(Cu (U.ext L) (who:=k+1) (by omega) (by omega) (by omega) aw.1 wc.1 (by omega)).mono λr g4 ⟨er,o4,H4,q4,f4⟩=>?_
  rw[w64 (n:=1+((k+1:Nat):Int)) (by omega) (by omega),show 1+((k+1:Nat):Int)=(k:Int)+2 by omega];refine(Cu H4 (who:=k+1) (by omega) (by simp[qD];omega) (by omega) (by omega) hw.1 (by omega)).mono λr g5 ⟨er,T⟩=>?_
  have T2:=PTo.trans (h1:=g4) ⟨H4,q4,f4⟩ T;have T3:=PTo.trans (h1:=g3) (P1:=P) ⟨U.ext L,λ_ _=>rfl,L.fr⟩ T2;refine⟨trivial,?_⟩;unfold we;rw[if_pos rfl];exact ab T3
 ·have hy:0≤D∧D<C.d.Y:=hy hm;rw[c1,ah];refine ae.at (dC Hg.set.out) ?_;rw[w64 (n:=1+((k:Int)+1)) (by omega) (by omega),show 1+((k:Int)+1)=(k:Int)+2 by omega,who];refine(Cu U (who:=k+1) (by omega) (by omega) (by omega) (by omega) hw.1 (by omega)).mono λr g4 ⟨er,o4,H4,q4,f4⟩=>?_
  have nf:∀{c},h.size≤c→¬(o c≠0∨de (some C.E) c):=λhc h=>h.elim (λh=>h (H.fresh hc).1) (H.fresh hc).2.2.2
  have an:=f4.row rg (nf n1);have ad:=f4.row rt (nf ar);obtain⟨V4,B4,aa⟩:=H4.row;have wf:=jw O.d (i:=G) hx.1 hx.2;unfold dO at wf;refine aG (λk=>k=g4) rfl ?_;refine ao (.int .i64 D) (λk e=>by rw[e];exact ai an) ?_
  try simp only[go_sem,Nat.zero_add]
  refine ao (ptr C.bt) (λk e=>by rw[e];exact ai aa) ?_
  try simp only[go_sem,Nat.zero_add]
  refine ao (.int .i64 (aM C.d G).x) (λk e=>by rw[e];exact ai ad) ?_
  try simp only[go_sem,Nat.zero_add]
  refine ao (.int .i64 (aM C.d G).w) (λk e=>by rw[e];exact ai ad) ?_;have bd:=cK.bd O.d;have wX:(aM C.d G).x+(aM C.d G).w≤C.d.X:=by show _≤((C.d.s.x.lines.length:Nat):Int);omega
  have nc:n.c=C.m.c:=s4;have ay:=kT (a:=(aM C.d G).w) (A:=65536) (b:=C.m.c) (B:=3) (by omega) (by omega) (by omega) (by omega);have au:1≤(aM C.d G).w*C.m.c:=Int.mul_pos (by omega) (by omega);have ax:=kT (a:=D) (A:=65536) (b:=C.d.X) (B:=65536) (by omega) (by omega) (by omega) (by omega);have al:=kT (a:=D*C.d.X+(aM C.d G).x) (A:=65536*65536+65536) (b:=C.m.c) (B:=3) (by omega) (by omega) (by omega) (by omega);rw[nc];simp only[go_sem];rw[w64 (n:=(aM C.d G).w*C.m.c) (by omega) (by omega)];refine ae.at (nV B4.set.out) ⟨rfl,?_⟩;rw[show n.w=C.d.X from s2];simp only[go_sem];rw[w64 (n:=D*C.d.X) (by omega) (by omega),w64 (n:=D*C.d.X+(aM C.d G).x) (by omega) (by omega),w64 (n:=(D*C.d.X+(aM C.d G).x)*C.m.c) (by omega) (by omega)];refine(Cu H4 (who:=k+1) (by omega) (by simp[qD];omega) (by omega) al.1 au (by omega)).mono λr g5 ⟨er,T⟩=>?_
  have T2:=PTo.trans (h1:=g4) ⟨H4,q4,f4⟩ T;refine⟨trivial,?_⟩;unfold we;rw[if_neg hm];exact ab T2
end
end
section
section
variable {C:C21}{Z:Nat→Prop}{K:Nat}{h0 g g1 g2:af}{bw:Nat→Nat}{bp:Nat}{o:Nat→Nat}{n:Pic}{V:PV}{P:bR}
theorem aL.setrow (H:aL (λ_=>False) C Z K h0 bw bp o n V P g)(u:Upd bp g g1){st:Int}{rt:Bool}{pk:Int}(r:g1[bp]? =some (.cells (gn C V {P with sent:=st,ret:=rt,picks:=pk}) 197 (0,0))):aL (λ_=>False) C Z K h0 bw bp o n V {P with sent:=st,ret:=rt,picks:=pk} g1:=by
 have D:=H.po;exact(H.chg (A:=λk=>k=4) (by omega) (u.fr.mono λc _ hc=>by rw[show c=bp from hc];exact D)).fp r
theorem aL.putS (H:aL (λk=>k=6) C Z K h0 bw bp o n V P g){s:Value}{l:List (List Int)}(F:qE o 6 g s l)(u:Upd bp g g1)(r:g1[bp]? =some (.cells (gn C {V with sv:=s} P) 197 (0,0))):aL (λ_=>False) C Z K h0 bw bp o n {V with sv:=s} {P with stamps:=l} g1:=by
 have G:=H.po;have f:Fr (λc=>(λk=>k=4) (o c)) g g1:=u.fr.mono λc _ hc=>by rw[show c=bp from hc];exact G
 have I:=(H.chg (A:=λk=>k=4) (by omega) f).less (Y:=λk=>k=4∨k=6) λk D=>D.symm
 have L:=I.fs (X:=λk=>k=4) rfl (F.fr f λc hc h=>by have h:o c=4:=h;omega);exact(L.less (Y:=λk=>False∨k=4) λk D=>.inr D).fp (X:=λ_=>False) (st:=P.sent) (rt:=P.ret) (pk:=P.picks) r
theorem aL.putL (H:aL (λk=>k=7) C Z K h0 bw bp o n V P g){s:Value}{l:List (List Int)}(F:qE o 7 g s l)(u:Upd bp g g1)(r:g1[bp]? =some (.cells (gn C {V with lv:=s} P) 197 (0,0))):aL (λ_=>False) C Z K h0 bw bp o n {V with lv:=s} {P with left:=l} g1:=by
 have G:=H.po;have f:Fr (λc=>(λk=>k=4) (o c)) g g1:=u.fr.mono λc _ hc=>by rw[show c=bp from hc];exact G
 have I:=(H.chg (A:=λk=>k=4) (by omega) f).less (Y:=λk=>k=4∨k=7) λk D=>D.symm
 have L:=I.ff (X:=λk=>k=4) rfl (F.fr f λc hc h=>by have h:o c=4:=h;omega);exact(L.less (Y:=λk=>False∨k=4) λk D=>.inr D).fp (X:=λ_=>False) (st:=P.sent) (rt:=P.ret) (pk:=P.picks) r
theorem aL.putE (H:aL (λk=>k=8) C Z K h0 bw bp o n V P g){s:Value}{l:List Int}(F:Rp.Sl (Rp.int .i64) (λc=>o c=8) g s l)(u:Upd bp g g1)(r:g1[bp]? =some (.cells (gn C {V with ev:=s} P) 197 (0,0))):aL (λ_=>False) C Z K h0 bw bp o n {V with ev:=s} {P with fin:=l} g1:=by
 have G:=H.po;have f:Fr (λc=>(λk=>k=4) (o c)) g g1:=u.fr.mono λc _ hc=>by rw[show c=bp from hc];exact G
 have I:=(H.chg (A:=λk=>k=4) (by omega) f).less (Y:=λk=>k=4∨k=8) λk D=>D.symm
 have L:=I.fe (X:=λk=>k=4) rfl (F.fr f λc _ hc h=>by have h:o c=4:=h;omega);exact(L.less (Y:=λk=>False∨k=4) λk D=>.inr D).fp (X:=λ_=>False) (st:=P.sent) (rt:=P.ret) (pk:=P.picks) r
theorem UV {o:Nat→Nat}{j k lo hi:Nat}(h:∀c,lo≤c→o c=0)(F:k≠j)(D:k≠0):(λc=>grow o j lo hi c=k)=λc=>o c=k:=by
 funext c
 refine propext ?_;unfold grow;split
 ·rename_i A;rw[h c A.1];omega
 ·exact Iff.rfl
theorem aL.rs_push (H:aL (λ_=>False) C Z K h0 bw bp o n V P g){j:Nat}(hj:j≠0∧j≠2){v:Value}{l:List (List Int)}(HR:qE o j g v l){rows:Nat→List Int}{r:Value}{x:List Int}(o1:iT g1 r x)(c1:dX (λc=>o c=2) g1 V.vc (K+1) rows)(f1:Fr (λc=>o c=2) g g1)(n1:∀b,blk r b→g.size≤b)
  {Q:af→Prop} {z z':Value} {t t':TypeId} {K':Value→af→Prop} (F:z.cells.size=1) (hl:l.length≤1000000000) (hQ:∀h',Ext g1 h'→Q h')
  (HK:∀L g2,qE (grow o j g.size g2.size) j g2 L (l++[x])→aL (λk=>k=j) C Z K h0 bw bp (grow o j g.size g2.size) n V {P with rows:=rows} g2→Fr (λc=>o c=2∨o c=j) g g2→Fr (λc=>o c=j) g1 g2→K' L g2):
  cF #[z'] t 1 [(0,1,r)] g1 λv2 h3=>Q h3∧cG z t' 1 24 v v2 h3 K':=by
 obtain⟨W,ow,U,z2⟩:=HR;have s1:=f1.1;have q1:∀c,W c∨blk v c→¬o c=2:=λc hc=>by have:=hc.elim (U c) (z2 c);omega
 have aa:=ow.fr f1 (λc _ hc=>q1 c (.inl hc)) λc hc=>q1 c (.inr hc)
 have dz:∀b,blk v b→¬W b:=by obtain⟨_,_,d,_⟩:=ow;exact d
 have ob:∀c,o c=j→c<g.size:=λc hc=>(H.ow c (by omega)).1
 have o2:Rp.Ow rIs (λb=>W b∨blk r b) g1 v l:=aa.mono (λb _ D=>.inl D) λb D F=>by
  rcases F with F|F
  ·exact dz b D F
  ·have:=ob b (z2 b D);have:=n1 b F;omega
 refine Rp.push_ow1S (P:=λ_=>False) (e:=rIs) (x:=x) rfl o2 ⟨r,rfl,wn o1.ints λ_ b D=>.inr D⟩ F (by omega) (by omega) (λb D=>?_) hQ λL g2 o3 f3 n3=>?_
 ·rcases D with D|D
  ·have:=ob b (U b D);omega
  ·exact Own.lt o1 D
 have I:Fr (λc=>o c=j) g1 g2:=f3.mono λc _ hc=>z2 c hc
 have s3:=f3.1;have fA:Fr (λc=>(λk=>k=2∨k=j) (o c)) g g2:=(f1.mono λc _ hc=>.inl hc).after I λc _ hc=>.inr hc
 have H2:=H.take (H.chg (A:=λk=>k=2∨k=j) (by omega) fA) (b:=j);have G:∀c,c<g2.size→(o c=j∨g.size≤c)→grow o j g.size g2.size c=j:=λc hl hc=>by
  unfold grow;split
  ·rfl
  ·exact hc.elim id λh=>by omega
 have hR:qE (grow o j g.size g2.size) j g2 L (l++[x]):=by
  refine⟨λb=>W b∨blk r b,o3,λc hc=>?_,λc hc=>G c (o3.lt hc) ?_⟩
  ·rcases hc with hc|hc
   ·exact G c (by have:=ob c (U c hc);omega) (.inl (U c hc))
   ·exact G c (by have:=Own.lt o1 hc;omega) (.inr (n1 c hc))
  ·rcases n3 c hc with h|h
   ·exact .inl (z2 c h)
   ·exact .inr (by omega)
 have c2:dX (λc=>grow o j g.size g2.size c=2) g2 V.vc (K+1) rows:=by
  have e:(λc=>grow o j g.size g2.size c=2)=λc=>o c=2:=by
   funext c
   refine propext ?_;unfold grow;split
   ·rename_i h3;rw[(H.fresh h3.1).1];omega
   ·exact Iff.rfl
  rw[e];exact c1.fr I λc _ hc h=>by have h:o c=j:=h;omega
 have H3:=(H2.less (Y:=λk=>k=j∨k=2) λk hk=>by rcases hk with (h|h|h)|h<;>first|exact h.elim|exact .inr h|exact .inl h).fc c2;exact HK L g2 hR H3 fA I
theorem Rv (H:aL (λ_=>False) C Z K h0 bw bp o n V P g){i:Nat}{u:Value}{s:List Int}(hu:jR g u s)(I:s.length≤4398046511104):
  ae prog eN #[V.vc,.int .i64 (i:Int),u] g λr g1=>aL (λ_=>False) C Z K h0 bw bp (grow o 2 g.size g1.size) n V {P with rows:=lR (K+1) P.rows i s} g1∧Fr (λc=>o c=2) g g1:=by
 refine(YY (H.c id) i hu I).mono λr g1 ⟨_,M',G,f1,m1⟩=>?_
 have D:Fr (λc=>(λk=>k=2) (o c)) g g1:=f1;have F:=H.take (H.chg (A:=λk=>k=2) (by omega) D) (b:=2);refine⟨(F.less (Y:=λk=>False∨k=2) λk U=>by rcases U with (h|h)|h<;>first|exact h.elim|exact .inr h).fc (G.bmono (λc hc=>?_) λc hc=>(F.ow c (by rw[hc];omega)).1),f1⟩;unfold grow;split
 ·rfl
 ·rename_i h3;have lt:c<g1.size:=by
   obtain⟨W,sl,sv,t,_,L⟩:=G;exact L.lt c hc
  rcases m1 c hc with h|h
  ·exact h
  ·omega
end
end
section
def evP (C:C21)(P:bR)(k:Nat):EvD:=(cE (some C.E) (C.jo (bN P.q)) (P.ws k) P.q).2.2
def UR (K:Nat)(P:bR)(k:Nat):bR:=
 {P with rows:=CN (K+1) (lR (K+1) P.rows (k+1:Nat) P.fin) (k+1:Nat),left:=P.left++[lR (K+1) P.rows (k+1:Nat) P.fin (k+1)]}
def qe (C:C21)(K:Nat)(P:bR)(k:Nat):bR:=
 if(evP C P k).1=1 then{gY C P k with rows:=lR (K+1) P.rows (k+1:Nat) (P.stamps.getD (evP C P k).2.1.toNat [])}
 else if(evP C P k).1=2 then we C (gY C P k) k (evP C P k)
 else if(evP C P k).1=3 then UR K (gY C P k) k
 else gY C P k
section
variable {C:C21}{Z:Nat→Prop}{K:Nat}{h0 h:af}{bw:Nat→Nat}{bp:Nat}{o:Nat→Nat}{n:Pic}{P:bR}
theorem YI (O:C.Ok)(G:dA h0)(H:eZ C Z K h0 bw bp o n P h){k:Nat}(hk:k<K)(ht:(P.ws k).tiles.length≤1000000)(hb:∀c,de (some C.E) c→h0.size≤c)(hl:P.acc.length≤999999)(bd:P.left.length≤1000000000)
  (hx:sU (P.ws k) P.q→0≤bN P.q∧bN P.q<bP C.d)
  (h1:(evP C P k).1=1→0≤(evP C P k).2.1∧(evP C P k).2.1<P.stamps.length)
  (hs:∀s∈P.stamps,s.length≤4398046511104) (hf:P.fin.length≤4398046511104)
  (h2:(evP C P k).1=2→(0≤(evP C P k).2.1∧(evP C P k).2.1<bP C.d)∧I64 (evP C P k).2.2.2∧((evP C P k).2.2.1≠1→0≤(evP C P k).2.2.2∧(evP C P k).2.2.2<C.d.Y)∧1≤(gY C P k).words k∧(gY C P k).words k≤100000000000):
  ae prog nQ #[ptr bp,.int .i64 ((k:Int)+1)] h λr h'=>∃n',PTo C Z K h0 bw bp o h n' (qe C K P k) h'∧zW (some C.E) (P.ws k) n n':=by
 have HP:=H;obtain⟨V,H,row⟩:=H.row;apply DI;unfold tm;have hK:=H.few;refine aC λb1 g1 r1 e1 n1=>aC λb3 g3 W e3 n3=>?_
 have r1:g1[b1]? =some (.cells #[ptr bp] _ (0,0)):=r1;have W:g3[b3]? =some (.cells #[.int .i64 ((k:Int)+1)] _ (0,0)):=W;have r1:=e3.row r1;have E:=e1.trans e3;have H3:=H.ex E;have aa:=E.row row;have s1:=e1.1;have s3:=e3.1;have f1:=H.fresh (c:=b1) n1;have f3:=H.fresh (c:=b3) (by omega);have who:((k:Int)+1)=((k+1:Nat):Int):=by omega
 generalize ar:evP C P k=e at*;have ab:(cE (some C.E) (C.jo (bN P.q)) (P.ws k) P.q).2.2=e:=ar;refine aV (λxs g=>∃A n' o' T,xs=[ptr A]∧g[A]? =some (.cells #[.int .i64 e.1,.int .i64 e.2.1,.int .i64 e.2.2.1,.int .i64 e.2.2.2] T (0,0))∧aL (λ_=>False) C Z K h0 bw bp o' n' V (gY C P k) g∧(∀c,c<h.size→o' c=o c)∧Fr (λc=>o c≠0∨de (some C.E) c) h g∧g[b1]? =some (.cells #[ptr bp] 105 (0,0))∧g[b3]? =some (.cells #[.int .i64 ((k:Int)+1)] 3 (0,0))∧o' b1=0∧o' b3=0∧o' A=0∧zW (some C.E) (P.ws k) n n') ?_ ?_
 ·have nS:∀{c},o c=4∨o c=9→¬((o c=10+k∨o c=1∨o c=5)∨de (some C.E) c):=λ{c} hc h=>h.elim (by omega) (H.ow c (by omega)).2.2.2.2
  have nL:∀{c},h.size≤c→¬((o c=10+k∨o c=1∨o c=5)∨de (some C.E) c):=λ{c} hc h=>h.elim (by have:=(H.fresh hc).1;omega) (H.fresh hc).2.2.2
  have M0:Fr (λc=>o c≠0∨de (some C.E) c) h g3:=E.fr;have hM:∀c,((o c=10+k∨o c=1∨o c=5)∨de (some C.E) c)→o c≠0∨de (some C.E) c:=λc hc=>hc.imp (by omega) id
  have tc:evV e=.agg [.int .i64 e.1,.int .i64 e.2.1,.int .i64 e.2.2.1,.int .i64 e.2.2.2].toArray:=rfl;have one:∀v∈[Value.int .i64 e.1,.int .i64 e.2.1,.int .i64 e.2.2.1,.int .i64 e.2.2.2],aJ v=true:=ak rfl (ak rfl (ak rfl (ak rfl aQ)));refine aG (Fr (λc=>(o c=10+k∨o c=1∨o c=5)∨de (some C.E) c) g3) (Fr.refl _ _) ?_;refine ao (ptr bp) (λg f=>ai (f.row r1 (nL n1))) ?_;simp only[go_sem,Nat.zero_add];refine ao V.wv (λg f=>ai (f.row aa (nS (.inl H.po)))) ?_;refine ao (.int .i64 ((k:Int)+1)) (λg f=>ai (f.row W (nL (by omega)))) ?_;simp only[go_sem];rw[w64 (n:=(k:Int)+1-1) (by omega) (by omega),show(k:Int)+1-1=(k:Int)by omega];obtain⟨p,a1,a2⟩:=H3.wat id hk;rw[a1,ah];refine ao (ptr (bw k)) (λg f=>?_) ?_
  ·obtain⟨p',c1,c2⟩:=((H3.wk id).1.fr f λc _ hc=>nS (.inr ((H3.wk id).2 c hc))).at1 (k:=.i64) hk;rw[a1]at c1;cases c1;rw[c2];simp[hk]
  refine ao (ptr bp) (λg f=>ai (f.row r1 (nL n1))) ?_
  try simp only[go_sem,Nat.zero_add]
  refine ao (ptr C.bq) (λg f=>ai (f.row aa (nS (.inl H.po)))) ?_;have l1:=aU r1;have l3:=aU W;refine⟨?_,?_⟩
  ·refine(St O G H3 hk r1 W f1.1 f3.1 ht hb hx).mono λr g4 ⟨er,n',o',I,L,f4,Dr⟩=>⟨f4,?_⟩
   rw[ab]at er;subst er;have s4:=f4.1;refine aC λA g5 r5 e5 n5=>⟨f4.ext_r e5,?_⟩
   refine ce (l:=[.int .i64 e.1,.int .i64 e.2.1,.int .i64 e.2.2.1,.int .i64 e.2.2.2]) r5 rfl one rfl λg6 r6 u6=>?_
   have E6:=e5.upd n5 u6;have f6:=f4.ext_r E6;exact⟨f6,A,n',o',_,rfl,r6,I.ex E6,λc hc=>L c (by omega),M0.after f6 λc _ hc=>hM c hc,f6.row r1 (nL n1),f6.row W (nL (by omega)),by rw[L _ l1];exact f1.1,by rw[L _ l3];exact f3.1,(I.fresh n5).1,Dr⟩
  ·refine aC λA g4 r4 e4 n4=>⟨e4.fr,?_⟩
   have s4:=e4.1;have l4:=aU r4;refine(St O G (H3.ex e4) hk (e4.row r1) (e4.row W) f1.1 f3.1 ht hb hx).mono λr g5 ⟨er,n',o',I,L,f5,Dr⟩=>⟨e4.fr.trans f5,?_⟩
   rw[ab]at er;subst er;have s5:=f5.1;refine ce (l:=[.int .i64 e.1,.int .i64 e.2.1,.int .i64 e.2.2.1,.int .i64 e.2.2.2]) (f5.row r4 (nL (by omega))) rfl one rfl λg6 r6 u6=>?_
   have f6:=(e4.fr.trans f5).upd_new u6 (x:=A) n4;have au:=H.fresh (c:=A) (by omega);have ob:o' A=0:=by rw[L A l4];exact au.1
   exact⟨f6,A,n',o',_,rfl,r6,I.loc u6 ⟨ob,by have:=H.ext.1;omega,au.2⟩,λc hc=>L c (by omega),M0.after f6 λc _ hc=>hM c hc,f6.row r1 (nL n1),f6.row W (nL (by omega)),by rw[L _ (by omega)];exact f1.1,by rw[L _ (by omega)];exact f3.1,ob,Dr⟩
 rintro xs ρ g ⟨A,n',o',T,rfl,re,I,L,fr,q1,q3,z1,z3,ze,Dr⟩;have k0:aB g ⟨A,0,none⟩=some (.int .i64 e.1):=ai re;have k1:aB g ⟨A,1,none⟩=some (.int .i64 e.2.1):=ai re;have F:=I.p id;have bo:=fr.1;have D:∀{o2:Nat→Nat} {P2:bR} {g2:af},eZ C Z K h0 bw bp o2 n' P2 g2→(∀c,c<g.size→o2 c=o' c)→Fr (λc=>o' c≠0∨de (some C.E) c) g g2→PTo C Z K h0 bw bp o h n' P2 g2:=λ{o2 P2 g2} a b c=>⟨o2,a,λc hc=>(b c (by omega)).trans (L c hc),fr.after c λc hc h=>h.imp (λh=>by rwa [L c hc]at h) id⟩
 have wP:qe C K P k=if e.1=1 then{gY C P k with rows:=lR (K+1) P.rows (k+1:Nat) (P.stamps.getD e.2.1.toNat [])}else if e.1=2 then we C (gY C P k) k e else if e.1=3 then UR K (gY C P k) k else gY C P k:=by
  unfold qe;rw[ar]
 rw[wP];simp only[gJ,go_sem,Nat.zero_add,k0];refine aj (λc1=>?_) (λc1=>?_)
 ·rw[if_pos c1];obtain⟨m1,m2⟩:=h1 c1;obtain⟨m,hm⟩:∃m:Nat,e.2.1=(m:Int):=⟨e.2.1.toNat,by omega⟩
  have al:m<P.stamps.length:=by omega
  obtain⟨Zr,ow,_,_⟩:=I.s id;obtain⟨p,c,a1,a2,a3⟩:=ow.sl.at1 rfl (k:=.i64) (i:=m) al;obtain⟨v,hv,hS⟩:=a3;cases hv;have hi:=Mx hS;refine aG (λk=>k=g) rfl ?_;refine ao (ptr bp) (λk e=>by rw[e];exact ai q1) ?_
  try simp only[go_sem,Nat.zero_add]
  refine ao V.vc (λk e=>by rw[e];exact ai F) ?_;refine ao (.int .i64 ((k:Int)+1)) (λk e=>by rw[e];exact ai q3) ?_;refine ao (ptr bp) (λk e=>by rw[e];exact ai q1) ?_
  try simp only[go_sem,Nat.zero_add]
  refine ao V.sv (λk e=>by rw[e];exact ai F) ?_;refine ao (.int .i64 e.2.1) (λk e=>by rw[e];exact k1) ?_;rw[hm,a1,ah];refine ao c (λk e=>by rw[e];exact a2) ?_;rw[who];have bg:=hs _ (List.getElem_mem al);refine(Rv I (i:=k+1) hi bg).mono λr g2 ⟨H2,f2⟩=>⟨n',D (o2:=grow o' 2 g.size g2.size) ⟨V,?_⟩ (λc hc=>gq hc) (f2.mono λc _ hc=>.inl (by have hc:o' c=2:=hc;omega)),Dr⟩
  have e1:P.stamps.getD (m:Int).toNat []=P.stamps[m]:=by rw[Int.toNat_natCast,List.getD_eq_getElem?_getD,List.getElem?_eq_getElem al];rfl
  rw[e1];exact H2
 rw[if_neg c1];refine aj (λc2=>?_) (λc2=>?_)
 ·rw[if_pos c2];obtain⟨m1,m2,m3,m4⟩:=h2 c2;have bv:ldV g (ptr b1)=some (ptr bp):=ai q1;have bk:ldV g (ptr b3)=some (.int .i64 ((k:Int)+1)):=ai q3;have le:aH 4 g (ptr A)=some (evV e):=aI (l:=[.int .i64 e.1,.int .i64 e.2.1,.int .i64 e.2.2.1,.int .i64 e.2.2.2]) re 4 rfl;have a8:aB g ⟨b1,0,none⟩=some (ptr bp):=ai q1;have bc:aB g ⟨b3,0,none⟩=some (.int .i64 ((k:Int)+1)):=ai q3;rw[a8,ah,bc,ah,le,ah];refine(Xu O (P:=gY C P k) ⟨V,I⟩ hk hl m1 m2 m3 m4).mono λr g2 ⟨_,o2,a,b,c⟩=>⟨n',D a b c,Dr⟩
 rw[if_neg c2];refine aj (λc3=>?_) (λc3=>?_)
 ·rw[if_pos c3];refine aG (λk=>k=g) rfl ?_;refine ao (ptr bp) (λk e=>by rw[e];exact ai q1) ?_
  try simp only[go_sem,Nat.zero_add]
  refine ao V.vc (λk e=>by rw[e];exact ai F) ?_;refine ao (.int .i64 ((k:Int)+1)) (λk e=>by rw[e];exact ai q3) ?_;refine ao (ptr bp) (λk e=>by rw[e];exact ai q1) ?_
  try simp only[go_sem,Nat.zero_add]
  refine ao V.ev (λk e=>by rw[e];exact ai F) ?_;rw[who];refine(Rv I (i:=k+1) (Mx (I.e id)) hf).mono λr g2 ⟨H2,f2⟩=>?_
  have ay:∀{c},o' c=0→¬o' c=2:=λh=>by omega
  have a9:=aU q1;have aw:=aU q3;have ax:=f2.row q1 (ay z1);have an:=f2.row q3 (ay z3);have U:=H2.p id;have hp:=H2.po;rw[who]at an;refine aG (λk'=>k'[b1]? =some (.cells #[ptr bp] 105 (0,0))∧k'[b3]? =some (.cells #[.int .i64 ((k+1:Nat):Int)] 3 (0,0))∧k'[bp]? =some (.cells (gn C V {gY C P k with rows:=lR (K+1) (gY C P k).rows (k+1:Nat) (gY C P k).fin}) 197 (0,0))) ⟨ax,an,U⟩ ?_;refine ao (ptr bp) (λk e=>ai e.1) ?_;refine ao (ptr bp) (λk e=>ai e.1) ?_
  try simp only[go_sem,Nat.zero_add]
  refine ao V.lv (λk e=>ai e.2.2) ?_;refine ao (ptr bp) (λk e=>ai e.1) ?_
  try simp only[go_sem,Nat.zero_add]
  refine ao V.vc (λk e=>ai e.2.2) ?_;refine ao (.int .i64 ((k+1:Nat):Int)) (λk e=>ai e.2.1) ?_;refine(RD (H2.c id) ((k+1:Nat):Int)).mono λr g3 ⟨o3,bi,f3,n3⟩=>?_
  have gz:∀{c},c<g.size→o' c=0→¬grow o' 2 g.size g2.size c=2:=λhl h=>by rw[gq hl];omega
  have gp:¬grow o' 2 g.size g2.size bp=2:=by omega
  have S3:=And.intro (f3.row ax (gz a9 z1)) (And.intro (f3.row an (gz aw z3)) (f3.row U gp));refine⟨S3,?_⟩;have a7:GF (K+1) (lR (K+1) (gY C P k).rows (k+1:Nat) (gY C P k).fin) ((k+1:Nat):Int)=lR (K+1) P.rows (k+1:Nat) P.fin (k+1):=by
   unfold GF;rw[if_pos (by omega),Int.toNat_natCast];rfl
  rw[a7]at o3;refine H2.rs_push (j:=7) (by omega) (H2.f id) o3 bi f3 n3 rfl bd (λh' e=>⟨e.row S3.1,e.row S3.2.1,e.row S3.2.2⟩) λs' g4 hR H4 fA f4=>?_
  have g7:∀{c},c<g.size→o' c=0→¬grow o' 2 g.size g2.size c=7:=λhl h=>by rw[gq hl];omega
  have ad:=f4.row S3.2.2 (show¬grow o' 2 g.size g2.size bp=7 by omega);refine⟨⟨f4.row S3.1 (g7 a9 z1),f4.row S3.2.1 (g7 aw z3),ad⟩,?_⟩;have os:aJ s'=true:=by
   obtain⟨_,o5,_⟩:=hR;exact o5.one
  refine bJ ad (show 11<_ from by simp[gn]) os λg5 r5 u5=>?_
  have H5:=H4.putL hR u5 r5;refine⟨n',D (o2:=grow (grow o' 2 g.size g2.size) 7 g2.size g4.size) ⟨_,H5⟩ (λc hc=>?_) ?_,Dr⟩
  ·have:=f2.1;rw[gq (by omega),gq hc]
  ·have s2:=f2.1;have F1:Fr (λc=>o' c≠0∨de (some C.E) c) g g2:=f2.mono λc _ hc=>.inl (by have hc:o' c=2:=hc;omega)
   have F2:=F1.after fA λc hc h=>.inl (by rw[gq hc]at h;omega)
   exact F2.after u5.fr λc hc h=>.inl (by
    have h:c=bp:=h;rw[h]at hc ⊢;rw[gq hc]at hp;omega)
 rw[if_neg c3];exact⟨n',D ⟨V,I⟩ (λ_ _=>rfl) (Fr.refl _ _),Dr⟩
end
end
section
def XW (K:Nat)(P:bR):bR:={P with q:=mQ P.q P.sent,rows:=CN (K+1) P.rows 0,stamps:=P.stamps++[P.rows 0],sent:=P.sent+1}
def Vn (K:Nat)(P:bR):bR:={P with q:={P.q with closed:=true},rows:=CN (K+1) P.rows 0,fin:=P.rows 0}
def wh (K:Nat)(rows:Nat→List Int)(l:List (List Int)):Nat→List Int:=l.foldl (λr s=>lR (K+1) r 0 s) rows
def X2 (C:C21)(K:Nat)(P:bR):bR:={qD {P with rows:=wh K P.rows P.left} 0 1 0 (C.d.X*C.d.Y*C.m.c) false with ret:=true}
def Jc (C:C21)(K:Nat)(P:bR):bR:=if P.sent<bP C.d then XW K P else if P.q.closed=false then Vn K P else X2 C K P
def qC (C:C21)(K:Nat)(P:bR)(i:Int):bR:=
 if gQ C K P i=false then P else if i=0 then Jc C K {P with picks:=P.picks+1}else qe C K {P with picks:=P.picks+1} (i-1).toNat
section
variable {C:C21}{Z:Nat→Prop}{K:Nat}{h0 h:af}{bw:Nat→Nat}{bp:Nat}{o:Nat→Nat}{n:Pic}{P:bR}
theorem YP (O:C.Ok)(H:eZ C Z K h0 bw bp o n P h)(hl:P.acc.length≤999999)(bg:P.stamps.length≤1000000)(bv:0≤P.sent)(a7:∀s∈P.left,s.length≤4398046511104)(bi:P.left.length≤1000000)(b0:bP C.d≤1000000):
  ae prog nT #[ptr bp] h λr h'=>PTo C Z K h0 bw bp o h n (Jc C K P) h':=by
 have HP:=H;obtain⟨V,H,row⟩:=H.row;apply DM;unfold tC;have hK:=H.few;have c8:aB h ⟨bp,8,none⟩=some (.int .i64 P.sent):=ai row;have c2:aB h ⟨bp,2,none⟩=some (ptr C.bl):=ai row;have c3:aB h ⟨bp,3,none⟩=some (ptr C.bq):=ai row;have ay:aB h ⟨bp,11,none⟩=some V.lv:=ai row;have c4:aB h ⟨bp,4,none⟩=some V.vc:=ai row;have c9:aB h ⟨bp,9,none⟩=some V.sv:=ai row;have hp:=H.po;have aa:∀rows,GF (K+1) rows (0:Int)=rows 0:=λrows=>by
  unfold GF;rw[if_pos (by omega)];rfl
 refine aG (λk=>k=h) rfl ?_;simp only[go_sem,Nat.zero_add];refine ao (.int .i64 P.sent) (λk e=>by rw[e];exact c8) ?_
 try simp only[go_sem,Nat.zero_add]
 refine ao (ptr C.bl) (λk e=>by rw[e];exact c2) ?_;refine ae.at (An H.pl O.d) ⟨rfl,?_⟩;unfold Jc;rw[cj,ah];refine aj (λg1=>?_) (λg1=>?_)
 ·rw[if_pos g1];refine aG (λk=>k=h) rfl ?_;refine ao (ptr C.bq) (λk e=>by rw[e];exact c3) ?_
  try simp only[go_sem,Nat.zero_add]
  refine ao (.int .i64 P.sent) (λk e=>by rw[e];exact c8) ?_;refine(Xr (H.q id)).mono λr g2 ⟨_,q2,f2⟩=>?_
  have al:Fr (λc=>(λk=>k=1) (o c)) h g2:=f2;have F:=H.take (H.chg (A:=λk=>k=1) (by omega) al) (b:=1);have F:=(F.less (Y:=λk=>False∨k=1) λk hk=>by rcases hk with (h|h)|h<;>first|exact h.elim|exact .inr h).fq (q:=mQ P.q P.sent) (by
   have e:(λc=>grow o 1 h.size g2.size c=1)=nJ (λc=>o c=1) h g2:=by
    funext c
    refine propext ?_;unfold grow;split
    ·rename_i h3;exact⟨λ_=>.inr h3,λ_=>rfl⟩
    ·rename_i h3;exact⟨.inl,λh=>h.elim id λh=>absurd h h3⟩
   rw[e];exact q2)
  have D:=F.p id;have bk:=F.po;have s2:=f2.1;refine aG (λk=>k[bp]? =some (.cells (gn C V {P with q:=mQ P.q P.sent}) 197 (0,0))) D ?_;refine ao V.sv (λk e=>ai e) ?_
  try simp only[go_sem,Nat.zero_add]
  refine ao V.vc (λk e=>ai e) ?_;refine(RD (F.c id) 0).mono λr L ⟨U,ad,f3,n3⟩=>?_
  rw[aa]at U;have S3:=f3.row D (show¬grow o 1 h.size g2.size bp=2 by omega);refine⟨S3,?_⟩;refine F.rs_push (j:=6) (by omega) (F.s id) U ad f3 n3 rfl (by show P.stamps.length≤_;omega) (λh' e=>e.row S3) λs' g4 hR H4 fA f4=>?_
  have au:=f4.row S3 (show¬grow o 1 h.size g2.size bp=6 by omega);have os:aJ s'=true:=by
   obtain⟨_,o5,_⟩:=hR;exact o5.one
  try simp only[go_sem,Nat.zero_add]
  refine bJ au (show 9<_ from by simp[gn]) os λg5 r5 u5=>?_
  have H5:=H4.putS hR u5 r5;have be:aB g5 ⟨bp,8,none⟩=some (.int .i64 P.sent):=ai (H5.p id);simp only[go_sem,Nat.zero_add,be];rw[w64 (n:=P.sent+1) (by omega) (by omega)];refine bJ (H5.p id) (show 8<_ from by simp[gn]) rfl λg6 r6 u6=>?_
  have H6:=H5.setrow u6 (st:=P.sent+1) (rt:=P.ret) (pk:=P.picks) r6;refine⟨grow (grow o 1 h.size g2.size) 6 g2.size g4.size,⟨_,H6⟩,λc hc=>?_,?_⟩
  ·rw[gq (by omega),gq hc]
  ·have F1:Fr (λc=>o c≠0∨de (some C.E) c) h g2:=f2.mono λc _ hc=>.inl (by have hc:o c=1:=hc;omega)
   have F2:=F1.after fA λc hc h=>.inl (by rw[gq hc]at h;omega)
   have F3:=F2.after u5.fr λc hc h=>.inl (by have h:c=bp:=h;rw[h];omega)
   exact F3.after u6.fr λc hc h=>.inl (by have h:c=bp:=h;rw[h];omega)
 ·rw [if_neg g1];rw[c3,ah];refine ae.at (Me (H.q id)) ?_;cases hc:P.q.closed with
  | false=>
   rw[if_pos rfl];simp only[go_sem,Nat.zero_add,c3];refine(PP (H.q id)).mono λr g2 ⟨_,q2,f2⟩=>?_
   have al:Fr (λc=>(λk=>k=1) (o c)) h g2:=f2;have F:=(H.chg (A:=λk=>k=1) (by omega) al).fq q2;have D:=F.p id;have an:aB g2 ⟨bp,4,none⟩=some V.vc:=ai D;simp only[go_sem,Nat.zero_add,an];refine(RD (F.c id) 0).mono λr L ⟨U,ad,f3,n3⟩=>?_
   rw[aa]at U;have bc:Fr (λc=>(λk=>k=2) (o c)) g2 L:=f3;have H3:=F.take (F.chg (A:=λk=>k=2) (by omega) bc) (b:=8);have H3:=(H3.less (Y:=λk=>k=8∨k=2) λk hk=>by rcases hk with (h|h)|h<;>first|exact h.elim|exact .inr h|exact .inl h).fc (r:=CN (K+1) P.rows 0) (by rw[UV (λc hc=>(F.fresh hc).1) (by omega) (by omega)];exact ad);have G:=f3.row D (show¬o bp=2 by omega);have hs:Rp.Sl (Rp.int .i64) (λc=>grow o 8 g2.size L.size c=8) L r (P.rows 0):=wn U.ints λ_ c hc=>by
    unfold grow;rw[if_pos ⟨n3 c hc,Own.lt U hc⟩]
   refine bJ G (show 10<_ from by simp[gn]) (Ae U) λg4 r4 u4=>?_
   have H4:=H3.putE hs u4 r4;have s2:=f2.1;refine⟨grow o 8 g2.size L.size,⟨_,H4⟩,λc hc=>gq (by omega),?_⟩;have F1:Fr (λc=>o c≠0∨de (some C.E) c) h g2:=f2.mono λc _ hc=>.inl (by have hc:o c=1:=hc;omega)
   have F2:=F1.after f3 λc hc h=>.inl (by omega)
   exact F2.after u4.fr λc hc h=>.inl (by have h:c=bp:=h;rw[h];omega)
  | true=>
   rw[if_neg (by simp)];simp only[go_sem,Nat.zero_add,ay];have ax:=(H.f id).len;rw[ax,ah];refine bB (α:=Unit) P.left.length 0 (λi _=>[.int .i64 (i:Int)]) (λi _ g=>∃o',aL (λ_=>False) C Z K h0 bw bp o' n V {P with rows:=wh K P.rows (P.left.take i)} g∧(∀c,c<h.size→o' c=o c)∧Fr (λc=>o c≠0∨de (some C.E) c) h g) () rfl (Nat.zero_le _) ⟨o,H,λ_ _=>rfl,Fr.refl _ _⟩ λi _ g again ρ _ hi ⟨o',W,oo,f⟩ a8=>?_
   have ab:=W.p id;have an:aB g ⟨bp,4,none⟩=some V.vc:=ai ab;have bd:aB g ⟨bp,1,none⟩=some (ptr C.bt):=ai ab;have sg:=f.1;simp only[gJ];rw[cj,ah];refine aj (λg2=>?_) (λg2=>?_)
   ·have I:i<P.left.length:=by omega
    have a9:(i:Int)+1=((i+1:Nat):Int):=by omega
    obtain⟨Zr,ow,_,_⟩:=W.f id;obtain⟨p,c,a1,a2,a3⟩:=ow.sl.at1 rfl (k:=.i64) (i:=i) I;obtain⟨v,hv,hS⟩:=a3;cases hv;have aw:=a7 _ (List.getElem_mem I);rw[a1,ah,a2,ah];simp only[go_sem,Nat.zero_add,an];refine(Rv W (i:=0) (Mx hS) aw).mono λr L ⟨H3,f3⟩=>?_
    rw[w64 (n:=(i:Int)+1) (by omega) (by omega),a9];refine a8 () L I ⟨grow o' 2 g.size L.size,?_,λc hc=>by rw[gq (by omega)];exact oo c hc,f.after f3 λc hc h=>.inl (by rw[←oo c hc];have h:o' c=2:=h;omega)⟩;have e:wh K P.rows (P.left.take (i+1))=lR (K+1) (wh K P.rows (P.left.take i)) 0 P.left[i]:=by
     unfold wh;rw[List.take_succ_eq_append_getElem I,List.foldl_append];rfl
    rw[e];exact H3
   ·have:i=P.left.length:=by omega
    subst this;rw[List.take_length]at W;simp only[go_sem,Nat.zero_add,bd];obtain⟨s1,s2,s3,s4,s5⟩:=W.sui.2;refine ae.at (Ct W.set.out W.sui.1.fits) ?_;have bf:=cq W.sui.1.fits;have ar:1≤n.w*n.h*n.c:=Int.mul_pos (Int.mul_pos (by omega) (by omega)) (by omega);have en:n.w*n.h*n.c=C.d.X*C.d.Y*C.m.c:=by rw[s2,s3,s4];rfl
    rw[en]at ar bf ⊢;refine(Cu (P:={P with rows:=wh K P.rows P.left}) ⟨V,W⟩ (who:=0) (by omega) (by show P.acc.length≤_;omega) (by omega) (by omega) ar (by omega)).mono λr L ⟨_,U,H3,q3,f3⟩=>?_
    obtain⟨V3,B3,G⟩:=H3.row
    try simp only[go_sem,Nat.zero_add]
    refine bJ G (show 12<_ from by simp[gn]) rfl λg4 r4 u4=>?_
    have bo:=B3.po;have H4:=B3.setrow u4 (st:=P.sent) (rt:=true) (pk:=P.picks) r4;refine⟨U,⟨_,H4⟩,λc hc=>(q3 c (by omega)).trans (oo c hc),?_⟩;have F2:=f.after f3 λc hc h=>by rwa [oo c hc]at h
    exact F2.after u4.fr λc hc h=>.inl (by have h:c=bp:=h;rw[←oo c hc,←q3 c (by omega),h];omega)
end
end
end Go.Proofs.YtcoimlclclnlkaaGreatDoor
namespace Go.Proofs.YtcoimlclclnlkaaGreatDoor
open Go Go.Crisp
attribute [local irreducible] ae cF aP stK aA vK qK bD gK dE aS mkK cG Cn DS Ad bsK clK qN lS R9
structure NO (C:C21)(sent:Int)(w:WD)(words:Int):Prop where
 tl:∀x∈w.tiles,0≤x∧x<sent
 st:(w.state=1∧qO (some C.E) w.job∧w.tiles≠[])∨((w.state=0∨w.state=2)∧w.job=none)
 jb:∀t y e,w.job=some (t,y,e)→t=aM C.d (w.tiles.getLast?.getD 0)∧words=pQ C (w.tiles.getLast?.getD 0)
structure kb (C:C21)(K:Nat)(P:bR):Prop where
 sent:0≤P.sent∧P.sent≤bP C.d
 st:(P.stamps.length:Int)=P.sent
 q:∀x∈P.q.l,0≤x∧x<P.sent
 w:∀i,i<K→NO C P.sent (P.ws i) (P.words i)
 tn:∀i,i<K→((P.ws i).tiles.length:Int)≤P.picks
 rows:∀i,i≤K→(P.rows i).length=K+1
 ss:∀s∈P.stamps,s.length=K+1
 fn:P.fin.length≤K+1
 ls:∀s∈P.left,s.length=K+1
 ln:(P.left.length:Int)≤P.picks
 ac:(P.acc.length:Int)≤2+2*P.picks
 pk:0≤P.picks
 cl:P.q.closed=true→P.sent=bP C.d
theorem G0 {n:Nat}{rows:Nat→List Int}(h:∀i,i<n→(rows i).length=n)(i:Int):∀j,j<n→(CN n rows i j).length=n:=by
 intro j A;unfold CN;split
 ·rename_i hi;by_cases e:j=i.toNat
  ·simp only[e,if_true,List.length_set];exact h _ (by omega)
  ·simp only[e,if_false];exact h j A
 ·exact h j A
theorem IZ {n:Nat}{rows:Nat→List Int}(h:∀i,i<n→(rows i).length=n)(i:Int)(s:List Int):∀j,j<n→(lR n rows i s j).length=n:=by
 intro j D;unfold lR;split
 ·rename_i A;unfold GH at A;simp only[Bool.and_eq_true,decide_eq_true_eq]at A;by_cases e:j=i.toNat
  ·simp only[e,if_true,wm];rw[h _ (by omega),A.2.1,Nat.max_self]
  ·simp only[e,if_false];exact h j D
 ·exact h j D
theorem Ug {C:C21}(O:C.Ok){x:Int}(h1:0≤x)(D:x<bP C.d):1≤pQ C x∧pQ C x≤100000000000:=by
 have I:=cq O.m.fits;have G:=jw O.d h1 D;unfold dO at G;have H:1*1≤(aM C.d x).w*C.m.c:=Int.mul_le_mul (by omega) (by omega) (by omega) (by omega);have A:1≤(jg (bX C.d.s.y.lines):Int)∧(jg (bX C.d.s.y.lines):Int)≤65536:=by unfold jg;omega
 have F:1≤(fJ ((aM C.d x).w*C.m.c):Int)∧(fJ ((aM C.d x).w*C.m.c):Int)≤262144:=by unfold fJ;omega
 have h1:1*1≤(jg (bX C.d.s.y.lines):Int)*(fJ ((aM C.d x).w*C.m.c):Int):=Int.mul_le_mul A.1 F.1 (by omega) (by omega);have D:=Int.mul_le_mul A.2 F.2 (by omega) (show(0:Int)≤65536 by omega);unfold pQ;omega
theorem Pf {l:List Int}(h:l≠[]):l.getLast?.getD 0∈l:=by
 rw[List.getLast?_eq_some_getLast h];exact List.getLast_mem h
theorem NO.step {C:C21}{sent:Int}{w:WD}{words:Int}{q:QD}(H:NO C sent w words)(hq:∀x∈q.l,0≤x∧x<sent):
  NO C sent (cE (some C.E) (C.jo (bN q)) w q).1 (if w.state=0∧di q=0 then pQ C (bN q)else words):=by
 have W:∀(jo:Option (cz×Int×Int)) (tl:List Int),(jo≠none→tl≠[])→(stJ (b9 (some C.E) jo)=1∧qO (some C.E) (b9 (some C.E) jo)∧tl≠[])∨((stJ (b9 (some C.E) jo)=0∨stJ (b9 (some C.E) jo)=2)∧b9 (some C.E) jo=none):=λjo tl h=>by
  rcases Ev (some C.E) jo with⟨h1,U,G⟩|h1
  ·refine .inl ⟨?_,U,h ?_⟩
   ·rcases yE (E:=some C.E) (jo:=jo)with h|h
    ·exact h.1
    ·exact absurd h.2 h1
   ·rw[←G];exact h1
  ·refine .inr ⟨?_,h1⟩;rw[h1];exact .inl rfl
 have I:∀(jo:Option (cz×Int×Int)) t y e,b9 (some C.E) jo=some (t,y,e)→jo=some (t,y,e):=λjo t y e h=>by
  rcases Ev (some C.E) jo with⟨_,_,G⟩|h1
  ·rw[←G];exact h
  ·rw[h1]at h;cases h
 obtain⟨st,tl,jo,wd⟩:=w;obtain⟨h1,U,G⟩:=H;unfold cE;rcases U with⟨A,F,s3⟩|⟨A|A,F⟩
 ·have A:st=1:=A;subst A;cases jo with
  |none=>exact(show False from F).elim
  |some x=>
   obtain⟨t,y,e⟩:=x;rw[if_pos rfl,if_neg (show¬((1:Int)=0∧_)from λh=>by omega)];refine⟨h1,W _ _ λ_=>s3,λt' y' e' h=>?_⟩;have h:=I (some (t,eU (C.E.d t) y e,gj (C.E.d t) y e)) _ _ _ h;have h:some (t,eU (C.E.d t) y e,gj (C.E.d t) y e)=some (t',y',e'):=h;cases h;exact G t y e rfl
 ·have A:st=0:=A;subst A;have F:jo=none:=F;subst F;rw[if_neg (show¬(0:Int)=1 by omega),if_neg (show¬(0:Int)=2 by omega)];by_cases D:di q=0
  ·rw[if_pos D,if_pos ⟨rfl,D⟩];have hm:bN q∈q.l:=by
    unfold di at D;unfold bN;cases hl:q.l with
    |nil=>rw[hl,if_pos rfl]at D;split at D<;>omega
    |cons a l=>simp
   have hx:=hq _ hm;refine⟨λx L=>?_,W _ _ λ_=>by simp[AF],λt y e h=>?_⟩
   ·rcases List.mem_append.1 L with h|h
    ·exact h1 x h
    ·rw[List.mem_singleton.1 h];exact hx
   ·have h:=I (C.jo (bN q)) _ _ _ h;have h:some (LS C.d (bN q))=some (t,y,e):=h;unfold LS at h;cases h;show _=aM C.d ((tl++[bN q]).getLast?.getD 0)∧_=pQ C ((tl++[bN q]).getLast?.getD 0);simp
  ·rw[if_neg D,if_neg (show¬((0:Int)=0∧di q=0)from λh=>D h.2)];split
   ·exact⟨h1,.inr ⟨.inr rfl,rfl⟩,λt y e h=>by cases h⟩
   ·exact⟨h1,.inr ⟨.inl rfl,rfl⟩,λt y e h=>by cases h⟩
 ·have A:st=2:=A;subst A;rw[if_neg (show¬(2:Int)=1 by omega),if_pos rfl,if_neg (show¬((2:Int)=0∧_)from λh=>by omega)];exact⟨h1,.inr ⟨.inr rfl,F⟩,G⟩
end Go.Proofs.YtcoimlclclnlkaaGreatDoor
