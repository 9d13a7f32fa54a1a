/- Several texts of this session, one behind the other, without what this claim does not need (put together by its program pack.py). Conditions: none. -/
import Derived.Test.YtjljhnandbbldaaGreatDoorMu4
set_option linter.unusedVariables false
set_option linter.unusedSimpArgs false
set_option maxRecDepth 100000
namespace Go.Proofs.YtjljhnandbbldaaGreatDoor
open Go Go.Crisp
attribute [local irreducible] ae cE aP stK aA vK qK bC gK dK aU mkK cF Ch DH zZ bsK clK qQ lW Rw
open _root_.Go.Proofs.Tryz
section
theorem UW {h:af}{n:Nat}(h1:1≤n)(h2:n≤512):ae prog jE #[.int .i64 (n:Int)] h λr h'=>ie rIs h h' r ((List.range n).map (qO n)):=by
 apply My;unfold CP;refine aV (λF g=>F=[.int .i64 (n:Int)]∧g=h) ?_ ?_
 ·rw[bU,ah];exact aj (λc=>absurd c (by omega)) λ_=>by simp
 rintro F ρ g ⟨rfl,rfl⟩;refine aV (λF H=>F=[.int .i64 (n:Int)]∧H=g) ?_ ?_
 ·simp only[gb];rw[l8,ah];exact aj (λc=>absurd c (by omega)) λ_=>by simp
 rintro F ρ H ⟨rfl,rfl⟩;simp only[gb];refine bA (α:=Value) n 0 (λi v=>[v,.int .i64 (i:Int)]) (λi v g=>ie rIs H g v ((List.range i).map (qO n))) (.slice none 0 0) rfl (Nat.zero_le _) (ie.nil (Ext.refl _)) λi v g again ρ _ hi G I=>?_
 simp only[gb,uA];rw[bU,ah];refine aj (λg1=>?_) (λg1=>?_)
 ·have A:i<n:=by omega
  refine lU rfl (by omega) (by omega) λs g2 o2 e2 U=>?_
  obtain⟨p,q1,_,q3⟩:=Own.at1 o2 (k:=.i64) A;rw[q1,ah];refine q3 _ _ rfl λW o3 f3 s3=>?_
  have E3:Ext g W:=e2.then_fr f3 U;have hx:(List.replicate n (Value.int .i64 0)).set i (.int .i64 1)=(qO n i).map vi:=by
   apply List.ext_getElem (by simp[qO]);intro j h1 h2;rw[List.getElem_set];simp only[List.getElem_map,List.getElem_replicate,qO,List.getElem_range,vi];by_cases h:i=j
   ·subst h;simp
   ·rw[if_neg h,if_neg (Ne.symm h)]
  rw[hx]at o3;have hl:(qO n i).length=n:=by simp[qO]
  have oI:iT W s (qO n i):=by unfold iT;rw[hl];exact o3
  have N3:=G.ext E3;have sE:=G.exts.1;refine ie.push1 (e:=rIs) (x:=qO n i) (Y:=blk s) rfl N3 ⟨s,rfl,wA (iT.ints oI) λ_ b D=>D⟩ (λb D=>⟨?_,oI.lt D,λhv=>?_⟩) rfl (by simp;omega) (by simp;omega) λv7 g7 N7=>?_
  ·have:=U b D;omega
  ·have h1:=U b D;have h2:=G.lt hv;omega
  have L:(i:Int)+1=((i+1:Nat):Int):=by omega
  try simp only[go_sem]
  rw[w64 (n:=(i:Int)+1) (by omega) (by omega),L];refine I v7 g7 A ?_;rw[List.range_succ,List.map_append];exact N7
 ·have:i=n:=by omega
  subst this;exact G
theorem P6 {α:Type}{e:Rp α}{Z P:Nat→Prop}{Q:af→Prop}{z z' c:Value}{t U:TypeId}{bytes:Nat}{s:Value}{h:af}{l:List α}{x:α}{K:Value→af→Prop}(hw:e.w=1)(L:Rp.Ow e Z h s l)(hx:e.R P h [c] x)(D:z.cells.size=1)(A:(l.length+1)*bytes≤140737488355328)(hn:l.length+1≤9223372036854775807)(hZ:∀b,Z b→b<h.size)(G:∀b,P b→b<h.size∧¬blk s b)(W:∀h',Ext h h'→Q h')
  (H:∀F h',Rp.Ow e (λb=>Z b∨P b) h' F (l++[x])→Fr (blk s) h h'→(∀b,blk F b→blk s b∨h.size≤b)→K F h'):cE #[z'] t 1 [(0,1,c)] h λv2 I=>Q I∧cF z U 1 bytes s v2 I K:=by
 have dz:∀b,blk s b→¬Z b:=by obtain⟨ds,_,d,_⟩:=L;exact d
 exact Rp.push_ow1S (P:=λ_=>True) hw (L.mono (λb _ A=>.inl A) λb A D=>D.elim (dz b A) λD=>(G b D).2 A) (e.mono hx λb _ A=>.inr A) D A hn (λb A=>A.elim (hZ b) λh=>(G b h).1) W H
structure StN (C:C21)(K N:Nat)(room:Int)(h0:af)(t q c w:Option Value)(p:Option Nat)(g:af):Prop where
 ext:Ext h0 g
 parts:∃Zr:Nat→Prop,(∀k,Zr k→h0.size≤k∧k<g.size∧∀x,p=some x→k≠x)∧(∀v,t=some v→Rp.Sl Bf Zr g v (cR C.d N))∧(∀v,c=some v→Rp.Sl rIs Zr g v ((List.range (K+1)).map (qO (K+1))))∧∀v,w=some v→Rp.Sl rVD Zr g v ((List.range K).map λ_=>⟨0,[],[]⟩)
 qq:∀v,q=some v→v=.agg #[.int .i64 (min (max 1 room) 4096),.slice none 0 0,.bool false]
 var:∀x,p=some x→h0.size≤x∧g[x]? =some (.cells aD 48 (0,0))
section
variable {C:C21}{K N:Nat}{room:Int}{h0 g:af}{t q c w:Option Value}{p:Option Nat}{J:Value→af→Prop}
theorem StN.start (C:C21)(K N:Nat)(room:Int)(h:af):StN C K N room h none none none none none h:=⟨Ext.refl _,⟨λ_=>False,by simp,by simp,by simp,by simp⟩,by simp,by simp⟩
theorem StN.grow {F:af}(S:StN C K N room h0 t q c w p g)(e:Ext g F):StN C K N room h0 t q c w p F:=by
 obtain⟨a,⟨L,z,H,I,U⟩,d,f⟩:=S;exact⟨a.trans e,⟨L,λk D=>⟨(z k D).1,Nat.lt_of_lt_of_le (z k D).2.1 e.1,(z k D).2.2⟩,λv A=>(H v A).ext e,λv A=>(I v A).ext e,λv A=>(U v A).ext e⟩,d,λx G=>⟨(f x G).1,e.row (f x G).2⟩⟩
theorem StN.more {H c' w':Option Value}{D:af}{Y:Nat→Prop}(S:StN C K N room h0 t q c w p g)(e:Ext g D)(hY:∀k,Y k→g.size≤k∧k<D.size)(U:∀v,H=some v→t=some v∨Rp.Sl Bf Y D v (cR C.d N))(hc:∀v,c'=some v→c=some v∨Rp.Sl rIs Y D v ((List.range (K+1)).map (qO (K+1))))(hw:∀v,w'=some v→w=some v∨Rp.Sl rVD Y D v ((List.range K).map λ_=>⟨0,[],[]⟩)):StN C K N room h0 H q c' w' p D:=by
 obtain⟨a,⟨Zr,z,I,L,W⟩,d,f⟩:=S;have se:=a.1;refine⟨a.trans e,⟨λk=>Zr k∨Y k,λk A=>?_,λv F=>?_,λv F=>?_,λv F=>?_⟩,d,λx G=>⟨(f x G).1,e.row (f x G).2⟩⟩
 ·rcases A with A|A
  ·exact⟨(z k A).1,Nat.lt_of_lt_of_le (z k A).2.1 e.1,(z k A).2.2⟩
  ·have:=hY k A;exact⟨by omega,this.2,λx G=>by have:=aW (f x G).2;omega⟩
 ·exact(U v F).elim (λh=>((I v h).ext e).mono λ_ _ h=>.inl h) λh=>h.mono λ_ _ h=>.inr h
 ·exact(hc v F).elim (λh=>((L v h).ext e).mono λ_ _ h=>.inl h) λh=>h.mono λ_ _ h=>.inr h
 ·exact(hw v F).elim (λh=>((W v h).ext e).mono λ_ _ h=>.inl h) λh=>h.mono λ_ _ h=>.inr h
theorem StN.call_t {Z:Nat→Prop}{cs:List Value}(S:StN C K N room h0 none q c w p g)(I:uq.R Z h0 cs C.d.s)(O:C.Ok)(U:(N:Int)=bO C.d)(F:N≤4096)(L:1≤C.d.X)(hY:1≤C.d.Y)(few:∀x∈C.d.s.x.lines++C.d.s.y.lines,x.2.length≤1073741824)(H:∀v A,StN C K N room h0 (some v) q c w p A→J v A):ae prog jG #[.agg cs.toArray,.int .i64 C.d.w,.int .i64 C.d.h] g J:=
 (S6 (uq.ext I S.ext) O.d few U F L hY).mono λv A D=>H v A (S.more (Y:=blk v) D.2.1 (λk G=>⟨D.2.2 k G,D.lt G⟩) (λu hu=>by cases hu;exact .inr D.sl) (λu hu=>.inl hu) λu hu=>.inl hu)
theorem StN.call_q (S:StN C K N room h0 t none c w p g)(H:∀v A,StN C K N room h0 t (some v) c w p A→J v A):ae prog jF #[.int .i64 room] g J:=
 UX.mono λv A ⟨F,e⟩=>H v A (by
  have D:=S.grow e;exact⟨D.ext,D.parts,λu hu=>by cases hu;exact F,D.var⟩)
theorem StN.call_c (S:StN C K N room h0 t q none w p g)(G:K≤511)(H:∀v A,StN C K N room h0 t q (some v) w p A→J v A):ae prog jE #[.int .i64 ((K:Int)+1)] g J:=by
 rw[show(K:Int)+1=((K+1:Nat):Int)by omega];exact(UW (by omega) (by omega)).mono λv A D=>H v A (S.more (Y:=eo g A) D.exts (λk F=>F) (λu hu=>.inl hu) (λu hu=>by cases hu;exact .inr D.sl) λu hu=>.inl hu)
theorem StN.mk_w {bytes:Nat}{T:TypeId}(S:StN C K N room h0 t q c none p g)(W:K≤511)(G:bytes≤1000)(H:∀v F,StN C K N room h0 t q c (some v) p F→J v F):mkK (.agg #[.int .i64 0,.slice none 0 0,.slice none 0 0]) T 3 bytes (.int .i64 (K:Int)) (.int .i64 (K:Int)) g J:=by
 unfold mkK;have L:IntKind.i64.wrap (K:Int)=K:=w64 (by omega) (by omega);simp only[L];refine⟨by omega,by omega,?_,?_⟩
 ·have:(bytes:Int)*(K:Int)≤1000*511:=Int.mul_le_mul (by omega) (by omega) (by omega) (by omega);omega
 rw[Int.toNat_natCast];have I:∀j,j<K*3→(gQ (.agg #[.int .i64 0,.slice none 0 0,.slice none 0 0]) (K*3)).toList[j]? =some ([Value.int .i64 0,.slice none 0 0,.slice none 0 0][j%3]'(by simp;omega)):=by
  intro j D;unfold gQ;simp only[bG,Array.toList_map,List.getElem?_map,Array.toList_range,List.getElem?_range D,Option.map_some];have:j%3<3:=Nat.mod_lt _ (by omega)
  congr 1
  rcases(show j%3=0∨j%3=1∨j%3=2 by omega)with h|h|h<;>simp[h]
 have U:(gQ (.agg #[.int .i64 0,.slice none 0 0,.slice none 0 0]) (K*3)).toList.length=K*3:=by simp[gQ]
 refine H _ _ (S.more (Y:=λk=>k=g.size) (Ext.push g _) (λk A=>by rw[A];simp) (λu hu=>.inl hu) (λu hu=>.inl hu) λu hu=>by
  cases hu;refine .inr ⟨(gQ (.agg #[.int .i64 0,.slice none 0 0,.slice none 0 0]) (K*3)).toList,⟨by simp[gQ];rfl,_,K,by rw[List.length_map,List.length_range],.inr ⟨g.size,0,rfl,λj D=>?_⟩⟩,λ_ b G=>G,λi hi=>?_⟩
  ·rw[Nat.zero_add,ai (t:=T) (f:=(0,0)) pu,List.getElem?_eq_getElem D |>.symm,Array.getElem?_toList]
  ·have hi:i<K:=by simpa using hi
   refine⟨.slice none 0 0,.slice none 0 0,?_,by simpa using Rp.Sl.nil,by simpa using Rp.Sl.nil,_,_,_,rfl,Nat.le_refl _⟩;apply List.ext_getElem?;intro k;by_cases A:k<3
   ·show((List.drop (i*3) _).take 3)[k]? =_;rw[List.getElem?_take_of_lt A,List.getElem?_drop,I _ (by omega)];rcases(show k=0∨k=1∨k=2 by omega)with h|h|h<;>subst h<;>simp<;>rfl
   ·show((List.drop (i*3) _).take 3)[k]? =_;rw[List.getElem?_eq_none (by simp;omega),List.getElem?_eq_none (by simp;omega)])
theorem StN.new_p (S:StN C K N room h0 t q c w none g)(H:∀x D,StN C K N room h0 t q c w (some x) D→J (ptr x) D):aP aD 48 g J:=by
 have hs:=S.ext.1;refine aC λx D r e n=>H x D ?_
 obtain⟨a,⟨W,z,I,L,U⟩,d,f⟩:=S;exact⟨a.trans e,⟨W,λk F=>⟨(z k F).1,Nat.lt_of_lt_of_le (z k F).2.1 e.1,λy G=>by cases G;have:=(z k F).2.1;omega⟩,λv A=>(I v A).ext e,λv A=>(L v A).ext e,λv A=>(U v A).ext e⟩,d,λy G=>by cases G;exact⟨by omega,r⟩⟩
theorem StN.vk_fill {X Y tv H cv wv:Value}{F G D A:Int}{J:Value→Prop}(S:StN C K N room h0 (some tv) (some H) (some cv) (some wv) p g)(oX:aJ X=true)(oY:aJ Y=true)(I:J (.agg [X,Y,.int .i64 F,.int .i64 G,.int .i64 D,.int .i64 A,tv,.slice none 0 0,.int .i64 (min (max 1 room) 4096),.slice none 0 0,.bool false,cv,wv,.slice none 0 0,.int .i64 0,.bool false,.bool false,.slice none 0 0,.slice none 0 0,.slice none 0 0].toArray)):
  vK ((aF aD [(0,5,.agg [X,Y,.int .i64 F,.int .i64 G,.int .i64 D].toArray),(5,1,.int .i64 A),(6,1,tv),(8,3,H),(11,1,cv),(12,1,wv)]).map .agg) J:=by
 obtain⟨Zr,z,L,U,W⟩:=S.parts;have e:=S.qq _ rfl;subst e;have f:aF aD [(0,5,.agg [X,Y,.int .i64 F,.int .i64 G,.int .i64 D].toArray),(5,1,.int .i64 A),(6,1,tv),(8,3,.agg #[.int .i64 (min (max 1 room) 4096),.slice none 0 0,.bool false]),(11,1,cv),(12,1,wv)]=some [X,Y,.int .i64 F,.int .i64 G,.int .i64 D,.int .i64 A,tv,.slice none 0 0,.int .i64 (min (max 1 room) 4096),.slice none 0 0,.bool false,cv,wv,.slice none 0 0,.int .i64 0,.bool false,.bool false,.slice none 0 0,.slice none 0 0,.slice none 0 0].toArray:=by
  refine(bI (n:=5) (l:=[X,Y,.int .i64 F,.int .i64 G,.int .i64 D]) rfl rfl (by simp)).trans ?_;refine(bI (n:=1) (l:=[.int .i64 A]) rfl rfl (by simp[bX])).trans ?_;refine(bI (n:=1) (l:=[tv]) (bT (L _ rfl).one) rfl (by simp[bX])).trans ?_;refine(bI (n:=3) (l:=[.int .i64 (min (max 1 room) 4096),.slice none 0 0,.bool false]) rfl rfl (by simp[bX])).trans ?_;refine(bI (n:=1) (l:=[cv]) (bT (U _ rfl).one) rfl (by simp[bX])).trans ?_;refine(bI (n:=1) (l:=[wv]) (bT (W _ rfl).one) rfl (by simp[bX])).trans ?_;rw[fo];simp[wrL]
 rw[f,bi,ah];exact I
end
abbrev yY:Value:=.slice none 0 0
def PreN (C:C21)(K N:Nat)(room:Int)(X Y:Value)(h0:af)(x:Nat)(tv cv wv:Value)(Zr:Nat→Prop)(g:af):Prop:=
 g[x]? =some (.cells (dpC C (Bh K room) ⟨X,Y,tv,yY,yY,cv,wv,yY,yY,yY,yY⟩).toArray 48 (0,0))∧Ext h0 g∧h0.size≤x∧(∀k,Zr k→h0.size≤k∧k<g.size∧k≠x)∧
 Rp.Sl Bf Zr g tv (cR C.d N)∧Rp.Sl rIs Zr g cv ((List.range (K+1)).map (qO (K+1)))∧Rp.Sl rVD Zr g wv ((List.range K).map λ_=>⟨0,[],[]⟩)
theorem StN.fin {C:C21}{K N:Nat}{room:Int}{h0 g:af}{X Y tv qv cv wv:Value}{x:Nat}{J:Value→af→Prop}(S:StN C K N room h0 (some tv) (some qv) (some cv) (some wv) (some x) g)(oX:aJ X=true)(oY:aJ Y=true)(L:∀F D,PreN C K N room X Y h0 x tv cv wv F D→J undef D):
  stK 20 (ptr x) (.agg [X,Y,.int .i64 C.d.s.x.n,.int .i64 C.d.s.y.n,.int .i64 C.d.s.border,.int .i64 C.m.c,tv,.slice none 0 0,.int .i64 (min (max 1 room) 4096),.slice none 0 0,.bool false,cv,wv,.slice none 0 0,.int .i64 0,.bool false,.bool false,.slice none 0 0,.slice none 0 0,.slice none 0 0].toArray) g J:=by
 obtain⟨F,z,U,W,b3⟩:=S.parts;obtain⟨n,r⟩:=S.var x rfl;have I:=U _ rfl;have G:=W _ rfl;have H:=b3 _ rfl;refine ch (l:=[X,Y,.int .i64 C.d.s.x.n,.int .i64 C.d.s.y.n,.int .i64 C.d.s.border,.int .i64 C.m.c,tv,.slice none 0 0,.int .i64 (min (max 1 room) 4096),.slice none 0 0,.bool false,cv,wv,.slice none 0 0,.int .i64 0,.bool false,.bool false,.slice none 0 0,.slice none 0 0,.slice none 0 0]) r rfl ?_ rfl λD r' u=>?_
 ·exact ak oX (ak oY (ak rfl (ak rfl (ak rfl (ak rfl (ak I.one (ak rfl (ak rfl (ak rfl (ak rfl (ak G.one (ak H.one (ak rfl (ak rfl (ak rfl (ak rfl (ak rfl (ak rfl (ak rfl aQ)))))))))))))))))))
 ·have q:∀k,k<g.size→F k→¬k=x:=λk _ A=>(z k A).2.2 x rfl
  exact L F D ⟨r',S.ext.upd n u,n,λk A=>⟨(z k A).1,by rw[u.1];exact(z k A).2.1,(z k A).2.2 x rfl⟩,I.fr u.fr q,G.fr u.fr q,H.fr u.fr q⟩
theorem UV {C:C21}{K N:Nat}{room:Int}{h:af}{Z:Nat→Prop}{cs:List Value}(HK:uq.R Z h cs C.d.s)(zl:∀c,Z c→c<h.size)(O:C.Ok)(hN:(N:Int)=bO C.d)(ci:N≤4096)(hX:1≤C.d.X)(hY:1≤C.d.Y)(few:∀x∈C.d.s.x.lines++C.d.s.y.lines,x.2.length≤1073741824)(hK:1≤K∧K≤256)
  (b1:0≤C.d.s.x.n*C.d.s.y.n*C.m.c∧C.d.s.x.n*C.d.s.y.n*C.m.c≤1000000000000) (b2:0≤C.d.X*C.d.Y*C.m.c∧C.d.X*C.d.Y*C.m.c≤1000000000000) (b3:0≤C.d.s.x.n*C.d.s.y.n∧C.d.s.x.n*C.d.s.y.n≤1000000000000) (b4:0≤C.d.X*C.d.Y∧C.d.X*C.d.Y≤1000000000000):
  ae prog zG #[.agg cs.toArray,.int .i64 C.m.c,.int .i64 C.d.w,.int .i64 C.d.h,.int .i64 (K:Int),.int .i64 room] h (DTo Z C K N h (Do K room (C.d.s.x.n*C.d.s.y.n*C.m.c) (C.d.X*C.d.Y*C.m.c))):=by
 apply Mx;unfold CN;have ct:=HK;obtain⟨X,Y,rfl,HX,HY⟩:=HK;rw[bG];refine aC λbs g1 r1 e1 n1=>aC λb3 g3 r3 e3 n3=>?_
 have k1:=aW r1;have k3:=aW r3;have s1:=e1.1;have s3:=e3.1;have r1:=e3.row r1;have E3:=e1.trans e3;have aw:=uq.ext ct E3;have oX:=HX.one;have oY:=HY.one;refine aV (λxs g=>∃x tv cv wv Zr,xs=[ptr x]∧PreN C K N room X Y g3 x tv cv wv Zr g) ?_ ?_
 ·refine aI (Ext g3) (Ext.refl _) ?_;have q2:∀U,Ext g3 U→aH 5 U (ptr bs)=some (.agg [X,Y,.int .i64 C.d.s.x.n,.int .i64 C.d.s.y.n,.int .i64 C.d.s.border].toArray):=λU e=>aM (e.row r1) 5 rfl
  refine ao _ q2 ?_;refine ao _ q2 ?_;have ek:ag .i .add (.int .i64 (K:Int)) (.int .i64 1)=some (.int .i64 ((K:Int)+1)):=by
   show some (Value.int .i64 (IntKind.i64.wrap ((K:Int)+1)))=_;rw[w64 (by omega) (by omega)]
  rw[ek,ah];have M0:=StN.start C K N room g3
  repeat' first
   |exact StN.ext ‹StN _ _ _ _ _ _ _ _ _ _ _›
   |refine And.intro ?_ ?_
   |refine StN.call_t ‹StN _ _ _ _ _ none _ _ _ _ _› aw O hN ci hX hY few λv U M=>?_
   |refine StN.call_q ‹StN _ _ _ _ _ _ none _ _ _ _› λv U M=>?_
   |refine StN.call_c ‹StN _ _ _ _ _ _ _ none _ _ _› (by omega) λv U M=>?_
   |refine StN.mk_w ‹StN _ _ _ _ _ _ _ _ none _ _› (by omega) (by omega) λv U M=>?_
   |refine StN.new_p ‹StN _ _ _ _ _ _ _ _ _ none _› λx U M=>?_
   |refine StN.vk_fill ‹StN _ _ _ _ _ (some _) (some _) (some _) (some _) _ _› oX oY ?_
   |refine StN.fin ‹StN _ _ _ _ _ (some _) (some _) (some _) (some _) (some _) _› oX oY λZr U H=>⟨_,_,_,_,Zr,rfl,H⟩
 rintro xs ρ g ⟨x,tv,cv,wv,Zr,rfl,rx,eg,nx,zr,Ht,Hc,Hw⟩;have kx:=aW rx;have sg:=eg.1;have c6:aB g ⟨x,6,none⟩=some tv:=ai rx;have cc:aq tv=some (.int .i64 (N:Int)):=by obtain⟨a,c,e⟩:=Ht.isSl;rw[e];simp[aq,cR]
 have ab:∀c,Z c→¬c=x:=λc hc h=>by have:=zl c hc;omega
 simp only[gb,go_sem,Nat.zero_add,c6,cc];refine bA (α:=Unit) N 0 (λi _=>[.int .i64 (i:Int)]) (λi _ F=>∃mv Zm,F[x]? =some (.cells (dpC C (Bh K room) ⟨X,Y,tv,mv,yY,cv,wv,yY,yY,yY,yY⟩).toArray 48 (0,0))∧Fr (λk=>k=x) g F∧Rp.Ow XG Zm F mv (BX C i)∧∀k,(blk mv k∨Zm k)→g.size≤k∧k<F.size) () rfl (Nat.zero_le _) ⟨yY,λ_=>False,rx,Fr.refl _ _,Rp.Ow.nil,λk A=>A.elim (λh=>h.elim) False.elim⟩ λi _ F again ρ' _ hi ⟨mv,Zm,W,fx,om,zm⟩ bk=>?_
 have sx:=fx.1;have rS:=fx.row (eg.row r1) (show¬bs=x by omega);simp only[gb];rw[bU,ah];refine aj (λc1=>?_) (λc1=>?_)
 ·have bd:i<N:=by omega
  have b0:=Ht.fr fx λk _ A=>(zr k A).2.2
  obtain⟨pt,cs,a1,a2,a3⟩:=b0.atw (show 0<10 by omega) (k:=.i64) (i:=i) (by simp[cR];omega);have a1:aR 10 tv (.int .i64 (i:Int))=some pt:=a1;have a2:aH 10 F pt=some (.agg cs.toArray):=a2;have et:(cR C.d N)[i]'(by simp[cR];omega)=aG C.d i:=by simp[cR]
  rw[et]at a3;obtain⟨f0,f1,f3,f5,ec⟩:=a3;rw[a1,ah,a2,ah];refine cD (cs:=cs) (by rw[ec];rfl) (Bf.one (Z:=Zr) (h:=F) (x:=aG C.d i) ⟨f0,f1,f3,f5,ec⟩) (by rw[ec];rfl) λb5 g5 r5 e5 n5=>?_
  rw[ec]at r5;have s5:=e5.1;refine aI (Ext g5) (Ext.refl _) ?_;simp only[go_sem,Nat.zero_add];refine ao mv (λk e=>ai (e.row (e5.row W))) ?_;refine ao (.agg [X,Y,.int .i64 C.d.s.x.n,.int .i64 C.d.s.y.n,.int .i64 C.d.s.border].toArray) (λk e=>aM (e.row (e5.row rS)) 5 rfl) ?_
  try simp only[go_sem,Nat.zero_add]
  refine ao (.int .i64 (aG C.d i).y) (λk e=>ai (e.row r5)) ?_
  try simp only[go_sem,Nat.zero_add]
  refine ao (.int .i64 (aG C.d i).h) (λk e=>ai (e.row r5)) ?_;have hw:=iu O.d (i:=(i:Int)) (by omega) (by omega);unfold dG at hw;have K5:uq.R Z g5 [X,Y,.int .i64 C.d.s.x.n,.int .i64 C.d.s.y.n,.int .i64 C.d.s.border] C.d.s:=uq.ext (uq.fr (uq.ext aw eg) fx λk _ A=>ab k A) e5;refine(QP (m:=C.m) (t:=aG C.d i) K5 O.s hw.2.2.2.1 hw.2.1 (by omega)).mono λsv g6 G=>⟨G.2.1,?_⟩
  have s6:=G.2.1.1;have a9:(BX C i).length=i:=by simp[BX]
  refine P6 (e:=XG) (x:=MZ C.E (some (Lw C.d i))) (P:=blk sv) (Q:=Ext g5) rfl (om.ext (e5.trans G.2.1)) ⟨sv,rfl,G.sl,G.1.slcap⟩ rfl (by rw[a9];omega) (by rw[a9];omega) (λb hb=>by have:=(zm b (.inr hb)).2;omega) (λb hb=>⟨G.lt hb,λhv=>by have:=G.2.2 b hb;have:=(zm b (.inl hv)).2;omega⟩) (λh' e=>G.2.1.trans e) λv7 g7 o7 f7 n7=>?_
  have s7:=f7.1;have cr:=f7.row ((e5.trans G.2.1).row W) (show¬blk mv x from λh=>by have:=(zm x (.inl h)).1;omega);have cp:(i:Int)+1=((i+1:Nat):Int):=by omega
  try simp only[go_sem,Nat.zero_add]
  refine bK cr (by simp[dpC]) o7.one λg8 r8 u8=>?_
  have s8:=u8.1
  try simp only[go_sem]
  rw[w64 (n:=(i:Int)+1) (by omega) (by omega),cp];have hz:∀k,(blk v7 k∨(Zm k∨blk sv k))→g.size≤k∧k<g7.size:=λk A=>by
   rcases A with A|A|A
   ·refine⟨?_,o7.lt A⟩;rcases n7 k A with h|h
    ·exact(zm k (.inl h)).1
    ·omega
   ·have:=zm k (.inr A);omega
   ·have:=G.2.2 k A;have:=G.lt A;omega
  refine bk () g8 bd ⟨v7,λb=>Zm b∨blk sv b,r8,((fx.after (e5.trans G.2.1).fr λ_ _ h=>False.elim h).after f7 λc hc h=>by have:=(zm c (.inl h)).1;omega).after u8.fr λc _ h=>h,?_,λk A=>by rw[s8];exact hz k A⟩;rw[Ov];exact o7.fr u8.fr (λk _ A h=>by have:=(hz k (.inr A)).1;omega) λk A h=>by have:=(hz k (.inl A)).1;omega
 ·have:i=N:=by omega
  subst this;have q0:∀k,k<g.size→Zr k→¬k=x:=λk _ A=>(zr k A).2.2
  have EG:=E3.trans eg
  let Z':Nat→Prop:=λk=>(Z k∨Zr k∨blk mv k∨Zm k)∧k<F.size
  have zz:∀k,Z' k→(Z k∨h.size≤k)∧k<F.size∧k≠x∧k≠b3:=λk A=>by
   obtain⟨A,lt⟩:=A;rcases A with A|A|A|A
   ·have:=zl k A;exact⟨.inl A,lt,by omega,by omega⟩
   ·have:=zr k A;exact⟨.inr (by omega),lt,by omega,by omega⟩
   ·have:=zm k (.inl A);exact⟨.inr (by omega),lt,by omega,by omega⟩
   ·have:=zm k (.inr A);exact⟨.inr (by omega),lt,by omega,by omega⟩
  have D:DAt Z' C K i (Bh K room) ⟨X,Y,tv,mv,yY,cv,wv,yY,yY,yY,yY⟩ F:=
   ⟨((HX.ext EG).fr fx λk _ A=>ab k A).mono λk lt A=>⟨.inl A,lt⟩,((HY.ext EG).fr fx λk _ A=>ab k A).mono λk lt A=>⟨.inl A,lt⟩,(Ht.fr fx q0).mono λk lt A=>⟨.inr (.inl A),lt⟩,om.sl.mono λk lt A=>⟨.inr (.inr (A.elim .inr .inl)),lt⟩,⟨Rp.Sl.nil,_,_,_,rfl,Nat.le_refl _⟩,
    (Hc.fr fx q0).mono λk lt A=>⟨.inr (.inl A),lt⟩,(Hw.fr fx q0).mono λk lt A=>⟨.inr (.inl A),lt⟩,Rp.Sl.nil,Rp.Sl.nil,Rp.Sl.nil,Rp.Sl.nil⟩
  have c2:aB F ⟨bs,2,none⟩=some (.int .i64 C.d.s.x.n):=ai rS;have c3:aB F ⟨bs,3,none⟩=some (.int .i64 C.d.s.y.n):=ai rS;rw[aM W 20 rfl,ah];simp only[go_sem,Nat.zero_add,c2,c3];rw[w64 (n:=C.d.s.x.n*C.d.s.y.n) (by omega) (by omega),w64 (n:=C.d.s.x.n*C.d.s.y.n*C.m.c) (by omega) (by omega)];refine(LN (who:=0) D (λc hc=>(zz c hc).2.1) (Nat.zero_le _) (by simp[Bh]) (Int.le_refl _) b1.1 (by omega)).mono λr g9 D9=>?_
  obtain⟨Z9,V9,er,H9,z9,e9⟩:=D9;subst er;have s9:=e9.1;have al:∀k,Z9 k→(Z k∨h.size≤k)∧k<g9.size∧k≠x∧k≠b3:=λk A=>by
   rcases(z9 k A).1 with h1|h1
   ·have:=zz k h1;exact⟨this.1,(z9 k A).2,this.2.2⟩
   ·exact⟨.inr (by omega),(z9 k A).2,by omega,by omega⟩
  refine ch (e9.row W) (by rfl) H9.ones (by rfl) λau bg L=>?_
  have cw:=L.1;have aa:=L.row (show bs≠x by omega) (e9.row rS);have bv:=H9.fr L.fr λk _ A=>(al k A).2.2.1
  obtain⟨ax,cx,ex⟩:=HX.isSl;obtain⟨ay,cy,ey⟩:=HY.isSl;have b6:aq X=some (.int .i64 C.d.X):=by rw[ex];rfl
  have ca:aq Y=some (.int .i64 C.d.Y):=by rw[ey];rfl
  have c0:aB au ⟨bs,0,none⟩=some X:=ai aa;have b7:aB au ⟨bs,1,none⟩=some Y:=ai aa;rw[aM bg 20 rfl,ah];simp only[go_sem,Nat.zero_add,c0,b7,b6,ca];rw[w64 (n:=C.d.X*C.d.Y) (by omega) (by omega),w64 (n:=C.d.X*C.d.Y*C.m.c) (by omega) (by omega)];refine(LN (who:=0) bv (λc hc=>by have:=(al c hc).2.1;omega) (Nat.zero_le _) (by simp[Bh,qG]) (Int.le_refl _) b2.1 (by omega)).mono λr b8 bc=>?_
  obtain⟨a8,cb,er,a7,an,ad⟩:=bc;subst er;have c4:=ad.1;have be:=ad.row (L.row (show b3≠x by omega) (e9.row (fx.row (eg.row r3) (show¬b3=x by omega))));have I:∀k,a8 k→(Z k∨h.size≤k)∧k<b8.size∧k≠b3:=λk A=>by
   rcases(an k A).1 with h1|h1
   ·have:=al k h1;exact⟨this.1,(an k A).2,this.2.2.2⟩
   ·exact⟨.inr (by omega),(an k A).2,by omega⟩
  refine ch be (by rfl) a7.ones (by rfl) λcu bo ar=>?_
  rw[aM bo 20 rfl,ah];have EX:Ext h F:=EG.then_fr fx λc hc=>by have hc:c=x:=hc;omega
  exact⟨a8,cb,rfl,a7.fr ar.fr λk _ A=>(I k A).2.2,λk A=>⟨(I k A).1,by rw[ar.1];exact(I k A).2.1⟩,(((EX.trans e9).upd (by omega) L).trans ad).upd (by omega) ar⟩
end
section
section
variable {C:C21}{Z:Nat→Prop}{K:Nat}{h0 h:af}{bw:Nat→Nat}{bp:Nat}{o:Nat→Nat}{n:Pic}{P:bL}
theorem Pm (O:C.Ok)(H:dJ C Z K h0 bw bp o n P h){N:Nat}(hN:(N:Int)=bO C.d)(ay:N≤4096)(hs:gP C N 0≤1000000000):
  ae prog mE #[ptr bp] h λr h'=>r=.int .i64 ((2*N+K+2+gP C N 0:Nat):Int)∧Ext h h':=by
 have HP:=H;obtain⟨V,H,row⟩:=H.row;apply BP;unfold rO;have hK:=H.few;have c2:aB h ⟨bp,2,none⟩=some (ptr C.bl):=ai row;have c6:aB h ⟨bp,6,none⟩=some V.wv:=ai row;have D:=SlC.len (H.wk id).1;refine aI (λk=>k=h) rfl ?_;simp only[go_sem,Nat.zero_add];refine ao (ptr C.bl) (λk e=>by rw[e];exact c2) ?_
 try simp only[go_sem,Nat.zero_add]
 refine ao V.wv (λk e=>by rw[e];exact c6) ?_;refine ao (.int .i64 (K:Int)) (λ_ _=>D) ?_;refine ae.at (Ag H.pl O.d) ⟨rfl,?_⟩;rw[←hN];simp only[go_sem];rw[w64 (n:=2*(N:Int)) (by omega) (by omega),w64 (n:=2*(N:Int)+K) (by omega) (by omega),w64 (n:=2*(N:Int)+K+2) (by omega) (by omega),c2,ah];refine(Ta H.pl O.d hN (by omega)).mono λav g3 NA=>?_
 obtain⟨aa,ca,ea⟩:=NA.sl.isSl;have W:(cR C.d N).length=N:=by simp[cR]
 have au:aq av=some (.int .i64 (N:Int)):=by rw[ea];show some (Value.int .i64 ((cR C.d N).length:Int))=_;rw[W]
 rw[au,ah];refine bA (α:=Unit) N 0 (λi _=>[.int .i64 (2*(N:Int)+K+2+(gP C i 0:Nat)),.int .i64 (i:Int)]) (λi _ g=>Ext g3 g) () (by simp[gP]) (Nat.zero_le _) (Ext.refl _) λi _ g4 again ρ _ hi L I=>?_
 simp only[gb,uA];have E4:=NA.2.1.trans L;have H4:=H.ex E4;rw[bU,ah];refine aj (λg1=>?_) (λg1=>?_)
 ·have ab:i<N:=by omega
  obtain⟨pt,F,q1,q2,G⟩:=(NA.sl.ext L).atw (show 0<10 by omega) (k:=.i64) (i:=i) (by omega);have q1:aR 10 av (.int .i64 (i:Int))=some pt:=q1;have q2:aH 10 g4 pt=some (.agg F.toArray):=q2;have G:F=cS (cR C.d N)[i]:=G;have q4:(cR C.d N)[i]=aG C.d i:=by simp[cR]
  rw[q4]at G;subst G;rw[q1,ah,q2,ah];refine cD (cs:=cS (aG C.d i)) rfl (iV _) rfl λb5 g5 r5 e5 n5=>?_
  have U:=H4.ex e5;have A:=U.p id;refine aI (Ext g5) (Ext.refl _) ?_
  try simp only[go_sem,Nat.zero_add]
  refine ao (ptr C.bl) (λk e=>ai (e.row A)) ?_;refine ao (.agg (cS (aG C.d i)).toArray) (λk e=>aM (e.row r5) 10 rfl) ?_;refine(Ni U.pl).mono λr g6 ⟨er,D⟩=>?_
  subst er;refine⟨D,?_⟩;have H6:=U.ex D;rw[H.zl.2.1,H.zl.2.2];refine ae.to (WX C.m H6.set.tx H6.set.ty O.s) λg7 e7=>?_
  rw[if_pos (iu O.d (by omega) (by omega))];have an:vV C.d.s (aG C.d i) C.m=nC C i:=rfl;rw[an];have ax:gP C (i+1) 0=gP C i 0+nC C i:=by
   rw[GM C i 1 0,Nat.zero_add];show _+(nC C i+0)=_;omega
  have aw:gP C N 0=gP C (i+1) 0+gP C (N-(i+1)) (0+(i+1)):=by rw[←GM];congr 1;omega
  have ad:2*(N:Int)+K+2+(gP C i 0:Nat)+(nC C i:Int)=2*(N:Int)+K+2+(gP C (i+1) 0:Nat):=by omega
  have al:(i:Int)+1=((i+1:Nat):Int):=by omega
  try simp only[go_sem]
  rw[ad,w64 (n:=2*(N:Int)+K+2+(gP C (i+1) 0:Nat)) (by omega) (by omega),w64 (n:=(i:Int)+1) (by omega) (by omega),al];exact I () g7 ab (L.trans (e5.trans (D.trans e7)))
 ·have ar:i=N:=by omega
  subst ar;refine⟨?_,E4⟩
  congr 1
end
end
end Go.Proofs.YtjljhnandbbldaaGreatDoor
namespace Go.Proofs.YtjljhnandbbldaaGreatDoor
open Go Go.Crisp
attribute [local irreducible] ae cE aP stK aA vK qK bC gK dK aU mkK cF Ch DH zZ bsK clK qQ lW Rw
section
def yW (a b:Nat):List Int:=(List.range' a (b-a)).map λi:Nat=>(i:Int)
theorem Ss {a b:Nat}(h:a≤b):yW a (b+1)=yW a b++[(b:Int)]:=by
 unfold yW;rw[show b+1-a=(b-a)+1 by omega,List.range'_concat,List.map_append]
 congr 1
 simp;omega
theorem Ot {a b:Nat}(h:a<b):yW a b=(a:Int)::yW (a+1) b:=by
 unfold yW;rw[show b-a=(b-(a+1))+1 by omega,List.range'_succ];rfl
theorem Lj {a b:Nat}:yW a b=[]↔b≤a:=by
 unfold yW;simp;omega
def sW (K:Nat)(f:Nat→Nat):Nat:=((List.range K).map f).sum
theorem rl (K:Nat)(f:Nat→Nat):sW (K+1) f=sW K f+f K:=by simp[sW,List.range_succ]
theorem Eh {K:Nat}{f g:Nat→Nat}(h:∀i,i<K→f i=g i):sW K f=sW K g:=by
 unfold sW
 congr 1
 exact List.map_congr_left λi hi=>h i (List.mem_range.1 hi)
theorem TF {f g:Nat→Nat}{k:Nat}(h:∀i,i≠k→g i=f i):∀K,k<K→sW K g+f k=sW K f+g k:=by
 intro K;induction K with
 |zero=>intro D;omega
 | succ K A=>
  intro D;rw[rl,rl];by_cases e:k=K
  ·subst e;rw[Eh (f:=g) (g:=f) λi hi=>h i (by omega)];omega
  ·have:=A (by omega);rw[h K (by omega)];omega
def iS (w:WD):Nat:=if w.state=2 then 1 else 0
theorem M7 (K:Nat)(ws:Nat→WD):sW K (λk=>iS (ws k))≤K:=by
 induction K with
 |zero=>exact Nat.le_refl _
 |succ K A=>rw[rl];unfold iS at A ⊢;split<;>omega
theorem Un {K:Nat}{ws:Nat→WD}(h:sW K (λk=>iS (ws k))=K):∀k,k<K→(ws k).state=2:=by
 induction K with
 |zero=>intro k D;omega
 | succ K A=>
  rw[rl]at h;have h1:=M7 K ws;have F:iS (ws K)≤1:=by unfold iS;split<;>omega
  intro k D;by_cases e:k=K
  ·subst e;have:iS (ws k)=1:=by omega
   unfold iS at this;split at this
   ·assumption
   ·omega
  ·exact A (by omega) k (by omega)
def nO (C:C21)(w:WD)(n:Pic):Prop:=
 ∀x y c,inP n x y c→∀i∈w.tiles,I9 (aG C.d i) x y→(∀t yy e,w.job=some (t,yy,e)→i=w.tiles.getLast?.getD 0→y<yy)→atP n x y c=ut C.m C.d.s x y c
structure kG (C:C21)(K N tk:Nat)(P:bL)(n:Pic):Prop where
 ok:jZ C K P
 nn:(N:Int)=bO C.d
 sn:(tk:Int)≤P.sent
 ql:P.q.l=yW tk P.sent.toNat
 rm:1≤P.q.room
 cov:∀x:Nat,x<tk→∃k,k<K∧(x:Int)∈(P.ws k).tiles
 gone:∀k,k<K→(P.ws k).state=2→P.q.l=[]∧P.q.closed=true
 cnt:P.left.length=sW K λk=>iS (P.ws k)
 rt:P.ret=true→P.q.closed=true∧P.left.length=K
 rem:P.picks+((N-P.sent.toNat)+(if P.q.closed=true then 0 else 1)+(if P.ret=true then 0 else 1)+(N-tk)+gP C (N-tk) tk+sW K (λk=>muJ C.E (P.ws k).job)+(K-P.left.length):Nat)=(2*N+K+2+gP C N 0:Nat)
 paint:∀k,k<K→nO C (P.ws k) n
theorem GD (C:C21)(K:Nat)(P:bL)(k:Nat):(qk C K P k).q=(gT C P k).q∧(qk C K P k).ws=(gT C P k).ws∧(qk C K P k).words=(gT C P k).words∧(qk C K P k).sent=P.sent∧(qk C K P k).ret=P.ret∧(qk C K P k).picks=P.picks∧(qk C K P k).left.length=P.left.length+if(evP C P k).1=3 then 1 else 0:=by
 unfold qk;split
 ·rename_i h;rw[h];exact⟨rfl,rfl,rfl,rfl,rfl,rfl,rfl⟩
 ·split
  ·rename_i h1 A;rw[if_neg (by omega)];unfold wn;split<;>exact⟨rfl,rfl,rfl,rfl,rfl,rfl,rfl⟩
  ·split
   ·refine⟨rfl,rfl,rfl,rfl,rfl,rfl,?_⟩;show(P.left++[_]).length=_;simp
   ·exact⟨rfl,rfl,rfl,rfl,rfl,rfl,rfl⟩
section
variable {C:C21}{K N tk:Nat}{P:bL}{n n':Pic}
theorem Ue (H:kG C K N tk P n)(h1:gX C K P 0=true):kG C K N tk (mY C K P 0) n:=by
 have A:=Rt H.ok 0;have hs:=H.ok.sent;have hn:=H.nn;have aa:=H.sn;have G:=H.rem;have D:P.ret=false:=by
  unfold gX at h1;rw[if_neg (by omega),if_neg (by omega)]at h1;split at h1
  ·cases h1
  ·rename_i h;simpa using h
 rw[D]at G;have I:(if P.sent<bO C.d then decide (rZ P.q≠1)else !P.q.closed||decide (P.left.length=K))=true:=by
  unfold gX at h1;rw[if_neg (by omega),if_neg (by omega),D]at h1;simpa using h1
 have e:mY C K P 0=DL C K {P with picks:=P.picks+1}:=by
  unfold mY;rw[h1,if_neg (by simp),if_pos rfl]
 rw[e]at A ⊢;unfold DL at A ⊢;by_cases g:P.sent<bO C.d
 ·have hc:P.q.closed=false:=by
   cases h:P.q.closed with
   |false=>rfl
   |true=>have:=H.ok.cl h;omega
  rw[if_pos g]at A I ⊢;have F:rZ P.q≠1:=by simpa using I
  have hq:mW P.q P.sent={P.q with l:=P.q.l++[P.sent]}:=by
   unfold rZ at F;unfold mW;rw[hc]at F ⊢;simp only[Bool.false_eq_true,if_false]at F ⊢;split at F
   ·exact absurd rfl F
   ·rename_i h;rw[if_neg h];simp[hc]
  have W:(P.sent+1).toNat=P.sent.toNat+1:=by omega
  have U:((P.sent.toNat:Nat):Int)=P.sent:=by omega
  refine⟨A,H.nn,by show(tk:Int)≤P.sent+1;omega,?_,?_,H.cov,λk L h=>?_,H.cnt,λh=>?_,?_,H.paint⟩
  ·show(mW P.q P.sent).l=yW tk (P.sent+1).toNat;rw[hq,W,Ss (by omega),←H.ql,U]
  ·show 1≤(mW P.q P.sent).room;rw[hq];exact H.rm
  ·have:=(H.gone k L h).2;rw[hc]at this;cases this
  ·have h:P.ret=true:=h;rw[D]at h;cases h
  ·show P.picks+1+((N-(P.sent+1).toNat)+(if(mW P.q P.sent).closed=true then 0 else 1)+(if P.ret=true then 0 else 1)+(N-tk)+gP C (N-tk) tk+sW K (λk=>muJ C.E (P.ws k).job)+(K-P.left.length):Nat)=(2*N+K+2+gP C N 0:Nat);rw[hq,D,hc];rw[hc]at G;simp only[Bool.false_eq_true,if_false]at G ⊢;omega
 ·rw[if_neg g]at A I ⊢;cases hc:P.q.closed with
  | false=>
   rw[hc]at A G;rw[if_pos rfl]at A ⊢;refine⟨A,H.nn,H.sn,H.ql,H.rm,H.cov,λk L h=>?_,H.cnt,λh=>?_,?_,H.paint⟩
   ·have:=(H.gone k L h).2;rw[hc]at this;cases this
   ·have h:P.ret=true:=h;rw[D]at h;cases h
   ·show P.picks+1+((N-P.sent.toNat)+(if true=true then 0 else 1)+(if P.ret=true then 0 else 1)+(N-tk)+gP C (N-tk) tk+sW K (λk=>muJ C.E (P.ws k).job)+(K-P.left.length):Nat)=(2*N+K+2+gP C N 0:Nat);rw[D];simp only[Bool.false_eq_true,if_false,if_true]at G ⊢;omega
  |true=>
   rw[hc]at A G I;rw[if_neg (by simp)]at A ⊢;have hl:P.left.length=K:=by simpa using I
   refine⟨A,H.nn,H.sn,H.ql,H.rm,H.cov,H.gone,H.cnt,λ_=>⟨hc,hl⟩,?_,H.paint⟩;show P.picks+1+((N-P.sent.toNat)+(if P.q.closed=true then 0 else 1)+(if true=true then 0 else 1)+(N-tk)+gP C (N-tk) tk+sW K (λk=>muJ C.E (P.ws k).job)+(K-P.left.length):Nat)=(2*N+K+2+gP C N 0:Nat);rw[hc];simp only[Bool.false_eq_true,if_false,if_true]at G ⊢;omega
theorem nO.keep {w:WD}(H:nO C w n)(D:dp n n')(k:∀x y c,inP n x y c→atP n x y c=ut C.m C.d.s x y c→atP n' x y c=ut C.m C.d.s x y c):nO C w n':=
 λx y c hi i h1 F A=>k x y c (D.inP.1 hi) (H x y c (D.inP.1 hi) i h1 F A)
theorem LG {w:WD}(D:zR (some C.E) w n n'):∀x y c,inP n x y c→atP n x y c=ut C.m C.d.s x y c→atP n' x y c=ut C.m C.d.s x y c:=by
 intro x y c hi h;obtain⟨I,A⟩:=D;cases F:w.job with
 |none=>rw[F]at A;rw[A];exact h
 | some j=>
  obtain⟨t,H,e⟩:=j;rw[F]at A;obtain⟨_,_,d1,d2⟩:=A;by_cases G:bP (C.E.d t) H e=2
  ·rw[d2 G x y c hi];split
   ·rfl
   ·exact h
  ·rw[d1 G];exact h
theorem nO.move (O:C.Ok){w:WD}{t:co}{y e:Int}(hj:w.job=some (t,y,e))(h0:0≤w.tiles.getLast?.getD 0)(h1:w.tiles.getLast?.getD 0<bO C.d)(ht:t=aG C.d (w.tiles.getLast?.getD 0))(su:C.suits n)(H:nO C w n)(D:zR (some C.E) w n n'){w':WD}(ad:w'.tiles=w.tiles)(ab:w'.job=bZ (some C.E) (some (t,eU (C.E.d t) y e,fZ (C.E.d t) y e))):nO C w' n':=by
 have U:=LG D;obtain⟨D1,D2⟩:=D;rw[hj]at D2;obtain⟨O1,O2,d1,d2⟩:=D2;have hr:=(C21.newC O su h0 h1)
 have RO:=O.s.room (m:=C.m) (n:=n) (t:=t) O.m (by rw[ht];exact hr);intro W L c' hi i aa A hl;rw[ad]at aa hl;rw[ab]at hl;have F:inP n W L c':=D1.inP.1 hi;by_cases I:i=w.tiles.getLast?.getD 0
 ·rw [I,←ht]at A;have hy:L<eU (C.E.d t) y e:=by
   by_cases h0:bP (C.E.d t) (eU (C.E.d t) y e) (fZ (C.E.d t) y e)=0
   ·unfold bP at h0;split at h0
    ·rename_i h1;have h1:t.y+t.h≤eU (C.E.d t) y e:=h1;unfold I9 at A;omega
    ·split at h0<;>omega
   ·exact hl t _ _ (if_neg h0) I
  rcases Int.lt_or_le L y with h2|h2
  ·exact U W L c' F (H W L c' F i aa (by rw[I,←ht];exact A) λt2 yy e2 h3 _=>by rw[hj]at h3;cases h3;exact h2)
  ·have hK:bP (C.E.d t) y e=2:=by
    unfold eU at hy;split at hy
    ·assumption
    ·omega
   have hY:eU (C.E.d t) y e=y+1:=if_pos hK;have ey:L=y:=by omega
   rw[d2 hK W L c' F,if_pos];refine⟨ey,A.1,A.2.1,?_⟩;have G:=RO.wid;have G:(dP (t.w*C.m.c):Int)=t.w*C.m.c:=G;rw[G];show(W-t.x)*C.m.c+c'<t.w*C.m.c;have hc:c'<C.m.c:=by have:=F.2.2.2.2.2;rw[←su.2.2.2.2.1];exact this
   have hx:=A.2.1;have:(W-t.x+1)*C.m.c≤t.w*C.m.c:=Int.mul_le_mul_of_nonneg_right (by omega) (by have:=F.2.2.2.2.1;omega);rw[Int.add_mul,Int.one_mul]at this;omega
 ·exact U W L c' F (H W L c' F i aa A λt2 yy e2 _ h3=>absurd h3 I)
theorem nO.take (O:C.Ok){w:WD}{x:Int}(h0:0≤x)(h1:x<bO C.d)(hj:w.job=none)(H:nO C w n){w':WD}(U:w'.tiles=w.tiles++[x])(L:w'.job=bZ (some C.E) (C.jo x)):nO C w' n:=by
 intro x' y' c' hi i F D G;rw[U]at F G;rw[L]at G;by_cases A:i=x
 ·subst A;have hw:=iu O.d h0 h1;have I:bP (C.E.d (aG C.d i)) (aG C.d i).y (lnF C.d.s.y (aG C.d i).y)≠0:=by
   unfold bP;rw[if_neg (by show¬(aG C.d i).y+(aG C.d i).h≤(aG C.d i).y;unfold dG at hw;omega)];split<;>omega
  have hs:bZ (some C.E) (C.jo i)=C.jo i:=if_neg I;rw[hs]at G;have:=G _ _ _ rfl (by simp);unfold I9 at D;omega
 ·rcases List.mem_append.1 F with h|h
  ·exact H x' y' c' hi i h D λt yy e W _=>by rw[hj]at W;cases W
  ·exact absurd (List.mem_singleton.1 h) A
end
end
section
section
variable {C:C21}{K N tk:Nat}{P:bL}{n n':Pic}
theorem TG (K:Nat):sW K (λ_=>1)=K:=by
 induction K with
 |zero=>rfl
 |succ K A=>rw[rl,A]
theorem GL (K:Nat):sW K (λ_=>0)=0:=by
 induction K with
 |zero=>rfl
 |succ K A=>rw[rl,A]
theorem Tz (O:C.Ok)(H:kG C K N tk P n){k:Nat}(hk:k<K)(h1:gX C K P ((k:Int)+1)=true)(bk:∀t y e,(P.ws k).job=some (t,y,e)→e≤lnE C.d.s.y y)(su:C.suits n)(D:zR (some C.E) (P.ws k) n n'):∃bc,kG C K N bc (mY C K P ((k:Int)+1)) n':=by
 have ad:=Rt H.ok ((k:Int)+1);have ek:((k:Int)+1-1).toNat=k:=by omega
 have au:mY C K P ((k:Int)+1)=qk C K {P with picks:=P.picks+1} k:=by
  unfold mY;rw[h1,if_neg (by simp),if_neg (by omega),ek]
 rw[au]at ad ⊢
 clear au
 obtain⟨f1,f2,f3,f4,f5,f6,f7⟩:=GD C K {P with picks:=P.picks+1} k;generalize qk C K {P with picks:=P.picks+1} k=Q at ad f1 f2 f3 f4 f5 f6 f7 ⊢;have f4:Q.sent=P.sent:=f4;have f5:Q.ret=P.ret:=f5;have f6:Q.picks=P.picks+1:=f6;have f1:Q.q=(cn (some C.E) (C.jo (bH P.q)) (P.ws k) P.q).2.1:=f1;have f2:Q.ws=λi=>if i=k then(cn (some C.E) (C.jo (bH P.q)) (P.ws k) P.q).1 else P.ws i:=f2
 have f7:Q.left.length=P.left.length+if(cn (some C.E) (C.jo (bH P.q)) (P.ws k) P.q).2.2.1=3 then 1 else 0:=f7
 have hs:=H.ok.sent;have hn:=H.nn;have a7:=H.sn;have hr:=H.rem;have Wk:=H.ok.w k hk;have aw:(P.ws k).state=1∨((P.ws k).state=0∧dh P.q≠1):=by
  unfold gX at h1;split at h1
  ·cases h1
  ·rw[if_pos (by omega),ek]at h1;simpa using h1
 have L:∀(f:WD→Nat),sW K (λi=>f (Q.ws i))+f (P.ws k)=sW K (λi=>f (P.ws i))+f (cn (some C.E) (C.jo (bH P.q)) (P.ws k) P.q).1:=λf=>by
  have:=TF (f:=λi=>f (P.ws i)) (g:=λi=>f (Q.ws i)) (k:=k) (λi hi=>by rw[f2];simp only[if_neg hi]) K hk;rw[f2]at this ⊢;simp only[if_true]at this;exact this
 have F:∀j,j<K→j≠k→Q.ws j=P.ws j:=λj _ h=>by rw[f2];simp only[if_neg h]
 have A:Q.ws k=(cn (some C.E) (C.jo (bH P.q)) (P.ws k) P.q).1:=by rw[f2];simp only[if_true]
 have ay:=LG D;have pO:∀j,j<K→j≠k→nO C (Q.ws j) n':=λj hj h=>by rw[F j hj h];exact(H.paint j hj).keep D.1 ay
 rcases Wk.st with⟨s1,s2,s3⟩|⟨s1,s2⟩
 ·-- it moves
  cases hj:(P.ws k).job with
  |none=>rw[hj]at s2;exact(show False from s2).elim
  | some jj=>
   obtain⟨t,y,e⟩:=jj;rw[hj]at s2;have s2:bP (C.E.d t) y e≠0:=s2;have es:cn (some C.E) (C.jo (bH P.q)) (P.ws k) P.q=(⟨stJ (bZ (some C.E) (some (t,eU (C.E.d t) y e,fZ (C.E.d t) y e))),(P.ws k).tiles,bZ (some C.E) (some (t,eU (C.E.d t) y e,fZ (C.E.d t) y e)),(P.ws k).words⟩,P.q,(2,(P.ws k).tiles.getLast?.getD 0,bP (C.E.d t) y e,fY (C.E.d t) y e)):=by
    unfold cn;rw[if_pos s1,hj]
   rw[es]at f1 f7 A L;have f1:Q.q=P.q:=f1;have f7:Q.left.length=P.left.length:=by rw[f7];simp
   have hl:=Wk.tl _ (OG s3);obtain⟨j1,j2⟩:=Wk.jb t y e hj;have al:=L λw=>muJ C.E w.job
   have ab:=L iS;have g0:iS (P.ws k)=0:=by unfold iS;rw[if_neg (by omega)]
   have gs:∀jo,iS ⟨stJ jo,(P.ws k).tiles,jo,(P.ws k).words⟩=0:=λjo=>by unfold iS;rw[if_neg];cases jo with|none=>exact(by decide:¬(0:Int)=2)|some x=>exact(by decide:¬(1:Int)=2)
   simp only[Lk,hj]at al;have b2:muJ C.E (some (t,y,e))=pH (C.E.d t) y e:=rfl;have b0:=SD (d:=C.E.d t) s2 (bk t y e hj);simp only[gs,g0]at ab;refine⟨tk,ad,H.nn,by rw[f4];exact a7,by rw[f1,f4];exact H.ql,by rw[f1];exact H.rm,λx hx=>?_,λj G h=>?_,by rw[f7,H.cnt];omega,λh=>by rw[f5]at h;rw[f1,f7];exact H.rt h,?_,λj G=>?_⟩
   ·obtain⟨j,W,aa⟩:=H.cov x hx;refine⟨j,W,?_⟩;by_cases I:j=k
    ·subst I;rw[A];exact aa
    ·rw[F j W I];exact aa
   ·rw[f1];by_cases I:j=k
    ·subst I;rw[A]at h;have:=gs (bZ (some C.E) (some (t,eU (C.E.d t) y e,fZ (C.E.d t) y e)));unfold iS at this;rw[if_pos h]at this;omega
    ·rw[F j G I]at h;exact H.gone j G h
   ·rw[f1,f4,f5,f6,f7];omega
   ·by_cases e':j=k
    ·subst e';exact nO.move O hj hl.1 (by omega) j1 su (H.paint j G) D (by rw[A]) (by rw[A])
    ·exact pO j G e'
 ·have s0:(P.ws k).state=0∧dh P.q≠1:=by
   rcases aw with h|h
   ·omega
   ·exact h
  have a9:n'=n:=by
   obtain⟨_,D2⟩:=D;rw[s2]at D2;exact D2
  subst a9;have g0:iS (P.ws k)=0:=by unfold iS;rw[if_neg (by omega)]
  have m0:muJ C.E (P.ws k).job=0:=by rw[s2];rfl
  by_cases U:dh P.q=0
  ·-- it rA a tile
   have ar:P.q.l≠[]:=λh=>by unfold dh at U;rw[if_pos h]at U;split at U<;>omega
   have a8:tk<P.sent.toNat:=by
    rw[H.ql]at ar;exact Nat.lt_of_not_le λh=>ar (Lj.2 h)
   have hx:bH P.q=(tk:Int):=by unfold bH;rw[H.ql,Ot a8];rfl
   have es:cn (some C.E) (C.jo (bH P.q)) (P.ws k) P.q=(w9 (some C.E) (P.ws k) (bH P.q) (C.jo (bH P.q)),mX P.q,(1,bH P.q,0,0)):=by
    unfold cn;rw[if_neg (by omega),if_neg (by omega),if_pos U]
   rw[es]at f1 f7 A L;have f1:Q.q=mX P.q:=f1;have f7:Q.left.length=P.left.length:=by rw[f7];simp
   have bd:(mX P.q).l=yW (tk+1) P.sent.toNat:=by
    unfold mX;show P.q.l.tail=_;rw[H.ql,Ot a8];rfl
   have ab:=L iS;have al:=L λw=>muJ C.E w.job
   have gs:∀jo wd tl,iS ⟨stJ jo,tl,jo,wd⟩=0:=λjo wd tl=>by unfold iS;rw[if_neg];cases jo with|none=>exact(by decide:¬(0:Int)=2)|some x=>exact(by decide:¬(1:Int)=2)
   have g1:iS (w9 (some C.E) (P.ws k) (bH P.q) (C.jo (bH P.q)))=0:=gs _ _ _;have m1:muJ C.E (w9 (some C.E) (P.ws k) (bH P.q) (C.jo (bH P.q))).job=nC C tk:=by
    rw[hx];show muJ C.E (bZ (some C.E) (some ((aG C.d tk),(aG C.d tk).y,lnF C.d.s.y (aG C.d tk).y)))=_;rw[Lk];rfl
   have b3:gP C (N-tk) tk=nC C tk+gP C (N-(tk+1)) (tk+1):=by
    rw[show N-tk=(N-(tk+1))+1 by omega];rfl
   have ax:(w9 (some C.E) (P.ws k) (bH P.q) (C.jo (bH P.q))).tiles=(P.ws k).tiles++[bH P.q]:=rfl;simp only[m0,m1]at al;simp only[g0,g1]at ab;refine⟨tk+1,ad,H.nn,by rw[f4];omega,by rw[f1,f4];exact bd,by rw[f1];exact H.rm,λx bv=>?_,λj G h=>?_,by rw[f7,H.cnt];omega,λh=>by rw[f5]at h;rw[f1,f7];exact H.rt h,?_,λj G=>?_⟩
   ·by_cases ex:x=tk
    ·refine⟨k,hk,?_⟩;rw[A,ax,hx,ex];simp
    ·obtain⟨j,W,aa⟩:=H.cov x (by omega);refine⟨j,W,?_⟩;by_cases I:j=k
     ·subst I;rw[A,ax];exact List.mem_append_left _ aa
     ·rw[F j W I];exact aa
   ·by_cases I:j=k
    ·subst I;rw[A]at h;unfold iS at g1;rw[if_pos h]at g1;omega
    ·rw[F j G I]at h;exact absurd (H.gone j G h).1 ar
   ·rw[f1,f4,f5,f6,f7];have bg:(mX P.q).closed=P.q.closed:=rfl;rw[bg];omega
   ·by_cases e':j=k
    ·subst e';exact nO.take O (x:=bH P.q) (by rw[hx];omega) (by rw[hx];omega) s2 (H.paint j G) (by rw[A];rfl) (by rw[A];rfl)
    ·exact pO j G e'
  ·-- it leaves
   have an:dh P.q=2:=by
    have:=s0.2;unfold dh at this U ⊢;split
    ·rename_i h;rw[if_pos h]at this U;split<;>simp_all
    ·rename_i h;rw[if_neg h]at U;exact absurd rfl U
   have hq:P.q.l=[]∧P.q.closed=true:=by
    unfold dh at an;split at an
    ·rename_i h;refine⟨h,?_⟩;split at an
     ·assumption
     ·omega
    ·omega
   have be:mX P.q=P.q:=by
    unfold mX;rw[hq.1];cases h:P.q;rw[h]at hq
    simp_all
   have es:cn (some C.E) (C.jo (bH P.q)) (P.ws k) P.q=({P.ws k with state:=2},mX P.q,(3,0,0,0)):=by
    unfold cn;rw[if_neg (by omega),if_neg (by omega),if_neg U,if_pos an]
   rw[es]at f1 f7 A L;have f1:Q.q=P.q:=by rw[f1];exact be
   have f7:Q.left.length=P.left.length+1:=by rw[f7];simp
   have ab:=L iS;have al:=L λw=>muJ C.E w.job
   have g1:iS {P.ws k with state:=2}=1:=rfl;have gl:=M7 K Q.ws;simp only[m0,s2]at al;simp only[g0,g1]at ab;have b1:muJ C.E none=0:=rfl;have bo:=H.cnt;refine⟨tk,ad,H.nn,by rw[f4];exact a7,by rw[f1,f4];exact H.ql,by rw[f1];exact H.rm,λx hx=>?_,λj G h=>by rw[f1];exact hq,by rw[f7,H.cnt];omega,λh=>?_,?_,λj G=>?_⟩
   ·obtain⟨j,W,aa⟩:=H.cov x hx;refine⟨j,W,?_⟩;by_cases I:j=k
    ·subst I;rw[A];exact aa
    ·rw[F j W I];exact aa
   ·rw[f5]at h;have:=(H.rt h).2;have:=M7 K P.ws;omega
   ·rw[f1,f4,f5,f6,f7];omega
   ·by_cases e':j=k
    ·subst e';have hp:=H.paint j G;rw[A];exact hp
    ·exact pO j G e'
theorem TZ (O:C.Ok)(H:kG C K N tk P n){i:Int}(G:∀k,k<K→∀t y e,(P.ws k).job=some (t,y,e)→e≤lnE C.d.s.y y)(su:C.suits n)(D:R6 C K P i n n'):∃F,kG C K N F (mY C K P i) n':=by
 unfold R6 at D;by_cases A:gX C K P i=true
 ·by_cases h0:i=0
  ·rw[if_neg (λh=>h.2 h0)]at D;subst h0 D;exact⟨tk,Ue H A⟩
  ·rw[if_pos ⟨A,h0⟩]at D;have hi:0<i∧i≤K:=by
    unfold gX at A;split at A
    ·cases A
    ·omega
   obtain⟨k,rfl⟩:∃k:Nat,i=(k:Int)+1:=⟨(i-1).toNat,by omega⟩
   rw[show((k:Int)+1-1).toNat=k by omega]at D;exact Tz O H (by omega) A (G k (by omega)) su D
 ·rw[if_neg (λh=>A h.1)]at D;subst D;refine⟨tk,?_⟩;have:mY C K P i=P:=by unfold mY;rw[if_pos (by simpa using A)]
  rw[this];exact H
theorem TH (H:kG C K N tk P n)(hK:1≤K)(W:P.ret=false):∃i:Nat,i≤K∧gX C K P (i:Int)=true:=by
 have hs:=H.ok.sent;have wk:∀k,k<K→((P.ws k).state=1∨((P.ws k).state=0∧dh P.q≠1))→∃i:Nat,i≤K∧gX C K P (i:Int)=true:=λk A h=>by
  refine⟨k+1,by omega,?_⟩;unfold gX;rw[if_neg (by omega),if_pos (by omega),show(((k+1:Nat):Int)-1).toNat=k by omega];exact decide_eq_true h
 have I:(if P.sent<bO C.d then decide (rZ P.q≠1)else !P.q.closed||decide (P.left.length=K))=true→∃i:Nat,i≤K∧gX C K P (i:Int)=true:=λh=>by
  refine⟨0,by omega,?_⟩;unfold gX;rw[if_neg (by omega),if_neg (by omega),if_neg (by rw[W];simp)];exact h
 by_cases g:P.sent<bO C.d
 ·by_cases F:rZ P.q=1
  ·have D:P.q.l≠[]:=λh=>by
    unfold rZ at F;split at F
    ·omega
    ·split at F
     ·rename_i hh;rw[h]at hh;have:=H.rm;simp only[List.length_nil]at hh;omega
     ·omega
   have aa:dh P.q=0:=if_neg D;rcases(H.ok.w 0 (by omega)).st with h|⟨h|h,_⟩
   ·exact wk 0 (by omega) (.inl h.1)
   ·exact wk 0 (by omega) (.inr ⟨h,by omega⟩)
   ·exact absurd (H.gone 0 (by omega) h).1 D
  ·exact I (by rw[if_pos g];exact decide_eq_true F)
 ·cases hc:P.q.closed with
  |false=>exact I (by rw[if_neg g,hc];rfl)
  | true=>
   by_cases U:P.left.length=K
   ·exact I (by rw[if_neg g,hc];simpa using U)
   ·have:∃k,k<K∧(P.ws k).state≠2:=Classical.byContradiction λh=>U (by
     rw[H.cnt];have:∀k,k<K→iS (P.ws k)=1:=λk A=>by
      unfold iS;rw[if_pos (Classical.byContradiction λG=>h ⟨k,A,G⟩)]
     rw[Eh (g:=λ_=>1) this,TG])
    obtain⟨k,A,G⟩:=this;have L:dh P.q≠1:=by
     unfold dh;rw[hc];split<;>simp
    rcases(H.ok.w k A).st with h|⟨h|h,_⟩
    ·exact wk k A (.inl h.1)
    ·exact wk k A (.inr ⟨h,L⟩)
    ·exact absurd h G
theorem RA (O:C.Ok)(H:kG C K N tk P n)(su:C.suits n)(hK:1≤K)(U:P.ret=true):n.l=(zw C.m C.d.s).l∧P.picks=(2*N+K+2+gP C N 0:Nat)∧tk=N:=by
 obtain⟨h1,h2⟩:=H.rt U;have hs:=H.ok.cl h1;have W:=H.cnt;have F:=Un (K:=K) (ws:=P.ws) (by omega);have hn:=H.nn;have A:=H.rem;have D:∀k,k<K→(P.ws k).job=none:=λk G=>by
  rcases(H.ok.w k G).st with h|h
  ·have:=F k G;omega
  ·exact h.2
 have L:sW K (λk=>muJ C.E (P.ws k).job)=0:=by
  rw[Eh (g:=λ_=>0) λk G=>by rw[D k G];rfl,GL]
 have I:tk=N:=by
  have:=(H.gone 0 (by omega) (F 0 (by omega))).1;rw[H.ql]at this;have:=Lj.1 this;have:=H.sn;omega
 refine⟨?_,?_,I⟩
 ·refine Ob O H.nn (λx y c hi i aa ht _=>?_) su;obtain⟨k,G,hm⟩:=H.cov i (by omega);exact H.paint k G x y c hi i hm ht λt yy e h _=>by rw[D k G]at h;cases h
 ·rw[I,L,h1,U]at A;simp only[if_true]at A;have e0:gP C (N-N) N=0:=by rw[Nat.sub_self];rfl
  rw[e0]at A;omega
end
end
end Go.Proofs.YtjljhnandbbldaaGreatDoor
namespace Go.Proofs.YtjljhnandbbldaaGreatDoor
open Go Go.Crisp
attribute [local irreducible] ae cE aP stK aA vK qK bC gK dK aU mkK cF Ch DH zZ bsK clK qQ lW Rw
open _root_.Go.Proofs.Tryz
section
def GoP (C:C21)(Z:Nat→Prop)(K N:Nat)(h0:af)(bw:Nat→Nat)(bp:Nat)(o:Nat→Nat)(n:Pic)(P:bL)(h:af):Prop:=dJ C Z K h0 bw bp o n P h∧∃tk,kG C K N tk P n
theorem Mg {C:C21}{K:Nat}{P:bL}{k:Nat}{x:Int}:x∈Bx C K P k↔ ∃i:Nat,i<k∧x=(i:Int)∧gX C K P x=true:=by
 unfold Bx;rw[List.mem_filter,List.mem_map];constructor
 ·rintro⟨⟨i,hi,rfl⟩,h⟩;exact⟨i,List.mem_range.1 hi,rfl,h⟩
 ·rintro⟨i,hi,rfl,h⟩;exact⟨⟨i,List.mem_range.2 hi,rfl⟩,h⟩
theorem Lg {C:C21}{K:Nat}{P:bL}{i:Int}(h:gX C K P i=true):(mY C K P i).picks=P.picks+1:=by
 unfold mY;rw[h,if_neg (by simp)];split
 ·unfold DL;split
  ·rfl
  ·split<;>rfl
 ·exact(GD C K {P with picks:=P.picks+1} (i-1).toNat).2.2.2.2.2.1
section
variable {C:C21}{Z:Nat→Prop}{K N:Nat}{h0 h:af}{bw:Nat→Nat}{bp:Nat}{o:Nat→Nat}{n:Pic}{P:bL}
theorem GoP.ext {h':af}(H:GoP C Z K N h0 bw bp o n P h)(e:Ext h h'):GoP C Z K N h0 bw bp o n P h':=⟨H.1.ext e,H.2⟩
theorem GoP.picks (H:GoP C Z K N h0 bw bp o n P h):0≤P.picks∧P.picks≤(2*N+K+2+gP C N 0:Nat):=by
 obtain⟨_,tk,I⟩:=H;have:=I.rem;have:=I.ok.pk;omega
theorem GoP.few (H:GoP C Z K N h0 bw bp o n P h):1≤K∧K≤256∧Ext h0 h∧C.suits n:=by
 obtain⟨⟨V,H⟩,_⟩:=H;exact⟨H.few.1,H.few.2,H.ext,H.sui⟩
theorem RR (O:C.Ok)(G:dr h0)(H:GoP C Z K N h0 bw bp o n P h){i:Int}(hi:I64 i)(few:2*N+K+2+gP C N 0≤300000)(U:∀c,dd (some C.E) c→h0.size≤c):
  ae prog io #[ptr bp,.int .i64 i] h λr h'=>r=.bool (gX C K P i)∧∃o' n',GoP C Z K N h0 bw bp o' n' (mY C K P i) h'∧(∀c,c<h.size→o' c=o c)∧Fr (λc=>o c≠0∨dd (some C.E) c) h h':=by
 have hp:=H.picks;obtain⟨F,tk,I⟩:=H;have hN:=I.nn;refine(Yo O G F I.ok hi (by omega) (by omega) U).mono λr h' ⟨W,n',⟨o',a,b,c⟩,D⟩=>?_
 obtain⟨V,B⟩:=F;obtain⟨A,I'⟩:=TZ O I (λk L=>(B.ws k L id).job_e) B.sui D;exact⟨W,o',n',⟨a,A,I'⟩,b,c⟩
theorem GoP.runs (H:GoP C Z K N h0 bw bp o n P h)(D:P.ret=false):Bx C K P (K+1)≠[]:=by
 have A:=H.few.1;obtain⟨_,tk,I⟩:=H;obtain⟨i,hi,h1⟩:=TH I A D;intro F;have:((i:Nat):Int)∈Bx C K P (K+1):=Mg.2 ⟨i,by omega,rfl,h1⟩;rw[F]at this;cases this
def JobI (C:C21)(K:Nat)(P:bL):Prop:=∀k,k<K→∀t y e,(P.ws k).job=some (t,y,e)→t.y≤y∧y<t.y+t.h∧lnF C.d.s.y y≤e∧e≤lnE C.d.s.y y
theorem dJ.jobI (H:dJ C Z K h0 bw bp o n P h):JobI C K P:=by
 obtain⟨V,B⟩:=H;exact λk A=>(B.ws k A id).job_at
inductive Tx (C:C21)(K N:Nat):bL→bL→Prop
 |refl (P:bL):Tx C K N P P
 |pick {P P':bL} {n:Pic} {tk:Nat} {i:Int}:Tx C K N P P'→kG C K N tk P' n→gX C K P' i=true→JobI C K P'→Tx C K N P (mY C K P' i)
theorem WT (O:C.Ok)(G:dr h0)(H:GoP C Z K N h0 bw bp o n P h)(few:2*N+K+2+gP C N 0≤190000)(hb:∀c,dd (some C.E) c→h0.size≤c){Zd:Nat→Prop}{dv:Value}{l:List Int}(HD:Rp.Sl (Rp.int .u8) Zd h0 dv l)(h8:∀x∈l,B8 x)(hl:l.length≤600):
  ae prog uH #[ptr bp,dv] h λr h'=>r=.bool true∧∃o' n' A,GoP C Z K N h0 bw bp o' n' A h'∧A.ret=true∧(∀c,c<h.size→o' c=o c)∧Fr (λc=>o c≠0∨dd (some C.E) c) h h'∧Tx C K N P A:=by
 apply Ib;unfold ye;have hK:=H.few;obtain⟨av,cv,ev⟩:=HD.isSl;have an:aq dv=some (.int .i64 (l.length:Int)):=by rw[ev];rfl
 refine bA (α:=Unit) 200000 0 (λi _=>[.int .i64 (i:Int)]) (λi _ g=>∃o' n' A,GoP C Z K N h0 bw bp o' n' A g∧(i:Int)≤A.picks∧(∀c,c<h.size→o' c=o c)∧Fr (λc=>o c≠0∨dd (some C.E) c) h g∧Tx C K N P A) () rfl (Nat.zero_le _) ⟨o,n,P,H,by have:=H.picks;omega,λ_ _=>rfl,Fr.refl _ _,.refl P⟩ λi _ g again ρ _ hi ⟨o',n',A,H',a8,oo,f,D⟩ au=>?_
 simp only[gb];have a7:=H'.picks;rw[bU,ah];refine aj (λg1=>?_) (λg1=>?_)
 ·refine(FQ O H'.1).mono λrv g2 NR=>?_
  have e2:=NR.2.1;have I:=H'.ext e2;have f2:=f.ext_r e2;refine ae.at (Jz I.1) ?_;cases hr:A.ret with
  |true=>
   rw[fI];exact⟨trivial,o',n',A,I,hr,oo,f2,D⟩
  | false=>
   rw[cf];have W:=I.runs hr;generalize hL:Bx C K A (K+1)=L at NR W;have ay:L.length≠0:=λh=>W (List.eq_nil_of_length_eq_zero h)
   have a9:L.length≤K+1:=by rw[←hL];exact Hd _ _ _ _
   obtain⟨ar,cr,er⟩:=NR.1.sl.isSl;have aw:aq rv=some (.int .i64 (L.length:Int)):=by rw[er];rfl
   have Eg:Ext h0 g2:=I.few.2.2.1;rw[aw,ah,sG,ah,decide_eq_false (by omega),cf];refine aV (λxs g'=>g'=g2∧∃m:Nat,xs=[.int .i64 (m:Int)]) ?_ ?_
   ·rw[an,ah,bU,ah];refine aj (λc1=>?_) (λc1=>?_)
    ·have ab:i<l.length:=by omega
     obtain⟨p,a1,a2⟩:=(HD.ext Eg).int_at (k':=.i64) ab;have aa:=h8 _ (List.getElem_mem ab);unfold B8 at aa;rw[a1,ah,a2,ah,zi,ah,w64 (n:=l[i]) (by omega) (by omega)];exact⟨rfl,l[i].toNat,by rw[Int.toNat_of_nonneg aa.1]⟩
    ·exact⟨rfl,i,rfl⟩
   ·rintro xs ρ' g' ⟨rfl,m,rfl⟩;simp only[gb];rw[ah,VL _ _ _ _ (by omega),ah];have U:m%L.length<L.length:=Nat.mod_lt _ (by omega);obtain⟨p,a1,a2⟩:=NR.1.sl.int_at (k':=.i64) U;rw[a1,ah,a2,ah];have ad:L[m%L.length]∈Bx C K A (K+1):=by rw[hL];exact List.getElem_mem U
    obtain⟨j,hj,ej,F⟩:=Mg.1 ad;refine(RR O G I (by unfold I64;omega) (by omega) hb).mono λr g3 ⟨er,o3,n3,H3,al,f3⟩=>?_
    rw[F]at er;subst er;have ax:(i:Int)+1=((i+1:Nat):Int):=by omega
    simp only[go_sem];rw[w64 (n:=(i:Int)+1) (by omega) (by omega),ax];have s2:=f2.1;refine au () g3 (by omega) ⟨o3,n3,_,H3,by rw[Lg F];omega,λc hc=>(al c (by omega)).trans (oo c hc),f2.after f3 λc hc h=>h.imp (λh=>by rwa [oo c hc]at h) id,D.pick I.2.choose_spec F I.1.jobI⟩
 ·omega
end
end
def Hp:Pic:=⟨1,1,1,255,[9]⟩
def vw:OpD:=⟨1,0,0,0,[],[],0,0,0⟩
theorem SJ:dD vw 1 1=0∧mN vw 1=1∧lG Hp (bM vw 1 1)∧y5 (bM vw 1 1).x.lines.length (bM vw 1 1).y.lines.length 1 255=0∧(bM vw 1 1).x.lines.length=1∧(bM vw 1 1).y.lines.length=1∧ut Hp (bM vw 1 1) 0 0 0=9∧bO ⟨bM vw 1 1,1,1⟩=1∧vV (bM vw 1 1) (aG ⟨bM vw 1 1,1,1⟩ 0) Hp=2:=by
 decide+kernel
theorem at22:atP (zw Hp (bM vw 1 1)) 0 0 0=9:=by decide+kernel
theorem Lf {C:C21}{K N:Nat}{room a b:Int}{n:Pic}(D:(N:Int)=bO C.d):kG C K N 0 (Do K room a b) n:=by
 refine⟨TX (by omega),D,Int.le_refl _,rfl,(by show 1≤min (max 1 room) 4096;omega),(λx F=>by omega),λk A h=>?_,?_,(λh=>by cases h),?_,(λk A x y c _ i hi=>by cases hi)⟩
 ·have h:(0:Int)=2:=h;omega
 ·show 0=sW K λ_=>0
  rw[GL]
 ·show(0:Int)+((N-0)+1+1+(N-0)+gP C (N-0) 0+sW K (λ_=>0)+(K-0):Nat)=(2*N+K+2+gP C N 0:Nat);rw[GL,Nat.sub_zero];omega
theorem Wr {C:C21}{K N tk:Nat}{P:bL}{n:Pic}(O:C.Ok)(H:kG C K N tk P n)(su:C.suits n)(I:1≤K)(L:P.ret=true):n=zw C.m C.d.s:=by
 have h:=(RA O H su I L).1;obtain⟨U,F,D,A,G⟩:=su.2;cases n;simp only at h F D A G;subst h F D A G;rfl
theorem JB {h:af}(G:dr h):ae prog iW #[] h λr h'=>r=.bool true∧Ext h h':=by
 apply Ic;unfold yf;obtain⟨a1,a2,a3,a4,a5,a6,a7,a8,a9⟩:=SJ;have a0:y5 1 1 1 255=0:=by decide+kernel
 refine cz (Rp.fill_one rfl) λb1 h1 r1 e1 n1=>?_
 have S1:=Rp.SlC.single (cs:=[.int .u16 9]) r1;have SU:Rp.Sl rU (λ_=>True) h1 (.slice (some ⟨b1,0,none⟩) 1 1) [9]:=⟨_,S1,λ_ _ _=>trivial,λi hi=>by
  have hi:i=0:=by simpa using hi
  subst hi;rfl⟩
 refine(Nf SU a0 rfl (λx hx=>by have:=List.mem_singleton.1 hx;omega)).mono λr h2 ⟨pm,A,bm,vm,bd,I,b6,b8,e2⟩=>?_
 subst A bd;have I:cA h2 bm vm Hp:=I;have W:Hp.Wf:=⟨by decide,by decide,by decide,rfl,λx hx=>by have:=List.mem_singleton.1 hx;show 0≤x∧x≤255;omega⟩
 have E2:=e1.trans e2;have hf:(aF #[(.int .i64 0),(.int .i64 0),(.int .i64 0),(.int .i64 0),(.slice none 0 0),(.slice none 0 0),(.int .i64 0),(.int .i64 0),(.int .i64 0)] [(0,1,(.int .i64 1))])=some #[.int .i64 1,.int .i64 0,.int .i64 0,.int .i64 0,.slice none 0 0,.slice none 0 0,.int .i64 0,.int .i64 0,.int .i64 0]:=rfl;simp only[go_sem,hf,bi];have wf:vw.Wf:=yG (by simp[I64]);refine(EW (Z:=λ_=>True) (o:=vw) (G.ext E2) yH wf (by simp[vw]) (by simp[vw]) (by unfold I64;omega) (by unfold I64;omega)).mono λw h3 ⟨sv,e,e3,_,s2⟩=>?_
 subst e;have HS:=s2 a1;rw[a1];obtain⟨p,q,rfl,hp,hq,al⟩:=gS HS;simp only[go_sem];refine cD (cs:=[p,q,.int .i64 _]) rfl al rfl λb3 h4 r4 e4 n4=>?_
 have E4:=E2.trans (e3.trans e4);refine ae.to W8 λh5 e5=>?_
 simp only[go_sem];have E5:=E4.trans e5;refine ae.to (QS (G.ext E5)) λh6 e6=>?_
 have E6:=E5.trans e6;simp only[go_sem,eqT];rw[aM (l:=[p,q,.int .i64 _]) ((e5.trans e6).row r4) 3 rfl,ah];have OK:zy (bM vw 1 1):=II a1 (by omega) (by rw[a2];omega);have s3:=e3.1;have b5:=(e4.trans (e5.trans e6)).1;have I6:=(I.ext (e3.trans (e4.trans (e5.trans e6))))
 have bv:nh (λc=>c<h6.size) h6 (.agg #[p,q,.int .i64 (bM vw 1 1).border]) (bM vw 1 1):=(HS.ext (e4.trans (e5.trans e6))).mono λc hc _=>hc
 refine(LU (wk:=1) (G.ext E6) I6 W bv OK a3 ⟨I6.lt,λc hc=>I6.ltv hc⟩ (λc hc=>hc) a4).mono λr h7 ⟨_,_,hM⟩=>?_
 obtain⟨bp,C,Z,bw,o,A,k1,k2,k3,CO,HP,ad,e7,b4,_⟩:=hM (by unfold dQ;omega) 1 rfl (by omega);subst A;have ct:bO C.d=1:=by rw[k2];exact a8
 have st:gP C 1 0=2:=by
  have:nC C (0:Nat)=vV C.d.s (aG C.d 0) C.m:=rfl;show nC C (0:Nat)+0=2;rw[this,k1,k2];exact a9
 have GP:GoP C Z 1 1 h6 bw bp o _ _ h7:=⟨HP,0,Lf (by rw[ct];rfl)⟩
 have pn:ag .p .eql (ptr bp) (.pointer none)=some (.bool false):=rfl;simp only[go_sem,eqT,pn];refine ae.to (Pm CO GP.1 (N:=1) (by rw[ct];rfl) (by omega) (by omega)) λh8 e8=>?_
 rw[st];have n7:ag .i .neq (.int .i64 ((2*1+1+2+2:Nat):Int)) (.int .i64 7)=some (.bool false):=rfl;simp only[go_sem,n7];have aw:=GP.ext e8;refine ae.at (JJ aw.1) ?_;have n2:ag .i .neq (.int .i64 ((1+1:Nat):Int)) (.int .i64 2)=some (.bool false):=rfl;simp only[go_sem,n2];have E8:=E6.trans (e7.trans e8);refine bA (α:=Unit) 7 0 (λi _=>[.int .i64 (i:Int)]) (λi _ g=>∃o n P,GoP C Z 1 1 h6 bw bp o n P g∧P.picks=(i:Int)) () rfl (Nat.zero_le _) ⟨o,_,_,aw,rfl⟩ λi _ g again ρ _ hi ⟨o',n',H,F,be⟩ bc=>?_
 simp only[gb];rw[bU,ah];refine aj (λg1=>?_) (λg1=>?_)
 ·have hr:H.ret=false:=by
   cases h:H.ret with
   |false=>rfl
   |true=>
    have su:=F.few.2.2.2;obtain⟨_,tk,J⟩:=F;have:=(RA CO J su (by omega) h).2.1;omega
  refine(FQ CO F.1).mono λrv g2 NR=>?_
  have e9:=NR.2.1;have H2:=F.ext e9;have aa:=H2.runs hr;generalize hL:Bx C 1 H (1+1)=L at NR aa;have b0:L.length≠0:=λh=>aa (List.eq_nil_of_length_eq_zero h)
  obtain⟨ar,cr,A⟩:=NR.1.sl.isSl;have bk:aq rv=some (.int .i64 (L.length:Int)):=by rw[A];rfl
  have b7:L.length≤2:=by rw[←hL];exact Hd _ _ _ _
  have l0:ag .i .eql (.int .i64 (L.length:Int)) (.int .i64 0)=some (.bool false):=by rw[sG,decide_eq_false (by omega)]
  obtain⟨p0,c1,c2⟩:=NR.1.sl.int_at (k':=.i64) (i:=0) (show 0<L.length by omega);have c1:aR 1 rv (.int .i64 0)=some p0:=c1;simp only[go_sem,bk,l0,c1,c2];have au:L[0]∈Bx C 1 H (1+1):=by rw[hL];exact List.getElem_mem _
  obtain⟨j,hj,ej,ab⟩:=Mg.1 au;refine(RR CO (G.ext E6) H2 (by unfold I64;omega) (by omega) ad).mono λr g3 ⟨A,o3,n3,H3,b2,f3⟩=>?_
  rw[ab]at A;subst A;have bo:(i:Int)+1=((i+1:Nat):Int):=by omega
  simp only[go_sem];rw[w64 (n:=(i:Int)+1) (by omega) (by omega),bo];exact bc () g3 (by omega) ⟨o3,n3,_,H3,by rw[Lg ab];omega⟩
 ·have ax:i=7:=by omega
  have hF:=F.few;obtain⟨ay,tk,J⟩:=F;have D:=J.rem;have hr:H.ret=true:=by
   cases h:H.ret with
   |true=>rfl
   |false=>
    rw[h,be,ax,st]at D;simp only[Bool.false_eq_true,if_false]at D;omega
  have en:=Wr CO J hF.2.2.2 (by omega) hr;rw[k1,k2]at en;refine(Nd ay).mono λr g2 an=>?_
  rcases an with⟨h0,_⟩|⟨_,p2,A,bn,vn,ep,I2,_,_,e9⟩
  ·rw[hr]at h0;cases h0
  ·subst A ep;have bg:ag .p .neq (ptr bn) (.pointer none)=some (.bool true):=rfl;have U:=hF.2.2.2.1;rw[en]at I2 U;simp only[go_sem,bg];refine ae.at (Xd I2 U) ?_;rw[show atP (zw Hp (⟨bM vw 1 1,1,1⟩:cG).s) 0 0 0=9 from at22];simp only[go_sem,eqT,decide_true];exact⟨trivial,E6.trans (hF.2.2.1.trans e9)⟩
structure Bg22 (h6:af)(a:pQ)(o:OpD)(bf:Nat)(vf sv rv:Value)(Z1:Nat→Prop)(h':af):Prop where
 ok:Gu a o
 ext:Ext h6 h'
 img:cA h' bf vf (dn a)
 nb:h6.size≤bf∧∀c,blk vf c→h6.size≤c
 st:Rp.Sl Bg Z1 h' sv [bgS a o]
 rf:Rp.Sl uq Z1 h' rv [bgS a o]
 zl:∀c,Z1 c→h6.size≤c∧c<h'.size
theorem Xg {F:af}(G:dr F){Z1 Z2:Nat→Prop}{cs os:List Value}{a:pQ}{o:OpD}(H:lO.R Z1 F cs a)(WA:a.Wf)(HO:rOp.R Z2 F os o)(WO:Br [o]){b1 b3:Nat}{t1 t3:TypeId}(r1:F[b1]? =some (.cells cs.toArray t1 (0,0)))(r3:F[b3]? =some (.cells os.toArray t3 (0,0))){Y:Value→Value→Value→Value→af→Prop}
  (Y0:∀bf sv rv h',Ext F h'→¬(kZ 12 [o]∧xC [o] (dn a).w (dn a).h (dn a).c=0)→Y (ptr bf) sv rv (.bool false) h') (Y1:∀bf vf sv rv Z1 h',Bg22 F a o bf vf sv rv Z1 h'→Y (ptr bf) sv rv (.bool true) h'):
  vK (aH 5 F (ptr b1)) λv8=>ae prog dE #[v8] F λv9 D=>vK (aH 9 D (ptr b3)) λar=>
  cE #[(.int .i64 0),(.int .i64 0),(.int .i64 0),(.int .i64 0),(.slice none 0 0),(.slice none 0 0),(.int .i64 0),(.int .i64 0),(.int .i64 0)] 31 1 [(0,9,ar)] D λaa ad=>
  ae prog fV #[aa,v9] ad λU au=>vK (aE U 0) λa9=>vK (aE U 1) λax=>vK (aE U 2) λal=>Y v9 a9 ax al au:=by
 have lc:=lO.len H;have lo:=rOp.len HO;rw[aM r1 5 lc,ah];refine(EU (lO.mono H λ_ _ h=>h) WA).mono λpm h7 N7=>?_
 obtain⟨bf,vf,rfl,I7,an,ab,e7⟩:=N7;rw[aM (e7.row r3) 9 lo,ah];refine cz (Rp.fill_whole (by rfl) lo) λb5 D a7 L n10=>?_
 have A:=e7.trans L;have ay:Rp.Sl rOp (λc=>Z2 c∨c=b5) D (.slice (some ⟨b5,0,none⟩) 1 1) [o]:=by
  refine⟨os,?_,λ_ b hb=>.inr hb,λi hi=>?_⟩
  ·have:=Rp.SlC.single (cs:=os) a7;rw[lo]at this;exact this
  ·have:i=0:=by simpa using hi
   subst this;rw[Rp.el_self lo];exact rOp.mono (rOp.ext HO A) λb _ hb=>.inl hb
 refine(Po (G.ext A) ay (by simp) WO (I7.ext L) (sC a)).mono λr aw ⟨W,sv,rv,ok,er,bc,I,hS⟩=>?_
 subst er;have x0:aE (.tuple #[sv,rv,.bool ok]) 0=some sv:=rfl;have x1:aE (.tuple #[sv,rv,.bool ok]) 1=some rv:=rfl;have x2:aE (.tuple #[sv,rv,.bool ok]) 2=some (.bool ok):=rfl;rw[x0,ah,x1,ah,x2,ah];have a8:=A.1;cases hk:ok with
 |false=>exact Y0 _ _ _ _ (A.trans W) λh=>by have:=I.2 h;rw[hk]at this;cases this
 |true=>
  subst hk;obtain⟨T1,T2⟩:=hS rfl;exact Y1 bf vf sv rv _ aw ⟨bg_ok (I.1 rfl).1 (I.1 rfl).2,A.trans W,I7.ext (L.trans W),⟨an,ab⟩,T1,T2,λc hc=>⟨Nat.le_trans a8 hc.1,hc.2⟩⟩
theorem aL.base {X:Nat→Prop}{C:C21}{Z:Nat→Prop}{K:Nat}{h0 A h:af}{bw:Nat→Nat}{bp:Nat}{o:Nat→Nat}{n:Pic}{V:PV}{P:bL}(H:aL X C Z K h0 bw bp o n V P h)(e:Ext A h0):aL X C Z K A bw bp o n V P h:=
 ⟨H.q,H.c,H.l,H.p,H.w,H.s,H.f,H.e,H.wk,H.ws,H.po,H.set,H.pl,H.zl,H.sui,λc hc=>⟨(H.ow c hc).1,Nat.le_trans e.1 (H.ow c hc).2.1,(H.ow c hc).2.2⟩,e.trans H.ext,H.few⟩
structure Bgn (h:af)(a:pQ)(o:OpD)(tw th wk room:Int)(C:C21)(Z:Nat→Prop)(K N:Nat)(bw:Nat→Nat)(bp:Nat)(ow:Nat→Nat)(n:Pic)(P:bL)(Zd:Nat→Prop)(V:DV)(h':af):Prop where
 ok:Gu a o
 O:C.Ok
 cm:C.m=dn a
 cd:C.d=Mo a o tw th
 k:(K:Int)=1+wk%5
 nn:(N:Int)=bO C.d∧1≤N∧N≤144∧gP C N 0≤23328
 go:GoP C Z K N h bw bp ow n P h'
 p:P=Do K (1+room%4) (C.m.w*C.m.h*C.m.c) (C.d.X*C.d.Y*C.m.c)
 d:DAt Zd C K N P V h'
 ob:∀c,dd (some C.E) c→h.size≤c
 zd:∀c,Zd c→h.size≤c∧c<h'.size∧ow c=0∧¬dd (some C.E) c
 ext:Ext h h'
def Ud (a:pQ)(o:OpD):Prop:=kZ 12 [o]∧xC [o] (dn a).w (dn a).h (dn a).c=0
theorem WQ {h:af}(G:dr h){Z1 Z2:Nat→Prop}{cs F:List Value}{a:pQ}{o:OpD}(H:lO.R Z1 h cs a)(WA:a.Wf)(HO:rOp.R Z2 h F o)(WO:Br [o]):ae prog uk #[.agg cs.toArray,.agg F.toArray] h λr h'=>(¬Ud a o→r=.bool false)∧Ext h h':=by
 apply MO;unfold C8;simp only[bG];refine aC λb1 h1 r1 e1 n1=>aC λb3 h3 r3 e3 n3=>?_
 have W:=e1.trans e3;have lc:=lO.len H;have lo:=rOp.len HO;have G3:=G.ext W;have r1:=e3.row r1;refine aI (Ext h3) (Ext.refl _) ?_;refine ao (.agg F.toArray) (λk e=>aM (e.row r3) 9 lo) ?_;refine ao (.agg cs.toArray) (λk e=>aM (e.row r1) 5 lc) ?_;have x0:∀a b c:Value,aE (.tuple #[a,b,c]) 0=some a:=λ_ _ _=>rfl
 have x1:∀a b c:Value,aE (.tuple #[a,b,c]) 1=some b:=λ_ _ _=>rfl
 have x2:∀a b c:Value,aE (.tuple #[a,b,c]) 2=some c:=λ_ _ _=>rfl
 have row:∀{g:af} {L:Nat} {t:TypeId},Ext h3 g→g[L]? =some (.cells F.toArray t (0,0))→Rp.Sl rOp (λc=>Z2 c∨c=L) g (.slice (some ⟨L,0,none⟩) 1 1) [o]:=λ{g L t} e r=>by
  refine⟨F,?_,λ_ b hb=>.inr hb,λi hi=>?_⟩
  ·have:=Rp.SlC.single (cs:=F) r;rw[lo]at this;exact this
  ·have:i=0:=by simpa using hi
   subst this;rw[Rp.el_self lo];exact rOp.mono (rOp.ext HO (W.trans e)) λb _ hb=>.inl hb
 have fin:∀{g:af} {bf:Nat} {vf ov:Value} {Y:Nat→Prop},Ext h3 g→cA g bf vf (dn a)→Rp.Sl rOp Y g ov [o]→ae prog fV #[ov,ptr bf] g λv h'=>Ext h3 h'∧(vK (aE v 0) λ_=>vK (aE v 1) λ_=>vK (aE v 2) λr=>(¬Ud a o→r=.bool false)∧Ext h h'):=λ{g bf vf ov Y} e I S=>by
  refine(Po (G3.ext e) S (by simp) WO I (sC a)).mono λr al ⟨U,sv,rv,ok,er,an,aa,hS⟩=>?_
  subst er;refine⟨e.trans U,?_⟩;rw[x0,ah,x1,ah,x2,ah];refine⟨λhn=>?_,W.trans (e.trans U)⟩;cases hk:ok with
  |false=>rfl
  |true=>exact absurd (aa.1 hk) hn
 refine⟨?_,?_⟩
 ·refine cz (Rp.fill_whole (by rfl) lo) λL g5 r5 A n5=>⟨A,?_⟩
  refine(EU (lO.mono (lO.ext H (W.trans A)) λ_ _ h=>h) WA).mono λpm h7 N7=>?_
  obtain⟨bf,vf,rfl,I7,ab,ad,D⟩:=N7;exact⟨A.trans D,fin (A.trans D) I7 (row (A.trans D) (D.row r5))⟩
 ·refine(EU (lO.mono (lO.ext H W) λ_ _ h=>h) WA).mono λpm h7 N7=>?_
  obtain⟨bf,vf,rfl,I7,ab,ad,D⟩:=N7;refine⟨D,?_⟩;refine cz (Rp.fill_whole (by rfl) lo) λL g5 r5 A n5=>⟨D.trans A,?_⟩
  exact fin (D.trans A) (I7.ext A) (row (D.trans A) r5)
theorem Ti {h:af}(G:dr h){cs os:List Value}{a:pQ}{o:OpD}{Z1 Z2:Nat→Prop}(H:lO.R Z1 h cs a)(WA:a.Wf)(HO:rOp.R Z2 h os o)(WO:Br [o]){tw th wk room:Int}(h1:B8 tw)(h2:B8 th)(h3:B8 wk)(h4:B8 room):
  ae prog oH #[.agg cs.toArray,.agg os.toArray,.int .u8 tw,.int .u8 th,.int .u8 wk,.int .u8 room] h λr h'=>
   (¬Ud a o∧Ext h h'∧∃bf,∃u:List Value,r=.tuple #[ptr bf,.pointer none,.agg u.toArray,.bool false]∧u.length=20∧∀v∈u,aJ v=true)∨
   ∃C Z K N bw bp ow n P Zd V,r=.tuple #[ptr C.bf,ptr bp,.agg (dpC C P V).toArray,.bool true]∧Bgn h a o tw th wk room C Z K N bw bp ow n P Zd V h':=by
 apply Ie;unfold yg;simp only[bG];refine aC λb1 g1 r1 e1 n1=>aC λb3 g3 r3 e3 n3=>aC λb5 g5 r5 e5 n5=>?_
 have k5:=aW r5;have s1:=e1.1;have s3:=e3.1;have E5:=e1.trans (e3.trans e5);have s5:=E5.1;refine Xg (G.ext E5) (lO.ext H E5) WA (rOp.ext HO E5) WO ((e3.trans e5).row r1) (e5.row r3) (λbf sv rv h' e hn=>?_) (λbf vf sv rv Z1 h7 B=>?_)
 ·have hf:aF aD []=some aD.toList.toArray:=by rfl
  have on:∀v∈aD.toList,aJ v=true:=by decide
  simp only[go_sem];rw[hf,bi,ah];refine ch (e.row r5) (by rfl) on (by rfl) λg9 r9 u9=>?_
  rw[aM r9 20 (by rfl),ah];exact .inl ⟨hn,(E5.trans e).upd (by omega) u9,bf,_,rfl,by rfl,on⟩
 have nt:unV .not (.bool true)=some (.bool false):=rfl;rw[nt,ah,cf];refine Nv h1 (by omega) ?_;refine Nv h2 (by omega) ?_;refine Nv h3 (by omega) ?_;refine Nv h4 (by omega) ?_;have hw:=h1;have hh:=h2;unfold B8 at h1 h2 h3 h4;obtain⟨K,hK⟩:∃K:Nat,1+wk%5=(K:Int):=⟨(1+wk%5).toNat,by omega⟩
 rw[hK];obtain⟨p,q,bs,bk,q1,k0,bc,a8,bd,hp,hq⟩:=VB B.st;obtain⟨sp,w1,w2⟩:=a8.atw (show 0<3 by omega) (k:=.i64) (i:=0) (by omega);have w1:aR 3 sv (.int .i64 0)=some sp:=w1;have w2:aH 3 h7 sp=some (.agg #[p,q,.int .i64 (bgS a o).border]):=w2;rw[w1,ah,w2,ah];have sd:dQ (1+tw%13)∧dQ (1+th%13):=by unfold dQ;omega
 have zb:∀c,c<h7.size→Z1 c→g5.size≤c∧c<h7.size:=λc hc hz=>⟨(B.zl c hz).1,hc⟩
 refine(LU (wk:=(K:Int)) (Z0:=λc=>g5.size≤c∧c<h7.size) (G.ext (E5.trans B.ext)) B.img (sC a) ⟨p,q,rfl,hp.mono zb,hq.mono zb⟩ B.ok.stg B.ok.suits.1 ⟨⟨B.nb.1,B.img.lt⟩,λc hc=>⟨B.nb.2 c hc,B.img.ltv hc⟩⟩ (λc hc=>hc.2) B.ok.imgc).mono λr h8 ⟨_,_,f3⟩=>?_
 obtain⟨bp,C,Z,bw,ow,er,y1,y2,y3,CO,HP,L,e8,an,nz,be⟩:=f3 sd K rfl (by omega);subst er;have x0:∀a b:Value,aE (.tuple #[a,b]) 0=some a:=λ_ _=>rfl
 have x1:∀a b:Value,aE (.tuple #[a,b]) 1=some b:=λ_ _=>rfl
 have ax:ag .i .neq (.int .i64 0) (.int .i64 0)=some (.bool false):=rfl;rw[x0,ah,x1,ah,ax,ah,cf];obtain⟨rp,ab,w3,w4,w5⟩:=(B.rf.ext e8).atw (show 0<5 by omega) (k:=.i64) (i:=0) (by simp);have w3:aR 5 rv (.int .i64 0)=some rp:=w3;have w4:aH 5 h8 rp=some (.agg ab.toArray):=w4;have w5:uq.R Z1 h8 ab (bgS a o):=w5;refine aI (Ext h8) (Ext.refl _) ?_;rw[w3,ah];refine ao (.agg ab.toArray) (λk e=>e.lds w4) ?_;refine ae.at (dA (B.img.ext e8)) ⟨Ext.refl _,?_⟩;have A:C.d=Mo a o tw th:=y2;obtain⟨N,hN,N1,N2,ad⟩:=Yw (C:=C) B.ok hw.1 hh.1 A;have al:C.d.s=bgS a o:=by rw[A]
 have few:∀x∈C.d.s.x.lines++C.d.s.y.lines,x.2.length≤1073741824:=λx hx=>by
  rcases List.mem_append.1 hx with h|h
  ·have:=(CO.s.wf.x.taps x h).1;omega
  ·have:=(CO.s.wf.y.taps x h).1;omega
 have hX:1≤C.d.X:=by rw[A];show 1≤((bgS a o).x.lines.length:Int);have:=B.ok.sx;omega
 have hY:1≤C.d.Y:=by rw[A];show 1≤((bgS a o).y.lines.length:Int);have:=B.ok.sy;omega
 have ay:lG C.m C.d.s:=by rw[y1,al];exact B.ok.suits.1
 obtain⟨z1,z2,_⟩:=ay;have mw:=(sC a).fits;have I:=cL mw;have F:=cL B.ok.fit;have I:0≤C.d.s.x.n*C.d.s.y.n∧C.d.s.x.n*C.d.s.y.n≤4294967296∧0≤C.d.s.x.n*C.d.s.y.n*C.m.c∧C.d.s.x.n*C.d.s.y.n*C.m.c≤268435456:=by
  rw[z1,z2,y1];exact⟨I.2.2.2.2.2.2.1,I.2.2.2.2.2.2.2.1,I.2.2.2.2.2.2.2.2.1,I.2.2.2.2.2.2.2.2.2⟩
 have F:0≤C.d.X*C.d.Y∧C.d.X*C.d.Y≤4294967296∧0≤C.d.X*C.d.Y*C.m.c∧C.d.X*C.d.Y*C.m.c≤268435456:=by
  rw[A,y1];exact⟨F.2.2.2.2.2.2.1,F.2.2.2.2.2.2.2.1,F.2.2.2.2.2.2.2.2.1,F.2.2.2.2.2.2.2.2.2⟩
 have ea:(.int .i64 (dn a).c:Value)=.int .i64 C.m.c∧(.int .i64 (1+tw%13):Value)=.int .i64 C.d.w∧(.int .i64 (1+th%13):Value)=.int .i64 C.d.h:=by rw[y1,A];exact⟨rfl,rfl,rfl⟩
 rw[ea.1,ea.2.1,ea.2.2];rw[←al]at w5;have s8:=e8.1;have sB:=B.ext.1;refine(UV (room:=1+room%4) w5 (λc hc=>Nat.lt_of_lt_of_le (B.zl c hc).2 s8) CO hN (by omega) hX hY few (by omega) ⟨I.2.2.1,by omega⟩ ⟨F.2.2.1,by omega⟩ ⟨I.1,by omega⟩ ⟨F.1,by omega⟩).mono λr h9 ⟨Zd,V,er,D,zd,e9⟩=>?_
 subst er;have s9:=e9.1;refine ch ((B.ext.trans (e8.trans e9)).row r5) (by rfl) D.ones (by rfl) λa9 au W=>?_
 rw[aM au 20 (by rfl),ah];right;have eP:Do K (1+room%4) (C.d.s.x.n*C.d.s.y.n*C.m.c) (C.d.X*C.d.Y*C.m.c)=Do K (1+room%4) (C.m.w*C.m.h*C.m.c) (C.d.X*C.d.Y*C.m.c):=by rw[z1,z2]
 rw[eP]at D ⊢;have eQ:Do K (1+room%4) ((dn a).w*(dn a).h*(dn a).c) (((bgS a o).x.lines.length:Int)*(bgS a o).y.lines.length*(dn a).c)=Do K (1+room%4) (C.m.w*C.m.h*C.m.c) (C.d.X*C.d.Y*C.m.c):=by rw[y1,A];rfl
 rw[eQ]at HP;have ar:=HP;obtain⟨V8,aa⟩:=ar;have a7:∀c,dd (some C.E) c→c<h8.size:=λc hc=>aa.set.out.ltv hc
 have bo:b5<g5.size:=k5;have bg:g3.size≤b5:=n5;have u0:ow b5=0:=by
  by_cases h:ow b5=0
  ·exact h
  ·have:=an b5 h;omega
 have aw:=((aa.ex e9).base (E5.trans B.ext)).loc W ⟨u0,by omega,λhz=>by rcases nz b5 hz with h|h<;>omega,by show b5≠C.bt;omega,λhb=>by have:=L b5 hb;omega⟩;have E9:=E5.trans (B.ext.trans (e8.trans e9));have U:∀c,Zd c→g5.size≤c∧c<h9.size∧ow c=0∧¬dd (some C.E) c:=λc hc=>by
  obtain⟨h1,h2⟩:=zd c hc;have q:g5.size≤c∧(c<h7.size∨h8.size≤c):=by
   rcases h1 with h1|h1
   ·exact⟨(B.zl c h1).1,.inl (B.zl c h1).2⟩
   ·exact⟨by omega,.inr h1⟩
  refine⟨q.1,h2,?_,λhb=>?_⟩
  ·by_cases h:ow c=0
   ·exact h
   ·have h3:=an c h;have h4:=(aa.ow c h).1;omega
  ·have h3:=L c hb;have h4:=a7 c hb;omega
 exact⟨C,Z,K,N,bw,bp,ow,_,_,Zd,V,by rw[y3],⟨B.ok,CO,y1,y2,hK.symm,⟨hN,N1,N2,ad⟩,⟨⟨V8,aw⟩,0,Lf hN⟩,rfl,D.fr W.fr λc _ hc h=>by have:=(U c hc).1;have h:c=b5:=h;omega,λc hc=>by have:=L c hc;omega,λc hc=>⟨by have:=(U c hc).1;omega,by rw[W.1];exact(U c hc).2.1,(U c hc).2.2⟩,E9.upd (by omega) W⟩⟩
end Go.Proofs.YtjljhnandbbldaaGreatDoor
namespace Go.Proofs.YtjljhnandbbldaaGreatDoor
open Go Go.Crisp
attribute [local irreducible] ae cE aP stK aA vK qK bC gK dK aU mkK cF Ch DH zZ bsK clK qQ lW Rw
section
section
variable {h:af}{a:pQ}{o:OpD}{tw th wk room:Int}{C:C21}{Z:Nat→Prop}{K N:Nat}{bw:Nat→Nat}{bp:Nat}{ow:Nat→Nat}{n:Pic}{P:bL}{Zd:Nat→Prop}{V:DV}{h':af}
theorem Bgn.lt (B:Bgn h a o tw th wk room C Z K N bw bp ow n P Zd V h'):(∀c,ow c≠0→h.size≤c∧c<h'.size)∧∀c,dd (some C.E) c→h.size≤c∧c<h'.size:=by
 obtain⟨⟨D,A⟩,_⟩:=B.go;exact⟨λc hc=>⟨(A.ow c hc).2.1,(A.ow c hc).1⟩,λc hc=>⟨B.ob c hc,A.set.out.ltv hc⟩⟩
theorem Bgn.few (B:Bgn h a o tw th wk room C Z K N bw bp ow n P Zd V h')(A:B8 wk):1≤K∧K≤5∧2*N+K+2+gP C N 0≤190000:=by
 have:=B.k;obtain⟨_,_,F,D⟩:=B.nn;unfold B8 at A;have:0≤wk%5∧wk%5<5:=⟨Int.emod_nonneg _ (by omega),Int.emod_lt_of_pos _ (by omega)⟩
 omega
end
end
end Go.Proofs.YtjljhnandbbldaaGreatDoor
namespace Go.Proofs.YtjljhnandbbldaaGreatDoor
open Go Go.Crisp
attribute [local irreducible] ae cE aP stK aA vK qK bC gK dK aU mkK cF Ch DH zZ bsK clK qQ lW Rw
open _root_.Go.Proofs.Tryz
def Ty (C:C21)(w:WD):Prop:=0≤w.words∧w.words≤pf C.d C.m.c∧(0<w.words↔w.tiles≠[])
theorem Ty.step {C:C21}{w:WD}{d:QD}(O:C.Ok)(h1:1≤bu C.d.s.y.lines)(H:Ty C w)(A:rA w d→0≤bH d∧bH d<bO C.d)(G:w.state=0∨w.state=1∨w.state=2):Ty C (cn (some C.E) (C.jo (bH d)) w d).1:=by
 unfold cn;split
 ·split
  ·exact H
  ·exact H
 split
 ·exact H
 split
 ·rename_i a b c;obtain⟨D,F⟩:=A ⟨by omega,c⟩;obtain⟨w1,I⟩:=TB O h1 D F;have e:(w9 (some C.E) w (bH d) (C.jo (bH d))).words=max w.words ((gj (bu C.d.s.y.lines):Int)*(dP ((aG C.d (bH d)).w*C.m.c):Int)):=rfl;have t:(w9 (some C.E) w (bH d) (C.jo (bH d))).tiles=w.tiles++[bH d]:=rfl;obtain⟨a1,a2,a3⟩:=H;refine⟨by rw[e];omega,by rw[e];omega,?_⟩;rw[e,t];exact⟨λ_=>by simp,λ_=>by omega⟩
 split
 ·exact H
 ·exact H
theorem TJ {C:C21}{K N:Nat}{P F:bL}(O:C.Ok)(h1:1≤bu C.d.s.y.lines)(H:Tx C K N P F)(h0:∀k,k<K→Ty C (P.ws k)):∀k,k<K→Ty C (F.ws k):=by
 induction H with
 |refl=>exact h0
 | pick a I G W D=>
  rename_i P1 n tk i;intro k A;unfold mY;rw[G,if_neg (by decide)];split
  ·have e:(DL C K {P1 with picks:=P1.picks+1}).ws=P1.ws:=by
    unfold DL;split
    ·rfl
    split
    ·rfl
    ·rfl
   rw[e];exact D k A
  ·rw[(GD C K _ _).2.1];show Ty C (if k=(i-1).toNat then(cn (some C.E) (C.jo (bH P1.q)) (P1.ws (i-1).toNat) P1.q).1 else P1.ws k);split
   ·rename_i e;rw[←e];refine(D k A).step O h1 (λU=>?_) ?_
    ·have:=I.ok.q;have L:=Hl U.2;have:=this _ L;have:=I.ok.sent;omega
    ·rcases(I.ok.w k A).st with h|h
     ·exact .inr (.inl h.1)
     ·exact h.1.elim .inl λh=>.inr (.inr h)
   ·exact D k A
theorem XK {h:af}(G:dr h){cs os:List Value}{a:pQ}{o:OpD}{Z1 Z2 Z3:Nat→Prop}(H:lO.R Z1 h cs a)(WA:a.Wf)(HO:rOp.R Z2 h os o)(WO:Br [o]){tw th wk room:Int}(h1:B8 tw)(h2:B8 th)(h3:B8 wk)(h4:B8 room){dv:Value}{l:List Int}(HD:Rp.Sl (Rp.int .u8) Z3 h dv l){M:Nat}{F:Value→Value→Value→af→Prop}
    (HF:∀I L A C Z K N bw bp ow n P Zd V bv,Ext h I→l.length≤M→Bgn I a o tw th wk room C Z K N bw bp ow n P Zd V L→Ext L A→L.size≤bv→A[bv]? =some (.cells (dpC C P V).toArray 48 (0,0))→F (ptr C.bf) (ptr bp) (ptr bv) A):
 aP (Value.cells (.agg cs.toArray)) 25 h λv1 h2=>
 aP (Value.cells (.agg os.toArray)) 31 h2 λv3 h4=>
 ae prog iW #[] h4 λv5 I=>
 vK (unV .not v5) λD=>
 vK (gV D false (some dv)) λv8=>
 vK (gV D false (aq v8)) λv9=>
 vK (gV D false (ag .i .gtr v9 (.int .i64 (M:Int)))) λU=>
 vK (az D (.bool true) U) λW=>
 aA W (
 ae prog iW #[] I λaa ab=>
(v12=.bool true∧Ext h h13)) (
 vK (aH 5 h6 v1) λv14=>
 vK (aH 9 h6 v3) λv15=>
 ae prog oH #[v14,v15,.int .u8 tw,.int .u8 th,.int .u8 wk,.int .u8 room] h6 λv16 h17=>
 vK (aE v16 0) λv18=>
 vK (aE v16 1) λv19=>
 vK (aE v16 2) λv20=>
 vK (aE v16 3) λv21=>
 aP aD 48 h17 λv22 h23=>
 stK 20 v22 v20 h23 λv24 h25=>
 vK (unV .not v21) λv26=>
 aA v26 (
 vK (aH 5 h25 v1) λv27=>
 vK (aH 9 h25 v3) λv28=>
 ae prog uk #[v27,v28] h25 λv29 h30=>
 vK (unV .not v29) λv31=>
 (v31=.bool true∧Ext h h30)) (F v18 v19 v22 h25)):=by
  simp only[bG];refine aC λb1 g1 r1 e1 n1=>aC λb3 g3 r3 e3 n3=>?_
  have E3:=e1.trans e3;have lc:=lO.len H;have lo:=rOp.len HO;refine ae.to (JB (G.ext E3)) λh6 e6=>?_
  have E6:=E3.trans e6;obtain⟨av,cv,ev⟩:=HD.isSl;have eld:aq dv=some (.int .i64 (l.length:Int)):=by rw[ev];rfl
  simp only[go_sem,eld];refine aj (λg=>?_) (λg=>?_)
  · refine ae.to (JB (G.ext E6)) λh7 e7=>?_
    exact⟨rfl,E6.trans e7⟩
  rw[aM ((e3.trans e6).row r1) 5 lc,ah,aM (e6.row r3) 9 lo,ah];have x0:∀a b c d:Value,aE (.tuple #[a,b,c,d]) 0=some a:=λ_ _ _ _=>rfl
  have x1:∀a b c d:Value,aE (.tuple #[a,b,c,d]) 1=some b:=λ_ _ _ _=>rfl
  have x2:∀a b c d:Value,aE (.tuple #[a,b,c,d]) 2=some c:=λ_ _ _ _=>rfl
  have x3:∀a b c d:Value,aE (.tuple #[a,b,c,d]) 3=some d:=λ_ _ _ _=>rfl
  have nt:unV .not (.bool true)=some (.bool false):=rfl;have nf:unV .not (.bool false)=some (.bool true):=rfl;refine(Ti (G.ext E6) (lO.ext H E6) WA (rOp.ext HO E6) WO h1 h2 h3 h4).mono λr h9 hB=>?_
  rcases hB with⟨hn,e9,bf,u,er,lu,ou⟩|⟨C,Z,K,N,bw,bp,ow,n,P,Zd,V,er,B⟩
  · subst er
    rw[x0,ah,x1,ah,x2,ah,x3,ah];refine aC λbv g10 r10 e10 n10=>?_
    refine ch r10 lu ou lu λg11 r11 u11=>?_
    have E11:Ext h6 g11:=(e9.trans e10).upd (by have:=e9.1;omega) u11;rw[nf,ah,fI];rw[aM (E11.row ((e3.trans e6).row r1)) 5 lc,ah,aM (E11.row (e6.row r3)) 9 lo,ah];refine(WQ (G.ext (E6.trans E11)) (lO.ext H (E6.trans E11)) WA (rOp.ext HO (E6.trans E11)) WO).mono λr h12 ⟨er,e12⟩=>?_
    rw[er hn,nf,ah];exact⟨rfl,E6.trans (E11.trans e12)⟩
  subst er;rw[x0,ah,x1,ah,x2,ah,x3,ah];refine aC λbv g10 r10 e10 n10=>?_
  refine ch r10 (by rfl) B.d.ones (by rfl) λg11 r11 u11=>?_
  have e11:Ext h9 g11:=e10.upd n10 u11;rw[nt,ah,cf];exact HF h6 h9 g11 C Z K N bw bp ow n P Zd V bv E6 (by omega) B e11 n10 r11
theorem KY {h:af}(G:dr h){cs os:List Value}{a:pQ}{o:OpD}{Z1 Z2 Z3:Nat→Prop}(H:lO.R Z1 h cs a)(WA:a.Wf)(HO:rOp.R Z2 h os o)(WO:Br [o]){tw th wk room:Int}(h1:B8 tw)(h2:B8 th)(h3:B8 wk)(h4:B8 room){dv:Value}{l:List Int}(HD:Rp.Sl (Rp.int .u8) Z3 h dv l)(h8:∀x∈l,B8 x)(hl:l.length≤1000000000000000):
  ae prog kh #[.agg cs.toArray,.agg os.toArray,.int .u8 tw,.int .u8 th,.int .u8 wk,.int .u8 room,dv] h λr h'=>r=.bool true∧Ext h h':=by
 apply yU;unfold pd;refine XK (M:=600) G H WA HO WO h1 h2 h3 h4 HD λh6 h9 bg C Z K N bw bp ow n P Zd V bv E6 b1 B U b4 bk=>?_
 obtain⟨ab,ar⟩:=B.lt;obtain⟨K1,K5,few⟩:=B.few h3;obtain⟨hN,N1,N2,hs⟩:=B.nn;have O:=B.O;have be:Ext h6 bg:=B.ext.trans U;have GO:=B.go.ext U;have pn:ag .p .eql (ptr bp) (.pointer none)=some (.bool false):=rfl;have nt:unV .not (.bool true)=some (.bool false):=rfl;rw[pn,ah,ib,ah,ib,ah,Jg];refine(WT O (G.ext E6) GO (by omega) B.ob (HD.ext E6) h8 b1).mono λr D ⟨er,o',n',A,a8,bd,oo,f17,ad⟩=>?_
 subst er;rw[ib,nt,ah,tZ,ah,cf];have cb:∀c,h9.size≤c→¬(ow c≠0∨dd (some C.E) c):=λc hc h=>h.elim (λh=>by have:=(ab c h).2;omega) λh=>by have:=(ar c h).2;omega
 have ay:=f17.row bk (cb bv b4);have au:=(B.d.ext U).fr f17 λc _ hc h=>h.elim (λh=>h (B.zd c hc).2.2.1) (B.zd c hc).2.2.2
 have b0:1≤bu C.d.s.y.lines:=by rw[B.cd];exact B.ok.most1
 have b6:bu C.d.s.y.lines≤80:=by rw[B.cd];exact Ll B.ok.made B.ok.little (by have:=ud a;omega)
 have aa:=MW C.d.s.y.lines;have cc:0≤tw%13∧tw%13<13:=⟨Int.emod_nonneg _ (by omega),Int.emod_lt_of_pos _ (by omega)⟩
 have b7:C.d.w=1+tw%13:=by rw[B.cd]
 have hX:1≤C.d.X:=by rw[B.cd];show 1≤((bgS a o).x.lines.length:Int);have:=B.ok.sx;omega
 have cp:=cL O.m.fits;have al:0≤pf C.d C.m.c∧pf C.d C.m.c≤bu C.d.s.y.lines*(1+tw%13)*C.m.c∧bu C.d.s.y.lines*(1+tw%13)≤1040∧0≤bu C.d.s.y.lines*(1+tw%13)∧0≤bu C.d.s.y.lines*(1+tw%13)*C.m.c∧bu C.d.s.y.lines*(1+tw%13)*C.m.c≤3120:=by
  unfold pf;rw[b7,show max 0 C.m.c=C.m.c by omega];have q1:bu C.d.s.y.lines*min (1+tw%13) C.d.X≤bu C.d.s.y.lines*(1+tw%13):=Int.mul_le_mul_of_nonneg_left (by omega) aa;have q2:bu C.d.s.y.lines*(1+tw%13)≤80*13:=Int.mul_le_mul b6 (by omega) (by omega) (by omega);have q3:0≤bu C.d.s.y.lines*min (1+tw%13) C.d.X:=Int.mul_nonneg aa (by omega);have q4:bu C.d.s.y.lines*(1+tw%13)*C.m.c≤1040*3:=Int.mul_le_mul (by omega) (by omega) (by omega) (by omega);exact⟨Int.mul_nonneg q3 (by omega),Int.mul_le_mul_of_nonneg_right q1 (by omega),by omega,by omega,Int.mul_nonneg (by omega) (by omega),by omega⟩
 have ca:=TJ O b0 ad λk hk=>by
  rw[B.p];exact⟨Int.le_refl _,by
   show(0:Int)≤pf C.d C.m.c;have:=al.1;exact this,by
   show(0:Int)<0↔([]:List Int)≠[];simp⟩
 obtain⟨F,tk,I⟩:=a8;obtain⟨V7,ax⟩:=F;have F:dJ C Z K h6 bw bp o' n' A D:=⟨V7,ax⟩
 have cr:A.picks≤190000:=by have:=I.rem;have:=I.ok.pk;omega
 have a9:∀j,j<K→(A.ws j).tiles.length≤1000000:=λj hj=>by have:=I.ok.tn j hj;omega
 have key:∀i:Int,0≤lN K A i∧lN K A i≤pf C.d C.m.c∧(0<lN K A i↔0<(Ee K A i).length):=λi=>by
  unfold lN Ee;split
  ·exact⟨Int.le_refl _,al.1,by simp⟩
  ·obtain⟨a1,a2,a3⟩:=ca (i-1).toNat (by omega);exact⟨a1,a2,a3.trans List.length_pos_iff.symm⟩
 have c6:aB D ⟨bv,6,none⟩=some V.tv:=ai ay;have b3:aq V.tv=some (.int .i64 (N:Int)):=by obtain⟨a,c,e⟩:=au.t.isSl;rw[e];simp[aq,cR]
 have f6:am 6 (ptr bv)=some (.pointer (some ⟨bv,6,none⟩)):=rfl;rw[f6,ah,qR,c6,ah,b3,ah];refine bA (α:=Int) N 0 (λi t=>[.int .i64 t,.int .i64 (i:Int)]) (λi t g=>(t=if i=0 then 0 else bu C.d.s.y.lines)∧Ext D g) 0 rfl (Nat.zero_le _) ⟨rfl,Ext.refl _⟩ λi t g again ρ _ hi ⟨et,eg⟩ bc=>?_
 simp only[gb,uA];rw[bU,ah];refine aj (λc1=>?_) (λc1=>?_)
 ·have a7:i<N:=by omega
  obtain⟨pt,cs,a1,a2,a3⟩:=(au.t.ext eg).atw (show 0<10 by omega) (k:=.i64) (i:=i) (by simp[cR];omega);have a1:aR 10 V.tv (.int .i64 (i:Int))=some pt:=a1;have a2:aH 10 g pt=some (.agg cs.toArray):=a2;have b8:(cR C.d N)[i]'(by simp[cR];omega)=aG C.d i:=by simp[cR]
  rw[b8]at a3;obtain⟨f0,f1,f3,f5,ec⟩:=a3;rw[a1,ah,a2,ah];refine cD (cs:=cs) (by rw[ec];rfl) (Bf.one (Z:=Zd) (h:=g) (x:=aG C.d i) ⟨f0,f1,f3,f5,ec⟩) (by rw[ec];rfl) λb5 g5 r5 e5 n5=>?_
  rw[ec]at r5;have c9:aB g5 ⟨b5,9,none⟩=some (.int .i64 (aG C.d i).ring):=ai r5;have f9:am 9 (ptr b5)=some (.pointer (some ⟨b5,9,none⟩)):=rfl;have W:(i:Int)+1=((i+1:Nat):Int):=by omega
  have mx:ia (.int .i64 t) (.int .i64 (aG C.d i).ring)=some (.int .i64 (if(aG C.d i).ring>t then(aG C.d i).ring else t)):=rfl;rw[f9,ah,qR,c9,ah,mx,ah];simp only[go_sem];rw[w64 (n:=(i:Int)+1) (by omega) (by omega),W];refine bc _ g5 a7 ⟨?_,eg.trans e5⟩;have er:(aG C.d i).ring=bu C.d.s.y.lines:=rfl;rw[er,et,if_neg (show¬i+1=0 by omega)];split<;>split<;>omega
 have:i=N:=by omega
 subst this;rw[if_neg (by omega)]at et;subst et;refine Nv h1 (by omega) ?_;simp only[go_sem];rw[w64 (n:=bu C.d.s.y.lines*(1+tw%13)) (by omega) (by omega)];refine ae.at (dA (ax.set.src.ext eg)) ?_;simp only[go_sem];rw[w64 (n:=bu C.d.s.y.lines*(1+tw%13)*C.m.c) (by omega) (by omega)];refine ae.at (JJ (F.ext eg)) ?_;simp only[go_sem];rw[w64 (n:=((K+1:Nat):Int)+1) (by omega) (by omega),show((K+1:Nat):Int)+1=((K+2:Nat):Int)by omega];have EF:Ext h D:=(E6.trans be).then_fr f17 λc hc=>by
  have cu:=E6.1;rcases hc with hc|hc
  ·have:=(ab c hc).1;omega
  ·have:=(ar c hc).1;omega
 refine bA (α:=Unit) (K+2) 0 (λi _=>[.int .i64 (i:Int)]) (λi _ g'=>Ext g g') () rfl (Nat.zero_le _) (Ext.refl _) λj _ g' again ρ' _ hj L an=>?_
 simp only[gb];rw[bU,ah];refine aj (λc2=>?_) (λc2=>?_)
 ·have aw:=F.ext (eg.trans L);obtain⟨k1,k2,k3⟩:=key (j:Int);refine ae.at (KX aw (by unfold I64;omega)) ?_;have q1:ag .i .gtr (.int .i64 (lN K A j)) (.int .i64 (bu C.d.s.y.lines*(1+tw%13)*C.m.c))=some (.bool false):=by rw[l8,decide_eq_false (by omega)]
  have q2:ag .i .lss (.int .i64 (lN K A j)) (.int .i64 0)=some (.bool false):=by rw[bU,decide_eq_false (by omega)]
  rw[q1,ah,ib,ah,ib,q2,ah,tZ,ah,ib,ah,ib,l8,ah,ib,ah,ib,ah,Jg];refine(Pn aw (by unfold I64;omega) a9).mono λrv g2 NT=>?_
  obtain⟨ci,ct,bo⟩:=NT.isSl;have b2:aq rv=some (.int .i64 ((Ee K A j).length:Int)):=by rw[bo];rfl
  have bb:∀b:Bool,ag .b .neq (.bool b) (.bool b)=some (.bool false):=λb=>by cases b<;>rfl
  have eb:decide (0<lN K A j)=decide ((0:Int)<((Ee K A j).length:Int)):=by
   apply Bool.eq_iff_iff.2;simp only[decide_eq_true_eq];rw[k3];omega
  rw[ib,b2,ah,ib,l8,ah,ib,eb,bb,ah,tZ,ah,cf];have W:(j:Int)+1=((j+1:Nat):Int):=by omega
  simp only[go_sem];rw[w64 (n:=(j:Int)+1) (by omega) (by omega),W];exact an () g2 (by omega) (L.trans NT.2.1)
 ·exact⟨trivial,EF.trans (eg.trans L)⟩
end Go.Proofs.YtjljhnandbbldaaGreatDoor
namespace Go.Proofs.YtjljhnandbbldaaGreatDoor
open Go Go.Crisp
open _root_.Go.Proofs.Tryz
theorem r_PoolScratch {L:List (String×DataW Unit)}(l:Re L)(h:af)(args:Array Value)(H:zD prog L h)(R:sV [.st Sc,.st tOp,.int .u8,.int .u8,.int .u8,.int .u8,.sl (.int .u8) 1] h args.toList):
  ae prog kh args h λr h'=>r=.bool true∧Ext h h':=by
 obtain⟨cs,W,a,o,r0,e0,A,R⟩:=Tt R;obtain⟨x,r1,e1,I,R⟩:=Rj R;obtain⟨y,r2,D,hy,R⟩:=Rj R;obtain⟨z,r3,e3,U,R⟩:=Rj R;obtain⟨u,r4,G,hu,R⟩:=Rj R;obtain⟨v,k,r5,e5,S,h8,F,R⟩:=TE R;obtain rfl:r5=[]:=R;subst e5 G e3 D e1;obtain rfl:args=#[.agg cs.toArray,.agg W.toArray,.int .u8 x,.int .u8 y,.int .u8 z,.int .u8 u,v]:=by cases args;simp_all
 obtain⟨⟨_,h1⟩,h2,⟨_,h3⟩,h4⟩:=A;exact KY (l.glob H) h1 h2 h3 h4 I hy U hu S h8 F
end Go.Proofs.YtjljhnandbbldaaGreatDoor
