/- Several texts of this session, one behind the other, without what this claim does not need (put together by its program pack.py). Conditions: none. -/
import Derived.Test.YtcoimlclclnlkaaGreatDoorMs4
set_option linter.unusedVariables false
set_option linter.unusedSimpArgs false
set_option maxRecDepth 100000
namespace Go.Proofs.YtcoimlclclnlkaaGreatDoor
open Go Go.Crisp
attribute [local irreducible] ae cF aP stK aA vK qK bD gK dE aS mkK cG Cn DS Ad bsK clK qN lS R9
open _root_.Go.Proofs.Tryz
section
structure DV where
 X:Value
 Y:Value
 tv:Value
 mv:Value
 ql:Value
 cv:Value
 wv:Value
 av:Value
 st:Value
 en:Value
 lf:Value
def dpC (C:C21)(P:bR)(V:DV):List Value:=[V.X,V.Y,.int .i64 C.d.s.x.n,.int .i64 C.d.s.y.n,.int .i64 C.d.s.border,.int .i64 C.m.c,V.tv,V.mv,.int .i64 P.q.room,V.ql,.bool P.q.closed,V.cv,V.wv,V.av,.int .i64 P.sent,.bool P.q.closed,.bool P.ret,V.st,V.en,V.lf]
structure DAt (Z:Nat→Prop)(C:C21)(K N:Nat)(P:bR)(V:DV)(h:af):Prop where
 x:Rp.Sl km Z h V.X C.d.s.x.lines
 y:Rp.Sl km Z h V.Y C.d.s.y.lines
 t:Rp.Sl Dz Z h V.tv (dI C.d N)
 m:Rp.Sl Yf Z h V.mv (Ca C N)
 q:Rp.Sl (Rp.int .i64) Z h V.ql P.q.l∧Rp.SlCap V.ql
 c:Rp.Sl rIs Z h V.cv ((List.range (K+1)).map P.rows)
 w:Rp.Sl rVD Z h V.wv ((List.range K).map λi=>vOf C.E (P.ws i))
 a:Rp.Sl uh Z h V.av P.acc
 s:Rp.Sl rIs Z h V.st P.stamps
 e:Rp.Sl (Rp.int .i64) Z h V.en P.fin
 f:Rp.Sl rIs Z h V.lf P.left
section
variable {Z:Nat→Prop}{C:C21}{K N:Nat}{P:bR}{V:DV}{h:af}
theorem DAt.fr {M:Nat→Prop}{h':af}(H:DAt Z C K N P V h)(f:Fr M h h')(q:∀b,b<h.size→Z b→¬M b):DAt Z C K N P V h':=
 ⟨H.x.fr f q,H.y.fr f q,H.t.fr f q,H.m.fr f q,⟨H.q.1.fr f q,H.q.2⟩,H.c.fr f q,H.w.fr f q,H.a.fr f q,H.s.fr f q,H.e.fr f q,H.f.fr f q⟩
theorem DAt.ext {h':af}(H:DAt Z C K N P V h)(k:Ext h h'):DAt Z C K N P V h':=H.fr (M:=λ_=>False) k.fr λ_ _ _=>id
theorem DAt.mono {Z':Nat→Prop}(H:DAt Z C K N P V h)(q:∀b,b<h.size→Z b→Z' b):DAt Z' C K N P V h:=
 ⟨H.x.mono q,H.y.mono q,H.t.mono q,H.m.mono q,⟨H.q.1.mono q,H.q.2⟩,H.c.mono q,H.w.mono q,H.a.mono q,H.s.mono q,H.e.mono q,H.f.mono q⟩
theorem DAt.ones (H:DAt Z C K N P V h):∀v∈dpC C P V,aJ v=true:=
 ak H.x.one (ak H.y.one (ak rfl (ak rfl (ak rfl (ak rfl (ak H.t.one (ak H.m.one (ak rfl (ak H.q.1.one (ak rfl (ak H.c.one (ak H.w.one (ak H.a.one (ak rfl (ak rfl (ak rfl (ak H.s.one (ak H.e.one (ak H.f.one aQ)))))))))))))))))))
end
def DTo (Z:Nat→Prop)(C:C21)(K N:Nat)(h:af)(P:bR)(r:Value)(h':af):Prop:=∃Z' V,r=.agg (dpC C P V).toArray∧DAt Z' C K N P V h'∧(∀c,Z' c→(Z c∨h.size≤c)∧c<h'.size)∧Ext h h'
theorem Wv {h:af}{L F:Nat}{l:List Value}{T:TypeId}{A:Array Value}{n:Nat}{R:Value→af→Prop}(r1:h[L]? =some (.cells l.toArray T (0,0)))(r3:h[F]? =some (.cells A T (0,0)))(G:l.length=n)(ho:A.size=n)(h1:∀v∈l,aJ v=true)
  (W:∀h',Upd F h h'→R (.agg l.toArray) h'):vK (aH n h (ptr L)) λI=>stK n (ptr F) I h λaa D=>vK (aH n D (ptr F)) λH=>R H D:=by
 rw[aI r1 n G,ah];refine ce r3 (by omega) h1 G λh' U u=>?_
 rw[aI U n G,ah];exact W h' u
theorem Yg {Z:Nat→Prop}{h:af}{v:Value}{l:List (List Int)}{k:IntKind}{i:Nat}(H:Rp.Sl rIs Z h v l)(hi:i<l.length):∃p s,aR 1 v (.int k (i:Int))=some p∧ldV h p=some s∧Rp.Sl (Rp.int .i64) Z h s l[i]:=by
 obtain⟨b,o,cs,h1,F,D,⟨s,rfl,A⟩,_⟩:=H.atp (show 0<rIs.w from Nat.one_pos) (k:=k) hi;refine⟨_,s,h1,?_,A⟩;rw[wj];exact D 0 (by simp)
section
variable {Z:Nat→Prop}{C:C21}{K N:Nat}{P:bR}{V:DV}{h:af}
theorem L9 (H:DAt Z C K N P V h)(zl:∀c,Z c→c<h.size){who:Nat}(hw:who≤K){buf lo cnt:Int}{wr:Bool}(hl:P.acc.length≤1000000)(h1:0≤lo)(h2:0≤cnt)(h3:lo+cnt≤1000000000000):
  ae prog qU #[.agg (dpC C P V).toArray,.int .i64 (who:Int),.int .i64 buf,.int .i64 lo,.int .i64 cnt,.bool wr] h (DTo Z C K N h (qD P who buf lo cnt wr)):=by
 apply KB;unfold AM;rw[bC];refine aC λL g1 r1 e1 n1=>aC λb3 g3 r3 e3 n3=>?_
 have k1:=aU r1;have k3:=aU r3;have s1:=e1.1;have s3:=e3.1;have r1:=e3.row r1;have H3:=H.ext (e1.trans e3);have ad:aB g3 ⟨L,11,none⟩=some V.cv:=ai r1;simp only[go_sem,Nat.zero_add,ad];have W:who<((List.range (K+1)).map P.rows).length:=by simp;omega
 obtain⟨p,s,i1,i2,i3⟩:=Yg (k:=.i64) H3.c W;have e0:((List.range (K+1)).map P.rows)[who]=P.rows who:=by simp
 rw[e0]at i3;simp only[go_sem,i1,i2];rw[w64 (n:=lo+cnt) (by omega) (by omega),Ps i3.one,bA,ah];have oa:∀v∈[Value.int .i64 (who:Int),s,.int .i64 buf,.int .i64 lo,.int .i64 (lo+cnt),.bool wr],aJ v=true:=ak rfl (ak i3.one (ak rfl (ak rfl (ak rfl (ak rfl aQ)))));refine cD (cs:=[Value.int .i64 (who:Int),s,.int .i64 buf,.int .i64 lo,.int .i64 (lo+cnt),.bool wr]) rfl oa rfl λb5 F r5 U n5=>?_
 have s5:=U.1;have k5:=aU r5;have E5:Ext h F:=e1.trans (e3.trans U);have H5:=H3.ext U;have aa:=U.row r1;have an:=U.row r3;refine aV (λxs g=>xs=[]∧∃Z' A,DAt Z' C K N (qD P who buf lo cnt wr) {V with av:=A} g∧g[L]? =some (.cells (dpC C (qD P who buf lo cnt wr) {V with av:=A}).toArray 110 (0,0))∧g[b3]? =some (.cells aD 110 (0,0))∧(∀c,Z' c→(Z c∨h.size≤c)∧c<g.size∧c≠b3)∧Ext h g) ?_ ?_
 ·refine aG (Ext F) (Ext.refl _) ?_;have M0:Cp uh Z F none none F:=Cp.start F λc hc=>Nat.lt_of_lt_of_le (zl c hc) E5.1
  have q1:∀D,Ext F D→aB D ⟨L,13,none⟩=some V.av:=λD e=>ai (e.row aa)
  have q2:∀D,Ext F D→aH 6 D (ptr b5)=some (.agg [Value.int .i64 (who:Int),s,.int .i64 buf,.int .i64 lo,.int .i64 (lo+cnt),.bool wr].toArray):=λD e=>aI (e.row r5) 6 rfl
  refine ao V.av q1 ?_;refine ao _ q2 ?_;have hx:uh.R Z F [Value.int .i64 (who:Int),s,.int .i64 buf,.int .i64 lo,.int .i64 (lo+cnt),.bool wr] ⟨who,P.rows who,buf,lo,lo+cnt,wr⟩:=⟨s,rfl,i3.ext U⟩
  have fin:∀A D,Rp.Ow uh Z D A (([]:List Acc)++P.acc++[⟨who,P.rows who,buf,lo,lo+cnt,wr⟩])→Ext F D→(∀b,blk A b→F.size≤b)→stK 1 (.pointer (some ⟨L,13,none⟩)) A D λ_ G=>([]:List Value)=[]∧∃Z' A,DAt Z' C K N (qD P who buf lo cnt wr) {V with av:=A} G∧G[L]? =some (.cells (dpC C (qD P who buf lo cnt wr) {V with av:=A}).toArray 110 (0,0))∧G[b3]? =some (.cells aD 110 (0,0))∧(∀c,Z' c→(Z c∨h.size≤c)∧c<G.size∧c≠b3)∧Ext h G:=by
   intro A D o e n;have al:=e.row aa;refine bJ al (by show 13<(dpC C P V).toArray.size;simp[dpC]) o.one λg7 r7 u7=>⟨rfl,λc=>(Z c∧c<h.size)∨blk A c,A,?_,r7,u7.row (by omega) (e.row an),λc hc=>?_,(E5.trans e).upd n1 u7⟩
   ·have hz:∀c,Z c→¬c=L:=λc hc h=>by have:=zl c hc;omega
    have H7:=((H5.ext e).mono (Z':=λc=>(Z c∧c<h.size)∨blk A c) λc _ hc=>.inl ⟨hc,zl c hc⟩)
    have o7:Rp.Sl uh (λc=>(Z c∧c<h.size)∨blk A c) D A (P.acc++[⟨who,P.rows who,buf,lo,lo+cnt,wr⟩]):=o.sl.mono λc _ hc=>hc.imp (λhc=>⟨hc,zl c hc⟩) id
    have q:∀c,c<D.size→((Z c∧c<h.size)∨blk A c)→¬c=L:=λc _ hc h=>by
     rcases hc with hc|hc
     ·exact hz c hc.1 h
     ·have:=n c hc;omega
    have I:=H7.fr u7.fr q;exact⟨I.x,I.y,I.t,I.m,I.q,I.c,I.w,o7.fr u7.fr q,I.s,I.e,I.f⟩
   ·have s7:=u7.1;have se:=e.1;rcases hc with hc|hc
    ·exact⟨.inl hc.1,by omega,by omega⟩
    ·have:=n c hc;have:=o.lt hc;exact⟨.inr (by omega),by omega,by omega⟩
  repeat' first
   |exact fin _ _ ‹_› ‹_› ‹_›
   |exact Cp.ext ‹Cp _ _ _ _ _ _›
   |exact ‹Ext F _›
   |refine And.intro ?_ ?_
   |refine Cp.row0 ‹Cp _ _ _ none _ _› λv D M=>?_
   |refine Cp.row1 (e:=uh) ‹Cp uh _ _ _ none _› hx rfl λv D M=>?_
   |refine Cp.app (e:=uh) (l:=[]) ‹Cp uh _ _ (some (_,[])) _ _› H5.a rfl (by simp;omega) (by simp;omega) λv D M=>?_
   |refine Cp.app1 (e:=uh) (l:=[]++P.acc) ‹Cp uh _ _ (some (_,[]++P.acc)) (some _) _› rfl (by simp;omega) (by simp;omega) λv D o e n=>?_
 ·rintro xs ρ g6 ⟨rfl,Z',A,H6,r6,ab,z6,E6⟩;refine Wv r6 ab rfl rfl H6.ones λg8 u8=>⟨Z',_,rfl,H6.fr u8.fr λc _ hc=>(z6 c hc).2.2,λc hc=>⟨(z6 c hc).1,by rw[u8.1];exact(z6 c hc).2.1⟩,E6.upd (by omega) u8⟩
end
end
section
section
variable {C:C21}{K:Nat}{P:bR}
theorem NO.more {s A:Int}{w:WD}{k:Int}(H:NO C s w k)(h:s≤A):NO C A w k:=⟨λx D=>by have:=H.tl x D;omega,H.st,H.jb⟩
theorem Wr (H:kb C K P)(h:P.sent<bP C.d):kb C K (XW K {P with picks:=P.picks+1}):=by
 have h1:=H.sent;have F:=H.st;have G:=H.pk;refine⟨⟨by show 0≤P.sent+1;omega,by show P.sent+1≤_;omega⟩,by show((P.stamps++[P.rows 0]).length:Int)=P.sent+1;rw[List.length_append];simp only[List.length_cons,List.length_nil];omega,λx A=>?_,λi hi=>(H.w i hi).more (by show P.sent≤P.sent+1;omega),λi hi=>by have:=H.tn i hi;show _≤P.picks+1;exact Int.le_trans this (by omega),λi hi=>G0 (λj I=>H.rows j (by omega)) 0 i (by omega),λs D=>?_,H.fn,H.ls,by have:=H.ln;show _≤P.picks+1;exact Int.le_trans this (by omega),by have:=H.ac;show(P.acc.length:Int)≤2+2*(P.picks+1);omega,by show 0≤P.picks+1;omega,λhc=>?_⟩
 ·have A:x∈(mQ P.q P.sent).l:=A;show 0≤x∧x<P.sent+1;unfold mQ at A;split at A
  ·have:=H.q x A;omega
  ·split at A
   ·have:=H.q x A;omega
   ·rcases List.mem_append.1 A with A|A
    ·have:=H.q x A;omega
    ·have:=List.mem_singleton.1 A;omega
 ·rcases List.mem_append.1 D with D|D
  ·exact H.ss s D
  ·rw[List.mem_singleton.1 D];exact H.rows 0 (by omega)
 ·have hc:(mQ P.q P.sent).closed=true:=hc;have hc:P.q.closed=true:=by
   unfold mQ at hc;split at hc
   ·exact hc
   ·split at hc<;>exact hc
  have:=H.cl hc;omega
theorem Vm (H:kb C K P)(h:¬P.sent<bP C.d):kb C K (Vn K {P with picks:=P.picks+1}):=by
 have h1:=H.sent;have A:=H.pk;exact⟨H.sent,H.st,H.q,H.w,λi hi=>by have:=H.tn i hi;show _≤P.picks+1;exact Int.le_trans this (by omega),λi hi=>G0 (λj D=>H.rows j (by omega)) 0 i (by omega),H.ss,by show(P.rows 0).length≤_;rw[H.rows 0 (by omega)];exact Nat.le_refl _,H.ls,by have:=H.ln;show _≤P.picks+1;exact Int.le_trans this (by omega),by have:=H.ac;show(P.acc.length:Int)≤2+2*(P.picks+1);omega,by show 0≤P.picks+1;omega,λ_=>by show P.sent=_;omega⟩
theorem XR {rows:Nat→List Int}(h:∀i,i≤K→(rows i).length=K+1):∀(l:List (List Int)) i,i≤K→(wh K rows l i).length=K+1:=by
 intro l;induction l generalizing rows with
 |nil=>exact h
 |cons s l A=>exact A (rows:=lR (K+1) rows 0 s) λi hi=>IZ (λj D=>h j (by omega)) 0 s i (by omega)
theorem Xe (H:kb C K P):kb C K (X2 C K {P with picks:=P.picks+1}):=by
 have A:=H.pk;exact⟨H.sent,H.st,H.q,H.w,λi hi=>by have:=H.tn i hi;show _≤P.picks+1;exact Int.le_trans this (by omega),XR H.rows P.left,H.ss,H.fn,H.ls,by have:=H.ln;show _≤P.picks+1;exact Int.le_trans this (by omega),by have:=H.ac;show((P.acc++[_]).length:Int)≤2+2*(P.picks+1);rw[List.length_append];simp only[List.length_cons,List.length_nil];omega,by show 0≤P.picks+1;omega,H.cl⟩
theorem Wp {E:Option WE}{jo:Option (cz×Int×Int)}{w:WD}{q:QD}:(∀x∈(cE E jo w q).2.1.l,x∈q.l)∧(cE E jo w q).2.1.closed=q.closed:=by
 have A:(∀x∈(mR q).l,x∈q.l)∧(mR q).closed=q.closed:=⟨λx D=>List.mem_of_mem_tail D,rfl⟩
 unfold cE;split
 ·split
  ·exact⟨λ_ h=>h,rfl⟩
  ·exact⟨λ_ h=>h,rfl⟩
 ·split
  ·exact⟨λ_ h=>h,rfl⟩
  ·split
   ·exact A
   ·split<;>exact A
theorem Wm (H:kb C K P){k:Nat}(A:k<K):kb C K (gY C {P with picks:=P.picks+1} k):=by
 have I:=H.pk;have hq:=Wp (E:=some C.E) (jo:=C.jo (bN P.q)) (w:=P.ws k) (q:=P.q);have D:=(H.w k A).step H.q;have G:=Od (E:=some C.E) (jo:=C.jo (bN P.q)) (w:=P.ws k) (d:=P.q);refine⟨H.sent,H.st,λx F=>H.q x (hq.1 x F),λi hi=>?_,λi hi=>?_,H.rows,H.ss,H.fn,H.ls,by have:=H.ln;show _≤P.picks+1;exact Int.le_trans this (by omega),by have:=H.ac;show(P.acc.length:Int)≤2+2*(P.picks+1);omega,by show 0≤P.picks+1;omega,λhc=>H.cl (by rw[←hq.2];exact hc)⟩
 ·by_cases e:i=k
  ·subst e;show NO C P.sent (if i=i then(cE (some C.E) (C.jo (bN P.q)) (P.ws i) P.q).1 else P.ws i) (if i=i∧(P.ws i).state=0∧di P.q=0 then pQ C (bN P.q)else P.words i);simp only[if_true,true_and];exact D
  ·show NO C P.sent (if i=k then _ else P.ws i) (if i=k∧_ then _ else P.words i);rw[if_neg e,if_neg λh=>e h.1];exact H.w i hi
 ·by_cases e:i=k
  ·subst e;show(((if i=i then(cE (some C.E) (C.jo (bN P.q)) (P.ws i) P.q).1 else P.ws i).tiles.length:Nat):Int)≤P.picks+1;rw[if_pos rfl];have:=H.tn i A;omega
  ·show(((if i=k then(cE (some C.E) (C.jo (bN P.q)) (P.ws k) P.q).1 else P.ws i).tiles.length:Nat):Int)≤P.picks+1;rw[if_neg e];have:=H.tn i hi;omega
theorem We (H:kb C K P){k:Nat}(L:k<K):kb C K (qe C K {P with picks:=P.picks+1} k):=by
 have S:=Wm H L;have U:=H.ac;have I:=H.ln;unfold qe;split
 ·exact⟨S.sent,S.st,S.q,S.w,S.tn,λi hi=>IZ (λj G=>H.rows j (by omega)) _ _ i (by omega),S.ss,S.fn,S.ls,S.ln,S.ac,S.pk,S.cl⟩
 ·split
  ·have D:((we C (gY C {P with picks:=P.picks+1} k) k (evP C {P with picks:=P.picks+1} k)).acc.length:Int)≤2+2*(P.picks+1):=by
    unfold we;split
    ·show(((P.acc++[_])++[_]).length:Int)≤_;simp only[List.length_append,List.length_cons,List.length_nil];omega
    ·show(((P.acc++[_])++[_]).length:Int)≤_;simp only[List.length_append,List.length_cons,List.length_nil];omega
   unfold we at D ⊢;split at D
   ·rename_i hc;rw[if_pos hc];exact⟨S.sent,S.st,S.q,S.w,S.tn,S.rows,S.ss,S.fn,S.ls,S.ln,D,S.pk,S.cl⟩
   ·rename_i hc;rw[if_neg hc];exact⟨S.sent,S.st,S.q,S.w,S.tn,S.rows,S.ss,S.fn,S.ls,S.ln,D,S.pk,S.cl⟩
  ·split
   ·have F:∀i,i≤K→(lR (K+1) P.rows (k+1:Nat) P.fin i).length=K+1:=λi hi=>IZ (λj G=>H.rows j (by omega)) _ _ i (by omega)
    refine⟨S.sent,S.st,S.q,S.w,S.tn,λi hi=>G0 (λj G=>F j (by omega)) _ i (by omega),S.ss,S.fn,λs A=>?_,?_,S.ac,S.pk,S.cl⟩
    ·rcases List.mem_append.1 A with A|A
     ·exact H.ls s A
     ·rw[List.mem_singleton.1 A];exact F (k+1) (by omega)
    ·show((P.left++[_]).length:Int)≤P.picks+1;rw[List.length_append];simp only[List.length_cons,List.length_nil];omega
   ·exact S
theorem R5 (H:kb C K P)(i:Int):kb C K (qC C K P i):=by
 unfold qC;split
 ·exact H
 ·rename_i A;split
  ·unfold Jc;split
   ·rename_i h;exact Wr H h
   ·rename_i h;split
    ·exact Vm H h
    ·exact Xe H
  ·rename_i h0;have hi:0<i∧i≤K:=by
    unfold gQ at A;split at A
    ·exact absurd rfl A
    ·omega
   exact We H (by omega)
end
section
variable {C:C21}{Z:Nat→Prop}{K:Nat}{h0 h:af}{bw:Nat→Nat}{bp:Nat}{o:Nat→Nat}{n:Pic}{P:bR}
theorem IsW.job_at {Z B:Nat→Prop}{h:af}{bw:Nat}{E:WE}{n:Pic}{w:WD}(H:IsW Z B h bw (some E) n w):∀t y e,w.job=some (t,y,e)→t.y≤y∧y<t.y+t.h∧lnF E.s.y y≤e∧e≤lnE E.s.y y:=by
 obtain⟨⟨tv,U,I,r,o,J,_⟩,_,_,_,_,_,st⟩:=H;intro t y e G;rw[G]at J st;obtain⟨L,F,ok,hc,bj,rv,_,S⟩:=J;cases F;obtain⟨⟨M,rs,J,_,k⟩,_⟩:=S;rcases st with⟨_,A,_⟩|⟨_,h⟩
 ·have A:bM (E.d t) y e≠0:=A;unfold bM at A;split at A
  ·exact absurd rfl A
  ·rename_i D;have D:¬t.y+t.h≤y:=D;have:=k (by show y<t.y+t.h;omega);exact⟨J.y0,by omega,this.2⟩
 ·cases h
theorem Oy {q:QD}(h:di q=0):bN q∈q.l:=by
 unfold di at h;unfold bN;cases A:q.l with
 |nil=>rw[A,if_pos rfl]at h;split at h<;>omega
 |cons a l=>simp
theorem Wj {E:WE}{jo:Option (cz×Int×Int)}{w:WD}{q:QD}(h:(w.state=1∧qO (some E) w.job∧w.tiles≠[])∨((w.state=0∨w.state=2)∧w.job=none))(D:(cE (some E) jo w q).2.2.1=1):(cE (some E) jo w q).2.2.2.1=bN q∧w.state=0∧di q=0:=by
 obtain⟨st,tl,j,H⟩:=w;unfold cE at D ⊢;rcases h with⟨A,G,_⟩|⟨A|A,G⟩
 ·have A:st=1:=A;subst A;cases j with
  |none=>exact(show False from G).elim
  |some x=>exact absurd (show(2:Int)=1 from D) (by omega)
 ·have A:st=0:=A;subst A;rw[if_neg (show¬(0:Int)=1 by omega),if_neg (show¬(0:Int)=2 by omega)]at D ⊢;by_cases F:di q=0
  ·rw[if_pos F];exact⟨rfl,rfl,F⟩
  ·rw[if_neg F]at D;split at D
   ·exact absurd (show(3:Int)=1 from D) (by omega)
   ·exact absurd (show(0:Int)=1 from D) (by omega)
 ·have A:st=2:=A;subst A;rw[if_neg (show¬(2:Int)=1 by omega),if_pos rfl]at D;exact absurd (show(0:Int)=1 from D) (by omega)
theorem UL {E:WE}{jo:Option (cz×Int×Int)}{w:WD}{q:QD}(h:(w.state=1∧qO (some E) w.job∧w.tiles≠[])∨((w.state=0∨w.state=2)∧w.job=none))(D:(cE (some E) jo w q).2.2.1=2):
  ∃t y e,w.job=some (t,y,e)∧w.state=1∧(cE (some E) jo w q).2.2=(2,w.tiles.getLast?.getD 0,bM (E.d t) y e,gi (E.d t) y e)∧bM (E.d t) y e≠0:=by
 obtain⟨st,tl,j,H⟩:=w;unfold cE at D ⊢;rcases h with⟨A,F,_⟩|⟨A|A,F⟩
 ·have A:st=1:=A;subst A;cases j with
  |none=>exact(show False from F).elim
  |some x=>exact⟨x.1,x.2.1,x.2.2,rfl,rfl,rfl,F⟩
 ·have A:st=0:=A;subst A;rw[if_neg (show¬(0:Int)=1 by omega),if_neg (show¬(0:Int)=2 by omega)]at D;by_cases G:di q=0
  ·rw[if_pos G]at D;exact absurd (show(1:Int)=2 from D) (by omega)
  ·rw[if_neg G]at D;split at D
   ·exact absurd (show(3:Int)=2 from D) (by omega)
   ·exact absurd (show(0:Int)=2 from D) (by omega)
 ·have A:st=2:=A;subst A;rw[if_neg (show¬(2:Int)=1 by omega),if_pos rfl]at D;exact absurd (show(0:Int)=2 from D) (by omega)
theorem UP {t:Tbl}(W:t.Wf)(y:Int): -70368744177664≤(aW t y).1∧(aW t y).1≤70368744177664∧(aW t y).2.length≤1048576:=by
 unfold aW;split
 ·rw[List.getD_eq_getElem?_getD];by_cases h:y.toNat<t.lines.length
  ·rw[List.getElem?_eq_getElem h];have:=W.taps _ (List.getElem_mem h);exact⟨this.2.1,this.2.2,this.1⟩
  ·rw[List.getElem?_eq_none (by omega)];exact⟨by decide,by decide,by decide⟩
 ·exact⟨by decide,by decide,by decide⟩
def SP (C:C21)(K:Nat)(P:bR)(i:Int)(n n':Pic):Prop:=if gQ C K P i=true∧i≠0 then zW (some C.E) (P.ws (i-1).toNat) n n' else n'=n
theorem YX (O:C.Ok)(G:dA h0)(H:eZ C Z K h0 bw bp o n P h)(W:kb C K P){i:Int}(hi:I64 i)(an:P.picks≤400000)(al:bP C.d≤1000000)(hb:∀c,de (some C.E) c→h0.size≤c):
  ae prog ii #[ptr bp,.int .i64 i] h λr h'=>r=.bool (gQ C K P i)∧∃n',PTo C Z K h0 bw bp o h n' (qC C K P i) h'∧SP C K P i n n':=by
 apply DO;unfold tE;refine ae.at (Vs O H hi) ?_;unfold qC SP;have w1:=W.pk;have w2:=W.ac;have w3:=W.ln;have w4:=W.sent;have w5:=W.st;cases hr:gQ C K P i with
 |false=>
  simp only[go_sem];exact⟨trivial,n,by simpa using PTo.refl H,by simp⟩
 | true=>
  obtain⟨V,HB,row⟩:=H.row;have hp:=HB.po;have hK:=HB.few;have aa:aB h ⟨bp,13,none⟩=some (.int .i64 P.picks):=ai row;simp only[go_sem,Nat.zero_add,aa];rw[w64 (n:=P.picks+1) (by omega) (by omega)];refine bJ row (show 13<_ from by simp[gn]) rfl λg r u=>?_
  have ad:=HB.setrow u (st:=P.sent) (rt:=P.ret) (pk:=P.picks+1) r;have H1:eZ C Z K h0 bw bp o n {P with picks:=P.picks+1} g:=⟨V,ad⟩
  have F1:Fr (λc=>o c≠0∨de (some C.E) c) h g:=u.fr.mono λc _ hc=>.inl (by have hc:c=bp:=hc;rw[hc];omega)
  have T:∀{n' P' h'},PTo C Z K h0 bw bp o g n' P' h'→PTo C Z K h0 bw bp o h n' P' h':=λ{n' P' h'} t=>PTo.trans (h1:=g) ⟨H1,λ_ _=>rfl,F1⟩ t
  rw[if_neg (by simp)];by_cases D:i=0
  ·subst D;simp only[go_sem];refine(YP O H1 (by show P.acc.length≤_;omega) (by show P.stamps.length≤_;omega) w4.1 (λs hs=>by have:=W.ls s hs;omega) (by show P.left.length≤_;omega) al).mono λr g2 t=>⟨trivial,n,T t,?_⟩
   simp
  ·simp only[go_sem,D];have ar:0<i∧i≤K:=by
    unfold gQ at hr;split at hr
    ·cases hr
    ·omega
   obtain⟨k,rfl⟩:∃k:Nat,i=(k:Int)+1:=⟨(i-1).toNat,by omega⟩
   have hk:k<K:=by omega
   have ek:((k:Int)+1-1).toNat=k:=by omega
   rw[ek];have I:=W.w k hk;have tk:=W.tn k hk;have IW:=HB.ws k hk id;refine(YI O G H1 hk (by show(P.ws k).tiles.length≤_;omega) hb (by show P.acc.length≤_;omega) (by show P.left.length≤_;omega) (λA=>?_) (λF=>?_) (λs hs=>by have:=W.ss s hs;omega) (by have:=W.fn;show P.fin.length≤_;omega) λF=>?_).mono λr g2 ⟨n',t,Dr⟩=>⟨trivial,n',by rw[if_neg (λh:False=>h)];exact T t,?_⟩
   ·have A:(P.ws k).state=0∧di P.q=0:=A;have hm:=Oy A.2;have:=W.q _ hm;show 0≤bN P.q∧bN P.q<bP C.d;omega
   ·have F:(cE (some C.E) (C.jo (bN P.q)) (P.ws k) P.q).2.2.1=1:=F;obtain⟨e1,e2⟩:=Wj I.st F;have hm:=Oy e2.2;have:=W.q _ hm;have ee:(evP C {P with picks:=P.picks+1} k).2.1=bN P.q:=e1;rw[ee];show 0≤bN P.q∧bN P.q<(P.stamps.length:Int);omega
   ·have F:(cE (some C.E) (C.jo (bN P.q)) (P.ws k) P.q).2.2.1=2:=F;obtain⟨t,y,e,hj,s1,ev,L⟩:=UL I.st F;have ab:(P.ws k).tiles≠[]:=by
     rcases I.st with h|h
     ·exact h.2.2
     ·rw[h.2]at hj;cases hj
    have hl:=I.tl _ (Pf ab);obtain⟨j1,j2⟩:=I.jb t y e hj;obtain⟨a1,a2,a3,a4⟩:=IW.job_at t y e hj;have U:0≤(P.ws k).tiles.getLast?.getD 0∧(P.ws k).tiles.getLast?.getD 0<bP C.d:=by omega
    have wt:=jw O.d U.1 U.2;rw[←j1]at wt;unfold dO at wt;have ew:(gY C {P with picks:=P.picks+1} k).words k=pQ C ((P.ws k).tiles.getLast?.getD 0):=by
     show(if k=k∧(P.ws k).state=0∧di P.q=0 then _ else P.words k)=_;rw[if_neg (by omega)];exact j2
    have wi:=Ug O U.1 U.2;rw[ew];have ee:evP C {P with picks:=P.picks+1} k=(2,(P.ws k).tiles.getLast?.getD 0,bM (C.E.d t) y e,gi (C.E.d t) y e):=ev;rw[ee];have bl:=UP O.s.wf.y y;have sj:gi (C.E.d t) y e=if bM (C.E.d t) y e=1 then e else y:=by
     have L:=L;unfold bM at L;unfold gi bM;by_cases q1:(C.E.d t).t.y+(C.E.d t).t.h≤y
     ·rw[if_pos q1]at L;exact absurd rfl L
     ·rw[if_neg q1,if_neg q1];by_cases q2:e<lnE (C.E.d t).s.y y
      ·rw[if_pos q2,if_pos q2,if_pos rfl]
      ·rw[if_neg q2,if_neg q2,if_neg (by omega)]
    have hY:C.d.Y=((C.d.s.y.lines.length:Nat):Int):=rfl;have bY:=cK.bd O.d;refine⟨U,?_,λh1=>?_,wi⟩
    ·show I64 (gi (C.E.d t) y e);rw[sj];unfold I64;unfold lnF at a3;unfold lnE at a4;have bl: -70368744177664≤(aW C.E.s.y y).1∧(aW C.E.s.y y).1≤70368744177664∧(aW C.E.s.y y).2.length≤1048576:=bl;split<;>omega
    ·have h1:bM (C.E.d t) y e≠1:=h1;show 0≤gi (C.E.d t) y e∧gi (C.E.d t) y e<C.d.Y;rw[sj,if_neg h1];omega
   ·rw[if_pos ⟨trivial,D⟩];exact Dr
end
end
section
theorem WK {K:Nat}(h:1≤K∧K≤256):Lb ((K:Int)+1)=K+1:=by unfold Lb;omega
theorem Uu {α:Type}(n:Nat)(x:α):List.replicate n x=(List.range n).map λ_=>x:=by rw[List.map_const',List.length_range]
structure jz (h0:af)(K:Nat)(room:Int)(q:Option Nat)(c:Option (Value×(Nat→Prop)))(d:Option Value)(g:af):Prop where
 ext:Ext h0 g
 hq:∀b,q=some b→IsQ (λc=>c=b) g b ⟨min (max 1 room) 4096,[],false⟩∧h0.size≤b
 hc:∀p,c=some p→dX p.2 g p.1 (K+1) (qL (K+1))∧∀b,p.2 b→h0.size≤b∧b<g.size
 hd:∀v,d=some v→Own 1 g v K ((List.range K).map λ_=>.int .i64 0)∧∀b,blk v b→h0.size≤b
 qc:∀b p,q=some b→c=some p→¬p.2 b
 qd:∀b v,q=some b→d=some v→¬blk v b
 cd:∀p v b,c=some p→d=some v→p.2 b→¬blk v b
section
variable {h0 g:af}{K:Nat}{room:Int}{q:Option Nat}{c:Option (Value×(Nat→Prop))}{d:Option Value}{X:Value→af→Prop}
theorem jz.start (h:af)(K:Nat)(room:Int):jz h K room none none none h:=⟨Ext.refl _,by simp,by simp,by simp,by simp,by simp,by simp⟩
theorem jz.ex {A:af}(M:jz h0 K room q c d g)(e:Ext g A):jz h0 K room q c d A:=
 ⟨M.ext.trans e,λb h=>⟨(M.hq b h).1.ext e,(M.hq b h).2⟩,λp h=>⟨(M.hc p h).1.ext e,λb D=>⟨((M.hc p h).2 b D).1,Nat.lt_of_lt_of_le ((M.hc p h).2 b D).2 e.1⟩⟩,λv h=>⟨(M.hd v h).1.fr (M:=λ_=>False) e.fr λ_ _=>id,(M.hd v h).2⟩,M.qc,M.qd,M.cd⟩
theorem jz.queue (M:jz h0 K room none c d g)(H:∀b A,jz h0 K room (some b) c d A→X (ptr b) A):ae prog lz #[.int .i64 room] g X:=by
 refine VF.mono λr A ⟨b,G,Q,e,n⟩=>?_
 subst G;have M':=M.ex e;have s:=M.ext.1;refine H b A ⟨M'.ext,λF h=>by cases h;exact⟨Q,by omega⟩,M'.hc,M'.hd,λF p h L D=>?_,λF v h I D=>?_,M.cd⟩
 ·cases h;have:=((M.hc p L).2 b D).2;omega
 ·cases h;have:=(M.hd v I).1.lt D;omega
theorem jz.clock (W:1≤K∧K≤256)(M:jz h0 K room q none d g)(H:∀p D,jz h0 K room q (some p) d D→X p.1 D):ae prog lC #[.int .i64 ((K:Int)+1)] g X:=by
 refine(c_New ((K:Int)+1)).mono λr D ⟨U,I,e,n⟩=>?_
 rw[WK W]at I;have M':=M.ex e;have s:=M.ext.1;refine H (r,U) D ⟨M'.ext,M'.hq,λp h=>by cases h;exact⟨I,λb A=>⟨by have:=n b A;omega,by obtain⟨_,_,_,_,_,L⟩:=I;exact L.lt b A⟩⟩,M'.hd,λb p h G A=>?_,M.qd,λp v b G hv A F=>?_⟩
 ·cases G;have:=n b A;have:=(M.hq b h).1.ql b rfl;omega
 ·cases G;have:=n b A;have:=(M.hd v hv).1.lt F;omega
theorem jz.words (U:1≤K∧K≤256)(M:jz h0 K room q c none g){t:TypeId}(H:∀v D,jz h0 K room q c (some v) D→X v D):mkK (.int .i64 0) t 1 8 (.int .i64 (K:Int)) (.int .i64 (K:Int)) g X:=by
 refine lQ rfl (by omega) (by omega) λv D o e n=>?_
 rw[Uu]at o;have M':=M.ex e;have s:=M.ext.1;refine H v D ⟨M'.ext,M'.hq,M'.hc,λI h=>by cases h;exact⟨o,λb A=>by have:=n b A;omega⟩,M.qc,λb I h G A=>?_,λp I b L G A F=>?_⟩
 ·cases G;have:=n b A;have:=(M.hq b h).1.ql b rfl;omega
 ·cases G;have:=n b F;have:=((M.hc p L).2 b A).2;omega
end
theorem TB {vc dv:Value}{a b c d:Nat}(hc:aJ vc=true)(hd:aJ dv=true):(aE #[(.pointer none),(.pointer none),(.pointer none),(.pointer none),(.pointer none),(.slice none 0 0),(.slice none 0 0),(.slice none 0 0),(.int .i64 0),(.slice none 0 0),(.slice none 0 0),(.slice none 0 0),(.bool false),(.int .i64 0)] [(0,1,ptr a),(1,1,ptr b),(2,1,ptr c),(3,1,ptr d),(4,1,vc),(7,1,dv)]).map Value.agg=
  some (.agg #[ptr a,ptr b,ptr c,ptr d,vc,.slice none 0 0,.slice none 0 0,dv,.int .i64 0,.slice none 0 0,.slice none 0 0,.slice none 0 0,.bool false,.int .i64 0]):=by
 have:aE #[(.pointer none),(.pointer none),(.pointer none),(.pointer none),(.pointer none),(.slice none 0 0),(.slice none 0 0),(.slice none 0 0),(.int .i64 0),(.slice none 0 0),(.slice none 0 0),(.slice none 0 0),(.bool false),(.int .i64 0)] [(0,1,ptr a),(1,1,ptr b),(2,1,ptr c),(3,1,ptr d),(4,1,vc),(7,1,dv)]=some #[ptr a,ptr b,ptr c,ptr d,vc,.slice none 0 0,.slice none 0 0,dv,.int .i64 0,.slice none 0 0,.slice none 0 0,.slice none 0 0,.bool false,.int .i64 0]:=by
  refine(bI (n:=1) (l:=[ptr a]) rfl rfl (by simp)).trans ?_;refine(bI (n:=1) (l:=[ptr b]) rfl rfl (by simp[bZ])).trans ?_;refine(bI (n:=1) (l:=[ptr c]) rfl rfl (by simp[bZ])).trans ?_;refine(bI (n:=1) (l:=[ptr d]) rfl rfl (by simp[bZ])).trans ?_;refine(bI (n:=1) (l:=[vc]) (bU hc) rfl (by simp[bZ])).trans ?_;refine(bI (n:=1) (l:=[dv]) (bU hd) rfl (by simp[bZ])).trans ?_;rw[fB];simp[wrL]
 rw[this];rfl
structure Y9 (hL:af)(bp:Nat)(row:Value→Array Value)(T:TypeId)(i:Nat)(wv:Value)(bw:Nat→Nat)(g:af):Prop where
 fr:Fr (λc=>c=bp) hL g
 own:Own 1 g wv i ((List.range i).map λj=>ptr (bw j))
 ws:∀j,j<i→g[bw j]? =some (.cells #[.int .i64 0,.slice none 0 0,.pointer none,.int .i64 0] 175 (0,0))∧hL.size≤bw j
 ne:∀j k,j<k→k<i→bw j≠bw k
 nw:∀b,blk wv b→hL.size≤b∧∀j,j<i→b≠bw j
 p:g[bp]? =some (.cells (row wv) T (0,0))
theorem Wc {hL:af}{bp:Nat}{row:Value→Array Value}{T:TypeId}{K:Nat}(hK:1≤K∧K≤256)(r0:hL[bp]? =some (.cells (row (.slice none 0 0)) T (0,0)))(h6:∀v,(row v)[6]? =some v)(L:∀v v',(row v).setIfInBounds 6 v'=row v'){tA tB:TypeId}{X:af→Prop}
  (HX:∀wv bw g,Y9 hL bp row T K wv bw g→X g):
  aS [(.int .i64 0)] hL λU bk A D=>vK (ag .i .lss (ix U 0) (.int .i64 (K:Int))) λan=>aA an (
  bD A λS=>vK (aK (ptr bp)) λax=>vK (am 6 ax) λa8=>qK S (λA=>ldV A a8) λbi=>
  ae prog lZ #[] A λau G=>S G∧(cF #[(.pointer none)] tA 1 [(0,1,au)] G λal W=>S W∧(cG (.pointer none) tB 1 8 bi al W λab ad=>
  vK (aK (ptr bp)) λa9=>vK (am 6 a9) λbc=>stK 1 bc ab ad λbv a7=>vK (ag .i .add (ix U 0) (.int .i64 1)) λaw=>D [aw] a7))) (X A):=by
 have bo:=aU r0;refine bB (α:=Value×(Nat→Nat)) K 0 (λi _=>[.int .i64 (i:Int)]) (λi s g=>Y9 hL bp row T i s.1 s.2 g) (.slice none 0 0,λ_=>0) rfl (Nat.zero_le _) ⟨Fr.refl _ _,.inl ⟨rfl,rfl,rfl⟩,by simp,by omega,λb F=>F.elim,r0⟩ λi s g again ρ _ hi M ay=>?_
 obtain⟨wv,bw⟩:=s;have M:Y9 hL bp row T i wv bw g:=M;simp only[gJ];rw[cj,ah];refine aj (λg1=>?_) (λg1=>?_)
 ·have aa:i<K:=by omega
  have bd:(i:Int)+1=((i+1:Nat):Int):=by omega
  have sg:=M.fr.1;refine aG (Ext g) (Ext.refl _) ?_;simp only[go_sem,Nat.zero_add];refine ao wv (λk e=>by rw[ai (e.row M.p)];exact h6 wv) ?_;refine F0.mono λr g2 ⟨b,er,r2,e2,n2⟩=>⟨e2,?_⟩
  subst er;have l2:=aU r2;refine cH (Rp.fill_one rfl) λb3 g3 r3 e3 n3=>⟨e2.trans e3,?_⟩
  have E3:=e2.trans e3;have o3:Own 1 g3 wv i ((List.range i).map λj=>ptr (bw j)):=M.own.fr (M:=λ_=>False) E3.fr λ_ _=>id
  have S1:=Rp.SlC.single (cs:=[ptr b]) r3;have I:∀c,blk wv c→c<g.size:=λc hc=>M.own.lt hc
  refine sr o3 S1 (ak rfl aQ) rfl (by omega) (by omega) λs' g4 o4 f4 n4=>?_
  have bg:¬blk wv bp:=λF=>by have:=(M.nw bp F).1;omega
  have r4:=f4.row (E3.row M.p) bg;have os:aJ s'=true:=by obtain⟨a,c,e⟩:=Own.isSl o4;rw[e];rfl
  have be:6<(row wv).size:=(Array.getElem?_eq_some_iff.1 (h6 wv)).1;refine bJ r4 be os λg5 r5 u5=>?_
  rw[L]at r5;have s2:=e2.1;have s3:=e3.1;have s4:=f4.1;rw[w64 (n:=(i:Int)+1) (by omega) (by omega),bd];have b5:b≠bp:=by omega
  have H:∀c,blk s' c→c≠bp∧hL.size≤c:=λc hc=>by
   rcases n4 c hc with h|h
   ·have:=(M.nw c h).1;exact⟨by omega,by omega⟩
   ·exact⟨by omega,by omega⟩
  refine ay (s',λj=>if j=i then b else bw j) g5 aa ⟨?_,?_,λj hj=>?_,λj k ar hk=>?_,λc hc=>⟨(H c hc).2,λj hj=>?_⟩,r5⟩
  ·exact(((M.fr.trans E3.fr).after f4 λc hc F=>by have:=(M.nw c F).1;omega)).trans u5.fr
  ·have e:(List.range (i+1)).map (λj=>ptr (if j=i then b else bw j))=(List.range i).map (λj=>ptr (bw j))++[ptr b]:=by
    rw[List.range_succ,List.map_append]
    congr 1
    ·refine List.map_congr_left λj hj=>?_
     rw[if_neg (by have:=List.mem_range.1 hj;omega)]
    ·simp
   rw[e];exact o4.fr u5.fr λc hc=>(H c hc).1
  ·by_cases e:j=i
   ·subst e;simp only[if_true];exact⟨u5.row b5 (f4.row (e3.row r2) λF=>by have:=I b F;omega),by omega⟩
   ·simp only[if_neg e];obtain⟨w1,w2⟩:=M.ws j (by omega);exact⟨u5.row (by omega) (f4.row (E3.row w1) λF=>(M.nw _ F).2 j (by omega) rfl),w2⟩
  ·show(if j=i then b else bw j)≠(if k=i then b else bw k);have lj:∀m,m<i→bw m<g.size:=λm hm=>aU (M.ws m hm).1
   by_cases e:k=i
   ·rw[if_neg (by omega),if_pos e];have:=lj j (by omega);omega
   ·rw[if_neg (by omega),if_neg e];exact M.ne j k ar (by omega)
  ·show c≠(if j=i then b else bw j);by_cases e:j=i
   ·rw[if_pos e];rcases n4 c hc with h|h
    ·have:=I c h;omega
    ·omega
   ·rw[if_neg e];rcases n4 c hc with h|h
    ·exact(M.nw c h).2 j (by omega)
    ·have:=aU (M.ws j (by omega)).1;omega
 ·have:i=K:=by omega
  subst this;exact HX wv bw g M
end
def Bq (K:Nat)(room:Int):bR:=⟨⟨min (max 1 room) 4096,[],false⟩,qL (K+1),[],λ_=>⟨0,[],none,0⟩,λ_=>0,0,[],[],[],false,0⟩
def DA (K:Nat)(room a b:Int):bR:=qD (qD (Bq K room) 0 0 0 a true) 0 1 0 b true
theorem UB {C:C21}{K:Nat}{room:Int}(h:0≤bP C.d):kb C K (Bq K room):=
 ⟨⟨Int.le_refl _,h⟩,rfl,(λx D=>by cases D),(λi _=>⟨(λx D=>by cases D),.inr ⟨.inl rfl,rfl⟩,(λt y e h=>by cases h)⟩),(λi _=>Int.le_refl _),(λi _=>by simp[Bq,qL]),(λs A=>by cases A),Nat.zero_le _,(λs A=>by cases A),Int.le_refl _,(by show(0:Int)≤2+2*0;omega),Int.le_refl _,(λh=>by cases h)⟩
theorem UA {C:C21}{K:Nat}{room a b:Int}(h:0≤bP C.d):kb C K (DA K room a b):=by
 have H:=UB (C:=C) (K:=K) (room:=room) h;exact⟨H.sent,H.st,H.q,H.w,H.tn,H.rows,H.ss,H.fn,H.ls,H.ln,(by show(2:Int)≤2+2*0;omega),H.pk,H.cl⟩
theorem label {P:Nat→Nat→Prop}(h0:∀c,¬P 0 c)(u:∀k k' c,P k c→P k' c→k=k'):∃o:Nat→Nat,∀k,k≠0→∀c,o c=k↔P k c:=by
 classical
 refine⟨λc=>if h:∃k,P k c then Classical.choose h else 0,λk A c=>?_⟩;by_cases h:∃k,P k c
 ·simp only[dif_pos h];have hc:=Classical.choose_spec h;exact⟨λe=>e▸hc,λe=>u _ _ c hc e⟩
 ·simp only[dif_neg h];exact⟨λe=>absurd e.symm A,λe=>absurd ⟨k,e⟩ h⟩
def V6 (Z0:Nat→Prop)(h:af)(m:Pic)(s:Stg)(tw th room:Int)(bf:Nat)(K:Nat)(r:Value)(h':af):Prop:=
 ∃bp C Z bw o,r=.tuple #[ptr bp,.int .i64 0]∧C.m=m∧C.d=⟨s,tw,th⟩∧C.bf=bf∧C.Ok∧eZ C Z K h bw bp o (qP s.x.lines.length s.y.lines.length m.c m.most) (DA K room (m.w*m.h*m.c) ((s.x.lines.length:Int)*s.y.lines.length*m.c)) h'∧(∀c,de (some C.E) c→h.size≤c)∧Ext h h'∧(∀c,o c≠0→h.size≤c)∧(∀c,Z c→Z0 c∨h.size≤c)∧h.size≤C.bt
def P9 (h4:af)(K:Nat)(room:Int)(bf bt bl:Nat)(xs:List Value)(g:af):Prop:=
 ∃bp bq pc dv,xs=[ptr bp]∧jz h4 K room (some bq) (some pc) (some dv) g∧g[bp]? =some (.cells #[ptr bf,ptr bt,ptr bl,ptr bq,pc.1,.slice none 0 0,.slice none 0 0,dv,.int .i64 0,.slice none 0 0,.slice none 0 0,.slice none 0 0,.bool false,.int .i64 0] 197 (0,0))∧h4.size≤bp∧bp≠bq∧¬pc.2 bp∧¬blk dv bp
theorem ED {D g:af}{K:Nat}{room:Int}{bf bt bl bq:Nat}{pc:Value×(Nat→Prop)}{dv:Value}(M:jz D K room (some bq) (some pc) (some dv) g):
  vK ((aE #[(.pointer none),(.pointer none),(.pointer none),(.pointer none),(.pointer none),(.slice none 0 0),(.slice none 0 0),(.slice none 0 0),(.int .i64 0),(.slice none 0 0),(.slice none 0 0),(.slice none 0 0),(.bool false),(.int .i64 0)] [(0,1,ptr bf),(1,1,ptr bt),(2,1,ptr bl),(3,1,ptr bq),(4,1,pc.1),(7,1,dv)]).map .agg) λF=>aP (Value.cells F) 197 g λG A=>Ext D A∧P9 D K room bf bt bl [G] A:=by
 have L:aJ pc.1=true:=by obtain⟨_,_,_,_,e,_⟩:=(M.hc pc rfl).1;rw[e];rfl
 have U:aJ dv=true:=by obtain⟨a,c,e⟩:=Own.isSl (M.hd dv rfl).1;rw[e];rfl
 rw[TB L U,ah];refine aC λbp W I H n'=>⟨M.ext.trans H,bp,bq,pc,dv,rfl,M.ex H,I,by have:=M.ext.1;omega,by have:=(M.hq bq rfl).1.ql bq rfl;omega,λh=>by have:=((M.hc pc rfl).2 bp h).2;omega,λh=>by have:=(M.hd dv rfl).1.lt h;omega⟩
theorem Mg {h:af}(G:dA h){Z0:Nat→Prop}{bf:Nat}{vf sv:Value}{m:Pic}{s:Stg}(I:cA h bf vf m)(W:m.Wf)(HS:mV Z0 h sv s)(WS:zF s)(au:lG m s)(zf:Z0 bf∧∀c,blk vf c→Z0 c)(zl:∀c,Z0 c→c<h.size)(fit:y7 s.x.lines.length s.y.lines.length m.c m.most=0){tw th wk room:Int}:
  ae prog wQ #[ptr bf,sv,.int .i64 tw,.int .i64 th,.int .i64 wk,.int .i64 room] h λr h'=>
   (¬(dP tw∧dP th)→r=.tuple #[.pointer none,.int .i64 9]∧Ext h h')∧(dP tw∧dP th→¬(1≤wk∧wk≤256)→r=.tuple #[.pointer none,.int .i64 10]∧Ext h h')∧
   (dP tw∧dP th→∀K:Nat,wk=K→1≤K∧K≤256→V6 Z0 h m s tw th room bf K r h'):=by
 apply OV;unfold FJ;have bo:=HS;obtain⟨p,q,rfl,hp,hq,b5⟩:=gX HS;simp only[bC];refine aC λD h1 r1 e1 n1=>?_
 have nf:ag .p .eql (ptr bf) (.pointer none)=some (.bool false):=rfl;have l3:aH 3 h1 (ptr D)=some (.agg #[p,q,.int .i64 s.border]):=aI (l:=[p,q,.int .i64 s.border]) r1 3 rfl;simp only[go_sem,nf,l3];refine(GS (G.ext e1) (I.ext e1) (bo.ext e1)).mono λr h2 ⟨er,e2⟩=>?_
 rw[decide_eq_true au]at er;subst er;simp only[go_sem];have E2:=e1.trans e2;have r2:=e2.row r1;refine aG (λk=>k=h2) rfl ?_;refine ao p (λk e=>by rw[e];exact ai r2) ?_;refine ao q (λk e=>by rw[e];exact ai r2) ?_;have bi:=hp.ext E2;have be:=hq.ext E2;refine ae.at (AD bi) ⟨rfl,?_⟩;refine ae.at (AD be) ?_;have I2:=I.ext E2;refine ae.at (dC I2) ?_;refine ae.at (nG I2) ?_;refine vA.mono λr h3 ⟨pt,er,e3,_,hN⟩=>?_
 subst er;obtain⟨bt,vt,bc,It,ci,aw,_⟩:=hN fit;subst bc;rw[fit];have x0:∀a b:Value,aF (.tuple #[a,b]) 0=some a:=λ_ _=>rfl
 have x1:∀a b:Value,aF (.tuple #[a,b]) 1=some b:=λ_ _=>rfl
 simp only[x0,x1,ah];have a8:ag .i .neq (.int .i64 0) (.int .i64 0)=some (.bool false):=rfl;rw[a8,ah,cf];have E3:=E2.trans e3;have s1:=e1.1;have s2:=e2.1;have s3:=e3.1;rw[aI (l:=[p,q,.int .i64 s.border]) (e3.row r2) 3 rfl,ah];refine(Mj (Z:=Z0) (s:=s) ⟨p,q,rfl,hp.ext E3,hq.ext E3⟩).mono λr h4 ⟨e4,bg,bk⟩=>?_
 have E4:=E3.trans e4;by_cases F:dP tw∧dP th
 ·obtain⟨bl,pp,pq,er,cr,PL⟩:=bg F;subst er;simp only[x0,x1,ah];rw[a8,ah,cf];by_cases al:wk<1
  ·simp only[go_sem,al];exact⟨λh=>absurd F h,λ_ _=>⟨trivial,E4⟩,λ_ K hK h=>by omega⟩
  by_cases ay:256<wk
  ·simp only[go_sem,al,ay];exact⟨λh=>absurd F h,λ_ _=>⟨trivial,E4⟩,λ_ K hK h=>by omega⟩
  simp only[go_sem,al,ay];obtain⟨K,hK⟩:∃K:Nat,wk=(K:Int):=⟨wk.toNat,by omega⟩
  subst hK;have hK:1≤K∧K≤256:=by omega
  have fin:∀{r h'},V6 Z0 h m s tw th room bf K r h'→(¬(dP tw∧dP th)→r=.tuple #[.pointer none,.int .i64 9]∧Ext h h')∧(dP tw∧dP th→¬(1≤(K:Int)∧(K:Int)≤256)→r=.tuple #[.pointer none,.int .i64 10]∧Ext h h')∧(dP tw∧dP th→∀K':Nat,(K:Int)=K'→1≤K'∧K'≤256→V6 Z0 h m s tw th room bf K' r h'):=λ{r h'} M=>⟨λh=>absurd F h,λ_ h=>absurd (by omega) h,λ_ K' e _=>by
   obtain rfl:K=K':=by omega
   exact M⟩
  have cc:=It.lt;have b8:=aU PL.row;have s4:=e4.1;refine aV (P9 h4 K room bf bt bl) ?_ ?_
  ·refine aG (Ext h4) (Ext.refl _) ?_
   try simp only[go_sem]
   rw[w64 (n:=(K:Int)+1) (by omega) (by omega)];have M0:=jz.start h4 K room;refine⟨?_,?_⟩
   ·refine M0.queue λbq g1 M1=>⟨M1.ext,?_,?_⟩
    ·refine M1.clock hK λpc g2 M2=>⟨M2.ext,?_⟩
     refine M2.words hK λdv g3 M3=>⟨M3.ext,?_⟩
     exact ED M3
    ·refine M1.words hK λdv g2 M2=>⟨M2.ext,?_⟩
     refine M2.clock hK λpc g3 M3=>⟨M3.ext,?_⟩
     exact ED M3
   ·refine M0.words hK λdv g1 M1=>⟨M1.ext,?_⟩
    refine M1.queue λbq g2 M2=>⟨M2.ext,?_⟩
    refine M2.clock hK λpc g3 M3=>⟨M3.ext,?_⟩
    exact ED M3
  rintro xs ρ g ⟨bp,bq,pc,dv,rfl,M,row,cw,b3,an,ax⟩;simp only[gJ];refine Wc (row:=λv=>#[ptr bf,ptr bt,ptr bl,ptr bq,pc.1,.slice none 0 0,v,dv,.int .i64 0,.slice none 0 0,.slice none 0 0,.slice none 0 0,.bool false,.int .i64 0]) hK row (λv=>rfl) (λv v'=>rfl) λwv bw g2 U=>?_
  have c0:=M.ext;have sM:=c0.1;obtain⟨Qk,ct⟩:=M.hq bq rfl;obtain⟨Ck,cM⟩:=M.hc pc rfl;obtain⟨Dk,nd⟩:=M.hd dv rfl;have b6:=Qk.ql bq rfl;have ar:∀c,blk dv c→c<g.size:=λc hc=>Dk.lt hc
  have ca:=aU row;have e0:=U.fr;have se:=e0.1;have wl:∀j,j<K→bw j<g2.size:=λj hj=>aU (U.ws j hj).1
  have b0:∀c,blk wv c→c<g2.size:=λc hc=>U.own.lt hc
  have wi:∀i j,i<K→j<K→bw i=bw j→i=j:=λi j hi hj h=>by
   rcases Nat.lt_trichotomy i j with h1|h1|h1
   ·exact absurd h (U.ne i j h1 hj)
   ·exact h1
   ·exact absurd h.symm (U.ne j i h1 hi)
  have u:∀k k' c,((k=1∧c=bq)∨(k=2∧pc.2 c)∨(k=4∧c=bp)∨(k=5∧blk dv c)∨(k=9∧blk wv c)∨∃j,j<K∧k=10+j∧c=bw j)→((k'=1∧c=bq)∨(k'=2∧pc.2 c)∨(k'=4∧c=bp)∨(k'=5∧blk dv c)∨(k'=9∧blk wv c)∨∃j,j<K∧k'=10+j∧c=bw j)→k=k':=by
   intro k k' c h1 h2;have q1:pc.2 c→c<g.size∧c≠bq∧c≠bp∧¬blk dv c:=λh=>⟨(cM c h).2,λe=>M.qc bq pc rfl rfl (e▸h),λe=>an (e▸h),M.cd pc dv c rfl rfl h⟩
   have q2:blk dv c→c<g.size∧c≠bq∧c≠bp:=λh=>⟨ar c h,λe=>M.qd bq dv rfl rfl (e▸h),λe=>ax (e▸h)⟩
   have q3:blk wv c→g.size≤c∧∀j,j<K→c≠bw j:=λh=>U.nw c h
   have q4:∀j,j<K→g.size≤bw j:=λj hj=>(U.ws j hj).2
   rcases h1 with⟨a1,D⟩|⟨a1,D⟩|⟨a1,D⟩|⟨a1,D⟩|⟨a1,D⟩|⟨i,i1,a1,D⟩<;>rcases h2 with⟨a2,H⟩|⟨a2,H⟩|⟨a2,H⟩|⟨a2,H⟩|⟨a2,H⟩|⟨j,j1,a2,H⟩<;>
    first
    |omega
    |(exfalso;exact(q1 D).2.2.2 H)
    |(exfalso;exact(q1 H).2.2.2 D)
    |(exfalso;have:=q1 D;have:=q3 H;omega)
    |(exfalso;have:=q1 H;have:=q3 D;omega)
    |(exfalso;have:=q2 D;have:=q3 H;omega)
    |(exfalso;have:=q2 H;have:=q3 D;omega)
    |(exfalso;have:=q1 D;omega)
    |(exfalso;have:=q1 H;omega)
    |(exfalso;have:=q2 D;omega)
    |(exfalso;have:=q2 H;omega)
    |(exfalso;have:=(q3 D).1;omega)
    |(exfalso;have:=(q3 H).1;omega)
    |(exfalso;exact(q3 D).2 _ j1 H)
    |(exfalso;exact(q3 H).2 _ i1 D)
    |(exfalso;have:=q1 D;have:=q4 _ j1;omega)
    |(exfalso;have:=q1 H;have:=q4 _ i1;omega)
    |(exfalso;have:=q2 D;have:=q4 _ j1;omega)
    |(exfalso;have:=q2 H;have:=q4 _ i1;omega)
    |(exfalso;have:=q4 _ j1;omega)
    |(exfalso;have:=q4 _ i1;omega)
    |(have:=wi i j i1 j1 (D.symm.trans H);omega)
  obtain⟨o,ho⟩:=label (λc h=>by rcases h with⟨a,_⟩|⟨a,_⟩|⟨a,_⟩|⟨a,_⟩|⟨a,_⟩|⟨j,_,a,_⟩<;>omega) u;have A:∀c,o c≠0→h4.size≤c∧c<g2.size:=λc hc=>by
   rcases(ho _ hc c).1 rfl with⟨_,e⟩|⟨_,e⟩|⟨_,e⟩|⟨_,e⟩|⟨_,e⟩|⟨j,j1,_,e⟩
   ·omega
   ·have:=cM c e;omega
   ·omega
   ·have:=nd c e;have:=ar c e;omega
   ·have:=(U.nw c e).1;have:=b0 c e;omega
   ·have:=(U.ws j j1).2;have:=wl j j1;omega
  have cu:h4.size≤g2.size:=by omega
  have L:Ext h4 g2:=c0.then_fr e0 λc hc=>by have hc:c=bp:=hc;omega
  have E:=E4.trans L;obtain⟨C,hC⟩:∃C:C21,C=⟨0,0,0,0,bf,vf,bt,vt,pp,pq,.pointer none,bl,pp,pq,m,⟨s,tw,th⟩,0,bq⟩:=⟨_,rfl⟩
  have bd:cA g2 bt vt (qP s.x.lines.length s.y.lines.length m.c m.most):=(It.ext e4).ext L;have I0:=I.lt;have Iv:∀c,blk vf c→c<h.size:=λc hc=>I.ltv hc
  have Tv:∀c,blk vt c→c<h3.size:=λc hc=>It.ltv hc
  have ad:(qP s.x.lines.length s.y.lines.length m.c m.most).Wf:=Ah fit;have ab:gu s.x.lines.length s.y.lines.length m.c:=ad.fits;have hZ:∀c,(Z0 c∨c=bl)→c<g2.size∧c≠bt∧¬blk vt c:=λc hc=>by
   have h1:=aw c;rcases hc with hc|hc
   ·have:=zl c hc;exact⟨by omega,by omega,λh=>by have:=h1 h;omega⟩
   ·exact⟨by omega,by omega,λh=>by have:=Tv c h;omega⟩
  have SU:xy (λc=>Z0 c∨c=bl) g2 C.bf C.vf C.bt C.vt C.p C.q C.m (qP s.x.lines.length s.y.lines.length m.c m.most) C.d.s:=by
   rw[hC];exact⟨I.ext E,bd,(by show bf≠bt;omega),(PL.x.ext L).mono λc _ hc=>.inl hc,(PL.y.ext L).mono λc _ hc=>.inl hc,⟨.inl zf.1,λc hc=>.inl (zf.2 c hc)⟩,λc hc=>(hZ c hc).2.2,λc hc=>(hZ c hc).2.1,λc hc=>(hZ c hc).1⟩
  have bv:pV (λc=>Z0 c∨c=bl) g2 C.bl C.d C.pp C.pq:=by
   rw[hC];exact⟨L.row PL.row,(PL.x.ext L).mono λc _ hc=>.inl hc,(PL.y.ext L).mono λc _ hc=>.inl hc⟩
  have CO:C.Ok:=by
   rw[hC];exact⟨W,⟨WS.wf,F.1,F.2⟩,WS⟩
  have SW:C.suits (qP s.x.lines.length s.y.lines.length m.c m.most):=by
   rw[hC];exact⟨ad,au,rfl,rfl,rfl,rfl⟩
  have eC:C.m=m∧C.d=⟨s,tw,th⟩∧C.bf=bf∧C.bq=bq∧C.bt=bt∧C.bl=bl∧C.vt=vt∧C.pp=C.p∧C.pq=C.q:=by rw[hC];exact⟨rfl,rfl,rfl,rfl,rfl,rfl,rfl,rfl,rfl⟩
  clear hC
  obtain⟨k1,k2,k3,k4,k5,k6,k7,k8,k9⟩:=eC;have a7:gR g2 (some C.E) (qP s.x.lines.length s.y.lines.length m.c m.most):=λE' hE=>by cases hE;exact⟨SU.out,ad⟩
  have aa:∀c,h4.size≤c→¬(Z0 c∨c=bl)∧xA (some C.E) c∧¬de (some C.E) c:=λc hc=>by
   refine⟨λh=>?_,?_,λh=>?_⟩
   ·rcases h with h|h
    ·have:=zl c h;omega
    ·omega
   ·show c≠C.bt;omega
   ·have h:blk C.vt c:=h;rw[k7]at h;have:=Tv c h;omega
  have cp:∀c,c≠bp→¬(λc=>c=bp) c:=λc h=>h
  have PB:aL (λ_=>False) C (λc=>Z0 c∨c=bl) K h bw bp o (qP s.x.lines.length s.y.lines.length m.c m.most) ⟨pc.1,.slice none 0 0,wv,dv,.slice none 0 0,.slice none 0 0,.slice none 0 0⟩ (Bq K room) g2:=by
   refine⟨λ_=>?_,λ_=>?_,λ_=>⟨λ_=>False,Rp.Ow.nil,λc h=>h.elim,λc h=>h.elim⟩,λ_=>?_,λ_=>⟨?_,λc hc=>(ho 5 (by omega) c).2 (.inr (.inr (.inr (.inl ⟨rfl,hc⟩))))⟩,λ_=>⟨λ_=>False,Rp.Ow.nil,λc h=>h.elim,λc h=>h.elim⟩,λ_=>⟨λ_=>False,Rp.Ow.nil,λc h=>h.elim,λc h=>h.elim⟩,λ_=>Rp.Sl.nil,λ_=>⟨U.own.sl,λc hc=>(ho 9 (by omega) c).2 (.inr (.inr (.inr (.inr (.inl ⟨rfl,hc⟩)))))⟩,λi hi _=>?_,(ho 4 (by omega) bp).2 (.inr (.inr (.inl ⟨rfl,rfl⟩))),SU,bv,⟨.inr k6,k8,k9⟩,SW,λc hc=>⟨(A c hc).2,by have:=(A c hc).1;have:=E4.1;omega,aa c (A c hc).1⟩,E,hK⟩
   ·rw[k4];exact(Qk.fr e0 λc hc h=>b3 (h.symm.trans hc)).bmono (λc hc=>(ho 1 (by omega) c).2 (.inl ⟨rfl,hc⟩)) λc hc=>(A c (by rw[hc];omega)).2
   ·exact(Ck.fr e0 λc _ hc h=>an (by have h:c=bp:=h;rw[←h];exact hc)).bmono (λc hc=>(ho 2 (by omega) c).2 (.inr (.inl ⟨rfl,hc⟩))) λc hc=>(A c (by rw[hc];omega)).2
   ·have:=U.p;unfold gn;rw[k3,k5,k6,k4];exact this
   ·exact Dk.fr e0 λc hc h=>ax (by have h:c=bp:=h;rw[←h];exact hc)
   ·have hw:=U.ws i hi;have hn:=aa (bw i) (by omega);exact(IsW.new hw.1 hn.1 hn.2.1 hn.2.2 (λc hc=>(hZ c hc).1) a7).bmono (λc hc=>(ho (10+i) (by omega) c).2 (.inr (.inr (.inr (.inr (.inr ⟨i,hi,rfl,hc⟩)))))) (λc hc=>(A c (by rw[hc];omega)).2) λc hc=>aa c (A c (by rw[hc];omega)).1
  have HP:eZ C (λc=>Z0 c∨c=bl) K h bw bp o _ (Bq K room) g2:=⟨_,PB⟩
  -- the two notes
  have b7:=cq W.fits;have cb:=cq ab;have m1:1≤m.w*m.h*m.c:=Int.mul_pos (Int.mul_pos (by omega) (by omega)) (by omega);have m2:1≤(s.x.lines.length:Int)*s.y.lines.length*m.c:=Int.mul_pos (Int.mul_pos (by omega) (by omega)) (by omega);refine ae.at (Ct (I.ext E) W.fits) ?_;refine(Cu HP (who:=0) (by omega) (by show 0≤1000000;omega) (Int.le_refl 0) (Int.le_refl 0) m1 (by omega)).mono λr g3 ⟨_,o3,H3,q3,f3⟩=>?_
  have B3:=H3;obtain⟨V3,B3⟩:=B3;have a9:=B3.set.out;rw[k5,k7]at a9;refine ae.at (Ct a9 ab) ?_;refine(Cu H3 (who:=0) (by omega) (by show 1≤1000000;omega) (by omega) (Int.le_refl 0) m2 (by omega)).mono λr g4 ⟨_,o4,H4,q4,f4⟩=>?_
  refine fin ⟨bp,C,λc=>Z0 c∨c=bl,bw,o4,rfl,k1,k2,k3,CO,H4,λc hc=>?_,?_,λc hc=>?_,λc hc=>hc.elim .inl λh=>.inr (by omega),by omega⟩
  ·have hc:blk C.vt c:=hc;rw[k7]at hc;have:=aw c hc;omega
  ·obtain⟨V4,B4⟩:=H4;exact B4.ext
  ·obtain⟨V4,B4⟩:=H4;exact(B4.ow c hc).2.1
 ·have er:=bk F;subst er;simp only[x0,x1,ah];have b4:ag .i .neq (.int .i64 9) (.int .i64 0)=some (.bool true):=rfl;rw[b4,ah,fP];exact⟨λ_=>⟨trivial,E4⟩,λh=>absurd h F,λh=>absurd h F⟩
section
theorem VA {h:af}{n:Nat}(h1:1≤n)(h2:n≤512):ae prog jF #[.int .i64 (n:Int)] h λr h'=>ic rIs h h' r ((List.range n).map (qL n)):=by
 apply MS;unfold CX;refine aV (λF g=>F=[.int .i64 (n:Int)]∧g=h) ?_ ?_
 ·rw[cj,ah];exact aj (λc=>absurd c (by omega)) λ_=>by simp
 rintro F ρ g ⟨rfl,rfl⟩;refine aV (λF I=>F=[.int .i64 (n:Int)]∧I=g) ?_ ?_
 ·simp only[gJ];rw[vD,ah];exact aj (λc=>absurd c (by omega)) λ_=>by simp
 rintro F ρ I ⟨rfl,rfl⟩;simp only[gJ];refine bB (α:=Value) n 0 (λi v=>[v,.int .i64 (i:Int)]) (λi v g=>ic rIs I g v ((List.range i).map (qL n))) (.slice none 0 0) rfl (Nat.zero_le _) (ic.nil (Ext.refl _)) λi v g again ρ _ hi G H=>?_
 simp only[gJ,vy];rw[cj,ah];refine aj (λg1=>?_) (λg1=>?_)
 ·have A:i<n:=by omega
  refine lQ rfl (by omega) (by omega) λs g2 o2 e2 L=>?_
  obtain⟨p,q1,_,q3⟩:=Own.at1 o2 (k:=.i64) A;rw[q1,ah];refine q3 _ _ rfl λW o3 f3 s3=>?_
  have E3:Ext g W:=e2.then_fr f3 L;have hx:(List.replicate n (Value.int .i64 0)).set i (.int .i64 1)=(qL n i).map vi:=by
   apply List.ext_getElem (by simp[qL]);intro j h1 h2;rw[List.getElem_set];simp only[List.getElem_map,List.getElem_replicate,qL,List.getElem_range,vi];by_cases h:i=j
   ·subst h;simp
   ·rw[if_neg h,if_neg (Ne.symm h)]
  rw[hx]at o3;have hl:(qL n i).length=n:=by simp[qL]
  have oI:iT W s (qL n i):=by unfold iT;rw[hl];exact o3
  have N3:=G.ext E3;have sE:=G.exts.1;refine ic.push1 (e:=rIs) (x:=qL n i) (Y:=blk s) rfl N3 ⟨s,rfl,wn (iT.ints oI) λ_ b D=>D⟩ (λb D=>⟨?_,oI.lt D,λhv=>?_⟩) rfl (by simp;omega) (by simp;omega) λv7 g7 N7=>?_
  ·have:=L b D;omega
  ·have h1:=L b D;have h2:=G.lt hv;omega
  have U:(i:Int)+1=((i+1:Nat):Int):=by omega
  try simp only[go_sem]
  rw[w64 (n:=(i:Int)+1) (by omega) (by omega),U];refine H v7 g7 A ?_;rw[List.range_succ,List.map_append];exact N7
 ·have:i=n:=by omega
  subst this;exact G
theorem Qz {α:Type}{e:Rp α}{Z P:Nat→Prop}{Q:af→Prop}{z z' c:Value}{t t':TypeId}{bytes:Nat}{s:Value}{h:af}{l:List α}{x:α}{K:Value→af→Prop}(hw:e.w=1)(G:Rp.Ow e Z h s l)(hx:e.R P h [c] x)(D:z.cells.size=1)(A:(l.length+1)*bytes≤140737488355328)(hn:l.length+1≤9223372036854775807)(hZ:∀b,Z b→b<h.size)(I:∀b,P b→b<h.size∧¬blk s b)(hQ:∀h',Ext h h'→Q h')
  (H:∀F h',Rp.Ow e (λb=>Z b∨P b) h' F (l++[x])→Fr (blk s) h h'→(∀b,blk F b→blk s b∨h.size≤b)→K F h'):cF #[z'] t 1 [(0,1,c)] h λU L=>Q L∧cG z t' 1 bytes s U L K:=by
 have W:∀b,blk s b→¬Z b:=by obtain⟨ds,_,d,_⟩:=G;exact d
 exact Rp.push_ow1S (P:=λ_=>True) hw (G.mono (λb _ A=>.inl A) λb A D=>D.elim (W b A) λD=>(I b D).2 A) (e.mono hx λb _ A=>.inr A) D A hn (λb A=>A.elim (hZ b) λh=>(I b h).1) hQ H
structure StN (C:C21)(K N:Nat)(room:Int)(h0:af)(t q c w:Option Value)(p:Option Nat)(g:af):Prop where
 ext:Ext h0 g
 parts:∃Zr:Nat→Prop,(∀k,Zr k→h0.size≤k∧k<g.size∧∀x,p=some x→k≠x)∧(∀v,t=some v→Rp.Sl Dz Zr g v (dI C.d N))∧(∀v,c=some v→Rp.Sl rIs Zr g v ((List.range (K+1)).map (qL (K+1))))∧∀v,w=some v→Rp.Sl rVD Zr g v ((List.range K).map λ_=>⟨0,[],[]⟩)
 qq:∀v,q=some v→v=.agg #[.int .i64 (min (max 1 room) 4096),.slice none 0 0,.bool false]
 var:∀x,p=some x→h0.size≤x∧g[x]? =some (.cells aD 110 (0,0))
section
variable {C:C21}{K N:Nat}{room:Int}{h0 g:af}{t q c w:Option Value}{p:Option Nat}{J:Value→af→Prop}
theorem StN.start (C:C21)(K N:Nat)(room:Int)(h:af):StN C K N room h none none none none none h:=⟨Ext.refl _,⟨λ_=>False,by simp,by simp,by simp,by simp⟩,by simp,by simp⟩
theorem StN.grow {F:af}(S:StN C K N room h0 t q c w p g)(e:Ext g F):StN C K N room h0 t q c w p F:=by
 obtain⟨a,⟨H,z,L,U,I⟩,d,f⟩:=S;exact⟨a.trans e,⟨H,λk D=>⟨(z k D).1,Nat.lt_of_lt_of_le (z k D).2.1 e.1,(z k D).2.2⟩,λv A=>(L v A).ext e,λv A=>(U v A).ext e,λv A=>(I v A).ext e⟩,d,λx G=>⟨(f x G).1,e.row (f x G).2⟩⟩
theorem StN.more {H c' w':Option Value}{D:af}{Y:Nat→Prop}(S:StN C K N room h0 t q c w p g)(e:Ext g D)(hY:∀k,Y k→g.size≤k∧k<D.size)(ht:∀v,H=some v→t=some v∨Rp.Sl Dz Y D v (dI C.d N))(hc:∀v,c'=some v→c=some v∨Rp.Sl rIs Y D v ((List.range (K+1)).map (qL (K+1))))(U:∀v,w'=some v→w=some v∨Rp.Sl rVD Y D v ((List.range K).map λ_=>⟨0,[],[]⟩)):StN C K N room h0 H q c' w' p D:=by
 obtain⟨a,⟨L,z,W,b2,I⟩,d,f⟩:=S;have se:=a.1;refine⟨a.trans e,⟨λk=>L k∨Y k,λk A=>?_,λv F=>?_,λv F=>?_,λv F=>?_⟩,d,λx G=>⟨(f x G).1,e.row (f x G).2⟩⟩
 ·rcases A with A|A
  ·exact⟨(z k A).1,Nat.lt_of_lt_of_le (z k A).2.1 e.1,(z k A).2.2⟩
  ·have:=hY k A;exact⟨by omega,this.2,λx G=>by have:=aU (f x G).2;omega⟩
 ·exact(ht v F).elim (λh=>((W v h).ext e).mono λ_ _ h=>.inl h) λh=>h.mono λ_ _ h=>.inr h
 ·exact(hc v F).elim (λh=>((b2 v h).ext e).mono λ_ _ h=>.inl h) λh=>h.mono λ_ _ h=>.inr h
 ·exact(U v F).elim (λh=>((I v h).ext e).mono λ_ _ h=>.inl h) λh=>h.mono λ_ _ h=>.inr h
theorem StN.call_t {Z:Nat→Prop}{cs:List Value}(S:StN C K N room h0 none q c w p g)(I:oZ.R Z h0 cs C.d.s)(O:C.Ok)(L:(N:Int)=bP C.d)(F:N≤4096)(U:1≤C.d.X)(hY:1≤C.d.Y)(few:∀x∈C.d.s.x.lines++C.d.s.y.lines,x.2.length≤1073741824)(H:∀v A,StN C K N room h0 (some v) q c w p A→J v A):ae prog jH #[.agg cs.toArray,.int .i64 C.d.w,.int .i64 C.d.h] g J:=
 (TM (oZ.ext I S.ext) O.d few L F U hY).mono λv A D=>H v A (S.more (Y:=blk v) D.2.1 (λk G=>⟨D.2.2 k G,D.lt G⟩) (λu hu=>by cases hu;exact .inr D.sl) (λu hu=>.inl hu) λu hu=>.inl hu)
theorem StN.call_q (S:StN C K N room h0 t none c w p g)(H:∀v A,StN C K N room h0 t (some v) c w p A→J v A):ae prog jG #[.int .i64 room] g J:=
 VB.mono λv A ⟨F,e⟩=>H v A (by
  have D:=S.grow e;exact⟨D.ext,D.parts,λu hu=>by cases hu;exact F,D.var⟩)
theorem StN.call_c (S:StN C K N room h0 t q none w p g)(G:K≤511)(H:∀v A,StN C K N room h0 t q (some v) w p A→J v A):ae prog jF #[.int .i64 ((K:Int)+1)] g J:=by
 rw[show(K:Int)+1=((K+1:Nat):Int)by omega];exact(VA (by omega) (by omega)).mono λv A D=>H v A (S.more (Y:=dJ g A) D.exts (λk F=>F) (λu hu=>.inl hu) (λu hu=>by cases hu;exact .inr D.sl) λu hu=>.inl hu)
theorem StN.mk_w {bytes:Nat}{T:TypeId}(S:StN C K N room h0 t q c none p g)(W:K≤511)(G:bytes≤1000)(H:∀v F,StN C K N room h0 t q c (some v) p F→J v F):mkK (.agg #[.int .i64 0,.slice none 0 0,.slice none 0 0]) T 3 bytes (.int .i64 (K:Int)) (.int .i64 (K:Int)) g J:=by
 unfold mkK;have L:IntKind.i64.wrap (K:Int)=K:=w64 (by omega) (by omega);simp only[L];refine⟨by omega,by omega,?_,?_⟩
 ·have:(bytes:Int)*(K:Int)≤1000*511:=Int.mul_le_mul (by omega) (by omega) (by omega) (by omega);omega
 rw[Int.toNat_natCast];have I:∀j,j<K*3→(gT (.agg #[.int .i64 0,.slice none 0 0,.slice none 0 0]) (K*3)).toList[j]? =some ([Value.int .i64 0,.slice none 0 0,.slice none 0 0][j%3]'(by simp;omega)):=by
  intro j D;unfold gT;simp only[bC,Array.toList_map,List.getElem?_map,Array.toList_range,List.getElem?_range D,Option.map_some];have:j%3<3:=Nat.mod_lt _ (by omega)
  congr 1
  rcases(show j%3=0∨j%3=1∨j%3=2 by omega)with h|h|h<;>simp[h]
 have U:(gT (.agg #[.int .i64 0,.slice none 0 0,.slice none 0 0]) (K*3)).toList.length=K*3:=by simp[gT]
 refine H _ _ (S.more (Y:=λk=>k=g.size) (Ext.push g _) (λk A=>by rw[A];simp) (λu hu=>.inl hu) (λu hu=>.inl hu) λu hu=>by
  cases hu;refine .inr ⟨(gT (.agg #[.int .i64 0,.slice none 0 0,.slice none 0 0]) (K*3)).toList,⟨by simp[gT];rfl,_,K,by rw[List.length_map,List.length_range],.inr ⟨g.size,0,rfl,λj D=>?_⟩⟩,λ_ b G=>G,λi hi=>?_⟩
  ·rw[Nat.zero_add,ai (t:=T) (f:=(0,0)) o0,List.getElem?_eq_getElem D |>.symm,Array.getElem?_toList]
  ·have hi:i<K:=by simpa using hi
   refine⟨.slice none 0 0,.slice none 0 0,?_,by simpa using Rp.Sl.nil,by simpa using Rp.Sl.nil,_,_,_,rfl,Nat.le_refl _⟩;apply List.ext_getElem?;intro k;by_cases A:k<3
   ·show((List.drop (i*3) _).take 3)[k]? =_;rw[List.getElem?_take_of_lt A,List.getElem?_drop,I _ (by omega)];rcases(show k=0∨k=1∨k=2 by omega)with h|h|h<;>subst h<;>simp<;>rfl
   ·show((List.drop (i*3) _).take 3)[k]? =_;rw[List.getElem?_eq_none (by simp;omega),List.getElem?_eq_none (by simp;omega)])
theorem StN.new_p (S:StN C K N room h0 t q c w none g)(H:∀x D,StN C K N room h0 t q c w (some x) D→J (ptr x) D):aP aD 110 g J:=by
 have hs:=S.ext.1;refine aC λx D r e n=>H x D ?_
 obtain⟨a,⟨L,z,U,W,I⟩,d,f⟩:=S;exact⟨a.trans e,⟨L,λk G=>⟨(z k G).1,Nat.lt_of_lt_of_le (z k G).2.1 e.1,λy F=>by cases F;have:=(z k G).2.1;omega⟩,λv A=>(U v A).ext e,λv A=>(W v A).ext e,λv A=>(I v A).ext e⟩,d,λy F=>by cases F;exact⟨by omega,r⟩⟩
theorem StN.vk_fill {X Y tv H cv wv:Value}{G A D F:Int}{J:Value→Prop}(S:StN C K N room h0 (some tv) (some H) (some cv) (some wv) p g)(oX:aJ X=true)(oY:aJ Y=true)(W:J (.agg [X,Y,.int .i64 G,.int .i64 A,.int .i64 D,.int .i64 F,tv,.slice none 0 0,.int .i64 (min (max 1 room) 4096),.slice none 0 0,.bool false,cv,wv,.slice none 0 0,.int .i64 0,.bool false,.bool false,.slice none 0 0,.slice none 0 0,.slice none 0 0].toArray)):
  vK ((aE aD [(0,5,.agg [X,Y,.int .i64 G,.int .i64 A,.int .i64 D].toArray),(5,1,.int .i64 F),(6,1,tv),(8,3,H),(11,1,cv),(12,1,wv)]).map .agg) J:=by
 obtain⟨Zr,z,L,U,I⟩:=S.parts;have e:=S.qq _ rfl;subst e;have f:aE aD [(0,5,.agg [X,Y,.int .i64 G,.int .i64 A,.int .i64 D].toArray),(5,1,.int .i64 F),(6,1,tv),(8,3,.agg #[.int .i64 (min (max 1 room) 4096),.slice none 0 0,.bool false]),(11,1,cv),(12,1,wv)]=some [X,Y,.int .i64 G,.int .i64 A,.int .i64 D,.int .i64 F,tv,.slice none 0 0,.int .i64 (min (max 1 room) 4096),.slice none 0 0,.bool false,cv,wv,.slice none 0 0,.int .i64 0,.bool false,.bool false,.slice none 0 0,.slice none 0 0,.slice none 0 0].toArray:=by
  refine(bI (n:=5) (l:=[X,Y,.int .i64 G,.int .i64 A,.int .i64 D]) rfl rfl (by simp)).trans ?_;refine(bI (n:=1) (l:=[.int .i64 F]) rfl rfl (by simp[bZ])).trans ?_;refine(bI (n:=1) (l:=[tv]) (bU (L _ rfl).one) rfl (by simp[bZ])).trans ?_;refine(bI (n:=3) (l:=[.int .i64 (min (max 1 room) 4096),.slice none 0 0,.bool false]) rfl rfl (by simp[bZ])).trans ?_;refine(bI (n:=1) (l:=[cv]) (bU (U _ rfl).one) rfl (by simp[bZ])).trans ?_;refine(bI (n:=1) (l:=[wv]) (bU (I _ rfl).one) rfl (by simp[bZ])).trans ?_;rw[fB];simp[wrL]
 rw[f,bA,ah];exact W
end
abbrev y4:Value:=.slice none 0 0
def PreN (C:C21)(K N:Nat)(room:Int)(X Y:Value)(h0:af)(x:Nat)(tv cv wv:Value)(Zr:Nat→Prop)(g:af):Prop:=
 g[x]? =some (.cells (dpC C (Bq K room) ⟨X,Y,tv,y4,y4,cv,wv,y4,y4,y4,y4⟩).toArray 110 (0,0))∧Ext h0 g∧h0.size≤x∧(∀k,Zr k→h0.size≤k∧k<g.size∧k≠x)∧
 Rp.Sl Dz Zr g tv (dI C.d N)∧Rp.Sl rIs Zr g cv ((List.range (K+1)).map (qL (K+1)))∧Rp.Sl rVD Zr g wv ((List.range K).map λ_=>⟨0,[],[]⟩)
theorem StN.fin {C:C21}{K N:Nat}{room:Int}{h0 g:af}{X Y tv W cv wv:Value}{x:Nat}{J:Value→af→Prop}(S:StN C K N room h0 (some tv) (some W) (some cv) (some wv) (some x) g)(oX:aJ X=true)(oY:aJ Y=true)(HJ:∀F D,PreN C K N room X Y h0 x tv cv wv F D→J undef D):
  stK 20 (ptr x) (.agg [X,Y,.int .i64 C.d.s.x.n,.int .i64 C.d.s.y.n,.int .i64 C.d.s.border,.int .i64 C.m.c,tv,.slice none 0 0,.int .i64 (min (max 1 room) 4096),.slice none 0 0,.bool false,cv,wv,.slice none 0 0,.int .i64 0,.bool false,.bool false,.slice none 0 0,.slice none 0 0,.slice none 0 0].toArray) g J:=by
 obtain⟨F,z,b1,b2,U⟩:=S.parts;obtain⟨n,r⟩:=S.var x rfl;have G:=b1 _ rfl;have H:=b2 _ rfl;have I:=U _ rfl;refine ce (l:=[X,Y,.int .i64 C.d.s.x.n,.int .i64 C.d.s.y.n,.int .i64 C.d.s.border,.int .i64 C.m.c,tv,.slice none 0 0,.int .i64 (min (max 1 room) 4096),.slice none 0 0,.bool false,cv,wv,.slice none 0 0,.int .i64 0,.bool false,.bool false,.slice none 0 0,.slice none 0 0,.slice none 0 0]) r rfl ?_ rfl λD L u=>?_
 ·exact ak oX (ak oY (ak rfl (ak rfl (ak rfl (ak rfl (ak G.one (ak rfl (ak rfl (ak rfl (ak rfl (ak H.one (ak I.one (ak rfl (ak rfl (ak rfl (ak rfl (ak rfl (ak rfl (ak rfl aQ)))))))))))))))))))
 ·have q:∀k,k<g.size→F k→¬k=x:=λk _ A=>(z k A).2.2 x rfl
  exact HJ F D ⟨L,S.ext.upd n u,n,λk A=>⟨(z k A).1,by rw[u.1];exact(z k A).2.1,(z k A).2.2 x rfl⟩,G.fr u.fr q,H.fr u.fr q,I.fr u.fr q⟩
theorem Vz {C:C21}{K N:Nat}{room:Int}{h:af}{Z:Nat→Prop}{cs:List Value}(HK:oZ.R Z h cs C.d.s)(zl:∀c,Z c→c<h.size)(O:C.Ok)(hN:(N:Int)=bP C.d)(bi:N≤4096)(hX:1≤C.d.X)(hY:1≤C.d.Y)(few:∀x∈C.d.s.x.lines++C.d.s.y.lines,x.2.length≤1073741824)(hK:1≤K∧K≤256)
  (b1:0≤C.d.s.x.n*C.d.s.y.n*C.m.c∧C.d.s.x.n*C.d.s.y.n*C.m.c≤1000000000000) (b2:0≤C.d.X*C.d.Y*C.m.c∧C.d.X*C.d.Y*C.m.c≤1000000000000) (b3:0≤C.d.s.x.n*C.d.s.y.n∧C.d.s.x.n*C.d.s.y.n≤1000000000000) (b4:0≤C.d.X*C.d.Y∧C.d.X*C.d.Y≤1000000000000):
  ae prog zJ #[.agg cs.toArray,.int .i64 C.m.c,.int .i64 C.d.w,.int .i64 C.d.h,.int .i64 (K:Int),.int .i64 room] h (DTo Z C K N h (DA K room (C.d.s.x.n*C.d.s.y.n*C.m.c) (C.d.X*C.d.Y*C.m.c))):=by
 apply MR;unfold CW;have cc:=HK;obtain⟨X,Y,rfl,HX,HY⟩:=HK;rw[bC];refine aC λbs g1 r1 e1 n1=>aC λb3 g3 r3 e3 n3=>?_
 have k1:=aU r1;have k3:=aU r3;have s1:=e1.1;have s3:=e3.1;have r1:=e3.row r1;have E3:=e1.trans e3;have aw:=oZ.ext cc E3;have oX:=HX.one;have oY:=HY.one;refine aV (λxs g=>∃x tv cv wv Zr,xs=[ptr x]∧PreN C K N room X Y g3 x tv cv wv Zr g) ?_ ?_
 ·refine aG (Ext g3) (Ext.refl _) ?_;have q2:∀W,Ext g3 W→aH 5 W (ptr bs)=some (.agg [X,Y,.int .i64 C.d.s.x.n,.int .i64 C.d.s.y.n,.int .i64 C.d.s.border].toArray):=λW e=>aI (e.row r1) 5 rfl
  refine ao _ q2 ?_;refine ao _ q2 ?_;have ek:ag .i .add (.int .i64 (K:Int)) (.int .i64 1)=some (.int .i64 ((K:Int)+1)):=by
   show some (Value.int .i64 (IntKind.i64.wrap ((K:Int)+1)))=_;rw[w64 (by omega) (by omega)]
  rw[ek,ah];have M0:=StN.start C K N room g3
  repeat' first
   |exact StN.ext ‹StN _ _ _ _ _ _ _ _ _ _ _›
   |refine And.intro ?_ ?_
   |refine StN.call_t ‹StN _ _ _ _ _ none _ _ _ _ _› aw O hN bi hX hY few λv W M=>?_
   |refine StN.call_q ‹StN _ _ _ _ _ _ none _ _ _ _› λv W M=>?_
   |refine StN.call_c ‹StN _ _ _ _ _ _ _ none _ _ _› (by omega) λv W M=>?_
   |refine StN.mk_w ‹StN _ _ _ _ _ _ _ _ none _ _› (by omega) (by omega) λv W M=>?_
   |refine StN.new_p ‹StN _ _ _ _ _ _ _ _ _ none _› λx W M=>?_
   |refine StN.vk_fill ‹StN _ _ _ _ _ (some _) (some _) (some _) (some _) _ _› oX oY ?_
   |refine StN.fin ‹StN _ _ _ _ _ (some _) (some _) (some _) (some _) (some _) _› oX oY λZr W H=>⟨_,_,_,_,Zr,rfl,H⟩
 rintro xs ρ g ⟨x,tv,cv,wv,Zr,rfl,rx,eg,nx,zr,Ht,Hc,Hw⟩;have kx:=aU rx;have sg:=eg.1;have c6:aB g ⟨x,6,none⟩=some tv:=ai rx;have bo:aq tv=some (.int .i64 (N:Int)):=by obtain⟨a,c,e⟩:=Ht.isSl;rw[e];simp[aq,dI]
 have ad:∀c,Z c→¬c=x:=λc hc h=>by have:=zl c hc;omega
 simp only[gJ,go_sem,Nat.zero_add,c6,bo];refine bB (α:=Unit) N 0 (λi _=>[.int .i64 (i:Int)]) (λi _ F=>∃mv Zm,F[x]? =some (.cells (dpC C (Bq K room) ⟨X,Y,tv,mv,y4,cv,wv,y4,y4,y4,y4⟩).toArray 110 (0,0))∧Fr (λk=>k=x) g F∧Rp.Ow Yf Zm F mv (Ca C i)∧∀k,(blk mv k∨Zm k)→g.size≤k∧k<F.size) () rfl (Nat.zero_le _) ⟨y4,λ_=>False,rx,Fr.refl _ _,Rp.Ow.nil,λk A=>A.elim (λh=>h.elim) False.elim⟩ λi _ F again ρ' _ hi ⟨mv,Zm,U,fx,om,zm⟩ bv=>?_
 have sx:=fx.1;have rS:=fx.row (eg.row r1) (show¬bs=x by omega);simp only[gJ];rw[cj,ah];refine aj (λc1=>?_) (λc1=>?_)
 ·have bd:i<N:=by omega
  have cp:=Ht.fr fx λk _ A=>(zr k A).2.2
  obtain⟨pt,cs,a1,a2,a3⟩:=cp.atw (show 0<10 by omega) (k:=.i64) (i:=i) (by simp[dI];omega);have a1:aR 10 tv (.int .i64 (i:Int))=some pt:=a1;have a2:aH 10 F pt=some (.agg cs.toArray):=a2;have et:(dI C.d N)[i]'(by simp[dI];omega)=aM C.d i:=by simp[dI]
  rw[et]at a3;obtain⟨f0,f1,f3,f5,ec⟩:=a3;rw[a1,ah,a2,ah];refine cD (cs:=cs) (by rw[ec];rfl) (Dz.one (Z:=Zr) (h:=F) (x:=aM C.d i) ⟨f0,f1,f3,f5,ec⟩) (by rw[ec];rfl) λb5 g5 r5 e5 n5=>?_
  rw[ec]at r5;have s5:=e5.1;refine aG (Ext g5) (Ext.refl _) ?_;simp only[go_sem,Nat.zero_add];refine ao mv (λk e=>ai (e.row (e5.row U))) ?_;refine ao (.agg [X,Y,.int .i64 C.d.s.x.n,.int .i64 C.d.s.y.n,.int .i64 C.d.s.border].toArray) (λk e=>aI (e.row (e5.row rS)) 5 rfl) ?_
  try simp only[go_sem,Nat.zero_add]
  refine ao (.int .i64 (aM C.d i).y) (λk e=>ai (e.row r5)) ?_
  try simp only[go_sem,Nat.zero_add]
  refine ao (.int .i64 (aM C.d i).h) (λk e=>ai (e.row r5)) ?_;have hw:=jw O.d (i:=(i:Int)) (by omega) (by omega);unfold dO at hw;have K5:oZ.R Z g5 [X,Y,.int .i64 C.d.s.x.n,.int .i64 C.d.s.y.n,.int .i64 C.d.s.border] C.d.s:=oZ.ext (oZ.fr (oZ.ext aw eg) fx λk _ A=>ad k A) e5;refine(Rq (m:=C.m) (t:=aM C.d i) K5 O.s hw.2.2.2.1 hw.2.1 (by omega)).mono λsv g6 G=>⟨G.2.1,?_⟩
  have s6:=G.2.1.1;have au:(Ca C i).length=i:=by simp[Ca]
  refine Qz (e:=Yf) (x:=No C.E (some (LS C.d i))) (P:=blk sv) (Q:=Ext g5) rfl (om.ext (e5.trans G.2.1)) ⟨sv,rfl,G.sl,G.1.slcap⟩ rfl (by rw[au];omega) (by rw[au];omega) (λb hb=>by have:=(zm b (.inr hb)).2;omega) (λb hb=>⟨G.lt hb,λhv=>by have:=G.2.2 b hb;have:=(zm b (.inl hv)).2;omega⟩) (λh' e=>G.2.1.trans e) λv7 g7 o7 f7 n7=>?_
  have s7:=f7.1;have b8:=f7.row ((e5.trans G.2.1).row U) (show¬blk mv x from λh=>by have:=(zm x (.inl h)).1;omega);have cb:(i:Int)+1=((i+1:Nat):Int):=by omega
  try simp only[go_sem,Nat.zero_add]
  refine bJ b8 (by simp[dpC]) o7.one λg8 r8 u8=>?_
  have s8:=u8.1
  try simp only[go_sem]
  rw[w64 (n:=(i:Int)+1) (by omega) (by omega),cb];have hz:∀k,(blk v7 k∨(Zm k∨blk sv k))→g.size≤k∧k<g7.size:=λk A=>by
   rcases A with A|A|A
   ·refine⟨?_,o7.lt A⟩;rcases n7 k A with h|h
    ·exact(zm k (.inl h)).1
    ·omega
   ·have:=zm k (.inr A);omega
   ·have:=G.2.2 k A;have:=G.lt A;omega
  refine bv () g8 bd ⟨v7,λb=>Zm b∨blk sv b,r8,((fx.after (e5.trans G.2.1).fr λ_ _ h=>False.elim h).after f7 λc hc h=>by have:=(zm c (.inl h)).1;omega).after u8.fr λc _ h=>h,?_,λk A=>by rw[s8];exact hz k A⟩;rw[O0];exact o7.fr u8.fr (λk _ A h=>by have:=(hz k (.inr A)).1;omega) λk A h=>by have:=(hz k (.inl A)).1;omega
 ·have:i=N:=by omega
  subst this;have q0:∀k,k<g.size→Zr k→¬k=x:=λk _ A=>(zr k A).2.2
  have EG:=E3.trans eg
  let Z':Nat→Prop:=λk=>(Z k∨Zr k∨blk mv k∨Zm k)∧k<F.size
  have zz:∀k,Z' k→(Z k∨h.size≤k)∧k<F.size∧k≠x∧k≠b3:=λk A=>by
   obtain⟨A,lt⟩:=A;rcases A with A|A|A|A
   ·have:=zl k A;exact⟨.inl A,lt,by omega,by omega⟩
   ·have:=zr k A;exact⟨.inr (by omega),lt,by omega,by omega⟩
   ·have:=zm k (.inl A);exact⟨.inr (by omega),lt,by omega,by omega⟩
   ·have:=zm k (.inr A);exact⟨.inr (by omega),lt,by omega,by omega⟩
  have D:DAt Z' C K i (Bq K room) ⟨X,Y,tv,mv,y4,cv,wv,y4,y4,y4,y4⟩ F:=
   ⟨((HX.ext EG).fr fx λk _ A=>ad k A).mono λk lt A=>⟨.inl A,lt⟩,((HY.ext EG).fr fx λk _ A=>ad k A).mono λk lt A=>⟨.inl A,lt⟩,(Ht.fr fx q0).mono λk lt A=>⟨.inr (.inl A),lt⟩,om.sl.mono λk lt A=>⟨.inr (.inr (A.elim .inr .inl)),lt⟩,⟨Rp.Sl.nil,_,_,_,rfl,Nat.le_refl _⟩,
    (Hc.fr fx q0).mono λk lt A=>⟨.inr (.inl A),lt⟩,(Hw.fr fx q0).mono λk lt A=>⟨.inr (.inl A),lt⟩,Rp.Sl.nil,Rp.Sl.nil,Rp.Sl.nil,Rp.Sl.nil⟩
  have c2:aB F ⟨bs,2,none⟩=some (.int .i64 C.d.s.x.n):=ai rS;have c3:aB F ⟨bs,3,none⟩=some (.int .i64 C.d.s.y.n):=ai rS;rw[aI U 20 rfl,ah];simp only[go_sem,Nat.zero_add,c2,c3];rw[w64 (n:=C.d.s.x.n*C.d.s.y.n) (by omega) (by omega),w64 (n:=C.d.s.x.n*C.d.s.y.n*C.m.c) (by omega) (by omega)];refine(L9 (who:=0) D (λc hc=>(zz c hc).2.1) (Nat.zero_le _) (by simp[Bq]) (Int.le_refl _) b1.1 (by omega)).mono λr g9 D9=>?_
  obtain⟨Z9,V9,er,H9,z9,e9⟩:=D9;subst er;have s9:=e9.1;have al:∀k,Z9 k→(Z k∨h.size≤k)∧k<g9.size∧k≠x∧k≠b3:=λk A=>by
   rcases(z9 k A).1 with h1|h1
   ·have:=zz k h1;exact⟨this.1,(z9 k A).2,this.2.2⟩
   ·exact⟨.inr (by omega),(z9 k A).2,by omega,by omega⟩
  refine ce (e9.row U) (by rfl) H9.ones (by rfl) λa7 b6 L=>?_
  have cw:=L.1;have aa:=L.row (show bs≠x by omega) (e9.row rS);have b0:=H9.fr L.fr λk _ A=>(al k A).2.2.1
  obtain⟨ax,cx,ex⟩:=HX.isSl;obtain⟨ay,cy,ey⟩:=HY.isSl;have bg:aq X=some (.int .i64 C.d.X):=by rw[ex];rfl
  have be:aq Y=some (.int .i64 C.d.Y):=by rw[ey];rfl
  have c0:aB a7 ⟨bs,0,none⟩=some X:=ai aa;have ci:aB a7 ⟨bs,1,none⟩=some Y:=ai aa;rw[aI b6 20 rfl,ah];simp only[go_sem,Nat.zero_add,c0,ci,bg,be];rw[w64 (n:=C.d.X*C.d.Y) (by omega) (by omega),w64 (n:=C.d.X*C.d.Y*C.m.c) (by omega) (by omega)];refine(L9 (who:=0) b0 (λc hc=>by have:=(al c hc).2.1;omega) (Nat.zero_le _) (by simp[Bq,qD]) (Int.le_refl _) b2.1 (by omega)).mono λr bc b7=>?_
  obtain⟨a9,bk,er,a8,an,ab⟩:=b7;subst er;have cu:=ab.1;have ca:=ab.row (L.row (show b3≠x by omega) (e9.row (fx.row (eg.row r3) (show¬b3=x by omega))));have I:∀k,a9 k→(Z k∨h.size≤k)∧k<bc.size∧k≠b3:=λk A=>by
   rcases(an k A).1 with h1|h1
   ·have:=al k h1;exact⟨this.1,(an k A).2,this.2.2.2⟩
   ·exact⟨.inr (by omega),(an k A).2,by omega⟩
  refine ce ca (by rfl) a8.ones (by rfl) λct cr ar=>?_
  rw[aI cr 20 rfl,ah];have EX:Ext h F:=EG.then_fr fx λc hc=>by have hc:c=x:=hc;omega
  exact⟨a9,bk,rfl,a8.fr ar.fr λk _ A=>(I k A).2.2,λk A=>⟨(I k A).1,by rw[ar.1];exact(I k A).2.1⟩,(((EX.trans e9).upd (by omega) L).trans ab).upd (by omega) ar⟩
end
section
section
variable {C:C21}{Z:Nat→Prop}{K:Nat}{h0 h:af}{bw:Nat→Nat}{bp:Nat}{o:Nat→Nat}{n:Pic}{P:bR}
theorem Gc (O:C.Ok)(H:eZ C Z K h0 bw bp o n P h){N:Nat}(hN:(N:Int)=bP C.d)(ay:N≤4096)(hs:gS C N 0≤1000000000):
  ae prog jq #[ptr bp] h λr h'=>r=.int .i64 ((2*N+K+2+gS C N 0:Nat):Int)∧Ext h h':=by
 have HP:=H;obtain⟨V,H,row⟩:=H.row;apply BV;unfold rG;have hK:=H.few;have c2:aB h ⟨bp,2,none⟩=some (ptr C.bl):=ai row;have c6:aB h ⟨bp,6,none⟩=some V.wv:=ai row;have D:=SlC.len (H.wk id).1;refine aG (λk=>k=h) rfl ?_;simp only[go_sem,Nat.zero_add];refine ao (ptr C.bl) (λk e=>by rw[e];exact c2) ?_
 try simp only[go_sem,Nat.zero_add]
 refine ao V.wv (λk e=>by rw[e];exact c6) ?_;refine ao (.int .i64 (K:Int)) (λ_ _=>D) ?_;refine ae.at (An H.pl O.d) ⟨rfl,?_⟩;rw[←hN];simp only[go_sem];rw[w64 (n:=2*(N:Int)) (by omega) (by omega),w64 (n:=2*(N:Int)+K) (by omega) (by omega),w64 (n:=2*(N:Int)+K+2) (by omega) (by omega),c2,ah];refine(TP H.pl O.d hN (by omega)).mono λav g3 W=>?_
 obtain⟨aa,ca,ea⟩:=W.sl.isSl;have au:(dI C.d N).length=N:=by simp[dI]
 have an:aq av=some (.int .i64 (N:Int)):=by rw[ea];show some (Value.int .i64 ((dI C.d N).length:Int))=_;rw[au]
 rw[an,ah];refine bB (α:=Unit) N 0 (λi _=>[.int .i64 (2*(N:Int)+K+2+(gS C i 0:Nat)),.int .i64 (i:Int)]) (λi _ g=>Ext g3 g) () (by simp[gS]) (Nat.zero_le _) (Ext.refl _) λi _ g4 again ρ _ hi I ab=>?_
 simp only[gJ,vy];have E4:=W.2.1.trans I;have H4:=H.ex E4;rw[cj,ah];refine aj (λg1=>?_) (λg1=>?_)
 ·have L:i<N:=by omega
  obtain⟨pt,F,q1,q2,G⟩:=(W.sl.ext I).atw (show 0<10 by omega) (k:=.i64) (i:=i) (by omega);have q1:aR 10 av (.int .i64 (i:Int))=some pt:=q1;have q2:aH 10 g4 pt=some (.agg F.toArray):=q2;have G:F=cS (dI C.d N)[i]:=G;have q4:(dI C.d N)[i]=aM C.d i:=by simp[dI]
  rw[q4]at G;subst G;rw[q1,ah,q2,ah];refine cD (cs:=cS (aM C.d i)) rfl (iV _) rfl λb5 g5 r5 e5 n5=>?_
  have U:=H4.ex e5;have A:=U.p id;refine aG (Ext g5) (Ext.refl _) ?_
  try simp only[go_sem,Nat.zero_add]
  refine ao (ptr C.bl) (λk e=>ai (e.row A)) ?_;refine ao (.agg (cS (aM C.d i)).toArray) (λk e=>aI (e.row r5) 10 rfl) ?_;refine(NG U.pl).mono λr g6 ⟨er,D⟩=>?_
  subst er;refine⟨D,?_⟩;have H6:=U.ex D;rw[H.zl.2.1,H.zl.2.2];refine ae.to (XB C.m H6.set.tx H6.set.ty O.s) λg7 e7=>?_
  rw[if_pos (jw O.d (by omega) (by omega))];have al:vS C.d.s (aM C.d i) C.m=ni C i:=rfl;rw[al];have a7:gS C (i+1) 0=gS C i 0+ni C i:=by
   rw[G7 C i 1 0,Nat.zero_add];show _+(ni C i+0)=_;omega
  have ax:gS C N 0=gS C (i+1) 0+gS C (N-(i+1)) (0+(i+1)):=by rw[←G7];congr 1;omega
  have ad:2*(N:Int)+K+2+(gS C i 0:Nat)+(ni C i:Int)=2*(N:Int)+K+2+(gS C (i+1) 0:Nat):=by omega
  have aw:(i:Int)+1=((i+1:Nat):Int):=by omega
  try simp only[go_sem]
  rw[ad,w64 (n:=2*(N:Int)+K+2+(gS C (i+1) 0:Nat)) (by omega) (by omega),w64 (n:=(i:Int)+1) (by omega) (by omega),aw];exact ab () g7 L (I.trans (e5.trans (D.trans e7)))
 ·have ar:i=N:=by omega
  subst ar;refine⟨?_,E4⟩
  congr 1
end
end
end Go.Proofs.YtcoimlclclnlkaaGreatDoor
namespace Go.Proofs.YtcoimlclclnlkaaGreatDoor
open Go Go.Crisp
attribute [local irreducible] ae cF aP stK aA vK qK bD gK dE aS mkK cG Cn DS Ad bsK clK qN lS R9
section
def yY (a b:Nat):List Int:=(List.range' a (b-a)).map λi:Nat=>(i:Int)
theorem Ti {a b:Nat}(h:a≤b):yY a (b+1)=yY a b++[(b:Int)]:=by
 unfold yY;rw[show b+1-a=(b-a)+1 by omega,List.range'_concat,List.map_append]
 congr 1
 simp;omega
theorem OY {a b:Nat}(h:a<b):yY a b=(a:Int)::yY (a+1) b:=by
 unfold yY;rw[show b-a=(b-(a+1))+1 by omega,List.range'_succ];rfl
theorem LG {a b:Nat}:yY a b=[]↔b≤a:=by
 unfold yY;simp;omega
def sN (K:Nat)(f:Nat→Nat):Nat:=((List.range K).map f).sum
theorem q9 (K:Nat)(f:Nat→Nat):sN (K+1) f=sN K f+f K:=by simp[sN,List.range_succ]
theorem Eu {K:Nat}{f g:Nat→Nat}(h:∀i,i<K→f i=g i):sN K f=sN K g:=by
 unfold sN
 congr 1
 exact List.map_congr_left λi hi=>h i (List.mem_range.1 hi)
theorem Um {f g:Nat→Nat}{k:Nat}(h:∀i,i≠k→g i=f i):∀K,k<K→sN K g+f k=sN K f+g k:=by
 intro K;induction K with
 |zero=>intro D;omega
 | succ K A=>
  intro D;rw[q9,q9];by_cases e:k=K
  ·subst e;rw[Eu (f:=g) (g:=f) λi hi=>h i (by omega)];omega
  ·have:=A (by omega);rw[h K (by omega)];omega
def iS (w:WD):Nat:=if w.state=2 then 1 else 0
theorem Nt (K:Nat)(ws:Nat→WD):sN K (λk=>iS (ws k))≤K:=by
 induction K with
 |zero=>exact Nat.le_refl _
 |succ K A=>rw[q9];unfold iS at A ⊢;split<;>omega
theorem Pl {K:Nat}{ws:Nat→WD}(h:sN K (λk=>iS (ws k))=K):∀k,k<K→(ws k).state=2:=by
 induction K with
 |zero=>intro k D;omega
 | succ K A=>
  rw[q9]at h;have h1:=Nt K ws;have F:iS (ws K)≤1:=by unfold iS;split<;>omega
  intro k D;by_cases e:k=K
  ·subst e;have:iS (ws k)=1:=by omega
   unfold iS at this;split at this
   ·assumption
   ·omega
  ·exact A (by omega) k (by omega)
def nI (C:C21)(w:WD)(n:Pic):Prop:=
 ∀x y c,inP n x y c→∀i∈w.tiles,Jq (aM C.d i) x y→(∀t yy e,w.job=some (t,yy,e)→i=w.tiles.getLast?.getD 0→y<yy)→atP n x y c=ui C.m C.d.s x y c
structure jQ (C:C21)(K N tk:Nat)(P:bR)(n:Pic):Prop where
 ok:kb C K P
 nn:(N:Int)=bP C.d
 sn:(tk:Int)≤P.sent
 ql:P.q.l=yY tk P.sent.toNat
 rm:1≤P.q.room
 cov:∀x:Nat,x<tk→∃k,k<K∧(x:Int)∈(P.ws k).tiles
 gone:∀k,k<K→(P.ws k).state=2→P.q.l=[]∧P.q.closed=true
 cnt:P.left.length=sN K λk=>iS (P.ws k)
 rt:P.ret=true→P.q.closed=true∧P.left.length=K
 rem:P.picks+((N-P.sent.toNat)+(if P.q.closed=true then 0 else 1)+(if P.ret=true then 0 else 1)+(N-tk)+gS C (N-tk) tk+sN K (λk=>muJ C.E (P.ws k).job)+(K-P.left.length):Nat)=(2*N+K+2+gS C N 0:Nat)
 paint:∀k,k<K→nI C (P.ws k) n
theorem NU (C:C21)(K:Nat)(P:bR)(k:Nat):(qe C K P k).q=(gY C P k).q∧(qe C K P k).ws=(gY C P k).ws∧(qe C K P k).words=(gY C P k).words∧(qe C K P k).sent=P.sent∧(qe C K P k).ret=P.ret∧(qe C K P k).picks=P.picks∧(qe C K P k).left.length=P.left.length+if(evP C P k).1=3 then 1 else 0:=by
 unfold qe;split
 ·rename_i h;rw[h];exact⟨rfl,rfl,rfl,rfl,rfl,rfl,rfl⟩
 ·split
  ·rename_i h1 A;rw[if_neg (by omega)];unfold we;split<;>exact⟨rfl,rfl,rfl,rfl,rfl,rfl,rfl⟩
  ·split
   ·refine⟨rfl,rfl,rfl,rfl,rfl,rfl,?_⟩;show(P.left++[_]).length=_;simp
   ·exact⟨rfl,rfl,rfl,rfl,rfl,rfl,rfl⟩
section
variable {C:C21}{K N tk:Nat}{P:bR}{n n':Pic}
theorem UO (H:jQ C K N tk P n)(h1:gQ C K P 0=true):jQ C K N tk (qC C K P 0) n:=by
 have A:=R5 H.ok 0;have hs:=H.ok.sent;have hn:=H.nn;have aa:=H.sn;have G:=H.rem;have D:P.ret=false:=by
  unfold gQ at h1;rw[if_neg (by omega),if_neg (by omega)]at h1;split at h1
  ·cases h1
  ·rename_i h;simpa using h
 rw[D]at G;have I:(if P.sent<bP C.d then decide (rP P.q≠1)else !P.q.closed||decide (P.left.length=K))=true:=by
  unfold gQ at h1;rw[if_neg (by omega),if_neg (by omega),D]at h1;simpa using h1
 have e:qC C K P 0=Jc C K {P with picks:=P.picks+1}:=by
  unfold qC;rw[h1,if_neg (by simp),if_pos rfl]
 rw[e]at A ⊢;unfold Jc at A ⊢;by_cases g:P.sent<bP C.d
 ·have hc:P.q.closed=false:=by
   cases h:P.q.closed with
   |false=>rfl
   |true=>have:=H.ok.cl h;omega
  rw[if_pos g]at A I ⊢;have F:rP P.q≠1:=by simpa using I
  have hq:mQ P.q P.sent={P.q with l:=P.q.l++[P.sent]}:=by
   unfold rP at F;unfold mQ;rw[hc]at F ⊢;simp only[Bool.false_eq_true,if_false]at F ⊢;split at F
   ·exact absurd rfl F
   ·rename_i h;rw[if_neg h];simp[hc]
  have L:(P.sent+1).toNat=P.sent.toNat+1:=by omega
  have W:((P.sent.toNat:Nat):Int)=P.sent:=by omega
  refine⟨A,H.nn,by show(tk:Int)≤P.sent+1;omega,?_,?_,H.cov,λk U h=>?_,H.cnt,λh=>?_,?_,H.paint⟩
  ·show(mQ P.q P.sent).l=yY tk (P.sent+1).toNat;rw[hq,L,Ti (by omega),←H.ql,W]
  ·show 1≤(mQ P.q P.sent).room;rw[hq];exact H.rm
  ·have:=(H.gone k U h).2;rw[hc]at this;cases this
  ·have h:P.ret=true:=h;rw[D]at h;cases h
  ·show P.picks+1+((N-(P.sent+1).toNat)+(if(mQ P.q P.sent).closed=true then 0 else 1)+(if P.ret=true then 0 else 1)+(N-tk)+gS C (N-tk) tk+sN K (λk=>muJ C.E (P.ws k).job)+(K-P.left.length):Nat)=(2*N+K+2+gS C N 0:Nat);rw[hq,D,hc];rw[hc]at G;simp only[Bool.false_eq_true,if_false]at G ⊢;omega
 ·rw[if_neg g]at A I ⊢;cases hc:P.q.closed with
  | false=>
   rw[hc]at A G;rw[if_pos rfl]at A ⊢;refine⟨A,H.nn,H.sn,H.ql,H.rm,H.cov,λk U h=>?_,H.cnt,λh=>?_,?_,H.paint⟩
   ·have:=(H.gone k U h).2;rw[hc]at this;cases this
   ·have h:P.ret=true:=h;rw[D]at h;cases h
   ·show P.picks+1+((N-P.sent.toNat)+(if true=true then 0 else 1)+(if P.ret=true then 0 else 1)+(N-tk)+gS C (N-tk) tk+sN K (λk=>muJ C.E (P.ws k).job)+(K-P.left.length):Nat)=(2*N+K+2+gS C N 0:Nat);rw[D];simp only[Bool.false_eq_true,if_false,if_true]at G ⊢;omega
  |true=>
   rw[hc]at A G I;rw[if_neg (by simp)]at A ⊢;have hl:P.left.length=K:=by simpa using I
   refine⟨A,H.nn,H.sn,H.ql,H.rm,H.cov,H.gone,H.cnt,λ_=>⟨hc,hl⟩,?_,H.paint⟩;show P.picks+1+((N-P.sent.toNat)+(if P.q.closed=true then 0 else 1)+(if true=true then 0 else 1)+(N-tk)+gS C (N-tk) tk+sN K (λk=>muJ C.E (P.ws k).job)+(K-P.left.length):Nat)=(2*N+K+2+gS C N 0:Nat);rw[hc];simp only[Bool.false_eq_true,if_false,if_true]at G ⊢;omega
theorem nI.keep {w:WD}(H:nI C w n)(D:dr n n')(k:∀x y c,inP n x y c→atP n x y c=ui C.m C.d.s x y c→atP n' x y c=ui C.m C.d.s x y c):nI C w n':=
 λx y c hi i h1 A F=>k x y c (D.inP.1 hi) (H x y c (D.inP.1 hi) i h1 A F)
theorem L3 {w:WD}(D:zW (some C.E) w n n'):∀x y c,inP n x y c→atP n x y c=ui C.m C.d.s x y c→atP n' x y c=ui C.m C.d.s x y c:=by
 intro x y c hi h;obtain⟨I,A⟩:=D;cases G:w.job with
 |none=>rw[G]at A;rw[A];exact h
 | some j=>
  obtain⟨t,H,e⟩:=j;rw[G]at A;obtain⟨_,_,d1,d2⟩:=A;by_cases F:bM (C.E.d t) H e=2
  ·rw[d2 F x y c hi];split
   ·rfl
   ·exact h
  ·rw[d1 F];exact h
theorem nI.move (O:C.Ok){w:WD}{t:cz}{y e:Int}(hj:w.job=some (t,y,e))(h0:0≤w.tiles.getLast?.getD 0)(h1:w.tiles.getLast?.getD 0<bP C.d)(ht:t=aM C.d (w.tiles.getLast?.getD 0))(su:C.suits n)(H:nI C w n)(D:zW (some C.E) w n n'){w':WD}(ad:w'.tiles=w.tiles)(ab:w'.job=b9 (some C.E) (some (t,eU (C.E.d t) y e,gj (C.E.d t) y e))):nI C w' n':=by
 have U:=L3 D;obtain⟨D1,D2⟩:=D;rw[hj]at D2;obtain⟨O1,O2,d1,d2⟩:=D2;have hr:=(C21.newC O su h0 h1)
 have RO:=O.s.room (m:=C.m) (n:=n) (t:=t) O.m (by rw[ht];exact hr);intro W L c' hi i aa F hl;rw[ad]at aa hl;rw[ab]at hl;have A:inP n W L c':=D1.inP.1 hi;by_cases I:i=w.tiles.getLast?.getD 0
 ·rw [I,←ht]at F;have hy:L<eU (C.E.d t) y e:=by
   by_cases h0:bM (C.E.d t) (eU (C.E.d t) y e) (gj (C.E.d t) y e)=0
   ·unfold bM at h0;split at h0
    ·rename_i h1;have h1:t.y+t.h≤eU (C.E.d t) y e:=h1;unfold Jq at F;omega
    ·split at h0<;>omega
   ·exact hl t _ _ (if_neg h0) I
  rcases Int.lt_or_le L y with h2|h2
  ·exact U W L c' A (H W L c' A i aa (by rw[I,←ht];exact F) λt2 yy e2 h3 _=>by rw[hj]at h3;cases h3;exact h2)
  ·have hK:bM (C.E.d t) y e=2:=by
    unfold eU at hy;split at hy
    ·assumption
    ·omega
   have hY:eU (C.E.d t) y e=y+1:=if_pos hK;have ey:L=y:=by omega
   rw[d2 hK W L c' A,if_pos];refine⟨ey,F.1,F.2.1,?_⟩;have G:=RO.wid;have G:(fJ (t.w*C.m.c):Int)=t.w*C.m.c:=G;rw[G];show(W-t.x)*C.m.c+c'<t.w*C.m.c;have hc:c'<C.m.c:=by have:=A.2.2.2.2.2;rw[←su.2.2.2.2.1];exact this
   have hx:=F.2.1;have:(W-t.x+1)*C.m.c≤t.w*C.m.c:=Int.mul_le_mul_of_nonneg_right (by omega) (by have:=A.2.2.2.2.1;omega);rw[Int.add_mul,Int.one_mul]at this;omega
 ·exact U W L c' A (H W L c' A i aa F λt2 yy e2 _ h3=>absurd h3 I)
theorem nI.take (O:C.Ok){w:WD}{x:Int}(h0:0≤x)(h1:x<bP C.d)(hj:w.job=none)(H:nI C w n){w':WD}(U:w'.tiles=w.tiles++[x])(I:w'.job=b9 (some C.E) (C.jo x)):nI C w' n:=by
 intro x' y' c' hi i A F G;rw[U]at A G;rw[I]at G;by_cases D:i=x
 ·subst D;have hw:=jw O.d h0 h1;have L:bM (C.E.d (aM C.d i)) (aM C.d i).y (lnF C.d.s.y (aM C.d i).y)≠0:=by
   unfold bM;rw[if_neg (by show¬(aM C.d i).y+(aM C.d i).h≤(aM C.d i).y;unfold dO at hw;omega)];split<;>omega
  have hs:b9 (some C.E) (C.jo i)=C.jo i:=if_neg L;rw[hs]at G;have:=G _ _ _ rfl (by simp);unfold Jq at F;omega
 ·rcases List.mem_append.1 A with h|h
  ·exact H x' y' c' hi i h F λt yy e W _=>by rw[hj]at W;cases W
  ·exact absurd (List.mem_singleton.1 h) D
end
end
section
section
variable {C:C21}{K N tk:Nat}{P:bR}{n n':Pic}
theorem Un (K:Nat):sN K (λ_=>1)=K:=by
 induction K with
 |zero=>rfl
 |succ K A=>rw[q9,A]
theorem G6 (K:Nat):sN K (λ_=>0)=0:=by
 induction K with
 |zero=>rfl
 |succ K A=>rw[q9,A]
theorem Uf (O:C.Ok)(H:jQ C K N tk P n){k:Nat}(hk:k<K)(h1:gQ C K P ((k:Int)+1)=true)(bd:∀t y e,(P.ws k).job=some (t,y,e)→e≤lnE C.d.s.y y)(su:C.suits n)(D:zW (some C.E) (P.ws k) n n'):∃a9,jQ C K N a9 (qC C K P ((k:Int)+1)) n':=by
 have ab:=R5 H.ok ((k:Int)+1);have ek:((k:Int)+1-1).toNat=k:=by omega
 have a7:qC C K P ((k:Int)+1)=qe C K {P with picks:=P.picks+1} k:=by
  unfold qC;rw[h1,if_neg (by simp),if_neg (by omega),ek]
 rw[a7]at ab ⊢
 clear a7
 obtain⟨f1,f2,f3,f4,f5,f6,f7⟩:=NU C K {P with picks:=P.picks+1} k;generalize qe C K {P with picks:=P.picks+1} k=Q at ab f1 f2 f3 f4 f5 f6 f7 ⊢;have f4:Q.sent=P.sent:=f4;have f5:Q.ret=P.ret:=f5;have f6:Q.picks=P.picks+1:=f6;have f1:Q.q=(cE (some C.E) (C.jo (bN P.q)) (P.ws k) P.q).2.1:=f1;have f2:Q.ws=λi=>if i=k then(cE (some C.E) (C.jo (bN P.q)) (P.ws k) P.q).1 else P.ws i:=f2
 have f7:Q.left.length=P.left.length+if(cE (some C.E) (C.jo (bN P.q)) (P.ws k) P.q).2.2.1=3 then 1 else 0:=f7
 have hs:=H.ok.sent;have hn:=H.nn;have a8:=H.sn;have hr:=H.rem;have Wk:=H.ok.w k hk;have ay:(P.ws k).state=1∨((P.ws k).state=0∧di P.q≠1):=by
  unfold gQ at h1;split at h1
  ·cases h1
  ·rw[if_pos (by omega),ek]at h1;simpa using h1
 have U:∀(f:WD→Nat),sN K (λi=>f (Q.ws i))+f (P.ws k)=sN K (λi=>f (P.ws i))+f (cE (some C.E) (C.jo (bN P.q)) (P.ws k) P.q).1:=λf=>by
  have:=Um (f:=λi=>f (P.ws i)) (g:=λi=>f (Q.ws i)) (k:=k) (λi hi=>by rw[f2];simp only[if_neg hi]) K hk;rw[f2]at this ⊢;simp only[if_true]at this;exact this
 have F:∀j,j<K→j≠k→Q.ws j=P.ws j:=λj _ h=>by rw[f2];simp only[if_neg h]
 have A:Q.ws k=(cE (some C.E) (C.jo (bN P.q)) (P.ws k) P.q).1:=by rw[f2];simp only[if_true]
 have au:=L3 D;have pO:∀j,j<K→j≠k→nI C (Q.ws j) n':=λj hj h=>by rw[F j hj h];exact(H.paint j hj).keep D.1 au
 rcases Wk.st with⟨s1,s2,s3⟩|⟨s1,s2⟩
 ·-- it moves
  cases hj:(P.ws k).job with
  |none=>rw[hj]at s2;exact(show False from s2).elim
  | some jj=>
   obtain⟨t,y,e⟩:=jj;rw[hj]at s2;have s2:bM (C.E.d t) y e≠0:=s2;have es:cE (some C.E) (C.jo (bN P.q)) (P.ws k) P.q=(⟨stJ (b9 (some C.E) (some (t,eU (C.E.d t) y e,gj (C.E.d t) y e))),(P.ws k).tiles,b9 (some C.E) (some (t,eU (C.E.d t) y e,gj (C.E.d t) y e)),(P.ws k).words⟩,P.q,(2,(P.ws k).tiles.getLast?.getD 0,bM (C.E.d t) y e,gi (C.E.d t) y e)):=by
    unfold cE;rw[if_pos s1,hj]
   rw[es]at f1 f7 A U;have f1:Q.q=P.q:=f1;have f7:Q.left.length=P.left.length:=by rw[f7];simp
   have hl:=Wk.tl _ (Pf s3);obtain⟨j1,j2⟩:=Wk.jb t y e hj;have al:=U λw=>muJ C.E w.job
   have ad:=U iS;have g0:iS (P.ws k)=0:=by unfold iS;rw[if_neg (by omega)]
   have gs:∀jo,iS ⟨stJ jo,(P.ws k).tiles,jo,(P.ws k).words⟩=0:=λjo=>by unfold iS;rw[if_neg];cases jo with|none=>exact(by decide:¬(0:Int)=2)|some x=>exact(by decide:¬(1:Int)=2)
   simp only[LH,hj]at al;have bo:muJ C.E (some (t,y,e))=pC (C.E.d t) y e:=rfl;have b2:=Tq (d:=C.E.d t) s2 (bd t y e hj);simp only[gs,g0]at ad;refine⟨tk,ab,H.nn,by rw[f4];exact a8,by rw[f1,f4];exact H.ql,by rw[f1];exact H.rm,λx hx=>?_,λj G h=>?_,by rw[f7,H.cnt];omega,λh=>by rw[f5]at h;rw[f1,f7];exact H.rt h,?_,λj G=>?_⟩
   ·obtain⟨j,W,aa⟩:=H.cov x hx;refine⟨j,W,?_⟩;by_cases I:j=k
    ·subst I;rw[A];exact aa
    ·rw[F j W I];exact aa
   ·rw[f1];by_cases I:j=k
    ·subst I;rw[A]at h;have:=gs (b9 (some C.E) (some (t,eU (C.E.d t) y e,gj (C.E.d t) y e)));unfold iS at this;rw[if_pos h]at this;omega
    ·rw[F j G I]at h;exact H.gone j G h
   ·rw[f1,f4,f5,f6,f7];omega
   ·by_cases e':j=k
    ·subst e';exact nI.move O hj hl.1 (by omega) j1 su (H.paint j G) D (by rw[A]) (by rw[A])
    ·exact pO j G e'
 ·have s0:(P.ws k).state=0∧di P.q≠1:=by
   rcases ay with h|h
   ·omega
   ·exact h
  have be:n'=n:=by
   obtain⟨_,D2⟩:=D;rw[s2]at D2;exact D2
  subst be;have g0:iS (P.ws k)=0:=by unfold iS;rw[if_neg (by omega)]
  have m0:muJ C.E (P.ws k).job=0:=by rw[s2];rfl
  by_cases L:di P.q=0
  ·-- it sU a tile
   have ar:P.q.l≠[]:=λh=>by unfold di at L;rw[if_pos h]at L;split at L<;>omega
   have aw:tk<P.sent.toNat:=by
    rw[H.ql]at ar;exact Nat.lt_of_not_le λh=>ar (LG.2 h)
   have hx:bN P.q=(tk:Int):=by unfold bN;rw[H.ql,OY aw];rfl
   have es:cE (some C.E) (C.jo (bN P.q)) (P.ws k) P.q=(AF (some C.E) (P.ws k) (bN P.q) (C.jo (bN P.q)),mR P.q,(1,bN P.q,0,0)):=by
    unfold cE;rw[if_neg (by omega),if_neg (by omega),if_pos L]
   rw[es]at f1 f7 A U;have f1:Q.q=mR P.q:=f1;have f7:Q.left.length=P.left.length:=by rw[f7];simp
   have bc:(mR P.q).l=yY (tk+1) P.sent.toNat:=by
    unfold mR;show P.q.l.tail=_;rw[H.ql,OY aw];rfl
   have ad:=U iS;have al:=U λw=>muJ C.E w.job
   have gs:∀jo wd tl,iS ⟨stJ jo,tl,jo,wd⟩=0:=λjo wd tl=>by unfold iS;rw[if_neg];cases jo with|none=>exact(by decide:¬(0:Int)=2)|some x=>exact(by decide:¬(1:Int)=2)
   have g1:iS (AF (some C.E) (P.ws k) (bN P.q) (C.jo (bN P.q)))=0:=gs _ _ _;have m1:muJ C.E (AF (some C.E) (P.ws k) (bN P.q) (C.jo (bN P.q))).job=ni C tk:=by
    rw[hx];show muJ C.E (b9 (some C.E) (some ((aM C.d tk),(aM C.d tk).y,lnF C.d.s.y (aM C.d tk).y)))=_;rw[LH];rfl
   have b1:gS C (N-tk) tk=ni C tk+gS C (N-(tk+1)) (tk+1):=by
    rw[show N-tk=(N-(tk+1))+1 by omega];rfl
   have ax:(AF (some C.E) (P.ws k) (bN P.q) (C.jo (bN P.q))).tiles=(P.ws k).tiles++[bN P.q]:=rfl;simp only[m0,m1]at al;simp only[g0,g1]at ad;refine⟨tk+1,ab,H.nn,by rw[f4];omega,by rw[f1,f4];exact bc,by rw[f1];exact H.rm,λx bv=>?_,λj G h=>?_,by rw[f7,H.cnt];omega,λh=>by rw[f5]at h;rw[f1,f7];exact H.rt h,?_,λj G=>?_⟩
   ·by_cases ex:x=tk
    ·refine⟨k,hk,?_⟩;rw[A,ax,hx,ex];simp
    ·obtain⟨j,W,aa⟩:=H.cov x (by omega);refine⟨j,W,?_⟩;by_cases I:j=k
     ·subst I;rw[A,ax];exact List.mem_append_left _ aa
     ·rw[F j W I];exact aa
   ·by_cases I:j=k
    ·subst I;rw[A]at h;unfold iS at g1;rw[if_pos h]at g1;omega
    ·rw[F j G I]at h;exact absurd (H.gone j G h).1 ar
   ·rw[f1,f4,f5,f6,f7];have bg:(mR P.q).closed=P.q.closed:=rfl;rw[bg];omega
   ·by_cases e':j=k
    ·subst e';exact nI.take O (x:=bN P.q) (by rw[hx];omega) (by rw[hx];omega) s2 (H.paint j G) (by rw[A];rfl) (by rw[A];rfl)
    ·exact pO j G e'
  ·-- it leaves
   have an:di P.q=2:=by
    have:=s0.2;unfold di at this L ⊢;split
    ·rename_i h;rw[if_pos h]at this L;split<;>simp_all
    ·rename_i h;rw[if_neg h]at L;exact absurd rfl L
   have hq:P.q.l=[]∧P.q.closed=true:=by
    unfold di at an;split at an
    ·rename_i h;refine⟨h,?_⟩;split at an
     ·assumption
     ·omega
    ·omega
   have bi:mR P.q=P.q:=by
    unfold mR;rw[hq.1];cases h:P.q;rw[h]at hq
    simp_all
   have es:cE (some C.E) (C.jo (bN P.q)) (P.ws k) P.q=({P.ws k with state:=2},mR P.q,(3,0,0,0)):=by
    unfold cE;rw[if_neg (by omega),if_neg (by omega),if_neg L,if_pos an]
   rw[es]at f1 f7 A U;have f1:Q.q=P.q:=by rw[f1];exact bi
   have f7:Q.left.length=P.left.length+1:=by rw[f7];simp
   have ad:=U iS;have al:=U λw=>muJ C.E w.job
   have g1:iS {P.ws k with state:=2}=1:=rfl;have gl:=Nt K Q.ws;simp only[m0,s2]at al;simp only[g0,g1]at ad;have b0:muJ C.E none=0:=rfl;have bk:=H.cnt;refine⟨tk,ab,H.nn,by rw[f4];exact a8,by rw[f1,f4];exact H.ql,by rw[f1];exact H.rm,λx hx=>?_,λj G h=>by rw[f1];exact hq,by rw[f7,H.cnt];omega,λh=>?_,?_,λj G=>?_⟩
   ·obtain⟨j,W,aa⟩:=H.cov x hx;refine⟨j,W,?_⟩;by_cases I:j=k
    ·subst I;rw[A];exact aa
    ·rw[F j W I];exact aa
   ·rw[f5]at h;have:=(H.rt h).2;have:=Nt K P.ws;omega
   ·rw[f1,f4,f5,f6,f7];omega
   ·by_cases e':j=k
    ·subst e';have hp:=H.paint j G;rw[A];exact hp
    ·exact pO j G e'
theorem UC (O:C.Ok)(H:jQ C K N tk P n){i:Int}(G:∀k,k<K→∀t y e,(P.ws k).job=some (t,y,e)→e≤lnE C.d.s.y y)(su:C.suits n)(D:SP C K P i n n'):∃F,jQ C K N F (qC C K P i) n':=by
 unfold SP at D;by_cases A:gQ C K P i=true
 ·by_cases h0:i=0
  ·rw[if_neg (λh=>h.2 h0)]at D;subst h0 D;exact⟨tk,UO H A⟩
  ·rw[if_pos ⟨A,h0⟩]at D;have hi:0<i∧i≤K:=by
    unfold gQ at A;split at A
    ·cases A
    ·omega
   obtain⟨k,rfl⟩:∃k:Nat,i=(k:Int)+1:=⟨(i-1).toNat,by omega⟩
   rw[show((k:Int)+1-1).toNat=k by omega]at D;exact Uf O H (by omega) A (G k (by omega)) su D
 ·rw[if_neg (λh=>A h.1)]at D;subst D;refine⟨tk,?_⟩;have:qC C K P i=P:=by unfold qC;rw[if_pos (by simpa using A)]
  rw[this];exact H
theorem Uo (H:jQ C K N tk P n)(hK:1≤K)(hr:P.ret=false):∃i:Nat,i≤K∧gQ C K P (i:Int)=true:=by
 have hs:=H.ok.sent;have wk:∀k,k<K→((P.ws k).state=1∨((P.ws k).state=0∧di P.q≠1))→∃i:Nat,i≤K∧gQ C K P (i:Int)=true:=λk A h=>by
  refine⟨k+1,by omega,?_⟩;unfold gQ;rw[if_neg (by omega),if_pos (by omega),show(((k+1:Nat):Int)-1).toNat=k by omega];exact decide_eq_true h
 have G:(if P.sent<bP C.d then decide (rP P.q≠1)else !P.q.closed||decide (P.left.length=K))=true→∃i:Nat,i≤K∧gQ C K P (i:Int)=true:=λh=>by
  refine⟨0,by omega,?_⟩;unfold gQ;rw[if_neg (by omega),if_neg (by omega),if_neg (by rw[hr];simp)];exact h
 by_cases g:P.sent<bP C.d
 ·by_cases F:rP P.q=1
  ·have D:P.q.l≠[]:=λh=>by
    unfold rP at F;split at F
    ·omega
    ·split at F
     ·rename_i hh;rw[h]at hh;have:=H.rm;simp only[List.length_nil]at hh;omega
     ·omega
   have W:di P.q=0:=if_neg D;rcases(H.ok.w 0 (by omega)).st with h|⟨h|h,_⟩
   ·exact wk 0 (by omega) (.inl h.1)
   ·exact wk 0 (by omega) (.inr ⟨h,by omega⟩)
   ·exact absurd (H.gone 0 (by omega) h).1 D
  ·exact G (by rw[if_pos g];exact decide_eq_true F)
 ·cases hc:P.q.closed with
  |false=>exact G (by rw[if_neg g,hc];rfl)
  | true=>
   by_cases U:P.left.length=K
   ·exact G (by rw[if_neg g,hc];simpa using U)
   ·have:∃k,k<K∧(P.ws k).state≠2:=Classical.byContradiction λh=>U (by
     rw[H.cnt];have:∀k,k<K→iS (P.ws k)=1:=λk A=>by
      unfold iS;rw[if_pos (Classical.byContradiction λL=>h ⟨k,A,L⟩)]
     rw[Eu (g:=λ_=>1) this,Un])
    obtain⟨k,A,L⟩:=this;have I:di P.q≠1:=by
     unfold di;rw[hc];split<;>simp
    rcases(H.ok.w k A).st with h|⟨h|h,_⟩
    ·exact wk k A (.inl h.1)
    ·exact wk k A (.inr ⟨h,I⟩)
    ·exact absurd h L
theorem Ns (O:C.Ok)(H:jQ C K N tk P n)(su:C.suits n)(hK:1≤K)(W:P.ret=true):n.l=(sq C.m C.d.s).l∧P.picks=(2*N+K+2+gS C N 0:Nat)∧tk=N:=by
 obtain⟨h1,h2⟩:=H.rt W;have hs:=H.ok.cl h1;have U:=H.cnt;have D:=Pl (K:=K) (ws:=P.ws) (by omega);have hn:=H.nn;have A:=H.rem;have F:∀k,k<K→(P.ws k).job=none:=λk G=>by
  rcases(H.ok.w k G).st with h|h
  ·have:=D k G;omega
  ·exact h.2
 have L:sN K (λk=>muJ C.E (P.ws k).job)=0:=by
  rw[Eu (g:=λ_=>0) λk G=>by rw[F k G];rfl,G6]
 have I:tk=N:=by
  have:=(H.gone 0 (by omega) (D 0 (by omega))).1;rw[H.ql]at this;have:=LG.1 this;have:=H.sn;omega
 refine⟨?_,?_,I⟩
 ·refine OF O H.nn (λx y c hi i aa ht _=>?_) su;obtain⟨k,G,hm⟩:=H.cov i (by omega);exact H.paint k G x y c hi i hm ht λt yy e h _=>by rw[F k G]at h;cases h
 ·rw[I,L,h1,W]at A;simp only[if_true]at A;have e0:gS C (N-N) N=0:=by rw[Nat.sub_self];rfl
  rw[e0]at A;omega
end
end
end Go.Proofs.YtcoimlclclnlkaaGreatDoor
namespace Go.Proofs.YtcoimlclclnlkaaGreatDoor
open Go Go.Crisp
attribute [local irreducible] ae cF aP stK aA vK qK bD gK dE aS mkK cG Cn DS Ad bsK clK qN lS R9
open _root_.Go.Proofs.Tryz
section
def GoP (C:C21)(Z:Nat→Prop)(K N:Nat)(h0:af)(bw:Nat→Nat)(bp:Nat)(o:Nat→Nat)(n:Pic)(P:bR)(h:af):Prop:=eZ C Z K h0 bw bp o n P h∧∃tk,jQ C K N tk P n
theorem GJ {C:C21}{K:Nat}{P:bR}{k:Nat}{x:Int}:x∈xz C K P k↔ ∃i:Nat,i<k∧x=(i:Int)∧gQ C K P x=true:=by
 unfold xz;rw[List.mem_filter,List.mem_map];constructor
 ·rintro⟨⟨i,hi,rfl⟩,h⟩;exact⟨i,List.mem_range.1 hi,rfl,h⟩
 ·rintro⟨i,hi,rfl,h⟩;exact⟨⟨i,List.mem_range.2 hi,rfl⟩,h⟩
theorem LC {C:C21}{K:Nat}{P:bR}{i:Int}(h:gQ C K P i=true):(qC C K P i).picks=P.picks+1:=by
 unfold qC;rw[h,if_neg (by simp)];split
 ·unfold Jc;split
  ·rfl
  ·split<;>rfl
 ·exact(NU C K {P with picks:=P.picks+1} (i-1).toNat).2.2.2.2.2.1
section
variable {C:C21}{Z:Nat→Prop}{K N:Nat}{h0 h:af}{bw:Nat→Nat}{bp:Nat}{o:Nat→Nat}{n:Pic}{P:bR}
theorem GoP.ext {h':af}(H:GoP C Z K N h0 bw bp o n P h)(e:Ext h h'):GoP C Z K N h0 bw bp o n P h':=⟨H.1.ext e,H.2⟩
theorem GoP.picks (H:GoP C Z K N h0 bw bp o n P h):0≤P.picks∧P.picks≤(2*N+K+2+gS C N 0:Nat):=by
 obtain⟨_,tk,I⟩:=H;have:=I.rem;have:=I.ok.pk;omega
theorem GoP.few (H:GoP C Z K N h0 bw bp o n P h):1≤K∧K≤256∧Ext h0 h∧C.suits n:=by
 obtain⟨⟨V,H⟩,_⟩:=H;exact⟨H.few.1,H.few.2,H.ext,H.sui⟩
theorem SB (O:C.Ok)(G:dA h0)(H:GoP C Z K N h0 bw bp o n P h){i:Int}(hi:I64 i)(few:2*N+K+2+gS C N 0≤300000)(U:∀c,de (some C.E) c→h0.size≤c):
  ae prog ii #[ptr bp,.int .i64 i] h λr h'=>r=.bool (gQ C K P i)∧∃o' n',GoP C Z K N h0 bw bp o' n' (qC C K P i) h'∧(∀c,c<h.size→o' c=o c)∧Fr (λc=>o c≠0∨de (some C.E) c) h h':=by
 have hp:=H.picks;obtain⟨F,tk,I⟩:=H;have hN:=I.nn;refine(YX O G F I.ok hi (by omega) (by omega) U).mono λr h' ⟨L,n',⟨o',a,b,c⟩,D⟩=>?_
 obtain⟨V,B⟩:=F;obtain⟨A,W⟩:=UC O I (λk hk=>(B.ws k hk id).job_e) B.sui D;exact⟨L,o',n',⟨a,A,W⟩,b,c⟩
theorem GoP.runs (H:GoP C Z K N h0 bw bp o n P h)(D:P.ret=false):xz C K P (K+1)≠[]:=by
 have F:=H.few.1;obtain⟨_,tk,I⟩:=H;obtain⟨i,hi,h1⟩:=Uo I F D;intro A;have:((i:Nat):Int)∈xz C K P (K+1):=GJ.2 ⟨i,by omega,rfl,h1⟩;rw[A]at this;cases this
theorem Xy (O:C.Ok)(G:dA h0)(H:GoP C Z K N h0 bw bp o n P h)(few:2*N+K+2+gS C N 0≤190000)(hb:∀c,de (some C.E) c→h0.size≤c){Zd:Nat→Prop}{dv:Value}{l:List Int}(HD:Rp.Sl (Rp.int .u8) Zd h0 dv l)(h8:∀x∈l,B8 x)(hl:l.length≤600):
  ae prog uA #[ptr bp,dv] h λr h'=>r=.bool true∧∃o' n' A,GoP C Z K N h0 bw bp o' n' A h'∧A.ret=true∧(∀c,c<h.size→o' c=o c)∧Fr (λc=>o c≠0∨de (some C.E) c) h h':=by
 apply Is;unfold yf;have hK:=H.few;obtain⟨av,cv,ev⟩:=HD.isSl;have ad:aq dv=some (.int .i64 (l.length:Int)):=by rw[ev];rfl
 refine bB (α:=Unit) 200000 0 (λi _=>[.int .i64 (i:Int)]) (λi _ g=>∃o' n' A,GoP C Z K N h0 bw bp o' n' A g∧(i:Int)≤A.picks∧(∀c,c<h.size→o' c=o c)∧Fr (λc=>o c≠0∨de (some C.E) c) h g) () rfl (Nat.zero_le _) ⟨o,n,P,H,by have:=H.picks;omega,λ_ _=>rfl,Fr.refl _ _⟩ λi _ g again ρ _ hi ⟨o',n',A,H',a7,oo,f⟩ al=>?_
 simp only[gJ];have ay:=H'.picks;rw[cj,ah];refine aj (λg1=>?_) (λg1=>?_)
 ·refine(zw O H'.1).mono λrv g2 NR=>?_
  have e2:=NR.2.1;have W:=H'.ext e2;have f2:=f.ext_r e2;refine ae.at (JQ W.1) ?_;cases hr:A.ret with
  |true=>
   rw[fP];exact⟨trivial,o',n',A,W,hr,oo,f2⟩
  | false=>
   rw[cf];have F:=W.runs hr;generalize hL:xz C K A (K+1)=L at NR F;have ax:L.length≠0:=λh=>F (List.eq_nil_of_length_eq_zero h)
   have a8:L.length≤K+1:=by rw[←hL];exact HA _ _ _ _
   obtain⟨ar,cr,er⟩:=NR.1.sl.isSl;have an:aq rv=some (.int .i64 (L.length:Int)):=by rw[er];rfl
   have Eg:Ext h0 g2:=W.few.2.2.1;rw[an,ah,si,ah,decide_eq_false (by omega),cf];refine aV (λxs g'=>g'=g2∧∃m:Nat,xs=[.int .i64 (m:Int)]) ?_ ?_
   ·rw[ad,ah,cj,ah];refine aj (λc1=>?_) (λc1=>?_)
    ·have U:i<l.length:=by omega
     obtain⟨p,a1,a2⟩:=(HD.ext Eg).int_at (k':=.i64) U;have aa:=h8 _ (List.getElem_mem U);unfold B8 at aa;rw[a1,ah,a2,ah,zn,ah,w64 (n:=l[i]) (by omega) (by omega)];exact⟨rfl,l[i].toNat,by rw[Int.toNat_of_nonneg aa.1]⟩
    ·exact⟨rfl,i,rfl⟩
   ·rintro xs ρ' g' ⟨rfl,m,rfl⟩;simp only[gJ];rw[ah,Ww _ _ _ _ (by omega),ah];have I:m%L.length<L.length:=Nat.mod_lt _ (by omega);obtain⟨p,a1,a2⟩:=NR.1.sl.int_at (k':=.i64) I;rw[a1,ah,a2,ah];have ab:L[m%L.length]∈xz C K A (K+1):=by rw[hL];exact List.getElem_mem I
    obtain⟨j,hj,ej,D⟩:=GJ.1 ab;refine(SB O G W (by unfold I64;omega) (by omega) hb).mono λr g3 ⟨er,o3,n3,H3,aw,f3⟩=>?_
    rw[D]at er;subst er;have au:(i:Int)+1=((i+1:Nat):Int):=by omega
    simp only[go_sem];rw[w64 (n:=(i:Int)+1) (by omega) (by omega),au];have s2:=f2.1;refine al () g3 (by omega) ⟨o3,n3,_,H3,by rw[LC D];omega,λc hc=>(aw c (by omega)).trans (oo c hc),f2.after f3 λc hc h=>h.imp (λh=>by rwa [oo c hc]at h) id⟩
 ·omega
end
end
def HT:Pic:=⟨1,1,1,255,[9]⟩
def vj:OpD:=⟨1,0,0,0,[],[],0,0,0⟩
theorem Tw:dT vj 1 1=0∧mH vj 1=1∧lG HT (bL vj 1 1)∧y7 (bL vj 1 1).x.lines.length (bL vj 1 1).y.lines.length 1 255=0∧(bL vj 1 1).x.lines.length=1∧(bL vj 1 1).y.lines.length=1∧ui HT (bL vj 1 1) 0 0 0=9∧bP ⟨bL vj 1 1,1,1⟩=1∧vS (bL vj 1 1) (aM ⟨bL vj 1 1,1,1⟩ 0) HT=2:=by
 decide+kernel
theorem at22:atP (sq HT (bL vj 1 1)) 0 0 0=9:=by decide+kernel
theorem LB {C:C21}{K N:Nat}{room a b:Int}{n:Pic}(D:(N:Int)=bP C.d):jQ C K N 0 (DA K room a b) n:=by
 refine⟨UA (by omega),D,Int.le_refl _,rfl,(by show 1≤min (max 1 room) 4096;omega),(λx F=>by omega),λk A h=>?_,?_,(λh=>by cases h),?_,(λk A x y c _ i hi=>by cases hi)⟩
 ·have h:(0:Int)=2:=h;omega
 ·show 0=sN K λ_=>0
  rw[G6]
 ·show(0:Int)+((N-0)+1+1+(N-0)+gS C (N-0) 0+sN K (λ_=>0)+(K-0):Nat)=(2*N+K+2+gS C N 0:Nat);rw[G6,Nat.sub_zero];omega
theorem So {C:C21}{K N tk:Nat}{P:bR}{n:Pic}(O:C.Ok)(H:jQ C K N tk P n)(su:C.suits n)(L:1≤K)(I:P.ret=true):n=sq C.m C.d.s:=by
 have h:=(Ns O H su L I).1;obtain⟨U,F,A,G,D⟩:=su.2;cases n;simp only at h F A G D;subst h F A G D;rfl
theorem JT {h:af}(G:dA h):ae prog oC #[] h λr h'=>r=.bool true∧Ext h h':=by
 apply Iu;unfold yg;obtain⟨a1,a2,a3,a4,a5,a6,a7,a8,a9⟩:=Tw;have a0:y7 1 1 1 255=0:=by decide+kernel
 refine cH (Rp.fill_one rfl) λb1 h1 r1 e1 n1=>?_
 have S1:=Rp.SlC.single (cs:=[.int .u16 9]) r1;have SU:Rp.Sl rU (λ_=>True) h1 (.slice (some ⟨b1,0,none⟩) 1 1) [9]:=⟨_,S1,λ_ _ _=>trivial,λi hi=>by
  have hi:i=0:=by simpa using hi
  subst hi;rfl⟩
 refine(ND SU a0 rfl (λx hx=>by have:=List.mem_singleton.1 hx;omega)).mono λr h2 ⟨pm,A,bm,vm,ax,I,b2,b7,e2⟩=>?_
 subst A ax;have I:cA h2 bm vm HT:=I;have W:HT.Wf:=⟨by decide,by decide,by decide,rfl,λx hx=>by have:=List.mem_singleton.1 hx;show 0≤x∧x≤255;omega⟩
 have E2:=e1.trans e2;have hf:(aE #[(.int .i64 0),(.int .i64 0),(.int .i64 0),(.int .i64 0),(.slice none 0 0),(.slice none 0 0),(.int .i64 0),(.int .i64 0),(.int .i64 0)] [(0,1,(.int .i64 1))])=some #[.int .i64 1,.int .i64 0,.int .i64 0,.int .i64 0,.slice none 0 0,.slice none 0 0,.int .i64 0,.int .i64 0,.int .i64 0]:=rfl;simp only[go_sem,hf,bA];have wf:vj.Wf:=yI (by simp[I64]);refine(Fl (Z:=λ_=>True) (o:=vj) (G.ext E2) yJ wf (by simp[vj]) (by simp[vj]) (by unfold I64;omega) (by unfold I64;omega)).mono λw h3 ⟨sv,e,e3,_,s2⟩=>?_
 subst e;have HS:=s2 a1;rw[a1];obtain⟨p,q,rfl,hp,hq,aw⟩:=gX HS;simp only[go_sem];refine cD (cs:=[p,q,.int .i64 _]) rfl aw rfl λb3 h4 r4 e4 n4=>?_
 have E4:=E2.trans (e3.trans e4);refine ae.to XG λh5 e5=>?_
 simp only[go_sem];have E5:=E4.trans e5;refine ae.to (Rw (G.ext E5)) λh6 e6=>?_
 have E6:=E5.trans e6;simp only[go_sem,eqT];rw[aI (l:=[p,q,.int .i64 _]) ((e5.trans e6).row r4) 3 rfl,ah];have OK:zF (bL vj 1 1):=Jb a1 (by omega) (by rw[a2];omega);have s3:=e3.1;have b0:=(e4.trans (e5.trans e6)).1;have I6:=(I.ext (e3.trans (e4.trans (e5.trans e6))))
 have bc:mV (λc=>c<h6.size) h6 (.agg #[p,q,.int .i64 (bL vj 1 1).border]) (bL vj 1 1):=(HS.ext (e4.trans (e5.trans e6))).mono λc hc _=>hc
 refine(Mg (wk:=1) (G.ext E6) I6 W bc OK a3 ⟨I6.lt,λc hc=>I6.ltv hc⟩ (λc hc=>hc) a4).mono λr h7 ⟨_,_,hM⟩=>?_
 obtain⟨bp,C,Z,bw,o,A,k1,k2,k3,CO,HP,ad,e7,b6,_⟩:=hM (by unfold dP;omega) 1 rfl (by omega);subst A;have ct:bP C.d=1:=by rw[k2];exact a8
 have st:gS C 1 0=2:=by
  have:ni C (0:Nat)=vS C.d.s (aM C.d 0) C.m:=rfl;show ni C (0:Nat)+0=2;rw[this,k1,k2];exact a9
 have GP:GoP C Z 1 1 h6 bw bp o _ _ h7:=⟨HP,0,LB (by rw[ct];rfl)⟩
 have pn:ag .p .eql (ptr bp) (.pointer none)=some (.bool false):=rfl;simp only[go_sem,eqT,pn];refine ae.to (Gc CO GP.1 (N:=1) (by rw[ct];rfl) (by omega) (by omega)) λh8 e8=>?_
 rw[st];have n7:ag .i .neq (.int .i64 ((2*1+1+2+2:Nat):Int)) (.int .i64 7)=some (.bool false):=rfl;simp only[go_sem,n7];have al:=GP.ext e8;refine ae.at (P3 al.1) ?_;have n2:ag .i .neq (.int .i64 ((1+1:Nat):Int)) (.int .i64 2)=some (.bool false):=rfl;simp only[go_sem,n2];have E8:=E6.trans (e7.trans e8);refine bB (α:=Unit) 7 0 (λi _=>[.int .i64 (i:Int)]) (λi _ g=>∃o n P,GoP C Z 1 1 h6 bw bp o n P g∧P.picks=(i:Int)) () rfl (Nat.zero_le _) ⟨o,_,_,al,rfl⟩ λi _ g again ρ _ hi ⟨o',n',F,H,bd⟩ bg=>?_
 simp only[gJ];rw[cj,ah];refine aj (λg1=>?_) (λg1=>?_)
 ·have hr:F.ret=false:=by
   cases h:F.ret with
   |false=>rfl
   |true=>
    have su:=H.few.2.2.2;obtain⟨_,tk,J⟩:=H;have:=(Ns CO J su (by omega) h).2.1;omega
  refine(zw CO H.1).mono λrv g2 NR=>?_
  have e9:=NR.2.1;have H2:=H.ext e9;have ab:=H2.runs hr;generalize hL:xz C 1 F (1+1)=L at NR ab;have bv:L.length≠0:=λh=>ab (List.eq_nil_of_length_eq_zero h)
  obtain⟨ar,cr,A⟩:=NR.1.sl.isSl;have bk:aq rv=some (.int .i64 (L.length:Int)):=by rw[A];rfl
  have b4:L.length≤2:=by rw[←hL];exact HA _ _ _ _
  have l0:ag .i .eql (.int .i64 (L.length:Int)) (.int .i64 0)=some (.bool false):=by rw[si,decide_eq_false (by omega)]
  obtain⟨p0,c1,c2⟩:=NR.1.sl.int_at (k':=.i64) (i:=0) (show 0<L.length by omega);have c1:aR 1 rv (.int .i64 0)=some p0:=c1;simp only[go_sem,bk,l0,c1,c2];have au:L[0]∈xz C 1 F (1+1):=by rw[hL];exact List.getElem_mem _
  obtain⟨j,hj,ej,U⟩:=GJ.1 au;refine(SB CO (G.ext E6) H2 (by unfold I64;omega) (by omega) ad).mono λr g3 ⟨A,o3,n3,H3,b5,f3⟩=>?_
  rw[U]at A;subst A;have bo:(i:Int)+1=((i+1:Nat):Int):=by omega
  simp only[go_sem];rw[w64 (n:=(i:Int)+1) (by omega) (by omega),bo];exact bg () g3 (by omega) ⟨o3,n3,_,H3,by rw[LC U];omega⟩
 ·have be:i=7:=by omega
  have hF:=H.few;obtain⟨ay,tk,J⟩:=H;have D:=J.rem;have hr:F.ret=true:=by
   cases h:F.ret with
   |true=>rfl
   |false=>
    rw[h,bd,be,st]at D;simp only[Bool.false_eq_true,if_false]at D;omega
  have en:=So CO J hF.2.2.2 (by omega) hr;rw[k1,k2]at en;refine(wA ay).mono λr g2 an=>?_
  rcases an with⟨h0,_⟩|⟨_,p2,A,bn,vn,ep,I2,_,_,e9⟩
  ·rw[hr]at h0;cases h0
  ·subst A ep;have bi:ag .p .neq (ptr bn) (.pointer none)=some (.bool true):=rfl;have aa:=hF.2.2.2.1;rw[en]at I2 aa;simp only[go_sem,bi];refine ae.at (XL I2 aa) ?_;rw[show atP (sq HT (⟨bL vj 1 1,1,1⟩:cK).s) 0 0 0=9 from at22];simp only[go_sem,eqT,decide_true];exact⟨trivial,E6.trans (hF.2.2.1.trans e9)⟩
structure Bg22 (h6:af)(a:qR)(o:OpD)(bf:Nat)(vf sv rv:Value)(Z1:Nat→Prop)(h':af):Prop where
 ok:Lj a o
 ext:Ext h6 h'
 img:cA h' bf vf (dp a)
 nb:h6.size≤bf∧∀c,blk vf c→h6.size≤c
 st:Rp.Sl Bp Z1 h' sv [bgS a o]
 rf:Rp.Sl oZ Z1 h' rv [bgS a o]
 zl:∀c,Z1 c→h6.size≤c∧c<h'.size
theorem XO {D:af}(G:dA D){Z1 Z2:Nat→Prop}{cs os:List Value}{a:qR}{o:OpD}(H:mS.R Z1 D cs a)(WA:a.Wf)(HO:rOp.R Z2 D os o)(WO:Eo [o]){b1 b3:Nat}{t1 t3:TypeId}(r1:D[b1]? =some (.cells cs.toArray t1 (0,0)))(r3:D[b3]? =some (.cells os.toArray t3 (0,0))){Y:Value→Value→Value→Value→af→Prop}
  (Y0:∀bf sv rv h',Ext D h'→¬(kZ 12 [o]∧xB [o] (dp a).w (dp a).h (dp a).c=0)→Y (ptr bf) sv rv (.bool false) h') (Y1:∀bf vf sv rv Z1 h',Bg22 D a o bf vf sv rv Z1 h'→Y (ptr bf) sv rv (.bool true) h'):
  vK (aH 5 D (ptr b1)) λv8=>ae prog dF #[v8] D λv9 F=>vK (aH 9 F (ptr b3)) λax=>
  cF #[(.int .i64 0),(.int .i64 0),(.int .i64 0),(.int .i64 0),(.slice none 0 0),(.slice none 0 0),(.int .i64 0),(.int .i64 0),(.int .i64 0)] 31 1 [(0,9,ax)] F λab au=>
  ae prog gb #[ab,v9] au λI ar=>vK (aF I 0) λaw=>vK (aF I 1) λay=>vK (aF I 2) λa8=>Y v9 aw ay a8 ar:=by
 have lc:=mS.len H;have lo:=rOp.len HO;rw[aI r1 5 lc,ah];refine(Fj (mS.mono H λ_ _ h=>h) WA).mono λpm h7 N7=>?_
 obtain⟨bf,vf,rfl,I7,aa,a9,e7⟩:=N7;rw[aI (e7.row r3) 9 lo,ah];refine cH (Rp.fill_whole (by rfl) lo) λb5 F an W n10=>?_
 have A:=e7.trans W;have al:Rp.Sl rOp (λc=>Z2 c∨c=b5) F (.slice (some ⟨b5,0,none⟩) 1 1) [o]:=by
  refine⟨os,?_,λ_ b hb=>.inr hb,λi hi=>?_⟩
  ·have:=Rp.SlC.single (cs:=os) an;rw[lo]at this;exact this
  ·have:i=0:=by simpa using hi
   subst this;rw[Rp.el_self lo];exact rOp.mono (rOp.ext HO A) λb _ hb=>.inl hb
 refine(PR (G.ext A) al (by simp) WO (I7.ext W) (sb a)).mono λr a7 ⟨L,sv,rv,ok,er,bc,U,hS⟩=>?_
 subst er;have x0:aF (.tuple #[sv,rv,.bool ok]) 0=some sv:=rfl;have x1:aF (.tuple #[sv,rv,.bool ok]) 1=some rv:=rfl;have x2:aF (.tuple #[sv,rv,.bool ok]) 2=some (.bool ok):=rfl;rw[x0,ah,x1,ah,x2,ah];have ad:=A.1;cases hk:ok with
 |false=>exact Y0 _ _ _ _ (A.trans L) λh=>by have:=U.2 h;rw[hk]at this;cases this
 |true=>
  subst hk;obtain⟨T1,T2⟩:=hS rfl;exact Y1 bf vf sv rv _ a7 ⟨bg_ok (U.1 rfl).1 (U.1 rfl).2,A.trans L,I7.ext (W.trans L),⟨aa,a9⟩,T1,T2,λc hc=>⟨Nat.le_trans ad hc.1,hc.2⟩⟩
theorem aL.base {X:Nat→Prop}{C:C21}{Z:Nat→Prop}{K:Nat}{h0 A h:af}{bw:Nat→Nat}{bp:Nat}{o:Nat→Nat}{n:Pic}{V:PV}{P:bR}(H:aL X C Z K h0 bw bp o n V P h)(e:Ext A h0):aL X C Z K A bw bp o n V P h:=
 ⟨H.q,H.c,H.l,H.p,H.w,H.s,H.f,H.e,H.wk,H.ws,H.po,H.set,H.pl,H.zl,H.sui,λc hc=>⟨(H.ow c hc).1,Nat.le_trans e.1 (H.ow c hc).2.1,(H.ow c hc).2.2⟩,e.trans H.ext,H.few⟩
structure Bgn (h:af)(a:qR)(o:OpD)(tw th wk room:Int)(C:C21)(Z:Nat→Prop)(K N:Nat)(bw:Nat→Nat)(bp:Nat)(ow:Nat→Nat)(n:Pic)(P:bR)(Zd:Nat→Prop)(V:DV)(h':af):Prop where
 ok:Lj a o
 O:C.Ok
 cm:C.m=dp a
 cd:C.d=MI a o tw th
 k:(K:Int)=1+wk%5
 nn:(N:Int)=bP C.d∧1≤N∧N≤144∧gS C N 0≤23328
 go:GoP C Z K N h bw bp ow n P h'
 p:P=DA K (1+room%4) (C.m.w*C.m.h*C.m.c) (C.d.X*C.d.Y*C.m.c)
 d:DAt Zd C K N P V h'
 ob:∀c,de (some C.E) c→h.size≤c
 zd:∀c,Zd c→h.size≤c∧c<h'.size∧ow c=0∧¬de (some C.E) c
 ext:Ext h h'
def UN (a:qR)(o:OpD):Prop:=kZ 12 [o]∧xB [o] (dp a).w (dp a).h (dp a).c=0
theorem Xw {h:af}(G:dA h){Z1 Z2:Nat→Prop}{cs L:List Value}{a:qR}{o:OpD}(H:mS.R Z1 h cs a)(WA:a.Wf)(HO:rOp.R Z2 h L o)(WO:Eo [o]):ae prog zT #[.agg cs.toArray,.agg L.toArray] h λr h'=>(¬UN a o→r=.bool false)∧Ext h h':=by
 apply Nd;unfold Dh;simp only[bC];refine aC λb1 h1 r1 e1 n1=>aC λb3 h3 r3 e3 n3=>?_
 have U:=e1.trans e3;have lc:=mS.len H;have lo:=rOp.len HO;have G3:=G.ext U;have r1:=e3.row r1;refine aG (Ext h3) (Ext.refl _) ?_;refine ao (.agg L.toArray) (λk e=>aI (e.row r3) 9 lo) ?_;refine ao (.agg cs.toArray) (λk e=>aI (e.row r1) 5 lc) ?_;have x0:∀a b c:Value,aF (.tuple #[a,b,c]) 0=some a:=λ_ _ _=>rfl
 have x1:∀a b c:Value,aF (.tuple #[a,b,c]) 1=some b:=λ_ _ _=>rfl
 have x2:∀a b c:Value,aF (.tuple #[a,b,c]) 2=some c:=λ_ _ _=>rfl
 have row:∀{g:af} {F:Nat} {t:TypeId},Ext h3 g→g[F]? =some (.cells L.toArray t (0,0))→Rp.Sl rOp (λc=>Z2 c∨c=F) g (.slice (some ⟨F,0,none⟩) 1 1) [o]:=λ{g F t} e r=>by
  refine⟨L,?_,λ_ b hb=>.inr hb,λi hi=>?_⟩
  ·have:=Rp.SlC.single (cs:=L) r;rw[lo]at this;exact this
  ·have:i=0:=by simpa using hi
   subst this;rw[Rp.el_self lo];exact rOp.mono (rOp.ext HO (U.trans e)) λb _ hb=>.inl hb
 have fin:∀{g:af} {bf:Nat} {vf ov:Value} {Y:Nat→Prop},Ext h3 g→cA g bf vf (dp a)→Rp.Sl rOp Y g ov [o]→ae prog gb #[ov,ptr bf] g λv h'=>Ext h3 h'∧(vK (aF v 0) λ_=>vK (aF v 1) λ_=>vK (aF v 2) λr=>(¬UN a o→r=.bool false)∧Ext h h'):=λ{g bf vf ov Y} e I S=>by
  refine(PR (G3.ext e) S (by simp) WO I (sb a)).mono λr an ⟨W,sv,rv,ok,er,al,ab,hS⟩=>?_
  subst er;refine⟨e.trans W,?_⟩;rw[x0,ah,x1,ah,x2,ah];refine⟨λhn=>?_,U.trans (e.trans W)⟩;cases hk:ok with
  |false=>rfl
  |true=>exact absurd (ab.1 hk) hn
 refine⟨?_,?_⟩
 ·refine cH (Rp.fill_whole (by rfl) lo) λF g5 r5 A n5=>⟨A,?_⟩
  refine(Fj (mS.mono (mS.ext H (U.trans A)) λ_ _ h=>h) WA).mono λpm h7 N7=>?_
  obtain⟨bf,vf,rfl,I7,aa,ad,D⟩:=N7;exact⟨A.trans D,fin (A.trans D) I7 (row (A.trans D) (D.row r5))⟩
 ·refine(Fj (mS.mono (mS.ext H U) λ_ _ h=>h) WA).mono λpm h7 N7=>?_
  obtain⟨bf,vf,rfl,I7,aa,ad,D⟩:=N7;refine⟨D,?_⟩;refine cH (Rp.fill_whole (by rfl) lo) λF g5 r5 A n5=>⟨D.trans A,?_⟩
  exact fin (D.trans A) (I7.ext A) (row (D.trans A) r5)
theorem T0 {h:af}(G:dA h){cs os:List Value}{a:qR}{o:OpD}{Z1 Z2:Nat→Prop}(H:mS.R Z1 h cs a)(WA:a.Wf)(HO:rOp.R Z2 h os o)(WO:Eo [o]){tw th wk room:Int}(h1:B8 tw)(h2:B8 th)(h3:B8 wk)(h4:B8 room):
  ae prog uB #[.agg cs.toArray,.agg os.toArray,.int .u8 tw,.int .u8 th,.int .u8 wk,.int .u8 room] h λr h'=>
   (¬UN a o∧Ext h h'∧∃bf,∃u:List Value,r=.tuple #[ptr bf,.pointer none,.agg u.toArray,.bool false]∧u.length=20∧∀v∈u,aJ v=true)∨
   ∃C Z K N bw bp ow n P Zd V,r=.tuple #[ptr C.bf,ptr bp,.agg (dpC C P V).toArray,.bool true]∧Bgn h a o tw th wk room C Z K N bw bp ow n P Zd V h':=by
 apply Iw;unfold yi;simp only[bC];refine aC λb1 g1 r1 e1 n1=>aC λb3 g3 r3 e3 n3=>aC λU g5 r5 e5 n5=>?_
 have k5:=aU r5;have s1:=e1.1;have s3:=e3.1;have E5:=e1.trans (e3.trans e5);have s5:=E5.1;refine XO (G.ext E5) (mS.ext H E5) WA (rOp.ext HO E5) WO ((e3.trans e5).row r1) (e5.row r3) (λbf sv rv h' e hn=>?_) (λbf vf sv rv Z1 h7 B=>?_)
 ·have hf:aE aD []=some aD.toList.toArray:=by rfl
  have on:∀v∈aD.toList,aJ v=true:=by decide
  simp only[go_sem];rw[hf,bA,ah];refine ce (e.row r5) (by rfl) on (by rfl) λg9 r9 u9=>?_
  rw[aI r9 20 (by rfl),ah];exact .inl ⟨hn,(E5.trans e).upd (by omega) u9,bf,_,rfl,by rfl,on⟩
 have nt:unV .not (.bool true)=some (.bool false):=rfl;rw[nt,ah,cf];refine RT h1 (by omega) ?_;refine RT h2 (by omega) ?_;refine RT h3 (by omega) ?_;refine RT h4 (by omega) ?_;have hw:=h1;have hh:=h2;unfold B8 at h1 h2 h3 h4;obtain⟨K,hK⟩:∃K:Nat,1+wk%5=(K:Int):=⟨(1+wk%5).toNat,by omega⟩
 rw[hK];obtain⟨p,q,bs,bo,q1,k0,bc,ax,bd,hp,hq⟩:=Wl B.st;obtain⟨sp,w1,w2⟩:=ax.atw (show 0<3 by omega) (k:=.i64) (i:=0) (by omega);have w1:aR 3 sv (.int .i64 0)=some sp:=w1;have w2:aH 3 h7 sp=some (.agg #[p,q,.int .i64 (bgS a o).border]):=w2;rw[w1,ah,w2,ah];have sd:dP (1+tw%13)∧dP (1+th%13):=by unfold dP;omega
 have zb:∀c,c<h7.size→Z1 c→g5.size≤c∧c<h7.size:=λc hc hz=>⟨(B.zl c hz).1,hc⟩
 refine(Mg (wk:=(K:Int)) (Z0:=λc=>g5.size≤c∧c<h7.size) (G.ext (E5.trans B.ext)) B.img (sb a) ⟨p,q,rfl,hp.mono zb,hq.mono zb⟩ B.ok.stg B.ok.suits.1 ⟨⟨B.nb.1,B.img.lt⟩,λc hc=>⟨B.nb.2 c hc,B.img.ltv hc⟩⟩ (λc hc=>hc.2) B.ok.imgc).mono λr h8 ⟨_,_,f3⟩=>?_
 obtain⟨bp,C,Z,bw,ow,er,y1,y2,y3,CO,HP,L,e8,ar,nz,bg⟩:=f3 sd K rfl (by omega);subst er;have x0:∀a b:Value,aF (.tuple #[a,b]) 0=some a:=λ_ _=>rfl
 have x1:∀a b:Value,aF (.tuple #[a,b]) 1=some b:=λ_ _=>rfl
 have a9:ag .i .neq (.int .i64 0) (.int .i64 0)=some (.bool false):=rfl;rw[x0,ah,x1,ah,a9,ah,cf];obtain⟨rp,ab,w3,w4,w5⟩:=(B.rf.ext e8).atw (show 0<5 by omega) (k:=.i64) (i:=0) (by simp);have w3:aR 5 rv (.int .i64 0)=some rp:=w3;have w4:aH 5 h8 rp=some (.agg ab.toArray):=w4;have w5:oZ.R Z1 h8 ab (bgS a o):=w5;refine aG (Ext h8) (Ext.refl _) ?_;rw[w3,ah];refine ao (.agg ab.toArray) (λk e=>e.lds w4) ?_;refine ae.at (dC (B.img.ext e8)) ⟨Ext.refl _,?_⟩;have I:C.d=MI a o tw th:=y2;obtain⟨N,hN,N1,N2,an⟩:=Y7 (C:=C) B.ok hw.1 hh.1 I;have al:C.d.s=bgS a o:=by rw[I]
 have few:∀x∈C.d.s.x.lines++C.d.s.y.lines,x.2.length≤1073741824:=λx hx=>by
  rcases List.mem_append.1 hx with h|h
  ·have:=(CO.s.wf.x.taps x h).1;omega
  ·have:=(CO.s.wf.y.taps x h).1;omega
 have hX:1≤C.d.X:=by rw[I];show 1≤((bgS a o).x.lines.length:Int);have:=B.ok.sx;omega
 have hY:1≤C.d.Y:=by rw[I];show 1≤((bgS a o).y.lines.length:Int);have:=B.ok.sy;omega
 have a8:lG C.m C.d.s:=by rw[y1,al];exact B.ok.suits.1
 obtain⟨z1,z2,_⟩:=a8;have mw:=(sb a).fits;have A:=cq mw;have F:=cq B.ok.fit;have A:0≤C.d.s.x.n*C.d.s.y.n∧C.d.s.x.n*C.d.s.y.n≤4294967296∧0≤C.d.s.x.n*C.d.s.y.n*C.m.c∧C.d.s.x.n*C.d.s.y.n*C.m.c≤268435456:=by
  rw[z1,z2,y1];exact⟨A.2.2.2.2.2.2.1,A.2.2.2.2.2.2.2.1,A.2.2.2.2.2.2.2.2.1,A.2.2.2.2.2.2.2.2.2⟩
 have F:0≤C.d.X*C.d.Y∧C.d.X*C.d.Y≤4294967296∧0≤C.d.X*C.d.Y*C.m.c∧C.d.X*C.d.Y*C.m.c≤268435456:=by
  rw[I,y1];exact⟨F.2.2.2.2.2.2.1,F.2.2.2.2.2.2.2.1,F.2.2.2.2.2.2.2.2.1,F.2.2.2.2.2.2.2.2.2⟩
 have ea:(.int .i64 (dp a).c:Value)=.int .i64 C.m.c∧(.int .i64 (1+tw%13):Value)=.int .i64 C.d.w∧(.int .i64 (1+th%13):Value)=.int .i64 C.d.h:=by rw[y1,I];exact⟨rfl,rfl,rfl⟩
 rw[ea.1,ea.2.1,ea.2.2];rw[←al]at w5;have s8:=e8.1;have sB:=B.ext.1;refine(Vz (room:=1+room%4) w5 (λc hc=>Nat.lt_of_lt_of_le (B.zl c hc).2 s8) CO hN (by omega) hX hY few (by omega) ⟨A.2.2.1,by omega⟩ ⟨F.2.2.1,by omega⟩ ⟨A.1,by omega⟩ ⟨F.1,by omega⟩).mono λr h9 ⟨Zd,V,er,D,zd,e9⟩=>?_
 subst er;have s9:=e9.1;refine ce ((B.ext.trans (e8.trans e9)).row r5) (by rfl) D.ones (by rfl) λbe ay W=>?_
 rw[aI ay 20 (by rfl),ah];right;have eP:DA K (1+room%4) (C.d.s.x.n*C.d.s.y.n*C.m.c) (C.d.X*C.d.Y*C.m.c)=DA K (1+room%4) (C.m.w*C.m.h*C.m.c) (C.d.X*C.d.Y*C.m.c):=by rw[z1,z2]
 rw[eP]at D ⊢;have eQ:DA K (1+room%4) ((dp a).w*(dp a).h*(dp a).c) (((bgS a o).x.lines.length:Int)*(bgS a o).y.lines.length*(dp a).c)=DA K (1+room%4) (C.m.w*C.m.h*C.m.c) (C.d.X*C.d.Y*C.m.c):=by rw[y1,I];rfl
 rw[eQ]at HP;have a7:=HP;obtain⟨V8,ad⟩:=a7;have au:∀c,de (some C.E) c→c<h8.size:=λc hc=>ad.set.out.ltv hc
 have bk:U<g5.size:=k5;have bi:g3.size≤U:=n5;have u0:ow U=0:=by
  by_cases h:ow U=0
  ·exact h
  ·have:=ar U h;omega
 have aw:=((ad.ex e9).base (E5.trans B.ext)).loc W ⟨u0,by omega,λhz=>by rcases nz U hz with h|h<;>omega,by show U≠C.bt;omega,λhb=>by have:=L U hb;omega⟩;have E9:=E5.trans (B.ext.trans (e8.trans e9));have aa:∀c,Zd c→g5.size≤c∧c<h9.size∧ow c=0∧¬de (some C.E) c:=λc hc=>by
  obtain⟨h1,h2⟩:=zd c hc;have q:g5.size≤c∧(c<h7.size∨h8.size≤c):=by
   rcases h1 with h1|h1
   ·exact⟨(B.zl c h1).1,.inl (B.zl c h1).2⟩
   ·exact⟨by omega,.inr h1⟩
  refine⟨q.1,h2,?_,λhb=>?_⟩
  ·by_cases h:ow c=0
   ·exact h
   ·have h3:=ar c h;have h4:=(ad.ow c h).1;omega
  ·have h3:=L c hb;have h4:=au c hb;omega
 exact⟨C,Z,K,N,bw,bp,ow,_,_,Zd,V,by rw[y3],⟨B.ok,CO,y1,y2,hK.symm,⟨hN,N1,N2,an⟩,⟨⟨V8,aw⟩,0,LB hN⟩,rfl,D.fr W.fr λc _ hc h=>by have:=(aa c hc).1;have h:c=U:=h;omega,λc hc=>by have:=L c hc;omega,λc hc=>⟨by have:=(aa c hc).1;omega,by rw[W.1];exact(aa c hc).2.1,(aa c hc).2.2⟩,E9.upd (by omega) W⟩⟩
section
theorem Vg {C:C21}{K N tk:Nat}{P:bR}{n:Pic}(H:jQ C K N tk P n)(D:P.ret=true)(i:Int):gQ C K P i=false:=by
 obtain⟨h1,G⟩:=H.rt D;have F:=H.cnt;have A:=Pl (K:=K) (ws:=P.ws) (by omega);unfold gQ;split
 ·rfl
 split
 ·have:=A (i-1).toNat (by omega);rw[decide_eq_false];omega
 ·simp[D]
theorem Vh {C:C21}{K N tk:Nat}{P:bR}{n:Pic}(H:jQ C K N tk P n)(A:P.ret=true)(k:Nat):xz C K P k=[]:=by
 cases e:xz C K P k with
 |nil=>rfl
 |cons x l=>
  have:x∈xz C K P k:=by rw[e];simp
  obtain⟨_,_,_,h⟩:=GJ.1 this;rw[Vg H A]at h;cases h
section
variable {h:af}{a:qR}{o:OpD}{tw th wk room:Int}{C:C21}{Z:Nat→Prop}{K N:Nat}{bw:Nat→Nat}{bp:Nat}{ow:Nat→Nat}{n:Pic}{P:bR}{Zd:Nat→Prop}{V:DV}{h':af}
theorem Bgn.lt (B:Bgn h a o tw th wk room C Z K N bw bp ow n P Zd V h'):(∀c,ow c≠0→h.size≤c∧c<h'.size)∧∀c,de (some C.E) c→h.size≤c∧c<h'.size:=by
 obtain⟨⟨D,A⟩,_⟩:=B.go;exact⟨λc hc=>⟨(A.ow c hc).2.1,(A.ow c hc).1⟩,λc hc=>⟨B.ob c hc,A.set.out.ltv hc⟩⟩
theorem Bgn.few (B:Bgn h a o tw th wk room C Z K N bw bp ow n P Zd V h')(A:B8 wk):1≤K∧K≤5∧2*N+K+2+gS C N 0≤190000:=by
 have:=B.k;obtain⟨_,_,D,F⟩:=B.nn;unfold B8 at A;have:0≤wk%5∧wk%5<5:=⟨Int.emod_nonneg _ (by omega),Int.emod_lt_of_pos _ (by omega)⟩
 omega
end
theorem Li {h:af}(G:dA h){cs os:List Value}{a:qR}{o:OpD}{Z1 Z2 Z3:Nat→Prop}(H:mS.R Z1 h cs a)(WA:a.Wf)(HO:rOp.R Z2 h os o)(WO:Eo [o]){tw th wk room:Int}(h1:B8 tw)(h2:B8 th)(h3:B8 wk)(h4:B8 room){dv:Value}{l:List Int}(HD:Rp.Sl (Rp.int .u8) Z3 h dv l)(h8:∀x∈l,B8 x)(hl:l.length≤1000000000000000):
  ae prog ki #[.agg cs.toArray,.agg os.toArray,.int .u8 tw,.int .u8 th,.int .u8 wk,.int .u8 room,dv] h λr h'=>r=.bool true∧Ext h h':=by
 apply yW;unfold oU;simp only[bC];refine aC λb1 g1 r1 e1 n1=>aC λb3 g3 r3 e3 n3=>?_
 have E3:=e1.trans e3;have lc:=mS.len H;have lo:=rOp.len HO;refine ae.to (JT (G.ext E3)) λh6 e6=>?_
 have E6:=E3.trans e6;obtain⟨av,cv,ev⟩:=HD.isSl;have cw:aq dv=some (.int .i64 (l.length:Int)):=by rw[ev];rfl
 simp only[go_sem,cw];refine aj (λg=>?_) (λg=>?_)
 ·refine ae.to (JT (G.ext E6)) λh7 e7=>?_
  exact⟨rfl,E6.trans e7⟩
 rw[aI ((e3.trans e6).row r1) 5 lc,ah,aI (e6.row r3) 9 lo,ah];have x0:∀a b c d:Value,aF (.tuple #[a,b,c,d]) 0=some a:=λ_ _ _ _=>rfl
 have x1:∀a b c d:Value,aF (.tuple #[a,b,c,d]) 1=some b:=λ_ _ _ _=>rfl
 have x2:∀a b c d:Value,aF (.tuple #[a,b,c,d]) 2=some c:=λ_ _ _ _=>rfl
 have x3:∀a b c d:Value,aF (.tuple #[a,b,c,d]) 3=some d:=λ_ _ _ _=>rfl
 have nt:unV .not (.bool true)=some (.bool false):=rfl;have nf:unV .not (.bool false)=some (.bool true):=rfl;refine(T0 (G.ext E6) (mS.ext H E6) WA (rOp.ext HO E6) WO h1 h2 h3 h4).mono λr h9 hB=>?_
 rcases hB with⟨hn,e9,bf,u,A,lu,ou⟩|⟨C,Z,K,N,bw,bp,ow,n,P,Zd,V,A,B⟩
 ·subst A;rw[x0,ah,x1,ah,x2,ah,x3,ah];refine aC λbv dl bc bd n10=>?_
  refine ce bc lu ou lu λaa bg a9=>?_
  have W:Ext h6 aa:=(e9.trans bd).upd (by have:=e9.1;omega) a9;rw[nf,ah,fP];rw[aI (W.row ((e3.trans e6).row r1)) 5 lc,ah,aI (W.row (e6.row r3)) 9 lo,ah];refine(Xw (G.ext (E6.trans W)) (mS.ext H (E6.trans W)) WA (rOp.ext HO (E6.trans W)) WO).mono λr e4 ⟨A,ad⟩=>?_
  rw[A hn,nf,ah];exact⟨rfl,E6.trans (W.trans ad)⟩
 subst A;obtain⟨b5,cc⟩:=B.lt;obtain⟨K1,K5,few⟩:=B.few h3;obtain⟨hN,N1,N2,hs⟩:=B.nn;have O:=B.O;rw[x0,ah,x1,ah,x2,ah,x3,ah];refine aC λbv dl bc bd n10=>?_
 refine ce bc (by rfl) B.d.ones (by rfl) λaa bg a9=>?_
 have al:Ext h9 aa:=bd.upd n10 a9;have W:Ext h6 aa:=B.ext.trans al;have GO:=B.go.ext al;have pn:ag .p .eql (ptr bp) (.pointer none)=some (.bool false):=rfl;rw[nt,ah,cf,pn,ah,cf];obtain⟨V8,PB⟩:=GO.1;refine(NC PB.set.src O.m).mono λr c4 ⟨ps,A,HP,ad⟩=>?_
 subst A;have lp:=ug.len HP;refine aC λdq e0 cp a7 c6=>?_
 refine ce cp (by rw[lp];rfl) (ug.one HP) lp λc1 c0 b0=>?_
 have an:Ext aa c1:=(ad.trans a7).upd (by have:=ad.1;omega) b0;have be:=GO.ext an;refine(wA be.1).mono λr ez hR=>?_
 have bo:P.ret=false:=by rw[B.p];rfl
 rcases hR with⟨_,A,rfl⟩|⟨h',_⟩
 rotate_left
 ·rw[bo]at h';cases h'
 subst A;have y0:∀a b:Value,aF (.tuple #[a,b]) 0=some a:=λ_ _=>rfl
 have y1:∀a b:Value,aF (.tuple #[a,b]) 1=some b:=λ_ _=>rfl
 rw[y0,ah,y1,ah,cf];refine(Gc O be.1 hN (by omega) (by omega)).mono λr fe ⟨A,ab⟩=>?_
 subst A;have dz:=be.ext ab;refine(Xy O (G.ext E6) dz (by omega) B.ob (HD.ext E6) h8 (by omega)).mono λr c9 ⟨A,o',n',P',cu,F,oo,f17⟩=>?_
 subst A;obtain⟨ax,tk,I⟩:=cu;have su:=(show GoP C Z K N h6 bw bp o' n' P' c9 from⟨ax,tk,I⟩).few.2.2.2;have ct:=(Ns O I su K1 F).2.1;have U:=So O I su K1 F;rw[nt,ah,rY,ah,Jx];refine(PQ ax).mono λr ca ⟨A,eg⟩=>?_
 subst A eg;have nk:∀k:Int,ag .i .neq (.int .i64 k) (.int .i64 k)=some (.bool false):=λk=>by simp only[go_sem]
 rw[rY,ah,rY,ct,nk,ah,yK,ah,rY,ah,Jx];refine(zw O ax).mono λr e2 NR=>?_
 rw[Vh I F]at NR;obtain⟨ar,cr,err⟩:=NR.isSl;have eb:aq r=some (.int .i64 0):=by rw[err];rfl
 have ee:ag .i .neq (.int .i64 0) (.int .i64 0)=some (.bool false):=rfl;rw[rY,eb,ah,rY,ee,ah,yK,ah,cf];have b8:=ax.ext NR.2.1;refine(wA b8).mono λr aw hR=>?_
 rcases hR with⟨h',_⟩|⟨_,p,A,NI⟩
 ·rw[F]at h';cases h'
 subst A;obtain⟨bi,eu,ep,II,ey,fc,bk⟩:=NI;subst ep;rw[y0,ah,y1,ah];have ec:ag .p .neq (ptr bi) (.pointer none)=some (.bool true):=rfl;have a8:∀c,h9.size≤c→¬(ow c≠0∨de (some C.E) c):=λc hc h=>h.elim (λh=>by have:=(b5 c h).2;omega) λh=>by have:=(cc c h).2;omega
 have s9:=al.1;have ej:=ad.1;have ei:=a7.1;have D:Ext ca aw:=NR.2.1.trans bk;have b4:=D.row (f17.row (ab.row c0) (a8 dq (by omega)));have c8:=D.row (f17.row (ab.row (an.row bg)) (a8 bv n10));have b7:ug.R (dJ aa c4) aw ps C.m:=ug.ext (ug.fr (ug.ext (ug.ext HP (a7.upd c6 b0)) ab) f17 λc _ hc=>a8 c (by have:=hc.1;omega)) D;have pw:=O.m.fits;have e5:=cq pw;have b2:gu C.d.s.x.lines.length C.d.s.y.lines.length C.m.c:=by
  rw[B.cm,B.cd];exact B.ok.fit
 obtain⟨V9,c2⟩:=b8;have cb:=((B.d.ext (al.trans (an.trans ab))).fr f17 λc _ hc h=>h.elim (λh=>h (B.zd c hc).2.2.1) (B.zd c hc).2.2.2).ext D;have KS:oZ.R Zd aw [V.X,V.Y,.int .i64 C.d.s.x.n,.int .i64 C.d.s.y.n,.int .i64 C.d.s.border] C.d.s:=⟨V.X,V.Y,rfl,cb.x,cb.y⟩
 refine aG (Ext aw) (Ext.refl _) ?_;simp only[go_sem,ec];refine ao (.agg ps.toArray) (λk e=>aI (e.row b4) 5 lp) ?_
 try simp only[go_sem]
 refine ao (.agg [V.X,V.Y,.int .i64 C.d.s.x.n,.int .i64 C.d.s.y.n,.int .i64 C.d.s.border].toArray) (λk e=>D0 (e.row c8) 0 5 _ rfl rfl) ?_
 try simp only[go_sem]
 refine(NC II su.1).mono λr ek ⟨qs,A,HQ,au⟩=>⟨au,?_⟩
 subst A
 try simp only[go_sem]
 refine(Rt (ug.ext b7 au) O.m (oZ.ext KS au) O.s.wf b2).mono λr eh ⟨es,A,HE,b6⟩=>?_
 subst A;refine aG (Ext eh) (Ext.refl _) ?_
 try simp only[go_sem]
 have nl:n'.l.length≤1000000000:=by
  have:=su.1.len;have:=cq su.1.fits;omega
 refine(Mk (ug.ext HQ b6) HE nl (by rw[U]) (by rw[U]) (by rw[U]) (by rw[U])).mono λr c7 ⟨A,c3⟩=>?_
 rw[decide_eq_true (by rw[←U])]at A;subst A;refine aG (Ext c7) (Ext.refl _) ?_;simp only[go_sem];have L:=au.trans (b6.trans c3);refine ao (.agg ps.toArray) (λk e=>aI (e.row (L.row b4)) 5 lp) ?_
 try simp only[go_sem]
 refine(NC (c2.set.src.ext (bk.trans L)) O.m).mono λr e8 ⟨et,A,ci,ay⟩=>⟨ay,?_⟩
 subst A
 try simp only[go_sem]
 have ml:C.m.l.length≤1000000000:=by
  have:=O.m.len;omega
 refine(Mk ci (ug.ext b7 (L.trans ay)) ml rfl rfl rfl rfl).mono λr ew ⟨A,ea⟩=>?_
 rw[decide_eq_true rfl]at A;subst A
 try simp only[go_sem]
 have EF:Ext h ca:=(E6.trans (W.trans (an.trans ab))).then_fr f17 λc hc=>by
  have fa:=E6.1;rcases hc with hc|hc
  ·have:=(b5 c hc).1;omega
  ·have:=(cc c hc).1;omega
 exact⟨trivial,EF.trans (D.trans (L.trans (ay.trans ea)))⟩
end
end Go.Proofs.YtcoimlclclnlkaaGreatDoor
namespace Go.Proofs.YtcoimlclclnlkaaGreatDoor
open Go Go.Crisp
open _root_.Go.Proofs.Tryz
theorem r_PoolReturns {L:List (String×DataW Unit)}(l:RN L)(h:af)(args:Array Value)(H:zG prog L h)(R:sK [.st SY,.st tOp,.int .u8,.int .u8,.int .u8,.int .u8,.sl (.int .u8) 1] h args.toList):
  ae prog ki args h λr h'=>r=.bool true∧Ext h h':=by
 obtain⟨cs,os,a,o,r0,e0,A,R⟩:=Uc R;obtain⟨x,r1,U,hx,R⟩:=RU R;obtain⟨y,r2,e2,D,R⟩:=RU R;obtain⟨z,r3,I,G,R⟩:=RU R;obtain⟨u,r4,F,hu,R⟩:=RU R;obtain⟨v,k,r5,W,S,h8,hk,R⟩:=Uj R;obtain rfl:r5=[]:=R;subst W F I e2 U;obtain rfl:args=#[.agg cs.toArray,.agg os.toArray,.int .u8 x,.int .u8 y,.int .u8 z,.int .u8 u,v]:=by cases args;simp_all
 obtain⟨⟨_,h1⟩,h2,⟨_,h3⟩,h4⟩:=A;exact Li (l.glob H) h1 h2 h3 h4 hx D G hu S h8 hk
end Go.Proofs.YtcoimlclclnlkaaGreatDoor
