/- Several texts of this session, one behind the other, without what this claim does not need (put together by its program pack.py). Conditions: none. -/
import Derived.Test.YtcoimlclclnlkaaGreatDoorMk3
import Derived.MapKept
import Derived.Test.YtcoimlclclnlkaaGreatDoorProg
import Derived.Shelf.SlIterI.Sorted
import Derived.Shelf.Slices.Delete
set_option linter.unusedVariables false
set_option linter.unusedSimpArgs false
set_option maxRecDepth 100000
namespace Go.Proofs.YtcoimlclclnlkaaGreatDoor
open Go Go.Crisp
attribute [local irreducible] FCall rowK newK stK iteK vK qK drawK gK joinK loopK mkK appK cpyK zmY zkN bsK clK
open _root_.Go.Proofs.Tryz
abbrev LV:Type:=Option (Nat×Option Bool)
abbrev zeroL:Array Value:=#[.int .i64 0,.slice none 0 0]
def lvAt (h:Heap)(Lx Ly:Int×List Int)(ux uy:Option Value)(b:Nat):Option Bool→Prop
 |none=>h[b]? =some (.cells zeroL 235 (0,0))
 |some true=>∃u,ux=some u∧Two h b 235 (.int .i64 Lx.1) u
 |some false=>∃u,uy=some u∧Two h b 235 (.int .i64 Ly.1) u
theorem lvAt.row {h:Heap}{Lx Ly:Int×List Int}{ux uy:Option Value}{b:Nat}:∀{s:Option Bool},lvAt h Lx Ly ux uy b s→b<h.size
 |none,H=>zau H
 |some true,⟨u,_,r⟩=>zau r
 |some false,⟨u,_,r⟩=>zau r
theorem lvAt.up {h h':Heap}{Lx Ly:Int×List Int}{ux uy ux' uy':Option Value}{b:Nat}(e:h'[b]? =h[b]?)(kx:∀u,ux=some u→ux'=some u)(ky:∀u,uy=some u→uy'=some u):∀{s:Option Bool},lvAt h Lx Ly ux uy b s→lvAt h' Lx Ly ux' uy' b s
 |none,H=>by show h'[b]? =_;rw[e];exact H
 |some true,⟨u,hu,r⟩=>⟨u,kx u hu,by show h'[b]? =_;rw[e];exact r⟩
 |some false,⟨u,hu,r⟩=>⟨u,ky u hu,by show h'[b]? =_;rw[e];exact r⟩
def apart (v1 v2:LV)(c:Nat):Prop:=(∀p,v1=some p→p.1≠c)∧(∀p,v2=some p→p.1≠c)
structure LnMk (h0:Heap)(Lx Ly:Int×List Int)(ux uy:Option Value)(v1 v2:LV)(h:Heap):Prop where
 ext:Ext h0 h
 lx:∀u,ux=some u→SlI (apart v1 v2) h u Lx.2
 ly:∀u,uy=some u→SlI (apart v1 v2) h u Ly.2
 at1:∀p,v1=some p→h0.size≤p.1∧lvAt h Lx Ly ux uy p.1 p.2
 at2:∀p,v2=some p→h0.size≤p.1∧lvAt h Lx Ly ux uy p.1 p.2
 dis:∀p q,v1=some p→v2=some q→p.1≠q.1
theorem LnMk.start (h:Heap)(Lx Ly:Int×List Int):LnMk h Lx Ly none none none none h:=⟨Ext.refl _,by simp,by simp,by simp,by simp,by simp⟩
theorem LnMk.line_x {h0 h:Heap}{uy:Option Value}{v1 v2:LV}{Ly:Int×List Int}{Z:Nat→Prop}{p:Value}{t:Tbl}{x:Int}{K:Value→Heap→Prop}(M:LnMk h0 (lineT t x) Ly none uy v1 v2 h)(T:IsTbl Z h0 p t)(W:t.Wf)
  (H:∀u h',LnMk h0 (lineT t x) Ly (some u) uy v1 v2 h'→K (.agg #[.int .i64 (lineT t x).1,u]) h'):FCall prog zaj #[p,.int .i64 x] h K:=by
 refine(zpD (T.ext M.ext) W (i:=x)).mono fun r h' ⟨u,e,S,E⟩=>?_
 subst e
 have hv:∀(v:LV),(∀p,v=some p→h0.size≤p.1∧lvAt h (lineT t x) Ly none uy p.1 p.2)→∀p,v=some p→h0.size≤p.1∧lvAt h' (lineT t x) Ly (some u) uy p.1 p.2:=fun v a p hp=>
  ⟨(a p hp).1,(a p hp).2.up (E.2 _ (a p hp).2.row) (by simp) fun _=>id⟩
 refine H u h' ⟨M.ext.trans E,fun w hw=>?_,fun w hw=>(M.ly w hw).ext E,hv _ M.at1,hv _ M.at2,M.dis⟩
 cases hw
 refine S.mono fun c _ hz=>⟨fun p hp he=>?_,fun p hp he=>?_⟩
 ·have:=(M.at1 p hp).2.row;omega
 ·have:=(M.at2 p hp).2.row;omega
theorem LnMk.line_y {h0 h:Heap}{ux:Option Value}{v1 v2:LV}{Lx:Int×List Int}{Z:Nat→Prop}{p:Value}{t:Tbl}{x:Int}{K:Value→Heap→Prop}(M:LnMk h0 Lx (lineT t x) ux none v1 v2 h)(T:IsTbl Z h0 p t)(W:t.Wf)
  (H:∀u h',LnMk h0 Lx (lineT t x) ux (some u) v1 v2 h'→K (.agg #[.int .i64 (lineT t x).1,u]) h'):FCall prog zaj #[p,.int .i64 x] h K:=by
 refine(zpD (T.ext M.ext) W (i:=x)).mono fun r h' ⟨u,e,S,E⟩=>?_
 subst e
 have hv:∀(v:LV),(∀p,v=some p→h0.size≤p.1∧lvAt h Lx (lineT t x) ux none p.1 p.2)→∀p,v=some p→h0.size≤p.1∧lvAt h' Lx (lineT t x) ux (some u) p.1 p.2:=fun v a p hp=>
  ⟨(a p hp).1,(a p hp).2.up (E.2 _ (a p hp).2.row) (fun _=>id) (by simp)⟩
 refine H u h' ⟨M.ext.trans E,fun w hw=>(M.lx w hw).ext E,fun w hw=>?_,hv _ M.at1,hv _ M.at2,M.dis⟩
 cases hw
 refine S.mono fun c _ hz=>⟨fun p hp he=>?_,fun p hp he=>?_⟩
 ·have:=(M.at1 p hp).2.row;omega
 ·have:=(M.at2 p hp).2.row;omega
theorem LnMk.new_1 {h0 h:Heap}{Lx Ly:Int×List Int}{ux uy:Option Value}{K:Value→Heap→Prop}(M:LnMk h0 Lx Ly ux uy none none h)
  (H:∀b h',LnMk h0 Lx Ly ux uy (some (b,none)) none h'→K (ptr b) h'):newK zeroL 235 h K:=by
 refine zah fun b h' r e n=>H b h' ⟨M.ext.trans e,fun u hu=>?_,fun u hu=>?_,fun p hp=>?_,by simp,by simp⟩
 ·exact((M.lx u hu).mono (Z':=apart (some (b,none)) none) fun c hc _=>⟨fun p hp=>by cases hp;show b≠c;omega,by simp⟩).ext e
 ·exact((M.ly u hu).mono (Z':=apart (some (b,none)) none) fun c hc _=>⟨fun p hp=>by cases hp;show b≠c;omega,by simp⟩).ext e
 ·cases hp;exact⟨Nat.le_trans M.ext.1 n,r⟩
theorem LnMk.new_2 {h0 h:Heap}{Lx Ly:Int×List Int}{ux uy:Option Value}{a:Nat}{K:Value→Heap→Prop}(M:LnMk h0 Lx Ly ux uy (some (a,none)) none h)
  (H:∀b h',LnMk h0 Lx Ly ux uy (some (a,none)) (some (b,none)) h'→K (ptr b) h'):newK zeroL 235 h K:=by
 have a1:=M.at1 _ rfl
 have al:a<h.size:=a1.2.row
 refine zah fun b h' r e n=>H b h' ⟨M.ext.trans e,fun u hu=>?_,fun u hu=>?_,fun p hp=>?_,fun p hp=>?_,fun p q hp hq=>?_⟩
 ·exact((M.lx u hu).mono (Z':=apart (some (a,none)) (some (b,none))) fun c hc hz=>⟨hz.1,fun p hp=>by cases hp;show b≠c;omega⟩).ext e
 ·exact((M.ly u hu).mono (Z':=apart (some (a,none)) (some (b,none))) fun c hc hz=>⟨hz.1,fun p hp=>by cases hp;show b≠c;omega⟩).ext e
 ·cases hp;exact⟨a1.1,a1.2.up (e.2 _ al) (fun _=>id) fun _=>id⟩
 ·cases hp;exact⟨Nat.le_trans M.ext.1 n,r⟩
 ·cases hp;cases hq;show a≠b;omega
theorem LnMk.st {h0 h:Heap}{Lx Ly:Int×List Int}{ux uy:Option Value}{v1 v2 v1' v2':LV}{b:Nat}{f:Bool}{l:List Value}{K:Value→Heap→Prop}(M:LnMk h0 Lx Ly ux uy v1 v2 h)(hr:h[b]? =some (.cells zeroL 235 (0,0)))(hn:h0.size≤b)
  (hl:l.length=2) (ho:∀v∈l,zar v=true) (hf:∀h',h'[b]? =some (.cells l.toArray 235 (0,0))→lvAt h' Lx Ly ux uy b (some f))
  (h1:(v1=some (b,none)∧v1'=some (b,some f)∧v2'=v2∧∀q,v2=some q→q.1≠b)∨(v2=some (b,none)∧v2'=some (b,some f)∧v1'=v1∧∀q,v1=some q→q.1≠b))
  (H:∀h',LnMk h0 Lx Ly ux uy v1' v2' h'→K undef h'):stK 2 (ptr b) (.agg l.toArray) h K:=by
 refine zaP hr (by rw[hl];rfl) ho hl fun h' r u=>H h' ?_
 have E:=M.ext.upd hn u
 have keep:∀{v:LV},(∀p,v=some p→h0.size≤p.1∧lvAt h Lx Ly ux uy p.1 p.2)→(∀q,v=some q→q.1≠b)→∀p,v=some p→h0.size≤p.1∧lvAt h' Lx Ly ux uy p.1 p.2:=fun a d p hp=>⟨(a p hp).1,(a p hp).2.up (u.2 _ (d p hp)) (fun _=>id) fun _=>id⟩
 rcases h1 with⟨rfl,rfl,rfl,d⟩|⟨rfl,rfl,rfl,d⟩
 ·have za:∀c,apart (some (b,none)) v2' c→¬c=b:=fun c hc he=>hc.1 _ rfl he.symm
  have zb:∀c,apart (some (b,none)) v2' c→apart (some (b,some f)) v2' c:=fun c hc=>⟨fun p hp=>by cases hp;exact hc.1 (b,none) rfl,hc.2⟩
  refine⟨E,fun w hw=>((M.lx w hw).fr u.fr fun c _=>za c).mono fun c _=>zb c,fun w hw=>((M.ly w hw).fr u.fr fun c _=>za c).mono fun c _=>zb c,fun p hp=>?_,keep M.at2 d,fun p q hp hq=>?_⟩
  ·cases hp;exact⟨hn,hf h' r⟩
  ·cases hp;exact fun he=>d q hq he.symm
 ·have za:∀c,apart v1' (some (b,none)) c→¬c=b:=fun c hc he=>hc.2 _ rfl he.symm
  have zb:∀c,apart v1' (some (b,none)) c→apart v1' (some (b,some f)) c:=fun c hc=>⟨hc.1,fun p hp=>by cases hp;exact hc.2 (b,none) rfl⟩
  refine⟨E,fun w hw=>((M.lx w hw).fr u.fr fun c _=>za c).mono fun c _=>zb c,fun w hw=>((M.ly w hw).fr u.fr fun c _=>za c).mono fun c _=>zb c,keep M.at1 d,fun p hp=>?_,fun p q hp hq=>?_⟩
  ·cases hp;exact⟨hn,hf h' r⟩
  ·cases hq;exact d p hp
theorem LnMk.st1x {h0 h:Heap}{Lx Ly:Int×List Int}{u:Value}{uy:Option Value}{v2:LV}{b:Nat}{K:Value→Heap→Prop}(M:LnMk h0 Lx Ly (some u) uy (some (b,none)) v2 h)
  (H:∀h',LnMk h0 Lx Ly (some u) uy (some (b,some true)) v2 h'→K undef h'):stK 2 (ptr b) (.agg #[.int .i64 Lx.1,u]) h K:=
 M.st (f:=true) (l:=[.int .i64 Lx.1,u]) (M.at1 _ rfl).2 (M.at1 _ rfl).1 rfl (zac rfl (zac (M.lx u rfl).one zal)) (fun h' r=>⟨u,rfl,r⟩) (.inl ⟨rfl,rfl,rfl,fun q hq he=>M.dis _ _ rfl hq he.symm⟩) H
theorem LnMk.st2x {h0 h:Heap}{Lx Ly:Int×List Int}{u:Value}{uy:Option Value}{v1:LV}{b:Nat}{K:Value→Heap→Prop}(M:LnMk h0 Lx Ly (some u) uy v1 (some (b,none)) h)
  (H:∀h',LnMk h0 Lx Ly (some u) uy v1 (some (b,some true)) h'→K undef h'):stK 2 (ptr b) (.agg #[.int .i64 Lx.1,u]) h K:=
 M.st (f:=true) (l:=[.int .i64 Lx.1,u]) (M.at2 _ rfl).2 (M.at2 _ rfl).1 rfl (zac rfl (zac (M.lx u rfl).one zal)) (fun h' r=>⟨u,rfl,r⟩) (.inr ⟨rfl,rfl,rfl,fun q hq=>M.dis _ _ hq rfl⟩) H
theorem LnMk.st1y {h0 h:Heap}{Lx Ly:Int×List Int}{u:Value}{ux:Option Value}{v2:LV}{b:Nat}{K:Value→Heap→Prop}(M:LnMk h0 Lx Ly ux (some u) (some (b,none)) v2 h)
  (H:∀h',LnMk h0 Lx Ly ux (some u) (some (b,some false)) v2 h'→K undef h'):stK 2 (ptr b) (.agg #[.int .i64 Ly.1,u]) h K:=
 M.st (f:=false) (l:=[.int .i64 Ly.1,u]) (M.at1 _ rfl).2 (M.at1 _ rfl).1 rfl (zac rfl (zac (M.ly u rfl).one zal)) (fun h' r=>⟨u,rfl,r⟩) (.inl ⟨rfl,rfl,rfl,fun q hq he=>M.dis _ _ rfl hq he.symm⟩) H
theorem LnMk.st2y {h0 h:Heap}{Lx Ly:Int×List Int}{u:Value}{ux:Option Value}{v1:LV}{b:Nat}{K:Value→Heap→Prop}(M:LnMk h0 Lx Ly ux (some u) v1 (some (b,none)) h)
  (H:∀h',LnMk h0 Lx Ly ux (some u) v1 (some (b,some false)) h'→K undef h'):stK 2 (ptr b) (.agg #[.int .i64 Ly.1,u]) h K:=
 M.st (f:=false) (l:=[.int .i64 Ly.1,u]) (M.at2 _ rfl).2 (M.at2 _ rfl).1 rfl (zac rfl (zac (M.ly u rfl).one zal)) (fun h' r=>⟨u,rfl,r⟩) (.inr ⟨rfl,rfl,rfl,fun q hq=>M.dis _ _ hq rfl⟩) H
def Both (h0:Heap)(Lx Ly:Int×List Int)(xs:List Value)(h:Heap):Prop:=∃a b u w,xs=[ptr a,ptr b]∧Ext h0 h∧Two h a 235 (.int .i64 Lx.1) u∧Two h b 235 (.int .i64 Ly.1) w∧SlI (fun _=>True) h u Lx.2∧SlI (fun _=>True) h w Ly.2
theorem LnMk.fin {h0 h:Heap}{Lx Ly:Int×List Int}{u w:Value}{a b:Nat}(M:LnMk h0 Lx Ly (some u) (some w) (some (a,some true)) (some (b,some false)) h):Both h0 Lx Ly [ptr a,ptr b] h:=by
 obtain⟨_,u',e1,r1⟩:=M.at1 _ rfl
 obtain⟨_,w',e2,r2⟩:=M.at2 _ rfl
 cases e1;cases e2
 exact⟨a,b,u,w,rfl,M.ext,r1,r2,(M.lx u rfl).mono fun _ _ _=>trivial,(M.ly w rfl).mono fun _ _ _=>trivial⟩
theorem LnMk.fin2 {h0 h:Heap}{Lx Ly:Int×List Int}{u w:Value}{a b:Nat}(M:LnMk h0 Lx Ly (some u) (some w) (some (b,some false)) (some (a,some true)) h):Both h0 Lx Ly [ptr a,ptr b] h:=by
 obtain⟨_,w',e2,r2⟩:=M.at1 _ rfl
 obtain⟨_,u',e1,r1⟩:=M.at2 _ rfl
 cases e1;cases e2
 exact⟨a,b,u,w,rfl,M.ext,r1,r2,(M.lx u rfl).mono fun _ _ _=>trivial,(M.ly w rfl).mono fun _ _ _=>trivial⟩
theorem zie {t:Tbl}(W:t.Wf)(i:Int):(lineT t i).2.length≤1048576∧ -70368744177664≤(lineT t i).1∧(lineT t i).1≤70368744177664:=by
 unfold lineT
 split
 ·by_cases h:i.toNat<t.lines.length
  ·have e:t.lines.getD i.toNat (0,[])=t.lines[i.toNat]:=by simp[List.getD_eq_getElem?_getD,h]
   rw[e]
   exact W.taps _ (List.getElem_mem h)
  ·have e:t.lines.getD i.toNat (0,[])=(0,[]):=by simp[List.getD_eq_getElem?_getD,Nat.le_of_not_lt h]
   rw[e];simp
 ·simp
theorem atP_bd {m:Pic}(W:m.Wf)(x y c:Int):0≤atP m x y c∧atP m x y c≤m.most:=by
 have:=W.m1
 unfold atP
 split
 ·rename_i h
  by_cases hi:(posP m x y c).toNat<m.l.length
  ·have e:m.l.getD (posP m x y c).toNat 0=m.l[(posP m x y c).toNat]:=by simp[List.getD_eq_getElem?_getD,hi]
   rw[e]
   exact W.smp _ (List.getElem_mem hi)
  ·have e:m.l.getD (posP m x y c).toNat 0=0:=by simp[List.getD_eq_getElem?_getD,Nat.le_of_not_lt hi]
   rw[e];omega
 ·omega
theorem c_Sum {h:Heap}(G:GlobB h){Z:Nat→Prop}{b:Nat}{v sv:Value}{m:Pic}{s:Stg}(H:IsImg h b v m)(W:m.Wf)(HS:IsStg Z h sv s)(WS:s.Wf)(hs:zhL m s){x y c:Int}(hc:0≤c∧c<m.c):
  FCall prog ziz #[ptr b,sv,.int .i64 x,.int .i64 y,.int .i64 c] h fun r h'=>r=.int .i64 (IntKind.i64.wrap (totZ m s x y c))∧Ext h h':=by
 apply zqC
 unfold zkG
 obtain⟨p,q,rfl,hp,hq,ones⟩:=zdr HS
 simp only[zaJ]
 refine zah fun b1 h1 r1 e1 n1=>?_
 rw[zao (l:=[p,q,.int .i64 s.border]) r1 3 rfl,zaa]
 refine(c_Suits (G.ext e1) (H.ext e1) (HS.ext e1)).mono fun r h2 ⟨e,e2⟩=>?_
 subst e
 rw[decide_eq_true hs]
 have hcn:(c<0)=False:=eq_false (by omega)
 simp only[go_sem,hcn]
 have H2:=H.ext (e1.trans e2)
 refine(zcr H2).mono fun r h3 ⟨e,wq⟩=>?_
 have wq:=wq.symm
 subst e wq
 simp only[go_sem]
 rw[decide_eq_false (by omega),zbk]
 have r2:=e2.row r1
 have p2:=hp.ext (e1.trans e2)
 have q2:=hq.ext (e1.trans e2)
 refine zat (Both h2 (lineT s.x x) (lineT s.y y)) ?_ ?_
 ·try simp only[go_sem,Nat.zero_add]
  refine zap (Ext h2) (Ext.refl _) ?_
  refine zaf p (fun h' e=>zad (e.row r2)) ?_
  refine zaf q (fun h' e=>zad (e.row r2)) ?_
  have M0:=LnMk.start h2 (lineT s.x x) (lineT s.y y)
  have wx:=WS.x
  have wy:=WS.y
  repeat' first
   |exact LnMk.fin ‹LnMk _ _ _ _ _ _ _ _›
   |exact LnMk.fin2 ‹LnMk _ _ _ _ _ _ _ _›
   |exact LnMk.ext ‹LnMk _ _ _ _ _ _ _ _›
   |refine And.intro ?_ ?_
   |refine LnMk.line_x ‹LnMk _ _ _ _ _ _ _ _› p2 wx fun u' h' M=>?_
   |refine LnMk.line_y ‹LnMk _ _ _ _ _ _ _ _› q2 wy fun u' h' M=>?_
   |refine LnMk.new_1 ‹LnMk _ _ _ _ _ _ _ _› fun b' h' M=>?_
   |refine LnMk.new_2 ‹LnMk _ _ _ _ _ _ _ _› fun b' h' M=>?_
   |refine LnMk.st1x ‹LnMk _ _ _ _ _ _ _ _› fun h' M=>?_
   |refine LnMk.st2x ‹LnMk _ _ _ _ _ _ _ _› fun h' M=>?_
   |refine LnMk.st1y ‹LnMk _ _ _ _ _ _ _ _› fun h' M=>?_
   |refine LnMk.st2y ‹LnMk _ _ _ _ _ _ _ _› fun h' M=>?_
 rintro xs ρj h3 ⟨a,d,u,w,rfl,e3,ra,rd,Su,Sw⟩
 have bx:=zie WS.x x
 have by':=zie WS.y y
 unfold totZ
 unfold zg4
 generalize lineT s.x x=Lx at*
 generalize lineT s.y y=Ly at*
 have hf:=zcX W.fits
 have c1:zag h3 ⟨d,1,none⟩=some w:=zad rd
 obtain⟨aw,cw,ew⟩:=Sw.isSl
 have ew2:zae w=some (.int .i64 (Ly.2.length:Int)):=by rw[ew];rfl
 obtain⟨au,cu,eu⟩:=Su.isSl
 have eu2:zae u=some (.int .i64 (Lx.2.length:Int)):=by rw[eu];rfl
 simp only[go_sem,Nat.zero_add,c1,ew2]
 refine zdX (fun k=>[.int .i64 (IntKind.i64.wrap (sumN (fun k=>Ly.2.getD k 0*sumN (fun i=>Lx.2.getD i 0*atP m (atZ s.border (Lx.1+i) m.w) (atZ s.border (Ly.1+k) m.h) c) Lx.2.length) k)),.int .i64 (k:Int)]) Ly.2.length 0 rfl (Nat.zero_le _) fun k again ρk _ hk Hag=>?_
 simp only[go_sem]
 refine zab (fun h4=>?_) (fun h4=>?_)
 ·have hk':k<Ly.2.length:=by omega
  have Hag:=Hag hk'
  obtain⟨pk,k1,k2⟩:=Sw.int_at (k':=.i64) hk'
  have eb:Ly.2.getD k 0=Ly.2[k]:=by simp[List.getD_eq_getElem?_getD,hk']
  rw[k1,zaa,k2,zaa,←eb]
  have rs:=e3.row r2
  refine zap (fun h'=>h'=h3) rfl ?_
  simp only[go_sem,Nat.zero_add]
  refine zaf (.int .i64 s.border) (fun h' e=>by rw[e];exact zad rs) ?_
  refine zaf (.int .i64 Ly.1) (fun h' e=>by rw[e];exact zad rd) ?_
  simp only[go_sem]
  rw[w64 (n:=Ly.1+(k:Int)) (by omega) (by omega)]
  have H3:=H2.ext e3
  refine(ziK H3).mono fun r h5 ⟨e,wq⟩=>?_
  have wq:=wq.symm
  subst e wq
  refine⟨rfl,?_⟩
  refine(ziJ (by unfold I64;omega)).mono fun r h5 ⟨e,wq⟩=>?_
  have wq:=wq.symm
  subst e wq
  have c2:zag h3 ⟨a,1,none⟩=some u:=zad ra
  simp only[go_sem,Nat.zero_add,c2,eu2]
  generalize hrow:atZ s.border (Ly.1+(k:Int)) m.h=row at*
  generalize hA:sumN (fun k=>Ly.2.getD k 0*sumN (fun i=>Lx.2.getD i 0*atP m (atZ s.border (Lx.1+i) m.w) (atZ s.border (Ly.1+k) m.h) c) Lx.2.length) k=A at*
  have hA1:sumN (fun k=>Ly.2.getD k 0*sumN (fun i=>Lx.2.getD i 0*atP m (atZ s.border (Lx.1+i) m.w) (atZ s.border (Ly.1+k) m.h) c) Lx.2.length) (k+1)=A+Ly.2.getD k 0*sumN (fun i=>Lx.2.getD i 0*atP m (atZ s.border (Lx.1+i) m.w) row c) Lx.2.length:=by
   simp only[sumN]
   rw[hA,hrow]
  rw[hA1]at Hag
  generalize Ly.2.getD k 0=bk at*
  refine zdX (fun i=>[.int .i64 (IntKind.i64.wrap (A+bk*sumN (fun i=>Lx.2.getD i 0*atP m (atZ s.border (Lx.1+i) m.w) row c) i)),.int .i64 (i:Int)]) Lx.2.length 0 (by simp[sumN]) (Nat.zero_le _) fun i again2 ρi _ hi Hag2=>?_
  simp only[go_sem]
  refine zab (fun h5=>?_) (fun h5=>?_)
  ·have hi':i<Lx.2.length:=by omega
   have Hag2:=Hag2 hi'
   obtain⟨pi,i1,i2⟩:=Su.int_at (k':=.i64) hi'
   have ea:Lx.2.getD i 0=Lx.2[i]:=by simp[List.getD_eq_getElem?_getD,hi']
   rw[i1,zaa,i2,zaa,←ea]
   refine zap (fun h'=>h'=h3) rfl ?_
   simp only[go_sem,Nat.zero_add]
   refine zaf (.int .i64 s.border) (fun h' e=>by rw[e];exact zad rs) ?_
   refine zaf (.int .i64 Lx.1) (fun h' e=>by rw[e];exact zad ra) ?_
   simp only[go_sem]
   rw[w64 (n:=Lx.1+(i:Int)) (by omega) (by omega)]
   refine(zlU H3).mono fun r h5 ⟨e,wq⟩=>?_
   have wq:=wq.symm
   subst e wq
   refine⟨rfl,?_⟩
   refine(ziJ (by unfold I64;omega)).mono fun r h5 ⟨e,wq⟩=>?_
   have wq:=wq.symm
   subst e wq
   try simp only[go_sem]
   refine(c_At H3 W).mono fun r h5 ⟨e,wq⟩=>?_
   have wq:=wq.symm
   subst e wq
   have hv:=atP_bd W (atZ s.border (Lx.1+(i:Int)) m.w) row c
   have hm:=W.m2
   simp only[go_sem]
   rw[w64 (n:=atP m (atZ s.border (Lx.1+(i:Int)) m.w) row c) (by omega) (by omega),wrap_step3,w64 (n:=(i:Int)+1) (by omega) (by omega)]
   simp only[sumN,Int.mul_add]at Hag2
   rw[←Int.add_assoc]at Hag2
   exact Hag2
  ·have:i=Lx.2.length:=by omega
   subst this
   rw[w64 (n:=(k:Int)+1) (by omega) (by omega)]
   exact Hag
 ·have:k=Ly.2.length:=by omega
  subst this
  exact⟨rfl,e1.trans (e2.trans e3)⟩
theorem zlp {A B C c d:Int}(h:A*C+c=B*C+d)(c0:0≤c)(c1:c<C)(d0:0≤d)(d1:d<C):A=B∧c=d:=by
 have e1:(c+A*C)/C=A:=by rw[Int.add_mul_ediv_right _ _ (by omega),Int.ediv_eq_zero_of_lt c0 c1];omega
 have e2:(d+B*C)/C=B:=by rw[Int.add_mul_ediv_right _ _ (by omega),Int.ediv_eq_zero_of_lt d0 d1];omega
 have e3:c+A*C=d+B*C:=by omega
 rw[e3,e2]at e1
 refine⟨e1.symm,?_⟩
 subst e1
 omega
theorem pos_inj {m:Pic}{x y c x' y' c':Int}(h:inP m x y c)(h':inP m x' y' c')(e:posP m x y c=posP m x' y' c'):x=x'∧y=y'∧c=c':=by
 obtain⟨x0,x1,y0,y1,c0,c1⟩:=h
 obtain⟨x0',x1',y0',y1',c0',c1'⟩:=h'
 unfold posP at e
 obtain⟨e1,e2⟩:=zlp e c0 c1 c0' c1'
 obtain⟨e3,e4⟩:=zlp e1 x0 x1 x0' x1'
 exact⟨e4,e3,e2⟩
theorem atP_setP {m:Pic}(W:m.Wf){x y c n x' y' c':Int}(h:inP m x y c):atP (setP m x y c n) x' y' c'=if x'=x∧y'=y∧c'=c then n else atP m x' y' c':=by
 have hp:=pos_bd W h
 by_cases hi:inP m x' y' c'
 ·have hp':=pos_bd W hi
  have hi2:inP (setP m x y c n) x' y' c':=hi
  unfold atP
  rw[if_pos hi2,if_pos hi]
  show(m.l.set (posP m x y c).toNat n).getD (posP m x' y' c').toNat 0=_
  by_cases he:x'=x∧y'=y∧c'=c
  ·rw[if_pos he]
   obtain⟨rfl,rfl,rfl⟩:=he
   have:(posP m x' y' c').toNat<m.l.length:=by omega
   simp[List.getD_eq_getElem?_getD,this]
  ·rw[if_neg he]
   have hne:(posP m x y c).toNat≠(posP m x' y' c').toNat:=fun hh=>he (by
    obtain⟨a,b,d⟩:=pos_inj hi h (by omega)
    exact⟨a,b,d⟩)
   simp[List.getD_eq_getElem?_getD,List.getElem?_set_ne hne]
 ·have hi2:¬inP (setP m x y c n) x' y' c':=hi
  have he:¬(x'=x∧y'=y∧c'=c):=by rintro⟨rfl,rfl,rfl⟩;exact hi h
  unfold atP
  rw[if_neg hi2,if_neg hi,if_neg he]
def ahead (x y c x' y' c':Int):Prop:=y'<y∨(y'=y∧(x'<x∨(x'=x∧c'<c)))
structure Made (h0 h:Heap)(b:Nat)(v:Value)(n:Pic)(w hh c most:Int):Prop where
 img:IsImg h b v n
 wf:n.Wf
 pw:n.w=w
 ph:n.h=hh
 pc:n.c=c
 pm:n.most=most
 ext:Ext h0 h
 nb:h0.size≤b
 nv:∀c,blk v c→h0.size≤c
theorem Made.before {h1 h0 h:Heap}{b:Nat}{v:Value}{n:Pic}{w hh c most:Int}(M:Made h0 h b v n w hh c most)(e:Ext h1 h0):Made h1 h b v n w hh c most:=
 ⟨M.img,M.wf,M.pw,M.ph,M.pc,M.pm,e.trans M.ext,Nat.le_trans e.1 M.nb,fun c hc=>Nat.le_trans e.1 (M.nv c hc)⟩
theorem c_Apply {h:Heap}(G:GlobB h){Z:Nat→Prop}{b:Nat}{v sv:Value}{m:Pic}{s:Stg}(H:IsImg h b v m)(W:m.Wf)(HS:IsStg Z h sv s)(WS:s.Wf)(hs:zhL m s)(hfit:fitsZ s.x.lines.length s.y.lines.length m.c):
  FCall prog zgt #[ptr b,sv] h fun r h'=>∃b' v' n,r=.tuple #[ptr b',.int .i64 0]∧Made h h' b' v' n s.x.lines.length s.y.lines.length m.c m.most∧∀x y c,inP n x y c→atP n x y c=pixZ m s x y c:=by
 apply znO
 unfold zh2
 obtain⟨p,q,rfl,hp,hq,ones⟩:=zdr HS
 simp only[zaJ]
 refine zah fun b1 h1 r1 e1 n1=>?_
 rw[zao (l:=[p,q,.int .i64 s.border]) r1 3 rfl,zaa]
 refine(c_Suits (G.ext e1) (H.ext e1) (HS.ext e1)).mono fun r h2 ⟨e,e2⟩=>?_
 subst e
 rw[decide_eq_true hs]
 simp only[go_sem,Nat.zero_add]
 have e12:=e1.trans e2
 have r2:=e2.row r1
 refine zap (Ext h2) (Ext.refl _) ?_
 refine zaf p (fun h' e=>zad (e.row r2)) ?_
 refine zaf q (fun h' e=>zad (e.row r2)) ?_
 refine(c_To (hp.ext e12)).mono fun r h3 ⟨e,wq⟩=>?_
 have wq:=wq.symm
 subst e wq
 refine⟨Ext.refl _,?_⟩
 refine(c_To (hq.ext e12)).mono fun r h3 ⟨e,wq⟩=>?_
 have wq:=wq.symm
 subst e wq
 refine(zcr (H.ext e12)).mono fun r h3 ⟨e,wq⟩=>?_
 have wq:=wq.symm
 subst e wq
 refine(zgK (H.ext e12)).mono fun r h3 ⟨e,wq⟩=>?_
 have wq:=wq.symm
 subst e wq
 have hc0:imgC s.x.lines.length s.y.lines.length m.c m.most=0:=zih.2 ⟨hfit,W.m1,W.m2⟩
 refine ziI.mono fun r h3 ⟨pp,e,e3,_,s3⟩=>?_
 subst e
 obtain⟨nb,nv,rfl,I,nbn,nvn,_⟩:=s3 hc0
 have hz:((0:Int)=0)=True:=eq_true rfl
 rw[hc0]
 simp only[go_sem,hz]
 refine(ziK I).mono fun r h4 ⟨e,wq⟩=>?_
 have wq:=wq.symm
 subst e wq
 have hm1:=W.m1
 have hm2:=W.m2
 have M0:Made h2 h3 nb nv (imgN s.x.lines.length s.y.lines.length m.c m.most) s.x.lines.length s.y.lines.length m.c m.most:=⟨I,zlK hc0,rfl,rfl,rfl,rfl,e3,nbn,nvn⟩
 obtain⟨X,hX⟩:∃X,X=s.x.lines.length:=⟨_,rfl⟩
 obtain⟨Y,hY⟩:∃Y,Y=s.y.lines.length:=⟨_,rfl⟩
 rw[←hX,←hY]at M0 hfit ⊢
 have hf:=zcX hfit
 obtain⟨C,hC⟩:∃C:Nat,m.c=(C:Int):=⟨m.c.toNat,by omega⟩
 rw[show(imgN (X:Int) (Y:Int) m.c m.most).h=(Y:Int)from rfl]
 -- what holds at a place of the walk
 refine zaE (α:=Pic) Y 0 (fun y _=>[.int .i64 (y:Int)]) (fun y n h'=>Made h2 h' nb nv n X Y m.c m.most∧∀x' y' c',inP n x' y' c'→ahead 0 y 0 x' y' c'→atP n x' y' c'=pixZ m s x' y' c') _ rfl (Nat.zero_le _)
  ⟨M0,fun x' y' c' hi ha=>by unfold ahead inP at*;omega⟩ fun y n h4 again ρ1 _ hy ⟨M,D⟩ Hag=>?_
 simp only[go_sem]
 refine zab (fun h5=>?_) (fun h5=>?_)
 ·refine(zlU M.img).mono fun r h5 ⟨e,wq⟩=>?_
  have wq:=wq.symm
  subst e wq
  rw[M.pw]
  refine zaE (α:=Pic) X 0 (fun x _=>[.int .i64 (x:Int)]) (fun x n h'=>Made h2 h' nb nv n X Y m.c m.most∧∀x' y' c',inP n x' y' c'→ahead x y 0 x' y' c'→atP n x' y' c'=pixZ m s x' y' c') n rfl (Nat.zero_le _)
   ⟨M,D⟩ fun x n h5 again2 ρ2 _ hx ⟨M,D⟩ Hag2=>?_
  simp only[go_sem]
  refine zab (fun h6=>?_) (fun h6=>?_)
  ·refine(zcr M.img).mono fun r h6 ⟨e,wq⟩=>?_
   have wq:=wq.symm
   subst e wq
   rw[M.pc,hC]
   refine zaE (α:=Pic) C 0 (fun c _=>[.int .i64 (c:Int)]) (fun c n h'=>Made h2 h' nb nv n X Y m.c m.most∧∀x' y' c',inP n x' y' c'→ahead x y c x' y' c'→atP n x' y' c'=pixZ m s x' y' c') n rfl (Nat.zero_le _)
    ⟨M,D⟩ fun c n h6 again3 ρ3 _ hc ⟨M,D⟩ Hag3=>?_
   simp only[go_sem]
   refine zab (fun h7=>?_) (fun h7=>?_)
   ·rw[zao (l:=[p,q,.int .i64 s.border]) (M.ext.row r2) 3 rfl,zaa]
    have E0:=e12.trans M.ext
    refine(c_Sum (G.ext E0) (H.ext E0) W (HS.ext E0) WS hs (x:=x) (y:=y) (c:=c) (by omega)).mono fun r h8 ⟨e,e8⟩=>?_
    subst e
    have E8:=E0.trans e8
    refine(zgK (H.ext E8)).mono fun r h9 ⟨e,wq⟩=>?_
    have wq:=wq.symm
    subst e wq
    refine(c_Round (zc5 _)).mono fun r h9 ⟨e,wq⟩=>?_
    have wq:=wq.symm
    subst e wq
    have hr:=roundZ_bd (IntKind.i64.wrap (totZ m s x y c)) (most:=m.most) (by omega)
    have Mi:=M.img.ext e8
    refine(c_Set Mi M.wf hr.1 hr.2.1).mono fun r h10 ⟨e,I10,f10,s10⟩=>?_
    subst e
    have hin:inP n x y c:=⟨by omega,by rw[M.pw];omega,by omega,by rw[M.ph];omega,by omega,by rw[M.pc];omega⟩
    have hset:inP n x y c∧zkM (IntKind.i64.wrap (totZ m s x y c)) m.most≤n.most:=⟨hin,by rw[M.pm];omega⟩
    rw[if_pos hset]at I10
    have E10:Ext h2 h10:=(M.ext.trans e8).then_fr f10 M.nv
    try simp only[go_sem]
    rw[w64 (by omega) (by omega)]
    refine Hag3 (setP n x y c (zkM (IntKind.i64.wrap (totZ m s x y c)) m.most)) h10 (by omega) ⟨⟨I10,setP_Wf M.wf hr.1 hset.2,M.pw,M.ph,M.pc,M.pm,E10,M.nb,M.nv⟩,fun x' y' c' hi ha=>?_⟩
    rw[atP_setP M.wf hin]
    by_cases he:x'=x∧y'=y∧c'=c
    ·rw[if_pos he,he.1,he.2.1,he.2.2];rfl
    ·rw[if_neg he]
     exact D x' y' c' hi (by unfold ahead at*;omega)
   ·have:c=C:=by omega
    subst this
    rw[w64 (by omega) (by omega)]
    refine Hag2 n h6 (by omega) ⟨M,fun x' y' c' hi ha=>D x' y' c' hi ?_⟩
    have h1:=M.pc
    unfold ahead inP at*
    omega
  ·have:x=X:=by omega
   subst this
   rw[w64 (by omega) (by omega)]
   refine Hag n h5 (by omega) ⟨M,fun x' y' c' hi ha=>D x' y' c' hi ?_⟩
   have h1:=M.pw
   unfold ahead inP at*
   omega
 ·have:y=Y:=by omega
  subst this
  refine⟨nb,nv,n,rfl,M.before e12,fun x' y' c' hi=>D x' y' c' hi ?_⟩
  have h1:=M.ph
  unfold ahead inP at*
  omega
theorem zo7 (f n:Int){m:Int}(hm:zaw m):(zbW f n m).Wf:=by
 unfold zaw at hm
 refine⟨?_,fun x hx=>?_⟩
 ·show(List.map _ (List.range m.toNat)).length≤65536
  rw[List.length_map,List.length_range];omega
 ·obtain⟨i,_,rfl⟩:=List.mem_map.1 hx
  have hb:=zfd (zgG f n m i)
  refine⟨hb.1,?_⟩
  show _≤zbw f n m i∧zbw f n m i≤_
  unfold zbw
  split
  ·rename_i h
   have:=low_bd h
   omega
  ·omega
theorem zpo {l:List Int}(h64:∀x∈l,I64 x)(hl:l.length≤1024){n:Int}(hn:zaw n):(zdZ l n).Wf:=by
 unfold zaw at hn
 refine⟨?_,fun x hx=>?_⟩
 ·show(List.map _ (List.range n.toNat)).length≤65536
  rw[List.length_map,List.length_range];omega
 ·obtain⟨i,hi,rfl⟩:=List.mem_map.1 hx
  have hb:=zfd h64
  have:=List.mem_range.1 hi
  refine⟨hb.1,?_⟩
  show _≤(i:Int)-(l.length/2:Nat)∧(i:Int)-(l.length/2:Nat)≤_
  omega
theorem zjz (o:OpD):(zbe o).length≤1024∧(za5 o).length≤1024:=by
 have:=zlN o.sigma
 have:=zoi o.radius
 have:=zhK o.x
 have:=zhK o.y
 unfold zbe za5
 constructor<;>split<;>(try split)<;>omega
theorem ziF {o:OpD}{w h:Int}(hc:makeC o w h=0):(makeS o w h).Wf∧opMay o∧zaw w∧zaw h:=by
 unfold makeC at hc
 split at hc
 ·cases hc
 ·rename_i hn
  have h1:opMay o:=Decidable.of_not_not fun hh=>hn (.inl hh)
  have h2:zaw w:=Decidable.of_not_not fun hh=>hn (.inr (.inl hh))
  have h3:zaw h:=Decidable.of_not_not fun hh=>hn (.inr (.inr hh))
  refine⟨⟨?_,?_⟩,h1,h2,h3⟩
  ·show(zdK o w).Wf
   unfold zdK
   split
   ·rename_i hk;exact zo7 _ _ (h1.2.2 hk).1
   ·exact zpo (zhJ o) (zjz o).1 h2
  ·show(zcu o h).Wf
   unfold zcu
   split
   ·rename_i hk;exact zo7 _ _ (h1.2.2 hk).2.1
   ·exact zpo (zhI o) (zjz o).2 h3
theorem znU {o:OpD}{w h:Int}(hc:makeC o w h=0):((makeS o w h).x.lines.length:Int)=sizeW o w∧((makeS o w h).y.lines.length:Int)=sizeH o h:=by
 obtain⟨_,hm,hw,hh⟩:=ziF hc
 unfold zaw at hw hh
 constructor
 ·show((zdK o w).lines.length:Int)=_
  unfold zdK sizeW
  split
  ·rename_i hk
   have:=(hm.2.2 hk).1
   unfold zaw at this
   show((List.map _ (List.range o.w.toNat)).length:Int)=_
   rw[List.length_map,List.length_range];omega
  ·show((List.map _ (List.range w.toNat)).length:Int)=_
   rw[List.length_map,List.length_range];omega
 ·show((zcu o h).lines.length:Int)=_
  unfold zcu sizeH
  split
  ·rename_i hk
   have:=(hm.2.2 hk).2.1
   unfold zaw at this
   show((List.map _ (List.range o.hh.toNat)).length:Int)=_
   rw[List.length_map,List.length_range];omega
  ·show((List.map _ (List.range h.toNat)).length:Int)=_
   rw[List.length_map,List.length_range];omega
theorem makeS_n (o:OpD)(w h:Int):(makeS o w h).x.n=w∧(makeS o w h).y.n=h:=by
 constructor
 ·show(zdK o w).n=w
  unfold zdK;split<;>rfl
 ·show(zcu o h).n=h
  unfold zcu;split<;>rfl
theorem znT {o:OpD}{m:Pic}(hc:makeC o m.w m.h=0):zhL m (makeS o m.w m.h):=by
 obtain⟨_,hm,_,_⟩:=ziF hc
 obtain⟨h1,h2⟩:=makeS_n o m.w m.h
 exact⟨h1,h2,hm.2.1.1,hm.2.1.2⟩
def pic15:Pic:=⟨1,1,1,255,[7]⟩
def op15:OpD:=⟨1,0,0,2,[],[],0,0,0⟩
theorem c_l15Lives {h:Heap}(G:GlobB h):FCall prog zhh #[] h fun r h'=>r=.bool true∧Ext h h':=by
 apply zoH
 unfold zjj
 refine zbI (c':=#[.int .u16 7]) rfl fun b1 h1 r1 e1 n1=>?_
 have S1:=zkK (k:=.u16) (l:=[7]) (n:=1) rfl r1
 have a0:imgC 1 1 1 255=0:=by decide+kernel
 refine(c_imgOf S1 a0 (by decide) (by simp)).mono fun r h2 ⟨p,e,N⟩=>?_
 subst e
 obtain⟨b,v,rfl,I,nb,nv,e2⟩:=N
 have I:IsImg h2 b v pic15:=I
 have W:pic15.Wf:=⟨by decide+kernel,by decide,by decide,by decide,by simp[pic15]⟩
 have hf:(fillL #[(.int .i64 0),(.int .i64 0),(.int .i64 0),(.int .i64 0),(.slice none 0 0),(.slice none 0 0),(.int .i64 0),(.int .i64 0),(.int .i64 0)] [(0,1,(.int .i64 1)),(3,1,(.int .i64 2))])=some #[.int .i64 1,.int .i64 0,.int .i64 0,.int .i64 2,.slice none 0 0,.slice none 0 0,.int .i64 0,.int .i64 0,.int .i64 0]:=rfl
 simp only[go_sem]
 rw[hf,zav,zaa]
 have wf:op15.Wf:=zmW (by simp[I64])
 have G2:=G.ext (e1.trans e2)
 refine(c_Make (Z:=fun _=>True) (o:=op15) G2 zmX wf (by simp[op15]) (by simp[op15]) (by unfold I64;omega) (by unfold I64;omega)).mono fun w h3 ⟨sv,e,e3,_,s1⟩=>?_
 subst e
 have a1:makeC op15 1 1=0:=by decide+kernel
 have HS:=s1 a1
 rw[a1]
 obtain⟨p,q,rfl,hp,hq,ones⟩:=zdr HS
 simp only[go_sem]
 refine za0 (cs:=[p,q,.int .i64 _]) rfl ones rfl fun b4 h4 r4 e4 n4=>?_
 refine c_l9Lives.mono fun r h5 ⟨e,e5⟩=>?_
 subst e
 simp only[go_sem]
 have E5:=(e1.trans e2).trans (e3.trans (e4.trans e5))
 refine(zpA (G.ext E5)).mono fun r h6 ⟨e,e6⟩=>?_
 subst e
 have z0:((0:Int)=0)=True:=eq_true rfl
 have np:binV .p .eql (ptr b) (.pointer none)=some (.bool false):=rfl
 have np2:∀b,binV .p .neq (ptr b) (.pointer none)=some (.bool true):=fun _=>rfl
 simp only[go_sem,z0,np,decide_true]
 have E6:=E5.trans e6
 have e36:=e3.trans (e4.trans (e5.trans e6))
 rw[zao (l:=[p,q,.int .i64 _]) ((e5.trans e6).row r4) 3 rfl,zaa]
 have hs:zhL pic15 (makeS op15 1 1):=znT (m:=pic15) a1
 refine(c_Apply (G.ext E6) (I.ext e36) W (HS.ext (e4.trans (e5.trans e6))) (ziF a1).1 hs (by decide+kernel)).mono fun r h7 ⟨b',v',n,e,M,hat⟩=>?_
 subst e
 simp only[go_sem,z0,np2,decide_true]
 refine(c_At M.img M.wf).mono fun r h8 ⟨e,wq⟩=>?_
 have wq:=wq.symm
 subst e wq
 have hin:inP n 0 0 0:=⟨by omega,by rw[M.pw];decide+kernel,by omega,by rw[M.ph];decide+kernel,by omega,by rw[M.pc];decide⟩
 rw[hat 0 0 0 hin]
 have hv:pixZ pic15 (makeS op15 1 1) 0 0 0=7:=by decide+kernel
 rw[hv]
 simp only[go_sem,eq_self,decide_true]
 exact⟨by simp,E6.trans M.ext⟩
structure PicA where
 w:Int
 h:Int
 c:Int
 most:Int
 l:List Int
structure PicA.Wf (a:PicA):Prop where
 w:U16 a.w
 h:U16 a.h
 c:U16 a.c
 most:U16 a.most
 l:∀x∈a.l,U16 x
 len:a.l.length≤4611686018427387904
def rPicA:Rp PicA where
 w:=5
 R:=fun Z h cs a=>∃u,cs=[.int .u16 a.w,.int .u16 a.h,.int .u16 a.c,.int .u16 a.most,u]∧Rp.Sl rU Z h u a.l
 len:=by rintro _ _ _ _ ⟨x,rfl,_⟩;rfl
 one:=by
  rintro _ _ _ _ ⟨x,rfl,H⟩
  exact zac rfl (zac rfl (zac rfl (zac rfl (zac H.one zal))))
 fr:=by rintro _ _ _ _ _ _ ⟨x,rfl,H⟩ f q;exact⟨x,rfl,H.fr f q⟩
 mono:=by rintro _ _ _ _ _ ⟨x,rfl,H⟩ q;exact⟨x,rfl,H.mono q⟩
def drawA (a:PicA):Pic:=drawP (a.w%12) (a.h%12) a.c a.most a.l
theorem zlc (a:PicA):(drawA a).Wf:=drawP_Wf _ _ _ _ _
theorem zjL (a:PicA):1≤(drawA a).w∧(drawA a).w≤12∧1≤(drawA a).h∧(drawA a).h≤12:=by
 show 1≤1+a.w%12%20∧1+a.w%12%20≤12∧1≤1+a.h%12%20∧1+a.h%12%20≤12
 omega
theorem zll.before {h0 h h':Heap}{p:Value}{m:Pic}(N:zll h h' p m)(e:Ext h0 h):zll h0 h' p m:=by
 obtain⟨b,v,e1,I,nb,nv,E⟩:=N
 exact⟨b,v,e1,I,Nat.le_trans e.1 nb,fun c hc=>Nat.le_trans e.1 (nv c hc),e.trans E⟩
theorem c_l15Draw {Z:Nat→Prop}{h:Heap}{cs:List Value}{a:PicA}(H:rPicA.R Z h cs a)(W:a.Wf):FCall prog zb5 #[.agg cs.toArray] h fun r h'=>zll h h' r (drawA a):=by
 apply zic
 unfold zep
 obtain⟨u,rfl,Hu⟩:=H
 simp only[zaJ]
 refine zah fun b1 h1 r1 e1 n1=>?_
 have q0:zag h1 ⟨b1,0,none⟩=some (.int .u16 a.w):=zad r1
 have q1:zag h1 ⟨b1,1,none⟩=some (.int .u16 a.h):=zad r1
 have q2:zag h1 ⟨b1,2,none⟩=some (.int .u16 a.c):=zad r1
 have q3:zag h1 ⟨b1,3,none⟩=some (.int .u16 a.most):=zad r1
 have q4:zag h1 ⟨b1,4,none⟩=some u:=zad r1
 have w0:=W.w
 have w1:=W.h
 simp only[go_sem,Nat.zero_add,q0]
 rw[zaW _ _ _ _ (by omega),zaa]
 simp only[go_sem,Nat.zero_add,q1]
 rw[zaW _ _ _ _ (by omega),zaa]
 simp only[go_sem,Nat.zero_add,q2,q3,q4]
 rw[Int.tmod_eq_emod_of_nonneg w0.1,Int.tmod_eq_emod_of_nonneg w1.1]
 exact(c_l9Draw (Hu.ext e1) (by unfold U16;omega) (by unfold U16;omega) W.c W.most W.l W.len).mono fun r h' N=>N.before e1
theorem NewR.since {α:Type}{e:Rp α}{h0 h h':Heap}{v:Value}{l:List α}(H:NewR e h h' v l)(k:Ext h0 h):Rp.Sl e (Since h0 h') h' v l:=H.sl.mono fun c hc hz=>⟨Nat.le_trans k.1 hz.1,hc⟩
theorem c_Stages {Z:Nat→Prop}{h:Heap}(G:GlobB h){v:Value}{l:List OpD}{b:Nat}{iv:Value}{m:Pic}(H:Rp.Sl rOp Z h v l)(few:l.length≤4)(WO:OpsWf l)(I:IsImg h b iv m)(W:m.Wf):
  FCall prog zei #[v,ptr b] h fun r h'=>Ext h h'∧∃sv rv ok,r=.tuple #[sv,rv,.bool ok]∧zar sv=true∧(ok=true↔zgJ 12 l∧opsC l m.w m.h m.c=0)∧
   (ok=true→Rp.Sl rStgP (Since h h') h' sv (allS l m.w m.h)∧Rp.Sl rStg (Since h h') h' rv (allS l m.w m.h)):=by
 apply znK
 unfold zhY
 obtain⟨a,cap,e⟩:=H.isSl
 have e2:zae v=some (.int .i64 (l.length:Int)):=by rw[e];rfl
 have np:binV .p .eql (ptr b) (.pointer none)=some (.bool false):=rfl
 simp only[go_sem,e2,np]
 have h4:((4:Int)<(l.length:Int))=False:=eq_false (by omega)
 simp only[go_sem,h4]
 refine(c_Little (side:=12) H (by omega)).mono fun r h1 ⟨e,e1⟩=>?_
 subst e
 simp only[go_sem]
 refine zab (fun hl=>?_) (fun hl=>?_)
 ·exact⟨e1,_,_,false,rfl,rfl,⟨fun h=>(by cases h),fun h=>absurd h.1 hl⟩,fun h=>(by cases h)⟩
 have hl:zgJ 12 l:=Decidable.of_not_not hl
 have hf:=zcX W.fits
 have hW:I64 m.w:=by unfold I64;omega
 have hH:I64 m.h:=by unfold I64;omega
 have gets:∀(h2:Heap) (E:Ext h h2) (K:Value→Value→Value→Heap→Prop),K (.int .i64 m.w) (.int .i64 m.h) (.int .i64 m.c) h2→
   FCall prog zaC #[ptr b] h2 fun v11 h12=>FCall prog zaz #[ptr b] h12 fun v13 h14=>FCall prog zai #[ptr b] h14 fun v15 h16=>K v11 v13 v15 h16:=by
  intro h2 E K HK
  refine(zlU (I.ext E)).mono fun r h3 ⟨e,wq⟩=>?_
  have wq:=wq.symm
  subst e wq
  refine(ziK (I.ext E)).mono fun r h3 ⟨e,wq⟩=>?_
  have wq:=wq.symm
  subst e wq
  refine(zcr (I.ext E)).mono fun r h3 ⟨e,wq⟩=>?_
  have wq:=wq.symm
  subst e wq
  exact HK
 refine gets h1 e1 _ ?_
 refine(c_opAll (G.ext e1) (H.ext e1) WO hW hH (c:=m.c)).mono fun r h2 ⟨sv,e,e2',s0,s1⟩=>?_
 subst e
 simp only[go_sem]
 have E2:=e1.trans e2'
 refine(c_Refs (H.ext E2) (by omega)).mono fun lv h3 ⟨HR,e3⟩=>?_
 have E3:=E2.trans e3
 refine gets h3 E3 _ ?_
 refine(c_r12All HR WO hW hH (c:=m.c)).mono fun r h5 ⟨rv,e,e5,t0,t1⟩=>?_
 subst e
 simp only[go_sem]
 have E5:=E3.trans e5
 by_cases hc:opsC l m.w m.h m.c=0
 ·have S:=(s1 hc).ext (e3.trans e5)
  have T:=t1 hc
  obtain⟨asv,csv,es⟩:=S.isSl
  obtain⟨at_,ct,et⟩:=T.isSl
  have es2:zae sv=some (.int .i64 ((allS l m.w m.h).length:Int)):=by rw[es];rfl
  have et2:zae rv=some (.int .i64 ((allS l m.w m.h).length:Int)):=by rw[et];rfl
  simp only[go_sem,hc,es2,et2]
  refine⟨E5,sv,rv,true,by simp,by rw[es];rfl,⟨fun _=>⟨hl,trivial⟩,fun _=>rfl⟩,fun _=>⟨?_,?_⟩⟩
  ·exact S.since e1
  ·exact T.since E3
 ·simp only[go_sem,hc]
  exact⟨E5,sv,rv,false,by simp,by rw[s0 hc];rfl,⟨fun h=>(by cases h),fun h=>h.2.elim⟩,fun h=>(by cases h)⟩
end Go.Proofs.YtcoimlclclnlkaaGreatDoor
namespace Go.Proofs.YtcoimlclclnlkaaGreatDoor
open Go Go.Crisp
open _root_.Go.Proofs.Tryz
structure ListsB (L:List (String×DataW Unit)):Prop where
 plain:(L.all fun x=>x.2.handleName?.isNone)=true
 names:("smalto/border.names",Rows.laid_smalto_border_names)∈L
 kinds:("smalto/raw.kinds",Rows.laid_smalto_raw_kinds)∈L
theorem ListsB.glob {L:List (String×DataW Unit)}(l:ListsB L){h:Heap}(H:zmE prog L h):GlobB h:=globB_of H l.plain l.names l.kinds
theorem u16_wf {n:Int}(h:(Lit.int .u16 n).wf=true):0≤n∧n≤65535:=by
 have h:(decide (IntKind.u16.min≤n)&&decide (n≤IntKind.u16.max))=true:=h
 rw[Bool.and_eq_true,decide_eq_true_eq,decide_eq_true_eq]at h;exact h
abbrev tU16:TS:=.int .u16
abbrev tPic:TS:=.pair tU16 (.pair tU16 (.pair tU16 (.pair tU16 (.pair (.sl tU16 2) .unit))))
def picOf (x:tPic.T):PicA:=⟨x.1,x.2.1,x.2.2.1,x.2.2.2.1,x.2.2.2.2.1⟩
theorem slu_of_slc {h:Heap}{v:Value}{l:List Int}(H:SlC 1 h v l.length (l.map (Value.int .u16))):Rp.Sl rU (fun _=>True) h v l:=
 ⟨_,H,fun _ _ _=>trivial,fun i hi=>by
  show Rp.el 1 _ i=[.int .u16 l[i]]
  rw[Rp.el_one (by simpa using hi),List.getElem_map]⟩
theorem u16s_rd {h:Heap}{cs:List Value}{l:List Int}(H:Rd (.sl tU16 2) h cs l):∃v,cs=[v]∧Rp.Sl rU (fun _=>True) h v l∧(∀n∈l,U16 n)∧l.length*2≤140737488351232:=by
 obtain⟨v,rfl,h1,h2,h3⟩:=sl1_rd (e:=tU16) (Value.int .u16) U16 rfl (fun ds x hr=>⟨hr.1,u16_wf hr.2⟩) H
 exact⟨v,rfl,slu_of_slc h1,h2,h3⟩
theorem pic_rd {h:Heap}{cs:List Value}{x:tPic.T}(H:Rd tPic h cs x):rPicA.R (fun _=>True) h cs (picOf x)∧(picOf x).Wf:=by
 obtain⟨_,_,rfl,⟨rfl,a1⟩,_,_,rfl,⟨rfl,a2⟩,_,_,rfl,⟨rfl,a3⟩,_,_,rfl,⟨rfl,a4⟩,_,_,rfl,a5,rfl⟩:=H
 obtain⟨s,rfl,s1,s2,s3⟩:=u16s_rd a5
 have s3:(picOf x).l.length*2≤140737488351232:=s3
 exact⟨⟨s,rfl,s1⟩,⟨u16_wf a1,u16_wf a2,u16_wf a3,u16_wf a4,s2,by omega⟩⟩
theorem ops1_wf {h:Heap}{cs:List Value}{x:tOp.T}(H:Rd tOp h cs x):OpsWf [opOf x]:=by
 have h1:=(op_rd H).2
 have h2:=op_len H
 refine⟨fun o ho=>?_,fun o ho=>?_,by simp⟩<;>(rw[List.mem_singleton.1 ho])
 ·exact h1
 ·exact h2
end Go.Proofs.YtcoimlclclnlkaaGreatDoor
namespace Go.Proofs.YtcoimlclclnlkaaGreatDoor
open Go Go.Crisp
attribute [local irreducible] FCall rowK newK stK iteK vK qK drawK gK joinK loopK mkK appK cpyK zmY zkN bsK clK
open _root_.Go.Proofs.Tryz
theorem zmA (o:Nat):∀(l:List Value) (c:Array Value) (k:Nat),(l.zipIdx k).foldl (fun cs (p:Value×Nat)=>cs.setIfInBounds (o+p.2) p.1) c=wrL c (o+k) l
 | [],_,_=>rfl
 |v::l,c,k=>by
  simp only[List.zipIdx_cons,List.foldl_cons,wrL]
  exact zmA o l _ (k+1)
theorem zbD {c:Array Value}{o n:Nat}{v:Value}{l:List Value}{rest:List (Nat×Nat×Value)}(hv:v.cells=l.toArray)(hl:l.length=n)(hb:o+n≤c.size):fillL c ((o,n,v)::rest)=fillL (wrL c o l) rest:=by
 simp only[fillL,hv]
 rw[if_neg (by simp[hl];omega)]
 congr 1
 rw[Array.zipIdx_toArray,List.foldl_toArray']
 ·exact zmA o l c 0
 ·simp
structure PlanD where
 s:Stg
 w:Int
 h:Int
def sideT (n:Int):Prop:=1≤n∧n≤4096
instance (n:Int):Decidable (sideT n):=by unfold sideT;infer_instance
structure PlanD.Wf (d:PlanD):Prop where
 s:d.s.Wf
 w:sideT d.w
 h:sideT d.h
def PlanD.X (d:PlanD):Int:=d.s.x.lines.length
def PlanD.Y (d:PlanD):Int:=d.s.y.lines.length
structure zil (Z:Nat→Prop)(h:Heap)(b:Nat)(d:PlanD)(p q:Value):Prop where
 row:h[b]? =some (.cells #[p,q,.int .i64 d.s.border,.int .i64 d.w,.int .i64 d.h] 156 (0,0))
 x:IsTbl Z h p d.s.x
 y:IsTbl Z h q d.s.y
theorem zil.ext {Z:Nat→Prop}{h h':Heap}{b:Nat}{d:PlanD}{p q:Value}(H:zil Z h b d p q)(e:Ext h h'):zil Z h' b d p q:=⟨e.row H.row,H.x.ext e,H.y.ext e⟩
def zbN (n size:Int):Int:=(n+size-1)/size
def colsZ (d:PlanD):Int:=zbN d.X d.w
def zcf (d:PlanD):Int:=colsZ d*zbN d.Y d.h
def outX (d:PlanD)(i:Int):Int:=i%colsZ d*d.w
def outY (d:PlanD)(i:Int):Int:=i/colsZ d*d.h
def outW (d:PlanD)(i:Int):Int:=min d.w (d.X-outX d i)
def outH (d:PlanD)(i:Int):Int:=min d.h (d.Y-outY d i)
theorem zeU {n size:Int}(hn:0≤n∧n≤65536)(hs:sideT size):0≤zbN n size∧zbN n size≤65536∧(1≤n→1≤zbN n size):=by
 unfold sideT at hs
 unfold zbN
 refine⟨Int.ediv_nonneg (by omega) (by omega),?_,fun h=>?_⟩
 ·have:=zgb (a:=n+size-1) (b:=size) (L:=0) (U:=70000) (by omega) (by omega) (by omega) (by omega) (by omega)
  apply Int.le_of_lt_add_one
  rw[Int.ediv_lt_iff_lt_mul (by omega)]
  omega
 ·rw[Int.le_ediv_iff_mul_le (by omega)];omega
theorem PlanD.bd {d:PlanD}(W:d.Wf):(0≤d.X∧d.X≤65536)∧(0≤d.Y∧d.Y≤65536):=by
 have h1:=W.s.x.len
 have h2:=W.s.y.len
 unfold PlanD.X PlanD.Y
 omega
theorem c_parts {h:Heap}{n size:Int}(hn:0≤n∧n≤65536)(hs:sideT size):FCall prog zgk #[.int .i64 n,.int .i64 size] h fun r h'=>r=.int .i64 (zbN n size)∧h'=h:=by
 apply zqu
 unfold zky
 have hb:=zeU hn hs
 unfold sideT at hs
 unfold zbN at*
 simp only[go_sem]
 rw[w64 (n:=n+size) (by omega) (by omega),w64 (n:=n+size-1) (by omega) (by omega),zdA _ _ _ _ (by omega),zaa,Int.tdiv_eq_ediv_of_nonneg (by omega),w64 (by omega) (by omega)]
 exact⟨rfl,trivial⟩
theorem zog {Z:Nat→Prop}{h:Heap}{b:Nat}{d:PlanD}{p q:Value}(H:zil Z h b d p q)(W:d.Wf):FCall prog zbH #[ptr b] h fun r h'=>r=.int .i64 (colsZ d)∧h'=h:=by
 apply ziZ
 unfold zeP
 simp only[go_sem,Nat.zero_add]
 refine zap (fun h'=>h'=h) rfl ?_
 refine zaf p (fun h' e=>by rw[e];exact zad H.row) ?_
 refine zaf (.int .i64 d.w) (fun h' e=>by rw[e];exact zad H.row) ?_
 refine(c_To H.x).mono fun r h1 ⟨e,wq⟩=>?_
 have wq:=wq.symm
 subst e wq
 exact⟨rfl,c_parts (PlanD.bd W).1 W.w⟩
theorem c_Count {Z:Nat→Prop}{h:Heap}{b:Nat}{d:PlanD}{p q:Value}(H:zil Z h b d p q)(W:d.Wf):FCall prog zcO #[ptr b] h fun r h'=>r=.int .i64 (zcf d)∧h'=h:=by
 apply zk0
 unfold zf0
 simp only[go_sem,Nat.zero_add]
 refine zap (fun h'=>h'=h) rfl ?_
 refine zaf q (fun h' e=>by rw[e];exact zad H.row) ?_
 refine zaf (.int .i64 d.h) (fun h' e=>by rw[e];exact zad H.row) ?_
 refine(zog H W).mono fun r h1 ⟨e,wq⟩=>?_
 have wq:=wq.symm
 subst e wq
 refine⟨rfl,?_⟩
 refine(c_To H.y).mono fun r h1 ⟨e,wq⟩=>?_
 have wq:=wq.symm
 subst e wq
 refine⟨rfl,?_⟩
 refine(c_parts (PlanD.bd W).2 W.h).mono fun r h1 ⟨e,wq⟩=>?_
 have wq:=wq.symm
 subst e wq
 simp only[go_sem]
 have h1:=zeU (PlanD.bd W).1 W.w
 have h2:=zeU (PlanD.bd W).2 W.h
 have h3:=zid (a:=colsZ d) (A:=65536) (b:=zbN d.Y d.h) (B:=65536) h1.1 h1.2.1 h2.1 h2.2.1
 have e:colsZ d*zbN (d.s.y.lines.length:Int) d.h=zcf d:=rfl
 have h3:0≤colsZ d*zbN (d.s.y.lines.length:Int) d.h∧colsZ d*zbN (d.s.y.lines.length:Int) d.h≤65536*65536:=h3
 rw[w64 (by omega) (by omega)]
 exact⟨rfl,trivial⟩
theorem zpy {h:Heap}{n:Int}:FCall prog zhf #[.int .i64 n] h fun r h'=>r=.bool (decide (sideT n))∧h'=h:=by
 apply ok_plan_side
 unfold zmo
 simp only[go_sem]
 exact⟨rfl,trivial⟩
theorem c_planNew {Z:Nat→Prop}{h:Heap}{sv:Value}{s:Stg}{w hh:Int}(HS:IsStg Z h sv s):FCall prog zgM #[sv,.int .i64 w,.int .i64 hh] h fun r h'=>
  Ext h h'∧((sideT w∧sideT hh)→∃b p q,r=.tuple #[ptr b,.int .i64 0]∧h.size≤b∧zil Z h' b ⟨s,w,hh⟩ p q)∧(¬(sideT w∧sideT hh)→r=.tuple #[.pointer none,.int .i64 9]):=by
 apply ok_plan_New
 unfold znm
 obtain⟨p,q,rfl,hp,hq,ones⟩:=zdr HS
 simp only[zaJ]
 refine zah fun b1 h1 r1 e1 n1=>?_
 have np:=(zoX hp).2
 have nq:=(zoX hq).2
 have q0:zag h1 ⟨b1,0,none⟩=some p:=zad r1
 have q1:zag h1 ⟨b1,1,none⟩=some q:=zad r1
 simp only[go_sem,Nat.zero_add,q0,q1,np,nq]
 refine zpy.mono fun r h2 ⟨e,wq⟩=>?_
 have wq:=wq.symm
 subst e wq
 by_cases hw:sideT w
 ·simp only[go_sem,hw]
  refine zpy.mono fun r h2 ⟨e,wq⟩=>?_
  have wq:=wq.symm
  subst e wq
  by_cases hh':sideT hh
  ·simp only[go_sem,hh']
   rw[zao (l:=[p,q,.int .i64 s.border]) r1 3 rfl,zaa]
   have hf:fillL #[(.pointer none),(.pointer none),(.int .i64 0),(.int .i64 0),(.int .i64 0)] [(0,3,.agg #[p,q,.int .i64 s.border]),(3,1,.int .i64 w),(4,1,.int .i64 hh)]=some #[p,q,.int .i64 s.border,.int .i64 w,.int .i64 hh]:=rfl
   rw[hf,zav,zaa]
   refine zah (c:=#[p,q,.int .i64 s.border,.int .i64 w,.int .i64 hh]) fun b2 h2 r2 e2 n2=>?_
   exact⟨e1.trans e2,fun _=>⟨b2,p,q,rfl,Nat.le_trans e1.1 n2,r2,hp.ext (e1.trans e2),hq.ext (e1.trans e2)⟩,fun hn=>absurd ⟨trivial,trivial⟩ hn⟩
  ·simp only[go_sem,hh']
   exact⟨e1,fun hn=>hn.2.elim,fun _=>by simp⟩
 ·simp only[go_sem,hw]
  exact⟨e1,fun hn=>hn.1.elim,fun _=>by simp⟩
structure TileD where
 number:Int
 x:Int
 y:Int
 w:Int
 h:Int
 fx:Int
 fy:Int
 cx:Int
 cy:Int
 ring:Int
abbrev tileC (t:TileD):List Value:=[.int .i64 t.number,.int .i64 t.x,.int .i64 t.y,.int .i64 t.w,.int .i64 t.h,.int .i64 t.fx,.int .i64 t.fy,.int .i64 t.cx,.int .i64 t.cy,.int .i64 t.ring]
theorem zgx (t:TileD):∀v∈tileC t,zar v=true:=by
 intro v hv
 simp only[tileC,List.mem_cons,List.not_mem_nil,or_false]at hv
 rcases hv with rfl|rfl|rfl|rfl|rfl|rfl|rfl|rfl|rfl|rfl<;>rfl
theorem zpN {d:PlanD}(W:d.Wf){i:Int}(h0:0≤i)(h1:i<zcf d):0≤outX d i∧outX d i<d.X∧0≤outY d i∧outY d i<d.Y:=by
 have hb:=PlanD.bd W
 have hw:=W.w
 have hh:=W.h
 unfold sideT at hw hh
 have h2:=zeU hb.1 W.w
 have h3:=zeU hb.2 W.h
 have hc:0<colsZ d:=by
  rcases Int.lt_or_le 0 (colsZ d)with h|h
  ·exact h
  ·have h4:0≤colsZ d:=h2.1
   have:colsZ d=0:=by omega
   unfold zcf at h1
   rw[this,Int.zero_mul]at h1
   omega
 have m0:=Int.emod_nonneg i (show colsZ d≠0 by omega)
 have m1:=Int.emod_lt_of_pos i hc
 have q0:=Int.ediv_nonneg h0 (show 0≤colsZ d by omega)
 have q1:i/colsZ d<zbN d.Y d.h:=by
  rw[Int.ediv_lt_iff_lt_mul hc,Int.mul_comm];exact h1
 have key:∀(n size k:Int),0≤n→1≤size→0≤k→k<zbN n size→0≤k*size∧k*size<n:=by
  intro n size k hn hs hk hlt
  refine⟨Int.mul_nonneg hk (by omega),?_⟩
  have h5:k+1≤(n+size-1)/size:=hlt
  rw[Int.le_ediv_iff_mul_le (by omega),Int.add_mul,Int.one_mul]at h5
  omega
 have k1:=key d.X d.w (i%colsZ d) hb.1.1 hw.1 m0 m1
 have k2:=key d.Y d.h (i/colsZ d) hb.2.1 hh.1 q0 q1
 exact⟨k1.1,k1.2,k2.1,k2.2⟩
theorem c_planOut {Z:Nat→Prop}{h:Heap}{b:Nat}{d:PlanD}{p q:Value}(H:zil Z h b d p q)(W:d.Wf){i:Int}(h0:0≤i)(h1:i<zcf d):FCall prog zdI #[ptr b,.int .i64 i] h fun r h'=>
  r=.agg #[.int .i64 (outX d i),.int .i64 (outY d i),.int .i64 (outW d i),.int .i64 (outH d i)]∧Ext h h':=by
 apply zmQ
 unfold zhy
 have ti:=zpN W h0 h1
 have hb:=PlanD.bd W
 have hw:=W.w
 have hh:=W.h
 unfold sideT at hw hh
 have h2:=zeU hb.1 W.w
 have h3:=zeU hb.2 W.h
 have hcl:0≤colsZ d∧colsZ d≤65536:=⟨h2.1,h2.2.1⟩
 have hpr:=zid (a:=colsZ d) (A:=65536) (b:=zbN d.Y d.h) (B:=65536) h2.1 h2.2.1 h3.1 h3.2.1
 have hct:zcf d=colsZ d*zbN d.Y d.h:=rfl
 have hc:0<colsZ d:=by
  rcases Int.lt_or_le 0 (colsZ d)with h|h
  ·exact h
  ·have:colsZ d=0:=by omega
   rw[hct,this,Int.zero_mul]at h1
   omega
 have hq:=zgb (a:=i) (b:=colsZ d) (L:=0) (U:=4294967296) (by omega) (by omega) (by omega) (by omega) (by omega)
 refine zah fun b1 h2' r1 e1 n1=>?_
 have H1:=H.ext e1
 simp only[go_sem,Nat.zero_add]
 refine zap (fun h'=>h'=h2') rfl ?_
 refine zaf (.int .i64 d.w) (fun h' e=>by rw[e];exact zad H1.row) ?_
 refine zaf (.int .i64 d.h) (fun h' e=>by rw[e];exact zad H1.row) ?_
 refine(zog H1 W).mono fun r h3 ⟨e,wq⟩=>?_
 have wq:=wq.symm
 subst e wq
 refine⟨rfl,?_⟩
 rw[zaW _ _ _ _ (by omega),zaa,Int.tmod_eq_emod_of_nonneg h0]
 simp only[go_sem]
 refine(zog H1 W).mono fun r h3 ⟨e,wq⟩=>?_
 have wq:=wq.symm
 subst e wq
 refine⟨rfl,?_⟩
 rw[zdA _ _ _ _ (by omega),zaa,Int.tdiv_eq_ediv_of_nonneg h0]
 simp only[go_sem]
 have ex:i%colsZ d*d.w=outX d i:=rfl
 have ey:i/colsZ d*d.h=outY d i:=rfl
 rw[w64 (n:=i/colsZ d) (by omega) (by omega),ex,ey,w64 (n:=outX d i) (by omega) (by omega),w64 (n:=outY d i) (by omega) (by omega)]
 refine zap (fun h'=>h'=h2') rfl ?_
 simp only[go_sem,Nat.zero_add]
 refine zaf (.int .i64 d.w) (fun h' e=>by rw[e];exact zad H1.row) ?_
 refine zaf p (fun h' e=>by rw[e];exact zad H1.row) ?_
 refine zaf (.int .i64 d.h) (fun h' e=>by rw[e];exact zad H1.row) ?_
 refine zaf q (fun h' e=>by rw[e];exact zad H1.row) ?_
 refine(c_To H1.x).mono fun r h3 ⟨e,wq⟩=>?_
 have wq:=wq.symm
 subst e wq
 refine⟨rfl,?_⟩
 simp only[go_sem]
 have eX:(d.s.x.lines.length:Int)=d.X:=rfl
 have eY:(d.s.y.lines.length:Int)=d.Y:=rfl
 rw[eX,w64 (n:=d.X-outX d i) (by omega) (by omega)]
 refine zaf (.int .i64 (min d.w (d.X-outX d i))) (fun h' e=>by first|exact zqG _ _ _|rfl) ?_
 refine(c_To H1.y).mono fun r h3 ⟨e,wq⟩=>?_
 have wq:=wq.symm
 subst e wq
 refine⟨rfl,?_⟩
 simp only[go_sem]
 rw[eY,w64 (n:=d.Y-outY d i) (by omega) (by omega)]
 refine zaf (.int .i64 (min d.h (d.Y-outY d i))) (fun h' e=>by first|exact zqG _ _ _|rfl) ?_
 have hf:fillL #[(.int .i64 0),(.int .i64 0),(.int .i64 0),(.int .i64 0)] [(0,1,Value.int .i64 (outX d i)),(1,1,Value.int .i64 (outY d i)),(2,1,Value.int .i64 (min d.w (d.X-outX d i))),(3,1,Value.int .i64 (min d.h (d.Y-outY d i)))]=some #[.int .i64 (outX d i),.int .i64 (outY d i),.int .i64 (outW d i),.int .i64 (outH d i)]:=rfl
 rw[hf,zav,zaa]
 refine zaP (l:=[.int .i64 (outX d i),.int .i64 (outY d i),.int .i64 (outW d i),.int .i64 (outH d i)]) r1 rfl (zac rfl (zac rfl (zac rfl (zac rfl zal)))) rfl fun h5 r5 u5=>?_
 rw[zao r5 4 rfl,zaa]
 exact⟨rfl,e1.upd n1 u5⟩
theorem fill_tile (a b c d e f:Int):fillL #[(.int .i64 0),(.int .i64 0),(.int .i64 0),(.int .i64 0),(.int .i64 0),(.int .i64 0),(.int .i64 0),(.int .i64 0),(.int .i64 0),(.int .i64 0)] [(0,1,Value.int .i64 a),(1,4,.agg #[.int .i64 b,.int .i64 c,.int .i64 d,.int .i64 e]),(9,1,.int .i64 f)]=some (tileC ⟨a,b,c,d,e,0,0,0,0,f⟩).toArray:=by
 refine(zbD (n:=1) (l:=[.int .i64 a]) rfl rfl (by simp)).trans ?_
 refine(zbD (n:=4) (l:=[.int .i64 b,.int .i64 c,.int .i64 d,.int .i64 e]) rfl rfl (by simp[zci])).trans ?_
 refine(zbD (n:=1) (l:=[.int .i64 f]) rfl rfl (by simp[zci])).trans ?_
 rw[zcD]
 simp[wrL,tileC]
def zaN (d:PlanD)(i:Int):TileD:=
 ⟨i,outX d i,outY d i,outW d i,outH d i,(zjv d.s.x (outX d i) (outX d i+outW d i)).1,(zjv d.s.y (outY d i) (outY d i+outH d i)).1,
  (zjv d.s.x (outX d i) (outX d i+outW d i)).2,(zjv d.s.y (outY d i) (outY d i+outH d i)).2,mostL d.s.y.lines⟩
theorem zpx {Z:Nat→Prop}{h:Heap}{b:Nat}{d:PlanD}{p q:Value}(H:zil Z h b d p q)(W:d.Wf){i:Int}(h0:0≤i)(h1:i<zcf d):FCall prog zbR #[ptr b,.int .i64 i] h fun r h'=>
  r=.tuple #[.agg (tileC (zaN d i)).toArray,.bool true]∧Ext h h':=by
 apply zgI
 unfold zdT
 have ti:=zpN W h0 h1
 have hb:=PlanD.bd W
 have hw:=W.w
 have hh:=W.h
 unfold sideT at hw hh
 refine zah fun b1 h2 r1 e1 n1=>?_
 have H1:=H.ext e1
 have hi:(i<0)=False:=eq_false (by omega)
 simp only[go_sem,hi]
 refine(c_Count H1 W).mono fun r h3 ⟨e,wq⟩=>?_
 have wq:=wq.symm
 subst e wq
 simp only[go_sem]
 rw[decide_eq_false (by omega),zbk]
 have lb1:=zau r1
 refine zat (fun xs h'=>∃b2,xs=[ptr b2]∧Ext h2 h'∧h2.size≤b2∧h'[b2]? =some (.cells (tileC ⟨i,outX d i,outY d i,outW d i,outH d i,0,0,0,0,mostL d.s.y.lines⟩).toArray 65 (0,0))) ?_ ?_
 ·simp only[go_sem,Nat.zero_add]
  refine zap (Ext h2) (Ext.refl _) ?_
  refine zaf q (fun h' e=>zad (e.row H1.row)) ?_
  have hf:fillL #[(.int .i64 0),(.int .i64 0),(.int .i64 0),(.int .i64 0),(.int .i64 0),(.int .i64 0),(.int .i64 0),(.int .i64 0),(.int .i64 0),(.int .i64 0)] [(0,1,Value.int .i64 i),(1,4,.agg #[.int .i64 (outX d i),.int .i64 (outY d i),.int .i64 (outW d i),.int .i64 (outH d i)]),(9,1,.int .i64 (mostL d.s.y.lines))]=some (tileC ⟨i,outX d i,outY d i,outW d i,outH d i,0,0,0,0,mostL d.s.y.lines⟩).toArray:=fill_tile _ _ _ _ _ _
  refine⟨?_,?_⟩
  ·refine(c_planOut H1 W h0 h1).mono fun r h3 ⟨e,e3⟩=>?_
   subst e
   refine⟨e3,?_,?_⟩
   ·refine(c_Most (H1.y.ext e3)).mono fun r h4 ⟨e,wq⟩=>?_
    have wq:=wq.symm
    subst e wq
    refine⟨e3,?_⟩
    rw[hf,zav,zaa]
    refine zah fun b4 h4 r4 e4 n4=>⟨e3.trans e4,?_⟩
    have n4':=Nat.le_trans e3.1 n4
    refine zaP (l:=tileC _) r4 rfl (zgx _) rfl fun h5 r5 u5=>?_
    have E:=(e3.trans e4).upd n4' u5
    exact⟨E,b4,rfl,E,n4',r5⟩
   ·refine zah fun b4 h4 r4 e4 n4=>⟨e3.trans e4,?_⟩
    have n4':=Nat.le_trans e3.1 n4
    refine(c_Most (H1.y.ext (e3.trans e4))).mono fun r h5 ⟨e,wq⟩=>?_
    have wq:=wq.symm
    subst e wq
    refine⟨e3.trans e4,?_⟩
    rw[hf,zav,zaa]
    refine zaP (l:=tileC _) r4 rfl (zgx _) rfl fun h5 r5 u5=>?_
    have E:=(e3.trans e4).upd n4' u5
    exact⟨E,b4,rfl,E,n4',r5⟩
  ·refine zah fun b4 h4 r4 e4 n4=>⟨e4,?_⟩
   refine(c_planOut (H1.ext e4) W h0 h1).mono fun r h3 ⟨e,e3⟩=>?_
   subst e
   refine⟨e4.trans e3,?_⟩
   refine(c_Most (H1.y.ext (e4.trans e3))).mono fun r h5 ⟨e,wq⟩=>?_
   have wq:=wq.symm
   subst e wq
   refine⟨e4.trans e3,?_⟩
   rw[hf,zav,zaa]
   refine zaP (l:=tileC _) (e3.row r4) rfl (zgx _) rfl fun h5 r5 u5=>?_
   have E:=(e4.trans e3).upd n4 u5
   exact⟨E,b4,rfl,E,n4,r5⟩
 rintro xs ρj h3 ⟨b2,rfl,E3,nb2,r3⟩
 have H3:=H1.ext E3
 have lb3:=H1.row
 have hbne:b≠b2:=by have:=zau H1.row;omega
 have hb12:b1≠b2:=by omega
 have hW1:0≤outX d i+outW d i∧outX d i+outW d i≤65536:=by unfold outW;omega
 have hH1:0≤outY d i+outH d i∧outY d i+outH d i≤65536:=by unfold outH;omega
 refine zap (fun h'=>h'=h3) rfl ?_
 simp only[go_sem,Nat.zero_add]
 refine zaf p (fun h' e=>by rw[e];exact zad H3.row) ?_
 refine zaf (.int .i64 (outX d i)) (fun h' e=>by rw[e];exact zad r3) ?_
 refine zaf (.int .i64 (outX d i)) (fun h' e=>by rw[e];exact zad r3) ?_
 refine zaf (.int .i64 (outW d i)) (fun h' e=>by rw[e];exact zad r3) ?_
 simp only[go_sem]
 rw[w64 (by omega) (by omega)]
 refine(c_Reach H3.x W.s.x (by unfold I64;omega) (by unfold I64;omega)).mono fun r h4 ⟨e,e4⟩=>?_
 subst e
 simp only[go_sem,Nat.zero_add]
 refine zaA (e4.row r3) (by simp) rfl fun h5 r5 u5=>?_
 refine zaA r5 (by simp) rfl fun h6 r6 u6=>?_
 have E6:Ext h2 h6:=((E3.trans e4).upd nb2 u5).upd nb2 u6
 have H6:=H1.ext E6
 have r6:h6[b2]? =some (.cells (tileC ⟨i,outX d i,outY d i,outW d i,outH d i,(zjv d.s.x (outX d i) (outX d i+outW d i)).1,0,(zjv d.s.x (outX d i) (outX d i+outW d i)).2,0,mostL d.s.y.lines⟩).toArray 65 (0,0)):=r6
 refine zap (fun h'=>h'=h6) rfl ?_
 try simp only[go_sem,Nat.zero_add]
 refine zaf q (fun h' e=>by rw[e];exact zad H6.row) ?_
 refine zaf (.int .i64 (outY d i)) (fun h' e=>by rw[e];exact zad r6) ?_
 refine zaf (.int .i64 (outY d i)) (fun h' e=>by rw[e];exact zad r6) ?_
 refine zaf (.int .i64 (outH d i)) (fun h' e=>by rw[e];exact zad r6) ?_
 simp only[go_sem]
 rw[w64 (by omega) (by omega)]
 refine(c_Reach H6.y W.s.y (by unfold I64;omega) (by unfold I64;omega)).mono fun r h7 ⟨e,e7⟩=>?_
 subst e
 simp only[go_sem,Nat.zero_add]
 refine zaA (e7.row r6) (by simp) rfl fun h8 r8 u8=>?_
 refine zaA r8 (by simp) rfl fun h9 r9 u9=>?_
 have E9:Ext h2 h9:=((E6.trans e7).upd nb2 u8).upd nb2 u9
 have r9:h9[b2]? =some (.cells (tileC (zaN d i)).toArray 65 (0,0)):=r9
 rw[zao r9 10 rfl,zaa]
 refine zaP (l:=tileC (zaN d i)) (E9.row r1) rfl (zgx _) rfl fun h10 r10 u10=>?_
 rw[zao r10 10 rfl,zaa]
 exact⟨rfl,(e1.trans E9).upd n1 u10⟩
def op14:OpD:=⟨3,0,0,0,[],[],0,5,3⟩
theorem c_l14Lives {h:Heap}(G:GlobB h):FCall prog zhi #[] h fun r h'=>r=.bool true∧Ext h h':=by
 apply zoI
 unfold zjk
 have hf:(fillL #[(.int .i64 0),(.int .i64 0),(.int .i64 0),(.int .i64 0),(.slice none 0 0),(.slice none 0 0),(.int .i64 0),(.int .i64 0),(.int .i64 0)] [(0,1,(.int .i64 3)),(7,1,(.int .i64 5)),(8,1,(.int .i64 3)),(6,1,(.int .i64 0))])=some #[.int .i64 3,.int .i64 0,.int .i64 0,.int .i64 0,.slice none 0 0,.slice none 0 0,.int .i64 0,.int .i64 5,.int .i64 3]:=rfl
 rw[hf,zav,zaa]
 have wf:op14.Wf:=zmW (by simp[I64])
 refine(c_Make (Z:=fun _=>True) (o:=op14) G zmX wf (by simp[op14]) (by simp[op14]) (by unfold I64;omega) (by unfold I64;omega)).mono fun w h1 ⟨sv,e,e1,_,s1⟩=>?_
 subst e
 have a1:makeC op14 9 9=0:=by decide+kernel
 have HS:=s1 a1
 rw[a1]
 obtain⟨p,q,rfl,hp,hq,ones⟩:=zdr HS
 simp only[go_sem]
 refine za0 (cs:=[p,q,.int .i64 _]) rfl ones rfl fun b2 h2 r2 e2 n2=>?_
 refine(zpA (G.ext (e1.trans e2))).mono fun r h3 ⟨e,e3⟩=>?_
 subst e
 have z0:((0:Int)=0)=True:=eq_true rfl
 simp only[go_sem,z0,decide_true]
 rw[zao (l:=[p,q,.int .i64 _]) (e3.row r2) 3 rfl,zaa]
 refine(c_planNew (HS.ext (e2.trans e3))).mono fun r h4 ⟨e4,hy,_⟩=>?_
 obtain⟨b4,p4,q4,e,nb4,P⟩:=hy ⟨by decide,by decide⟩
 subst e
 have np:binV .p .eql (ptr b4) (.pointer none)=some (.bool false):=rfl
 simp only[go_sem,z0,np,decide_true]
 have PW:PlanD.Wf ⟨makeS op14 9 9,2,2⟩:=⟨(ziF a1).1,by decide,by decide⟩
 have hcount:zcf ⟨makeS op14 9 9,2,2⟩=6:=by decide+kernel
 refine(zpx P PW (i:=5) (by omega) (by rw[hcount];omega)).mono fun r h5 ⟨e,e5⟩=>?_
 subst e
 simp only[go_sem]
 refine za0 (cs:=tileC _) rfl (zgx _) rfl fun b6 h6 r6 e6 n6=>?_
 refine(c_Count (P.ext (e5.trans e6)) PW).mono fun r h7 ⟨e,wq⟩=>?_
 have wq:=wq.symm
 subst e wq
 rw[hcount]
 have t1:outX ⟨makeS op14 9 9,2,2⟩ 5=4:=by decide+kernel
 have t2:outY ⟨makeS op14 9 9,2,2⟩ 5=2:=by decide+kernel
 have t3:outW ⟨makeS op14 9 9,2,2⟩ 5=1:=by decide+kernel
 have t4:outH ⟨makeS op14 9 9,2,2⟩ 5=1:=by decide+kernel
 have ld4:ldsV 4 h6 (.pointer (some ⟨b6,1,none⟩))=some (.agg #[.int .i64 4,.int .i64 2,.int .i64 1,.int .i64 1]):=by
  refine zm1 [.int .i64 4,.int .i64 2,.int .i64 1,.int .i64 1] 4 rfl fun j hj=>?_
  rw[zad r6]
  match j,hj with
  |0,_=>exact congrArg (fun n=>some (Value.int .i64 n)) t1
  |1,_=>exact congrArg (fun n=>some (Value.int .i64 n)) t2
  |2,_=>exact congrArg (fun n=>some (Value.int .i64 n)) t3
  |3,_=>exact congrArg (fun n=>some (Value.int .i64 n)) t4
 have hf4:fillL #[(.int .i64 0),(.int .i64 0),(.int .i64 0),(.int .i64 0)] [(0,1,(.int .i64 4)),(1,1,(.int .i64 2)),(2,1,(.int .i64 1)),(3,1,(.int .i64 1))]=some #[.int .i64 4,.int .i64 2,.int .i64 1,.int .i64 1]:=rfl
 have heq:binV (.st [(0,1,.i),(1,1,.i),(2,1,.i),(3,1,.i)]) .eql (.agg #[.int .i64 4,.int .i64 2,.int .i64 1,.int .i64 1]) (.agg #[.int .i64 4,.int .i64 2,.int .i64 1,.int .i64 1])=some (.bool true):=rfl
 simp only[go_sem,eq_self,decide_true,Nat.zero_add,ld4,hf4,zav,heq]
 exact⟨by simp,e1.trans (e2.trans (e3.trans (e4.trans (e5.trans e6))))⟩
end Go.Proofs.YtcoimlclclnlkaaGreatDoor
namespace Go.Crisp
open Go Go.MapKept
section
section
variable {α:Type}
def kGet (j:Int):List (Int×α)→Option α
 | []=>none
 |(k,v)::r=>if k=j then some v else kGet j r
def kPut (j:Int)(v:α):List (Int×α)→List (Int×α)
 | []=>[(j,v)]
 |(k,u)::r=>if k=j then(j,v)::r else(k,u)::kPut j v r
def kDel (j:Int):List (Int×α)→List (Int×α)
 | []=>[]
 |(k,u)::r=>if k=j then r else(k,u)::kDel j r
def kFind (j:Int):List (Int×α)→Nat→Option (Nat×α)
 | [],_=>none
 |(k,v)::r,i=>if k=j then some (i,v)else kFind j r (i+1)
def kMap {β:Type}(f:α→β)(l:List (Int×α)):List (Int×β):=l.map fun p=>(p.1,f p.2)
theorem zig {β:Type}(f:α→β)(l:List (Int×α)):(kMap f l).map Prod.fst=l.map Prod.fst:=by simp[kMap,List.map_map,Function.comp_def]
theorem zf9 {β:Type}(f:α→β)(j:Int):∀l:List (Int×α),kGet j (kMap f l)=(kGet j l).map f
 | []=>rfl
 |(k,v)::r=>by
  have ih:=zf9 f j r
  unfold kMap at ih ⊢
  simp only[List.map_cons,kGet]
  split
  ·rfl
  ·exact ih
theorem zqU {β:Type}(f:α→β)(j:Int):∀l:List (Int×α),kDel j (kMap f l)=kMap f (kDel j l)
 | []=>rfl
 |(k,v)::r=>by
  have ih:=zqU f j r
  unfold kMap at ih ⊢
  simp only[List.map_cons,kDel]
  split
  ·rfl
  ·simp[ih]
end
def esKv (es:List MapEntry)(kv:List (Int×Value)):Prop:=es.map (fun e=>(e.key,e.val))=kv.map fun p=>(Value.int .i64 p.1,p.2)
def MapI (h:Heap)(b:Nat)(kv:List (Int×Value)):Prop:=∃es c,h[b]? =some (.map es c)∧Stamped es c∧esKv es.toList kv
theorem esKv.length {es:List MapEntry}{kv:List (Int×Value)}(H:esKv es kv):es.length=kv.length:=by
 have:=congrArg List.length H
 simpa using this
theorem MapI.nodup {h:Heap}{b:Nat}{kv:List (Int×Value)}(H:MapI h b kv):(kv.map Prod.fst).Nodup:=by
 obtain⟨es,c,_,hs,he⟩:=H
 have h1:es.toList.map (·.key)=(kv.map Prod.fst).map (Value.int .i64):=by
  have:=congrArg (List.map Prod.fst) he
  simpa[List.map_map,Function.comp_def]using this
 have h2:=hs.2.2
 rw[h1]at h2
 unfold List.Nodup at h2 ⊢
 rw[List.pairwise_map]at h2
 exact h2.imp fun h e=>h (by rw[e])
theorem MapI.row {h h':Heap}{b:Nat}{kv:List (Int×Value)}(H:MapI h b kv)(r:h'[b]? =h[b]?):MapI h' b kv:=by
 obtain⟨es,c,h1,h2⟩:=H
 exact⟨es,c,r.trans h1,h2⟩
theorem MapI.lt {h:Heap}{b:Nat}{kv:List (Int×Value)}(H:MapI h b kv):b<h.size:=by
 obtain⟨es,c,h1,_⟩:=H
 exact zau h1
theorem MapI.fr {M:Nat→Prop}{h h':Heap}{b:Nat}{kv:List (Int×Value)}(H:MapI h b kv)(f:Fr M h h')(hm:¬M b):MapI h' b kv:=H.row (f.2 b H.lt hm)
theorem MapI.ext {h h':Heap}{b:Nat}{kv:List (Int×Value)}(H:MapI h b kv)(e:Ext h h'):MapI h' b kv:=H.row (e.2 b H.lt)
theorem zn7 (j:Int):∀(es:List MapEntry) (kv:List (Int×Value)) (i:Nat),esKv es kv→Instr.findNow (.int .i64) (.int .i64 j) es i=some (kFind j kv i)
 | [],kv,i,H=>by
  have:kv=[]:=List.eq_nil_of_length_eq_zero (by rw[←esKv.length H];rfl)
  subst this;rfl
 |e::es,[],i,H=>by have:=esKv.length H;simp at this
 | e::es,(k,v)::kv,i,H=>by
  unfold esKv at H
  simp only[List.map_cons,List.cons.injEq,Prod.mk.injEq]at H
  obtain⟨⟨h1,h2⟩,H⟩:=H
  unfold Instr.findNow kFind
  rw[h1]
  have hs:Instr.sameNow (.int .i64) (.int .i64 j) (.int .i64 k)=some (j==k):=by simp[Instr.sameNow]
  rw[hs]
  by_cases hk:k=j
  ·subst hk
   simp[h2]
  ·have hk':(j==k)=false:=by simp;exact fun h=>hk h.symm
   rw[hk',if_neg hk]
   exact zn7 j es kv (i+1) H
theorem zn1 {α:Type}(j:Int):∀(kv:List (Int×α)) (i:Nat),(kFind j kv i).map Prod.snd=kGet j kv
 | [],_=>rfl
 |(k,v)::r,i=>by
  unfold kFind kGet
  split
  ·rfl
  ·exact zn1 j r (i+1)
theorem zfy {α:Type}{j:Int}:∀{kv:List (Int×α)},kGet j kv=none↔j∉kv.map Prod.fst
 | []=>by simp[kGet]
 |(k,v)::r=>by
  unfold kGet
  by_cases hk:k=j
  ·simp[hk]
  ·simp[hk,zfy (kv:=r),Ne.symm hk]
theorem zpj {α:Type}{j:Int}{kv:List (Int×α)}{i:Nat}(h:kFind j kv i=none):kGet j kv=none:=by
 rw[←zn1 j kv i,h];rfl
theorem zlJ {α:Type}{j:Int}:∀{kv:List (Int×α)} {i m:Nat} {v:α},kFind j kv i=some (m,v)→i≤m∧kv[m-i]? =some (j,v)∧(∀u,kPut j u kv=kv.set (m-i) (j,u))∧kDel j kv=kv.eraseIdx (m-i)
 | [],_,_,_,h=>by cases h
 | (k,v)::r,i,m,u,h=>by
  unfold kFind at h
  split at h
  ·rename_i hk
   cases h
   subst hk
   simp[kPut,kDel]
  ·rename_i hk
   obtain⟨h1,h2,h3,h4⟩:=zlJ h
   have hm:m-i=(m-(i+1))+1:=by omega
   refine⟨by omega,?_,fun u=>?_,?_⟩
   ·rw[hm];simpa using h2
   ·rw[hm];simp[kPut,hk,h3 u]
   ·rw[hm];simp[kDel,hk,h4]
theorem zn2 {α:Type}{j:Int}{v:α}:∀{kv:List (Int×α)},kGet j kv=some v→kv.Perm ((j,v)::kDel j kv)
 | (k,u)::r,h=>by
  unfold kGet at h
  unfold kDel
  split at h
  ·rename_i hk
   cases h;subst hk
   rw[if_pos rfl]
  ·rename_i hk
   rw[if_neg hk]
   exact((zn2 h).cons (k,u)).trans (List.Perm.swap ..)
theorem zqS {α:Type}{j:Int}{v:α}:∀{kv:List (Int×α)},kGet j kv=some v→(j,v)∈kv
 | (k,u)::r,h=>by
  unfold kGet at h
  split at h
  ·rename_i hk
   cases h;subst hk
   exact List.mem_cons_self ..
  ·exact List.mem_cons_of_mem _ (zqS h)
theorem zn0 {α:Type}{j:Int}{v:α}:∀{kv:List (Int×α)},(kv.map Prod.fst).Nodup→(j,v)∈kv→kGet j kv=some v
 | (k,u)::r,hn,h=>by
  unfold kGet
  rw[List.map_cons,List.nodup_cons]at hn
  rcases List.mem_cons.1 h with h|h
  ·cases h;rw[if_pos rfl]
  ·rw[if_neg]
   ·exact zn0 hn.2 h
   ·rintro rfl
    exact hn.1 (List.mem_map.2 ⟨_,h,rfl⟩)
theorem zm2 {α:Type}{j i:Int}:∀{kv:List (Int×α)},(kv.map Prod.fst).Nodup→kGet i (kDel j kv)=if i=j then none else kGet i kv
 | [],_=>by simp[kDel,kGet]
 | (k,u)::r,hn=>by
  rw[List.map_cons,List.nodup_cons]at hn
  unfold kDel
  by_cases hk:k=j
  ·subst hk
   rw[if_pos rfl]
   by_cases hi:i=k
   ·subst hi;rw[if_pos rfl];exact zfy.2 hn.1
   ·rw[if_neg hi,kGet,if_neg (Ne.symm hi)]
  ·rw[if_neg hk]
   unfold kGet
   by_cases hki:k=i
   ·subst hki;rw[if_pos rfl,if_neg hk,if_pos rfl]
   ·rw[if_neg hki,if_neg hki];exact zm2 hn.2
theorem zqT {α:Type}{j:Int}:∀{kv:List (Int×α)},(kDel j kv).Sublist kv
 | []=>List.Sublist.refl _
 |(k,u)::r=>by
  unfold kDel
  split
  ·exact List.sublist_cons_self ..
  ·exact zqT.cons_cons _
def lookR (ok:Bool)(z:Value):Option Value→Value
 |some v=>bif ok then .tuple #[v,.bool true]else v
 |none=>bif ok then .tuple #[z,.bool false]else z
theorem zqM {h:Heap}{b:Nat}{kv:List (Int×Value)}(H:MapI h b kv)(z:Value)(ok:Bool)(j:Int):lookV (.int .i64) z ok h (.map (some b)) (.int .i64 j)=some (lookR ok z (kGet j kv)):=by
 obtain⟨es,c,hb,_,he⟩:=H
 have hm:mapAt h (.map (some b))=some (es,c):=by unfold mapAt;simp[hb]
 unfold lookV
 simp only[hm,zn7 j es.toList kv 0 he]
 rw[←zn1 j kv 0]
 cases kFind j kv 0 with
 |none=>rfl
 |some p=>rfl
theorem len_map {h:Heap}{b:Nat}{kv:List (Int×Value)}(H:MapI h b kv):lenmV h (.map (some b))=some (.int .i64 (kv.length:Nat)):=by
 obtain⟨es,c,hb,_,he⟩:=H
 unfold lenmV
 simp only[hb]
 rw[←he.length,Array.length_toList]
theorem zqR {α:Type}{j:Int}{v:α}:∀{kv:List (Int×α)},kGet j kv=none→kPut j v kv=kv++[(j,v)]
 | [],_=>rfl
 | (k,u)::r,h=>by
  unfold kGet at h
  split at h
  ·cases h
  ·rename_i hk
   simp[kPut,hk,zqR h]
theorem kDel_none {α:Type}{j:Int}:∀{kv:List (Int×α)},kGet j kv=none→kDel j kv=kv
 | [],_=>rfl
 | (k,u)::r,h=>by
  unfold kGet at h
  split at h
  ·cases h
  ·rename_i hk
   simp[kDel,hk,kDel_none h]
theorem put_map {h:Heap}{b:Nat}{kv:List (Int×Value)}{j:Int}{v:Value}{K:Value→Heap→Prop}(H:MapI h b kv)(HK:∀h',MapI h' b (kPut j v kv)→Upd b h h'→K undef h'):
  zgY (.int .i64) (.map (some b)) (.int .i64 j) v h K:=by
 obtain⟨es,c,hb,hs,he⟩:=H
 unfold zgY
 simp only[hb,zn7 j es.toList kv 0 he]
 cases hf:kFind j kv 0 with
 | none=>
  have hg:=zpj hf
  simp only
  refine HK _ ⟨_,_,zdU hb,stamped_push hs fun x hx hxk=>?_,?_⟩ Upd.set
  ·have h1:j∈kv.map Prod.fst:=by
    have:(x.key,x.val)∈kv.map fun p=>(Value.int .i64 p.1,p.2):=by rw[←he];exact List.mem_map.2 ⟨x,hx,rfl⟩
    obtain⟨p,hp,hpe⟩:=List.mem_map.1 this
    rw[hxk]at hpe
    have h2:=congrArg Prod.fst hpe
    simp at h2
    exact List.mem_map.2 ⟨p,hp,h2⟩
   exact zfy.1 hg h1
  ·unfold esKv at he ⊢
   rw[zqR hg,Array.toList_push,List.map_append,he,List.map_append]
   rfl
 | some p=>
  obtain⟨i,u⟩:=p
  obtain⟨_,h2,h3,_⟩:=zlJ hf
  rw[Nat.sub_zero]at h2 h3
  have hi:i<kv.length:=(List.getElem?_eq_some_iff.1 h2).1
  have hi':i<es.size:=by rw[←Array.length_toList,he.length];exact hi
  have hkey:es[i].key=.int .i64 j:=by
   have h4:=congrArg (fun l=>(l[i]?).map Prod.fst) he
   simp only[List.getElem?_map,h2,Option.map_some,Array.getElem?_toList,Array.getElem?_eq_getElem hi']at h4
   exact Option.some.inj h4
  simp only
  refine⟨?_,HK _ ⟨_,_,zdU hb,stamped_modify hs i _ (fun e _=>rfl) (fun e _ hx=>?_),?_⟩ Upd.set⟩
  ·rw[Array.getElem?_eq_getElem hi']
   simp only[Option.map_some,Option.getD_some,hkey]
   simp[Instr.sameBits]
  ·rw[Array.getElem?_eq_getElem hi']at hx
   cases hx
   exact hkey.symm
  ·rw[h3]
   unfold esKv at he ⊢
   apply List.ext_getElem?
   intro m
   have hem:=congrArg (fun l=>l[m]?) he
   simp only[List.getElem?_map,Array.getElem?_toList]at hem ⊢
   rw[Array.getElem?_modify,List.getElem?_set]
   by_cases hm:i=m
   ·subst hm
    rw[if_pos rfl,if_pos rfl,if_pos hi,Array.getElem?_eq_getElem hi']
    rfl
   ·rw[if_neg hm,if_neg hm]
    exact hem
theorem znQ {α β:Type}(f:α→β):∀(l:List α) (i:Nat),(l.eraseIdx i).map f=(l.map f).eraseIdx i
 | [],_=>rfl
 |a::l,0=>rfl
 |a::l,i+1=>by simp[znQ f l i]
theorem esKv.key {es:List MapEntry}{kv:List (Int×Value)}(H:esKv es kv){e:MapEntry}(he:e∈es):∃j,e.key=.int .i64 j∧(j,e.val)∈kv:=by
 have:(e.key,e.val)∈kv.map fun p=>(Value.int .i64 p.1,p.2):=by rw[←H];exact List.mem_map.2 ⟨e,he,rfl⟩
 obtain⟨p,hp,hpe⟩:=List.mem_map.1 this
 have h1:=congrArg Prod.fst hpe
 have h2:=congrArg Prod.snd hpe
 simp only at h1 h2
 exact⟨p.1,h1.symm,by rw[←h2];exact hp⟩
theorem del_map' {h:Heap}{b:Nat}{kv:List (Int×Value)}{j:Int}{K:Value→Heap→Prop}(H:MapI h b kv)
  (HK:∀h',MapI h' b (kDel j kv)→Upd b h h'→(∀es c,h[b]? =some (.map es c)→∃es',h'[b]? =some (.map es' c)∧∀e∈es',e∈es∧e.key≠ .int .i64 j)→K (.tuple #[]) h'):
  zfx (.int .i64) (.map (some b)) (.int .i64 j) h K:=by
 have H0:=H
 have hnd:=H.nodup
 obtain⟨es,c,hb,hs,he⟩:=H
 have sub:∃h',MapI h' b (kDel j kv)∧Upd b h h'∧(∃es',h'[b]? =some (.map es' c)∧(∀e∈es',e∈es)∧esKv es'.toList (kDel j kv))∧∀K:Value→Heap→Prop,K (.tuple #[]) h'→zfx (.int .i64) (.map (some b)) (.int .i64 j) h K:=by
  cases hf:kFind j kv 0 with
  |none=>
   have hk:esKv es.toList (kDel j kv):=by rw[kDel_none (zpj hf)];exact he
   refine⟨_,⟨es,c,zdU hb,hs,hk⟩,Upd.set,⟨es,zdU hb,fun e h=>h,hk⟩,fun K hK=>?_⟩
   unfold zfx
   simp only[hb,zn7 j es.toList kv 0 he,hf]
   exact hK
  | some p=>
   obtain⟨i,u⟩:=p
   obtain⟨_,h2,_,h4⟩:=zlJ hf
   rw[Nat.sub_zero]at h2 h4
   have hi:i<kv.length:=(List.getElem?_eq_some_iff.1 h2).1
   have hi':i<es.size:=by rw[←Array.length_toList,he.length];exact hi
   have hk:esKv (es.eraseIdxIfInBounds i).toList (kDel j kv):=by
    rw[h4]
    unfold esKv at he ⊢
    rw[Array.eraseIdxIfInBounds,dif_pos hi']
    have:(es.eraseIdx i hi').toList=es.toList.eraseIdx i:=by simp
    rw[this,znQ,he,←znQ]
   refine⟨_,⟨_,_,zdU hb,stamped_erase hs i,hk⟩,Upd.set,⟨_,zdU hb,fun e h=>?_,hk⟩,fun K hK=>?_⟩
   ·rw[Array.eraseIdxIfInBounds,dif_pos hi',←Array.mem_toList_iff,Array.toList_eraseIdx]at h
    rw[←Array.mem_toList_iff]
    exact(List.eraseIdx_sublist ..).subset h
   ·unfold zfx
    simp only[hb,zn7 j es.toList kv 0 he,hf]
    exact hK
 obtain⟨h',m',u',⟨es',hb',hsub,hkv⟩,hK⟩:=sub
 refine hK K (HK h' m' u' fun es0 c0 h0=>?_)
 rw[hb]at h0
 cases h0
 refine⟨es',hb',fun e h=>⟨hsub e h,fun hkey=>?_⟩⟩
 obtain⟨i,hi,hm⟩:=hkv.key (Array.mem_toList_iff.2 h)
 rw[hkey]at hi
 cases hi
 have h1:=zn0 m'.nodup hm
 rw[zm2 hnd,if_pos rfl]at h1
 cases h1
theorem new_map {h:Heap}{K:Value→Heap→Prop}(HK:∀b h',MapI h' b []→Ext h h'→h.size≤b→K (.map (some b)) h'):newmK h K:=
 HK h.size _ ⟨#[],0,zgT,stamped_empty 0,rfl⟩ (Ext.push h _) (Nat.le_refl _)
end
end Go.Crisp
namespace Go.Proofs.YtcoimlclclnlkaaGreatDoor
open Go Go.Crisp
open _root_.Go.Proofs.Tryz
def zlv:Go.Shelf.Ren:=⟨fun n=>match n with|8=>258|11=>283|n=>n,fun n=>match n with|0=>0|24=>28|26=>2|28=>351|33=>317|n=>n,fun n=>n⟩
theorem zqQ:Go.Proofs.SlLaysZI.n8 prog zlv where
 mixed:=by kernel_rfl
 f8:=⟨"slices.Collect[int64]",by kernel_rfl,by kernel_rfl⟩
 f11:=⟨"slices.AppendSeq[[]int64,int64]",by kernel_rfl,by kernel_rfl⟩
 t0:=by kernel_rfl
 a0:=fun w=>zaD (by kernel_rfl)
 z0:=fun w=>zas (by kernel_rfl)
 v0:=fun w=>zan (by kernel_rfl)
 t24:=by kernel_rfl
 a24:=fun w=>zaD (by kernel_rfl)
 z24:=fun w=>zas (by kernel_rfl)
 v24:=fun w=>zan (by kernel_rfl)
 t26:=by kernel_rfl
 a26:=fun w=>zaD (by kernel_rfl)
 z26:=fun w=>zas (by kernel_rfl)
 v26:=fun w=>zan (by kernel_rfl)
 t28:=by kernel_rfl
 a28:=fun w=>zaD (by kernel_rfl)
 z28:=fun w=>zas (by kernel_rfl)
 v28:=fun w=>zan (by kernel_rfl)
 i26:=by kernel_rfl
def zju:Go.Shelf.Ren:=⟨fun n=>match n with|10=>284|n=>n,fun n=>match n with|0=>0|3=>28|4=>4|23=>236|26=>2|33=>317|n=>n,fun n=>n⟩
theorem zpi:Go.Proofs.SlLaysZI.n10 prog zju where
 mixed:=by kernel_rfl
 f10:=⟨"maps.Keys[map[int64][]int64,int64,[]int64]$1",by kernel_rfl,by kernel_rfl⟩
 t0:=by kernel_rfl
 a0:=fun w=>zaD (by kernel_rfl)
 z0:=fun w=>zas (by kernel_rfl)
 v0:=fun w=>zan (by kernel_rfl)
 t4:=by kernel_rfl
 a4:=fun w=>zaD (by kernel_rfl)
 z4:=fun w=>zas (by kernel_rfl)
 v4:=fun w=>zan (by kernel_rfl)
 t23:=by kernel_rfl
 a23:=fun w=>zaD (by kernel_rfl)
 z23:=fun w=>zas (by kernel_rfl)
 v23:=fun w=>zan (by kernel_rfl)
 t26:=by kernel_rfl
 a26:=fun w=>zaD (by kernel_rfl)
 z26:=fun w=>zas (by kernel_rfl)
 v26:=fun w=>zan (by kernel_rfl)
 t33:=by kernel_rfl
 a33:=fun w=>zaD (by kernel_rfl)
 z33:=fun w=>zas (by kernel_rfl)
 v33:=fun w=>zan (by kernel_rfl)
end Go.Proofs.YtcoimlclclnlkaaGreatDoor
namespace Go.Proofs.YtcoimlclclnlkaaGreatDoor
open Go Go.Crisp
def vi (x:Int):Value:=.int .i64 x
def Ints (h:Heap)(v:Value)(l:List Int):Prop:=
 ∃a cap,v=.slice a l.length cap∧(l=[]∨∃b o,a=some ⟨b,o,none⟩∧∀i (hi:i<l.length),zag h ⟨b,o+i,none⟩=some (vi l[i]))
theorem Ints.ext {h h':Heap}{v:Value}{l:List Int}(H:Ints h v l)(e:Ext h h'):Ints h' v l:=by
 obtain⟨a,cap,rfl,hl⟩:=H
 refine⟨a,cap,rfl,hl.imp id ?_⟩
 rintro⟨b,o,rfl,hc⟩
 exact⟨b,o,rfl,fun i hi=>e.cell (hc i hi)⟩
end Go.Proofs.YtcoimlclclnlkaaGreatDoor
namespace Go.Proofs.YtcoimlclclnlkaaGreatDoor
open Go Go.Crisp
attribute [local irreducible] FCall rowK newK stK iteK vK qK drawK gK joinK loopK mkK appK cpyK
def OwnI (h:Heap)(v:Value)(l:List Int):Prop:=Own 1 h v l.length (l.map vi)
theorem Ints.sl {h:Heap}{v:Value}{l:List Int}(H:Ints h v l):SlC 1 h v l.length (l.map vi):=by
 obtain⟨a,cap,rfl,H⟩:=H
 refine⟨by simp,a,cap,rfl,?_⟩
 rcases H with rfl|⟨b,o,rfl,H⟩
 ·exact .inl rfl
 ·exact .inr ⟨b,o,rfl,fun j hj=>by rw[List.getElem_map];exact H j (by simpa using hj)⟩
theorem ints_sl {h:Heap}{v:Value}{l:List Int}(H:SlC 1 h v l.length (l.map vi)):Ints h v l:=by
 obtain⟨_,a,cap,rfl,H⟩:=H
 refine⟨a,cap,rfl,?_⟩
 rcases H with H|⟨b,o,rfl,H⟩
 ·exact .inl (by simpa using H)
 ·refine .inr ⟨b,o,rfl,fun j hj=>?_⟩
  have:=H j (by simpa using hj)
  rw[List.getElem_map]at this
  exact this
theorem OwnI.ints {h:Heap}{v:Value}{l:List Int}(H:OwnI h v l):Ints h v l:=ints_sl (Own.sl H)
theorem vi_one {l:List Int}:∀v∈l.map vi,zar v=true:=by
 intro v hv
 obtain⟨x,_,rfl⟩:=List.mem_map.1 hv
 rfl
end Go.Proofs.YtcoimlclclnlkaaGreatDoor
namespace Go.Proofs.YtcoimlclclnlkaaGreatDoor
open Go Go.Crisp Go.MapKept Go.RowKit
attribute [local irreducible] rowK newK stK iteK vK qK drawK gK joinK loopK mkK appK cpyK
open _root_.Go.Proofs.Tryz
theorem own_of_row {w:World}{base:Nat}{e:TypeId}{v:Value}{xs:List Int}(H:w.ownsRow base e 1 v xs.length (xs.map encZ)):OwnI w.heap v xs∧∀b,blk v b→base≤b:=by
 obtain⟨_,H⟩:=H
 rcases H with⟨rfl,hn⟩|⟨g,cap,cur,rfl,hb,hg,hc,_,hs,ht⟩
 ·have:xs=[]:=List.eq_nil_of_length_eq_zero hn
  subst this
  exact⟨.inl ⟨rfl,rfl,rfl⟩,fun b hb=>hb.elim⟩
 ·refine⟨.inr ⟨g,cap,cur.toList.drop xs.length,e,rfl,hc,by simp,?_,?_⟩,fun b h=>by rw[show b=g from h];exact hb⟩
  ·rw[Nat.mul_one]at ht
   rw[show xs.map vi=xs.map encZ from rfl,←ht,List.take_append_drop,Array.length_toList];exact hs
  ·rw[Nat.mul_one]at ht
   rw[show xs.map vi=xs.map encZ from rfl,←ht,List.take_append_drop,Array.toArray_toList];exact hg
theorem below_ext {w w':World}(H:Below w.heap.size w w'):Same w w'∧Ext w.heap w'.heap:=⟨⟨H.os,H.tape,H.output⟩,H.size,fun b hb=>H.block b hb⟩
def noR:Value→Option (DataW Unit×List MemPlace):=fun _=>some (.nil,[])
theorem zn3 (x:Lit×DataW Unit):∀l:List (Lit×DataW Unit),(DataW.insert x l).Perm (x::l)
 | []=>List.Perm.refl _
 |y::r=>by
  unfold DataW.insert
  split
  ·exact List.Perm.refl _
  ·exact((zn3 x r).cons y).trans (List.Perm.swap x y r)
theorem zlO:∀l:List (Lit×DataW Unit),(l.foldr DataW.insert []).Perm l
 | []=>List.Perm.refl _
 |x::l=>by
  rw[List.foldr_cons]
  exact(zn3 x _).trans ((zlO l).cons x)
theorem owns_map {P:Program}{k:TypeId}{w:World}{b:Nat}{kv:List (Int×Value)}(hk:P.underlying k=some (.int .i64))(H:MapI w.heap b kv)(hw:∀p∈kv,(Lit.int .i64 p.1).wf=true)(hl:kv.length≤maxLen):
  ∃D:DataW Unit,w.ownsMap P k noR b kv.length D∧(intKeys D).Perm (kv.map Prod.fst)∧Go.Maps.size D=kv.length:=by
 obtain⟨es,c,hb,hs,he⟩:=H
 have hlen:=he.length
 have hmem:∀x∈es.toList,∃j,x.key=.int .i64 j∧(Lit.int .i64 j).wf=true:=fun x hx=>by
  have:(x.key,x.val)∈kv.map fun p=>(Value.int .i64 p.1,p.2):=by rw[←he];exact List.mem_map.2 ⟨x,hx,rfl⟩
  obtain⟨p,hp,hpe⟩:=List.mem_map.1 this
  exact⟨p.1,(congrArg Prod.fst hpe).symm,hw p hp⟩
 have hrd:∀x∈es.toList,∀j,x.key=.int .i64 j→(Lit.int .i64 j).wf=true→WideElems.rd P k noR x=some (.int .i64 j,.nil):=fun x hx j hj hwf=>by
  unfold WideElems.rd
  rw[hj]
  simp[keyOf,hk,mapKey,hwf,noR]
 refine⟨.map ((es.toList.map (WideElems.rg P k noR)).foldr DataW.insert []),⟨es,c,hb,⟨by rw[←Array.length_toList,hlen];exact hl,hs,fun x hx=>?_⟩,by rw[←Array.length_toList,hlen];exact Nat.le_refl _,rfl⟩,?_,?_⟩
 ·obtain⟨j,hj,hwf⟩:=hmem x hx
  exact⟨_,hrd x hx j hj hwf⟩
 ·have h1:(es.toList.map (WideElems.rg P k noR)).map (fun p=>_root_.Go.intOf p.1)=kv.map Prod.fst:=by
   have h2:kv.map Prod.fst=(kv.map fun p=>(Value.int .i64 p.1,p.2)).map fun q=>match q.1 with| .int _ n=>n|_=>0:=by simp[List.map_map,Function.comp_def]
   rw[h2,←he,List.map_map,List.map_map]
   refine List.map_congr_left fun x hx=>?_
   obtain⟨j,hj,hwf⟩:=hmem x hx
   simp only[Function.comp_def]
   rw[WideElems.rg_of (hrd x hx j hj hwf),hj]
   rfl
  rw[←h1]
  exact(zlO _).map _
 ·show(List.foldr DataW.insert [] _).length=_
  rw[(zlO _).length_eq,List.length_map,hlen]
theorem calls_wide {P:Program}{f:FuncId}{args:Array Value}{w:World}{n:Nat}{R R':Ending→World→Prop}(H:CallsIn Fence.wide n P f args w R)(hr:∀e w',R e w'→R' e w'):Calls P f args w R':=(callsIn_wide.1 H).mono hr
theorem c_Collect64 {h:Heap}{b1 b:Nat}{t:TypeId}{kv:List (Int×Value)}(r1:h[b1]? =some (.cells #[.map (some b)] t (0,0)))(hm:MapI h b kv)(hw:∀p∈kv,(Lit.int .i64 p.1).wf=true)(hl:kv.length≤1000000):
  FCall prog zdQ #[.func (.func zaS) #[] #[.pointer (some ⟨b1,0,none⟩)]] h fun r h'=>∃ss:List Int,ss.Perm (kv.map Prod.fst)∧OwnI h' r ss∧Ext h h'∧∀k,blk r k→h.size≤k:=by
 refine FCall.ofCalls (by kernel_rfl) fun w hh=>?_
 subst hh
 obtain⟨D,hD,hp,hs⟩:=owns_map (P:=prog) (k:=(zju).t 26) zpi.t26 hm hw (by unfold maxLen;omega)
 have seq:=AnyZI.keys_gives zpi Fence.wide 3 trivial rfl (by omega) b1 b kv.length D w (zau r1) (show zag w.heap ⟨b1,0,none⟩=_ from by rw[zad r1];rfl) hD
 have:=AnyZI.collect_in zqQ Fence.wide 5 trivial trivial rfl (by omega) _ #[.pointer (some ⟨b1,0,none⟩)] trivial (fun args w=>zh5 (by kernel_rfl)) _ _ (by rw[hs];unfold maxLen;omega) (by rw[hs];omega) w seq
 refine calls_wide this ?_
 rintro e w' ⟨v,ss,rfl,hS,hrow,_,hB⟩
 obtain⟨o,n⟩:=own_of_row hrow
 obtain⟨s,e⟩:=below_ext hB
 exact⟨v,rfl,s,ss,hS.trans hp,o,e,n⟩
end Go.Proofs.YtcoimlclclnlkaaGreatDoor
namespace Go.Proofs.YtcoimlclclnlkaaGreatDoor
open Go Go.Crisp
attribute [local irreducible] FCall rowK newK stK iteK vK qK drawK gK joinK loopK mkK appK cpyK
theorem own_nil {h:Heap}:OwnI h (.slice none 0 0) []:=.inl ⟨rfl,rfl,rfl⟩
theorem eql_nil_some (a:Addr)(n c n' c':Nat):binV .sl .eql (.slice (some a) n c) (.slice none n' c')=some (.bool false):=Eq.trans rfl rfl
theorem eql_nil_none (n c n' c':Nat):binV .sl .eql (.slice none n c) (.slice none n' c')=some (.bool true):=Eq.trans rfl rfl
theorem clone_own {e:TypeId}{h:Heap}{v:Value}{l:List Int}{K:Value→Heap→Prop}(hv:Ints h v l)(hl:l.length≤4398046511104)
  (H:∀r h',OwnI h' r l→Ext h h'→(∀b,blk r b→h.size≤b)→K r h'):rowK #[] e 0 [] h fun v2 h3=>appK (.int .i64 0) e 1 8 v2 v h3 K:=by
 refine zbI (c':=#[]) (by kernel_rfl) fun b h1 r1 e1 n1=>?_
 refine ziN (n:=0) (cs:=[]) (.inr ⟨b,0,[],e,rfl,Nat.le_refl _,rfl,rfl,r1⟩) (hv.ext e1).sl vi_one rfl (by omega) (by omega) fun s' h2 o2 f2 n2=>?_
 rw[Nat.zero_add,List.nil_append]at o2
 refine H s' h2 o2 (e1.then_fr f2 fun i hi=>by rw[show i=b from hi];exact n1) fun k hk=>?_
 rcases n2 k hk with h3|h3
 ·rw[show k=b from h3];exact n1
 ·exact Nat.le_trans e1.1 h3
theorem own_one {h:Heap}{v:Value}{l:List Int}(o:OwnI h v l):zar v=true:=by
 rcases o with⟨rfl,_⟩|⟨b,cap,r,e,rfl,_⟩<;>rfl
end Go.Proofs.YtcoimlclclnlkaaGreatDoor
namespace Go.Proofs.YtcoimlclclnlkaaGreatDoor
open Go Go.Crisp
attribute [local irreducible] FCall rowK newK stK iteK vK qK drawK gK joinK loopK mkK appK cpyK zgY zfx newmK
open _root_.Go.Proofs.Tryz
section
structure Bag (M:Nat→Prop)(h:Heap)(bx bm:Nat)(fr:Value)(w:Nat)(all:List (Value×List Int)):Prop where
 own:∀p∈all,OwnI h p.1 p.2∧p.2.length=w∧∀k,blk p.1 k→k≠bx∧k≠bm∧¬blk fr k∧M k
 apart:all.Pairwise fun a b=>∀k,blk a.1 k→¬blk b.1 k
theorem Bag.perm {M:Nat→Prop}{h:Heap}{bx bm:Nat}{fr:Value}{w:Nat}{all all':List (Value×List Int)}(B:Bag M h bx bm fr w all)(p:all'.Perm all):Bag M h bx bm fr w all' where
 own:=fun q hq=>B.own q (p.mem_iff.1 hq)
 apart:=(p.pairwise_iff (fun{x y} hxy k hk hk'=>hxy k hk' hk)).2 B.apart
theorem Bag.fr {M Q:Nat→Prop}{h h':Heap}{bx bm:Nat}{fr:Value}{w:Nat}{all:List (Value×List Int)}(B:Bag M h bx bm fr w all)(f:Fr Q h h')(q:∀p∈all,∀k,blk p.1 k→¬Q k):Bag M h' bx bm fr w all where
 own:=fun p hp=>⟨(B.own p hp).1.fr f (q p hp),(B.own p hp).2⟩
 apart:=B.apart
theorem Bag.ext {M:Nat→Prop}{h h':Heap}{bx bm:Nat}{fr:Value}{w:Nat}{all:List (Value×List Int)}(B:Bag M h bx bm fr w all)(e:Ext h h'):Bag M h' bx bm fr w all:=B.fr (Q:=fun _=>False) e.fr fun _ _ _ _=>id
theorem Bag.mono {M M':Nat→Prop}{h:Heap}{bx bm:Nat}{fr fr':Value}{w:Nat}{all:List (Value×List Int)}(B:Bag M h bx bm fr w all)(hM:∀k,M k→M' k)(hf:∀p∈all,∀k,blk p.1 k→¬blk fr' k):Bag M' h bx bm fr' w all where
 own:=fun p hp=>⟨(B.own p hp).1,(B.own p hp).2.1,fun k hk=>⟨((B.own p hp).2.2 k hk).1,((B.own p hp).2.2 k hk).2.1,hf p hp k hk,hM k ((B.own p hp).2.2 k hk).2.2.2⟩⟩
 apart:=B.apart
structure zlk (M:Nat→Prop)(h:Heap)(bx bm:Nat)(fr:Value)(t:TypeId)(room w:Nat)(es:List (Int×(Value×List Int)))(fv xs:List (Value×List Int)):Prop where
 var:h[bx]? =some (.cells #[.int .i64 room,.int .i64 w,.map (some bm),fr] t (0,0))
 map:MapI h bm (kMap Prod.fst es)
 free:Own 1 h fr fv.length (fv.map Prod.fst)
 bag:Bag M h bx bm fr w (es.map Prod.snd++fv++xs)
 ap:bx≠bm∧¬blk fr bx∧¬blk fr bm
 inM:M bx∧M bm∧∀k,blk fr k→M k
 lt:∀k,M k→k<h.size
 nums:1≤room∧room≤65536∧w≤262144
 keys:∀e∈es,(Lit.int .i64 e.1).wf=true
 len:es.length≤room
 tot:es.length+fv.length+xs.length≤room+1
def zcF (M:Nat→Prop)(h:Heap)(v:Value)(room w:Nat)(rs:List (Int×List Int)):Prop:=
 ∃bx bm fr t es fv,v=.pointer (some ⟨bx,0,none⟩)∧zlk M h bx bm fr t room w es fv []∧rs=kMap Prod.snd es∧es.length+fv.length≤room
theorem zlk.fr {M Q:Nat→Prop}{h h':Heap}{bx bm:Nat}{fr:Value}{t:TypeId}{room w:Nat}{es:List (Int×(Value×List Int))}{fv xs:List (Value×List Int)}(R:zlk M h bx bm fr t room w es fv xs)(f:Fr Q h h')(q:∀b,b<h.size→M b→¬Q b):zlk M h' bx bm fr t room w es fv xs:=
 {R with
  var:=f.row R.var (q bx (R.lt _ R.inM.1) R.inM.1)
  map:=R.map.fr f (q bm (R.lt _ R.inM.2.1) R.inM.2.1)
  free:=R.free.fr f fun k hk=>q k (R.lt _ (R.inM.2.2 k hk)) (R.inM.2.2 k hk)
  bag:=R.bag.fr f fun p hp k hk=>q k (R.lt _ ((R.bag.own p hp).2.2 k hk).2.2.2) ((R.bag.own p hp).2.2 k hk).2.2.2
  lt:=fun k hk=>Nat.lt_of_lt_of_le (R.lt k hk) f.1}
theorem zcF.fr {M Q:Nat→Prop}{h h':Heap}{v:Value}{room w:Nat}{rs:List (Int×List Int)}(H:zcF M h v room w rs)(f:Fr Q h h')(q:∀b,b<h.size→M b→¬Q b):zcF M h' v room w rs:=by
 obtain⟨bx,bm,fr,t,es,fv,rfl,R,h1,h2⟩:=H
 exact⟨bx,bm,fr,t,es,fv,rfl,R.fr f q,h1,h2⟩
theorem zcF.ext {M:Nat→Prop}{h h':Heap}{v:Value}{room w:Nat}{rs:List (Int×List Int)}(H:zcF M h v room w rs)(e:Ext h h'):zcF M h' v room w rs:=H.fr (Q:=fun _=>False) e.fr fun _ _ _=>id
theorem zcF.lt {M:Nat→Prop}{h:Heap}{v:Value}{room w:Nat}{rs:List (Int×List Int)}(H:zcF M h v room w rs){b:Nat}(hb:M b):b<h.size:=by
 obtain⟨bx,bm,fr,t,es,fv,rfl,R,h1,h2⟩:=H
 exact R.lt b hb
theorem zcF.nodup {M:Nat→Prop}{h:Heap}{v:Value}{room w:Nat}{rs:List (Int×List Int)}(H:zcF M h v room w rs):(rs.map Prod.fst).Nodup:=by
 obtain⟨bx,bm,fr,t,es,fv,rfl,R,rfl,h2⟩:=H
 rw[zig,←zig Prod.fst]
 exact R.map.nodup
theorem zcF.nums {M:Nat→Prop}{h:Heap}{v:Value}{room w:Nat}{rs:List (Int×List Int)}(H:zcF M h v room w rs):1≤room∧room≤65536∧w≤262144∧rs.length≤room∧(∀p∈rs,p.2.length=w∧(Lit.int .i64 p.1).wf=true):=by
 obtain⟨bx,bm,fr,t,es,fv,rfl,R,rfl,h2⟩:=H
 refine⟨R.nums.1,R.nums.2.1,R.nums.2.2,by simpa[kMap]using R.len,fun p hp=>?_⟩
 obtain⟨e,he,rfl⟩:=List.mem_map.1 hp
 exact⟨(R.bag.own e.2 (by simp;exact .inl ⟨e.1,he⟩)).2.1,R.keys e he⟩
def roomN (a:Int):Nat:=(min (max 1 a) 65536).toNat
def zek (a:Int):Nat:=(min (max 0 a) 262144).toNat
theorem c_RNew {h:Heap}(a b:Int):FCall prog zlZ #[.int .i64 a,.int .i64 b] h fun r h'=>∃M,zcF M h' r (roomN a) (zek b) []∧Ext h h'∧∀k,M k→h.size≤k:=by
 apply ok_ring_New
 unfold zng
 have ha:min (max 1 a) 65536=((roomN a:Nat):Int):=by unfold roomN;omega
 have hb:min (max 0 b) 262144=((zek b:Nat):Int):=by unfold zek;omega
 have h1:1≤roomN a∧roomN a≤65536:=by unfold roomN;omega
 have h2:zek b≤262144:=by unfold zek;omega
 simp only[go_sem,ha,hb]
 generalize roomN a=room at h1
 generalize zek b=w at h2
 refine new_map fun bm h3 m3 e3 n3=>?_
 rw[vK_map _ #[.int .i64 room,.int .i64 w,.map (some bm),.slice none 0 0] (by kernel_rfl)]
 refine zah (c:=#[.int .i64 room,.int .i64 w,.map (some bm),.slice none 0 0]) fun bx h4 r4' e4 n4=>?_
 obtain⟨t,r4⟩:∃t,h4[bx]? =some (.cells #[.int .i64 room,.int .i64 w,.map (some bm),.slice none 0 0] t (0,0)):=⟨_,r4'⟩
 have lm:=m3.lt
 refine⟨fun k=>k=bx∨k=bm,⟨bx,bm,.slice none 0 0,t,[],[],rfl,?_,rfl,by simp⟩,e3.trans e4,?_⟩
 ·exact{
   var:=r4,map:=m3.ext e4,free:=.inl ⟨rfl,rfl,rfl⟩,bag:=⟨fun p hp=>absurd hp (by simp),List.Pairwise.nil⟩
   ap:=⟨by omega,fun h=>h.elim,fun h=>h.elim⟩,inM:=⟨.inl rfl,.inr rfl,fun k hk=>hk.elim⟩
   lt:=fun k hk=>by
    rcases hk with rfl|rfl
    ·exact zau r4
    ·exact(m3.ext e4).lt
   nums:=⟨h1.1,h1.2,h2⟩,keys:=fun e he=>absurd he (by simp),len:=by simp,tot:=by simp}
 ·rintro k (rfl|rfl)
  ·exact Nat.le_trans e3.1 n4
  ·exact n3
section
variable {M:Nat→Prop}{h:Heap}{v:Value}{room w:Nat}{rs:List (Int×List Int)}
theorem c_RWidth (H:zcF M h v room w rs):FCall prog zd5 #[v] h fun r h'=>r=.int .i64 (w:Nat)∧h'=h:=by
 obtain⟨bx,bm,fr,t,es,fv,rfl,R,rfl,h2⟩:=H
 apply zkW
 unfold zfW
 simp only[go_sem,zad R.var]
 exact⟨trivial,trivial⟩
theorem c_RWords (H:zcF M h v room w rs):FCall prog zd4 #[v] h fun r h'=>r=.int .i64 ((room:Int)*w)∧h'=h:=by
 obtain⟨bx,bm,fr,t,es,fv,rfl,R,rfl,h2⟩:=H
 apply zkV
 unfold zfV
 have hn:=R.nums
 have hm:room*w≤65536*262144:=Nat.mul_le_mul hn.2.1 hn.2.2
 have hm':((room*w:Nat):Int)=(room:Int)*w:=Int.natCast_mul ..
 simp only[go_sem,zad R.var]
 rw[w64 (by omega) (by omega)]
 exact⟨rfl,trivial⟩
theorem c_RHas (H:zcF M h v room w rs)(j:Int):FCall prog zdF #[v,.int .i64 j] h fun r h'=>r=.bool (kGet j rs).isSome∧h'=h:=by
 obtain⟨bx,bm,fr,t,es,fv,rfl,R,rfl,h2⟩:=H
 apply zmM
 unfold zhu
 simp only[go_sem,zad R.var,zqM R.map]
 rw[zf9,zf9]
 cases kGet j es with
 |none=>simp only[Option.map_none,lookR,cond_true,go_sem];exact⟨rfl,trivial⟩
 |some p=>simp only[Option.map_some,lookR,cond_true,go_sem];exact⟨rfl,trivial⟩
theorem zpF {h:Heap}{v:Value}{l:List Int}(hv:Ints h v l)(hl:l.length≤4398046511104):
  FCall prog zaL #[v] h fun r h'=>OwnI h' r l∧Ext h h'∧∀b,blk r b→h.size≤b:=by
 apply zce
 unfold zbg
 have hv0:=hv
 obtain⟨a,cap,rfl,hv⟩:=hv
 cases a with
 |none=>
  simp only[eql_nil_none,go_sem]
  rcases hv with rfl|⟨b,o,h1,_⟩
  ·exact⟨own_nil,Ext.refl h,fun b hb=>hb.elim⟩
  ·cases h1
 |some a=>
  simp only[eql_nil_some,go_sem]
  exact clone_own hv0 hl fun r h' o e n=>⟨o,e,n⟩
theorem c_RRow (H:zcF M h v room w rs)(j:Int):FCall prog zfF #[v,.int .i64 j] h fun r h'=>∃u,r=.tuple #[u,.bool (kGet j rs).isSome]∧OwnI h' u ((kGet j rs).getD [])∧Ext h h'∧∀b,blk u b→h.size≤b:=by
 have hnum:=H.nums
 obtain⟨bx,bm,fr,t,es,fv,rfl,R,rfl,h2⟩:=H
 apply zmK
 unfold zhs
 simp only[go_sem,zad R.var,zqM R.map]
 rw[zf9,zf9]
 cases hg:kGet j es with
 |none=>
  simp only[Option.map_none,lookR,cond_true,go_sem]
  refine(zpF (v:=.slice none 0 0) (l:=[]) ⟨none,0,rfl,.inl rfl⟩ (by simp)).mono ?_
  rintro u h1 ⟨o,e,n⟩
  exact⟨u,rfl,o,e,n⟩
 |some p=>
  simp only[Option.map_some,lookR,cond_true,go_sem]
  have hp:=R.bag.own p (by simp;exact .inl ⟨j,zqS hg⟩)
  refine(zpF hp.1.ints (by rw[hp.2.1];omega)).mono ?_
  rintro u h1 ⟨o,e,n⟩
  exact⟨u,rfl,o,e,n⟩
def minL:List Int→Int
 | []=>0
 |x::l=>l.foldl min x
theorem minL_perm {a b:List Int}(h:a.Perm b):minL a=minL b:=by
 have key:∀(l:List Int) (x:Int),(∀y∈x::l,l.foldl min x≤y)∧l.foldl min x∈x::l:=by
  intro l
  induction l with
  |nil=>intro x;simp
  | cons z l ih=>
   intro x
   rw[List.foldl_cons]
   obtain⟨h1,h2⟩:=ih (min x z)
   have h3:=h1 (min x z) (List.mem_cons_self ..)
   refine⟨fun y hy=>?_,?_⟩
   ·rcases List.mem_cons.1 hy with rfl|hy
    ·omega
    ·rcases List.mem_cons.1 hy with rfl|hy
     ·omega
     ·exact h1 y (List.mem_cons_of_mem _ hy)
   ·rcases List.mem_cons.1 h2 with h2|h2
    ·rw[h2]
     rcases Int.le_total x z with hxz|hxz
     ·rw[Int.min_eq_left hxz];simp
     ·rw[Int.min_eq_right hxz];simp
    ·exact List.mem_cons_of_mem _ (List.mem_cons_of_mem _ h2)
 cases a with
 |nil=>have:=h.nil_eq;subst this;rfl
 | cons x l=>
  cases b with
  |nil=>have:=h.symm.nil_eq;cases this
  |cons y m=>
   obtain⟨a1,a2⟩:=key l x
   obtain⟨b1,b2⟩:=key m y
   exact Int.le_antisymm (a1 _ (h.mem_iff.2 b2)) (b1 _ (h.mem_iff.1 a2))
theorem minL_push {l:List Int}(h:l≠[])(x:Int):minL (l++[x])=min (minL l) x:=by
 cases l with
 |nil=>exact absurd rfl h
 |cons y l=>simp[minL]
theorem c_Min64 {h:Heap}{v:Value}{l:List Int}(hv:Ints h v l)(h0:l≠[])(hl:l.length≤4398046511104):
  FCall prog zbG #[v] h fun r h'=>r=.int .i64 (minL l)∧h'=h:=by
 apply zeV
 unfold zcv
 have hp:0<l.length:=List.length_pos_iff.2 h0
 have hs:=hv.sl
 obtain⟨a,cap,rfl,_⟩:=hv
 refine zat (fun xs h'=>xs=[]∧h'=h) ?_ ?_
 ·simp only[go_sem]
  refine zab (fun h1=>by omega) (fun _=>⟨trivial,trivial⟩)
 ·rintro _ ρj h' ⟨rfl,hh⟩
  subst hh
  obtain⟨p,hp0,hq0⟩:=hs.at1 (k:=.i64) (i:=0) hp
  rw[List.getElem_map]at hq0
  rw[show((0:Nat):Int)=0 from rfl]at hp0
  simp only[go_sem,hp0,hq0]
  refine zbh (fun d xs h''=>h''=h'∧∃(k:Nat),1≤k∧k≤l.length∧d=l.length-k∧xs=[.int .i64 (minL (l.take k)),.int .i64 (k:Int)]) (l.length-1)
   ⟨rfl,1,by omega,by omega,rfl,?_⟩ ?_
  ·cases l with
   |nil=>exact absurd rfl h0
   |cons x l=>rfl
  ·rintro d _ ρj _ again ⟨rfl,k,h1,hk,rfl,rfl⟩ hag
   simp only[go_sem]
   refine zab (fun hlt=>?_) (fun hge=>?_)
   ·have hk':k<l.length:=by omega
    obtain⟨p,hp1,hq1⟩:=hs.at1 (k:=.i64) hk'
    rw[List.getElem_map]at hq1
    simp only[go_sem,hp1,hq1,vi]
    rw[w64 (by omega) (by omega)]
    refine hag _ _ (l.length-(k+1)) (by omega) ⟨rfl,k+1,by omega,by omega,rfl,?_⟩
    have hne:l.take k≠[]:=fun h=>by
     have h9:=congrArg List.length h
     rw[List.length_take,List.length_nil]at h9
     omega
    rw[List.take_succ_eq_append_getElem hk',minL_push hne]
    rfl
   ·rw[List.take_of_length_le (by omega)]
    exact⟨rfl,trivial⟩
theorem c_RFirst (H:zcF M h v room w rs):FCall prog zd6 #[v] h fun r h'=>r=.tuple #[.int .i64 (minL (rs.map Prod.fst)),.bool (!decide (rs=[]))]∧Ext h h':=by
 have hnum:=H.nums
 obtain⟨bx,bm,fr,t,es,fv,rfl,R,rfl,h2⟩:=H
 apply zkX
 unfold zfX
 by_cases h0:es=[]
 ·subst h0
  simp only[go_sem,zad R.var,len_map R.map,kMap,List.map_nil,List.length_nil,Int.natCast_zero]
  exact⟨rfl,Ext.refl h⟩
 ·have hl:¬(((kMap Prod.fst es).length:Nat):Int)=0:=by
   simp only[kMap,List.length_map]
   have:=List.length_pos_iff.2 h0
   omega
  simp only[go_sem,zad R.var,len_map R.map,hl]
  apply zb0
  unfold zaX
  refine zah fun b1 h1 r1 e1 n1=>?_
  have hlen:(kMap Prod.fst es).length≤1000000:=by
   have:=R.len;have:=R.nums
   simp only[kMap,List.length_map];omega
  refine(c_Collect64 r1 (R.map.ext e1) (fun p hp=>?_) hlen).mono ?_
  ·obtain⟨e,he,rfl⟩:=List.mem_map.1 hp
   exact R.keys e he
  rintro u h3 ⟨ss,hperm,o3,e3,n3⟩
  have hsl:ss.length=es.length:=by rw[hperm.length_eq];simp[kMap]
  refine(c_Min64 o3.ints (by intro h;subst h;simp at hsl;exact h0 (List.eq_nil_of_length_eq_zero hsl.symm)) (by have:=R.len;have:=R.nums;omega)).mono ?_
  rintro _ h4 ⟨rfl,rfl⟩
  refine⟨?_,e1.trans e3⟩
  rw[minL_perm hperm,zig,zig]
  have:¬kMap Prod.snd es=[]:=by simpa[kMap]using h0
  simp[this]
end
end
theorem zm3 {α:Type}{j:Int}{p:α}{es:List (Int×α)}(hg:kGet j es=some p):(kDel j es).length+1=es.length:=by
 have:=(zn2 hg).length_eq
 simpa using this.symm
theorem c_drop {M:Nat→Prop}{h:Heap}{bx bm:Nat}{fr:Value}{t:TypeId}{room w:Nat}{es:List (Int×(Value×List Int))}{fv:List (Value×List Int)}(R:zlk M h bx bm fr t room w es fv []){j:Int}{p:Value×List Int}(hg:kGet j es=some p):
  FCall prog zeF #[.pointer (some ⟨bx,0,none⟩),.int .i64 j] h fun _ h'=>∃M' fr',zlk M' h' bx bm fr' t room w (kDel j es) (fv++[p]) []∧Fr M h h'∧(∀k,M' k→M k∨h.size≤k)∧
   ∀es0 c,h[bm]? =some (.map es0 c)→∃es1,h'[bm]? =some (.map es1 c)∧∀e∈es1,e∈es0∧e.key≠ .int .i64 j:=by
 apply zlA
 unfold zgA
 refine zap (fun hh=>hh[bx]? =some (.cells #[.int .i64 room,.int .i64 w,.map (some bm),fr] t (0,0))∧hh[bm]? =h[bm]?) ⟨R.var,rfl⟩ ?_
 try simp only[go_sem]
 refine zaf fr (fun hh S=>by rw[zad S.1];rfl) ?_
 refine zaf (.map (some bm)) (fun hh S=>by rw[zad S.1];rfl) ?_
 refine zaf p.1 (fun hh S=>by rw[zqM (R.map.row S.2),zf9,hg];rfl) ?_
 have hmem:p∈es.map Prod.snd++fv++[]:=by simp;exact .inl ⟨j,zqS hg⟩
 have hp:=R.bag.own p hmem
 have hp1:=own_one hp.1
 refine zbI (Rp.fill_one hp1) fun b1 h1 r1 e1 n1=>?_
 have lbx:=zau R.var
 have lbm:=R.map.lt
 refine⟨⟨e1.row R.var,e1.2 bm lbm⟩,?_⟩
 have S1:=Rp.SlC.single (cs:=[p.1]) r1
 have hnum:=R.nums
 have htot:=R.tot
 simp only[List.length_nil,Nat.add_zero]at htot
 refine ziN (R.free.fr (M:=fun _=>False) e1.fr fun _ _=>id) S1 (zac hp1 zal) rfl (by omega) (by omega) fun fr' h2 o2 f2 n2=>?_
 have v2:=f2.row (e1.row R.var) R.ap.2.1
 have m2:h2[bm]? =h[bm]? :=(f2.2 bm (Nat.lt_of_lt_of_le lbm e1.1) R.ap.2.2).trans (e1.2 bm lbm)
 refine⟨⟨v2,m2⟩,?_⟩
 have frbx:∀k,blk fr' k→k≠bx∧k≠bm:=fun k hk=>by
  rcases n2 k hk with h3|h3
  ·exact⟨fun h4=>R.ap.2.1 (h4▸h3),fun h4=>R.ap.2.2 (h4▸h3)⟩
  ·have:=e1.1;exact⟨by omega,by omega⟩
 obtain⟨fa,fc,rfl⟩:∃a c,fr'=.slice a (fv.length+1) c:=o2.isSl
 try simp only[go_sem]
 refine zaA (o:=3) v2 (by simp) rfl fun h3 r3 u3=>?_
 have r3:h3[bx]? =some (.cells #[.int .i64 room,.int .i64 w,.map (some bm),.slice fa (fv.length+1) fc] t (0,0)):=r3
 have m3:h3[bm]? =h[bm]? :=(u3.2 bm (Ne.symm R.ap.1)).trans m2
 simp only[go_sem,zad r3]
 refine del_map' (R.map.row m3) fun h4 m4 u4 d4=>?_
 have f04:Fr (fun k=>M k) h h4:=((e1.fr.trans (f2.mono fun k _ hk=>R.inM.2.2 k hk)).trans (u3.fr.mono fun k _ hk=>by rw[show k=bx from hk];exact R.inM.1)).trans (u4.fr.mono fun k _ hk=>by rw[show k=bm from hk];exact R.inM.2.1)
 have fbx:∀k,M k→k<h.size:=R.lt
 have hperm:(((kDel j es).map Prod.snd++(fv++[p]))++[]).Perm (es.map Prod.snd++fv++[]):=by
  have h5:=(zn2 hg).map Prod.snd
  rw[List.map_cons]at h5
  rw[List.append_nil,List.append_nil,←List.append_assoc]
  exact(List.perm_append_comm (l₁:=(kDel j es).map Prod.snd++fv) (l₂:=[p])).trans (h5.symm.append_right fv)
 have hblk:∀q∈es.map Prod.snd++fv++[],∀k,blk q.1 k→k≠bx∧k≠bm∧¬blk fr k∧M k:=fun q hq=>(R.bag.own q hq).2.2
 have bag4:Bag M h4 bx bm fr w (es.map Prod.snd++fv++[]):=by
  refine(((R.bag.ext e1).fr f2 fun q hq k hk=>(hblk q hq k hk).2.2.1).fr u3.fr fun q hq k hk=>(hblk q hq k hk).1).fr u4.fr fun q hq k hk=>(hblk q hq k hk).2.1
 refine⟨fun k=>M k∨blk (.slice fa (fv.length+1) fc) k,.slice fa (fv.length+1) fc,?_,f04,fun k hk=>?_,?_⟩
 ·exact{
   var:=u4.row (fun h=>R.ap.1 h) r3
   map:=by rw[zqU]at m4;exact m4
   free:=by
    have:=(o2.fr u3.fr fun k hk=>(frbx k hk).1).fr u4.fr fun k hk=>(frbx k hk).2
    rw[List.length_append,List.map_append]
    exact this
   bag:=(bag4.mono (fun k hk=>.inl hk) fun q hq k hk hk'=>by
    rcases n2 k hk' with h5|h5
    ·exact(hblk q hq k hk).2.2.1 h5
    ·have:=R.lt k (hblk q hq k hk).2.2.2;have:=e1.1;omega).perm hperm
   ap:=⟨R.ap.1,fun hk=>(frbx _ hk).1 rfl,fun hk=>(frbx _ hk).2 rfl⟩
   inM:=⟨.inl R.inM.1,.inl R.inM.2.1,fun k hk=>.inr hk⟩
   lt:=fun k hk=>by
    rcases hk with hk|hk
    ·exact Nat.lt_of_lt_of_le (R.lt k hk) f04.1
    ·have:=o2.lt hk;have:=u3.1;have:=u4.1;omega
   nums:=R.nums
   keys:=fun e he=>R.keys e (zqT.subset he)
   len:=by have:=zm3 hg;have:=R.len;omega
   tot:=by have:=zm3 hg;simp;omega}
 ·rcases hk with hk|hk
  ·exact .inl hk
  ·rcases n2 k hk with h5|h5
   ·exact .inl (R.inM.2.2 k h5)
   ·exact .inr (Nat.le_trans e1.1 h5)
 ·intro es0 c hb0
  exact d4 es0 c (m3.trans hb0)
theorem Own.shrink {h:Heap}{v:Value}{n:Nat}{cs:List Value}(H:Own 1 h v n cs)(hn:0<n):∃v',slcV 1 v none (some (.int .i64 ((n-1:Nat):Int)))=some v'∧Own 1 h v' (n-1) cs.dropLast∧(∀k,blk v' k→blk v k):=by
 rcases H with⟨rfl,rfl,rfl⟩|⟨b,cap,r,e,rfl,hc,hl,hr,hb⟩
 ·omega
 ·have hne:cs≠[]:=fun h0=>by rw[h0]at hl;simp at hl;omega
  refine⟨.slice (some ⟨b,0,none⟩) (n-1) cap,?_,.inr ⟨b,cap,cs.getLast hne::r,e,rfl,by omega,by simp;omega,?_,?_⟩,fun k hk=>hk⟩
  ·have h1:(0:Int)≤((n-1:Nat):Int)∧((n-1:Nat):Int)≤(cap:Int):=by omega
   have h2:¬cap=0:=by omega
   simp only[slcV,bdV,if_pos h1,Int.toNat_natCast,if_neg h2,Option.map_some,zd1,Nat.sub_zero,Nat.zero_mul,Nat.add_zero]
  ·rw[←hr]
   conv=>rhs;rw[←List.dropLast_concat_getLast hne]
   simp
  ·rw[hb]
   conv=>lhs;rw[←List.dropLast_concat_getLast hne]
   simp
theorem Bag.last {M:Nat→Prop}{h h':Heap}{bx bm:Nat}{fr:Value}{w:Nat}{all:List (Value×List Int)}{u:Value}{l0 l:List Int}(B:Bag M h bx bm fr w (all++[(u,l0)]))(f:Fr (blk u) h h')(o:OwnI h' u l)(hl:l.length=w):Bag M h' bx bm fr w (all++[(u,l)]) where
 own:=fun p hp=>by
  rcases List.mem_append.1 hp with hp|hp
  ·have h1:=B.own p (List.mem_append_left _ hp)
   have h2:=(List.pairwise_append.1 B.apart).2.2 p hp (u,l0) (by simp)
   exact⟨h1.1.fr f fun k hk=>h2 k hk,h1.2⟩
  ·rw[List.mem_singleton.1 hp]
   exact⟨o,hl,(B.own (u,l0) (by simp)).2.2⟩
 apart:=by
  have h1:=List.pairwise_append.1 B.apart
  refine List.pairwise_append.2 ⟨h1.1,by simp,fun a ha b hb=>?_⟩
  rw[List.mem_singleton.1 hb]
  exact h1.2.2 a ha (u,l0) (by simp)
theorem c_space {M:Nat→Prop}{h:Heap}{bx bm:Nat}{fr:Value}{t:TypeId}{room w:Nat}{es:List (Int×(Value×List Int))}{fv:List (Value×List Int)}(R:zlk M h bx bm fr t room w es fv [])(h1:es.length<room)(h2:es.length+fv.length≤room):
  FCall prog zd3 #[.pointer (some ⟨bx,0,none⟩)] h fun u h'=>∃M' fr' fv' l0,zlk M' h' bx bm fr' t room w es fv' [(u,l0)]∧Fr M h h'∧(∀k,M' k→M k∨h.size≤k)∧es.length+1+fv'.length≤room:=by
 apply zkU
 unfold zfU
 have hnum:=R.nums
 obtain⟨fa,fc,rfl⟩:=R.free.isSl
 simp only[go_sem,zad R.var]
 refine zab (fun hp=>?_) (fun hz=>?_)
 ·have hp:0<fv.length:=by omega
  have hsub:IntKind.i64.wrap ((fv.length:Int)-1)=((fv.length-1:Nat):Int):=by rw[w64 (by omega) (by omega)];omega
  obtain⟨p,hp1,hq1⟩:=R.free.sl.at1 (k:=.i64) (i:=fv.length-1) (by omega)
  obtain⟨v',hv',ov',bv'⟩:=Own.shrink R.free hp
  rw[hsub,hp1,zaa,hq1,zaa,hv',zaa]
  have hne:fv≠[]:=List.length_pos_iff.1 hp
  have hlast:(fv.map Prod.fst)[fv.length-1]'(by simp;omega)=(fv.getLast hne).1:=by
   rw[List.getElem_map];congr 1
   rw[List.getLast_eq_getElem]
  rw[hlast]
  refine zaA (o:=3) R.var (by simp) (by obtain⟨_,_,rfl⟩:=ov'.isSl;rfl) fun h3 r3 u3=>?_
  have r3:h3[bx]? =some (.cells #[.int .i64 room,.int .i64 w,.map (some bm),v'] t (0,0)):=r3
  have hdl:fv.dropLast.map Prod.fst=(fv.map Prod.fst).dropLast:=by simp
  refine⟨M,v',fv.dropLast,(fv.getLast hne).2,?_,u3.fr.mono fun k _ hk=>by rw[show k=bx from hk];exact R.inM.1,fun k hk=>.inl hk,by simp;omega⟩
  have hbx:∀k,blk v' k→k≠bx:=fun k hk hkb=>R.ap.2.1 (hkb▸bv' k hk)
  have hperm:(es.map Prod.snd++fv.dropLast++[fv.getLast hne]).Perm (es.map Prod.snd++fv++[]):=by
   rw[List.append_assoc,List.dropLast_concat_getLast hne,List.append_nil]
  exact{
   var:=r3
   map:=R.map.row (u3.2 bm (Ne.symm R.ap.1))
   free:=by rw[List.length_dropLast,hdl];exact ov'.fr u3.fr fun k hk=>hbx k hk
   bag:=((R.bag.fr u3.fr fun q hq k hk=>((R.bag.own q hq).2.2 k hk).1).mono (fun k hk=>hk) fun q hq k hk hk'=>((R.bag.own q hq).2.2 k hk).2.2.1 (bv' k hk')).perm hperm
   ap:=⟨R.ap.1,fun hk=>R.ap.2.1 (bv' _ hk),fun hk=>R.ap.2.2 (bv' _ hk)⟩
   inM:=⟨R.inM.1,R.inM.2.1,fun k hk=>R.inM.2.2 k (bv' k hk)⟩
   lt:=fun k hk=>by rw[u3.1];exact R.lt k hk
   nums:=R.nums,keys:=R.keys,len:=R.len
   tot:=by simp;omega}
 ·have hfv:fv=[]:=List.eq_nil_of_length_eq_zero (by omega)
  subst hfv
  refine zlI rfl (by omega) (by omega) fun u h3 o3 e3 n3=>?_
  have o3':OwnI h3 u (List.replicate w 0):=by
   unfold OwnI;rw[List.length_replicate,List.map_replicate];exact o3
  have R3:=R.fr (Q:=fun _=>False) e3.fr fun _ _ _=>id
  refine⟨fun k=>M k∨blk u k,.slice fa ([]:List (Value×List Int)).length fc,[],List.replicate w 0,?_,e3.fr,fun k hk=>hk.imp id (n3 k),by simp;omega⟩
  have hu:∀k,blk u k→¬M k:=fun k hk hm=>by have:=R.lt k hm;have:=n3 k hk;omega
  exact{R3 with
   bag:=by
    refine⟨fun q hq=>?_,?_⟩
    ·rcases List.mem_append.1 hq with hq|hq
     ·have h5:=R3.bag.own q (by simpa using hq)
      exact⟨h5.1,h5.2.1,fun k hk=>⟨(h5.2.2 k hk).1,(h5.2.2 k hk).2.1,(h5.2.2 k hk).2.2.1,.inl (h5.2.2 k hk).2.2.2⟩⟩
     ·rw[List.mem_singleton.1 hq]
      exact⟨o3',by simp,fun k hk=>⟨fun h=>hu k hk (h▸R.inM.1),fun h=>hu k hk (h▸R.inM.2.1),fun h=>hu k hk (R.inM.2.2 k h),.inr hk⟩⟩
    ·refine List.pairwise_append.2 ⟨by simpa using R3.bag.apart,by simp,fun a ha b hb k hk hk'=>?_⟩
     rw[List.mem_singleton.1 hb]at hk'
     exact hu k hk' ((R3.bag.own a (by simpa using ha)).2.2 k hk).2.2.2
   inM:=⟨.inl R.inM.1,.inl R.inM.2.1,fun k hk=>.inl (R.inM.2.2 k hk)⟩
   lt:=fun k hk=>by
    rcases hk with hk|hk
    ·exact R3.lt k hk
    ·exact o3.lt hk
   tot:=by simp;omega}
def fullB (room:Nat)(rs:List (Int×List Int)):Bool:=decide (room≤rs.length)
def putOk (room w:Nat)(rs:List (Int×List Int))(j:Int)(l:List Int):Bool:=decide (l.length=w)&&((kGet j rs).isNone&& !(fullB room rs&&decide (j<minL (rs.map Prod.fst))))
def zeC (room:Nat)(rs:List (Int×List Int)):List (Int×List Int):=if fullB room rs=true then kDel (minL (rs.map Prod.fst)) rs else rs
def putR (room w:Nat)(rs:List (Int×List Int))(j:Int)(l:List Int):List (Int×List Int):=if putOk room w rs j l=true then zeC room rs++[(j,l)]else rs
theorem minL_mem {l:List Int}(h:l≠[]):minL l∈l:=by
 have key:∀(l:List Int) (x:Int),l.foldl min x∈x::l:=by
  intro l
  induction l with
  |nil=>intro x;simp
  | cons z l ih=>
   intro x
   rw[List.foldl_cons]
   rcases List.mem_cons.1 (ih (min x z))with h2|h2
   ·rw[h2]
    rcases Int.le_total x z with hxz|hxz
    ·rw[Int.min_eq_left hxz];simp
    ·rw[Int.min_eq_right hxz];simp
   ·exact List.mem_cons_of_mem _ (List.mem_cons_of_mem _ h2)
 cases l with
 |nil=>exact absurd rfl h
 |cons x l=>exact key l x
theorem c_RPut {M:Nat→Prop} {h:Heap} {v u:Value} {room w:Nat} {rs:List (Int×List Int)} (H:zcF M h v room w rs) {j:Int} (hj:(Lit.int .i64 j).wf=true) {l:List Int} (hu:Ints h u l) (hul:l.length≤9223372036854775807) (hn:∀b,blk u b→¬M b):
  FCall prog zfG #[v,.int .i64 j,u] h fun r h'=>r=.bool (putOk room w rs j l)∧∃M',zcF M' h' v room w (putR room w rs j l)∧Fr M h h'∧∀k,M' k→M k∨h.size≤k:=by
 have H0:=H
 have hnd:=H.nodup
 have hnum:=H.nums
 have hfirst:=fun h' (e:Ext h h')=>c_RFirst (H.ext e)
 obtain⟨bx,bm,fr,t,es,fv,rfl,R,hrs,hlen⟩:=H
 apply zmL
 unfold zht
 have hu0:=hu
 obtain⟨ua,uc,rfl,_⟩:=hu
 have no:putOk room w rs j l=false→∀h',Ext h h'→∃M',zcF M' h' (.pointer (some ⟨bx,0,none⟩)) room w (putR room w rs j l)∧Fr M h h'∧∀k,M' k→M k∨h.size≤k:=fun hp h' e=>
  ⟨M,by unfold putR;rw[hp];exact H0.ext e,e.fr,fun k hk=>.inl hk⟩
 by_cases hw:l.length=w
 ·have hw':(l.length:Int)=(w:Int):=by omega
  simp only[go_sem,zad R.var,hw']
  refine(c_RHas H0 j).mono ?_
  rintro _ h1 ⟨rfl,hh⟩
  subst hh
  try simp only[go_sem]
  cases hg:kGet j rs with
  |some q=>
   simp only[Option.isSome_some,go_sem]
   have hp:putOk room w rs j l=false:=by simp[putOk,hg]
   exact⟨by rw[hp],no hp _ (Ext.refl _)⟩
  | none=>
   simp only[Option.isSome_none,go_sem]
   refine zat (fun xs h'=>xs=[]∧putOk room w rs j l=true∧∃M' fr' es' fv',zlk M' h' bx bm fr' t room w es' fv' []∧es'.length<room∧es'.length+fv'.length≤room∧kMap Prod.snd es'=zeC room rs∧Fr M h1 h'∧∀k,M' k→M k∨h1.size≤k) ?_ ?_
   ·refine(c_RFirst H0).mono ?_
    rintro _ h2 ⟨rfl,e2⟩
    have R2:=R.fr (Q:=fun _=>False) e2.fr fun _ _ _=>id
    have hll:(kMap Prod.fst es).length=rs.length:=by rw[hrs];simp[kMap]
    simp only[go_sem,zad R2.var,len_map R2.map,hll]
    refine zab (fun hfull=>?_) (fun hnot=>?_)
    ·have hfull:room≤rs.length:=by omega
     have hf:fullB room rs=true:=by simp[fullB,hfull]
     refine zab (fun hlt=>?_) (fun hge=>?_)
     ·have hp:putOk room w rs j l=false:=by simp[putOk,hf,hlt]
      exact⟨by rw[hp],no hp _ e2⟩
     ·have hp:putOk room w rs j l=true:=by simp[putOk,hf,hge,hg,hw]
      have hne:rs.map Prod.fst≠[]:=fun h0=>by
       have:=congrArg List.length h0
       simp at this
       rw[this]at hfull;simp at hfull;omega
      have hmem:=minL_mem hne
      generalize hm:minL (rs.map Prod.fst)=m at hmem
      have hk:∃p,kGet m es=some p:=by
       cases hc:kGet m es with
       |some p=>exact⟨p,rfl⟩
       |none=>
        have:=zfy.1 hc
        rw[hrs,zig]at hmem
        exact absurd hmem this
      obtain⟨p,hk⟩:=hk
      refine(c_drop R2 hk).mono ?_
      rintro _ h3 ⟨M',fr',R3,f3,n3,_⟩
      have hdl:=zm3 hk
      have hel:es.length=rs.length:=by rw[hrs];simp[kMap]
      refine⟨trivial,hp,M',fr',kDel m es,fv++[p],R3,by have:=R.len;omega,by simp;omega,?_,e2.fr.trans f3,fun k hk=>(n3 k hk).imp id fun h5=>Nat.le_trans e2.1 h5⟩
      unfold zeC
      rw[if_pos hf,hm,hrs,zqU]
    ·have hnot:¬room≤rs.length:=by omega
     have hf:fullB room rs=false:=by simp[fullB];omega
     have hel:es.length=rs.length:=by rw[hrs];simp[kMap]
     refine⟨trivial,by simp[putOk,hf,hg,hw],M,fr,es,fv,R2,by omega,hlen,?_,e2.fr,fun k hk=>.inl hk⟩
     unfold zeC
     rw[hf];exact hrs.symm
   ·rintro _ ρj h2 ⟨rfl,hp,M2,fr2,es2,fv2,R2,l2,t2,hk2,f2,n2⟩
    refine(c_space R2 l2 t2).mono ?_
    rintro x h3 ⟨M3,fr3,fv3,l0,R3,f3,n3,t3⟩
    have hxo:=R3.bag.own (x,l0) (by simp)
    have f13:Fr (fun k=>M k∨h1.size≤k) h1 h3:=(f2.mono fun k _ hk=>.inl hk).trans (f3.mono fun k _ hk=>n2 k hk)
    have f13':Fr M h1 h3:=⟨f13.1,fun b hb hm=>f13.2 b hb fun hc=>hc.elim hm fun h5=>by omega⟩
    have us:SlC 1 h3 (.slice ua l.length uc) l.length (l.map vi):=hu0.sl.fr f13' fun b _ hb=>hn b hb
    have xo:Own 1 h3 x w (l0.map vi):=by
     have h5:=hxo.1
     unfold OwnI at h5
     rw[hxo.2.1]at h5
     exact h5
    have xl:(l0.map vi).length=w:=by rw[List.length_map];exact hxo.2.1
    refine zqZ xo us vi_one fun h4 o4 f4 s4=>?_
    have o4':OwnI h4 x l:=by
     have h6:(l.map vi).take w++(l0.map vi).drop l.length=l.map vi:=by
      rw[List.take_of_length_le (by rw[List.length_map];omega),List.drop_eq_nil_of_le (by omega),List.append_nil]
     rw[h6]at o4
     unfold OwnI
     rw[hw]
     exact o4
    have bag4:=R3.bag.last (l:=l) f4 o4' hw
    have hxx:=hxo.2.2
    have v4:=f4.row R3.var fun hb=>(hxx _ hb).1 rfl
    have m4:=R3.map.fr f4 fun hb=>(hxx _ hb).2.1 rfl
    have fr4:=R3.free.fr f4 fun k hk hk'=>(hxx k hk').2.2.1 hk
    simp only[go_sem,zad v4]
    refine put_map m4 fun h5 m5 u5=>?_
    have hnone:kGet j es2=none:=by
     cases hc:kGet j es2 with
     |none=>rfl
     | some p=>
      exfalso
      have h6:kGet j (zeC room rs)=some p.2:=by rw[←hk2,zf9,hc];rfl
      unfold zeC at h6
      split at h6
      ·rw[zm2 hnd,hg]at h6
       split at h6<;>cases h6
      ·rw[hg]at h6;cases h6
    have hnew:kPut j x (kMap Prod.fst es2)=kMap Prod.fst (es2++[(j,(x,l))]):=by
     rw[zqR (by rw[zf9,hnone];rfl)]
     simp[kMap]
    rw[hnew]at m5
    have f35:Fr M3 h3 h5:=(f4.mono fun k _ hk=>(hxx k hk).2.2.2).trans (u5.fr.mono fun k _ hk=>by rw[show k=bm from hk];exact R3.inM.2.1)
    have f15:Fr M h1 h5:=by
     have h7:Fr (fun k=>M k∨h1.size≤k) h1 h5:=f13.trans (f35.mono fun k _ hk=>(n3 k hk).elim (n2 k) fun h8=>.inr (Nat.le_trans f2.1 h8))
     exact⟨h7.1,fun b hb hm=>h7.2 b hb fun hc=>hc.elim hm fun h5=>by omega⟩
    refine⟨by rw[hp],M3,⟨bx,bm,fr3,t,es2++[(j,(x,l))],fv3,rfl,?_,?_,by simp;omega⟩,f15,fun k hk=>(n3 k hk).elim (n2 k) fun h8=>.inr (Nat.le_trans f2.1 h8)⟩
    ·have hb5:Bag M3 h5 bx bm fr3 w (es2.map Prod.snd++fv3++[(x,l)]):=bag4.fr u5.fr fun q hq k hk=>((bag4.own q hq).2.2 k hk).2.1
     exact{
      var:=u5.row (fun h=>R3.ap.1 h) v4
      map:=m5
      free:=fr4.fr u5.fr fun k hk hk'=>R3.ap.2.2 (hk'▸hk)
      bag:=hb5.perm (by
       rw[List.append_nil,List.map_append,List.append_assoc,List.append_assoc]
       exact(List.perm_append_comm (l₁:=[(x,l)])).append_left _)
      ap:=R3.ap,inM:=R3.inM
      lt:=fun k hk=>Nat.lt_of_lt_of_le (R3.lt k hk) f35.1
      nums:=R3.nums
      keys:=fun e he=>by
       rcases List.mem_append.1 he with he|he
       ·exact R3.keys e he
       ·rw[List.mem_singleton.1 he];exact hj
      len:=by simp;omega
      tot:=by simp;omega}
    ·unfold putR
     rw[if_pos hp,←hk2]
     simp[kMap]
 ·have hw':¬(l.length:Int)=(w:Int):=by omega
  have hp:putOk room w rs j l=false:=by simp[putOk,hw]
  simp only[go_sem,zad R.var,hw']
  exact⟨by rw[hp],no hp _ (Ext.refl _)⟩
def zpK (rs:List (Int×List Int))(a b n:Int)(is:Bool):Prop:=
 (is=true∧a≤n∧n<b∧kGet n rs=none∧∀i,a≤i→i<n→(kGet i rs).isSome=true)∨(is=false∧n=0∧∀i,a≤i→i<b→(kGet i rs).isSome=true)
theorem c_RNext {M:Nat→Prop}{h:Heap}{v:Value}{room w:Nat}{rs:List (Int×List Int)}(H:zcF M h v room w rs){a b:Int}(ha: -9223372036854775808≤a)(hb:b≤9223372036854775807):
  FCall prog zeG #[v,.int .i64 a,.int .i64 b] h fun r h'=>(∃n is,r=.tuple #[.int .i64 n,.bool is]∧zpK rs a b n is)∧h'=h:=by
 apply zlB
 unfold zgB
 refine zbh (fun d xs h'=>h'=h∧∃j,a≤j∧d=(b-j).toNat∧xs=[.int .i64 j]∧∀i,a≤i→i<j→(kGet i rs).isSome=true) (b-a).toNat ⟨rfl,a,by omega,rfl,rfl,fun i h1 h2=>by omega⟩ ?_
 rintro d _ ρj h1 again ⟨hh,j,haj,rfl,rfl,hall⟩ hag
 subst hh
 simp only[go_sem]
 refine zab (fun hlt=>?_) (fun hge=>?_)
 ·refine(c_RHas H j).mono ?_
  rintro _ h2 ⟨rfl,hh⟩
  subst hh
  try simp only[go_sem]
  cases hg:kGet j rs with
  |none=>
   simp only[Option.isSome_none,go_sem]
   exact⟨⟨j,true,rfl,.inl ⟨rfl,haj,hlt,hg,hall⟩⟩,trivial⟩
  |some p=>
   simp only[Option.isSome_some,go_sem]
   rw[w64 (by omega) (by omega)]
   refine hag _ _ (b-(j+1)).toNat (by omega) ⟨rfl,j+1,by omega,rfl,rfl,fun i h1 h2=>?_⟩
   by_cases hi:i=j
   ·rw[hi,hg];rfl
   ·exact hall i h1 (by omega)
 ·exact⟨⟨0,false,rfl,.inr ⟨rfl,rfl,fun i h1 h2=>hall i h1 (by omega)⟩⟩,trivial⟩
theorem wf64 {n:Int}(h1: -9223372036854775808≤n)(h2:n≤9223372036854775807):(Lit.int .i64 n).wf=true:=by
 show(decide (IntKind.i64.min≤n)&&decide (n≤IntKind.i64.max))=true
 rw[Bool.and_eq_true,decide_eq_true_eq,decide_eq_true_eq]
 exact⟨h1,h2⟩
end Go.Proofs.YtcoimlclclnlkaaGreatDoor
namespace Go.Proofs.YtcoimlclclnlkaaGreatDoor
open Go Go.Crisp
attribute [local irreducible] FCall rowK newK stK iteK vK qK drawK gK joinK loopK mkK appK cpyK zmY zkN bsK clK zgY zfx newmK
open _root_.Go.Proofs.Tryz
section
structure JobD where
 m:Pic
 s:Stg
 t:TileD
structure JobD.Wf (d:JobD):Prop where
 m:d.m.Wf
 s:d.s.Wf
 su:zhL d.m d.s
 w1:1≤d.t.w
 h1:1≤d.t.h
 x0:0≤d.t.x
 y0:0≤d.t.y
 xw:d.t.x+d.t.w≤d.s.x.lines.length
 yh:d.t.y+d.t.h≤d.s.y.lines.length
abbrev jobC (bf bt:Nat)(p q rv:Value)(d:JobD)(y:Int):List Value:=[ptr bf,ptr bt,p,q,.int .i64 d.s.border]++tileC d.t++[rv,.int .i64 y]
structure JobAt (Z M:Nat→Prop)(h:Heap)(bj bf:Nat)(vf:Value)(bt:Nat)(vt p q rv:Value)(d:JobD)(y:Int)(n:Pic)(room w:Nat)(rs:List (Int×List Int)):Prop where
 row:h[bj]? =some (.cells (jobC bf bt p q rv d y).toArray 171 (0,0))
 src:IsImg h bf vf d.m
 tx:IsTbl Z h p d.s.x
 ty:IsTbl Z h q d.s.y
 ring:zcF M h rv room w rs
 out:IsImg h bt vt n
 zf:Z bf∧∀c,blk vf c→Z c
 zz:∀c,Z c→¬M c∧c≠bj∧¬blk vt c
 mj:¬M bj∧¬M bt∧(∀c,blk vt c→¬M c)
 jt:bj≠bt∧¬blk vt bj
 y0:d.t.y≤y
 y1:y≤d.t.y+d.t.h
 zl:∀c,Z c→c<h.size
section
variable {Z M:Nat→Prop}{h:Heap}{bj bf:Nat}{vf:Value}{bt:Nat}{vt p q rv:Value}{d:JobD}{y:Int}{n:Pic}{room w:Nat}{rs:List (Int×List Int)}
theorem JobAt.ext {h':Heap}(J:JobAt Z M h bj bf vf bt vt p q rv d y n room w rs)(e:Ext h h'):JobAt Z M h' bj bf vf bt vt p q rv d y n room w rs:=
 ⟨e.row J.row,J.src.ext e,J.tx.ext e,J.ty.ext e,J.ring.ext e,J.out.ext e,J.zf,J.zz,J.mj,J.jt,J.y0,J.y1,fun c hc=>Nat.lt_of_lt_of_le (J.zl c hc) e.1⟩
theorem JobD.bd (W:d.Wf):d.t.x+d.t.w≤65536∧d.t.y+d.t.h≤65536:=by
 have:=W.s.x.len
 have:=W.s.y.len
 have:=W.xw
 have:=W.yh
 omega
theorem c_over (J:JobAt Z M h bj bf vf bt vt p q rv d y n room w rs)(W:d.Wf):FCall prog zd2 #[ptr bj] h fun r h'=>r=.bool (decide (d.t.y+d.t.h≤y))∧h'=h:=by
 apply zkP
 unfold zfP
 have hb:=JobD.bd W
 have h1:=W.y0
 have h2:=W.h1
 simp only[go_sem,Nat.zero_add,zad J.row]
 simp only[jobC,tileC,List.cons_append,List.nil_append,List.getElem?_toArray,List.getElem?_cons_succ,List.getElem?_cons_zero,go_sem]
 rw[w64 (n:=d.t.y+d.t.h) (by omega) (by omega)]
 exact⟨rfl,trivial⟩
theorem JobAt.c2 {h':Heap}(J:JobAt Z M h bj bf vf bt vt p q rv d y n room w rs)(e:Ext h h'):zag h' ⟨bj,2,none⟩=some p:=by rw[zad (e.row J.row)];rfl
theorem JobAt.c3 {h':Heap}(J:JobAt Z M h bj bf vf bt vt p q rv d y n room w rs)(e:Ext h h'):zag h' ⟨bj,3,none⟩=some q:=by rw[zad (e.row J.row)];rfl
theorem JobAt.c4 {h':Heap}(J:JobAt Z M h bj bf vf bt vt p q rv d y n room w rs)(e:Ext h h'):zag h' ⟨bj,4,none⟩=some (.int .i64 d.s.border):=by rw[zad (e.row J.row)];rfl
theorem JobAt.c0 {h':Heap}(J:JobAt Z M h bj bf vf bt vt p q rv d y n room w rs)(e:Ext h h'):zag h' ⟨bj,0,none⟩=some (ptr bf):=by rw[zad (e.row J.row)];rfl
theorem JobAt.c1 {h':Heap}(J:JobAt Z M h bj bf vf bt vt p q rv d y n room w rs)(e:Ext h h'):zag h' ⟨bj,1,none⟩=some (ptr bt):=by rw[zad (e.row J.row)];rfl
theorem JobAt.c6 {h':Heap}(J:JobAt Z M h bj bf vf bt vt p q rv d y n room w rs)(e:Ext h h'):zag h' ⟨bj,6,none⟩=some (.int .i64 d.t.x):=by rw[zad (e.row J.row)];rfl
theorem JobAt.c8 {h':Heap}(J:JobAt Z M h bj bf vf bt vt p q rv d y n room w rs)(e:Ext h h'):zag h' ⟨bj,8,none⟩=some (.int .i64 d.t.w):=by rw[zad (e.row J.row)];rfl
theorem JobAt.c15 {h':Heap}(J:JobAt Z M h bj bf vf bt vt p q rv d y n room w rs)(e:Ext h h'):zag h' ⟨bj,15,none⟩=some rv:=by rw[zad (e.row J.row)];rfl
theorem JobAt.c16 {h':Heap}(J:JobAt Z M h bj bf vf bt vt p q rv d y n room w rs)(e:Ext h h'):zag h' ⟨bj,16,none⟩=some (.int .i64 y):=by rw[zad (e.row J.row)];rfl
theorem c_jobLine (J:JobAt Z M h bj bf vf bt vt p q rv d y n room w rs)(W:d.Wf):FCall prog zcM #[ptr bj] h fun r h'=>
  ∃u,r=.agg #[.int .i64 (lineT d.s.y y).1,u]∧SlI (Since h h') h' u (lineT d.s.y y).2∧Ext h h':=by
 apply zkQ
 unfold zfQ
 refine zah fun b1 h1 r1 e1 n1=>?_
 have l1:=zau r1
 simp only[go_sem,Nat.zero_add]
 refine zap (fun h'=>h'=h1) rfl ?_
 refine zaf q (fun h' e=>by rw[e];exact J.c3 e1) ?_
 refine zaf (.int .i64 y) (fun h' e=>by rw[e];exact J.c16 e1) ?_
 refine(zpD (J.ty.ext e1) W.s.y).mono fun r h2 ⟨u,e,S,e2⟩=>?_
 subst e
 refine zaP (l:=[.int .i64 (lineT d.s.y y).1,u]) (e2.row r1) rfl (zac rfl (zac S.one zal)) rfl fun h3 r3 u3=>?_
 rw[zao r3 2 rfl,zaa]
 refine⟨u,rfl,?_,(e1.trans e2).upd n1 u3⟩
 refine(S.fr u3.fr fun c _ hz he=>?_).mono fun c hc hz=>⟨Nat.le_trans e1.1 hz.1,hc⟩
 have:=hz.1
 omega
abbrev moveV (k j:Int):Value:=.agg #[.int .i64 k,.int .i64 j]
def NextZ (d:JobD)(y:Int)(rs:List (Int×List Int))(k j:Int):Prop:=
 if d.t.y+d.t.h≤y then k=0∧j=0 else
  (k=1∧zpK rs (lineT d.s.y y).1 ((lineT d.s.y y).1+((lineT d.s.y y).2.length:Int)) j true)∨(k=2∧j=y∧zpK rs (lineT d.s.y y).1 ((lineT d.s.y y).1+((lineT d.s.y y).2.length:Int)) 0 false)
theorem c_jobNext (J:JobAt Z M h bj bf vf bt vt p q rv d y n room w rs)(W:d.Wf):FCall prog zb8 #[ptr bj] h fun r h'=>∃k j,r=moveV k j∧NextZ d y rs k j∧Ext h h':=by
 apply zkS
 unfold zfS
 refine zah fun b1 h1 r1 e1 n1=>?_
 have l1:=zau r1
 have J1:=J.ext e1
 refine(c_over J1 W).mono fun r h2 ⟨e,wq⟩=>?_
 have wq:=wq.symm
 subst e wq
 refine zab (fun h2=>?_) (fun h2=>?_)
 ·rw[zcD,zav,zaa]
  refine zaP (l:=[.int .i64 0,.int .i64 0]) r1 rfl (zac rfl (zac rfl zal)) rfl fun h3 r3 u3=>?_
  rw[zao r3 2 rfl,zaa]
  exact⟨0,0,rfl,by unfold NextZ;rw[if_pos h2];exact⟨rfl,rfl⟩,e1.upd n1 u3⟩
 refine(c_jobLine J1 W).mono fun r h3 ⟨u,e,S,e3⟩=>?_
 subst e
 refine za0 (cs:=[.int .i64 (lineT d.s.y y).1,u]) rfl (zac rfl (zac S.one zal)) rfl fun b4 h4 r4 e4 n4=>?_
 have E4:=e3.trans e4
 have J4:=J1.ext E4
 have hl:=zie W.s.y y
 obtain⟨au,cu,eu⟩:=S.isSl
 have eu2:zae u=some (.int .i64 ((lineT d.s.y y).2.length:Int)):=by rw[eu];rfl
 have hN:∀k j,NextZ d y rs k j↔((k=1∧zpK rs (lineT d.s.y y).1 ((lineT d.s.y y).1+((lineT d.s.y y).2.length:Int)) j true)∨(k=2∧j=y∧zpK rs (lineT d.s.y y).1 ((lineT d.s.y y).1+((lineT d.s.y y).2.length:Int)) 0 false)):=fun k j=>by unfold NextZ;rw[if_neg h2]
 generalize lineT d.s.y y=L at*
 refine zap (fun h'=>h'=h4) rfl ?_
 simp only[go_sem,Nat.zero_add]
 refine zaf rv (fun h' e=>by rw[e];exact J1.c15 E4) ?_
 refine zaf (.int .i64 L.1) (fun h' e=>by rw[e];exact zad r4) ?_
 refine zaf (.int .i64 L.1) (fun h' e=>by rw[e];exact zad r4) ?_
 refine zaf u (fun h' e=>by rw[e];exact zad r4) ?_
 refine zaf (.int .i64 (L.2.length:Int)) (fun h' e=>eu2) ?_
 simp only[go_sem]
 rw[w64 (n:=L.1+(L.2.length:Int)) (by omega) (by omega)]
 refine(c_RNext J4.ring (a:=L.1) (b:=L.1+(L.2.length:Int)) (by omega) (by omega)).mono fun r h5 ⟨⟨j,is,e,hn⟩,wq⟩=>?_
 have wq:=wq.symm
 subst e wq
 simp only[go_sem]
 have r1':=E4.row r1
 refine zfb (fun hi=>?_) (fun hi=>?_)
 ·subst hi
  have hf:fillL #[(.int .i64 0),(.int .i64 0)] [(0,1,Value.int .i64 1),(1,1,Value.int .i64 j)]=some #[.int .i64 1,.int .i64 j]:=zk9 rfl rfl
  rw[hf,zav,zaa]
  refine zaP (l:=[.int .i64 1,.int .i64 j]) r1' rfl (zac rfl (zac rfl zal)) rfl fun h6 r6 u6=>?_
  rw[zao r6 2 rfl,zaa]
  exact⟨1,j,rfl,(hN 1 j).2 (.inl ⟨rfl,hn⟩),(e1.trans E4).upd n1 u6⟩
 ·subst hi
  have hj:j=0:=by rcases hn with⟨hh,_⟩|⟨_,hh,_⟩;cases hh;exact hh
  subst hj
  rw[J1.c16 E4,zaa]
  have hf:fillL #[(.int .i64 0),(.int .i64 0)] [(0,1,Value.int .i64 2),(1,1,Value.int .i64 y)]=some #[.int .i64 2,.int .i64 y]:=zk9 rfl rfl
  rw[hf,zav,zaa]
  refine zaP (l:=[.int .i64 2,.int .i64 y]) r1' rfl (zac rfl (zac rfl zal)) rfl fun h6 r6 u6=>?_
  rw[zao r6 2 rfl,zaa]
  exact⟨2,y,rfl,(hN 2 y).2 (.inr ⟨rfl,rfl,hn⟩),(e1.trans E4).upd n1 u6⟩
end
end
section
section
variable {Z M:Nat→Prop}{h:Heap}{bj bf:Nat}{vf:Value}{bt:Nat}{vt p q rv:Value}{d:JobD}{y:Int}{n:Pic}{room w:Nat}{rs:List (Int×List Int)}
def colZ (d:JobD)(x row:Int):List Int:=(List.range d.m.c.toNat).map fun c:Nat=>IntKind.i64.wrap (zg4 d.m d.s x row c)
theorem c_across {h0:Heap}{u:Value}{l:List Int}{x row:Int}(J:JobAt Z M h0 bj bf vf bt vt p q rv d y n room w rs)(W:d.Wf)(N:New (Rp.int .i64) h0 h u l)(hl:l.length≤1000000):
  FCall prog zdd #[ptr bj,.int .i64 x,.int .i64 row,u] h fun r h'=>New (Rp.int .i64) h0 h' r (l++colZ d x row):=by
 apply ziU
 unfold zeK
 have E0:=N.2.1
 simp only[go_sem,Nat.zero_add,J.c2 E0]
 refine(zpD (J.tx.ext E0) W.s.x).mono fun r h1 ⟨v,e,S,e1⟩=>?_
 subst e
 refine za0 (cs:=[.int .i64 (lineT d.s.x x).1,v]) rfl (zac rfl (zac S.one zal)) rfl fun b2 h2 r2 e2 n2=>?_
 have E2:=E0.trans (e1.trans e2)
 simp only[go_sem,Nat.zero_add,J.c0 E2]
 refine(zcr (J.src.ext E2)).mono fun r h3 ⟨e,wq⟩=>?_
 have wq:=wq.symm
 subst e wq
 have hf:=zcX W.m.fits
 have hln:=zie W.s.x x
 unfold colZ zg4
 obtain⟨C,hC⟩:∃C:Nat,d.m.c=(C:Int):=⟨d.m.c.toNat,by omega⟩
 rw[hC,Int.toNat_natCast]
 have S2:=S.ext e2
 have Sz:SlI (fun c=>¬blk u c∧c≠b2∧c<h2.size) h2 v (lineT d.s.x x).2:=S2.mono fun c hc hz=>⟨fun hu=>by have:=N.lt hu;have:=hz.1;omega,fun he=>by have:=hz.2;omega,hc⟩
 have hub:¬blk u b2:=fun hu=>by have:=N.lt hu;have:=e1.1;omega
 generalize lineT d.s.x x=L at*
 obtain⟨av,cv,ev⟩:=S.isSl
 have ev2:zae v=some (.int .i64 (L.2.length:Int)):=by rw[ev];rfl
 obtain⟨g,hg⟩:∃g:Nat→Int,g=fun c:Nat=>IntKind.i64.wrap (sumN (fun i=>L.2.getD i 0*atP d.m (atZ d.s.border (L.1+i) d.m.w) row c) L.2.length):=⟨_,rfl⟩
 rw[←hg]
 refine zaE (α:=Value) C 0 (fun c u=>[u,.int .i64 (c:Int)]) (fun c u h'=>New (Rp.int .i64) h0 h' u (l++(List.range c).map g)∧SlI (fun c=>¬blk u c∧c≠b2∧c<h2.size) h' v L.2∧h2.size≤h'.size∧h'[b2]? =some (.cells #[.int .i64 L.1,v] 235 (0,0))∧¬blk u b2∧Ext h0 h') u rfl (Nat.zero_le _)
  ⟨by simpa using N.ext (e1.trans e2),Sz,Nat.le_refl _,r2,hub,E2⟩ fun c u h4 again ρ1 _ hc ⟨N4,S4,sz4,r4,u4,E4⟩ Hag=>?_
 simp only[go_sem]
 refine zab (fun h5=>?_) (fun h5=>?_)
 ·have c1:zag h4 ⟨b2,1,none⟩=some v:=zad r4
  simp only[go_sem,Nat.zero_add,c1,ev2]
  have J4:=J.ext E4
  refine zdX (fun i=>[.int .i64 (IntKind.i64.wrap (sumN (fun i=>L.2.getD i 0*atP d.m (atZ d.s.border (L.1+i) d.m.w) row c) i)),.int .i64 (i:Int)]) L.2.length 0 rfl (Nat.zero_le _) fun i again2 ρ2 _ hi Hag2=>?_
  simp only[go_sem]
  refine zab (fun h6=>?_) (fun h6=>?_)
  ·have hi':i<L.2.length:=by omega
   have Hag2:=Hag2 hi'
   obtain⟨pi,i1,i2⟩:=S4.int_at (k':=.i64) hi'
   have ea:L.2.getD i 0=L.2[i]:=by simp[List.getD_eq_getElem?_getD,hi']
   rw[i1,zaa,i2,zaa,←ea]
   refine zap (fun h'=>h'=h4) rfl ?_
   try simp only[go_sem,Nat.zero_add]
   refine zaf (.int .i64 d.s.border) (fun h' e=>by rw[e];exact J.c4 E4) ?_
   refine zaf (.int .i64 L.1) (fun h' e=>by rw[e];exact zad r4) ?_
   try simp only[go_sem,Nat.zero_add]
   refine zaf (ptr bf) (fun h' e=>by rw[e];exact J.c0 E4) ?_
   rw[w64 (n:=L.1+(i:Int)) (by omega) (by omega)]
   refine(zlU J4.src).mono fun r h7 ⟨e,wq⟩=>?_
   have wq:=wq.symm
   subst e wq
   refine⟨rfl,?_⟩
   refine(ziJ (by unfold I64;omega)).mono fun r h7 ⟨e,wq⟩=>?_
   have wq:=wq.symm
   subst e wq
   simp only[go_sem,Nat.zero_add,J.c0 E4]
   refine(c_At J4.src W.m).mono fun r h7 ⟨e,wq⟩=>?_
   have wq:=wq.symm
   subst e wq
   have hv:=atP_bd W.m (atZ d.s.border (L.1+(i:Int)) d.m.w) row c
   have hm:=W.m.m2
   simp only[go_sem]
   rw[w64 (n:=atP d.m (atZ d.s.border (L.1+(i:Int)) d.m.w) row c) (by omega) (by omega),wrap_step,w64 (n:=(i:Int)+1) (by omega) (by omega)]
   exact Hag2
  ·have hiL:i=L.2.length:=by omega
   subst hiL
   have hgc:IntKind.i64.wrap (sumN (fun i=>L.2.getD i 0*atP d.m (atZ d.s.border (L.1+i) d.m.w) row c) L.2.length)=g c:=by rw[hg]
   rw[hgc]
   have hlen:(l++(List.range c).map g).length=l.length+c:=by simp
   refine Rp.push_ow1 (e:=Rp.int .i64) rfl N4.1 (x:=g c) rfl rfl (by rw[hlen];omega) (by rw[hlen];omega) (fun b hb=>hb.elim) fun s' h' o' f' n'=>?_
   try simp only[go_sem]
   rw[w64 (by omega) (by omega)]
   have E':Ext h0 h':=E4.then_fr f' N4.2.2
   have hs':∀b,blk s' b→blk u b∨h4.size≤b:=n'
   refine Hag s' h' (by omega) ⟨⟨by rw[zfg _ (c+1) c (by omega),←List.append_assoc];exact o',E',fun b hb=>?_⟩,?_,Nat.le_trans sz4 f'.1,f'.row r4 u4,fun hb=>?_,E'⟩
   ·rcases hs' b hb with h7|h7
    ·exact N4.2.2 b h7
    ·exact Nat.le_trans E4.1 h7
   ·refine(S4.fr f' fun b _ hz=>hz.1).mono fun b hb hz=>⟨fun hs=>?_,hz.2⟩
    rcases hs' b hs with h7|h7
    ·exact hz.1 h7
    ·have:=hz.2.2;omega
   ·rcases hs' _ hb with h7|h7
    ·exact u4 h7
    ·have:=zau r4;omega
 ·have:c=C:=by omega
  subst this
  exact N4
def rowP (d:JobD)(real:Int):Nat→List Int
 |0=>[]
 |x+1=>rowP d real x++colZ d (d.t.x+x) real
def rowZ (d:JobD)(j:Int):List Int:=rowP d (atZ d.s.border j d.m.h) d.t.w.toNat
theorem colZ_len (d:JobD)(x row:Int):(colZ d x row).length=d.m.c.toNat:=by unfold colZ;simp
theorem zkL (d:JobD)(real:Int):∀k,(rowP d real k).length=k*d.m.c.toNat
 |0=>by simp[rowP]
 |k+1=>by unfold rowP;rw[List.length_append,zkL,colZ_len,Nat.add_mul,Nat.one_mul]
theorem rowP_get (d:JobD)(real:Int){x c:Nat}(hc:c<d.m.c.toNat):∀{k:Nat},x<k→(rowP d real k).getD (x*d.m.c.toNat+c) 0=IntKind.i64.wrap (zg4 d.m d.s (d.t.x+x) real c)
 |0,h=>absurd h (by omega)
 | k+1,h=>by
  unfold rowP
  have hl:=zkL d real k
  by_cases hx:x<k
  ·have h1:x*d.m.c.toNat+c<(rowP d real k).length:=by
    rw[hl]
    have:(x+1)*d.m.c.toNat≤k*d.m.c.toNat:=Nat.mul_le_mul_right _ hx
    rw[Nat.add_mul,Nat.one_mul]at this
    omega
   have:=rowP_get d real hc hx
   rw[List.getD_eq_getElem?_getD]at this ⊢
   rw[List.getElem?_append_left h1]
   exact this
  ·have hxk:x=k:=by omega
   subst hxk
   rw[List.getD_eq_getElem?_getD,List.getElem?_append_right (by omega),hl,Nat.add_sub_cancel_left]
   unfold colZ
   simp[hc]
theorem c_filter {j:Int}(J:JobAt Z M h bj bf vf bt vt p q rv d y n room w rs)(W:d.Wf)(hj:I64 j)(hs:d.t.w≤300):
  FCall prog zdc #[ptr bj,.int .i64 j] h fun r h'=>∃M',JobAt Z M' h' bj bf vf bt vt p q rv d y n room w (putR room w rs j (rowZ d j))∧Fr M h h'∧∀k,M' k→M k∨h.size≤k:=by
 apply ziT
 unfold zeJ
 have hf:=zcX W.m.fits
 have hb:=JobD.bd W
 have hw1:=W.w1
 have hx0:=W.x0
 simp only[go_sem,Nat.zero_add]
 refine zap (fun h'=>h'=h) rfl ?_
 refine zaf (.int .i64 d.s.border) (fun h' e=>by rw[e];exact J.c4 (Ext.refl _)) ?_
 refine zaf (ptr bf) (fun h' e=>by rw[e];exact J.c0 (Ext.refl _)) ?_
 refine(ziK J.src).mono fun r h1 ⟨e,wq⟩=>?_
 have wq:=wq.symm
 subst e wq
 refine⟨rfl,?_⟩
 refine(ziJ hj).mono fun r h1 ⟨e,wq⟩=>?_
 have wq:=wq.symm
 subst e wq
 simp only[go_sem,Nat.zero_add,J.c8 (Ext.refl _)]
 unfold rowZ
 generalize atZ d.s.border j d.m.h=real
 obtain⟨N,hN⟩:∃N:Nat,d.t.w=(N:Int):=⟨d.t.w.toNat,by omega⟩
 rw[hN,Int.toNat_natCast]
 have hC:d.m.c.toNat≤3:=by omega
 have hlen:∀k,k≤N→(rowP d real k).length≤900:=fun k hk=>by
  rw[zkL]
  have:=Nat.mul_le_mul (show k≤300 by omega) hC
  omega
 refine zaE (α:=Value) N 0 (fun k u=>[u,.int .i64 (k:Int)]) (fun k u h'=>New (Rp.int .i64) h h' u (rowP d real k)) (.slice none 0 0) rfl (Nat.zero_le _) (New.nil (Ext.refl _)) fun k u h2 again ρ1 _ hk Nw Hag=>?_
 simp only[go_sem]
 refine zab (fun h3=>?_) (fun h3=>?_)
 ·simp only[go_sem,Nat.zero_add,J.c6 Nw.2.1]
  rw[w64 (n:=d.t.x+(k:Int)) (by omega) (by omega)]
  refine(c_across J W Nw (by have:=hlen k hk;omega)).mono fun r h4 N4=>?_
  rw[w64 (by omega) (by omega)]
  exact Hag r h4 (by omega) N4
 ·have hkN:k=N:=by omega
  subst hkN
  have J2:=J.ext Nw.2.1
  simp only[go_sem,Nat.zero_add,J.c15 Nw.2.1]
  have hin:Ints h2 u (rowP d real k):=by
   obtain⟨a,cap,e⟩:=Nw.isSl
   refine⟨a,cap,e,?_⟩
   have o:=(ow_own Nw.1).sl
   obtain⟨_,a',c',e',ho⟩:=o
   rw[e]at e'
   cases e'
   rcases ho with ho|⟨b,o,ha,ho⟩
   ·left;simpa using ho
   ·refine .inr ⟨b,o,ha,fun i hi=>?_⟩
    have:=ho i (by simpa using hi)
    rw[this,List.getElem_map]
    rfl
  refine(c_RPut J2.ring (by unfold I64 at hj;exact wf64 hj.1 hj.2) hin (by have:=hlen k hk;omega) fun b hb hm=>?_).mono fun r h5 ⟨e,M',R',f',m'⟩=>?_
  ·have h6:=Nw.2.2 b hb
   have h7:=J.ring.lt hm
   omega
  have lt:∀c,c<h.size→¬M c→¬M' c:=fun c hc hm hm'=>by
   rcases m' c hm' with h6|h6
   ·exact hm h6
   ·have:=Nw.2.1.1;omega
  have zl:=J.zl
  have zM:∀c,Z c→¬M c:=fun c hc=>(J.zz c hc).1
  refine⟨M',⟨f'.row J2.row J.mj.1,J2.src.fr f' (zM _ J.zf.1) fun c hc=>zM _ (J.zf.2 c hc),J2.tx.fr f' fun c _ hz=>zM c hz,J2.ty.fr f' fun c _ hz=>zM c hz,R',J2.out.fr f' J.mj.2.1 J.mj.2.2,J.zf,
   fun c hz=>⟨lt c (zl c hz) (zM c hz),(J.zz c hz).2⟩,⟨lt _ (zau J.row) J.mj.1,lt _ J.out.lt J.mj.2.1,fun c hc=>lt c (J.out.ltv hc) (J.mj.2.2 c hc)⟩,J.jt,J.y0,J.y1,fun c hc=>?_⟩,Nw.2.1.fr.trans f',fun k hk=>?_⟩
  ·have h6:=zl c hc
   have h7:=Nw.2.1.1
   have h8:=f'.1
   omega
  ·rcases m' k hk with h6|h6
   ·exact .inl h6
   ·exact .inr (Nat.le_trans Nw.2.1.1 h6)
end
end
section
structure OutOk (d:JobD)(n:Pic):Prop where
 wf:n.Wf
 w:n.w=d.s.x.lines.length
 h:n.h=d.s.y.lines.length
 c:n.c=d.m.c
 m:n.most=d.m.most
section
variable {Z M:Nat→Prop}{h:Heap}{bj bf:Nat}{vf:Value}{bt:Nat}{vt p q rv:Value}{d:JobD}{y:Int}{n:Pic}{room w:Nat}{rs:List (Int×List Int)}
theorem JobAt.set {h':Heap}{n':Pic}(J:JobAt Z M h bj bf vf bt vt p q rv d y n room w rs)(f:Fr (blk vt) h h')(I:IsImg h' bt vt n'):JobAt Z M h' bj bf vf bt vt p q rv d y n' room w rs:=
 ⟨f.row J.row J.jt.2,J.src.fr f (J.zz _ J.zf.1).2.2 fun c hc=>(J.zz _ (J.zf.2 c hc)).2.2,J.tx.fr f fun c _ hz=>(J.zz c hz).2.2,J.ty.fr f fun c _ hz=>(J.zz c hz).2.2,J.ring.fr f fun c _ hm hv=>J.mj.2.2 c hv hm,I,J.zf,J.zz,J.mj,J.jt,J.y0,J.y1,
  fun c hc=>Nat.lt_of_lt_of_le (J.zl c hc) f.1⟩
def wrote (d:JobD)(y:Int)(i:Int)(x' y' c':Int):Prop:=y'=y∧d.t.x≤x'∧x'<d.t.x+d.t.w∧(x'-d.t.x)*d.m.c+c'<i
instance (d:JobD)(y i x' y' c':Int):Decidable (wrote d y i x' y' c'):=by unfold wrote;infer_instance
theorem c_write (J:JobAt Z M h bj bf vf bt vt p q rv d y n room w rs)(W:d.Wf)(O:OutOk d n)(hs:d.t.w≤300)(hy:y<d.t.y+d.t.h)(hw:(w:Int)=d.t.w*d.m.c)
  (hold:∀k:Nat,k<(lineT d.s.y y).2.length→kGet ((lineT d.s.y y).1+(k:Int)) rs=some (rowZ d ((lineT d.s.y y).1+(k:Int)))):
  FCall prog zdB #[ptr bj] h fun r h'=>∃n',JobAt Z M h' bj bf vf bt vt p q rv d (y+1) n' room w rs∧OutOk d n'∧(∀x' y' c',inP n x' y' c'→atP n' x' y' c'=if wrote d y w x' y' c' then pixZ d.m d.s x' y' c' else atP n x' y' c')∧Fr (fun c=>blk vt c∨c=bj) h h':=by
 apply zjC
 unfold zfi
 have hf:=zcX W.m.fits
 have hb:=JobD.bd W
 have hw1:=W.w1
 have hx0:=W.x0
 have hy0:=W.y0
 refine(c_jobLine J W).mono fun r h1 ⟨u,e,S,e1⟩=>?_
 subst e
 have hl:=zie W.s.y y
 refine za0 (cs:=[.int .i64 (lineT d.s.y y).1,u]) rfl (zac rfl (zac S.one zal)) rfl fun b2 h2 r2 e2 n2=>?_
 have E2:=e1.trans e2
 have S2:=S.ext e2
 obtain⟨au,cu,eu⟩:=S.isSl
 have eu2:zae u=some (.int .i64 ((lineT d.s.y y).2.length:Int)):=by rw[eu];rfl
 have htot:∀x c,sumN (fun k=>(lineT d.s.y y).2.getD k 0*zg4 d.m d.s x (atZ d.s.border ((lineT d.s.y y).1+k) d.m.h) c) (lineT d.s.y y).2.length=totZ d.m d.s x y c:=fun x c=>rfl
 generalize lineT d.s.y y=L at*
 obtain⟨C,hC⟩:∃C:Nat,d.m.c=(C:Int):=⟨d.m.c.toNat,by omega⟩
 have hC3:1≤C∧C≤3:=by omega
 obtain⟨Wn,hWn⟩:∃Wn:Nat,d.t.w=(Wn:Int):=⟨d.t.w.toNat,by omega⟩
 have hwn:w=Wn*C:=by
  rw[hWn,hC]at hw
  exact_mod_cast hw
 have hwb:w≤900:=by
  rw[hwn]
  have:=Nat.mul_le_mul (show Wn≤300 by omega) hC3.2
  omega
 simp only[go_sem,Nat.zero_add,J.c15 E2]
 refine(c_RWidth (J.ring.ext E2)).mono fun r h3 ⟨e,wq⟩=>?_
 have wq:=wq.symm
 subst e wq
 refine zlI rfl (by omega) (by omega) fun sv h3 o3 e3 n3=>?_
 have E3:=E2.trans e3
 have c1:zag h3 ⟨b2,1,none⟩=some u:=zad (e3.row r2)
 simp only[go_sem,Nat.zero_add,c1,eu2]
 -- the sums
 obtain⟨g,hg⟩:∃g:Nat→Nat→Int,g=fun k i=>sumN (fun k=>L.2.getD k 0*zg4 d.m d.s (d.t.x+((i/C:Nat):Int)) (atZ d.s.border (L.1+k) d.m.h) ((i%C:Nat):Int)) k:=⟨_,rfl⟩
 refine zaE (α:=Unit) L.2.length 0 (fun k _=>[.int .i64 (k:Int)]) (fun k _ h'=>Ext h2 h'∧Own 1 h' sv w ((List.range w).map fun i=>Value.int .i64 (IntKind.i64.wrap (g k i)))) () rfl (Nat.zero_le _)
  ⟨e3,by
   rw[zpX]at o3
   rw[←zax (g:=fun i=>Value.int .i64 ((fun _=>0:Nat→Int) i)) fun i _=>by rw[hg];rfl]
   exact o3⟩ fun k _ h4 again ρ1 _ hk ⟨E4,o4⟩ Hag=>?_
 have E04:=E2.trans E4
 simp only[go_sem]
 refine zab (fun h5=>?_) (fun h5=>?_)
 ·have hk':k<L.2.length:=by omega
  obtain⟨pk,k1,k2⟩:=(S2.ext E4).int_at (k':=.i64) hk'
  have eb:L.2.getD k 0=L.2[k]:=by simp[List.getD_eq_getElem?_getD,hk']
  rw[k1,zaa,k2,zaa,←eb]
  refine zap (fun h'=>h'=h4) rfl ?_
  try simp only[go_sem,Nat.zero_add]
  refine zaf rv (fun h' e=>by rw[e];exact J.c15 E04) ?_
  refine zaf (.int .i64 L.1) (fun h' e=>by rw[e];exact zad (E4.row r2)) ?_
  simp only[go_sem]
  rw[w64 (n:=L.1+(k:Int)) (by omega) (by omega)]
  refine(c_RRow (J.ring.ext E04) (L.1+(k:Int))).mono fun r h5 ⟨v,e,ov,e5,nv⟩=>?_
  subst e
  rw[hold k hk']at ov
  have ov:OwnI h5 v (rowZ d (L.1+(k:Int))):=ov
  have hrl:(rowZ d (L.1+(k:Int))).length=w:=by
   unfold rowZ
   rw[zkL,hWn,hC,Int.toNat_natCast,Int.toNat_natCast,hwn]
  have Sv:=zpc (k:=.i64) ov
  obtain⟨av,cv,ev⟩:=Sv.isSl
  have ev2:zae v=some (.int .i64 (w:Int)):=by rw[ev,hrl];rfl
  simp only[go_sem,ev2]
  have o5:=o4.fr (M:=fun _=>False) e5.fr fun _ _=>id
  have hrow:∀i,i<w→(rowZ d (L.1+(k:Int))).getD i 0=IntKind.i64.wrap (zg4 d.m d.s (d.t.x+((i/C:Nat):Int)) (atZ d.s.border (L.1+(k:Int)) d.m.h) ((i%C:Nat):Int)):=fun i hi=>by
   have h6:i%C<C:=Nat.mod_lt _ (by omega)
   have h7:i/C<Wn:=by rw[Nat.div_lt_iff_lt_mul (by omega),←hwn];exact hi
   have h8:=rowP_get d (atZ d.s.border (L.1+(k:Int)) d.m.h) (x:=i/C) (c:=i%C) (by rw[hC,Int.toNat_natCast];exact h6) (k:=Wn) h7
   rw[hC,Int.toNat_natCast,Nat.mul_comm,Nat.div_add_mod]at h8
   unfold rowZ
   rw[hWn,Int.toNat_natCast]
   exact h8
  have hdis:∀c,blk sv c→¬blk v c:=fun c hc hv=>by
   have:=nv c hv
   have:=o4.lt hc
   omega
  refine zaE (α:=Unit) w 0 (fun i _=>[.int .i64 (i:Int)]) (fun i _ h'=>Ext h2 h'∧Rp.Sl (Rp.int .i64) (blk v) h' v (rowZ d (L.1+(k:Int)))∧Own 1 h' sv w ((List.range w).map fun j=>Value.int .i64 (IntKind.i64.wrap (if j<i then g (k+1) j else g k j)))) () rfl (Nat.zero_le _)
   ⟨E4.trans e5,Sv,by
    rw[←zax (g:=fun i=>Value.int .i64 (IntKind.i64.wrap (g k i))) fun i _=>by rw[if_neg (by omega)]]
    exact o5⟩ fun i _ h6 again2 ρ2 _ hi ⟨E6,Sv6,o6⟩ Hag2=>?_
  simp only[go_sem]
  refine zab (fun h7=>?_) (fun h7=>?_)
  ·have hi':i<w:=by omega
   obtain⟨pv,v1,v2⟩:=Sv6.int_at (k':=.i64) (i:=i) (by omega)
   have ev':(rowZ d (L.1+(k:Int)))[i]'(by omega)=(rowZ d (L.1+(k:Int))).getD i 0:=by simp[List.getD_eq_getElem?_getD,show i<(rowZ d (L.1+(k:Int))).length by omega]
   rw[ev',hrow i hi']at v2
   obtain⟨ps,s1,s2,s3⟩:=Own.at_map o6 (k:=.i64) hi'
   simp only[go_sem,v1,v2,s1,s2]
   rw[if_neg (by omega),zlo,wrap_step]
   have hgk:g k i+L.2.getD k 0*zg4 d.m d.s (d.t.x+((i/C:Nat):Int)) (atZ d.s.border (L.1+(k:Int)) d.m.h) ((i%C:Nat):Int)=g (k+1) i:=by rw[hg];rfl
   rw[hgk]
   refine s3 _ _ fun h8 o8 f8=>?_
   rw[w64 (by omega) (by omega)]
   refine Hag2 () h8 hi' ⟨E6.then_fr f8 fun c hc=>n3 c hc,Sv6.fr f8 fun c _ hz hs=>hdis c hs hz,?_⟩
   rw[←zax (g:=fun j=>Value.int .i64 (if j=i then IntKind.i64.wrap (g (k+1) i)else IntKind.i64.wrap (if j<i then g (k+1) j else g k j))) fun j _=>by
    congr 1
    by_cases h1:j=i
    ·rw[if_pos h1,if_pos (by omega),h1]
    ·rw[if_neg h1]
     by_cases h2:j<i
     ·rw[if_pos h2,if_pos (by omega)]
     ·rw[if_neg h2,if_neg (by omega)]]
   exact o8
  ·have hiw:i=w:=by omega
   subst hiw
   rw[w64 (by omega) (by omega)]
   refine Hag () h6 (by omega) ⟨E6,?_⟩
   rw[←zax (g:=fun j=>Value.int .i64 (IntKind.i64.wrap (if j<i then g (k+1) j else g k j))) fun j hj=>by rw[if_pos hj]]
   exact o6
 have hkL:k=L.2.length:=by omega
 subst hkL
 have J4:=J.ext E04
 have o4':Own 1 h4 sv w ((List.range w).map fun i=>Value.int .i64 (IntKind.i64.wrap (totZ d.m d.s (d.t.x+((i/C:Nat):Int)) y ((i%C:Nat):Int)))):=by
  rw[←zax (g:=fun i=>Value.int .i64 (IntKind.i64.wrap (g L.2.length i))) fun i _=>by rw[hg];rw[←htot]]
  exact o4
 have hdv:∀c,blk sv c→¬blk vt c:=fun c hc hv=>by
  have h6:=n3 c hc
  have h7:=J.out.ltv hv
  have h8:=E2.1
  omega
 obtain⟨asv,csv,es⟩:=o4'.isSl
 have es2:zae sv=some (.int .i64 (w:Int)):=by rw[es];rfl
 simp only[go_sem,Nat.zero_add,J.c1 E04]
 refine(zcr J4.out).mono fun r h5 ⟨e,wq⟩=>?_
 have wq:=wq.symm
 subst e wq
 rw[O.c,hC]
 simp only[go_sem,es2]
 refine zaE (α:=Pic) w 0 (fun i _=>[.int .i64 (i:Int)]) (fun i n' h'=>JobAt Z M h' bj bf vf bt vt p q rv d y n' room w rs∧OutOk d n'∧(∀x' y' c',inP n x' y' c'→atP n' x' y' c'=if wrote d y i x' y' c' then pixZ d.m d.s x' y' c' else atP n x' y' c')∧
   Own 1 h' sv w ((List.range w).map fun i=>Value.int .i64 (IntKind.i64.wrap (totZ d.m d.s (d.t.x+((i/C:Nat):Int)) y ((i%C:Nat):Int))))∧Fr (blk vt) h4 h') n rfl (Nat.zero_le _)
  ⟨J4,O,fun x' y' c' hi=>by
   rw[if_neg]
   unfold wrote inP at*
   rintro⟨a1,a2,a3,a4⟩
   have:=Int.mul_nonneg (show 0≤x'-d.t.x by omega) (show 0≤d.m.c by omega)
   omega,o4',Fr.refl _ _⟩ fun i n' h6 again ρ3 _ hi ⟨J6,O6,A6,o6,f6⟩ Hag=>?_
 simp only[go_sem]
 refine zab (fun h7=>?_) (fun h7=>?_)
 ·have hi':i<w:=by omega
  obtain⟨ps,s1,s2,_⟩:=Own.at_map o6 (k:=.i64) hi'
  simp only[go_sem,s1,s2]
  refine zap (fun h'=>h'=h6) rfl ?_
  try simp only[go_sem,Nat.zero_add]
  refine zaf (ptr bt) (fun h' e=>by rw[e];exact J6.c1 (Ext.refl _)) ?_
  refine zaf (.int .i64 d.t.x) (fun h' e=>by rw[e];exact J6.c6 (Ext.refl _)) ?_
  rw[zdA _ _ _ _ (by omega),zaa,Int.tdiv_eq_ediv_of_nonneg (by omega),show(i:Int)/(C:Int)=((i/C:Nat):Int)by omega]
  have hdiv:i/C<Wn:=by rw[Nat.div_lt_iff_lt_mul (by omega),←hwn];exact hi'
  have hmod:i%C<C:=Nat.mod_lt _ (by omega)
  have hdm:=Nat.div_add_mod i C
  have hdmi:((i/C:Nat):Int)*(C:Int)+((i%C:Nat):Int)=(i:Int):=by
   rw[←Int.natCast_mul,Nat.mul_comm];omega
  have hrem:(i:Int)%(C:Int)=((i%C:Nat):Int):=by omega
  have hdom:=A6
  generalize hqd:i/C=qd at*
  generalize hrd:i%C=rd at*
  simp only[go_sem]
  rw[w64 (n:=(qd:Int)) (by omega) (by omega),w64 (n:=d.t.x+(qd:Int)) (by omega) (by omega)]
  refine zaf (.int .i64 y) (fun h' e=>by rw[e];exact J6.c16 (Ext.refl _)) ?_
  rw[zaW _ _ _ _ (by omega),zaa,Int.tmod_eq_emod_of_nonneg (by omega),hrem]
  refine zaf (ptr bt) (fun h' e=>by rw[e];exact J6.c1 (Ext.refl _)) ?_
  refine(zgK J6.out).mono fun r h8 ⟨e,wq⟩=>?_
  have wq:=wq.symm
  subst e wq
  refine⟨rfl,?_⟩
  refine(c_Round (zc5 _)).mono fun r h8 ⟨e,wq⟩=>?_
  have wq:=wq.symm
  subst e wq
  refine⟨rfl,?_⟩
  have hm1:=W.m.m1
  have hm2:=W.m.m2
  rw[O6.m]
  have hr:=roundZ_bd (IntKind.i64.wrap (totZ d.m d.s (d.t.x+(qd:Int)) y (rd:Int))) (most:=d.m.most) (by omega)
  refine(c_Set J6.out O6.wf hr.1 hr.2.1).mono fun r h8 ⟨e,I8,f8,s8⟩=>?_
  subst e
  have hxw:=W.xw
  have hyh:=W.yh
  have hyJ:=J.y0
  have hin:inP n' (d.t.x+(qd:Int)) y (rd:Int):=⟨by omega,by rw[O6.w];omega,by omega,by rw[O6.h];omega,by omega,by rw[O6.c];omega⟩
  have hset:inP n' (d.t.x+(qd:Int)) y (rd:Int)∧zkM (IntKind.i64.wrap (totZ d.m d.s (d.t.x+(qd:Int)) y (rd:Int))) d.m.most≤n'.most:=⟨hin,by rw[O6.m];omega⟩
  rw[if_pos hset]at I8
  try simp only[go_sem]
  rw[w64 (by omega) (by omega)]
  refine Hag _ h8 hi' ⟨J6.set f8 I8,⟨setP_Wf O6.wf hr.1 hset.2,O6.w,O6.h,O6.c,O6.m⟩,fun x' y' c' hip=>?_,o6.fr f8 hdv,f6.trans f8⟩
  rw[atP_setP O6.wf hin,A6 x' y' c' hip]
  by_cases he:x'=d.t.x+(qd:Int)∧y'=y∧c'=(rd:Int)
  ·rw[if_pos he]
   obtain⟨rfl,rfl,rfl⟩:=he
   rw[if_pos]
   ·rfl
   ·refine⟨rfl,by omega,by omega,?_⟩
    rw[hC,show d.t.x+(qd:Int)-d.t.x=(qd:Int)by omega]
    omega
  ·rw [if_neg he]
   have hiff:wrote d y ((i+1:Nat):Int) x' y' c'↔wrote d y (i:Int) x' y' c':=by
    unfold wrote
    constructor
    ·rintro⟨a1,a2,a3,a4⟩
     refine⟨a1,a2,a3,?_⟩
     rcases Int.lt_or_le ((x'-d.t.x)*d.m.c+c') i with h9|h9
     ·exact h9
     ·exfalso
      have heq:(x'-d.t.x)*d.m.c+c'=(qd:Int)*d.m.c+(rd:Int):=by rw[hC]at*;omega
      have hc0:=hip.2.2.2.2
      have hc1:=O.c
      obtain⟨b1,b2⟩:=zlp heq hc0.1 (by omega) (by omega) (by omega)
      exact he ⟨by omega,a1,b2⟩
    ·rintro⟨a1,a2,a3,a4⟩
     exact⟨a1,a2,a3,by omega⟩
   by_cases hwr:wrote d y (i:Int) x' y' c'
   ·rw[if_pos hwr,if_pos (hiff.2 hwr)]
   ·rw[if_neg hwr,if_neg fun hh=>hwr (hiff.1 hh)]
 ·have hiw:i=w:=by omega
  subst hiw
  simp only[go_sem,Nat.zero_add,J6.c16 (Ext.refl _)]
  have hyJ:=J.y0
  rw[w64 (n:=y+1) (by omega) (by omega)]
  refine zaA J6.row (by simp[jobC,tileC]) rfl fun h8 r8 u8=>?_
  have r8:h8[bj]? =some (.cells (jobC bf bt p q rv d (y+1)).toArray 171 (0,0)):=r8
  have bjz:∀c,Z c→¬c=bj:=fun c hc=>(J6.zz c hc).2.1
  refine⟨n',⟨r8,J6.src.fr u8.fr (bjz _ J6.zf.1) fun c hc=>bjz _ (J6.zf.2 c hc),J6.tx.fr u8.fr fun c _ hz=>bjz c hz,J6.ty.fr u8.fr fun c _ hz=>bjz c hz,J6.ring.fr u8.fr fun c _ hm he=>J6.mj.1 (he▸hm),J6.out.fr u8.fr (Ne.symm J6.jt.1) fun c hc he=>J6.jt.2 (he▸hc),J6.zf,J6.zz,J6.mj,J6.jt,by omega,by omega,
   fun c hc=>by rw[u8.1];exact J6.zl c hc⟩,O6,A6,?_⟩
  exact((E04.fr (M:=fun c=>blk vt c∨c=bj)).trans (f6.mono fun c _ hc=>.inl hc)).trans (u8.fr.mono fun c _ hc=>.inr hc)
end
end
end Go.Proofs.YtcoimlclclnlkaaGreatDoor
namespace Go.Proofs.YtcoimlclclnlkaaGreatDoor
open Go Go.Crisp
theorem zjJ:∀(k:Nat) (l:List Nat),l.Nodup→(∀x∈l,x<k)→l.length≤k
 |0,[],_,_=>by simp
 |0,x::_,_,h=>absurd (h x (by simp)) (by omega)
 | k+1,l,hn,h=>by
  by_cases hk:k∈l
  ·have h1:=zjJ k (l.erase k) (hn.erase k) fun x hx=>by
    have h2:=h x (List.mem_of_mem_erase hx)
    have h3:x≠k:=fun e=>by rw[e]at hx;exact(List.Nodup.not_mem_erase hn) hx
    omega
   rw[List.length_erase_of_mem hk]at h1
   omega
  ·have:=zjJ k l hn fun x hx=>by
    have h2:=h x hx
    have h3:x≠k:=fun e=>hk (e▸hx)
    omega
   omega
theorem nodup_range {l:List Int}{a b:Int}(hn:l.Nodup)(h:∀x∈l,a≤x∧x<b):(l.length:Int)≤max 0 (b-a):=by
 have h1:(l.map fun x=>(x-a).toNat).Nodup:=by
  rw[List.nodup_iff_pairwise_ne,List.pairwise_map]
  have h2:=(List.nodup_iff_pairwise_ne.1 hn)
  refine List.Pairwise.imp_of_mem ?_ h2
  intro x y hx hy hne he
  have:=h x hx
  have:=h y hy
  omega
 have h3:=zjJ (b-a).toNat _ h1 fun x hx=>by
  obtain⟨z,hz,rfl⟩:=List.mem_map.1 hx
  have:=h z hz
  omega
 rw[List.length_map]at h3
 omega
theorem kGet_snoc {α:Type}(j i:Int)(v:α):∀kv:List (Int×α),kGet i (kv++[(j,v)])=match kGet i kv with|some u=>some u|none=>if i=j then some v else none
 | []=>by
  simp only[List.nil_append,kGet]
  by_cases h:j=i
  ·subst h;simp
  ·rw[if_neg h,if_neg (Ne.symm h)]
 | (k,u)::kv=>by
  simp only[List.cons_append,kGet]
  by_cases h:k=i
  ·rw[if_pos h,if_pos h]
  ·rw[if_neg h,if_neg h]
   exact kGet_snoc j i v kv
theorem zij:∀(l:List Int) (a:Int),l.foldl min a≤a∧∀x∈l,l.foldl min a≤x
 | [],a=>⟨Int.le_refl _,fun x hx=>absurd hx (by simp)⟩
 |y::l,a=>by
  have h:=zij l (min a y)
  rw[List.foldl_cons]
  refine⟨by have:=h.1;omega,fun x hx=>?_⟩
  rcases List.mem_cons.1 hx with rfl|hx
  ·have:=h.1;omega
  ·exact h.2 x hx
theorem minL_le {l:List Int}{x:Int}(h:x∈l):minL l≤x:=by
 cases l with
 |nil=>simp at h
 |cons y l=>
  rcases List.mem_cons.1 h with rfl|h
  ·exact(zij l _).1
  ·exact(zij l y).2 x h
structure Held (row:Int→List Int)(rs:List (Int×List Int))(F e:Int):Prop where
 nd:(rs.map Prod.fst).Nodup
 inn:∀j,F≤j→j<e→kGet j rs=some (row j)
 lt:∀x∈rs.map Prod.fst,x<e
theorem Held.none {row:Int→List Int}{rs:List (Int×List Int)}{F e:Int}(H:Held row rs F e){j:Int}(hj:e≤j):kGet j rs=none:=zfy.2 fun hm=>by have:=H.lt j hm;omega
theorem Held.start (row:Int→List Int)(F:Int):Held row [] F F:=⟨by simp,fun j h1 h2=>absurd h2 (by omega),by simp⟩
theorem Held.move {row:Int→List Int}{rs:List (Int×List Int)}{F e F':Int}(H:Held row rs F e)(hF:F≤F'):Held row rs F' (max e F'):=
 ⟨H.nd,fun j h1 h2=>H.inn j (by omega) (by omega),fun x hx=>by have:=H.lt x hx;omega⟩
theorem Held.next {row:Int→List Int}{rs:List (Int×List Int)}{F e E n:Int}{is:Bool}(H:Held row rs F e)(h1:F≤e)(h2:e≤E)(hn:zpK rs F E n is):(e<E∧is=true∧n=e)∨(e=E∧is=false∧n=0):=by
 rcases hn with⟨rfl,a1,a2,a3,a4⟩|⟨rfl,rfl,a4⟩
 ·left
  have h3:¬n<e:=fun h=>by rw[H.inn n a1 h]at a3;cases a3
  have h4:¬e<n:=fun h=>by have:=a4 e h1 h;rw[H.none (Int.le_refl _)]at this;cases this
  exact⟨by omega,rfl,by omega⟩
 ·right
  refine⟨?_,rfl,rfl⟩
  rcases Int.lt_or_le e E with h|h
  ·have:=a4 e h1 h;rw[H.none (Int.le_refl _)]at this;cases this
  ·omega
theorem Held.put {row:Int→List Int}{rs:List (Int×List Int)}{F e E:Int}{room w:Nat}(H:Held row rs F e)(h1:F≤e)(h2:e<E)(hr:E-F≤room)(hr1:1≤room)(hl:rs.length≤room)(hw:(row e).length=w):
  Held row (putR room w rs e (row e)) F (e+1)∧(putR room w rs e (row e)).length≤room:=by
 have hnone:=H.none (Int.le_refl e)
 have hlen:(rs.map Prod.fst).length=rs.length:=by simp
 have hmin:fullB room rs=true→minL (rs.map Prod.fst)∈rs.map Prod.fst:=fun hf=>minL_mem fun h0=>by
  have:rs.length=0:=by rw[←hlen,h0];rfl
  unfold fullB at hf
  have:=of_decide_eq_true hf
  omega
 have hok:putOk room w rs e (row e)=true:=by
  unfold putOk
  rw[hnone,decide_eq_true hw]
  by_cases hf:fullB room rs=true
  ·have:=H.lt _ (hmin hf)
   rw[hf,decide_eq_false (show¬e<minL (rs.map Prod.fst)by omega)]
   rfl
  ·have hf:fullB room rs=false:=by simpa using hf
   rw[hf];rfl
 unfold putR
 rw[if_pos hok]
 -- what is left of the rows
 have key:((zeC room rs).map Prod.fst).Nodup∧(∀x∈(zeC room rs).map Prod.fst,x<e)∧(∀j,F≤j→j<e→kGet j (zeC room rs)=some (row j))∧(zeC room rs).length+1≤room:=by
  unfold zeC
  by_cases hf:fullB room rs=true
  ·rw [if_pos hf]
   have hm:=hmin hf
   have hfl:room≤rs.length:=of_decide_eq_true hf
   have hmF:minL (rs.map Prod.fst)<F:=by
    rcases Int.lt_or_le (minL (rs.map Prod.fst)) F with h|h
    ·exact h
    ·have hall:∀x∈rs.map Prod.fst,F≤x∧x<e:=fun x hx=>by
      have h3:minL (rs.map Prod.fst)≤x:=minL_le hx
      have:=H.lt x hx
      omega
     have:=nodup_range H.nd hall
     rw[hlen]at this
     omega
   have hsub:(kDel (minL (rs.map Prod.fst)) rs).Sublist rs:=zqT
   have hg:∃v,kGet (minL (rs.map Prod.fst)) rs=some v:=by
    cases hg:kGet (minL (rs.map Prod.fst)) rs with
    |none=>exact absurd hm (zfy.1 hg)
    |some v=>exact⟨v,rfl⟩
   obtain⟨v,hg⟩:=hg
   have hdl:=zm3 hg
   refine⟨(hsub.map Prod.fst).nodup H.nd,fun x hx=>H.lt x ((hsub.map Prod.fst).subset hx),fun j j1 j2=>?_,by omega⟩
   rw[zm2 H.nd,if_neg (by omega)]
   exact H.inn j j1 j2
  ·rw[if_neg hf]
   have:¬room≤rs.length:=fun h=>hf (decide_eq_true h)
   exact⟨H.nd,H.lt,H.inn,by omega⟩
 obtain⟨k1,k2,k3,k4⟩:=key
 refine⟨⟨?_,fun j j1 j2=>?_,fun x hx=>?_⟩,by simp;omega⟩
 ·rw[List.map_append,List.nodup_append]
  refine⟨k1,by simp,fun a ha b hb he=>?_⟩
  have:=k2 a ha
  simp at hb
  omega
 ·rw[kGet_snoc]
  by_cases hj:j<e
  ·rw[k3 j j1 hj]
  ·have hje:j=e:=by omega
   subst hje
   have:kGet j (zeC room rs)=Option.none:=zfy.2 fun hm=>by have:=k2 j hm;omega
   rw[this]
   simp
 ·rw[List.map_append]at hx
  rcases List.mem_append.1 hx with h|h
  ·have:=k2 x h;omega
  ·simp at h;omega
theorem zla {a b c:Int}(h:a≤b)(hc:0<c):a/c≤b/c:=Int.ediv_le_ediv hc h
theorem lowW_mono {f n m i k:Int}(hn:1≤n)(hm:1≤m)(h:i≤k):lowW f n m i≤lowW f n m k:=by
 unfold lowW
 have h1:i*n≤k*n:=Int.mul_le_mul_of_nonneg_right h (by omega)
 have h2:(2*i+1)*n≤(2*k+1)*n:=Int.mul_le_mul_of_nonneg_right (by omega) (by omega)
 split
 ·exact zla h1 (by omega)
 ·have:=zla (a:=(2*i+1)*n-m-zaY f*2*max n m) (b:=(2*k+1)*n-m-zaY f*2*max n m) (c:=2*m) (by omega) (by omega)
  omega
theorem highW_mono {f n m i k:Int}(hn:1≤n)(hm:1≤m)(h:i≤k):highW f n m i≤highW f n m k:=by
 unfold highW ceilD
 have h1:(i+1)*n≤(k+1)*n:=Int.mul_le_mul_of_nonneg_right (by omega) (by omega)
 have h2:(2*i+1)*n≤(2*k+1)*n:=Int.mul_le_mul_of_nonneg_right (by omega) (by omega)
 split
 ·have:=zla (a:= -((k+1)*n)) (b:= -((i+1)*n)) (c:=m) (by omega) (by omega)
  omega
 ·have:=zla (a:= -((2*k+1)*n-m+zaY f*2*max n m)) (b:= -((2*i+1)*n-m+zaY f*2*max n m)) (c:=2*m) (by omega) (by omega)
  omega
theorem zg2 {g:Nat→Int}:∀{n:Nat},za6 g n=0→∀i,i<n→g i=0
 |0,_,i,h=>absurd h (by omega)
 | n+1,hz,i,h=>by
  have e:za6 g (n+1)=if za6 g n≠0 then za6 g n else g n:=rfl
  rw[e]at hz
  by_cases h0:za6 g n=0
  ·rw[if_neg (by simpa using h0)]at hz
   by_cases hi:i=n
   ·rw[hi];exact hz
   ·exact zg2 h0 i (by omega)
  ·rw[if_pos h0]at hz
   exact absurd hz h0
abbrev lnF (t:Tbl)(y:Int):Int:=(lineT t y).1
abbrev lnE (t:Tbl)(y:Int):Int:=(lineT t y).1+((lineT t y).2.length:Int)
structure zlX (t:Tbl):Prop where
 f:∀i k:Int,0≤i→i≤k→k<t.lines.length→lnF t i≤lnF t k
 e:∀i k:Int,0≤i→i≤k→k<t.lines.length→lnE t i≤lnE t k
 m:∀i:Int,(((lineT t i).2.length:Nat):Int)≤mostL t.lines
theorem lineT_at {n:Int}{N:Nat}{g:Nat→Int×List Int}{i:Int}(h0:0≤i)(h1:i<N):lineT ⟨n,(List.range N).map g⟩ i=g i.toNat:=by
 unfold lineT
 rw[if_pos h0]
 have:i.toNat<N:=by omega
 simp[List.getD_eq_getElem?_getD,this]
theorem zqF:∀(ls:List (Int×List Int)) (a:Int),a≤ls.foldl (fun m x=>max m (x.2.length:Int)) a∧∀x∈ls,((x.2.length:Nat):Int)≤ls.foldl (fun m x=>max m (x.2.length:Int)) a
 | [],a=>⟨Int.le_refl _,fun x hx=>absurd hx (by simp)⟩
 |y::l,a=>by
  have h:=zqF l (max a (y.2.length:Int))
  rw[List.foldl_cons]
  refine⟨by have:=h.1;omega,fun x hx=>?_⟩
  rcases List.mem_cons.1 hx with rfl|hx
  ·have:=h.1;omega
  ·exact h.2 x hx
theorem znW (t:Tbl)(i:Int):(((lineT t i).2.length:Nat):Int)≤mostL t.lines:=by
 have h:=zqF t.lines 0
 unfold lineT
 split
 ·by_cases hi:i.toNat<t.lines.length
  ·have e:t.lines.getD i.toNat (0,[])=t.lines[i.toNat]:=by simp[List.getD_eq_getElem?_getD,hi]
   rw[e]
   exact h.2 _ (List.getElem_mem hi)
  ·have e:t.lines.getD i.toNat (0,[])=(0,[]):=by simp[List.getD_eq_getElem?_getD,Nat.le_of_not_lt hi]
   rw[e];exact h.1
 ·exact h.1
theorem zlW {l:List Int}(h:zaZ l=0):(zaI l).length=l.length:=by unfold zaI;rw[if_pos h,zfa]
theorem resize_mono {f n m:Int}(hc:zbp f n m=0):zlX (zbW f n m):=by
 have h0:¬(¬(0≤f∧f<3)∨¬zaw n∨¬zaw m):=fun h=>by unfold zbp at hc;rw[if_pos h]at hc;cases hc
 have hz:=hc
 unfold zbp at hz
 rw[if_neg h0]at hz
 have hf:0≤f∧f<3:=Decidable.of_not_not fun h=>h0 (.inl h)
 have hn:zaw n:=Decidable.of_not_not fun h=>h0 (.inr (.inl h))
 have hm:zaw m:=Decidable.of_not_not fun h=>h0 (.inr (.inr h))
 unfold zaw at hn hm
 have hlen:(zbW f n m).lines.length=m.toNat:=by show(List.map _ (List.range m.toNat)).length=_;rw[List.length_map,List.length_range]
 have hline:∀i:Int,0≤i→i<m→lineT (zbW f n m) i=(zbw f n m i,zaI (zbb f n m i)):=fun i i0 i1=>by
  have:=lineT_at (n:=n) (N:=m.toNat) (g:=fun i:Nat=>(zbw f n m i,zaI (zbb f n m i))) i0 (by omega)
  rw[show((i.toNat:Nat):Int)=i by omega]at this
  exact this
 have hmay:∀i:Int,0≤i→i<m→mayR f n m i:=fun i i0 i1=>⟨hf.1,hf.2,hn.1,hn.2,hm.1,hm.2,i0,i1⟩
 have hF:∀i:Int,0≤i→i<m→lnF (zbW f n m) i=lowW f n m i:=fun i i0 i1=>by
  unfold lnF
  rw[hline i i0 i1]
  show zbw f n m i=_
  unfold zbw
  rw[if_pos (hmay i i0 i1)]
 have hE:∀i:Int,0≤i→i<m→lnE (zbW f n m) i=highW f n m i:=fun i i0 i1=>by
  have h1:=hF i i0 i1
  unfold lnF at h1
  unfold lnE
  rw[h1,hline i i0 i1]
  have h2:=zg2 hz i.toNat (by omega)
  rw[show((i.toNat:Nat):Int)=i by omega]at h2
  show lowW f n m i+(((zaI (zbb f n m i)).length:Nat):Int)=_
  rw[zlW h2]
  unfold zbb
  rw[if_pos (hmay i i0 i1)]
  unfold rowW
  rw[List.length_map,List.length_range]
  have:=start_in (hmay i i0 i1)
  omega
 refine⟨fun i k i0 ik k1=>?_,fun i k i0 ik k1=>?_,znW _⟩
 ·rw[hlen]at k1
  rw[hF i i0 (by omega),hF k (by omega) (by omega)]
  exact lowW_mono hn.1 hm.1 ik
 ·rw[hlen]at k1
  rw[hE i i0 (by omega),hE k (by omega) (by omega)]
  exact highW_mono hn.1 hm.1 ik
theorem filter_mono (l:List Int)(n:Int):zlX (zdZ l n):=by
 have hlen:(zdZ l n).lines.length=n.toNat:=by show(List.map _ (List.range n.toNat)).length=_;rw[List.length_map,List.length_range]
 have hline:∀i:Int,0≤i→i<n.toNat→lineT (zdZ l n) i=(i-(l.length/2:Nat),zaI l):=fun i i0 i1=>by
  have:=lineT_at (n:=n) (N:=n.toNat) (g:=fun i:Nat=>((i:Int)-(l.length/2:Nat),zaI l)) i0 i1
  rw[show((i.toNat:Nat):Int)=i by omega]at this
  exact this
 refine⟨fun i k i0 ik k1=>?_,fun i k i0 ik k1=>?_,znW _⟩
 ·rw[hlen]at k1
  unfold lnF
  rw[hline i i0 (by omega),hline k (by omega) k1]
  show i-_≤k-_
  omega
 ·rw[hlen]at k1
  unfold lnE
  rw[hline i i0 (by omega),hline k (by omega) k1]
  show i-((l.length/2:Nat):Int)+((zaI l).length:Int)≤k-((l.length/2:Nat):Int)+((zaI l).length:Int)
  omega
theorem makeS_mono {o:OpD}{w h:Int}(hc:makeC o w h=0):zlX (makeS o w h).y:=by
 have ht:zc9 o w h=0:=by
  unfold makeC at hc
  split at hc
  ·cases hc
  ·exact hc
 show zlX (zcu o h)
 unfold zc9 at ht
 unfold zcu
 split
 ·rename_i hk
  rw[if_pos hk]at ht
  by_cases h1:zbp o.filter w o.w=0
  ·rw[if_neg (by simpa using h1)]at ht
   exact resize_mono ht
  ·rw[if_pos h1]at ht
   exact absurd ht h1
 ·exact filter_mono _ _
end Go.Proofs.YtcoimlclclnlkaaGreatDoor
namespace Go.Crisp
open Go
theorem FCall.at {P:Program}{f:FuncId}{args:Array Value}{h:Heap}{v:Value}{K:Value→Heap→Prop}(H:FCall P f args h fun r h'=>r=v∧h'=h)(k:K v h):FCall P f args h K:=
 H.mono fun r h' ⟨e,w⟩=>by rw[e,w];exact k
theorem FCall.to {P:Program}{f:FuncId}{args:Array Value}{h:Heap}{v:Value}{K:Value→Heap→Prop}(H:FCall P f args h fun r h'=>r=v∧Ext h h')(k:∀h',Ext h h'→K v h'):FCall P f args h K:=
 H.mono fun r h' ⟨e,w⟩=>by rw[e];exact k h' w
theorem Fr.after {M N:Nat→Prop}{a b c:Heap}(f:Fr M a b)(k:Fr N b c)(n:∀i,i<a.size→N i→M i):Fr M a c:=
 ⟨Nat.le_trans f.1 k.1,fun i hi hm=>(k.2 i (Nat.lt_of_lt_of_le hi f.1) fun x=>hm (n i hi x)).trans (f.2 i hi hm)⟩
theorem Fr.ext_r {M:Nat→Prop}{a b c:Heap}(f:Fr M a b)(k:Ext b c):Fr M a c:=f.trans k.fr
theorem Fr.upd_new {M:Nat→Prop}{a b c:Heap}{x:Nat}(f:Fr M a b)(u:Upd x b c)(n:a.size≤x):Fr M a c:=f.after u.fr fun i hi e=>by omega
theorem New.fr {α:Type}{e:Rp α}{M:Nat→Prop}{h h1 h':Heap}{v:Value}{l:List α}(H:New e h h1 v l)(f:Fr M h1 h')(hm:∀b,M b→h.size≤b)(q:∀b,blk v b→¬M b):New e h h' v l:=
 ⟨H.1.fr f (fun b _ hb=>hb.elim) q,H.2.1.then_fr f hm,H.2.2⟩
theorem eqT (a:Int):(a=a)=True:=eq_true rfl
theorem ptr_nn (a:Nat):binV .p .neq (.pointer (some ⟨a,0,none⟩)) (.pointer none)=some (.bool true):=rfl
theorem ptr_en (a:Nat):binV .p .eql (.pointer (some ⟨a,0,none⟩)) (.pointer none)=some (.bool false):=rfl
theorem nil_nn:binV .p .neq (.pointer none) (.pointer none)=some (.bool false):=rfl
theorem nil_en:binV .p .eql (.pointer none) (.pointer none)=some (.bool true):=rfl
end Go.Crisp
namespace Go.Proofs.YtcoimlclclnlkaaGreatDoor
open Go Go.Crisp
attribute [local irreducible] FCall rowK newK stK iteK vK qK drawK gK joinK loopK mkK appK cpyK zmY zkN bsK clK zgY zfx newmK
open _root_.Go.Proofs.Tryz
section
def Grow (B:Nat→Prop)(h h':Heap):Nat→Prop:=fun c=>B c∨(h.size≤c∧c<h'.size)
structure JobSt (Z B:Nat→Prop)(h:Heap)(bj bf:Nat)(vf:Value)(bt:Nat)(vt p q rv:Value)(d:JobD)(y e:Int)(n:Pic)(room w:Nat):Prop where
 at_:∃M rs,JobAt Z M h bj bf vf bt vt p q rv d y n room w rs∧(∀c,M c→B c)∧(y<d.t.y+d.t.h→Held (rowZ d) rs (lnF d.s.y y) e∧lnF d.s.y y≤e∧e≤lnE d.s.y y)
 bj0:B bj
 bl:∀c,B c→c<h.size
 bz:∀c,B c→¬Z c∧c≠bt∧¬blk vt c
 out:OutOk d n
theorem JobSt.ext {Z B:Nat→Prop}{h h':Heap}{bj bf:Nat}{vf:Value}{bt:Nat}{vt p q rv:Value}{d:JobD}{y e:Int}{n:Pic}{room w:Nat}(S:JobSt Z B h bj bf vf bt vt p q rv d y e n room w)(k:Ext h h'):JobSt Z B h' bj bf vf bt vt p q rv d y e n room w:=by
 obtain⟨⟨M,rs,J,a,b⟩,c,f,g,o⟩:=S
 exact⟨⟨M,rs,J.ext k,a,b⟩,c,fun c hc=>Nat.lt_of_lt_of_le (f c hc) k.1,g,o⟩
theorem JobAt.chg {Z M Q:Nat→Prop}{h h':Heap}{bj bf:Nat}{vf:Value}{bt:Nat}{vt p q rv:Value}{d:JobD}{y:Int}{n n':Pic}{room w:Nat}{rs:List (Int×List Int)}(J:JobAt Z M h bj bf vf bt vt p q rv d y n room w rs)(f:Fr Q h h')
  (qz:∀c,Z c→¬Q c) (qm:∀c,M c→¬Q c) (qj:¬Q bj) (I:IsImg h' bt vt n'):JobAt Z M h' bj bf vf bt vt p q rv d y n' room w rs:=
 ⟨f.row J.row qj,J.src.fr f (qz _ J.zf.1) fun c hc=>qz _ (J.zf.2 c hc),J.tx.fr f fun c _ hz=>qz c hz,J.ty.fr f fun c _ hz=>qz c hz,J.ring.fr f fun c _ hm=>qm c hm,I,J.zf,J.zz,J.mj,J.jt,J.y0,J.y1,fun c hc=>Nat.lt_of_lt_of_le (J.zl c hc) f.1⟩
theorem JobSt.other {Z B Q:Nat→Prop}{h h':Heap}{bj bf:Nat}{vf:Value}{bt:Nat}{vt p q rv:Value}{d:JobD}{y e:Int}{n n':Pic}{room w:Nat}(S:JobSt Z B h bj bf vf bt vt p q rv d y e n room w)(f:Fr Q h h')
  (qz:∀c,Z c→¬Q c) (qb:∀c,B c→¬Q c) (I:IsImg h' bt vt n') (O:OutOk d n'):JobSt Z B h' bj bf vf bt vt p q rv d y e n' room w:=by
 obtain⟨⟨M,rs,J,a,b⟩,c,l,g,o⟩:=S
 exact⟨⟨M,rs,J.chg f qz (fun k hk=>qb k (a k hk)) (qb _ c) I,a,b⟩,c,fun c hc=>Nat.lt_of_lt_of_le (l c hc) f.1,g,O⟩
theorem JobSt.img {Z B:Nat→Prop}{h:Heap}{bj bf:Nat}{vf:Value}{bt:Nat}{vt p q rv:Value}{d:JobD}{y e:Int}{n:Pic}{room w:Nat}(S:JobSt Z B h bj bf vf bt vt p q rv d y e n room w):IsImg h bt vt n:=by
 obtain⟨⟨M,rs,J,a,b⟩,_⟩:=S
 exact J.out
theorem JobSt.src {Z B:Nat→Prop}{h:Heap}{bj bf:Nat}{vf:Value}{bt:Nat}{vt p q rv:Value}{d:JobD}{y e:Int}{n:Pic}{room w:Nat}(S:JobSt Z B h bj bf vf bt vt p q rv d y e n room w):IsImg h bf vf d.m:=by
 obtain⟨⟨M,rs,J,a,b⟩,_⟩:=S
 exact J.src
theorem JobAt.frq {Z M Q:Nat→Prop}{h h':Heap}{bj bf:Nat}{vf:Value}{bt:Nat}{vt p q rv:Value}{d:JobD}{y:Int}{n:Pic}{room w:Nat}{rs:List (Int×List Int)}(J:JobAt Z M h bj bf vf bt vt p q rv d y n room w rs)(f:Fr Q h h')
  (qz:∀c,Z c→¬Q c) (qm:∀c,M c→¬Q c) (qj:¬Q bj) (qt:¬Q bt) (qv:∀c,blk vt c→¬Q c):JobAt Z M h' bj bf vf bt vt p q rv d y n room w rs:=
 ⟨f.row J.row qj,J.src.fr f (qz _ J.zf.1) fun c hc=>qz _ (J.zf.2 c hc),J.tx.fr f fun c _ hz=>qz c hz,J.ty.fr f fun c _ hz=>qz c hz,J.ring.fr f fun c _ hm=>qm c hm,J.out.fr f qt qv,J.zf,J.zz,J.mj,J.jt,J.y0,J.y1,fun c hc=>Nat.lt_of_lt_of_le (J.zl c hc) f.1⟩
structure RoomOk (d:JobD)(room w:Nat):Prop where
 mono:zlX d.s.y
 fit:mostL d.s.y.lines≤room
 one:1≤room
 wid:(w:Int)=d.t.w*d.m.c
 small:d.t.w≤300
def stepK (d:JobD)(y e:Int):Int:=if d.t.y+d.t.h≤y then 0 else if e<lnE d.s.y y then 1 else 2
def stepJ (d:JobD)(y e:Int):Int:=if d.t.y+d.t.h≤y then 0 else if e<lnE d.s.y y then e else y
def stepY (d:JobD)(y e:Int):Int:=if stepK d y e=2 then y+1 else y
def stepE (d:JobD)(y e:Int):Int:=if stepK d y e=1 then e+1 else if stepK d y e=2 then max e (lnF d.s.y (y+1))else e
section
variable {Z B:Nat→Prop}{h:Heap}{bj bf:Nat}{vf:Value}{bt:Nat}{vt p q rv:Value}{d:JobD}{y e:Int}{n:Pic}{room w:Nat}
theorem zpB (S:JobSt Z B h bj bf vf bt vt p q rv d y e n room w)(W:d.Wf):FCall prog zb8 #[ptr bj] h fun r h'=>r=moveV (stepK d y e) (stepJ d y e)∧Ext h h':=by
 obtain⟨⟨M,rs,J,a,b⟩,c,f,g,o⟩:=S
 refine(c_jobNext J W).mono fun r h' ⟨k,j,er,hn,E⟩=>⟨?_,E⟩
 rw[er]
 unfold NextZ at hn
 unfold stepK stepJ
 by_cases ho:d.t.y+d.t.h≤y
 ·rw[if_pos ho]at hn
  rw[if_pos ho,if_pos ho,hn.1,hn.2]
 ·rw[if_neg ho]at hn
  rw[if_neg ho,if_neg ho]
  obtain⟨H,h1,h2⟩:=b (by omega)
  rcases hn with⟨rfl,hn⟩|⟨rfl,rfl,hn⟩
  ·rcases H.next h1 h2 hn with⟨a1,_,a3⟩|⟨_,a2,_⟩
   ·rw[if_pos a1,if_pos a1,a3]
   ·cases a2
  ·rcases H.next h1 h2 hn with⟨_,a2,_⟩|⟨a1,_,_⟩
   ·cases a2
   ·rw[if_neg (by omega),if_neg (by omega)]
theorem c_Step (S:JobSt Z B h bj bf vf bt vt p q rv d y e n room w)(W:d.Wf)(R:RoomOk d room w):FCall prog zby #[ptr bj] h fun r h'=>
  r=moveV (stepK d y e) (stepJ d y e)∧∃n',JobSt Z (Grow B h h') h' bj bf vf bt vt p q rv d (stepY d y e) (stepE d y e) n' room w∧Fr (fun c=>blk vt c∨B c) h h'∧
   (stepK d y e≠2→n'=n)∧(stepK d y e=2→∀x' y' c',inP n x' y' c'→atP n' x' y' c'=if wrote d y w x' y' c' then pixZ d.m d.s x' y' c' else atP n x' y' c'):=by
 apply zkR
 unfold zfR
 refine zah fun b1 h1 r1 e1 n1=>?_
 have S1:=S.ext e1
 refine(zpB S1 W).mono fun r h2 ⟨er,e2⟩=>?_
 subst er
 refine za0 (cs:=[.int .i64 (stepK d y e),.int .i64 (stepJ d y e)]) rfl (zac rfl (zac rfl zal)) rfl fun b3 h3 r3 e3 n3=>?_
 have E3:=e1.trans (e2.trans e3)
 have S3:=S.ext E3
 have hl13:b1<b3:=by have:=zau r1;have:=e2.1;omega
 have l3:=zau r3
 have l1:b1<h3.size:=by omega
 have r13:=(e2.trans e3).row r1
 have sz3:=E3.1
 -- the end of a step: the move is handed on
 have fin:∀{h4:Heap} {n':Pic},Fr (fun c=>(blk vt c∨B c)∧c≠b1∧c≠b3) h3 h4→
   ((stepK d y e≠2→n'=n)∧(stepK d y e=2→∀x' y' c',inP n x' y' c'→atP n' x' y' c'=if wrote d y w x' y' c' then pixZ d.m d.s x' y' c' else atP n x' y' c'))→(∀h5,Upd b1 h4 h5→JobSt Z (Grow B h h5) h5 bj bf vf bt vt p q rv d (stepY d y e) (stepE d y e) n' room w)→
   vK (ldsV 2 h4 (ptr b3)) fun v16=>stK 2 (ptr b1) v16 h4 fun _ h18=>vK (ldsV 2 h18 (ptr b1)) fun v19=>v19=moveV (stepK d y e) (stepJ d y e)∧∃n',JobSt Z (Grow B h h18) h18 bj bf vf bt vt p q rv d (stepY d y e) (stepE d y e) n' room w∧Fr (fun c=>blk vt c∨B c) h h18∧
    (stepK d y e≠2→n'=n)∧(stepK d y e=2→∀x' y' c',inP n x' y' c'→atP n' x' y' c'=if wrote d y w x' y' c' then pixZ d.m d.s x' y' c' else atP n x' y' c'):=by
  intro h4 n' f4 hc4 hS5
  have r34:=f4.row r3 fun hm=>hm.2.2 rfl
  have r14:=f4.row r13 fun hm=>hm.2.1 rfl
  rw[zao (l:=[.int .i64 (stepK d y e),.int .i64 (stepJ d y e)]) r34 2 rfl,zaa]
  refine zaP (l:=[.int .i64 (stepK d y e),.int .i64 (stepJ d y e)]) r14 rfl (zac rfl (zac rfl zal)) rfl fun h5 r5 u5=>?_
  rw[zao r5 2 rfl,zaa]
  exact⟨rfl,n',hS5 h5 u5,((E3.fr (M:=fun c=>blk vt c∨B c)).after f4 fun c _ hc=>hc.1).after u5.fr (fun c hc he=>by omega),hc4.1,hc4.2⟩
 obtain⟨⟨M,rs,J,hMb,hH⟩,hbj,hbl,hbz,hO⟩:=S
 have J3:=J.ext E3
 -- a block that is new lies apart from a job
 have ap:∀{b:Nat} {M':Nat→Prop},h.size≤b→b<h3.size→(∀c,M' c→M c∨h3.size≤c)→(∀c,Z c→¬c=b)∧(∀c,M' c→¬c=b)∧¬bj=b∧¬bt=b∧∀c,blk vt c→¬c=b:=by
  intro b M' hb hb' hM'
  refine⟨fun c hc he=>?_,fun c hc he=>?_,fun he=>?_,fun he=>?_,fun c hc he=>?_⟩
  ·have:=J.zl c hc;omega
  ·rcases hM' c hc with h4|h4
   ·have:=J.ring.lt h4;omega
   ·omega
  ·have:=zau J.row;omega
  ·have:=J.out.lt;omega
  ·have:=J.out.ltv hc;omega
 have nb1:h.size≤b1:=n1
 have nb3:h.size≤b3:=by omega
 -- what is its own, at last
 have gz:∀{h5:Heap},∀c,Grow B h h5 c→¬Z c∧c≠bt∧¬blk vt c:=fun c hc=>by
  rcases hc with hc|hc
  ·exact hbz c hc
  ·refine⟨fun hz=>?_,fun he=>?_,fun hv=>?_⟩
   ·have:=J.zl c hz;omega
   ·have:=J.out.lt;omega
   ·have:=J.out.ltv hv;omega
 have gl:∀{h5:Heap},h.size≤h5.size→∀c,Grow B h h5 c→c<h5.size:=fun hs c hc=>by
  rcases hc with hc|hc
  ·exact Nat.lt_of_lt_of_le (hbl c hc) hs
  ·exact hc.2
 simp only[go_sem,Nat.zero_add]
 have c0:zag h3 ⟨b3,0,none⟩=some (.int .i64 (stepK d y e)):=zad r3
 have c1:zag h3 ⟨b3,1,none⟩=some (.int .i64 (stepJ d y e)):=zad r3
 simp only[go_sem,c0,c1]
 refine zab (fun hk=>?_) (fun hk=>?_)
 ·-- a row is filtered
  have hno:¬d.t.y+d.t.h≤y:=fun h=>by unfold stepK at hk;rw[if_pos h]at hk;cases hk
  have hlt:e<lnE d.s.y y:=by
   unfold stepK at hk
   rw[if_neg hno]at hk
   rcases Int.lt_or_le e (lnE d.s.y y)with h|h
   ·exact h
   ·rw[if_neg (by omega)]at hk;cases hk
  have hj:stepJ d y e=e:=by unfold stepJ;rw[if_neg hno,if_pos hlt]
  have hy:stepY d y e=y:=by unfold stepY;rw[if_neg (by omega)]
  have he:stepE d y e=e+1:=by unfold stepE;rw[if_pos hk]
  obtain⟨H,a1,a2⟩:=hH (by omega)
  have hl:=zie W.s.y y
  rw[hy,he]at fin ⊢
  rw[hj]at fin ⊢
  refine(c_filter J3 W (j:=e) (by unfold lnF at a1;unfold lnE at hlt;unfold I64;omega) R.small).mono fun r h4 ⟨M',J4,f4,m4⟩=>?_
  have hrm:=R.fit
  have hml:=R.mono.m y
  have hrs:=J3.ring.nums
  have hwl:(rowZ d e).length=w:=by
   have h5:=R.wid
   have hf:=zcX W.m.fits
   have hw1:=W.w1
   unfold rowZ
   rw[zkL]
   have:((d.t.w.toNat*d.m.c.toNat:Nat):Int)=d.t.w*d.m.c:=by rw[Int.natCast_mul,Int.toNat_of_nonneg (by omega),Int.toNat_of_nonneg (by omega)]
   omega
  have HP:=H.put (E:=lnE d.s.y y) (room:=room) (w:=w) a1 hlt (by unfold lnF lnE;omega) R.one hrs.2.2.2.1 hwl
  have ap1:=ap nb1 l1 m4
  have sz4:=f4.1
  refine fin (f4.mono fun c hc hm=>⟨.inr (hMb c hm),fun h5=>by have:=J.ring.lt hm;omega,fun h5=>by have:=J.ring.lt hm;omega⟩) ⟨fun _=>rfl,fun h5=>by omega⟩ fun h5 u5=>
   ⟨⟨M',_,J4.frq u5.fr ap1.1 ap1.2.1 ap1.2.2.1 ap1.2.2.2.1 ap1.2.2.2.2,fun c hc=>?_,fun _=>⟨HP.1,by omega,by omega⟩⟩,.inl hbj,gl (by rw[u5.1];omega),gz,hO⟩
  rcases m4 c hc with h6|h6
  ·exact .inl (hMb c h6)
  ·have:=J4.ring.lt hc
   exact .inr ⟨by omega,by rw[u5.1];exact this⟩
 refine zab (fun hk2=>?_) (fun hk2=>?_)
 ·-- a row is written
  have hno:¬d.t.y+d.t.h≤y:=fun h=>by unfold stepK at hk2;rw[if_pos h]at hk2;cases hk2
  obtain⟨H,a1,a2⟩:=hH (by omega)
  have heE:e=lnE d.s.y y:=by
   unfold stepK at hk
   rw[if_neg hno]at hk
   rcases Int.lt_or_le e (lnE d.s.y y)with h|h
   ·rw[if_pos h]at hk;exact absurd rfl hk
   ·omega
  have hy:stepY d y e=y+1:=by unfold stepY;rw[if_pos hk2]
  have he:stepE d y e=max e (lnF d.s.y (y+1)):=by unfold stepE;rw[if_neg hk,if_pos hk2]
  rw[hy,he]at fin ⊢
  refine(c_write J3 W hO R.small (by omega) R.wid fun k hk'=>H.inn _ (by unfold lnF;omega) (by rw[heE];unfold lnE;omega)).mono fun r h4 ⟨n',J4,O4,A4,f4⟩=>?_
  have ap1:=ap (M':=M) nb1 l1 fun c hc=>.inl hc
  have hm:=R.mono
  have hy0:=J.y0
  have hW0:=W.y0
  have hWh:=W.yh
  have sz4:=f4.1
  refine fin (f4.mono fun c hc hm=>?_) ⟨fun h5=>absurd hk2 h5,fun _=>A4⟩ fun h5 u5=>
   ⟨⟨M,_,J4.frq u5.fr ap1.1 ap1.2.1 ap1.2.2.1 ap1.2.2.2.1 ap1.2.2.2.2,fun c hc=>.inl (hMb c hc),fun hlt=>?_⟩,.inl hbj,gl (by rw[u5.1];omega),gz,O4⟩
  ·rcases hm with hm|hm
   ·have:=J.out.ltv hm
    exact⟨.inl hm,by omega,by omega⟩
   ·have:=zau J.row
    exact⟨.inr (hm▸hbj),by omega,by omega⟩
  ·have g1:=hm.f y (y+1) (by omega) (by omega) (by omega)
   have g2:=hm.e y (y+1) (by omega) (by omega) (by omega)
   refine⟨H.move g1,by omega,?_⟩
   have:lnF d.s.y (y+1)≤lnE d.s.y (y+1):=by unfold lnF lnE;omega
   omega
 ·-- it is over
  have hk0:stepK d y e=0:=by
   unfold stepK at*
   by_cases h4:d.t.y+d.t.h≤y
   ·rw[if_pos h4]
   ·rw[if_neg h4]at*
    by_cases h5:e<lnE d.s.y y
    ·rw[if_pos h5]at hk;exact absurd rfl hk
    ·rw[if_neg h5]at hk2;exact absurd rfl hk2
  have hy:stepY d y e=y:=by unfold stepY;rw[if_neg hk2]
  have he:stepE d y e=e:=by unfold stepE;rw[if_neg hk,if_neg hk2]
  rw[hy,he]at fin ⊢
  have ap1:=ap (M':=M) nb1 l1 fun c hc=>.inl hc
  exact fin (Fr.refl _ _) ⟨fun _=>rfl,fun h5=>absurd h5 hk2⟩ fun h5 u5=>⟨⟨M,rs,J3.frq u5.fr ap1.1 ap1.2.1 ap1.2.2.1 ap1.2.2.2.1 ap1.2.2.2.2,fun c hc=>.inl (hMb c hc),hH⟩,.inl hbj,gl (by rw[u5.1];omega),gz,hO⟩
end
end
theorem pe_ne {h:Heap}{a b:Nat}{c c':Array Value}{t t':TypeId}(ha:h[a]? =some (.cells c t (0,0)))(hb:h[b]? =some (.cells c' t' (0,0)))(hne:a≠b):peV h .neq (ptr a) (ptr b)=some (.bool true):=by
 have h1:¬(⟨a,0,none⟩:Addr)=⟨b,0,none⟩:=fun hh=>hne (by injection hh)
 have h2:zf5 h a=true:=by unfold zf5;rw[ha];rfl
 have h3:zf5 h b=true:=by unfold zf5;rw[hb];rfl
 show(if(⟨a,0,none⟩:Addr)=⟨b,0,none⟩then some (Value.bool false)else if zf5 h a&&zf5 h b then some (.bool true)else none)=_
 rw[if_neg h1,h2,h3];rfl
def zdR (m n:Pic)(s:Stg):Prop:=zhL m s∧n.w=s.x.lines.length∧n.h=s.y.lines.length∧n.c=m.c∧n.most=m.most
instance (m n:Pic)(s:Stg):Decidable (zdR m n s):=by unfold zdR;infer_instance
theorem c_wsuits {h:Heap}(G:GlobB h){Z:Nat→Prop}{bf bt:Nat}{vf vt sv:Value}{m n:Pic}{s:Stg}(I:IsImg h bf vf m)(O:IsImg h bt vt n)(hne:bf≠bt)(HS:IsStg Z h sv s):
  FCall prog zgp #[ptr bf,ptr bt,sv] h fun r h'=>r=.bool (decide (zdR m n s))∧Ext h h':=by
 apply znA
 unfold zhO
 obtain⟨p,q,rfl,hp,hq,ones⟩:=zdr HS
 simp only[zaJ]
 refine zah fun b1 h1 r1 e1 n1=>?_
 refine zap (fun h'=>h'=h1) rfl ?_
 simp only[go_sem,ptr_nn]
 refine zaf (.bool true) (fun h' e=>by rw[e];exact pe_ne (e1.row I.row) (e1.row O.row) hne) ?_
 try simp only[go_sem]
 refine zaf (.agg #[p,q,.int .i64 s.border]) (fun h' e=>by rw[e];exact zao (l:=[p,q,.int .i64 s.border]) r1 3 rfl) ?_
 refine FCall.to (c_Suits (G.ext e1) (I.ext e1) (HS.ext e1)) fun h2 e2=>?_
 have E2:=e1.trans e2
 have r2:=e2.row r1
 have c0:zag h2 ⟨b1,0,none⟩=some p:=zad r2
 have c1:zag h2 ⟨b1,1,none⟩=some q:=zad r2
 by_cases g1:zhL m s
 case neg=>
  rw[decide_eq_false g1,decide_eq_false fun hw:zdR m n s=>g1 hw.1]
  refine zap (fun h'=>h'=h2) rfl ?_
  simp only[go_sem]
  refine zaf undef (fun _ _=>rfl) ?_
  try simp only[go_sem]
  refine⟨trivial,?_⟩
  try simp only[go_sem]
  refine zap (fun h'=>h'=h2) rfl ?_
  simp only[go_sem]
  refine zaf undef (fun _ _=>rfl) ?_
  try simp only[go_sem]
  refine⟨trivial,?_⟩
  try simp only[go_sem]
  exact⟨trivial,E2⟩
 rw[decide_eq_true g1]
 refine zap (fun h'=>h'=h2) rfl ?_
 simp only[go_sem,Nat.zero_add]
 refine zaf p (fun h' e=>by rw[e];exact c0) ?_
 try simp only[go_sem]
 refine FCall.at (zlU (O.ext E2)) ?_
 refine⟨rfl,?_⟩
 try simp only[go_sem]
 refine FCall.at (c_To (hp.ext E2)) ?_
 refine zap (fun h'=>h'=h2) rfl ?_
 by_cases g2:n.w=s.x.lines.length
 case neg=>
  rw[decide_eq_false fun hw:zdR m n s=>g2 hw.2.1]
  simp only[go_sem,decide_eq_false g2]
  refine zaf undef (fun _ _=>rfl) ?_
  try simp only[go_sem]
  refine⟨trivial,?_⟩
  try simp only[go_sem]
  exact⟨trivial,E2⟩
 simp only[go_sem,Nat.zero_add,g2,eqT]
 refine zaf q (fun h' e=>by rw[e];exact c1) ?_
 try simp only[go_sem]
 refine FCall.at (ziK (O.ext E2)) ?_
 refine⟨rfl,?_⟩
 try simp only[go_sem]
 refine FCall.at (c_To (hq.ext E2)) ?_
 by_cases g3:n.h=s.y.lines.length
 case neg=>
  rw[decide_eq_false fun hw:zdR m n s=>g3 hw.2.2.1]
  simp only[go_sem,decide_eq_false g3]
  exact⟨trivial,E2⟩
 simp only[go_sem,Nat.zero_add,g3,eqT]
 refine FCall.at (zcr (O.ext E2)) (FCall.at (zcr (I.ext E2)) ?_)
 by_cases g4:n.c=m.c
 case neg=>
  rw[decide_eq_false fun hw:zdR m n s=>g4 hw.2.2.2.1]
  simp only[go_sem,decide_eq_false g4]
  exact⟨trivial,E2⟩
 simp only[go_sem,Nat.zero_add,g4,eqT]
 refine FCall.at (zgK (O.ext E2)) (FCall.at (zgK (I.ext E2)) ?_)
 simp only[go_sem]
 refine⟨?_,E2⟩
 congr 1
 rw[decide_eq_decide]
 exact⟨fun g5=>⟨g1,g2,g3,g4,g5⟩,fun hw=>hw.2.2.2.2⟩
abbrev rectV (x y w hh:Int):Value:=.agg #[.int .i64 x,.int .i64 y,.int .i64 w,.int .i64 hh]
def zcV (s:Stg)(x y w hh:Int):Prop:=1≤w∧1≤hh∧0≤x∧0≤y∧x<s.x.lines.length∧y<s.y.lines.length∧w≤s.x.lines.length-x∧hh≤s.y.lines.length-y
instance (s:Stg)(x y w hh:Int):Decidable (zcV s x y w hh):=by unfold zcV;infer_instance
theorem c_within {h:Heap}{Z:Nat→Prop}{sv:Value}{s:Stg}(HS:IsStg Z h sv s)(WS:s.Wf){x y w hh:Int}:
  FCall prog zfB #[sv,rectV x y w hh] h fun r h'=>r=.bool (decide (zcV s x y w hh))∧Ext h h':=by
 apply zmG
 unfold zho
 obtain⟨p,q,rfl,hp,hq,ones⟩:=zdr HS
 have lx:=WS.x.len
 have ly:=WS.y.len
 simp only[zaJ]
 refine zah fun b1 h1 r1 e1 n1=>zah fun b2 h2 r2 e2 n2=>?_
 have r1:=e2.row r1
 have E:=e1.trans e2
 have np:=(zoX hp).1
 have nq:=(zoX hq).1
 refine zap (fun h'=>h'=h2) rfl ?_
 simp only[go_sem,Nat.zero_add]
 refine zaf p (fun h' e=>by rw[e];exact zad r1) ?_
 simp only[go_sem,Nat.zero_add,np]
 refine zaf q (fun h' e=>by rw[e];exact zad r1) ?_
 simp only[go_sem,Nat.zero_add,nq]
 refine zaf (.int .i64 w) (fun h' e=>by rw[e];exact zad r2) ?_
 by_cases g1:1≤w
 case neg=>
  rw[decide_eq_false fun hw:zcV s x y w hh=>g1 hw.1]
  simp only[go_sem,decide_eq_false g1]
  repeat(first|refine zaf undef (fun _ _=>rfl) ?_ |(refine⟨trivial,?_⟩)|simp only[go_sem])
  first|exact E|exact⟨trivial,E⟩|exact⟨rfl,E⟩
 simp only[go_sem,Nat.zero_add,decide_eq_true g1]
 refine zaf (.int .i64 hh) (fun h' e=>by rw[e];exact zad r2) ?_
 by_cases g2:1≤hh
 case neg=>
  rw[decide_eq_false fun hw:zcV s x y w hh=>g2 hw.2.1]
  simp only[go_sem,decide_eq_false g2]
  repeat(first|refine zaf undef (fun _ _=>rfl) ?_ |(refine⟨trivial,?_⟩)|simp only[go_sem])
  first|exact E|exact⟨trivial,E⟩|exact⟨rfl,E⟩
 simp only[go_sem,Nat.zero_add,decide_eq_true g2]
 refine zaf (.int .i64 x) (fun h' e=>by rw[e];exact zad r2) ?_
 by_cases g3:0≤x
 case neg=>
  rw[decide_eq_false fun hw:zcV s x y w hh=>g3 hw.2.2.1]
  simp only[go_sem,decide_eq_false g3]
  repeat(first|refine zaf undef (fun _ _=>rfl) ?_ |(refine⟨trivial,?_⟩)|simp only[go_sem])
  first|exact E|exact⟨trivial,E⟩|exact⟨rfl,E⟩
 simp only[go_sem,Nat.zero_add,decide_eq_true g3]
 refine zaf (.int .i64 y) (fun h' e=>by rw[e];exact zad r2) ?_
 by_cases g4:0≤y
 case neg=>
  rw[decide_eq_false fun hw:zcV s x y w hh=>g4 hw.2.2.2.1]
  simp only[go_sem,decide_eq_false g4]
  repeat(first|refine zaf undef (fun _ _=>rfl) ?_ |(refine⟨trivial,?_⟩)|simp only[go_sem])
  first|exact E|exact⟨trivial,E⟩|exact⟨rfl,E⟩
 simp only[go_sem,Nat.zero_add,decide_eq_true g4]
 refine zaf (.int .i64 x) (fun h' e=>by rw[e];exact zad r2) ?_
 refine zaf p (fun h' e=>by rw[e];exact zad r1) ?_
 try simp only[go_sem]
 refine FCall.at (c_To (hp.ext E)) ?_
 refine⟨rfl,?_⟩
 by_cases g5:x<(s.x.lines.length:Int)
 case neg=>
  rw[decide_eq_false fun hw:zcV s x y w hh=>g5 hw.2.2.2.2.1]
  simp only[go_sem,decide_eq_false g5]
  repeat(first|refine zaf undef (fun _ _=>rfl) ?_ |(refine⟨trivial,?_⟩)|simp only[go_sem])
  first|exact E|exact⟨trivial,E⟩|exact⟨rfl,E⟩
 simp only[go_sem,Nat.zero_add,decide_eq_true g5]
 refine zaf (.int .i64 y) (fun h' e=>by rw[e];exact zad r2) ?_
 refine zaf q (fun h' e=>by rw[e];exact zad r1) ?_
 try simp only[go_sem]
 refine FCall.at (c_To (hq.ext E)) ?_
 refine⟨rfl,?_⟩
 by_cases g6:y<(s.y.lines.length:Int)
 case neg=>
  rw[decide_eq_false fun hw:zcV s x y w hh=>g6 hw.2.2.2.2.2.1]
  simp only[go_sem,decide_eq_false g6]
  repeat(first|refine zaf undef (fun _ _=>rfl) ?_ |(refine⟨trivial,?_⟩)|simp only[go_sem])
  first|exact E|exact⟨trivial,E⟩|exact⟨rfl,E⟩
 simp only[go_sem,Nat.zero_add,decide_eq_true g6]
 refine zaf (.int .i64 w) (fun h' e=>by rw[e];exact zad r2) ?_
 refine zaf p (fun h' e=>by rw[e];exact zad r1) ?_
 refine zaf (.int .i64 x) (fun h' e=>by rw[e];exact zad r2) ?_
 try simp only[go_sem]
 refine FCall.at (c_To (hp.ext E)) ?_
 refine⟨rfl,?_⟩
 simp only[go_sem,Nat.zero_add]
 rw[w64 (by omega) (by omega)]
 by_cases g7:w≤(s.x.lines.length:Int)-x
 case neg=>
  rw[decide_eq_false fun hw:zcV s x y w hh=>g7 hw.2.2.2.2.2.2.1]
  simp only[go_sem,decide_eq_false g7]
  repeat(first|refine zaf undef (fun _ _=>rfl) ?_ |(refine⟨trivial,?_⟩)|simp only[go_sem])
  first|exact E|exact⟨trivial,E⟩|exact⟨rfl,E⟩
 simp only[go_sem,Nat.zero_add,decide_eq_true g7]
 refine zaf (.int .i64 hh) (fun h' e=>by rw[e];exact zad r2) ?_
 refine zaf q (fun h' e=>by rw[e];exact zad r1) ?_
 refine zaf (.int .i64 y) (fun h' e=>by rw[e];exact zad r2) ?_
 try simp only[go_sem]
 refine FCall.at (c_To (hq.ext E)) ?_
 refine⟨rfl,?_⟩
 simp only[go_sem,Nat.zero_add]
 rw[w64 (by omega) (by omega)]
 refine⟨?_,E⟩
 congr 1
 rw[decide_eq_decide]
 exact⟨fun g8=>⟨g1,g2,g3,g4,g5,g6,g7,g8⟩,fun hw=>hw.2.2.2.2.2.2.2⟩
abbrev zeroJ:Array Value:=#[(.pointer none),(.pointer none),(.pointer none),(.pointer none),(.int .i64 0),(.int .i64 0),(.int .i64 0),(.int .i64 0),(.int .i64 0),(.int .i64 0),(.int .i64 0),(.int .i64 0),(.int .i64 0),(.int .i64 0),(.int .i64 0),(.pointer none),(.int .i64 0)]
theorem fill_job {bf bt:Nat}{p q rv:Value}{d:JobD}{y:Int}(hr:zar rv=true):
  fillL zeroJ [(0,1,ptr bf),(1,1,ptr bt),(2,3,.agg #[p,q,.int .i64 d.s.border]),(5,10,.agg (tileC d.t).toArray),(15,1,rv),(16,1,.int .i64 y)]=some (jobC bf bt p q rv d y).toArray:=by
 refine(zbD (n:=1) (l:=[ptr bf]) rfl rfl (by simp)).trans ?_
 refine(zbD (n:=1) (l:=[ptr bt]) rfl rfl (by simp[zci])).trans ?_
 refine(zbD (n:=3) (l:=[p,q,.int .i64 d.s.border]) rfl rfl (by simp[zci])).trans ?_
 refine(zbD (n:=10) (l:=tileC d.t) rfl rfl (by simp[zci])).trans ?_
 refine(zbD (n:=1) (l:=[rv]) (zaU hr) rfl (by simp[zci])).trans ?_
 refine(zbD (n:=1) (l:=[.int .i64 y]) rfl rfl (by simp[zci])).trans ?_
 rw[zcD]
 simp[wrL,tileC,jobC]
theorem lds_part {h:Heap}{b:Nat}{l:List Value}{t:TypeId}{f:Nat×Nat}(r:h[b]? =some (.cells l.toArray t f))(o n:Nat)(m:List Value)(hm:(l.drop o).take n=m)(hn:m.length=n):ldsV n h (.pointer (some ⟨b,o,none⟩))=some (.agg m.toArray):=by
 subst hm
 refine zm1 _ n hn fun j hj=>?_
 rw[zad r]
 rw[List.length_take,List.length_drop]at hj
 have h2:o+j<l.length:=by omega
 rw[List.getElem_take,List.getElem_drop]
 simp[h2]
def wnewC (m n:Pic)(s:Stg)(t:TileD):Int:=if¬zdR m n s then 6 else if¬zcV s t.x t.y t.w t.h then 9 else 0
theorem ze9 {m n:Pic}{s:Stg}{t:TileD}:wnewC m n s t=0↔zdR m n s∧zcV s t.x t.y t.w t.h:=by
 unfold wnewC
 by_cases h1:zdR m n s
 ·rw[if_neg (by simpa using h1)]
  by_cases h2:zcV s t.x t.y t.w t.h
  ·rw[if_neg (by simpa using h2)];exact⟨fun _=>⟨h1,h2⟩,fun _=>rfl⟩
  ·rw[if_pos h2];exact⟨fun h=>absurd h (by decide),fun h=>absurd h.2 h2⟩
 ·rw[if_pos h1];exact⟨fun h=>absurd h (by decide),fun h=>absurd h.1 h1⟩
theorem job_wf {m n:Pic}{s:Stg}{t:TileD}(W:m.Wf)(WS:s.Wf)(hc:wnewC m n s t=0):JobD.Wf ⟨m,s,t⟩:=by
 obtain⟨h1,h2⟩:=ze9.1 hc
 obtain⟨a1,a2,a3,a4,a5,a6,a7,a8⟩:=h2
 exact⟨W,WS,h1.1,a1,a2,a3,a4,by show t.x+t.w≤(s.x.lines.length:Int);omega,by show t.y+t.h≤(s.y.lines.length:Int);omega⟩
theorem job_out {m n:Pic}{s:Stg}{t:TileD}(W:n.Wf)(hc:wnewC m n s t=0):OutOk ⟨m,s,t⟩ n:=by
 obtain⟨h1,h2⟩:=ze9.1 hc
 exact⟨W,h1.2.1,h1.2.2.1,h1.2.2.2.1,h1.2.2.2.2⟩
def WNew (Z:Nat→Prop)(h:Heap)(bf:Nat)(vf:Value)(bt:Nat)(vt p q:Value)(m n:Pic)(s:Stg)(t:TileD)(r:Value)(h':Heap):Prop:=
 Ext h h'∧∃v,r=.tuple #[v,.int .i64 (wnewC m n s t)]∧(wnewC m n s t≠0→v=.pointer none)∧
  (wnewC m n s t=0→∃bj rv,v=ptr bj∧JobSt Z (Grow (fun _=>False) h h') h' bj bf vf bt vt p q rv ⟨m,s,t⟩ t.y (lnF s.y t.y) n (roomN (mostL s.y.lines)) (zek (t.w*m.c)))
theorem c_wNew {h:Heap}(G:GlobB h){Z:Nat→Prop}{bf bt:Nat}{vf vt p q:Value}{m n:Pic}{s:Stg}{t:TileD}(I:IsImg h bf vf m)(O:IsImg h bt vt n)(hne:bf≠bt)(W:m.Wf)(WO:n.Wf)(hp:IsTbl Z h p s.x)(hq:IsTbl Z h q s.y)(WS:s.Wf)
  (zf:Z bf∧∀c,blk vf c→Z c) (zz:∀c,Z c→¬blk vt c) (zl:∀c,Z c→c<h.size):
  FCall prog zew #[ptr bf,ptr bt,.agg #[p,q,.int .i64 s.border],.agg (tileC t).toArray] h (WNew Z h bf vf bt vt p q m n s t):=by
 apply zp4
 unfold zj8
 simp only[zaJ]
 have HS:IsStg Z h (.agg #[p,q,.int .i64 s.border]) s:=⟨p,q,rfl,hp,hq⟩
 refine zah fun b1 h1 r1 e1 n1=>zah fun b2 h2 r2 e2 n2=>?_
 have E2:=e1.trans e2
 have r1:=e2.row r1
 rw[zao (l:=[p,q,.int .i64 s.border]) r1 3 rfl,zaa]
 refine FCall.to (c_wsuits (G.ext E2) (I.ext E2) (O.ext E2) hne (HS.ext E2)) fun h3 e3=>?_
 have E3:=E2.trans e3
 by_cases g1:zdR m n s
 case neg=>
  have hc:wnewC m n s t=6:=by unfold wnewC;rw[if_pos g1]
  simp only[go_sem,decide_eq_false g1]
  exact⟨E3,_,by rw[hc],fun _=>rfl,fun h0=>absurd (h0.symm.trans hc) (by decide)⟩
 simp only[go_sem,decide_eq_true g1]
 have r1:=e3.row r1
 have r2:=e3.row r2
 rw[zao (l:=[p,q,.int .i64 s.border]) r1 3 rfl,zaa,lds_part r2 (0+1) 4 [.int .i64 t.x,.int .i64 t.y,.int .i64 t.w,.int .i64 t.h] rfl rfl,zaa]
 refine FCall.to (c_within (HS.ext E3) WS) fun h4 e4=>?_
 have E4:=E3.trans e4
 by_cases g2:zcV s t.x t.y t.w t.h
 case neg=>
  have hc:wnewC m n s t=9:=by unfold wnewC;rw[if_neg (by simpa using g1),if_pos g2]
  simp only[go_sem,decide_eq_false g2]
  exact⟨E4,_,by rw[hc],fun _=>rfl,fun h0=>absurd (h0.symm.trans hc) (by decide)⟩
 simp only[go_sem,decide_eq_true g2]
 have hc:wnewC m n s t=0:=ze9.2 ⟨g1,g2⟩
 have r1:=e4.row r1
 have r2:=e4.row r2
 have WJ:=job_wf (t:=t) W WS hc
 have hb:=JobD.bd WJ
 have hw1:=WJ.w1
 have hx0:=WJ.x0
 have hf:=zcX W.fits
 refine zap (Ext h4) (Ext.refl _) ?_
 refine zaf (.agg #[p,q,.int .i64 s.border]) (fun h' e=>zao (l:=[p,q,.int .i64 s.border]) (e.row r1) 3 rfl) ?_
 refine zaf (.agg (tileC t).toArray) (fun h' e=>zao (e.row r2) 10 rfl) ?_
 try simp only[go_sem,Nat.zero_add]
 refine zaf q (fun h' e=>zad (e.row r1)) ?_
 try simp only[go_sem,Nat.zero_add]
 refine zaf (.int .i64 t.w) (fun h' e=>zad (e.row r2)) ?_
 try simp only[go_sem,Nat.zero_add]
 refine zaf (.int .i64 t.y) (fun h' e=>zad (e.row r2)) ?_
 refine FCall.at (c_Most (hq.ext E4)) ?_
 refine⟨Ext.refl _,?_⟩
 refine FCall.at (zcr (I.ext E4)) ?_
 refine⟨Ext.refl _,?_⟩
 have hwc:0≤t.w*m.c∧t.w*m.c≤65536*3:=by
  have h1:(1:Int)≤t.w:=hw1
  have h2:t.x+t.w≤65536:=hb.1
  have h3:0≤t.x:=hx0
  have:=Int.mul_le_mul (show t.w≤65536 by omega) hf.2.2.2.2.2.1 (by omega) (by omega)
  exact⟨Int.mul_nonneg (by omega) (by omega),this⟩
 simp only[go_sem]
 rw[w64 (n:=t.w*m.c) (by omega) (by omega)]
 refine(c_RNew (mostL s.y.lines) (t.w*m.c)).mono fun rv h5 ⟨M,R,e5,hM⟩=>?_
 refine⟨e5,?_⟩
 have E5:=E4.trans e5
 have hr:zar rv=true:=by obtain⟨_,_,_,_,_,_,e,_⟩:=R;rw[e];rfl
 have hfj:fillL zeroJ [(0,1,ptr bf),(1,1,ptr bt),(2,3,.agg #[p,q,.int .i64 s.border]),(5,10,.agg (tileC t).toArray),(15,1,rv),(16,1,.int .i64 t.y)]=some (jobC bf bt p q rv ⟨m,s,t⟩ t.y).toArray:=fill_job (d:=⟨m,s,t⟩) hr
 rw[hfj,zav,zaa]
 refine zah fun bj h6 r6 e6 n6=>?_
 have E6:=E5.trans e6
 have hbt:=O.lt
 have hs5:=E5.1
 have hs4:=E4.1
 refine⟨E6,_,by rw[hc],fun h0=>absurd hc h0,fun _=>⟨bj,rv,rfl,⟨M,[],⟨r6,I.ext E6,hp.ext E6,hq.ext E6,R.ext e6,O.ext E6,zf,fun c hz=>⟨fun hm=>?_,fun he=>?_,zz c hz⟩,⟨fun hm=>?_,fun hm=>?_,fun c hv hm=>?_⟩,⟨by omega,fun hv=>?_⟩,Int.le_refl _,?_,fun c hz=>Nat.lt_of_lt_of_le (zl c hz) E6.1⟩,fun c hm=>.inr ⟨?_,?_⟩,fun _=>⟨Held.start _ _,Int.le_refl _,?_⟩⟩,.inr ⟨by omega,zau r6⟩,fun c hc=>hc.elim (fun h=>h.elim) fun h=>h.2,fun c hc=>?_,job_out WO hc⟩⟩
 ·have:=hM c hm;have:=zl c hz;omega
 ·have:=zl c hz;omega
 ·have:=R.lt hm;omega
 ·have:=hM bt hm;omega
 ·have:=hM c hm;have:=O.ltv hv;omega
 ·have:=O.ltv hv;omega
 ·show t.y≤t.y+t.h
  have:=WJ.h1
  have:(1:Int)≤t.h:=this
  omega
 ·have:=hM c hm;omega
 ·have:=R.lt hm;have:=e6.1;omega
 ·show lnF s.y t.y≤lnE s.y t.y
  unfold lnF lnE;omega
 ·rcases hc with h|h
  ·exact h.elim
  ·exact⟨fun hz=>by have:=zl c hz;omega,by omega,fun hv=>by have:=O.ltv hv;omega⟩
section
theorem zoW {a b:Int}(ha:1≤a)(hb:1≤b):max a b≤a*b:=by
 have h1:a*1≤a*b:=Int.mul_le_mul_of_nonneg_left hb (by omega)
 have h2:1*b≤a*b:=Int.mul_le_mul_of_nonneg_right ha (by omega)
 omega
theorem span0 (X:Int){n m:Int}(hn:1≤n)(hm:1≤m): -(-(X+n)/m)-X/m≤6*n+4:=by
 have a1:=Int.mul_ediv_add_emod (-(X+n)) m
 have a2:=Int.mul_ediv_add_emod X m
 have b1:=Int.emod_lt_of_pos (-(X+n)) (show 0<m by omega)
 have b2:=Int.emod_lt_of_pos X (show 0<m by omega)
 have hmn:=zoW hn hm
 revert a1 a2 b1 b2
 generalize-(X+n)/m=q1
 generalize X/m=q2
 generalize-(X+n)%m=r1
 generalize X%m=r2
 intro a1 a2 b1 b2
 rcases Int.lt_or_le (6*n+4) (-q1-q2)with h|h
 ·exfalso
  have h1:m*(6*n+5)≤m*(-q1-q2):=Int.mul_le_mul_of_nonneg_left (by omega) (by omega)
  have h2:m*(6*n+5)=6*(n*m)+5*m:=by grind
  have h3:m*(-q1-q2)= -(m*q1)-m*q2:=by grind
  rw[h2,h3]at h1
  omega
 ·omega
theorem span1 (X R:Int){n m:Int}(hn:1≤n)(hm:1≤m)(hR:R≤6*(n*m)): -(-(X+R)/(2*m))-((X-R)/(2*m)+1)≤6*n+4:=by
 have a1:=Int.mul_ediv_add_emod (-(X+R)) (2*m)
 have a2:=Int.mul_ediv_add_emod (X-R) (2*m)
 have b1:=Int.emod_lt_of_pos (-(X+R)) (show 0<2*m by omega)
 have b2:=Int.emod_lt_of_pos (X-R) (show 0<2*m by omega)
 revert a1 a2 b1 b2
 generalize-(X+R)/(2*m)=q1
 generalize(X-R)/(2*m)=q2
 generalize-(X+R)%(2*m)=r1
 generalize(X-R)%(2*m)=r2
 intro a1 a2 b1 b2
 rcases Int.lt_or_le (6*n+4) (-q1-(q2+1))with h|h
 ·exfalso
  have h1:2*m*(6*n+5)≤2*m*(-q1-(q2+1)):=Int.mul_le_mul_of_nonneg_left (by omega) (by omega)
  have h2:2*m*(6*n+5)=12*(n*m)+10*m:=by grind
  have h3:2*m*(-q1-(q2+1))= -(2*m*q1)-2*m*q2-2*m:=by grind
  rw[h2,h3]at h1
  omega
 ·omega
theorem span_bd {f n m i:Int}(hf:0≤f∧f<3)(hn:1≤n)(hm:1≤m):highW f n m i-lowW f n m i≤6*n+4:=by
 have hmn:=zoW hn hm
 unfold highW lowW ceilD
 by_cases h0:f=0
 ·rw[if_pos h0,if_pos h0]
  rw[show(i+1)*n=i*n+n by rw[Int.add_mul,Int.one_mul]]
  exact span0 (i*n) hn hm
 ·rw[if_neg h0,if_neg h0]
  have hR:zaY f*2*max n m≤6*(n*m)∧0≤zaY f*2*max n m:=by
   have:(zaY f=2∨zaY f=3):=by unfold zaY;rw[if_neg h0];split<;>simp
   rcases this with h|h<;>rw[h]<;>omega
  generalize zaY f*2*max n m=R at*
  exact span1 _ _ hn hm hR.1
theorem zlH {ls:List (Int×List Int)}{c:Int}(h0:0≤c)(h:∀x∈ls,(x.2.length:Int)≤c):mostL ls≤c:=by
 unfold mostL
 have:∀(l:List (Int×List Int)) (a:Int),a≤c→(∀x∈l,(x.2.length:Int)≤c)→l.foldl (fun m x=>max m (x.2.length:Int)) a≤c:=by
  intro l
  induction l with
  |nil=>intro a ha _;exact ha
  |cons y l ih=>
   intro a ha hl
   rw[List.foldl_cons]
   exact ih _ (by have:=hl y (by simp);omega) fun x hx=>hl x (by simp[hx])
 exact this ls 0 h0 h
theorem most_nn (ls:List (Int×List Int)):0≤mostL ls:=(zqF ls 0).1
theorem zmw {f n m:Int}(hc:zbp f n m=0):mostL (zbW f n m).lines≤6*n+4:=by
 have h0:¬(¬(0≤f∧f<3)∨¬zaw n∨¬zaw m):=fun h=>by unfold zbp at hc;rw[if_pos h]at hc;cases hc
 have hz:=hc
 unfold zbp at hz
 rw[if_neg h0]at hz
 have hf:0≤f∧f<3:=Decidable.of_not_not fun h=>h0 (.inl h)
 have hn:zaw n:=Decidable.of_not_not fun h=>h0 (.inr (.inl h))
 have hm:zaw m:=Decidable.of_not_not fun h=>h0 (.inr (.inr h))
 unfold zaw at hn hm
 refine zlH (by omega) fun x hx=>?_
 obtain⟨i,hi,rfl⟩:=List.mem_map.1 hx
 have hi:=List.mem_range.1 hi
 have h2:=zg2 hz i hi
 show((zaI (zbb f n m i)).length:Int)≤_
 rw[zlW h2]
 unfold zbb
 rw[if_pos ⟨hf.1,hf.2,hn.1,hn.2,hm.1,hm.2,by omega,by omega⟩]
 unfold rowW
 rw[List.length_map,List.length_range]
 have:=span_bd (i:=i) hf hn.1 hm.1
 omega
theorem resize_most {f n m:Int}(hc:zbp f n m=0)(hs:n≤10000):mostL (zbW f n m).lines≤65536:=by have:=zmw hc;omega
theorem zmB (l:List Int)(n:Int)(hc:zdb l n=0):mostL (zdZ l n).lines≤l.length:=by
 refine zlH (by omega) fun x hx=>?_
 obtain⟨i,hi,rfl⟩:=List.mem_map.1 hx
 show((zaI l).length:Int)≤_
 have h0:zaZ l=0:=by
  unfold zdb at hc
  split at hc
  ·cases hc
  ·split at hc
   ·cases hc
   ·exact hc
 rw[zlW h0]
 omega
theorem filter_most (l:List Int)(hl:l.length≤1024)(n:Int)(hc:zdb l n=0):mostL (zdZ l n).lines≤65536:=by have:=zmB l n hc;omega
theorem makeS_most {o:OpD}{w h:Int}(hc:makeC o w h=0)(hs:h≤10000):mostL (makeS o w h).y.lines≤65536:=by
 have ht:zc9 o w h=0:=by
  unfold makeC at hc
  split at hc
  ·cases hc
  ·exact hc
 show mostL (zcu o h).lines≤_
 unfold zc9 at ht
 unfold zcu
 split
 ·rename_i hk
  rw[if_pos hk]at ht
  by_cases h1:zbp o.filter w o.w=0
  ·rw[if_neg (by simpa using h1)]at ht
   exact resize_most ht hs
  ·rw[if_pos h1]at ht
   exact absurd ht h1
 ·rename_i hk
  rw[if_neg hk]at ht
  refine filter_most _ (zjz o).2 _ ?_
  split at ht
  ·exact absurd ht (by assumption)
  ·split at ht
   ·exact absurd ht (by assumption)
   ·exact ht
structure StgOk (s:Stg):Prop where
 wf:s.Wf
 mono:zlX s.y
 most:mostL s.y.lines≤65536
 side:s.x.lines.length≤300
theorem makeS_ok {o:OpD}{w h:Int}(hc:makeC o w h=0)(hs:h≤10000)(hx:sizeW o w≤300):StgOk (makeS o w h):=
 ⟨(ziF hc).1,makeS_mono hc,makeS_most hc hs,by have:=(znU hc).1;omega⟩
theorem StgOk.room {s:Stg}(H:StgOk s){m n:Pic}{t:TileD}(W:m.Wf)(hc:wnewC m n s t=0):RoomOk ⟨m,s,t⟩ (roomN (mostL s.y.lines)) (zek (t.w*m.c)):=by
 have hw:=job_wf (t:=t) W H.wf hc
 have hf:=zcX W.fits
 have h1:1≤t.w:=hw.w1
 have h2:0≤t.x:=hw.x0
 have h3:t.x+t.w≤s.x.lines.length:=hw.xw
 have h4:=H.side
 have h5:=H.most
 have hwc:0≤t.w*m.c∧t.w*m.c≤300*3:=⟨Int.mul_nonneg (by omega) (by omega),Int.mul_le_mul (show t.w≤300 by omega) hf.2.2.2.2.2.1 (by omega) (by omega)⟩
 refine⟨H.mono,?_,?_,?_,?_⟩
 ·unfold roomN;show mostL s.y.lines≤_;omega
 ·unfold roomN;omega
 ·unfold zek;show _=t.w*m.c;omega
 ·show t.w≤300;omega
def leftN (d:JobD):Nat→Int→Int→Nat
 |0,_,_=>0
 |k+1,y,e=>(lnE d.s.y y-e).toNat+1+leftN d k (y+1) (max (lnE d.s.y y) (lnF d.s.y (y+1)))
def leftZ (d:JobD)(y e:Int):Nat:=leftN d (d.t.y+d.t.h-y).toNat y e
theorem left_zero {d:JobD}{y e:Int}(h:d.t.y+d.t.h≤y):leftZ d y e=0:=by
 unfold leftZ
 rw[show(d.t.y+d.t.h-y).toNat=0 by omega];rfl
theorem left_line {d:JobD}{y e:Int}(h:y<d.t.y+d.t.h):leftZ d y e=(lnE d.s.y y-e).toNat+1+leftZ d (y+1) (max (lnE d.s.y y) (lnF d.s.y (y+1))):=by
 unfold leftZ
 rw[show(d.t.y+d.t.h-y).toNat=(d.t.y+d.t.h-(y+1)).toNat+1 by omega];rfl
theorem left_pos {d:JobD}{y e:Int}:leftZ d y e=0↔stepK d y e=0:=by
 unfold stepK
 by_cases h:d.t.y+d.t.h≤y
 ·rw[if_pos h,left_zero h]
  simp
 ·rw[if_neg h,left_line (by omega)]
  constructor
  ·intro h;omega
  ·split<;>intro h<;>cases h
theorem zqN {d:JobD}(W:d.s.y.Wf):∀(k:Nat) (y e:Int),lnF d.s.y y≤e→leftN d k y e≤k*1048577
 |0,_,_,_=>Nat.le_refl _
 |k+1,y,e,he=>by
  have h1:=zqN W k (y+1) (max (lnE d.s.y y) (lnF d.s.y (y+1))) (by omega)
  have h2:=zie W y
  unfold leftN
  unfold lnE lnF at*
  omega
theorem left_bd {d:JobD}(W:d.Wf){y e:Int}(hy:d.t.y≤y)(he:y<d.t.y+d.t.h→lnF d.s.y y≤e):leftZ d y e≤68719542272:=by
 by_cases h:y<d.t.y+d.t.h
 ·have h1:=zqN W.s.y (d.t.y+d.t.h-y).toNat y e (he h)
  have h2:=JobD.bd W
  have h3:=W.y0
  unfold leftZ
  omega
 ·rw[left_zero (by omega)];omega
theorem zk7 {B:Nat→Prop}{h:Heap}:Grow B h h=B:=by
 funext c
 unfold Grow
 apply propext
 constructor
 ·rintro(h|h)
  ·exact h
  ·omega
 ·exact .inl
section
variable {Z B:Nat→Prop}{h:Heap}{bj bf:Nat}{vf:Value}{bt:Nat}{vt p q rv:Value}{d:JobD}{y e:Int}{n:Pic}{room w:Nat}
theorem c_jobWords (S:JobSt Z B h bj bf vf bt vt p q rv d y e n room w):FCall prog zdC #[ptr bj] h fun r h'=>r=.int .i64 ((room:Int)*w)∧h'=h:=by
 apply zjD
 unfold zfj
 obtain⟨⟨M,rs,J,a,b⟩,_⟩:=S
 simp only[go_sem,J.c15 (Ext.refl _)]
 exact c_RWords J.ring
end
end
end Go.Proofs.YtcoimlclclnlkaaGreatDoor
namespace Go.Proofs.YtcoimlclclnlkaaGreatDoor
open Go Go.Crisp
attribute [local irreducible] FCall rowK newK stK iteK vK qK drawK gK joinK loopK mkK appK cpyK zmY zkN bsK clK zgY zfx newmK
theorem line_get {t:Tbl}{i:Nat}(hi:i<t.lines.length):t.lines[i]=lineT t (i:Int):=by
 unfold lineT
 rw[if_pos (by omega)]
 simp[List.getD_eq_getElem?_getD,hi]
end Go.Proofs.YtcoimlclclnlkaaGreatDoor
namespace Go.Crisp
open Go
def OwnO (w:Nat)(h:Heap)(v:Value)(n:Nat)(cs:List Value):Prop:=
 (v=.slice none 0 0∧n=0∧cs=[])∨∃b cap p r e,v=.slice (some ⟨b,p.length,none⟩) n cap∧n≤cap∧cs.length=n*w∧(cs++r).length=cap*w∧h[b]? =some (.cells (p++(cs++r)).toArray e (0,0))
theorem OwnO.nil {w:Nat}{h:Heap}:OwnO w h (.slice none 0 0) 0 []:=.inl ⟨rfl,rfl,rfl⟩
theorem Own.o {w:Nat}{h:Heap}{v:Value}{n:Nat}{cs:List Value}(H:Own w h v n cs):OwnO w h v n cs:=by
 rcases H with H|⟨b,cap,r,e,rfl,h1,h2,h3,h4⟩
 ·exact .inl H
 ·exact .inr ⟨b,cap,[],r,e,rfl,h1,h2,h3,h4⟩
theorem OwnO.fr {w:Nat}{M:Nat→Prop}{h h':Heap}{v:Value}{n:Nat}{cs:List Value}(H:OwnO w h v n cs)(f:Fr M h h')(hm:∀b,blk v b→¬M b):OwnO w h' v n cs:=by
 rcases H with⟨rfl,rfl,rfl⟩|⟨b,cap,p,r,e,rfl,hc,hl,hr,hb⟩
 ·exact .inl ⟨rfl,rfl,rfl⟩
 ·exact .inr ⟨b,cap,p,r,e,rfl,hc,hl,hr,f.row hb (hm b rfl)⟩
theorem OwnO.ext {w:Nat}{h h':Heap}{v:Value}{n:Nat}{cs:List Value}(H:OwnO w h v n cs)(f:Ext h h'):OwnO w h' v n cs:=H.fr (M:=fun _=>False) f.fr fun _ _=>id
theorem OwnO.lt {w:Nat}{h:Heap}{v:Value}{n:Nat}{cs:List Value}(H:OwnO w h v n cs){b:Nat}(hb:blk v b):b<h.size:=by
 rcases H with⟨rfl,rfl,rfl⟩|⟨b',cap,p,r,e,rfl,hc,hl,hr,h'⟩
 ·cases hb
 ·rw[show b=b' from hb];exact(Array.getElem?_eq_some_iff.1 h').1
theorem OwnO.sl {w:Nat}{h:Heap}{v:Value}{n:Nat}{cs:List Value}(H:OwnO w h v n cs):SlC w h v n cs:=by
 rcases H with⟨rfl,rfl,rfl⟩|⟨b,cap,p,r,e,rfl,hc,hl,_,hb⟩
 ·exact⟨by simp,none,0,rfl,.inl rfl⟩
 ·refine⟨hl,_,cap,rfl,.inr ⟨b,p.length,rfl,fun j hj=>?_⟩⟩
  rw[zad hb]
  simp only[List.getElem?_toArray]
  rw[List.getElem?_append_right (Nat.le_add_right _ _),Nat.add_sub_cancel_left,List.getElem?_append_left hj]
  simp[hj]
theorem wrL_off (ds p cs r:List Value)(h:ds.length≤r.length):wrL (p++(cs++r)).toArray (p.length+cs.length) ds=(p++(cs++ds++r.drop ds.length)).toArray:=by
 have:=zm9 ds (p++cs) r h
 rw[List.length_append]at this
 rw[←List.append_assoc,this]
 simp
theorem appK_ownO {z:Value}{e:TypeId}{w bytes n m:Nat}{s x:Value}{h:Heap}{cs ds:List Value}{K:Value→Heap→Prop}
  (hs:OwnO w h s n cs) (hx:SlC w h x m ds) (ho:∀v∈ds,zar v=true) (hz:z.cells.size=w) (hb:(n+m)*bytes≤140737488355328) (hn:n+m≤9223372036854775807)
  (H:∀s' h',OwnO w h' s' (n+m) (cs++ds)→Fr (blk s) h h'→(∀b,blk s' b→blk s b∨h.size≤b)→K s' h'):appK z e w bytes s x h K:=by
 rcases hs with⟨rfl,rfl,rfl⟩|⟨b,cap,p,r,e0,rfl,hc,hl,hr,hbk⟩
 ·exact ziN (.inl ⟨rfl,rfl,rfl⟩) hx ho hz hb hn fun s' h' o=>H s' h' o.o
 ·have hsl:SlC w h (.slice (some ⟨b,p.length,none⟩) n cap) n cs:=OwnO.sl (.inr ⟨b,cap,p,r,e0,rfl,hc,hl,hr,hbk⟩)
  have hsl:=hsl.loads
  have hxl:=hx.loads
  obtain⟨hdl,a',cap',rfl,hx'⟩:=hx
  unfold appK
  simp only[lenN]
  split
  ·rename_i h0
   rw[hxl]
   have hrl:ds.length≤r.length:=by
    rw[List.length_append]at hr
    rw[hdl]
    have:(n+m)*w≤cap*w:=Nat.mul_le_mul_right w h0
    rw[Nat.add_mul]at this
    omega
   have hst:=zdS (o:=p.length+n*w) ds 0 h _ hbk (by simp;omega) ho
   simp only[zd1,hst]
   rw[Nat.add_zero,←hl,wrL_off ds p cs r hrl]
   refine H _ _ (.inr ⟨b,cap,p,r.drop ds.length,e0,rfl,h0,?_,?_,zdU hbk⟩) (Upd.set.fr) (fun k hk=>.inl hk)
   ·simp[hl,hdl,Nat.add_mul]
   ·rw[←hr];simp;omega
  ·rename_i h0
   rw[hsl,hxl]
   refine⟨by simp only[IntKind.max];simp only[IntKind.signed,IntKind.bits];omega,Nat.le_trans (growslice_fits (by omega) hb) (by decide),fun newCap h1 h2=>?_⟩
   refine H _ _ (.inr ⟨h.size,newCap,[],(Builtin.zeroCells z.cells (newCap-(n+m))).toList,e,rfl,h1,?_,?_,?_⟩) (Ext.push h _).fr (fun b hb=>.inr (by rw[show b=h.size from hb];exact Nat.le_refl _))
   ·simp[hl,hdl,Nat.add_mul]
   ·simp[hl,hdl,size_zc,hz];rw[←Nat.add_mul,←Nat.add_mul];congr 1;omega
   ·rw[zgT];simp
theorem OwnO.tail {w:Nat}{h:Heap}{v x:Value}{n:Nat}{cs ds:List Value}(H:OwnO w h v (n+1) (ds++cs))(hd:ds.length=w)(hn:0<n){k:IntKind}:
  ∃v',slcV w v (some (.int k 1)) none=some v'∧OwnO w h v' n cs∧∀b,blk v' b→blk v b:=by
 rcases H with⟨_,h0,_⟩|⟨b,cap,p,r,e,rfl,hc,hl,hr,hb⟩
 ·cases h0
 ·have hne:¬cap=1:=by omega
  refine⟨.slice (some ⟨b,p.length+w,none⟩) n (cap-1),?_,.inr ⟨b,cap-1,p++ds,r,e,by rw[List.length_append,hd],by omega,?_,?_,?_⟩,fun c hc=>hc⟩
  ·have e0:bdV (some (Value.int k 1)) 0 (n+1)=some 1:=zik k 1 0 (n+1) (by omega)
   simp only[slcV,bdV,e0,if_neg hne,Option.map_some,zd1,Nat.one_mul,Nat.add_sub_cancel]
   rw[if_pos (by omega)]
   simp[hne]
  ·rw[List.length_append,hd,Nat.add_mul,Nat.one_mul]at hl;omega
  ·simp only[List.length_append]at hr ⊢
   rw[hd]at hr
   have:cap*w=(cap-1)*w+w:=by rw[←Nat.succ_mul];congr 1;omega
   omega
  ·rw[hb];simp
def OwO (k:IntKind)(h:Heap)(v:Value)(l:List Int):Prop:=OwnO 1 h v l.length (l.map fun x=>Value.int k x)
theorem OwO.nil {k:IntKind}{h:Heap}:OwO k h (.slice none 0 0) []:=OwnO.nil
theorem OwO.sl {k:IntKind}{h:Heap}{v:Value}{l:List Int}(H:OwO k h v l):Rp.Sl (Rp.int k) (blk v) h v l:=by
 have s:=OwnO.sl H
 refine⟨_,s,fun _ b hb=>hb,fun i hi=>?_⟩
 show Rp.el 1 (l.map fun x=>Value.int k x) i=[Value.int k l[i]]
 rw[Rp.el_one (by simpa using hi)]
 simp
theorem OwO.push {k:IntKind}{z z':Value}{t t':TypeId}{bytes:Nat}{s:Value}{h:Heap}{l:List Int}{x:Int}{K:Value→Heap→Prop}(hs:OwO k h s l)(hz:z.cells.size=1)
  (hb:(l.length+1)*bytes≤140737488355328) (hn:l.length+1≤9223372036854775807)
  (H:∀s' h',OwO k h' s' (l++[x])→Fr (blk s) h h'→(∀b,blk s' b→blk s b∨h.size≤b)→K s' h'):rowK #[z'] t 1 [(0,1,.int k x)] h fun v2 h3=>appK z t' 1 bytes s v2 h3 K:=by
 refine zbI (Rp.fill_one rfl) fun b h1 r1 e1 n1=>?_
 refine appK_ownO (OwnO.ext hs e1) (Rp.SlC.single (cs:=[.int k x]) r1) (zac (a:=Value.int k x) rfl zal) hz hb hn fun s' h' o' f' n'=>H s' h' ?_ (e1.fr.trans f') fun c hc=>(n' c hc).imp id fun h2=>Nat.le_trans e1.1 h2
 unfold OwO
 rw[List.length_append,List.map_append]
 exact o'
theorem OwO.tail {k k':IntKind}{h:Heap}{v:Value}{x:Int}{l:List Int}(H:OwO k h v (x::l))(hn:0<l.length):
  ∃v',slcV 1 v (some (.int k' 1)) none=some v'∧OwO k h v' l∧∀b,blk v' b→blk v b:=
 OwnO.tail (x:=v) (ds:=[.int k x]) H rfl hn
end Go.Crisp
namespace Go.Proofs.YtcoimlclclnlkaaGreatDoor
open Go Go.Crisp
attribute [local irreducible] FCall rowK newK stK iteK vK qK drawK gK joinK loopK mkK appK cpyK zmY zkN bsK clK zgY zfx newmK
open _root_.Go.Proofs.Tryz
def rowsM (e E:Int):List (Int×Int):=(List.range (E-e).toNat).map fun i:Nat=>((1:Int),e+(i:Int))
def zeS (d:JobD):Nat→Int→Int→List (Int×Int)
 |0,_,_=>[]
 |k+1,y,e=>rowsM e (lnE d.s.y y)++(2,y)::zeS d k (y+1) (max (lnE d.s.y y) (lnF d.s.y (y+1)))
def zhC (d:JobD)(y e:Int):List (Int×Int):=zeS d (d.t.y+d.t.h-y).toNat y e
theorem zo5 {e E:Int}(h:E≤e):rowsM e E=[]:=by
 unfold rowsM;rw[show(E-e).toNat=0 by omega];rfl
theorem rowsM_cons {e E:Int}(h:e<E):rowsM e E=(1,e)::rowsM (e+1) E:=by
 unfold rowsM
 rw[show(E-e).toNat=(E-(e+1)).toNat+1 by omega,List.range_succ_eq_map,List.map_cons,List.map_map]
 congr 1
 ·simp
 ·apply List.map_congr_left
  intro i _
  show((1:Int),e+((i+1:Nat):Int))=(1,e+1+(i:Int))
  congr 1
  omega
theorem rowsM_snoc {e E:Int}(h:e≤E):rowsM e (E+1)=rowsM e E++[(1,E)]:=by
 unfold rowsM
 rw[show(E+1-e).toNat=(E-e).toNat+1 by omega,List.range_succ,List.map_append]
 congr 1
 show[((1:Int),e+((E-e).toNat:Int))]=[(1,E)]
 rw[show e+((E-e).toNat:Int)=E by omega]
theorem znr {e E:Int}:(rowsM e E).length=(E-e).toNat:=by unfold rowsM;rw[List.length_map,List.length_range]
theorem zlG (d:JobD):∀(k:Nat) (y e:Int),(zeS d k y e).length=leftN d k y e
 |0,_,_=>rfl
 |k+1,y,e=>by
  unfold zeS leftN
  rw[List.length_append,List.length_cons,znr,zlG d k]
  omega
theorem moves_len (d:JobD)(y e:Int):(zhC d y e).length=leftZ d y e:=zlG d _ y e
theorem zpd {d:JobD}{y e:Int}(h:y<d.t.y+d.t.h):zhC d y e=rowsM e (lnE d.s.y y)++(2,y)::zhC d (y+1) (max (lnE d.s.y y) (lnF d.s.y (y+1))):=by
 unfold zhC
 rw[show(d.t.y+d.t.h-y).toNat=(d.t.y+d.t.h-(y+1)).toNat+1 by omega];rfl
theorem moves_step {d:JobD}{y e:Int}(hk:stepK d y e≠0)(he:e≤lnE d.s.y y):zhC d y e=(stepK d y e,stepJ d y e)::zhC d (stepY d y e) (stepE d y e):=by
 have hno:¬d.t.y+d.t.h≤y:=fun h=>hk (by unfold stepK;rw[if_pos h])
 have hl:=zpd (e:=e) (show y<d.t.y+d.t.h by omega)
 by_cases h1:e<lnE d.s.y y
 ·have k1:stepK d y e=1:=by unfold stepK;rw[if_neg hno,if_pos h1]
  have j1:stepJ d y e=e:=by unfold stepJ;rw[if_neg hno,if_pos h1]
  have hy:stepY d y e=y:=by unfold stepY;rw[if_neg (by omega)]
  have hE:stepE d y e=e+1:=by unfold stepE;rw[if_pos k1]
  rw[hy,hE,k1,j1,hl,zpd (e:=e+1) (by omega),rowsM_cons h1]
  rfl
 ·have k2:stepK d y e=2:=by unfold stepK;rw[if_neg hno,if_neg h1]
  have j2:stepJ d y e=y:=by unfold stepJ;rw[if_neg hno,if_neg h1]
  have hy:stepY d y e=y+1:=by unfold stepY;rw[if_pos k2]
  have hE:stepE d y e=max e (lnF d.s.y (y+1)):=by unfold stepE;rw[if_neg (by omega),if_pos k2]
  have hee:e=lnE d.s.y y:=by omega
  rw[hy,hE,k2,j2,hl,zo5 (by omega),hee]
  rfl
def rMove:Rp (Int×Int) where
 w:=2
 R:=fun _ _ cs x=>cs=[.int .i64 x.1,.int .i64 x.2]
 len:=by rintro _ _ _ _ rfl;rfl
 one:=by rintro _ _ _ _ rfl;exact zac rfl (zac rfl zal)
 fr:=by rintro _ _ _ _ _ _ h _ _;exact h
 mono:=by rintro _ _ _ _ _ h _;exact h
theorem New.push2 {z:Value}{c:Array Value}{t t':TypeId}{bytes:Nat}{h h1:Heap}{v:Value}{l:List (Int×Int)}{a b:Int}{K:Value→Heap→Prop}(H:New rMove h h1 v l)(hc:c.size=2)(hz:z.cells.size=2)(hb:(l.length+1)*bytes≤140737488355328)(hn:l.length+1≤9223372036854775807)
  (HK:∀s' h',New rMove h h' s' (l++[(a,b)])→Fr (blk v) h1 h'→(∀b,blk s' b→blk v b∨h1.size≤b)→K s' h'):rowK c t 1 [(0,2,.agg #[.int .i64 a,.int .i64 b])] h1 fun v2 h3=>appK z t' 2 bytes v v2 h3 K:=by
 refine Rp.push_ow (e:=rMove) (cs:=[.int .i64 a,.int .i64 b]) (x:=(a,b)) H.1 rfl hc hz hb hn (fun b hb=>hb.elim) fun s' h' o' f' n'=>HK s' h' ⟨o',H.2.1.then_fr f' H.2.2,fun b hb=>?_⟩ f' n'
 rcases n' b hb with h1|h1
 ·exact H.2.2 b h1
 ·exact Nat.le_trans H.2.1.1 h1
theorem c_r17in {h:Heap}{Z:Nat→Prop}{v:Value}{l:List Int}{j:Int}(H:Rp.Sl (Rp.int .i64) Z h v l)(hl:l.length≤4611686018427387904):FCall prog zl0 #[v,.int .i64 j] h fun r h'=>r=.bool (decide (j∈l))∧h'=h:=by
 apply ok_ref17_in
 unfold znh
 obtain⟨a,c,e⟩:=H.isSl
 have e2:zae v=some (.int .i64 (l.length:Int)):=by rw[e];rfl
 rw[e2,zaa]
 refine zaE (α:=Unit) l.length 0 (fun k _=>[.int .i64 (k:Int)]) (fun k _ h'=>h'=h∧∀x∈l.take k,x≠j) () rfl (Nat.zero_le _) ⟨rfl,by simp⟩ fun k _ h1 again ρ1 _ hk ⟨w,hI⟩ Hag=>?_
 subst w
 simp only[go_sem]
 refine zab (fun h0=>?_) (fun h0=>?_)
 ·have hk':k<l.length:=by omega
  obtain⟨p,q1,q2⟩:=H.int_at (k':=.i64) hk'
  simp only[go_sem,q1,q2]
  refine zab (fun h3=>?_) (fun h3=>?_)
  ·refine⟨?_,trivial⟩
   rw[decide_eq_true]
   rw[←h3];exact List.getElem_mem hk'
  ·rw[w64 (by omega) (by omega)]
   refine Hag () h1 hk' ⟨rfl,fun x hx=>?_⟩
   rw[List.take_succ_eq_append_getElem hk']at hx
   rcases List.mem_append.1 hx with hx|hx
   ·exact hI x hx
   ·rw[List.mem_singleton.1 hx];exact h3
 ·have:k=l.length:=by omega
  subst this
  refine⟨?_,trivial⟩
  rw[decide_eq_false]
  intro hm
  rw[List.take_length]at hI
  exact hI j hm rfl
structure HeldL (l:List Int)(F e:Int)(most:Nat):Prop where
 up:l.Pairwise (· < ·)
 inn:∀j,F≤j→j<e→j∈l
 lt:∀x∈l,x<e
 len:l.length≤most
theorem HeldL.start (F:Int)(most:Nat):HeldL [] F F most:=⟨List.Pairwise.nil,fun j a b=>by omega,by simp,by simp⟩
theorem HeldL.move {l:List Int}{F e F':Int}{most:Nat}(H:HeldL l F e most)(hF:F≤F'):HeldL l F' (max e F') most:=
 ⟨H.up,fun j a b=>H.inn j (by omega) (by omega),fun x hx=>by have:=H.lt x hx;omega,H.len⟩
theorem HeldL.nodup {l:List Int}(h:l.Pairwise (· < ·)):l.Nodup:=h.imp fun a=>by omega
theorem HeldL.push {l:List Int}{F e:Int}{most:Nat}(H:HeldL l F e most):(l++[e]).Pairwise (· < ·)∧(∀j,F≤j→j<e+1→j∈l++[e])∧(∀x∈l++[e],x<e+1):=by
 refine⟨?_,fun j a b=>?_,fun x hx=>?_⟩
 ·rw[List.pairwise_append]
  exact⟨H.up,by simp,fun a ha b hb=>by rw[List.mem_singleton.1 hb];exact H.lt a ha⟩
 ·by_cases hj:j<e
  ·exact List.mem_append_left _ (H.inn j a hj)
  ·rw[show j=e by omega];simp
 ·rcases List.mem_append.1 hx with h|h
  ·have:=H.lt x h;omega
  ·rw[List.mem_singleton.1 h];omega
theorem HeldL.next {l:List Int}{F e E:Int}{most:Nat}(H:HeldL l F e most)(he:F≤e)(hE:e<E)(hm:E-F≤most):(l.length+1≤most∧HeldL (l++[e]) F (e+1) most)∨(∃x t,l++[e]=x::t∧most<l.length+1∧0<t.length∧HeldL t F (e+1) most):=by
 obtain⟨p1,p2,p3⟩:=H.push
 by_cases h1:l.length+1≤most
 ·exact .inl ⟨h1,p1,p2,p3,by simpa using h1⟩
 ·cases l with
  |nil=>simp at h1;omega
  | cons x l=>
   have hl:=H.len
   refine .inr ⟨x,l++[e],rfl,by omega,by simp,?_⟩
   have hx:x<F:=by
    rcases Int.lt_or_le x F with h|h
    ·exact h
    ·have hall:∀z∈x::l,F≤z∧z<e:=fun z hz=>by
      refine⟨?_,H.lt z hz⟩
      rcases List.mem_cons.1 hz with rfl|hz
      ·exact h
      ·have:=(List.pairwise_cons.1 H.up).1 z hz;omega
     have:=nodup_range (HeldL.nodup H.up) hall
     omega
   have p1':(x::(l++[e])).Pairwise (· < ·):=p1
   refine⟨(List.pairwise_cons.1 p1').2,fun j a b=>?_,fun z hz=>p3 z (List.mem_cons_of_mem _ hz),by simp at hl ⊢;omega⟩
   have:=p2 j a b
   rcases List.mem_cons.1 (show j∈x::(l++[e])from this)with h|h
   ·omega
   ·exact h
theorem c_r17Steps {h:Heap}{Z:Nat→Prop}{ds:List Value}{s:Stg}{m:Pic}{t:TileD}(K:rStg.R Z h ds s)(OK:StgOk s)(hy:0≤t.y)(hh:1≤t.h)(hyh:t.y+t.h≤s.y.lines.length):
  FCall prog zeZ #[.agg ds.toArray,.int .i64 t.y,.int .i64 t.h] h fun r h'=>New rMove h h' r (zhC ⟨m,s,t⟩ t.y (lnF s.y t.y)):=by
 apply zou
 unfold zi6
 obtain⟨X,Y,rfl,HX,HY⟩:=K
 have WS:=OK.wf
 have hYl:=WS.y.len
 simp only[zaJ]
 refine zah fun b1 h1 r1 e1 n1=>?_
 have k1:zag h1 ⟨b1,1,none⟩=some Y:=zad r1
 obtain⟨aY,cY,eY⟩:=HY.isSl
 have eY2:zae Y=some (.int .i64 (s.y.lines.length:Int)):=by rw[eY];rfl
 simp only[go_sem,Nat.zero_add,k1,eY2]
 -- a line, read into a variable
 have rd:∀{h2:Heap} {i:Nat} (hi:i<s.y.lines.length),Ext h h2→∀{Kp:Value→Heap→Prop},(∀b h3 u,h3[b]? =some (.cells #[.int .i64 (lineT s.y i).1,u] 161 (0,0))→Ext h2 h3→h2.size≤b→zae u=some (.int .i64 ((lineT s.y i).2.length:Int))→Kp (ptr b) h3)→
   vK (idxV 2 Y (.int .i64 (i:Int))) fun v11=>vK (ldsV 2 h2 v11) fun v12=>newK #[(.int .i64 0),(.slice none 0 0)] 161 h2 fun v13 h14=>stK 2 v13 v12 h14 fun v15 h16=>Kp v13 h16:=by
  intro h2 i hi E Kp HK
  obtain⟨p,cs,q1,q2,Rr⟩:=Rp.Sl.atw (e:=rLine) (HY.ext E) (show 0<2 by omega) (k:=.i64) hi
  rw[line_get hi]at Rr
  obtain⟨u,rfl,Su⟩:=Rr
  have q1:idxV 2 Y (.int .i64 (i:Int))=some p:=q1
  have q2:ldsV 2 h2 p=some (.agg #[.int .i64 (lineT s.y i).1,u]):=q2
  rw[q1,zaa,q2,zaa]
  obtain⟨au,cu,eu⟩:=Su.isSl
  exact za0 (cs:=[.int .i64 (lineT s.y i).1,u]) rfl (zac rfl (zac Su.one zal)) rfl fun b h3 r3 e3 n3=>HK b h3 u r3 e3 n3 (by rw[eu];rfl)
 -- the most taps of a line
 have mstep:∀k,k<s.y.lines.length→mostL (s.y.lines.take (k+1))=max (mostL (s.y.lines.take k)) ((lineT s.y k).2.length:Int):=fun k hk=>by
  rw[List.take_succ_eq_append_getElem hk,zpe,line_get hk]
 have hmost:=OK.most
 have hm0:=most_nn s.y.lines
 have mle:∀k,0≤mostL (s.y.lines.take k)∧mostL (s.y.lines.take k)≤mostL s.y.lines:=fun k=>⟨most_nn _,zlH hm0 fun x hx=>(zqF s.y.lines 0).2 x (List.mem_of_mem_take hx)⟩
 refine zaE (α:=Unit) s.y.lines.length 0 (fun k _=>[.int .i64 (mostL (s.y.lines.take k)),.int .i64 (k:Int)]) (fun k _ h'=>Ext h1 h') () rfl (Nat.zero_le _) (Ext.refl _) fun k _ h2 again ρ1 _ hk E2 Hag=>?_
 have E02:=e1.trans E2
 simp only[go_sem]
 refine zab (fun g1=>?_) (fun g1=>?_)
 ·have hk':k<s.y.lines.length:=by omega
  refine rd hk' E02 fun b3 h3 u r3 e3 n3 eu2=>?_
  have c1:zag h3 ⟨b3,1,none⟩=some u:=zad r3
  have hms:=mstep k hk'
  simp only[go_sem,Nat.zero_add,c1,eu2]
  refine zab (fun g2=>?_) (fun g2=>?_)
  ·try simp only[go_sem,Nat.zero_add,c1,eu2]
   rw[w64 (by omega) (by omega)]
   have:=Hag () h3 hk' (E2.trans e3)
   rw[hms,show max (mostL (s.y.lines.take k)) ((lineT s.y k).2.length:Int)=((lineT s.y k).2.length:Int)by omega]at this
   exact this
  ·rw[w64 (by omega) (by omega)]
   have:=Hag () h3 hk' (E2.trans e3)
   rw[hms,show max (mostL (s.y.lines.take k)) ((lineT s.y k).2.length:Int)=mostL (s.y.lines.take k)by omega]at this
   exact this
 have hkY:k=s.y.lines.length:=by omega
 subst hkY
 rw[List.take_length]
 clear Hag
 obtain⟨most,hmN⟩:∃n:Nat,mostL s.y.lines=(n:Int):=⟨(mostL s.y.lines).toNat,by omega⟩
 rw[hmN]
 obtain⟨d,hd⟩:∃d:JobD,d=⟨m,s,t⟩:=⟨_,rfl⟩
 have hds:d.s=s:=by rw[hd]
 rw[←hd]
 obtain⟨H,hH⟩:∃H:Nat,t.h=(H:Int):=⟨t.h.toNat,by omega⟩
 obtain⟨y0,hy0⟩:∃y0:Nat,t.y=(y0:Int):=⟨t.y.toNat,by omega⟩
 have hmv:zhC d t.y (lnF s.y t.y)=zeS d H y0 (lnF s.y y0):=by
  unfold zhC
  have:d.t=t:=by rw[hd]
  rw[this,hy0,show((y0:Int)+t.h-(y0:Int)).toNat=H by omega]
 rw[hmv,hH,hy0]
 have hlenb:∀k y e,lnF s.y y≤e→(zeS d k y e).length≤k*1048577:=fun k y e he=>by
  rw[zlG]
  exact zqN (by rw[hds];exact WS.y) k y e (by rw[hds];exact he)
 have htl:=hlenb H y0 (lnF s.y y0) (Int.le_refl _)
 have hmo:=OK.mono
 -- line by line
 refine zaE (α:=Value×Value×List (Int×Int)×List Int×Int) H 0 (fun k a=>[a.1,a.2.1,.int .i64 (k:Int)])
  (fun k a h'=>New rMove h h' a.1 a.2.2.1∧OwO .i64 h' a.2.1 a.2.2.2.1∧(∀b,blk a.2.1 b→h2.size≤b)∧(∀b,blk a.1 b→h2.size≤b∧¬blk a.2.1 b)∧Ext h2 h'∧(k<H→HeldL a.2.2.2.1 (lnF s.y (y0+k:Nat)) a.2.2.2.2 most∧lnF s.y (y0+k:Nat)≤a.2.2.2.2∧a.2.2.2.2≤lnE s.y (y0+k:Nat))∧
   a.2.2.1++zeS d (H-k) ((y0+k:Nat):Int) a.2.2.2.2=zeS d H y0 (lnF s.y y0))
  (.slice none 0 0,.slice none 0 0,[],[],lnF s.y y0) rfl (Nat.zero_le _)
  ⟨New.nil E02,OwO.nil,fun b hb=>hb.elim,fun b hb=>hb.elim,Ext.refl _,fun _=>⟨HeldL.start _ _,Int.le_refl _,by unfold lnE lnF;show(lineT s.y ((y0+0:Nat):Int)).1≤_;omega⟩,rfl⟩ fun k a h3 again ρ2 _ hk ⟨N3,O3,b3,a3,E3,H3,M3⟩ Hag=>?_
 obtain⟨ov,hv,out,held,e⟩:=a
 have N3:New rMove h h3 ov out:=N3
 have O3:OwO .i64 h3 hv held:=O3
 have b3:∀b,blk hv b→h2.size≤b:=b3
 have a3:∀b,blk ov b→h2.size≤b∧¬blk hv b:=a3
 have H3:k<H→HeldL held (lnF s.y (y0+k:Nat)) e most∧lnF s.y (y0+k:Nat)≤e∧e≤lnE s.y (y0+k:Nat):=H3
 have M3:out++zeS d (H-k) ((y0+k:Nat):Int) e=zeS d H y0 (lnF s.y y0):=M3
 simp only[go_sem]
 refine zab (fun g1=>?_) (fun g1=>?_)
 ·have hk':k<H:=by omega
  obtain⟨HL,hFe,heE⟩:=H3 hk'
  have k1:zag h3 ⟨b1,1,none⟩=some Y:=zad (E3.row (E2.row r1))
  simp only[go_sem,Nat.zero_add,k1]
  rw[w64 (n:=(y0:Int)+(k:Int)) (by omega) (by omega),show(y0:Int)+(k:Int)=((y0+k:Nat):Int)by omega]
  refine rd (by omega) (E02.trans E3) fun b4 h4 u r4 e4 n4 eu2=>?_
  have c1:zag h4 ⟨b4,1,none⟩=some u:=zad r4
  simp only[go_sem,Nat.zero_add,c1,eu2]
  have hl:=zie WS.y ((y0+k:Nat):Int)
  have hlm:=hmo.m ((y0+k:Nat):Int)
  have hmn1:k+1<H→lnF s.y ((y0+k:Nat):Int)≤lnF s.y ((y0+(k+1):Nat):Int)∧lnE s.y ((y0+k:Nat):Int)≤lnE s.y ((y0+(k+1):Nat):Int):=fun h=>⟨hmo.f _ _ (by omega) (by omega) (by omega),hmo.e _ _ (by omega) (by omega) (by omega)⟩
  have hsp:zeS d (H-k) ((y0+k:Nat):Int) e=rowsM e (lnE s.y ((y0+k:Nat):Int))++(2,((y0+k:Nat):Int))::zeS d (H-(k+1)) ((y0+(k+1):Nat):Int) (max (lnE s.y ((y0+k:Nat):Int)) (lnF s.y ((y0+(k+1):Nat):Int))):=by
   rw[show H-k=(H-(k+1))+1 by omega]
   rw[zeS,hds,show((y0+k:Nat):Int)+1=((y0+(k+1):Nat):Int)by omega]
  rw[hsp]at M3
  have htl2:(zeS d H y0 (lnF s.y y0)).length≤68719542272:=by omega
  generalize hyk:((y0+k:Nat):Int)=yk at*
  have hE':lnE s.y yk=lnF s.y yk+((lineT s.y yk).2.length:Int):=rfl
  have hFd:(lineT s.y yk).1=lnF s.y yk:=rfl
  have hFb: -70368744177664≤lnF s.y yk∧lnF s.y yk≤70368744177664:=hl.2
  obtain⟨L,hL⟩:∃L:Nat,(lineT s.y yk).2.length=L:=⟨_,rfl⟩
  rw[hL]at hE' eu2 hlm hl
  rw[hL]
  have r4':h4[b4]? =some (.cells #[.int .i64 (lnF s.y yk),u] 161 (0,0)):=r4
  generalize lnF s.y yk=F at*
  -- the rows that the line lacks
  refine zaE (α:=Value×Value×List Int×Int) L 0 (fun i a=>[a.1,a.2.1,.int .i64 (i:Int)])
   (fun i a h'=>New rMove h h' a.1 (out++rowsM e a.2.2.2)∧OwO .i64 h' a.2.1 a.2.2.1∧(∀b,blk a.2.1 b→h2.size≤b∧b≠b4)∧(∀b,blk a.1 b→h2.size≤b∧b≠b4∧¬blk a.2.1 b)∧Ext h2 h'∧h'[b4]? =some (.cells #[.int .i64 F,u] 161 (0,0))∧b4<h'.size∧HeldL a.2.2.1 F a.2.2.2 most∧a.2.2.2=max e (F+i))
   (ov,hv,held,e) rfl (Nat.zero_le _)
   ⟨by show New rMove h h4 ov (out++rowsM e e);rw[zo5 (Int.le_refl _),List.append_nil];exact N3.ext e4,OwnO.ext O3 e4,fun b hb=>⟨b3 b hb,fun he=>by have:=OwnO.lt O3 hb;omega⟩,fun b hb=>⟨(a3 b hb).1,fun he=>by have:=N3.lt hb;omega,(a3 b hb).2⟩,E3.trans e4,r4',zau r4,HL,by show e=max e (F+((0:Nat):Int));omega⟩
   fun i a h5 again2 ρ3 _ hi ⟨N5,O5,b5,a5,E5,r5,l5,H5,m5⟩ Hag2=>?_
  obtain⟨ov5,hv5,held5,e5⟩:=a
  have N5:New rMove h h5 ov5 (out++rowsM e e5):=N5
  have O5:OwO .i64 h5 hv5 held5:=O5
  have b5:∀b,blk hv5 b→h2.size≤b∧b≠b4:=b5
  have a5:∀b,blk ov5 b→h2.size≤b∧b≠b4∧¬blk hv5 b:=a5
  have H5:HeldL held5 F e5 most:=H5
  have m5:e5=max e (F+i):=m5
  have hlen5:(out++rowsM e e5).length+1≤68719542273:=by
   have:=congrArg List.length M3
   rw[List.length_append,List.length_append,znr]at this
   rw[List.length_append,znr]
   omega
  simp only[go_sem]
  refine zab (fun g2=>?_) (fun g2=>?_)
  ·have hi':i<L:=by omega
   have c0:zag h5 ⟨b4,0,none⟩=some (.int .i64 F):=zad r5
   simp only[go_sem,Nat.zero_add,c0]
   rw[w64 (n:=F+(i:Int)) (by omega) (by omega)]
   refine FCall.at (c_r17in O5.sl (by have:=H5.len;omega)) ?_
   refine zab (fun g3=>?_) (fun g3=>?_)
   ·have:=H5.lt _ g3
    rw[w64 (by omega) (by omega)]
    refine Hag2 (ov5,hv5,held5,e5) h5 hi' ⟨N5,O5,b5,a5,E5,r5,l5,H5,?_⟩
    show e5=max e (F+((i+1:Nat):Int))
    omega
   ·have he5:e5=F+i:=by
     rcases Int.lt_or_le (F+(i:Int)) e5 with h|h
     ·exact absurd (H5.inn _ (by omega) h) g3
     ·omega
    rw[←he5]
    rw[show fillL #[(.int .i64 0),(.int .i64 0)] [(0,1,(.int .i64 1)),(1,1,.int .i64 e5)]=some #[.int .i64 1,.int .i64 e5]from zk9 rfl rfl,zav,zaa]
    have hEE:e5<lnE s.y yk:=by omega
    refine New.push2 (a:=1) (b:=e5) N5 rfl rfl (by omega) (by omega) fun ov6 h6 N6 f6 n6=>?_
    have O6:OwO .i64 h6 hv5 held5:=OwnO.fr O5 f6 fun b hb hv=>(a5 b hv).2.2 hb
    have r6:=f6.row r5 fun hv=>(a5 _ hv).2.1 rfl
    have sz6:=f6.1
    have v6:∀b,blk ov6 b→h2.size≤b∧b≠b4∧¬blk hv5 b:=fun b hb=>by
     rcases n6 b hb with h|h
     ·exact a5 b h
     ·have hs:=E5.1
      exact⟨by omega,by omega,fun hv=>by have:=OwnO.lt O5 hv;omega⟩
    have E6:Ext h2 h6:=E5.then_fr f6 fun b hb=>(a5 b hb).1
    refine OwO.push (x:=e5) O6 rfl (by have:=H5.len;omega) (by have:=H5.len;omega) fun hv7 h7 O7 f7 n7=>?_
    have N7:New rMove h h7 ov6 (out++rowsM e (e5+1)):=by
     rw[rowsM_snoc (by omega),←List.append_assoc]
     exact N6.fr f7 (fun b hb=>Nat.le_trans E02.1 (b5 b hb).1) fun b hb hv=>(v6 b hb).2.2 hv
    have r7:=f7.row r6 fun hv=>(b5 _ hv).2 rfl
    have E7:Ext h2 h7:=E6.then_fr f7 fun b hb=>(b5 b hb).1
    have l7:=zau r7
    have b7:∀b,blk hv7 b→h2.size≤b∧b≠b4:=fun b hb=>by
     rcases n7 b hb with h|h
     ·exact b5 b h
     ·have hs:=E6.1;have:=zau r6
      exact⟨by omega,by omega⟩
    have v7:∀b,blk ov6 b→h2.size≤b∧b≠b4∧¬blk hv7 b:=fun b hb=>by
     refine⟨(v6 b hb).1,(v6 b hb).2.1,fun hv=>?_⟩
     rcases n7 b hv with h|h
     ·exact(v6 b hb).2.2 h
     ·have:=N6.lt hb;omega
    obtain⟨a7,c7,e7⟩:=O7.sl.isSl
    have ln7:zae hv7=some (.int .i64 ((held5.length+1:Nat):Int)):=by rw[e7,List.length_append];rfl
    simp only[go_sem,ln7]
    rcases H5.next (E:=lnE s.y yk) (by omega) (by omega) (by omega)with⟨q1,q2⟩|⟨x,tl,q1,q2,q3,q4⟩
    ·rw[decide_eq_false (by omega)]
     simp only[go_sem]
     rw[w64 (by omega) (by omega)]
     refine Hag2 (ov6,hv7,held5++[e5],e5+1) h7 hi' ⟨N7,O7,b7,v7,E7,r7,l7,q2,?_⟩
     show e5+1=max e (F+((i+1:Nat):Int))
     omega
    ·rw[decide_eq_true (by omega)]
     simp only[go_sem]
     rw[q1]at O7
     obtain⟨hv8,s8,O8,n8⟩:=O7.tail (k':=.i64) q3
     rw[s8,zaa,w64 (by omega) (by omega)]
     refine Hag2 (ov6,hv8,tl,e5+1) h7 hi' ⟨N7,O8,fun b hb=>b7 b (n8 b hb),fun b hb=>⟨(v7 b hb).1,(v7 b hb).2.1,fun hv=>(v7 b hb).2.2 (n8 b hv)⟩,E7,r7,l7,q4,?_⟩
     show e5+1=max e (F+((i+1:Nat):Int))
     omega
  ·have hiL:i=L:=by omega
   subst hiL
   have hee:e5=lnE s.y yk:=by omega
   rw[show fillL #[(.int .i64 0),(.int .i64 0)] [(0,1,(.int .i64 2)),(1,1,.int .i64 yk)]=some #[.int .i64 2,.int .i64 yk]from zk9 rfl rfl,zav,zaa]
   refine New.push2 (a:=2) (b:=yk) N5 rfl rfl (by omega) (by omega) fun ov6 h6 N6 f6 n6=>?_
   try simp only[go_sem]
   rw[w64 (by omega) (by omega)]
   have E6:Ext h2 h6:=E5.then_fr f6 fun b hb=>(a5 b hb).1
   refine Hag (ov6,hv5,out++rowsM e e5++[(2,yk)],held5,max e5 (lnF s.y ((y0+(k+1):Nat):Int))) h6 hk' ⟨N6,OwnO.fr O5 f6 fun b hb hv=>(a5 b hv).2.2 hb,fun b hb=>(b5 b hb).1,fun b hb=>?_,E6,fun hk2=>?_,?_⟩
   ·rcases n6 b hb with h|h
    ·exact⟨(a5 b h).1,(a5 b h).2.2⟩
    ·have hs:=E5.1
     exact⟨by omega,fun hv=>by have:=OwnO.lt O5 hv;omega⟩
   ·obtain⟨g5,g6⟩:=hmn1 hk2
    refine⟨H5.move g5,by show _≤max e5 _;omega,?_⟩
    show max e5 _≤_
    have:lnF s.y ((y0+(k+1):Nat):Int)≤lnE s.y ((y0+(k+1):Nat):Int):=by unfold lnE lnF;omega
    omega
   ·show(out++rowsM e e5++[(2,yk)])++zeS d (H-(k+1)) ((y0+(k+1):Nat):Int) (max e5 (lnF s.y ((y0+(k+1):Nat):Int)))=_
    rw[hee]
    rw[←M3]
    simp
 ·have hkH:k=H:=by omega
  subst hkH
  rw[Nat.sub_self]at M3
  have M3:out++[]=zeS d k y0 (lnF s.y y0):=M3
  rw[List.append_nil]at M3
  rw[←M3]
  exact N3
theorem move_eq (a b c d:Int):binV (.st [(0,1,.i),(1,1,.i)]) .eql (moveV a b) (moveV c d)=some (.bool (decide (a=c∧b=d))):=by
 have e1:(a==c)=decide (a=c):=rfl
 have e2:(b==d)=decide (b=d):=rfl
 simp only[binV,eqV,seEqL,seEq,seAgg,cond_false,List.getElem?_toArray,List.getElem?_cons_zero,List.getElem?_cons_succ,if_true,e1,e2]
 by_cases h:a=c<;>by_cases h2:b=d<;>simp[h,h2]
theorem move_ne (a b c d:Int):binV (.st [(0,1,.i),(1,1,.i)]) .neq (moveV a b) (moveV c d)=some (.bool (!decide (a=c∧b=d))):=by
 have e1:(a==c)=decide (a=c):=rfl
 have e2:(b==d)=decide (b=d):=rfl
 simp only[binV,eqV,seEqL,seEq,seAgg,cond_false,List.getElem?_toArray,List.getElem?_cons_zero,List.getElem?_cons_succ,if_true,e1,e2]
 by_cases h:a=c<;>by_cases h2:b=d<;>simp[h,h2]
structure Setup (Z:Nat→Prop)(h:Heap)(bf:Nat)(vf:Value)(bt:Nat)(vt p q:Value)(m n:Pic)(s:Stg):Prop where
 src:IsImg h bf vf m
 out:IsImg h bt vt n
 ne:bf≠bt
 tx:IsTbl Z h p s.x
 ty:IsTbl Z h q s.y
 zf:Z bf∧∀c,blk vf c→Z c
 zz:∀c,Z c→¬blk vt c
 zb:∀c,Z c→c≠bt
 zl:∀c,Z c→c<h.size
theorem Setup.ext {Z:Nat→Prop}{h h':Heap}{bf:Nat}{vf:Value}{bt:Nat}{vt p q:Value}{m n:Pic}{s:Stg}(S:Setup Z h bf vf bt vt p q m n s)(e:Ext h h'):Setup Z h' bf vf bt vt p q m n s:=
 ⟨S.src.ext e,S.out.ext e,S.ne,S.tx.ext e,S.ty.ext e,S.zf,S.zz,S.zb,fun c hc=>Nat.lt_of_lt_of_le (S.zl c hc) e.1⟩
theorem Setup.chg {Z Q:Nat→Prop}{h h':Heap}{bf:Nat}{vf:Value}{bt:Nat}{vt p q:Value}{m n n':Pic}{s:Stg}(S:Setup Z h bf vf bt vt p q m n s)(f:Fr Q h h')(qz:∀c,Z c→¬Q c)(I:IsImg h' bt vt n'):Setup Z h' bf vf bt vt p q m n' s:=
 ⟨S.src.fr f (qz _ S.zf.1) fun c hc=>qz _ (S.zf.2 c hc),I,S.ne,S.tx.fr f fun c _ hz=>qz c hz,S.ty.fr f fun c _ hz=>qz c hz,S.zf,S.zz,S.zb,fun c hc=>Nat.lt_of_lt_of_le (S.zl c hc) f.1⟩
theorem Setup.mk3 {h0 h1 h2:Heap}{bf:Nat}{vf:Value}{pn p q:Value}{m n:Pic}{s:Stg}(I:IsImg h1 bf vf m)(nb:h0.size≤bf)(nv:∀c,blk vf c→h0.size≤c)(tx:IsTbl (Since h0 h1) h1 p s.x)(ty:IsTbl (Since h0 h1) h1 q s.y)(N:zll h1 h2 pn n):
  ∃bt vt,pn=ptr bt∧Setup (Since h0 h1) h2 bf vf bt vt p q m n s∧h1.size≤bt∧(∀c,blk vt c→h1.size≤c)∧Ext h1 h2:=by
 obtain⟨bt,vt,rfl,O,mb,mv,E⟩:=N
 have l:=I.lt
 exact⟨bt,vt,rfl,⟨I.ext E,O,by omega,tx.ext E,ty.ext E,⟨⟨nb,l⟩,fun c hc=>⟨nv c hc,I.ltv hc⟩⟩,fun c hc hv=>by have:=hc.2;have:=mv c hv;omega,fun c hc he=>by have:=hc.2;omega,fun c hc=>Nat.lt_of_lt_of_le hc.2 E.1⟩,mb,mv,E⟩
theorem c_wNewS {Z:Nat→Prop}{h:Heap}(G:GlobB h){bf:Nat}{vf:Value}{bt:Nat}{vt p q:Value}{m n:Pic}{s:Stg}{t:TileD}(S:Setup Z h bf vf bt vt p q m n s)(W:m.Wf)(WO:n.Wf)(WS:s.Wf):
  FCall prog zew #[ptr bf,ptr bt,.agg #[p,q,.int .i64 s.border],.agg (tileC t).toArray] h (WNew Z h bf vf bt vt p q m n s t):=
 c_wNew G S.src S.out S.ne W WO S.tx S.ty WS S.zf S.zz S.zl
def pic17:Pic:=imgN 3 1 1 255
def op17:OpD:=⟨1,0,0,1,[],[],0,0,0⟩
def zbY:TileD:=⟨0,0,0,3,1,0,0,0,0,0⟩
theorem c_l17Lives {h:Heap}(G:GlobB h):FCall prog zhg #[] h fun r h'=>r=.bool true∧Ext h h':=by
 apply zoG
 unfold zji
 have a0:imgC 3 1 1 255=0:=by decide+kernel
 refine ziI.mono fun r h1 ⟨pp,e,e1,_,s1⟩=>?_
 subst e
 obtain⟨bm,vm,rfl,I,nbm,nvm,_⟩:=s1 a0
 have I:IsImg h1 bm vm pic17:=I
 have W:pic17.Wf:=zlK a0
 rw[a0]
 simp only[go_sem]
 have hf:(fillL #[(.int .i64 0),(.int .i64 0),(.int .i64 0),(.int .i64 0),(.slice none 0 0),(.slice none 0 0),(.int .i64 0),(.int .i64 0),(.int .i64 0)] [(0,1,(.int .i64 1)),(3,1,(.int .i64 1))])=some #[.int .i64 1,.int .i64 0,.int .i64 0,.int .i64 1,.slice none 0 0,.slice none 0 0,.int .i64 0,.int .i64 0,.int .i64 0]:=rfl
 rw[hf,zav,zaa]
 have wf:op17.Wf:=zmW (by simp[I64])
 refine(c_Make (Z:=fun _=>True) (o:=op17) (G.ext e1) zmX wf (by simp[op17]) (by simp[op17]) (by unfold I64;omega) (by unfold I64;omega)).mono fun w h2 ⟨sv,e,e2,_,s2⟩=>?_
 subst e
 have a1:makeC op17 3 1=0:=by decide+kernel
 have HS:=s2 a1
 rw[a1]
 obtain⟨p,q,rfl,hp,hq,ones⟩:=zdr HS
 simp only[go_sem]
 refine za0 (cs:=[p,q,.int .i64 _]) rfl ones rfl fun b3 h3 r3 e3 n3=>?_
 refine ziI.mono fun r h4 ⟨pp,e,e4,_,s4⟩=>?_
 subst e
 have N4:=s4 a0
 rw[a0]
 have E13:=e2.trans e3
 have up:∀c,c<h2.size→Since h1 h2 c→Since h h3 c:=fun c hc hz=>⟨Nat.le_trans e1.1 hz.1,Nat.lt_of_lt_of_le hz.2 e3.1⟩
 obtain⟨bn,vn,rfl,S,nbn,nvn,_⟩:=Setup.mk3 (h0:=h) (I.ext E13) nbm nvm ((hp.mono up).ext e3) ((hq.mono up).ext e3) N4
 simp only[go_sem]
 have E4:=e1.trans (E13.trans e4)
 refine FCall.to (c_l14Lives (G.ext E4)) fun h5 e5=>?_
 simp only[go_sem]
 refine FCall.to (c_l15Lives (G.ext (E4.trans e5))) fun h6 e6=>?_
 have E6:=E4.trans (e5.trans e6)
 simp only[go_sem,eqT]
 rw[zao (l:=[p,q,.int .i64 _]) ((e4.trans (e5.trans e6)).row r3) 3 rfl,zaa]
 have hf4:fillL #[(.int .i64 0),(.int .i64 0),(.int .i64 0),(.int .i64 0)] [(2,1,(.int .i64 3)),(3,1,(.int .i64 1))]=some #[.int .i64 0,.int .i64 0,.int .i64 3,.int .i64 1]:=rfl
 have hf10:fillL #[(.int .i64 0),(.int .i64 0),(.int .i64 0),(.int .i64 0),(.int .i64 0),(.int .i64 0),(.int .i64 0),(.int .i64 0),(.int .i64 0),(.int .i64 0)] [(1,4,.agg #[.int .i64 0,.int .i64 0,.int .i64 3,.int .i64 1])]=some (tileC zbY).toArray:=rfl
 rw[hf4,zav,zaa,hf10,zav,zaa]
 have hN:(imgN 3 1 1 255).Wf:=zlK a0
 have hcc:wnewC pic17 (imgN 3 1 1 255) (makeS op17 3 1) zbY=0:=by decide+kernel
 refine(c_wNewS (G.ext E6) (S.ext (e5.trans e6)) W hN (ziF a1).1).mono fun r h7 ⟨e7,v,er,_,s7⟩=>?_
 subst er
 obtain⟨bj,rv,rfl,J⟩:=s7 hcc
 rw[hcc]
 simp only[go_sem,eqT,ptr_en]
 have OK:StgOk (makeS op17 3 1):=makeS_ok a1 (by omega) (by decide+kernel)
 have R:=OK.room (m:=pic17) (n:=imgN 3 1 1 255) (t:=zbY) W hcc
 have WJ:=job_wf (t:=zbY) W OK.wf hcc
 -- the steps, one behind the other
 have f1:stepK ⟨pic17,makeS op17 3 1,zbY⟩ 0 (-1)=1∧stepJ ⟨pic17,makeS op17 3 1,zbY⟩ 0 (-1)= -1∧stepY ⟨pic17,makeS op17 3 1,zbY⟩ 0 (-1)=0∧stepE ⟨pic17,makeS op17 3 1,zbY⟩ 0 (-1)=0:=by decide+kernel
 have f2:stepK ⟨pic17,makeS op17 3 1,zbY⟩ 0 0=1∧stepJ ⟨pic17,makeS op17 3 1,zbY⟩ 0 0=0∧stepY ⟨pic17,makeS op17 3 1,zbY⟩ 0 0=0∧stepE ⟨pic17,makeS op17 3 1,zbY⟩ 0 0=1:=by decide+kernel
 have f3:stepK ⟨pic17,makeS op17 3 1,zbY⟩ 0 1=1∧stepJ ⟨pic17,makeS op17 3 1,zbY⟩ 0 1=1∧stepY ⟨pic17,makeS op17 3 1,zbY⟩ 0 1=0∧stepE ⟨pic17,makeS op17 3 1,zbY⟩ 0 1=2:=by decide+kernel
 have f4:stepK ⟨pic17,makeS op17 3 1,zbY⟩ 0 2=2∧stepJ ⟨pic17,makeS op17 3 1,zbY⟩ 0 2=0∧stepY ⟨pic17,makeS op17 3 1,zbY⟩ 0 2=1:=by decide+kernel
 have f5:∀e,stepK ⟨pic17,makeS op17 3 1,zbY⟩ 1 e=0∧stepJ ⟨pic17,makeS op17 3 1,zbY⟩ 1 e=0:=fun e=>by
  have:zbY.y+zbY.h≤1:=by decide
  unfold stepK stepJ
  exact⟨if_pos this,if_pos this⟩
 have hF:lnF (makeS op17 3 1).y zbY.y= -1:=by decide+kernel
 rw[hF]at J
 have J:JobSt (Since h h3) (Grow (fun _=>False) h6 h7) h7 bj bm vm bn vn p q rv ⟨pic17,makeS op17 3 1,zbY⟩ 0 (-1) (imgN 3 1 1 255) (roomN (mostL (makeS op17 3 1).y.lines)) (zek (zbY.w*pic17.c)):=J
 generalize hD:(⟨pic17,makeS op17 3 1,zbY⟩:JobD)=D at*
 generalize roomN (mostL (makeS op17 3 1).y.lines)=room at*
 generalize zek (zbY.w*pic17.c)=w at*
 have hB:∀c,Grow (fun _=>False) h6 h7 c→h.size≤c:=fun c hc=>by
  rcases hc with hc|hc
  ·exact hc.elim
  ·have:=E6.1;omega
 have hbn:∀c,blk vn c→h.size≤c:=fun c hc=>by have:=nvn c hc;have:=e1.1;have:=E13.1;omega
 -- from step to step all that was is as it was
 have ExE:∀{h' h'':Heap} {B:Nat→Prop},Ext h h'→(∀c,B c→h.size≤c)→Fr (fun c=>blk vn c∨B c) h' h''→Ext h h'':=fun E hB f=>E.then_fr f fun c hc=>by
  rcases hc with hc|hc
  ·exact hbn c hc
  ·exact hB c hc
 have GrB:∀{h' h'':Heap} {B:Nat→Prop},Ext h h'→(∀c,B c→h.size≤c)→∀c,Grow B h' h'' c→h.size≤c:=fun E hB c hc=>by
  rcases hc with hc|hc
  ·exact hB c hc
  ·have:=E.1;omega
 have hfm:∀a b:Int,fillL #[(.int .i64 0),(.int .i64 0)] [(0,1,(.int .i64 a)),(1,1,.int .i64 b)]=some #[.int .i64 a,.int .i64 b]:=fun _ _=>rfl
 have hfm1:∀a:Int,fillL #[(.int .i64 0),(.int .i64 0)] [(0,1,(.int .i64 a))]=some #[.int .i64 a,.int .i64 0]:=fun _=>rfl
 have E7:=E6.trans e7
 refine zbh (fun k xs h'=>∃e B n',xs=[.int .i64 e]∧(k:Int)=2-e∧ -1≤e∧Ext h h'∧(∀c,B c→h.size≤c)∧JobSt (Since h h3) B h' bj bm vm bn vn p q rv D 0 e n' room w) 3
  ⟨-1,_,_,rfl,by omega,by omega,E7,hB,J⟩ fun k xs ρ1 h8 again ⟨e,B,n',ex,hk,he,E8,hB8,J8⟩ Hag=>?_
 subst ex
 simp only[go_sem]
 refine zab (fun g1=>?_) (fun g1=>?_)
 ·refine(c_Step J8 WJ R).mono fun r h9 ⟨er,n9,J9,fr9,_⟩=>?_
  subst er
  have hs:stepK D 0 e=1∧stepJ D 0 e=e∧stepY D 0 e=0∧stepE D 0 e=e+1:=by
   have:e= -1∨e=0∨e=1:=by omega
   rcases this with rfl|rfl|rfl
   ·exact f1
   ·exact f2
   ·exact f3
  rw[hs.1,hs.2.1]at*
  rw[hs.2.2.1,hs.2.2.2]at J9
  rw[hfm,zav,zaa,move_ne]
  simp only[go_sem,eqT,and_self]
  rw[w64 (by omega) (by omega)]
  exact Hag _ _ (k-1) (by omega) ⟨e+1,_,n9,rfl,by omega,by omega,ExE E8 hB8 fr9,GrB E8 hB8,J9⟩
 ·have he2:e=2:=by omega
  subst he2
  refine(c_Step J8 WJ R).mono fun r h9 ⟨er,n9,J9,fr9,_⟩=>?_
  subst er
  rw[f4.2.2]at J9
  rw[f4.1,f4.2.1,hfm1,zav,zaa,move_eq]
  simp only[go_sem,eqT,and_self]
  refine(c_Step J9 WJ R).mono fun r h10 ⟨er,n10,J10,fr10,_⟩=>?_
  subst er
  rw[(f5 _).1,(f5 _).2]
  have hf0:fillL #[(.int .i64 0),(.int .i64 0)] []=some #[.int .i64 0,.int .i64 0]:=rfl
  simp only[go_sem,hf0,zav,move_eq,eqT,and_self]
  exact⟨by simp,ExE (ExE E8 hB8 fr9) (GrB E8 hB8) fr10⟩
end Go.Proofs.YtcoimlclclnlkaaGreatDoor
namespace Go.Proofs.YtcoimlclclnlkaaGreatDoor
open Go Go.Crisp
attribute [local irreducible] FCall rowK newK stK iteK vK qK drawK gK joinK loopK mkK appK cpyK zmY zkN bsK clK zgY zfx newmK
section
def B8 (n:Int):Prop:=0≤n∧n≤255
def bgS (a:PicA)(o:OpD):Stg:=makeS o (drawA a).w (drawA a).h
def bgN (a:PicA)(o:OpD):Pic:=imgN (bgS a o).x.lines.length (bgS a o).y.lines.length (drawA a).c (drawA a).most
structure BgOk (a:PicA)(o:OpD):Prop where
 little:¬zeA 12 o
 made:makeC o (drawA a).w (drawA a).h=0
 fit:fitsZ (bgS a o).x.lines.length (bgS a o).y.lines.length (drawA a).c
 sx:1≤(bgS a o).x.lines.length∧(bgS a o).x.lines.length≤12
 sy:1≤(bgS a o).y.lines.length∧(bgS a o).y.lines.length≤12
theorem bg_ok {a:PicA}{o:OpD}(hl:zgJ 12 [o])(hc:opsC [o] (drawA a).w (drawA a).h (drawA a).c=0):BgOk a o:=by
 have h1:¬zeA 12 o:=hl o (by simp)
 have hw:=zjL a
 unfold opsC at hc
 rw[if_neg (by simp)]at hc
 have hf:fitsZ (drawA a).w (drawA a).h (drawA a).c:=(zlc a).fits
 rw[if_neg (by simpa using hf)]at hc
 unfold allC at hc
 by_cases hm:makeC o (drawA a).w (drawA a).h=0
 ·rw [if_neg (by simpa using hm)]at hc
  have hlen:=znU hm
  by_cases hf2:fitsZ (sizeW o (drawA a).w) (sizeH o (drawA a).h) (drawA a).c
  ·have hb:=zcX hf2
   have⟨b1,b2⟩:sizeW o (drawA a).w≤12∧sizeH o (drawA a).h≤12:=by
    unfold sizeW sizeH at hb ⊢
    unfold zeA at h1
    split<;>rename_i hk
    ·rw[if_pos hk,if_pos hk]at hb
     omega
    ·omega
   refine⟨h1,hm,?_,?_,?_⟩
   ·unfold bgS;rw[hlen.1,hlen.2];exact hf2
   ·unfold bgS;omega
   ·unfold bgS;omega
  ·rw[if_pos hf2]at hc;cases hc
 ·rw[if_pos hm]at hc;exact absurd hc hm
section
variable {a:PicA}{o:OpD}
theorem BgOk.stg (H:BgOk a o):StgOk (bgS a o):=makeS_ok H.made (by have:=zjL a;omega) (by have:=(znU H.made).1;have:=H.sx;unfold bgS at this;omega)
theorem BgOk.suits (H:BgOk a o):zdR (drawA a) (bgN a o) (bgS a o):=⟨znT H.made,rfl,rfl,rfl,rfl⟩
theorem BgOk.imgc (H:BgOk a o):imgC (bgS a o).x.lines.length (bgS a o).y.lines.length (drawA a).c (drawA a).most=0:=zih.2 ⟨H.fit,(zlc a).m1,(zlc a).m2⟩
theorem BgOk.nwf (H:BgOk a o):(bgN a o).Wf:=zlK H.imgc
end
end
section
structure Args17 (h:Heap)(cs os:List Value)(a:PicA)(o:OpD):Prop where
 pic:∃Z,rPicA.R Z h cs a
 wa:a.Wf
 op:∃Z,rOp.R Z h os o
 wo:OpsWf [o]
structure JobGo (hL:Heap)(B0 Q:Nat→Prop)(Z:Nat→Prop)(h:Heap)(bj bf:Nat)(vf:Value)(bt:Nat)(vt p q rv:Value)(d:JobD)(y e:Int)(n:Pic)(room w:Nat):Prop where
 st:∃B,JobSt Z B h bj bf vf bt vt p q rv d y e n room w∧∀c,c<hL.size→B c→B0 c
 fr:Fr (fun c=>(blk vt c∨B0 c)∨Q c) hL h
def GoFr (vt:Value)(B Q:Nat→Prop)(h h':Heap):Prop:=Fr (fun c=>(blk vt c∨B c)∨Q c) h h'
theorem GoFr.row {vt:Value}{B Q:Nat→Prop}{h h':Heap}(e:GoFr vt B Q h h'){b:Nat}{o:Obj}(r:h[b]? =some o)(hn:¬((blk vt b∨B b)∨Q b)):h'[b]? =some o:=Go.Crisp.Fr.row e r hn
section
variable {hL:Heap}{B0 Q:Nat→Prop}{Z:Nat→Prop}{h:Heap}{bj bf:Nat}{vf:Value}{bt:Nat}{vt p q rv:Value}{d:JobD}{y e:Int}{n:Pic}{room w:Nat}
theorem JobGo.row {b:Nat}{ob:Obj}(J:JobGo hL B0 Q Z h bj bf vf bt vt p q rv d y e n room w)(r:hL[b]? =some ob)(hv:¬blk vt b)(hB:¬B0 b)(hQ:¬Q b):h[b]? =some ob:=J.fr.row r fun hh=>hh.elim (fun hh=>hh.elim hv hB) hQ
theorem JobGo.out (J:JobGo hL B0 Q Z h bj bf vf bt vt p q rv d y e n room w):OutOk d n∧IsImg h bt vt n∧IsImg h bf vf d.m:=by
 obtain⟨⟨B,S,hb⟩,f⟩:=J
 exact⟨S.out,S.img,S.src⟩
end
theorem WNew.go {Z:Nat→Prop}{h:Heap}{bf:Nat}{vf:Value}{bt:Nat}{vt p q:Value}{m n:Pic}{s:Stg}{t:TileD}{r:Value}{h':Heap}(H:WNew Z h bf vf bt vt p q m n s t r h')(hc:wnewC m n s t=0):
  ∃bj rv,r=.tuple #[ptr bj,.int .i64 0]∧Ext h h'∧JobSt Z (Grow (fun _=>False) h h') h' bj bf vf bt vt p q rv ⟨m,s,t⟩ t.y (lnF s.y t.y) n (roomN (mostL s.y.lines)) (zek (t.w*m.c)):=by
 obtain⟨e,v,er,_,H⟩:=H
 obtain⟨bj,rv,rfl,J⟩:=H hc
 exact⟨bj,rv,by rw[er,hc],e,J⟩
end
end Go.Proofs.YtcoimlclclnlkaaGreatDoor
namespace Go.Proofs.YtcoimlclclnlkaaGreatDoor
open Go Go.Crisp
theorem args17_rd {h:Heap}{ts:List TS}{args:Array Value}(R:ziA (.st tPic:: .st tOp::ts) h args.toList):∃cs os a o r,args.toList=.agg (List.toArray cs):: .agg (List.toArray os)::r∧Args17 h cs os a o∧ziA ts h r:=by
 obtain⟨v,r,hr,⟨x,c,rfl,hx⟩,u,r',hr',⟨y,d,rfl,hy⟩,h0⟩:=R
 have hx:Rd tPic h c.toList x:=hx
 have hy:Rd tOp h d.toList y:=hy
 obtain⟨h1,h2⟩:=pic_rd hx
 refine⟨c.toList,d.toList,picOf x,opOf y,r',by rw[hr,hr',Array.toArray_toList,Array.toArray_toList],⟨⟨_,h1⟩,h2,⟨_,(op_rd hy).1⟩,ops1_wf hy⟩,h0⟩
theorem u8_rd {h:Heap}{ts:List TS}{l:List Value}(R:ziA (.int .u8::ts) h l):∃n r,l=.int .u8 n::r∧B8 n∧ziA ts h r:=by
 obtain⟨v,r,hr,⟨x,hx1,hx2⟩,h0⟩:=R
 obtain rfl:v=.int .u8 x:=by simpa using hx1
 exact⟨x,r,hr,u8_wf hx2,h0⟩
end Go.Proofs.YtcoimlclclnlkaaGreatDoor
namespace Go.Proofs.YtcoimlclclnlkaaGreatDoor
open Go Go.Crisp
open _root_.Go.Proofs.Tryz
def zoq:Go.Shelf.Ren:=⟨fun n=>match n with|23=>130|n=>n,fun n=>match n with|0=>0|3=>3|4=>4|22=>73|n=>n,fun n=>n⟩
theorem lay_Delete:Go.Proofs.Lays2.n23 prog zoq where
 mixed:=by kernel_rfl
 f23:=by kernel_rfl
 t0:=by kernel_rfl
 a0:=fun w=>zaD (by kernel_rfl)
 z0:=fun w=>zas (by kernel_rfl)
 v0:=fun w=>zan (by kernel_rfl)
 t3:=by kernel_rfl
 a3:=fun w=>zaD (by kernel_rfl)
 z3:=fun w=>zas (by kernel_rfl)
 v3:=fun w=>zan (by kernel_rfl)
 t4:=by kernel_rfl
 a4:=fun w=>zaD (by kernel_rfl)
 z4:=fun w=>zas (by kernel_rfl)
 v4:=fun w=>zan (by kernel_rfl)
 t22:=by kernel_rfl
 a22:=fun w=>zaD (by kernel_rfl)
 z22:=fun w=>zas (by kernel_rfl)
 v22:=fun w=>zan (by kernel_rfl)
 i3:=by kernel_rfl
end Go.Proofs.YtcoimlclclnlkaaGreatDoor
namespace Go.Proofs.YtcoimlclclnlkaaGreatDoor
open Go Go.Crisp
attribute [local irreducible] FCall rowK newK stK iteK vK qK drawK gK joinK loopK mkK appK cpyK zmY zkN bsK clK zgY zfx newmK
structure zbl (n n':Pic):Prop where
 w:n'.w=n.w
 h:n'.h=n.h
 c:n'.c=n.c
 m:n'.most=n.most
theorem zbl.refl (n:Pic):zbl n n:=⟨rfl,rfl,rfl,rfl⟩
theorem zbl.newC {m n n':Pic}{s:Stg}{t:TileD}(D:zbl n n')(h:wnewC m n s t=0):wnewC m n' s t=0:=by
 obtain⟨h1,h2⟩:=ze9.1 h
 exact ze9.2 ⟨⟨h1.1,by rw[D.w];exact h1.2.1,by rw[D.h];exact h1.2.2.1,by rw[D.c];exact h1.2.2.2.1,by rw[D.m];exact h1.2.2.2.2⟩,h2⟩
theorem zbl.inP {n n':Pic}(D:zbl n n'){x y c:Int}:Go.Proofs.YtcoimlclclnlkaaGreatDoor.inP n' x y c↔Go.Proofs.YtcoimlclclnlkaaGreatDoor.inP n x y c:=by
 unfold Go.Proofs.YtcoimlclclnlkaaGreatDoor.inP
 rw[D.w,D.h,D.c]
end Go.Proofs.YtcoimlclclnlkaaGreatDoor
