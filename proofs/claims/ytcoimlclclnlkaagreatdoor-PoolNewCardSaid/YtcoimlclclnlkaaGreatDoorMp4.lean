/- Several texts of this session, one behind the other, without what this claim does not need (put together by its program pack.py). Conditions: none. -/
import Derived.Test.YtcoimlclclnlkaaGreatDoorMp3
import Derived.MapKept
import Derived.Test.YtcoimlclclnlkaaGreatDoorProg
import Derived.Shelf.SlIterI.Sorted
set_option linter.unusedVariables false
set_option linter.unusedSimpArgs false
set_option maxRecDepth 100000
namespace Go.Proofs.YtcoimlclclnlkaaGreatDoor
open Go Go.Crisp
attribute [local irreducible] FCall rowK newK stK iteK vK qK drawK gK joinK loopK mkK appK cpyK zoB zmd bsK clK
open _root_.Go.Proofs.Tryz
abbrev LV:Type:=Option (Nat×Option Bool)
abbrev zeroL:Array Value:=#[.int .i64 0,.slice none 0 0]
def lvAt (h:Heap)(Lx Ly:Int×List Int)(ux uy:Option Value)(b:Nat):Option Bool→Prop
 |none=>h[b]? =some (.cells zeroL 235 (0,0))
 |some true=>∃u,ux=some u∧Two h b 235 (.int .i64 Lx.1) u
 |some false=>∃u,uy=some u∧Two h b 235 (.int .i64 Ly.1) u
theorem lvAt.row {h:Heap}{Lx Ly:Int×List Int}{ux uy:Option Value}{b:Nat}:∀{s:Option Bool},lvAt h Lx Ly ux uy b s→b<h.size
 |none,H=>zaz H
 |some true,⟨u,_,r⟩=>zaz r
 |some false,⟨u,_,r⟩=>zaz r
theorem lvAt.up {h h':Heap}{Lx Ly:Int×List Int}{ux uy ux' uy':Option Value}{b:Nat}(e:h'[b]? =h[b]?)(kx:∀u,ux=some u→ux'=some u)(ky:∀u,uy=some u→uy'=some u):∀{s:Option Bool},lvAt h Lx Ly ux uy b s→lvAt h' Lx Ly ux' uy' b s
 |none,H=>by show h'[b]? =_;rw[e];exact H
 |some true,⟨u,hu,r⟩=>⟨u,kx u hu,by show h'[b]? =_;rw[e];exact r⟩
 |some false,⟨u,hu,r⟩=>⟨u,ky u hu,by show h'[b]? =_;rw[e];exact r⟩
def apart (v1 v2:LV)(c:Nat):Prop:=(∀p,v1=some p→p.1≠c)∧(∀p,v2=some p→p.1≠c)
structure LnMk (h0:Heap)(Lx Ly:Int×List Int)(ux uy:Option Value)(v1 v2:LV)(h:Heap):Prop where
 ext:Ext h0 h
 lx:∀u,ux=some u→SlI (apart v1 v2) h u Lx.2
 ly:∀u,uy=some u→SlI (apart v1 v2) h u Ly.2
 at1:∀p,v1=some p→h0.size≤p.1∧lvAt h Lx Ly ux uy p.1 p.2
 at2:∀p,v2=some p→h0.size≤p.1∧lvAt h Lx Ly ux uy p.1 p.2
 dis:∀p q,v1=some p→v2=some q→p.1≠q.1
theorem LnMk.start (h:Heap)(Lx Ly:Int×List Int):LnMk h Lx Ly none none none none h:=⟨Ext.refl _,by simp,by simp,by simp,by simp,by simp⟩
theorem LnMk.line_x {h0 h:Heap}{uy:Option Value}{v1 v2:LV}{Ly:Int×List Int}{Z:Nat→Prop}{p:Value}{t:Tbl}{x:Int}{K:Value→Heap→Prop}(M:LnMk h0 (lineT t x) Ly none uy v1 v2 h)(T:IsTbl Z h0 p t)(W:t.Wf)
  (H:∀u h',LnMk h0 (lineT t x) Ly (some u) uy v1 v2 h'→K (.agg #[.int .i64 (lineT t x).1,u]) h'):FCall prog zai #[p,.int .i64 x] h K:=by
 refine(zog (T.ext M.ext) W (i:=x)).mono fun r h' ⟨u,e,S,E⟩=>?_
 subst e
 have hv:∀(v:LV),(∀p,v=some p→h0.size≤p.1∧lvAt h (lineT t x) Ly none uy p.1 p.2)→∀p,v=some p→h0.size≤p.1∧lvAt h' (lineT t x) Ly (some u) uy p.1 p.2:=fun v a p hp=>
  ⟨(a p hp).1,(a p hp).2.up (E.2 _ (a p hp).2.row) (by simp) fun _=>id⟩
 refine H u h' ⟨M.ext.trans E,fun w hw=>?_,fun w hw=>(M.ly w hw).ext E,hv _ M.at1,hv _ M.at2,M.dis⟩
 cases hw
 refine S.mono fun c _ hz=>⟨fun p hp he=>?_,fun p hp he=>?_⟩
 ·have:=(M.at1 p hp).2.row;omega
 ·have:=(M.at2 p hp).2.row;omega
theorem LnMk.line_y {h0 h:Heap}{ux:Option Value}{v1 v2:LV}{Lx:Int×List Int}{Z:Nat→Prop}{p:Value}{t:Tbl}{x:Int}{K:Value→Heap→Prop}(M:LnMk h0 Lx (lineT t x) ux none v1 v2 h)(T:IsTbl Z h0 p t)(W:t.Wf)
  (H:∀u h',LnMk h0 Lx (lineT t x) ux (some u) v1 v2 h'→K (.agg #[.int .i64 (lineT t x).1,u]) h'):FCall prog zai #[p,.int .i64 x] h K:=by
 refine(zog (T.ext M.ext) W (i:=x)).mono fun r h' ⟨u,e,S,E⟩=>?_
 subst e
 have hv:∀(v:LV),(∀p,v=some p→h0.size≤p.1∧lvAt h Lx (lineT t x) ux none p.1 p.2)→∀p,v=some p→h0.size≤p.1∧lvAt h' Lx (lineT t x) ux (some u) p.1 p.2:=fun v a p hp=>
  ⟨(a p hp).1,(a p hp).2.up (E.2 _ (a p hp).2.row) (fun _=>id) (by simp)⟩
 refine H u h' ⟨M.ext.trans E,fun w hw=>(M.lx w hw).ext E,fun w hw=>?_,hv _ M.at1,hv _ M.at2,M.dis⟩
 cases hw
 refine S.mono fun c _ hz=>⟨fun p hp he=>?_,fun p hp he=>?_⟩
 ·have:=(M.at1 p hp).2.row;omega
 ·have:=(M.at2 p hp).2.row;omega
theorem LnMk.new_1 {h0 h:Heap}{Lx Ly:Int×List Int}{ux uy:Option Value}{K:Value→Heap→Prop}(M:LnMk h0 Lx Ly ux uy none none h)
  (H:∀b h',LnMk h0 Lx Ly ux uy (some (b,none)) none h'→K (ptr b) h'):newK zeroL 235 h K:=by
 refine zag fun b h' r e n=>H b h' ⟨M.ext.trans e,fun u hu=>?_,fun u hu=>?_,fun p hp=>?_,by simp,by simp⟩
 ·exact((M.lx u hu).mono (Z':=apart (some (b,none)) none) fun c hc _=>⟨fun p hp=>by cases hp;show b≠c;omega,by simp⟩).ext e
 ·exact((M.ly u hu).mono (Z':=apart (some (b,none)) none) fun c hc _=>⟨fun p hp=>by cases hp;show b≠c;omega,by simp⟩).ext e
 ·cases hp;exact⟨Nat.le_trans M.ext.1 n,r⟩
theorem LnMk.new_2 {h0 h:Heap}{Lx Ly:Int×List Int}{ux uy:Option Value}{a:Nat}{K:Value→Heap→Prop}(M:LnMk h0 Lx Ly ux uy (some (a,none)) none h)
  (H:∀b h',LnMk h0 Lx Ly ux uy (some (a,none)) (some (b,none)) h'→K (ptr b) h'):newK zeroL 235 h K:=by
 have a1:=M.at1 _ rfl
 have al:a<h.size:=a1.2.row
 refine zag fun b h' r e n=>H b h' ⟨M.ext.trans e,fun u hu=>?_,fun u hu=>?_,fun p hp=>?_,fun p hp=>?_,fun p q hp hq=>?_⟩
 ·exact((M.lx u hu).mono (Z':=apart (some (a,none)) (some (b,none))) fun c hc hz=>⟨hz.1,fun p hp=>by cases hp;show b≠c;omega⟩).ext e
 ·exact((M.ly u hu).mono (Z':=apart (some (a,none)) (some (b,none))) fun c hc hz=>⟨hz.1,fun p hp=>by cases hp;show b≠c;omega⟩).ext e
 ·cases hp;exact⟨a1.1,a1.2.up (e.2 _ al) (fun _=>id) fun _=>id⟩
 ·cases hp;exact⟨Nat.le_trans M.ext.1 n,r⟩
 ·cases hp;cases hq;show a≠b;omega
theorem LnMk.st {h0 h:Heap}{Lx Ly:Int×List Int}{ux uy:Option Value}{v1 v2 v1' v2':LV}{b:Nat}{f:Bool}{l:List Value}{K:Value→Heap→Prop}(M:LnMk h0 Lx Ly ux uy v1 v2 h)(hr:h[b]? =some (.cells zeroL 235 (0,0)))(hn:h0.size≤b)
  (hl:l.length=2) (ho:∀v∈l,zam v=true) (hf:∀h',h'[b]? =some (.cells l.toArray 235 (0,0))→lvAt h' Lx Ly ux uy b (some f))
  (h1:(v1=some (b,none)∧v1'=some (b,some f)∧v2'=v2∧∀q,v2=some q→q.1≠b)∨(v2=some (b,none)∧v2'=some (b,some f)∧v1'=v1∧∀q,v1=some q→q.1≠b))
  (H:∀h',LnMk h0 Lx Ly ux uy v1' v2' h'→K undef h'):stK 2 (ptr b) (.agg l.toArray) h K:=by
 refine zbA hr (by rw[hl];rfl) ho hl fun h' r u=>H h' ?_
 have E:=M.ext.upd hn u
 have keep:∀{v:LV},(∀p,v=some p→h0.size≤p.1∧lvAt h Lx Ly ux uy p.1 p.2)→(∀q,v=some q→q.1≠b)→∀p,v=some p→h0.size≤p.1∧lvAt h' Lx Ly ux uy p.1 p.2:=fun a d p hp=>⟨(a p hp).1,(a p hp).2.up (u.2 _ (d p hp)) (fun _=>id) fun _=>id⟩
 rcases h1 with⟨rfl,rfl,rfl,d⟩|⟨rfl,rfl,rfl,d⟩
 ·have za:∀c,apart (some (b,none)) v2' c→¬c=b:=fun c hc he=>hc.1 _ rfl he.symm
  have zb:∀c,apart (some (b,none)) v2' c→apart (some (b,some f)) v2' c:=fun c hc=>⟨fun p hp=>by cases hp;exact hc.1 (b,none) rfl,hc.2⟩
  refine⟨E,fun w hw=>((M.lx w hw).fr u.fr fun c _=>za c).mono fun c _=>zb c,fun w hw=>((M.ly w hw).fr u.fr fun c _=>za c).mono fun c _=>zb c,fun p hp=>?_,keep M.at2 d,fun p q hp hq=>?_⟩
  ·cases hp;exact⟨hn,hf h' r⟩
  ·cases hp;exact fun he=>d q hq he.symm
 ·have za:∀c,apart v1' (some (b,none)) c→¬c=b:=fun c hc he=>hc.2 _ rfl he.symm
  have zb:∀c,apart v1' (some (b,none)) c→apart v1' (some (b,some f)) c:=fun c hc=>⟨hc.1,fun p hp=>by cases hp;exact hc.2 (b,none) rfl⟩
  refine⟨E,fun w hw=>((M.lx w hw).fr u.fr fun c _=>za c).mono fun c _=>zb c,fun w hw=>((M.ly w hw).fr u.fr fun c _=>za c).mono fun c _=>zb c,keep M.at1 d,fun p hp=>?_,fun p q hp hq=>?_⟩
  ·cases hp;exact⟨hn,hf h' r⟩
  ·cases hq;exact d p hp
theorem LnMk.st1x {h0 h:Heap}{Lx Ly:Int×List Int}{u:Value}{uy:Option Value}{v2:LV}{b:Nat}{K:Value→Heap→Prop}(M:LnMk h0 Lx Ly (some u) uy (some (b,none)) v2 h)
  (H:∀h',LnMk h0 Lx Ly (some u) uy (some (b,some true)) v2 h'→K undef h'):stK 2 (ptr b) (.agg #[.int .i64 Lx.1,u]) h K:=
 M.st (f:=true) (l:=[.int .i64 Lx.1,u]) (M.at1 _ rfl).2 (M.at1 _ rfl).1 rfl (zad rfl (zad (M.lx u rfl).one zaq)) (fun h' r=>⟨u,rfl,r⟩) (.inl ⟨rfl,rfl,rfl,fun q hq he=>M.dis _ _ rfl hq he.symm⟩) H
theorem LnMk.st2x {h0 h:Heap}{Lx Ly:Int×List Int}{u:Value}{uy:Option Value}{v1:LV}{b:Nat}{K:Value→Heap→Prop}(M:LnMk h0 Lx Ly (some u) uy v1 (some (b,none)) h)
  (H:∀h',LnMk h0 Lx Ly (some u) uy v1 (some (b,some true)) h'→K undef h'):stK 2 (ptr b) (.agg #[.int .i64 Lx.1,u]) h K:=
 M.st (f:=true) (l:=[.int .i64 Lx.1,u]) (M.at2 _ rfl).2 (M.at2 _ rfl).1 rfl (zad rfl (zad (M.lx u rfl).one zaq)) (fun h' r=>⟨u,rfl,r⟩) (.inr ⟨rfl,rfl,rfl,fun q hq=>M.dis _ _ hq rfl⟩) H
theorem LnMk.st1y {h0 h:Heap}{Lx Ly:Int×List Int}{u:Value}{ux:Option Value}{v2:LV}{b:Nat}{K:Value→Heap→Prop}(M:LnMk h0 Lx Ly ux (some u) (some (b,none)) v2 h)
  (H:∀h',LnMk h0 Lx Ly ux (some u) (some (b,some false)) v2 h'→K undef h'):stK 2 (ptr b) (.agg #[.int .i64 Ly.1,u]) h K:=
 M.st (f:=false) (l:=[.int .i64 Ly.1,u]) (M.at1 _ rfl).2 (M.at1 _ rfl).1 rfl (zad rfl (zad (M.ly u rfl).one zaq)) (fun h' r=>⟨u,rfl,r⟩) (.inl ⟨rfl,rfl,rfl,fun q hq he=>M.dis _ _ rfl hq he.symm⟩) H
theorem LnMk.st2y {h0 h:Heap}{Lx Ly:Int×List Int}{u:Value}{ux:Option Value}{v1:LV}{b:Nat}{K:Value→Heap→Prop}(M:LnMk h0 Lx Ly ux (some u) v1 (some (b,none)) h)
  (H:∀h',LnMk h0 Lx Ly ux (some u) v1 (some (b,some false)) h'→K undef h'):stK 2 (ptr b) (.agg #[.int .i64 Ly.1,u]) h K:=
 M.st (f:=false) (l:=[.int .i64 Ly.1,u]) (M.at2 _ rfl).2 (M.at2 _ rfl).1 rfl (zad rfl (zad (M.ly u rfl).one zaq)) (fun h' r=>⟨u,rfl,r⟩) (.inr ⟨rfl,rfl,rfl,fun q hq=>M.dis _ _ hq rfl⟩) H
def Both (h0:Heap)(Lx Ly:Int×List Int)(xs:List Value)(h:Heap):Prop:=∃a b u w,xs=[ptr a,ptr b]∧Ext h0 h∧Two h a 235 (.int .i64 Lx.1) u∧Two h b 235 (.int .i64 Ly.1) w∧SlI (fun _=>True) h u Lx.2∧SlI (fun _=>True) h w Ly.2
theorem LnMk.fin {h0 h:Heap}{Lx Ly:Int×List Int}{u w:Value}{a b:Nat}(M:LnMk h0 Lx Ly (some u) (some w) (some (a,some true)) (some (b,some false)) h):Both h0 Lx Ly [ptr a,ptr b] h:=by
 obtain⟨_,u',e1,r1⟩:=M.at1 _ rfl
 obtain⟨_,w',e2,r2⟩:=M.at2 _ rfl
 cases e1;cases e2
 exact⟨a,b,u,w,rfl,M.ext,r1,r2,(M.lx u rfl).mono fun _ _ _=>trivial,(M.ly w rfl).mono fun _ _ _=>trivial⟩
theorem LnMk.fin2 {h0 h:Heap}{Lx Ly:Int×List Int}{u w:Value}{a b:Nat}(M:LnMk h0 Lx Ly (some u) (some w) (some (b,some false)) (some (a,some true)) h):Both h0 Lx Ly [ptr a,ptr b] h:=by
 obtain⟨_,w',e2,r2⟩:=M.at1 _ rfl
 obtain⟨_,u',e1,r1⟩:=M.at2 _ rfl
 cases e1;cases e2
 exact⟨a,b,u,w,rfl,M.ext,r1,r2,(M.lx u rfl).mono fun _ _ _=>trivial,(M.ly w rfl).mono fun _ _ _=>trivial⟩
theorem zh2 {t:Tbl}(W:t.Wf)(i:Int):(lineT t i).2.length≤1048576∧ -70368744177664≤(lineT t i).1∧(lineT t i).1≤70368744177664:=by
 unfold lineT
 split
 ·by_cases h:i.toNat<t.lines.length
  ·have e:t.lines.getD i.toNat (0,[])=t.lines[i.toNat]:=by simp[List.getD_eq_getElem?_getD,h]
   rw[e]
   exact W.taps _ (List.getElem_mem h)
  ·have e:t.lines.getD i.toNat (0,[])=(0,[]):=by simp[List.getD_eq_getElem?_getD,Nat.le_of_not_lt h]
   rw[e];simp
 ·simp
theorem atP_bd {m:Pic}(W:m.Wf)(x y c:Int):0≤atP m x y c∧atP m x y c≤m.most:=by
 have:=W.m1
 unfold atP
 split
 ·rename_i h
  by_cases hi:(posP m x y c).toNat<m.l.length
  ·have e:m.l.getD (posP m x y c).toNat 0=m.l[(posP m x y c).toNat]:=by simp[List.getD_eq_getElem?_getD,hi]
   rw[e]
   exact W.smp _ (List.getElem_mem hi)
  ·have e:m.l.getD (posP m x y c).toNat 0=0:=by simp[List.getD_eq_getElem?_getD,Nat.le_of_not_lt hi]
   rw[e];omega
 ·omega
theorem c_Sum {h:Heap}(G:GlobB h){Z:Nat→Prop}{b:Nat}{v sv:Value}{m:Pic}{s:Stg}(H:IsImg h b v m)(W:m.Wf)(HS:IsStg Z h sv s)(WS:s.Wf)(hs:zhp m s){x y c:Int}(hc:0≤c∧c<m.c):
  FCall prog zjO #[ptr b,sv,.int .i64 x,.int .i64 y,.int .i64 c] h fun r h'=>r=.int .i64 (IntKind.i64.wrap (totZ m s x y c))∧Ext h h':=by
 apply zso
 unfold zl5
 obtain⟨p,q,rfl,hp,hq,ones⟩:=zcM HS
 simp only[zaB]
 refine zag fun b1 h1 r1 e1 n1=>?_
 rw[zap (l:=[p,q,.int .i64 s.border]) r1 3 rfl,zaa]
 refine(zpX (G.ext e1) (H.ext e1) (HS.ext e1)).mono fun r h2 ⟨e,e2⟩=>?_
 subst e
 rw[decide_eq_true hs]
 have hcn:(c<0)=False:=eq_false (by omega)
 simp only[go_sem,hcn]
 have H2:=H.ext (e1.trans e2)
 refine(zbH H2).mono fun r h3 ⟨e,wq⟩=>?_
 have wq:=wq.symm
 subst e wq
 simp only[go_sem]
 rw[decide_eq_false (by omega),zbo]
 have r2:=e2.row r1
 have p2:=hp.ext (e1.trans e2)
 have q2:=hq.ext (e1.trans e2)
 refine zar (Both h2 (lineT s.x x) (lineT s.y y)) ?_ ?_
 ·try simp only[go_sem,Nat.zero_add]
  refine zaj (Ext h2) (Ext.refl _) ?_
  refine zae p (fun h' e=>zab (e.row r2)) ?_
  refine zae q (fun h' e=>zab (e.row r2)) ?_
  have M0:=LnMk.start h2 (lineT s.x x) (lineT s.y y)
  have wx:=WS.x
  have wy:=WS.y
  repeat' first
   |exact LnMk.fin ‹LnMk _ _ _ _ _ _ _ _›
   |exact LnMk.fin2 ‹LnMk _ _ _ _ _ _ _ _›
   |exact LnMk.ext ‹LnMk _ _ _ _ _ _ _ _›
   |refine And.intro ?_ ?_
   |refine LnMk.line_x ‹LnMk _ _ _ _ _ _ _ _› p2 wx fun u' h' M=>?_
   |refine LnMk.line_y ‹LnMk _ _ _ _ _ _ _ _› q2 wy fun u' h' M=>?_
   |refine LnMk.new_1 ‹LnMk _ _ _ _ _ _ _ _› fun b' h' M=>?_
   |refine LnMk.new_2 ‹LnMk _ _ _ _ _ _ _ _› fun b' h' M=>?_
   |refine LnMk.st1x ‹LnMk _ _ _ _ _ _ _ _› fun h' M=>?_
   |refine LnMk.st2x ‹LnMk _ _ _ _ _ _ _ _› fun h' M=>?_
   |refine LnMk.st1y ‹LnMk _ _ _ _ _ _ _ _› fun h' M=>?_
   |refine LnMk.st2y ‹LnMk _ _ _ _ _ _ _ _› fun h' M=>?_
 rintro xs ρj h3 ⟨a,d,u,w,rfl,e3,ra,rd,Su,Sw⟩
 have bx:=zh2 WS.x x
 have by':=zh2 WS.y y
 unfold totZ
 unfold zh9
 generalize lineT s.x x=Lx at*
 generalize lineT s.y y=Ly at*
 have hf:=zbv W.fits
 have c1:zah h3 ⟨d,1,none⟩=some w:=zab rd
 obtain⟨aw,cw,ew⟩:=Sw.isSl
 have ew2:zaf w=some (.int .i64 (Ly.2.length:Int)):=by rw[ew];rfl
 obtain⟨au,cu,eu⟩:=Su.isSl
 have eu2:zaf u=some (.int .i64 (Lx.2.length:Int)):=by rw[eu];rfl
 simp only[go_sem,Nat.zero_add,c1,ew2]
 refine zeh (fun k=>[.int .i64 (IntKind.i64.wrap (sumN (fun k=>Ly.2.getD k 0*sumN (fun i=>Lx.2.getD i 0*atP m (atZ s.border (Lx.1+i) m.w) (atZ s.border (Ly.1+k) m.h) c) Lx.2.length) k)),.int .i64 (k:Int)]) Ly.2.length 0 rfl (Nat.zero_le _) fun k again ρk _ hk Hag=>?_
 simp only[go_sem]
 refine zac (fun h4=>?_) (fun h4=>?_)
 ·have hk':k<Ly.2.length:=by omega
  have Hag:=Hag hk'
  obtain⟨pk,k1,k2⟩:=Sw.int_at (k':=.i64) hk'
  have eb:Ly.2.getD k 0=Ly.2[k]:=by simp[List.getD_eq_getElem?_getD,hk']
  rw[k1,zaa,k2,zaa,←eb]
  have rs:=e3.row r2
  refine zaj (fun h'=>h'=h3) rfl ?_
  simp only[go_sem,Nat.zero_add]
  refine zae (.int .i64 s.border) (fun h' e=>by rw[e];exact zab rs) ?_
  refine zae (.int .i64 Ly.1) (fun h' e=>by rw[e];exact zab rd) ?_
  simp only[go_sem]
  rw[w64 (n:=Ly.1+(k:Int)) (by omega) (by omega)]
  have H3:=H2.ext e3
  refine(zgZ H3).mono fun r h5 ⟨e,wq⟩=>?_
  have wq:=wq.symm
  subst e wq
  refine⟨rfl,?_⟩
  refine(zhM (by unfold I64;omega)).mono fun r h5 ⟨e,wq⟩=>?_
  have wq:=wq.symm
  subst e wq
  have c2:zah h3 ⟨a,1,none⟩=some u:=zab ra
  simp only[go_sem,Nat.zero_add,c2,eu2]
  generalize hrow:atZ s.border (Ly.1+(k:Int)) m.h=row at*
  generalize hA:sumN (fun k=>Ly.2.getD k 0*sumN (fun i=>Lx.2.getD i 0*atP m (atZ s.border (Lx.1+i) m.w) (atZ s.border (Ly.1+k) m.h) c) Lx.2.length) k=A at*
  have hA1:sumN (fun k=>Ly.2.getD k 0*sumN (fun i=>Lx.2.getD i 0*atP m (atZ s.border (Lx.1+i) m.w) (atZ s.border (Ly.1+k) m.h) c) Lx.2.length) (k+1)=A+Ly.2.getD k 0*sumN (fun i=>Lx.2.getD i 0*atP m (atZ s.border (Lx.1+i) m.w) row c) Lx.2.length:=by
   simp only[sumN]
   rw[hA,hrow]
  rw[hA1]at Hag
  generalize Ly.2.getD k 0=bk at*
  refine zeh (fun i=>[.int .i64 (IntKind.i64.wrap (A+bk*sumN (fun i=>Lx.2.getD i 0*atP m (atZ s.border (Lx.1+i) m.w) row c) i)),.int .i64 (i:Int)]) Lx.2.length 0 (by simp[sumN]) (Nat.zero_le _) fun i again2 ρi _ hi Hag2=>?_
  simp only[go_sem]
  refine zac (fun h5=>?_) (fun h5=>?_)
  ·have hi':i<Lx.2.length:=by omega
   have Hag2:=Hag2 hi'
   obtain⟨pi,i1,i2⟩:=Su.int_at (k':=.i64) hi'
   have ea:Lx.2.getD i 0=Lx.2[i]:=by simp[List.getD_eq_getElem?_getD,hi']
   rw[i1,zaa,i2,zaa,←ea]
   refine zaj (fun h'=>h'=h3) rfl ?_
   simp only[go_sem,Nat.zero_add]
   refine zae (.int .i64 s.border) (fun h' e=>by rw[e];exact zab rs) ?_
   refine zae (.int .i64 Lx.1) (fun h' e=>by rw[e];exact zab ra) ?_
   simp only[go_sem]
   rw[w64 (n:=Lx.1+(i:Int)) (by omega) (by omega)]
   refine(zh7 H3).mono fun r h5 ⟨e,wq⟩=>?_
   have wq:=wq.symm
   subst e wq
   refine⟨rfl,?_⟩
   refine(zhM (by unfold I64;omega)).mono fun r h5 ⟨e,wq⟩=>?_
   have wq:=wq.symm
   subst e wq
   try simp only[go_sem]
   refine(c_At H3 W).mono fun r h5 ⟨e,wq⟩=>?_
   have wq:=wq.symm
   subst e wq
   have hv:=atP_bd W (atZ s.border (Lx.1+(i:Int)) m.w) row c
   have hm:=W.m2
   simp only[go_sem]
   rw[w64 (n:=atP m (atZ s.border (Lx.1+(i:Int)) m.w) row c) (by omega) (by omega),wrap_step3,w64 (n:=(i:Int)+1) (by omega) (by omega)]
   simp only[sumN,Int.mul_add]at Hag2
   rw[←Int.add_assoc]at Hag2
   exact Hag2
  ·have:i=Lx.2.length:=by omega
   subst this
   rw[w64 (n:=(k:Int)+1) (by omega) (by omega)]
   exact Hag
 ·have:k=Ly.2.length:=by omega
  subst this
  exact⟨rfl,e1.trans (e2.trans e3)⟩
theorem zmT {A B C c d:Int}(h:A*C+c=B*C+d)(c0:0≤c)(c1:c<C)(d0:0≤d)(d1:d<C):A=B∧c=d:=by
 have e1:(c+A*C)/C=A:=by rw[Int.add_mul_ediv_right _ _ (by omega),Int.ediv_eq_zero_of_lt c0 c1];omega
 have e2:(d+B*C)/C=B:=by rw[Int.add_mul_ediv_right _ _ (by omega),Int.ediv_eq_zero_of_lt d0 d1];omega
 have e3:c+A*C=d+B*C:=by omega
 rw[e3,e2]at e1
 refine⟨e1.symm,?_⟩
 subst e1
 omega
theorem pos_inj {m:Pic}{x y c x' y' c':Int}(h:inP m x y c)(h':inP m x' y' c')(e:posP m x y c=posP m x' y' c'):x=x'∧y=y'∧c=c':=by
 obtain⟨x0,x1,y0,y1,c0,c1⟩:=h
 obtain⟨x0',x1',y0',y1',c0',c1'⟩:=h'
 unfold posP at e
 obtain⟨e1,e2⟩:=zmT e c0 c1 c0' c1'
 obtain⟨e3,e4⟩:=zmT e1 x0 x1 x0' x1'
 exact⟨e4,e3,e2⟩
theorem atP_setP {m:Pic}(W:m.Wf){x y c n x' y' c':Int}(h:inP m x y c):atP (setP m x y c n) x' y' c'=if x'=x∧y'=y∧c'=c then n else atP m x' y' c':=by
 have hp:=pos_bd W h
 by_cases hi:inP m x' y' c'
 ·have hp':=pos_bd W hi
  have hi2:inP (setP m x y c n) x' y' c':=hi
  unfold atP
  rw[if_pos hi2,if_pos hi]
  show(m.l.set (posP m x y c).toNat n).getD (posP m x' y' c').toNat 0=_
  by_cases he:x'=x∧y'=y∧c'=c
  ·rw[if_pos he]
   obtain⟨rfl,rfl,rfl⟩:=he
   have:(posP m x' y' c').toNat<m.l.length:=by omega
   simp[List.getD_eq_getElem?_getD,this]
  ·rw[if_neg he]
   have hne:(posP m x y c).toNat≠(posP m x' y' c').toNat:=fun hh=>he (by
    obtain⟨a,b,d⟩:=pos_inj hi h (by omega)
    exact⟨a,b,d⟩)
   simp[List.getD_eq_getElem?_getD,List.getElem?_set_ne hne]
 ·have hi2:¬inP (setP m x y c n) x' y' c':=hi
  have he:¬(x'=x∧y'=y∧c'=c):=by rintro⟨rfl,rfl,rfl⟩;exact hi h
  unfold atP
  rw[if_neg hi2,if_neg hi,if_neg he]
def ahead (x y c x' y' c':Int):Prop:=y'<y∨(y'=y∧(x'<x∨(x'=x∧c'<c)))
structure Made (h0 h:Heap)(b:Nat)(v:Value)(n:Pic)(w hh c most:Int):Prop where
 img:IsImg h b v n
 wf:n.Wf
 pw:n.w=w
 ph:n.h=hh
 pc:n.c=c
 pm:n.most=most
 ext:Ext h0 h
 nb:h0.size≤b
 nv:∀c,blk v c→h0.size≤c
theorem Made.before {h1 h0 h:Heap}{b:Nat}{v:Value}{n:Pic}{w hh c most:Int}(M:Made h0 h b v n w hh c most)(e:Ext h1 h0):Made h1 h b v n w hh c most:=
 ⟨M.img,M.wf,M.pw,M.ph,M.pc,M.pm,e.trans M.ext,Nat.le_trans e.1 M.nb,fun c hc=>Nat.le_trans e.1 (M.nv c hc)⟩
theorem c_Apply {h:Heap}(G:GlobB h){Z:Nat→Prop}{b:Nat}{v sv:Value}{m:Pic}{s:Stg}(H:IsImg h b v m)(W:m.Wf)(HS:IsStg Z h sv s)(WS:s.Wf)(hs:zhp m s)(hfit:fitsZ s.x.lines.length s.y.lines.length m.c):
  FCall prog zhj #[ptr b,sv] h fun r h'=>∃b' v' n,r=.tuple #[ptr b',.int .i64 0]∧Made h h' b' v' n s.x.lines.length s.y.lines.length m.c m.most∧∀x y c,inP n x y c→atP n x y c=pixZ m s x y c:=by
 apply zpr
 unfold zjf
 obtain⟨p,q,rfl,hp,hq,ones⟩:=zcM HS
 simp only[zaB]
 refine zag fun b1 h1 r1 e1 n1=>?_
 rw[zap (l:=[p,q,.int .i64 s.border]) r1 3 rfl,zaa]
 refine(zpX (G.ext e1) (H.ext e1) (HS.ext e1)).mono fun r h2 ⟨e,e2⟩=>?_
 subst e
 rw[decide_eq_true hs]
 simp only[go_sem,Nat.zero_add]
 have e12:=e1.trans e2
 have r2:=e2.row r1
 refine zaj (Ext h2) (Ext.refl _) ?_
 refine zae p (fun h' e=>zab (e.row r2)) ?_
 refine zae q (fun h' e=>zab (e.row r2)) ?_
 refine(c_To (hp.ext e12)).mono fun r h3 ⟨e,wq⟩=>?_
 have wq:=wq.symm
 subst e wq
 refine⟨Ext.refl _,?_⟩
 refine(c_To (hq.ext e12)).mono fun r h3 ⟨e,wq⟩=>?_
 have wq:=wq.symm
 subst e wq
 refine(zbH (H.ext e12)).mono fun r h3 ⟨e,wq⟩=>?_
 have wq:=wq.symm
 subst e wq
 refine(zhL (H.ext e12)).mono fun r h3 ⟨e,wq⟩=>?_
 have wq:=wq.symm
 subst e wq
 have hc0:imgC s.x.lines.length s.y.lines.length m.c m.most=0:=zjx.2 ⟨hfit,W.m1,W.m2⟩
 refine zjY.mono fun r h3 ⟨pp,e,e3,_,s3⟩=>?_
 subst e
 obtain⟨nb,nv,rfl,I,nbn,nvn,_⟩:=s3 hc0
 have hz:((0:Int)=0)=True:=eq_true rfl
 rw[hc0]
 simp only[go_sem,hz]
 refine(zgZ I).mono fun r h4 ⟨e,wq⟩=>?_
 have wq:=wq.symm
 subst e wq
 have hm1:=W.m1
 have hm2:=W.m2
 have M0:Made h2 h3 nb nv (imgN s.x.lines.length s.y.lines.length m.c m.most) s.x.lines.length s.y.lines.length m.c m.most:=⟨I,znn hc0,rfl,rfl,rfl,rfl,e3,nbn,nvn⟩
 obtain⟨X,hX⟩:∃X,X=s.x.lines.length:=⟨_,rfl⟩
 obtain⟨Y,hY⟩:∃Y,Y=s.y.lines.length:=⟨_,rfl⟩
 rw[←hX,←hY]at M0 hfit ⊢
 have hf:=zbv hfit
 obtain⟨C,hC⟩:∃C:Nat,m.c=(C:Int):=⟨m.c.toNat,by omega⟩
 rw[show(imgN (X:Int) (Y:Int) m.c m.most).h=(Y:Int)from rfl]
 -- what holds at a place of the walk
 refine zaF (α:=Pic) Y 0 (fun y _=>[.int .i64 (y:Int)]) (fun y n h'=>Made h2 h' nb nv n X Y m.c m.most∧∀x' y' c',inP n x' y' c'→ahead 0 y 0 x' y' c'→atP n x' y' c'=pixZ m s x' y' c') _ rfl (Nat.zero_le _)
  ⟨M0,fun x' y' c' hi ha=>by unfold ahead inP at*;omega⟩ fun y n h4 again ρ1 _ hy ⟨M,D⟩ Hag=>?_
 simp only[go_sem]
 refine zac (fun h5=>?_) (fun h5=>?_)
 ·refine(zh7 M.img).mono fun r h5 ⟨e,wq⟩=>?_
  have wq:=wq.symm
  subst e wq
  rw[M.pw]
  refine zaF (α:=Pic) X 0 (fun x _=>[.int .i64 (x:Int)]) (fun x n h'=>Made h2 h' nb nv n X Y m.c m.most∧∀x' y' c',inP n x' y' c'→ahead x y 0 x' y' c'→atP n x' y' c'=pixZ m s x' y' c') n rfl (Nat.zero_le _)
   ⟨M,D⟩ fun x n h5 again2 ρ2 _ hx ⟨M,D⟩ Hag2=>?_
  simp only[go_sem]
  refine zac (fun h6=>?_) (fun h6=>?_)
  ·refine(zbH M.img).mono fun r h6 ⟨e,wq⟩=>?_
   have wq:=wq.symm
   subst e wq
   rw[M.pc,hC]
   refine zaF (α:=Pic) C 0 (fun c _=>[.int .i64 (c:Int)]) (fun c n h'=>Made h2 h' nb nv n X Y m.c m.most∧∀x' y' c',inP n x' y' c'→ahead x y c x' y' c'→atP n x' y' c'=pixZ m s x' y' c') n rfl (Nat.zero_le _)
    ⟨M,D⟩ fun c n h6 again3 ρ3 _ hc ⟨M,D⟩ Hag3=>?_
   simp only[go_sem]
   refine zac (fun h7=>?_) (fun h7=>?_)
   ·rw[zap (l:=[p,q,.int .i64 s.border]) (M.ext.row r2) 3 rfl,zaa]
    have E0:=e12.trans M.ext
    refine(c_Sum (G.ext E0) (H.ext E0) W (HS.ext E0) WS hs (x:=x) (y:=y) (c:=c) (by omega)).mono fun r h8 ⟨e,e8⟩=>?_
    subst e
    have E8:=E0.trans e8
    refine(zhL (H.ext E8)).mono fun r h9 ⟨e,wq⟩=>?_
    have wq:=wq.symm
    subst e wq
    refine(c_Round (zdn _)).mono fun r h9 ⟨e,wq⟩=>?_
    have wq:=wq.symm
    subst e wq
    have hr:=roundZ_bd (IntKind.i64.wrap (totZ m s x y c)) (most:=m.most) (by omega)
    have Mi:=M.img.ext e8
    refine(c_Set Mi M.wf hr.1 hr.2.1).mono fun r h10 ⟨e,I10,f10,s10⟩=>?_
    subst e
    have hin:inP n x y c:=⟨by omega,by rw[M.pw];omega,by omega,by rw[M.ph];omega,by omega,by rw[M.pc];omega⟩
    have hset:inP n x y c∧zmc (IntKind.i64.wrap (totZ m s x y c)) m.most≤n.most:=⟨hin,by rw[M.pm];omega⟩
    rw[if_pos hset]at I10
    have E10:Ext h2 h10:=(M.ext.trans e8).then_fr f10 M.nv
    try simp only[go_sem]
    rw[w64 (by omega) (by omega)]
    refine Hag3 (setP n x y c (zmc (IntKind.i64.wrap (totZ m s x y c)) m.most)) h10 (by omega) ⟨⟨I10,setP_Wf M.wf hr.1 hset.2,M.pw,M.ph,M.pc,M.pm,E10,M.nb,M.nv⟩,fun x' y' c' hi ha=>?_⟩
    rw[atP_setP M.wf hin]
    by_cases he:x'=x∧y'=y∧c'=c
    ·rw[if_pos he,he.1,he.2.1,he.2.2];rfl
    ·rw[if_neg he]
     exact D x' y' c' hi (by unfold ahead at*;omega)
   ·have:c=C:=by omega
    subst this
    rw[w64 (by omega) (by omega)]
    refine Hag2 n h6 (by omega) ⟨M,fun x' y' c' hi ha=>D x' y' c' hi ?_⟩
    have h1:=M.pc
    unfold ahead inP at*
    omega
  ·have:x=X:=by omega
   subst this
   rw[w64 (by omega) (by omega)]
   refine Hag n h5 (by omega) ⟨M,fun x' y' c' hi ha=>D x' y' c' hi ?_⟩
   have h1:=M.pw
   unfold ahead inP at*
   omega
 ·have:y=Y:=by omega
  subst this
  refine⟨nb,nv,n,rfl,M.before e12,fun x' y' c' hi=>D x' y' c' hi ?_⟩
  have h1:=M.ph
  unfold ahead inP at*
  omega
theorem zqT (f n:Int){m:Int}(hm:zav m):(zb8 f n m).Wf:=by
 unfold zav at hm
 refine⟨?_,fun x hx=>?_⟩
 ·show(List.map _ (List.range m.toNat)).length≤65536
  rw[List.length_map,List.length_range];omega
 ·obtain⟨i,_,rfl⟩:=List.mem_map.1 hx
  have hb:=zfL (zhH f n m i)
  refine⟨hb.1,?_⟩
  show _≤zbD f n m i∧zbD f n m i≤_
  unfold zbD
  split
  ·rename_i h
   have:=low_bd h
   omega
  ·omega
theorem zq9 {l:List Int}(h64:∀x∈l,I64 x)(hl:l.length≤1024){n:Int}(hn:zav n):(zej l n).Wf:=by
 unfold zav at hn
 refine⟨?_,fun x hx=>?_⟩
 ·show(List.map _ (List.range n.toNat)).length≤65536
  rw[List.length_map,List.length_range];omega
 ·obtain⟨i,hi,rfl⟩:=List.mem_map.1 hx
  have hb:=zfL h64
  have:=List.mem_range.1 hi
  refine⟨hb.1,?_⟩
  show _≤(i:Int)-(l.length/2:Nat)∧(i:Int)-(l.length/2:Nat)≤_
  omega
theorem zkU (o:OpD):(zbc o).length≤1024∧(zbm o).length≤1024:=by
 have:=znq o.sigma
 have:=zp0 o.radius
 have:=ziV o.x
 have:=ziV o.y
 unfold zbc zbm
 constructor<;>split<;>(try split)<;>omega
theorem zjW {o:OpD}{w h:Int}(hc:makeC o w h=0):(makeS o w h).Wf∧opMay o∧zav w∧zav h:=by
 unfold makeC at hc
 split at hc
 ·cases hc
 ·rename_i hn
  have h1:opMay o:=Decidable.of_not_not fun hh=>hn (.inl hh)
  have h2:zav w:=Decidable.of_not_not fun hh=>hn (.inr (.inl hh))
  have h3:zav h:=Decidable.of_not_not fun hh=>hn (.inr (.inr hh))
  refine⟨⟨?_,?_⟩,h1,h2,h3⟩
  ·show(zd4 o w).Wf
   unfold zd4
   split
   ·rename_i hk;exact zqT _ _ (h1.2.2 hk).1
   ·exact zq9 (ziU o) (zkU o).1 h2
  ·show(zdc o h).Wf
   unfold zdc
   split
   ·rename_i hk;exact zqT _ _ (h1.2.2 hk).2.1
   ·exact zq9 (ziT o) (zkU o).2 h3
theorem zpx {o:OpD}{w h:Int}(hc:makeC o w h=0):((makeS o w h).x.lines.length:Int)=sizeW o w∧((makeS o w h).y.lines.length:Int)=sizeH o h:=by
 obtain⟨_,hm,hw,hh⟩:=zjW hc
 unfold zav at hw hh
 constructor
 ·show((zd4 o w).lines.length:Int)=_
  unfold zd4 sizeW
  split
  ·rename_i hk
   have:=(hm.2.2 hk).1
   unfold zav at this
   show((List.map _ (List.range o.w.toNat)).length:Int)=_
   rw[List.length_map,List.length_range];omega
  ·show((List.map _ (List.range w.toNat)).length:Int)=_
   rw[List.length_map,List.length_range];omega
 ·show((zdc o h).lines.length:Int)=_
  unfold zdc sizeH
  split
  ·rename_i hk
   have:=(hm.2.2 hk).2.1
   unfold zav at this
   show((List.map _ (List.range o.hh.toNat)).length:Int)=_
   rw[List.length_map,List.length_range];omega
  ·show((List.map _ (List.range h.toNat)).length:Int)=_
   rw[List.length_map,List.length_range];omega
theorem makeS_n (o:OpD)(w h:Int):(makeS o w h).x.n=w∧(makeS o w h).y.n=h:=by
 constructor
 ·show(zd4 o w).n=w
  unfold zd4;split<;>rfl
 ·show(zdc o h).n=h
  unfold zdc;split<;>rfl
theorem zpw {o:OpD}{m:Pic}(hc:makeC o m.w m.h=0):zhp m (makeS o m.w m.h):=by
 obtain⟨_,hm,_,_⟩:=zjW hc
 obtain⟨h1,h2⟩:=makeS_n o m.w m.h
 exact⟨h1,h2,hm.2.1.1,hm.2.1.2⟩
def pic15:Pic:=⟨1,1,1,255,[7]⟩
def op15:OpD:=⟨1,0,0,2,[],[],0,0,0⟩
theorem c_l15Lives {h:Heap}(G:GlobB h):FCall prog zin #[] h fun r h'=>r=.bool true∧Ext h h':=by
 apply zqp
 unfold zkB
 refine zbn (c':=#[.int .u16 7]) rfl fun b1 h1 r1 e1 n1=>?_
 have S1:=zma (k:=.u16) (l:=[7]) (n:=1) rfl r1
 have a0:imgC 1 1 1 255=0:=by decide+kernel
 refine(c_imgOf S1 a0 (by decide) (by simp)).mono fun r h2 ⟨p,e,N⟩=>?_
 subst e
 obtain⟨b,v,rfl,I,nb,nv,e2⟩:=N
 have I:IsImg h2 b v pic15:=I
 have W:pic15.Wf:=⟨by decide+kernel,by decide,by decide,by decide,by simp[pic15]⟩
 have hf:(fillL #[(.int .i64 0),(.int .i64 0),(.int .i64 0),(.int .i64 0),(.slice none 0 0),(.slice none 0 0),(.int .i64 0),(.int .i64 0),(.int .i64 0)] [(0,1,(.int .i64 1)),(3,1,(.int .i64 2))])=some #[.int .i64 1,.int .i64 0,.int .i64 0,.int .i64 2,.slice none 0 0,.slice none 0 0,.int .i64 0,.int .i64 0,.int .i64 0]:=rfl
 simp only[go_sem]
 rw[hf,zaA,zaa]
 have wf:op15.Wf:=zmf (by simp[I64])
 have G2:=G.ext (e1.trans e2)
 refine(zrn (Z:=fun _=>True) (o:=op15) G2 zmg wf (by simp[op15]) (by simp[op15]) (by unfold I64;omega) (by unfold I64;omega)).mono fun w h3 ⟨sv,e,e3,_,s1⟩=>?_
 subst e
 have a1:makeC op15 1 1=0:=by decide+kernel
 have HS:=s1 a1
 rw[a1]
 obtain⟨p,q,rfl,hp,hq,ones⟩:=zcM HS
 simp only[go_sem]
 refine zbh (cs:=[p,q,.int .i64 _]) rfl ones rfl fun b4 h4 r4 e4 n4=>?_
 refine c_l9Lives.mono fun r h5 ⟨e,e5⟩=>?_
 subst e
 simp only[go_sem]
 have E5:=(e1.trans e2).trans (e3.trans (e4.trans e5))
 refine(zrj (G.ext E5)).mono fun r h6 ⟨e,e6⟩=>?_
 subst e
 have z0:((0:Int)=0)=True:=eq_true rfl
 have np:binV .p .eql (ptr b) (.pointer none)=some (.bool false):=rfl
 have np2:∀b,binV .p .neq (ptr b) (.pointer none)=some (.bool true):=fun _=>rfl
 simp only[go_sem,z0,np,decide_true]
 have E6:=E5.trans e6
 have e36:=e3.trans (e4.trans (e5.trans e6))
 rw[zap (l:=[p,q,.int .i64 _]) ((e5.trans e6).row r4) 3 rfl,zaa]
 have hs:zhp pic15 (makeS op15 1 1):=zpw (m:=pic15) a1
 refine(c_Apply (G.ext E6) (I.ext e36) W (HS.ext (e4.trans (e5.trans e6))) (zjW a1).1 hs (by decide+kernel)).mono fun r h7 ⟨b',v',n,e,M,hat⟩=>?_
 subst e
 simp only[go_sem,z0,np2,decide_true]
 refine(c_At M.img M.wf).mono fun r h8 ⟨e,wq⟩=>?_
 have wq:=wq.symm
 subst e wq
 have hin:inP n 0 0 0:=⟨by omega,by rw[M.pw];decide+kernel,by omega,by rw[M.ph];decide+kernel,by omega,by rw[M.pc];decide⟩
 rw[hat 0 0 0 hin]
 have hv:pixZ pic15 (makeS op15 1 1) 0 0 0=7:=by decide+kernel
 rw[hv]
 simp only[go_sem,eq_self,decide_true]
 exact⟨by simp,E6.trans M.ext⟩
structure PicA where
 w:Int
 h:Int
 c:Int
 most:Int
 l:List Int
structure PicA.Wf (a:PicA):Prop where
 w:U16 a.w
 h:U16 a.h
 c:U16 a.c
 most:U16 a.most
 l:∀x∈a.l,U16 x
 len:a.l.length≤4611686018427387904
def rPicA:Rp PicA where
 w:=5
 R:=fun Z h cs a=>∃u,cs=[.int .u16 a.w,.int .u16 a.h,.int .u16 a.c,.int .u16 a.most,u]∧Rp.Sl rU Z h u a.l
 len:=by rintro _ _ _ _ ⟨x,rfl,_⟩;rfl
 one:=by
  rintro _ _ _ _ ⟨x,rfl,H⟩
  exact zad rfl (zad rfl (zad rfl (zad rfl (zad H.one zaq))))
 fr:=by rintro _ _ _ _ _ _ ⟨x,rfl,H⟩ f q;exact⟨x,rfl,H.fr f q⟩
 mono:=by rintro _ _ _ _ _ ⟨x,rfl,H⟩ q;exact⟨x,rfl,H.mono q⟩
def drawA (a:PicA):Pic:=drawP (a.w%12) (a.h%12) a.c a.most a.l
theorem zmJ (a:PicA):(drawA a).Wf:=drawP_Wf _ _ _ _ _
theorem zpN (a:PicA):1≤(drawA a).w∧(drawA a).w≤12∧1≤(drawA a).h∧(drawA a).h≤12:=by
 show 1≤1+a.w%12%20∧1+a.w%12%20≤12∧1≤1+a.h%12%20∧1+a.h%12%20≤12
 omega
theorem ziN.before {h0 h h':Heap}{p:Value}{m:Pic}(N:ziN h h' p m)(e:Ext h0 h):ziN h0 h' p m:=by
 obtain⟨b,v,e1,I,nb,nv,E⟩:=N
 exact⟨b,v,e1,I,Nat.le_trans e.1 nb,fun c hc=>Nat.le_trans e.1 (nv c hc),e.trans E⟩
theorem c_l15Draw {Z:Nat→Prop}{h:Heap}{cs:List Value}{a:PicA}(H:rPicA.R Z h cs a)(W:a.Wf):FCall prog zcf #[.agg cs.toArray] h fun r h'=>ziN h h' r (drawA a):=by
 apply zjs
 unfold zeR
 obtain⟨u,rfl,Hu⟩:=H
 simp only[zaB]
 refine zag fun b1 h1 r1 e1 n1=>?_
 have q0:zah h1 ⟨b1,0,none⟩=some (.int .u16 a.w):=zab r1
 have q1:zah h1 ⟨b1,1,none⟩=some (.int .u16 a.h):=zab r1
 have q2:zah h1 ⟨b1,2,none⟩=some (.int .u16 a.c):=zab r1
 have q3:zah h1 ⟨b1,3,none⟩=some (.int .u16 a.most):=zab r1
 have q4:zah h1 ⟨b1,4,none⟩=some u:=zab r1
 have w0:=W.w
 have w1:=W.h
 simp only[go_sem,Nat.zero_add,q0]
 rw[zbd _ _ _ _ (by omega),zaa]
 simp only[go_sem,Nat.zero_add,q1]
 rw[zbd _ _ _ _ (by omega),zaa]
 simp only[go_sem,Nat.zero_add,q2,q3,q4]
 rw[Int.tmod_eq_emod_of_nonneg w0.1,Int.tmod_eq_emod_of_nonneg w1.1]
 exact(c_l9Draw (Hu.ext e1) (by unfold U16;omega) (by unfold U16;omega) W.c W.most W.l W.len).mono fun r h' N=>N.before e1
theorem NewR.since {α:Type}{e:Rp α}{h0 h h':Heap}{v:Value}{l:List α}(H:NewR e h h' v l)(k:Ext h0 h):Rp.Sl e (Since h0 h') h' v l:=H.sl.mono fun c hc hz=>⟨Nat.le_trans k.1 hz.1,hc⟩
theorem c_Stages {Z:Nat→Prop}{h:Heap}(G:GlobB h){v:Value}{l:List OpD}{b:Nat}{iv:Value}{m:Pic}(H:Rp.Sl rOp Z h v l)(few:l.length≤4)(WO:OpsWf l)(I:IsImg h b iv m)(W:m.Wf):
  FCall prog zeI #[v,ptr b] h fun r h'=>Ext h h'∧∃sv rv ok,r=.tuple #[sv,rv,.bool ok]∧zam sv=true∧(ok=true↔zgc 12 l∧opsC l m.w m.h m.c=0)∧
   (ok=true→Rp.Sl rStgP (Since h h') h' sv (allS l m.w m.h)∧Rp.Sl rStg (Since h h') h' rv (allS l m.w m.h)):=by
 apply zpo
 unfold zjc
 obtain⟨a,cap,e⟩:=H.isSl
 have e2:zaf v=some (.int .i64 (l.length:Int)):=by rw[e];rfl
 have np:binV .p .eql (ptr b) (.pointer none)=some (.bool false):=rfl
 simp only[go_sem,e2,np]
 have h4:((4:Int)<(l.length:Int))=False:=eq_false (by omega)
 simp only[go_sem,h4]
 refine(c_Little (side:=12) H (by omega)).mono fun r h1 ⟨e,e1⟩=>?_
 subst e
 simp only[go_sem]
 refine zac (fun hl=>?_) (fun hl=>?_)
 ·exact⟨e1,_,_,false,rfl,rfl,⟨fun h=>(by cases h),fun h=>absurd h.1 hl⟩,fun h=>(by cases h)⟩
 have hl:zgc 12 l:=Decidable.of_not_not hl
 have hf:=zbv W.fits
 have hW:I64 m.w:=by unfold I64;omega
 have hH:I64 m.h:=by unfold I64;omega
 have gets:∀(h2:Heap) (E:Ext h h2) (K:Value→Value→Value→Heap→Prop),K (.int .i64 m.w) (.int .i64 m.h) (.int .i64 m.c) h2→
   FCall prog zau #[ptr b] h2 fun v11 h12=>FCall prog zaw #[ptr b] h12 fun v13 h14=>FCall prog zak #[ptr b] h14 fun v15 h16=>K v11 v13 v15 h16:=by
  intro h2 E K HK
  refine(zh7 (I.ext E)).mono fun r h3 ⟨e,wq⟩=>?_
  have wq:=wq.symm
  subst e wq
  refine(zgZ (I.ext E)).mono fun r h3 ⟨e,wq⟩=>?_
  have wq:=wq.symm
  subst e wq
  refine(zbH (I.ext E)).mono fun r h3 ⟨e,wq⟩=>?_
  have wq:=wq.symm
  subst e wq
  exact HK
 refine gets h1 e1 _ ?_
 refine(c_opAll (G.ext e1) (H.ext e1) WO hW hH (c:=m.c)).mono fun r h2 ⟨sv,e,e2',s0,s1⟩=>?_
 subst e
 simp only[go_sem]
 have E2:=e1.trans e2'
 refine(c_Refs (H.ext E2) (by omega)).mono fun lv h3 ⟨HR,e3⟩=>?_
 have E3:=E2.trans e3
 refine gets h3 E3 _ ?_
 refine(c_r12All HR WO hW hH (c:=m.c)).mono fun r h5 ⟨rv,e,e5,t0,t1⟩=>?_
 subst e
 simp only[go_sem]
 have E5:=E3.trans e5
 by_cases hc:opsC l m.w m.h m.c=0
 ·have S:=(s1 hc).ext (e3.trans e5)
  have T:=t1 hc
  obtain⟨asv,csv,es⟩:=S.isSl
  obtain⟨at_,ct,et⟩:=T.isSl
  have es2:zaf sv=some (.int .i64 ((allS l m.w m.h).length:Int)):=by rw[es];rfl
  have et2:zaf rv=some (.int .i64 ((allS l m.w m.h).length:Int)):=by rw[et];rfl
  simp only[go_sem,hc,es2,et2]
  refine⟨E5,sv,rv,true,by simp,by rw[es];rfl,⟨fun _=>⟨hl,trivial⟩,fun _=>rfl⟩,fun _=>⟨?_,?_⟩⟩
  ·exact S.since e1
  ·exact T.since E3
 ·simp only[go_sem,hc]
  exact⟨E5,sv,rv,false,by simp,by rw[s0 hc];rfl,⟨fun h=>(by cases h),fun h=>h.2.elim⟩,fun h=>(by cases h)⟩
end Go.Proofs.YtcoimlclclnlkaaGreatDoor
namespace Go.Proofs.YtcoimlclclnlkaaGreatDoor
open Go Go.Crisp
open _root_.Go.Proofs.Tryz
structure ListsB (L:List (String×DataW Unit)):Prop where
 plain:(L.all fun x=>x.2.handleName?.isNone)=true
 names:("smalto/border.names",Rows.laid_smalto_border_names)∈L
 kinds:("smalto/raw.kinds",Rows.laid_smalto_raw_kinds)∈L
theorem ListsB.glob {L:List (String×DataW Unit)}(l:ListsB L){h:Heap}(H:zoi prog L h):GlobB h:=globB_of H l.plain l.names l.kinds
theorem u16_wf {n:Int}(h:(Lit.int .u16 n).wf=true):0≤n∧n≤65535:=by
 have h:(decide (IntKind.u16.min≤n)&&decide (n≤IntKind.u16.max))=true:=h
 rw[Bool.and_eq_true,decide_eq_true_eq,decide_eq_true_eq]at h;exact h
abbrev tU16:TS:=.int .u16
abbrev tPic:TS:=.pair tU16 (.pair tU16 (.pair tU16 (.pair tU16 (.pair (.sl tU16 2) .unit))))
def picOf (x:tPic.T):PicA:=⟨x.1,x.2.1,x.2.2.1,x.2.2.2.1,x.2.2.2.2.1⟩
theorem slu_of_slc {h:Heap}{v:Value}{l:List Int}(H:SlC 1 h v l.length (l.map (Value.int .u16))):Rp.Sl rU (fun _=>True) h v l:=
 ⟨_,H,fun _ _ _=>trivial,fun i hi=>by
  show Rp.el 1 _ i=[.int .u16 l[i]]
  rw[Rp.el_one (by simpa using hi),List.getElem_map]⟩
theorem u16s_rd {h:Heap}{cs:List Value}{l:List Int}(H:Rd (.sl tU16 2) h cs l):∃v,cs=[v]∧Rp.Sl rU (fun _=>True) h v l∧(∀n∈l,U16 n)∧l.length*2≤140737488351232:=by
 obtain⟨v,rfl,h1,h2,h3⟩:=sl1_rd (e:=tU16) (Value.int .u16) U16 rfl (fun ds x hr=>⟨hr.1,u16_wf hr.2⟩) H
 exact⟨v,rfl,slu_of_slc h1,h2,h3⟩
theorem pic_rd {h:Heap}{cs:List Value}{x:tPic.T}(H:Rd tPic h cs x):rPicA.R (fun _=>True) h cs (picOf x)∧(picOf x).Wf:=by
 obtain⟨_,_,rfl,⟨rfl,a1⟩,_,_,rfl,⟨rfl,a2⟩,_,_,rfl,⟨rfl,a3⟩,_,_,rfl,⟨rfl,a4⟩,_,_,rfl,a5,rfl⟩:=H
 obtain⟨s,rfl,s1,s2,s3⟩:=u16s_rd a5
 have s3:(picOf x).l.length*2≤140737488351232:=s3
 exact⟨⟨s,rfl,s1⟩,⟨u16_wf a1,u16_wf a2,u16_wf a3,u16_wf a4,s2,by omega⟩⟩
theorem ops1_wf {h:Heap}{cs:List Value}{x:tOp.T}(H:Rd tOp h cs x):OpsWf [opOf x]:=by
 have h1:=(op_rd H).2
 have h2:=op_len H
 refine⟨fun o ho=>?_,fun o ho=>?_,by simp⟩<;>(rw[List.mem_singleton.1 ho])
 ·exact h1
 ·exact h2
end Go.Proofs.YtcoimlclclnlkaaGreatDoor
namespace Go.Proofs.YtcoimlclclnlkaaGreatDoor
open Go Go.Crisp
attribute [local irreducible] FCall rowK newK stK iteK vK qK drawK gK joinK loopK mkK appK cpyK zoB zmd bsK clK
open _root_.Go.Proofs.Tryz
theorem zob (o:Nat):∀(l:List Value) (c:Array Value) (k:Nat),(l.zipIdx k).foldl (fun cs (p:Value×Nat)=>cs.setIfInBounds (o+p.2) p.1) c=wrL c (o+k) l
 | [],_,_=>rfl
 |v::l,c,k=>by
  simp only[List.zipIdx_cons,List.foldl_cons,wrL]
  exact zob o l _ (k+1)
theorem zaV {c:Array Value}{o n:Nat}{v:Value}{l:List Value}{rest:List (Nat×Nat×Value)}(hv:v.cells=l.toArray)(hl:l.length=n)(hb:o+n≤c.size):fillL c ((o,n,v)::rest)=fillL (wrL c o l) rest:=by
 simp only[fillL,hv]
 rw[if_neg (by simp[hl];omega)]
 congr 1
 rw[Array.zipIdx_toArray,List.foldl_toArray']
 ·exact zob o l c 0
 ·simp
structure PlanD where
 s:Stg
 w:Int
 h:Int
def sideT (n:Int):Prop:=1≤n∧n≤4096
instance (n:Int):Decidable (sideT n):=by unfold sideT;infer_instance
structure PlanD.Wf (d:PlanD):Prop where
 s:d.s.Wf
 w:sideT d.w
 h:sideT d.h
def PlanD.X (d:PlanD):Int:=d.s.x.lines.length
def PlanD.Y (d:PlanD):Int:=d.s.y.lines.length
structure ziO (Z:Nat→Prop)(h:Heap)(b:Nat)(d:PlanD)(p q:Value):Prop where
 row:h[b]? =some (.cells #[p,q,.int .i64 d.s.border,.int .i64 d.w,.int .i64 d.h] 156 (0,0))
 x:IsTbl Z h p d.s.x
 y:IsTbl Z h q d.s.y
theorem ziO.ext {Z:Nat→Prop}{h h':Heap}{b:Nat}{d:PlanD}{p q:Value}(H:ziO Z h b d p q)(e:Ext h h'):ziO Z h' b d p q:=⟨e.row H.row,H.x.ext e,H.y.ext e⟩
def zdD (n size:Int):Int:=(n+size-1)/size
def colsZ (d:PlanD):Int:=zdD d.X d.w
def zaN (d:PlanD):Int:=colsZ d*zdD d.Y d.h
def outX (d:PlanD)(i:Int):Int:=i%colsZ d*d.w
def outY (d:PlanD)(i:Int):Int:=i/colsZ d*d.h
def outW (d:PlanD)(i:Int):Int:=min d.w (d.X-outX d i)
def outH (d:PlanD)(i:Int):Int:=min d.h (d.Y-outY d i)
theorem zfs {n size:Int}(hn:0≤n∧n≤65536)(hs:sideT size):0≤zdD n size∧zdD n size≤65536∧(1≤n→1≤zdD n size):=by
 unfold sideT at hs
 unfold zdD
 refine⟨Int.ediv_nonneg (by omega) (by omega),?_,fun h=>?_⟩
 ·have:=zgX (a:=n+size-1) (b:=size) (L:=0) (U:=70000) (by omega) (by omega) (by omega) (by omega) (by omega)
  apply Int.le_of_lt_add_one
  rw[Int.ediv_lt_iff_lt_mul (by omega)]
  omega
 ·rw[Int.le_ediv_iff_mul_le (by omega)];omega
theorem PlanD.bd {d:PlanD}(W:d.Wf):(0≤d.X∧d.X≤65536)∧(0≤d.Y∧d.Y≤65536):=by
 have h1:=W.s.x.len
 have h2:=W.s.y.len
 unfold PlanD.X PlanD.Y
 omega
theorem c_parts {h:Heap}{n size:Int}(hn:0≤n∧n≤65536)(hs:sideT size):FCall prog zg6 #[.int .i64 n,.int .i64 size] h fun r h'=>r=.int .i64 (zdD n size)∧h'=h:=by
 apply zsf
 unfold zlV
 have hb:=zfs hn hs
 unfold sideT at hs
 unfold zdD at*
 simp only[go_sem]
 rw[w64 (n:=n+size) (by omega) (by omega),w64 (n:=n+size-1) (by omega) (by omega),zez _ _ _ _ (by omega),zaa,Int.tdiv_eq_ediv_of_nonneg (by omega),w64 (by omega) (by omega)]
 exact⟨rfl,trivial⟩
theorem zpW {Z:Nat→Prop}{h:Heap}{b:Nat}{d:PlanD}{p q:Value}(H:ziO Z h b d p q)(W:d.Wf):FCall prog zbU #[ptr b] h fun r h'=>r=.int .i64 (colsZ d)∧h'=h:=by
 apply zkg
 unfold zfo
 simp only[go_sem,Nat.zero_add]
 refine zaj (fun h'=>h'=h) rfl ?_
 refine zae p (fun h' e=>by rw[e];exact zab H.row) ?_
 refine zae (.int .i64 d.w) (fun h' e=>by rw[e];exact zab H.row) ?_
 refine(c_To H.x).mono fun r h1 ⟨e,wq⟩=>?_
 have wq:=wq.symm
 subst e wq
 exact⟨rfl,c_parts (PlanD.bd W).1 W.w⟩
theorem znz {Z:Nat→Prop}{h:Heap}{b:Nat}{d:PlanD}{p q:Value}(H:ziO Z h b d p q)(W:d.Wf):FCall prog za4 #[ptr b] h fun r h'=>r=.int .i64 (zaN d)∧h'=h:=by
 apply zmw
 unfold zgL
 simp only[go_sem,Nat.zero_add]
 refine zaj (fun h'=>h'=h) rfl ?_
 refine zae q (fun h' e=>by rw[e];exact zab H.row) ?_
 refine zae (.int .i64 d.h) (fun h' e=>by rw[e];exact zab H.row) ?_
 refine(zpW H W).mono fun r h1 ⟨e,wq⟩=>?_
 have wq:=wq.symm
 subst e wq
 refine⟨rfl,?_⟩
 refine(c_To H.y).mono fun r h1 ⟨e,wq⟩=>?_
 have wq:=wq.symm
 subst e wq
 refine⟨rfl,?_⟩
 refine(c_parts (PlanD.bd W).2 W.h).mono fun r h1 ⟨e,wq⟩=>?_
 have wq:=wq.symm
 subst e wq
 simp only[go_sem]
 have h1:=zfs (PlanD.bd W).1 W.w
 have h2:=zfs (PlanD.bd W).2 W.h
 have h3:=zf8 (a:=colsZ d) (A:=65536) (b:=zdD d.Y d.h) (B:=65536) h1.1 h1.2.1 h2.1 h2.2.1
 have e:colsZ d*zdD (d.s.y.lines.length:Int) d.h=zaN d:=rfl
 have h3:0≤colsZ d*zdD (d.s.y.lines.length:Int) d.h∧colsZ d*zdD (d.s.y.lines.length:Int) d.h≤65536*65536:=h3
 rw[w64 (by omega) (by omega)]
 exact⟨rfl,trivial⟩
theorem zri {h:Heap}{n:Int}:FCall prog zii #[.int .i64 n] h fun r h'=>r=.bool (decide (sideT n))∧h'=h:=by
 apply ok_plan_side
 unfold zn0
 simp only[go_sem]
 exact⟨rfl,trivial⟩
theorem c_planNew {Z:Nat→Prop}{h:Heap}{sv:Value}{s:Stg}{w hh:Int}(HS:IsStg Z h sv s):FCall prog zj7 #[sv,.int .i64 w,.int .i64 hh] h fun r h'=>
  Ext h h'∧((sideT w∧sideT hh)→∃b p q,r=.tuple #[ptr b,.int .i64 0]∧h.size≤b∧ziO Z h' b ⟨s,w,hh⟩ p q)∧(¬(sideT w∧sideT hh)→r=.tuple #[.pointer none,.int .i64 9]):=by
 apply ok_plan_New
 unfold zoX
 obtain⟨p,q,rfl,hp,hq,ones⟩:=zcM HS
 simp only[zaB]
 refine zag fun b1 h1 r1 e1 n1=>?_
 have np:=(zqJ hp).2
 have nq:=(zqJ hq).2
 have q0:zah h1 ⟨b1,0,none⟩=some p:=zab r1
 have q1:zah h1 ⟨b1,1,none⟩=some q:=zab r1
 simp only[go_sem,Nat.zero_add,q0,q1,np,nq]
 refine zri.mono fun r h2 ⟨e,wq⟩=>?_
 have wq:=wq.symm
 subst e wq
 by_cases hw:sideT w
 ·simp only[go_sem,hw]
  refine zri.mono fun r h2 ⟨e,wq⟩=>?_
  have wq:=wq.symm
  subst e wq
  by_cases hh':sideT hh
  ·simp only[go_sem,hh']
   rw[zap (l:=[p,q,.int .i64 s.border]) r1 3 rfl,zaa]
   have hf:fillL #[(.pointer none),(.pointer none),(.int .i64 0),(.int .i64 0),(.int .i64 0)] [(0,3,.agg #[p,q,.int .i64 s.border]),(3,1,.int .i64 w),(4,1,.int .i64 hh)]=some #[p,q,.int .i64 s.border,.int .i64 w,.int .i64 hh]:=rfl
   rw[hf,zaA,zaa]
   refine zag (c:=#[p,q,.int .i64 s.border,.int .i64 w,.int .i64 hh]) fun b2 h2 r2 e2 n2=>?_
   exact⟨e1.trans e2,fun _=>⟨b2,p,q,rfl,Nat.le_trans e1.1 n2,r2,hp.ext (e1.trans e2),hq.ext (e1.trans e2)⟩,fun hn=>absurd ⟨trivial,trivial⟩ hn⟩
  ·simp only[go_sem,hh']
   exact⟨e1,fun hn=>hn.2.elim,fun _=>by simp⟩
 ·simp only[go_sem,hw]
  exact⟨e1,fun hn=>hn.1.elim,fun _=>by simp⟩
structure TileD where
 number:Int
 x:Int
 y:Int
 w:Int
 h:Int
 fx:Int
 fy:Int
 cx:Int
 cy:Int
 ring:Int
abbrev tileC (t:TileD):List Value:=[.int .i64 t.number,.int .i64 t.x,.int .i64 t.y,.int .i64 t.w,.int .i64 t.h,.int .i64 t.fx,.int .i64 t.fy,.int .i64 t.cx,.int .i64 t.cy,.int .i64 t.ring]
theorem zdi (t:TileD):∀v∈tileC t,zam v=true:=by
 intro v hv
 simp only[tileC,List.mem_cons,List.not_mem_nil,or_false]at hv
 rcases hv with rfl|rfl|rfl|rfl|rfl|rfl|rfl|rfl|rfl|rfl<;>rfl
theorem zrA {d:PlanD}(W:d.Wf){i:Int}(h0:0≤i)(h1:i<zaN d):0≤outX d i∧outX d i<d.X∧0≤outY d i∧outY d i<d.Y:=by
 have hb:=PlanD.bd W
 have hw:=W.w
 have hh:=W.h
 unfold sideT at hw hh
 have h2:=zfs hb.1 W.w
 have h3:=zfs hb.2 W.h
 have hc:0<colsZ d:=by
  rcases Int.lt_or_le 0 (colsZ d)with h|h
  ·exact h
  ·have h4:0≤colsZ d:=h2.1
   have:colsZ d=0:=by omega
   unfold zaN at h1
   rw[this,Int.zero_mul]at h1
   omega
 have m0:=Int.emod_nonneg i (show colsZ d≠0 by omega)
 have m1:=Int.emod_lt_of_pos i hc
 have q0:=Int.ediv_nonneg h0 (show 0≤colsZ d by omega)
 have q1:i/colsZ d<zdD d.Y d.h:=by
  rw[Int.ediv_lt_iff_lt_mul hc,Int.mul_comm];exact h1
 have key:∀(n size k:Int),0≤n→1≤size→0≤k→k<zdD n size→0≤k*size∧k*size<n:=by
  intro n size k hn hs hk hlt
  refine⟨Int.mul_nonneg hk (by omega),?_⟩
  have h5:k+1≤(n+size-1)/size:=hlt
  rw[Int.le_ediv_iff_mul_le (by omega),Int.add_mul,Int.one_mul]at h5
  omega
 have k1:=key d.X d.w (i%colsZ d) hb.1.1 hw.1 m0 m1
 have k2:=key d.Y d.h (i/colsZ d) hb.2.1 hh.1 q0 q1
 exact⟨k1.1,k1.2,k2.1,k2.2⟩
theorem c_planOut {Z:Nat→Prop}{h:Heap}{b:Nat}{d:PlanD}{p q:Value}(H:ziO Z h b d p q)(W:d.Wf){i:Int}(h0:0≤i)(h1:i<zaN d):FCall prog zd2 #[ptr b,.int .i64 i] h fun r h'=>
  r=.agg #[.int .i64 (outX d i),.int .i64 (outY d i),.int .i64 (outW d i),.int .i64 (outH d i)]∧Ext h h':=by
 apply zot
 unfold ziH
 have ti:=zrA W h0 h1
 have hb:=PlanD.bd W
 have hw:=W.w
 have hh:=W.h
 unfold sideT at hw hh
 have h2:=zfs hb.1 W.w
 have h3:=zfs hb.2 W.h
 have hcl:0≤colsZ d∧colsZ d≤65536:=⟨h2.1,h2.2.1⟩
 have hpr:=zf8 (a:=colsZ d) (A:=65536) (b:=zdD d.Y d.h) (B:=65536) h2.1 h2.2.1 h3.1 h3.2.1
 have hct:zaN d=colsZ d*zdD d.Y d.h:=rfl
 have hc:0<colsZ d:=by
  rcases Int.lt_or_le 0 (colsZ d)with h|h
  ·exact h
  ·have:colsZ d=0:=by omega
   rw[hct,this,Int.zero_mul]at h1
   omega
 have hq:=zgX (a:=i) (b:=colsZ d) (L:=0) (U:=4294967296) (by omega) (by omega) (by omega) (by omega) (by omega)
 refine zag fun b1 h2' r1 e1 n1=>?_
 have H1:=H.ext e1
 simp only[go_sem,Nat.zero_add]
 refine zaj (fun h'=>h'=h2') rfl ?_
 refine zae (.int .i64 d.w) (fun h' e=>by rw[e];exact zab H1.row) ?_
 refine zae (.int .i64 d.h) (fun h' e=>by rw[e];exact zab H1.row) ?_
 refine(zpW H1 W).mono fun r h3 ⟨e,wq⟩=>?_
 have wq:=wq.symm
 subst e wq
 refine⟨rfl,?_⟩
 rw[zbd _ _ _ _ (by omega),zaa,Int.tmod_eq_emod_of_nonneg h0]
 simp only[go_sem]
 refine(zpW H1 W).mono fun r h3 ⟨e,wq⟩=>?_
 have wq:=wq.symm
 subst e wq
 refine⟨rfl,?_⟩
 rw[zez _ _ _ _ (by omega),zaa,Int.tdiv_eq_ediv_of_nonneg h0]
 simp only[go_sem]
 have ex:i%colsZ d*d.w=outX d i:=rfl
 have ey:i/colsZ d*d.h=outY d i:=rfl
 rw[w64 (n:=i/colsZ d) (by omega) (by omega),ex,ey,w64 (n:=outX d i) (by omega) (by omega),w64 (n:=outY d i) (by omega) (by omega)]
 refine zaj (fun h'=>h'=h2') rfl ?_
 simp only[go_sem,Nat.zero_add]
 refine zae (.int .i64 d.w) (fun h' e=>by rw[e];exact zab H1.row) ?_
 refine zae p (fun h' e=>by rw[e];exact zab H1.row) ?_
 refine zae (.int .i64 d.h) (fun h' e=>by rw[e];exact zab H1.row) ?_
 refine zae q (fun h' e=>by rw[e];exact zab H1.row) ?_
 refine(c_To H1.x).mono fun r h3 ⟨e,wq⟩=>?_
 have wq:=wq.symm
 subst e wq
 refine⟨rfl,?_⟩
 simp only[go_sem]
 have eX:(d.s.x.lines.length:Int)=d.X:=rfl
 have eY:(d.s.y.lines.length:Int)=d.Y:=rfl
 rw[eX,w64 (n:=d.X-outX d i) (by omega) (by omega)]
 refine zae (.int .i64 (min d.w (d.X-outX d i))) (fun h' e=>by first|exact zss _ _ _|rfl) ?_
 refine(c_To H1.y).mono fun r h3 ⟨e,wq⟩=>?_
 have wq:=wq.symm
 subst e wq
 refine⟨rfl,?_⟩
 simp only[go_sem]
 rw[eY,w64 (n:=d.Y-outY d i) (by omega) (by omega)]
 refine zae (.int .i64 (min d.h (d.Y-outY d i))) (fun h' e=>by first|exact zss _ _ _|rfl) ?_
 have hf:fillL #[(.int .i64 0),(.int .i64 0),(.int .i64 0),(.int .i64 0)] [(0,1,Value.int .i64 (outX d i)),(1,1,Value.int .i64 (outY d i)),(2,1,Value.int .i64 (min d.w (d.X-outX d i))),(3,1,Value.int .i64 (min d.h (d.Y-outY d i)))]=some #[.int .i64 (outX d i),.int .i64 (outY d i),.int .i64 (outW d i),.int .i64 (outH d i)]:=rfl
 rw[hf,zaA,zaa]
 refine zbA (l:=[.int .i64 (outX d i),.int .i64 (outY d i),.int .i64 (outW d i),.int .i64 (outH d i)]) r1 rfl (zad rfl (zad rfl (zad rfl (zad rfl zaq)))) rfl fun h5 r5 u5=>?_
 rw[zap r5 4 rfl,zaa]
 exact⟨rfl,e1.upd n1 u5⟩
theorem fill_tile (a b c d e f:Int):fillL #[(.int .i64 0),(.int .i64 0),(.int .i64 0),(.int .i64 0),(.int .i64 0),(.int .i64 0),(.int .i64 0),(.int .i64 0),(.int .i64 0),(.int .i64 0)] [(0,1,Value.int .i64 a),(1,4,.agg #[.int .i64 b,.int .i64 c,.int .i64 d,.int .i64 e]),(9,1,.int .i64 f)]=some (tileC ⟨a,b,c,d,e,0,0,0,0,f⟩).toArray:=by
 refine(zaV (n:=1) (l:=[.int .i64 a]) rfl rfl (by simp)).trans ?_
 refine(zaV (n:=4) (l:=[.int .i64 b,.int .i64 c,.int .i64 d,.int .i64 e]) rfl rfl (by simp[zbl])).trans ?_
 refine(zaV (n:=1) (l:=[.int .i64 f]) rfl rfl (by simp[zbl])).trans ?_
 rw[zcV]
 simp[wrL,tileC]
def zat (d:PlanD)(i:Int):TileD:=
 ⟨i,outX d i,outY d i,outW d i,outH d i,(zkQ d.s.x (outX d i) (outX d i+outW d i)).1,(zkQ d.s.y (outY d i) (outY d i+outH d i)).1,
  (zkQ d.s.x (outX d i) (outX d i+outW d i)).2,(zkQ d.s.y (outY d i) (outY d i+outH d i)).2,mostL d.s.y.lines⟩
theorem zhK {Z:Nat→Prop}{h:Heap}{b:Nat}{d:PlanD}{p q:Value}(H:ziO Z h b d p q)(W:d.Wf){i:Int}(h0:0≤i)(h1:i<zaN d):FCall prog zbz #[ptr b,.int .i64 i] h fun r h'=>
  r=.tuple #[.agg (tileC (zat d i)).toArray,.bool true]∧Ext h h':=by
 apply znh
 unfold zhE
 have ti:=zrA W h0 h1
 have hb:=PlanD.bd W
 have hw:=W.w
 have hh:=W.h
 unfold sideT at hw hh
 refine zag fun b1 h2 r1 e1 n1=>?_
 have H1:=H.ext e1
 have hi:(i<0)=False:=eq_false (by omega)
 simp only[go_sem,hi]
 refine(znz H1 W).mono fun r h3 ⟨e,wq⟩=>?_
 have wq:=wq.symm
 subst e wq
 simp only[go_sem]
 rw[decide_eq_false (by omega),zbo]
 have lb1:=zaz r1
 refine zar (fun xs h'=>∃b2,xs=[ptr b2]∧Ext h2 h'∧h2.size≤b2∧h'[b2]? =some (.cells (tileC ⟨i,outX d i,outY d i,outW d i,outH d i,0,0,0,0,mostL d.s.y.lines⟩).toArray 65 (0,0))) ?_ ?_
 ·simp only[go_sem,Nat.zero_add]
  refine zaj (Ext h2) (Ext.refl _) ?_
  refine zae q (fun h' e=>zab (e.row H1.row)) ?_
  have hf:fillL #[(.int .i64 0),(.int .i64 0),(.int .i64 0),(.int .i64 0),(.int .i64 0),(.int .i64 0),(.int .i64 0),(.int .i64 0),(.int .i64 0),(.int .i64 0)] [(0,1,Value.int .i64 i),(1,4,.agg #[.int .i64 (outX d i),.int .i64 (outY d i),.int .i64 (outW d i),.int .i64 (outH d i)]),(9,1,.int .i64 (mostL d.s.y.lines))]=some (tileC ⟨i,outX d i,outY d i,outW d i,outH d i,0,0,0,0,mostL d.s.y.lines⟩).toArray:=fill_tile _ _ _ _ _ _
  refine⟨?_,?_⟩
  ·refine(c_planOut H1 W h0 h1).mono fun r h3 ⟨e,e3⟩=>?_
   subst e
   refine⟨e3,?_,?_⟩
   ·refine(c_Most (H1.y.ext e3)).mono fun r h4 ⟨e,wq⟩=>?_
    have wq:=wq.symm
    subst e wq
    refine⟨e3,?_⟩
    rw[hf,zaA,zaa]
    refine zag fun b4 h4 r4 e4 n4=>⟨e3.trans e4,?_⟩
    have n4':=Nat.le_trans e3.1 n4
    refine zbA (l:=tileC _) r4 rfl (zdi _) rfl fun h5 r5 u5=>?_
    have E:=(e3.trans e4).upd n4' u5
    exact⟨E,b4,rfl,E,n4',r5⟩
   ·refine zag fun b4 h4 r4 e4 n4=>⟨e3.trans e4,?_⟩
    have n4':=Nat.le_trans e3.1 n4
    refine(c_Most (H1.y.ext (e3.trans e4))).mono fun r h5 ⟨e,wq⟩=>?_
    have wq:=wq.symm
    subst e wq
    refine⟨e3.trans e4,?_⟩
    rw[hf,zaA,zaa]
    refine zbA (l:=tileC _) r4 rfl (zdi _) rfl fun h5 r5 u5=>?_
    have E:=(e3.trans e4).upd n4' u5
    exact⟨E,b4,rfl,E,n4',r5⟩
  ·refine zag fun b4 h4 r4 e4 n4=>⟨e4,?_⟩
   refine(c_planOut (H1.ext e4) W h0 h1).mono fun r h3 ⟨e,e3⟩=>?_
   subst e
   refine⟨e4.trans e3,?_⟩
   refine(c_Most (H1.y.ext (e4.trans e3))).mono fun r h5 ⟨e,wq⟩=>?_
   have wq:=wq.symm
   subst e wq
   refine⟨e4.trans e3,?_⟩
   rw[hf,zaA,zaa]
   refine zbA (l:=tileC _) (e3.row r4) rfl (zdi _) rfl fun h5 r5 u5=>?_
   have E:=(e4.trans e3).upd n4 u5
   exact⟨E,b4,rfl,E,n4,r5⟩
 rintro xs ρj h3 ⟨b2,rfl,E3,nb2,r3⟩
 have H3:=H1.ext E3
 have lb3:=H1.row
 have hbne:b≠b2:=by have:=zaz H1.row;omega
 have hb12:b1≠b2:=by omega
 have hW1:0≤outX d i+outW d i∧outX d i+outW d i≤65536:=by unfold outW;omega
 have hH1:0≤outY d i+outH d i∧outY d i+outH d i≤65536:=by unfold outH;omega
 refine zaj (fun h'=>h'=h3) rfl ?_
 simp only[go_sem,Nat.zero_add]
 refine zae p (fun h' e=>by rw[e];exact zab H3.row) ?_
 refine zae (.int .i64 (outX d i)) (fun h' e=>by rw[e];exact zab r3) ?_
 refine zae (.int .i64 (outX d i)) (fun h' e=>by rw[e];exact zab r3) ?_
 refine zae (.int .i64 (outW d i)) (fun h' e=>by rw[e];exact zab r3) ?_
 simp only[go_sem]
 rw[w64 (by omega) (by omega)]
 refine(c_Reach H3.x W.s.x (by unfold I64;omega) (by unfold I64;omega)).mono fun r h4 ⟨e,e4⟩=>?_
 subst e
 simp only[go_sem,Nat.zero_add]
 refine zaH (e4.row r3) (by simp) rfl fun h5 r5 u5=>?_
 refine zaH r5 (by simp) rfl fun h6 r6 u6=>?_
 have E6:Ext h2 h6:=((E3.trans e4).upd nb2 u5).upd nb2 u6
 have H6:=H1.ext E6
 have r6:h6[b2]? =some (.cells (tileC ⟨i,outX d i,outY d i,outW d i,outH d i,(zkQ d.s.x (outX d i) (outX d i+outW d i)).1,0,(zkQ d.s.x (outX d i) (outX d i+outW d i)).2,0,mostL d.s.y.lines⟩).toArray 65 (0,0)):=r6
 refine zaj (fun h'=>h'=h6) rfl ?_
 try simp only[go_sem,Nat.zero_add]
 refine zae q (fun h' e=>by rw[e];exact zab H6.row) ?_
 refine zae (.int .i64 (outY d i)) (fun h' e=>by rw[e];exact zab r6) ?_
 refine zae (.int .i64 (outY d i)) (fun h' e=>by rw[e];exact zab r6) ?_
 refine zae (.int .i64 (outH d i)) (fun h' e=>by rw[e];exact zab r6) ?_
 simp only[go_sem]
 rw[w64 (by omega) (by omega)]
 refine(c_Reach H6.y W.s.y (by unfold I64;omega) (by unfold I64;omega)).mono fun r h7 ⟨e,e7⟩=>?_
 subst e
 simp only[go_sem,Nat.zero_add]
 refine zaH (e7.row r6) (by simp) rfl fun h8 r8 u8=>?_
 refine zaH r8 (by simp) rfl fun h9 r9 u9=>?_
 have E9:Ext h2 h9:=((E6.trans e7).upd nb2 u8).upd nb2 u9
 have r9:h9[b2]? =some (.cells (tileC (zat d i)).toArray 65 (0,0)):=r9
 rw[zap r9 10 rfl,zaa]
 refine zbA (l:=tileC (zat d i)) (E9.row r1) rfl (zdi _) rfl fun h10 r10 u10=>?_
 rw[zap r10 10 rfl,zaa]
 exact⟨rfl,(e1.trans E9).upd n1 u10⟩
def op14:OpD:=⟨3,0,0,0,[],[],0,5,3⟩
theorem c_l14Lives {h:Heap}(G:GlobB h):FCall prog zio #[] h fun r h'=>r=.bool true∧Ext h h':=by
 apply zqq
 unfold zkC
 have hf:(fillL #[(.int .i64 0),(.int .i64 0),(.int .i64 0),(.int .i64 0),(.slice none 0 0),(.slice none 0 0),(.int .i64 0),(.int .i64 0),(.int .i64 0)] [(0,1,(.int .i64 3)),(7,1,(.int .i64 5)),(8,1,(.int .i64 3)),(6,1,(.int .i64 0))])=some #[.int .i64 3,.int .i64 0,.int .i64 0,.int .i64 0,.slice none 0 0,.slice none 0 0,.int .i64 0,.int .i64 5,.int .i64 3]:=rfl
 rw[hf,zaA,zaa]
 have wf:op14.Wf:=zmf (by simp[I64])
 refine(zrn (Z:=fun _=>True) (o:=op14) G zmg wf (by simp[op14]) (by simp[op14]) (by unfold I64;omega) (by unfold I64;omega)).mono fun w h1 ⟨sv,e,e1,_,s1⟩=>?_
 subst e
 have a1:makeC op14 9 9=0:=by decide+kernel
 have HS:=s1 a1
 rw[a1]
 obtain⟨p,q,rfl,hp,hq,ones⟩:=zcM HS
 simp only[go_sem]
 refine zbh (cs:=[p,q,.int .i64 _]) rfl ones rfl fun b2 h2 r2 e2 n2=>?_
 refine(zrj (G.ext (e1.trans e2))).mono fun r h3 ⟨e,e3⟩=>?_
 subst e
 have z0:((0:Int)=0)=True:=eq_true rfl
 simp only[go_sem,z0,decide_true]
 rw[zap (l:=[p,q,.int .i64 _]) (e3.row r2) 3 rfl,zaa]
 refine(c_planNew (HS.ext (e2.trans e3))).mono fun r h4 ⟨e4,hy,_⟩=>?_
 obtain⟨b4,p4,q4,e,nb4,P⟩:=hy ⟨by decide,by decide⟩
 subst e
 have np:binV .p .eql (ptr b4) (.pointer none)=some (.bool false):=rfl
 simp only[go_sem,z0,np,decide_true]
 have PW:PlanD.Wf ⟨makeS op14 9 9,2,2⟩:=⟨(zjW a1).1,by decide,by decide⟩
 have hcount:zaN ⟨makeS op14 9 9,2,2⟩=6:=by decide+kernel
 refine(zhK P PW (i:=5) (by omega) (by rw[hcount];omega)).mono fun r h5 ⟨e,e5⟩=>?_
 subst e
 simp only[go_sem]
 refine zbh (cs:=tileC _) rfl (zdi _) rfl fun b6 h6 r6 e6 n6=>?_
 refine(znz (P.ext (e5.trans e6)) PW).mono fun r h7 ⟨e,wq⟩=>?_
 have wq:=wq.symm
 subst e wq
 rw[hcount]
 have t1:outX ⟨makeS op14 9 9,2,2⟩ 5=4:=by decide+kernel
 have t2:outY ⟨makeS op14 9 9,2,2⟩ 5=2:=by decide+kernel
 have t3:outW ⟨makeS op14 9 9,2,2⟩ 5=1:=by decide+kernel
 have t4:outH ⟨makeS op14 9 9,2,2⟩ 5=1:=by decide+kernel
 have ld4:ldsV 4 h6 (.pointer (some ⟨b6,1,none⟩))=some (.agg #[.int .i64 4,.int .i64 2,.int .i64 1,.int .i64 1]):=by
  refine zoE [.int .i64 4,.int .i64 2,.int .i64 1,.int .i64 1] 4 rfl fun j hj=>?_
  rw[zab r6]
  match j,hj with
  |0,_=>exact congrArg (fun n=>some (Value.int .i64 n)) t1
  |1,_=>exact congrArg (fun n=>some (Value.int .i64 n)) t2
  |2,_=>exact congrArg (fun n=>some (Value.int .i64 n)) t3
  |3,_=>exact congrArg (fun n=>some (Value.int .i64 n)) t4
 have hf4:fillL #[(.int .i64 0),(.int .i64 0),(.int .i64 0),(.int .i64 0)] [(0,1,(.int .i64 4)),(1,1,(.int .i64 2)),(2,1,(.int .i64 1)),(3,1,(.int .i64 1))]=some #[.int .i64 4,.int .i64 2,.int .i64 1,.int .i64 1]:=rfl
 have heq:binV (.st [(0,1,.i),(1,1,.i),(2,1,.i),(3,1,.i)]) .eql (.agg #[.int .i64 4,.int .i64 2,.int .i64 1,.int .i64 1]) (.agg #[.int .i64 4,.int .i64 2,.int .i64 1,.int .i64 1])=some (.bool true):=rfl
 simp only[go_sem,eq_self,decide_true,Nat.zero_add,ld4,hf4,zaA,heq]
 exact⟨by simp,e1.trans (e2.trans (e3.trans (e4.trans (e5.trans e6))))⟩
end Go.Proofs.YtcoimlclclnlkaaGreatDoor
namespace Go.Crisp
open Go Go.MapKept
section
section
variable {α:Type}
def kGet (j:Int):List (Int×α)→Option α
 | []=>none
 |(k,v)::r=>if k=j then some v else kGet j r
def kPut (j:Int)(v:α):List (Int×α)→List (Int×α)
 | []=>[(j,v)]
 |(k,u)::r=>if k=j then(j,v)::r else(k,u)::kPut j v r
def kDel (j:Int):List (Int×α)→List (Int×α)
 | []=>[]
 |(k,u)::r=>if k=j then r else(k,u)::kDel j r
def kFind (j:Int):List (Int×α)→Nat→Option (Nat×α)
 | [],_=>none
 |(k,v)::r,i=>if k=j then some (i,v)else kFind j r (i+1)
def kMap {β:Type}(f:α→β)(l:List (Int×α)):List (Int×β):=l.map fun p=>(p.1,f p.2)
theorem zjv {β:Type}(f:α→β)(l:List (Int×α)):(kMap f l).map Prod.fst=l.map Prod.fst:=by simp[kMap,List.map_map,Function.comp_def]
theorem zgV {β:Type}(f:α→β)(j:Int):∀l:List (Int×α),kGet j (kMap f l)=(kGet j l).map f
 | []=>rfl
 |(k,v)::r=>by
  have ih:=zgV f j r
  unfold kMap at ih ⊢
  simp only[List.map_cons,kGet]
  split
  ·rfl
  ·exact ih
theorem zsI {β:Type}(f:α→β)(j:Int):∀l:List (Int×α),kDel j (kMap f l)=kMap f (kDel j l)
 | []=>rfl
 |(k,v)::r=>by
  have ih:=zsI f j r
  unfold kMap at ih ⊢
  simp only[List.map_cons,kDel]
  split
  ·rfl
  ·simp[ih]
end
def esKv (es:List MapEntry)(kv:List (Int×Value)):Prop:=es.map (fun e=>(e.key,e.val))=kv.map fun p=>(Value.int .i64 p.1,p.2)
def MapI (h:Heap)(b:Nat)(kv:List (Int×Value)):Prop:=∃es c,h[b]? =some (.map es c)∧Stamped es c∧esKv es.toList kv
theorem esKv.length {es:List MapEntry}{kv:List (Int×Value)}(H:esKv es kv):es.length=kv.length:=by
 have:=congrArg List.length H
 simpa using this
theorem MapI.nodup {h:Heap}{b:Nat}{kv:List (Int×Value)}(H:MapI h b kv):(kv.map Prod.fst).Nodup:=by
 obtain⟨es,c,_,hs,he⟩:=H
 have h1:es.toList.map (·.key)=(kv.map Prod.fst).map (Value.int .i64):=by
  have:=congrArg (List.map Prod.fst) he
  simpa[List.map_map,Function.comp_def]using this
 have h2:=hs.2.2
 rw[h1]at h2
 unfold List.Nodup at h2 ⊢
 rw[List.pairwise_map]at h2
 exact h2.imp fun h e=>h (by rw[e])
theorem MapI.row {h h':Heap}{b:Nat}{kv:List (Int×Value)}(H:MapI h b kv)(r:h'[b]? =h[b]?):MapI h' b kv:=by
 obtain⟨es,c,h1,h2⟩:=H
 exact⟨es,c,r.trans h1,h2⟩
theorem MapI.lt {h:Heap}{b:Nat}{kv:List (Int×Value)}(H:MapI h b kv):b<h.size:=by
 obtain⟨es,c,h1,_⟩:=H
 exact zaz h1
theorem MapI.fr {M:Nat→Prop}{h h':Heap}{b:Nat}{kv:List (Int×Value)}(H:MapI h b kv)(f:Fr M h h')(hm:¬M b):MapI h' b kv:=H.row (f.2 b H.lt hm)
theorem MapI.ext {h h':Heap}{b:Nat}{kv:List (Int×Value)}(H:MapI h b kv)(e:Ext h h'):MapI h' b kv:=H.row (e.2 b H.lt)
theorem zpK (j:Int):∀(es:List MapEntry) (kv:List (Int×Value)) (i:Nat),esKv es kv→Instr.findNow (.int .i64) (.int .i64 j) es i=some (kFind j kv i)
 | [],kv,i,H=>by
  have:kv=[]:=List.eq_nil_of_length_eq_zero (by rw[←esKv.length H];rfl)
  subst this;rfl
 |e::es,[],i,H=>by have:=esKv.length H;simp at this
 | e::es,(k,v)::kv,i,H=>by
  unfold esKv at H
  simp only[List.map_cons,List.cons.injEq,Prod.mk.injEq]at H
  obtain⟨⟨h1,h2⟩,H⟩:=H
  unfold Instr.findNow kFind
  rw[h1]
  have hs:Instr.sameNow (.int .i64) (.int .i64 j) (.int .i64 k)=some (j==k):=by simp[Instr.sameNow]
  rw[hs]
  by_cases hk:k=j
  ·subst hk
   simp[h2]
  ·have hk':(j==k)=false:=by simp;exact fun h=>hk h.symm
   rw[hk',if_neg hk]
   exact zpK j es kv (i+1) H
theorem zpE {α:Type}(j:Int):∀(kv:List (Int×α)) (i:Nat),(kFind j kv i).map Prod.snd=kGet j kv
 | [],_=>rfl
 |(k,v)::r,i=>by
  unfold kFind kGet
  split
  ·rfl
  ·exact zpE j r (i+1)
theorem zgd {α:Type}{j:Int}:∀{kv:List (Int×α)},kGet j kv=none↔j∉kv.map Prod.fst
 | []=>by simp[kGet]
 |(k,v)::r=>by
  unfold kGet
  by_cases hk:k=j
  ·simp[hk]
  ·simp[hk,zgd (kv:=r),Ne.symm hk]
theorem zq4 {α:Type}{j:Int}{kv:List (Int×α)}{i:Nat}(h:kFind j kv i=none):kGet j kv=none:=by
 rw[←zpE j kv i,h];rfl
theorem znl {α:Type}{j:Int}:∀{kv:List (Int×α)} {i m:Nat} {v:α},kFind j kv i=some (m,v)→i≤m∧kv[m-i]? =some (j,v)∧(∀u,kPut j u kv=kv.set (m-i) (j,u))∧kDel j kv=kv.eraseIdx (m-i)
 | [],_,_,_,h=>by cases h
 | (k,v)::r,i,m,u,h=>by
  unfold kFind at h
  split at h
  ·rename_i hk
   cases h
   subst hk
   simp[kPut,kDel]
  ·rename_i hk
   obtain⟨h1,h2,h3,h4⟩:=znl h
   have hm:m-i=(m-(i+1))+1:=by omega
   refine⟨by omega,?_,fun u=>?_,?_⟩
   ·rw[hm];simpa using h2
   ·rw[hm];simp[kPut,hk,h3 u]
   ·rw[hm];simp[kDel,hk,h4]
theorem zpF {α:Type}{j:Int}{v:α}:∀{kv:List (Int×α)},kGet j kv=some v→kv.Perm ((j,v)::kDel j kv)
 | (k,u)::r,h=>by
  unfold kGet at h
  unfold kDel
  split at h
  ·rename_i hk
   cases h;subst hk
   rw[if_pos rfl]
  ·rename_i hk
   rw[if_neg hk]
   exact((zpF h).cons (k,u)).trans (List.Perm.swap ..)
theorem zsG {α:Type}{j:Int}{v:α}:∀{kv:List (Int×α)},kGet j kv=some v→(j,v)∈kv
 | (k,u)::r,h=>by
  unfold kGet at h
  split at h
  ·rename_i hk
   cases h;subst hk
   exact List.mem_cons_self ..
  ·exact List.mem_cons_of_mem _ (zsG h)
theorem zpD {α:Type}{j:Int}{v:α}:∀{kv:List (Int×α)},(kv.map Prod.fst).Nodup→(j,v)∈kv→kGet j kv=some v
 | (k,u)::r,hn,h=>by
  unfold kGet
  rw[List.map_cons,List.nodup_cons]at hn
  rcases List.mem_cons.1 h with h|h
  ·cases h;rw[if_pos rfl]
  ·rw[if_neg]
   ·exact zpD hn.2 h
   ·rintro rfl
    exact hn.1 (List.mem_map.2 ⟨_,h,rfl⟩)
theorem zoF {α:Type}{j i:Int}:∀{kv:List (Int×α)},(kv.map Prod.fst).Nodup→kGet i (kDel j kv)=if i=j then none else kGet i kv
 | [],_=>by simp[kDel,kGet]
 | (k,u)::r,hn=>by
  rw[List.map_cons,List.nodup_cons]at hn
  unfold kDel
  by_cases hk:k=j
  ·subst hk
   rw[if_pos rfl]
   by_cases hi:i=k
   ·subst hi;rw[if_pos rfl];exact zgd.2 hn.1
   ·rw[if_neg hi,kGet,if_neg (Ne.symm hi)]
  ·rw[if_neg hk]
   unfold kGet
   by_cases hki:k=i
   ·subst hki;rw[if_pos rfl,if_neg hk,if_pos rfl]
   ·rw[if_neg hki,if_neg hki];exact zoF hn.2
theorem zsH {α:Type}{j:Int}:∀{kv:List (Int×α)},(kDel j kv).Sublist kv
 | []=>List.Sublist.refl _
 |(k,u)::r=>by
  unfold kDel
  split
  ·exact List.sublist_cons_self ..
  ·exact zsH.cons_cons _
def lookR (ok:Bool)(z:Value):Option Value→Value
 |some v=>bif ok then .tuple #[v,.bool true]else v
 |none=>bif ok then .tuple #[z,.bool false]else z
theorem zsA {h:Heap}{b:Nat}{kv:List (Int×Value)}(H:MapI h b kv)(z:Value)(ok:Bool)(j:Int):lookV (.int .i64) z ok h (.map (some b)) (.int .i64 j)=some (lookR ok z (kGet j kv)):=by
 obtain⟨es,c,hb,_,he⟩:=H
 have hm:mapAt h (.map (some b))=some (es,c):=by unfold mapAt;simp[hb]
 unfold lookV
 simp only[hm,zpK j es.toList kv 0 he]
 rw[←zpE j kv 0]
 cases kFind j kv 0 with
 |none=>rfl
 |some p=>rfl
theorem len_map {h:Heap}{b:Nat}{kv:List (Int×Value)}(H:MapI h b kv):lenmV h (.map (some b))=some (.int .i64 (kv.length:Nat)):=by
 obtain⟨es,c,hb,_,he⟩:=H
 unfold lenmV
 simp only[hb]
 rw[←he.length,Array.length_toList]
theorem zsF {α:Type}{j:Int}{v:α}:∀{kv:List (Int×α)},kGet j kv=none→kPut j v kv=kv++[(j,v)]
 | [],_=>rfl
 | (k,u)::r,h=>by
  unfold kGet at h
  split at h
  ·cases h
  ·rename_i hk
   simp[kPut,hk,zsF h]
theorem kDel_none {α:Type}{j:Int}:∀{kv:List (Int×α)},kGet j kv=none→kDel j kv=kv
 | [],_=>rfl
 | (k,u)::r,h=>by
  unfold kGet at h
  split at h
  ·cases h
  ·rename_i hk
   simp[kDel,hk,kDel_none h]
theorem put_map {h:Heap}{b:Nat}{kv:List (Int×Value)}{j:Int}{v:Value}{K:Value→Heap→Prop}(H:MapI h b kv)(HK:∀h',MapI h' b (kPut j v kv)→Upd b h h'→K undef h'):
  zh1 (.int .i64) (.map (some b)) (.int .i64 j) v h K:=by
 obtain⟨es,c,hb,hs,he⟩:=H
 unfold zh1
 simp only[hb,zpK j es.toList kv 0 he]
 cases hf:kFind j kv 0 with
 | none=>
  have hg:=zq4 hf
  simp only
  refine HK _ ⟨_,_,zf2 hb,stamped_push hs fun x hx hxk=>?_,?_⟩ Upd.set
  ·have h1:j∈kv.map Prod.fst:=by
    have:(x.key,x.val)∈kv.map fun p=>(Value.int .i64 p.1,p.2):=by rw[←he];exact List.mem_map.2 ⟨x,hx,rfl⟩
    obtain⟨p,hp,hpe⟩:=List.mem_map.1 this
    rw[hxk]at hpe
    have h2:=congrArg Prod.fst hpe
    simp at h2
    exact List.mem_map.2 ⟨p,hp,h2⟩
   exact zgd.1 hg h1
  ·unfold esKv at he ⊢
   rw[zsF hg,Array.toList_push,List.map_append,he,List.map_append]
   rfl
 | some p=>
  obtain⟨i,u⟩:=p
  obtain⟨_,h2,h3,_⟩:=znl hf
  rw[Nat.sub_zero]at h2 h3
  have hi:i<kv.length:=(List.getElem?_eq_some_iff.1 h2).1
  have hi':i<es.size:=by rw[←Array.length_toList,he.length];exact hi
  have hkey:es[i].key=.int .i64 j:=by
   have h4:=congrArg (fun l=>(l[i]?).map Prod.fst) he
   simp only[List.getElem?_map,h2,Option.map_some,Array.getElem?_toList,Array.getElem?_eq_getElem hi']at h4
   exact Option.some.inj h4
  simp only
  refine⟨?_,HK _ ⟨_,_,zf2 hb,stamped_modify hs i _ (fun e _=>rfl) (fun e _ hx=>?_),?_⟩ Upd.set⟩
  ·rw[Array.getElem?_eq_getElem hi']
   simp only[Option.map_some,Option.getD_some,hkey]
   simp[Instr.sameBits]
  ·rw[Array.getElem?_eq_getElem hi']at hx
   cases hx
   exact hkey.symm
  ·rw[h3]
   unfold esKv at he ⊢
   apply List.ext_getElem?
   intro m
   have hem:=congrArg (fun l=>l[m]?) he
   simp only[List.getElem?_map,Array.getElem?_toList]at hem ⊢
   rw[Array.getElem?_modify,List.getElem?_set]
   by_cases hm:i=m
   ·subst hm
    rw[if_pos rfl,if_pos rfl,if_pos hi,Array.getElem?_eq_getElem hi']
    rfl
   ·rw[if_neg hm,if_neg hm]
    exact hem
theorem zpt {α β:Type}(f:α→β):∀(l:List α) (i:Nat),(l.eraseIdx i).map f=(l.map f).eraseIdx i
 | [],_=>rfl
 |a::l,0=>rfl
 |a::l,i+1=>by simp[zpt f l i]
theorem esKv.key {es:List MapEntry}{kv:List (Int×Value)}(H:esKv es kv){e:MapEntry}(he:e∈es):∃j,e.key=.int .i64 j∧(j,e.val)∈kv:=by
 have:(e.key,e.val)∈kv.map fun p=>(Value.int .i64 p.1,p.2):=by rw[←H];exact List.mem_map.2 ⟨e,he,rfl⟩
 obtain⟨p,hp,hpe⟩:=List.mem_map.1 this
 have h1:=congrArg Prod.fst hpe
 have h2:=congrArg Prod.snd hpe
 simp only at h1 h2
 exact⟨p.1,h1.symm,by rw[←h2];exact hp⟩
theorem del_map' {h:Heap}{b:Nat}{kv:List (Int×Value)}{j:Int}{K:Value→Heap→Prop}(H:MapI h b kv)
  (HK:∀h',MapI h' b (kDel j kv)→Upd b h h'→(∀es c,h[b]? =some (.map es c)→∃es',h'[b]? =some (.map es' c)∧∀e∈es',e∈es∧e.key≠ .int .i64 j)→K (.tuple #[]) h'):
  zgb (.int .i64) (.map (some b)) (.int .i64 j) h K:=by
 have H0:=H
 have hnd:=H.nodup
 obtain⟨es,c,hb,hs,he⟩:=H
 have sub:∃h',MapI h' b (kDel j kv)∧Upd b h h'∧(∃es',h'[b]? =some (.map es' c)∧(∀e∈es',e∈es)∧esKv es'.toList (kDel j kv))∧∀K:Value→Heap→Prop,K (.tuple #[]) h'→zgb (.int .i64) (.map (some b)) (.int .i64 j) h K:=by
  cases hf:kFind j kv 0 with
  |none=>
   have hk:esKv es.toList (kDel j kv):=by rw[kDel_none (zq4 hf)];exact he
   refine⟨_,⟨es,c,zf2 hb,hs,hk⟩,Upd.set,⟨es,zf2 hb,fun e h=>h,hk⟩,fun K hK=>?_⟩
   unfold zgb
   simp only[hb,zpK j es.toList kv 0 he,hf]
   exact hK
  | some p=>
   obtain⟨i,u⟩:=p
   obtain⟨_,h2,_,h4⟩:=znl hf
   rw[Nat.sub_zero]at h2 h4
   have hi:i<kv.length:=(List.getElem?_eq_some_iff.1 h2).1
   have hi':i<es.size:=by rw[←Array.length_toList,he.length];exact hi
   have hk:esKv (es.eraseIdxIfInBounds i).toList (kDel j kv):=by
    rw[h4]
    unfold esKv at he ⊢
    rw[Array.eraseIdxIfInBounds,dif_pos hi']
    have:(es.eraseIdx i hi').toList=es.toList.eraseIdx i:=by simp
    rw[this,zpt,he,←zpt]
   refine⟨_,⟨_,_,zf2 hb,stamped_erase hs i,hk⟩,Upd.set,⟨_,zf2 hb,fun e h=>?_,hk⟩,fun K hK=>?_⟩
   ·rw[Array.eraseIdxIfInBounds,dif_pos hi',←Array.mem_toList_iff,Array.toList_eraseIdx]at h
    rw[←Array.mem_toList_iff]
    exact(List.eraseIdx_sublist ..).subset h
   ·unfold zgb
    simp only[hb,zpK j es.toList kv 0 he,hf]
    exact hK
 obtain⟨h',m',u',⟨es',hb',hsub,hkv⟩,hK⟩:=sub
 refine hK K (HK h' m' u' fun es0 c0 h0=>?_)
 rw[hb]at h0
 cases h0
 refine⟨es',hb',fun e h=>⟨hsub e h,fun hkey=>?_⟩⟩
 obtain⟨i,hi,hm⟩:=hkv.key (Array.mem_toList_iff.2 h)
 rw[hkey]at hi
 cases hi
 have h1:=zpD m'.nodup hm
 rw[zoF hnd,if_pos rfl]at h1
 cases h1
theorem new_map {h:Heap}{K:Value→Heap→Prop}(HK:∀b h',MapI h' b []→Ext h h'→h.size≤b→K (.map (some b)) h'):newmK h K:=
 HK h.size _ ⟨#[],0,zjU,stamped_empty 0,rfl⟩ (Ext.push h _) (Nat.le_refl _)
end
end Go.Crisp
namespace Go.Proofs.YtcoimlclclnlkaaGreatDoor
open Go Go.Crisp
open _root_.Go.Proofs.Tryz
def zmZ:Go.Shelf.Ren:=⟨fun n=>match n with|8=>258|11=>283|n=>n,fun n=>match n with|0=>0|24=>28|26=>2|28=>351|33=>317|n=>n,fun n=>n⟩
theorem zsE:Go.Proofs.SlLaysZI.n8 prog zmZ where
 mixed:=by kernel_rfl
 f8:=⟨"slices.Collect[int64]",by kernel_rfl,by kernel_rfl⟩
 f11:=⟨"slices.AppendSeq[[]int64,int64]",by kernel_rfl,by kernel_rfl⟩
 t0:=by kernel_rfl
 a0:=fun w=>zaC (by kernel_rfl)
 z0:=fun w=>zao (by kernel_rfl)
 v0:=fun w=>zan (by kernel_rfl)
 t24:=by kernel_rfl
 a24:=fun w=>zaC (by kernel_rfl)
 z24:=fun w=>zao (by kernel_rfl)
 v24:=fun w=>zan (by kernel_rfl)
 t26:=by kernel_rfl
 a26:=fun w=>zaC (by kernel_rfl)
 z26:=fun w=>zao (by kernel_rfl)
 v26:=fun w=>zan (by kernel_rfl)
 t28:=by kernel_rfl
 a28:=fun w=>zaC (by kernel_rfl)
 z28:=fun w=>zao (by kernel_rfl)
 v28:=fun w=>zan (by kernel_rfl)
 i26:=by kernel_rfl
def zkP:Go.Shelf.Ren:=⟨fun n=>match n with|10=>284|n=>n,fun n=>match n with|0=>0|3=>28|4=>4|23=>236|26=>2|33=>317|n=>n,fun n=>n⟩
theorem zq3:Go.Proofs.SlLaysZI.n10 prog zkP where
 mixed:=by kernel_rfl
 f10:=⟨"maps.Keys[map[int64][]int64,int64,[]int64]$1",by kernel_rfl,by kernel_rfl⟩
 t0:=by kernel_rfl
 a0:=fun w=>zaC (by kernel_rfl)
 z0:=fun w=>zao (by kernel_rfl)
 v0:=fun w=>zan (by kernel_rfl)
 t4:=by kernel_rfl
 a4:=fun w=>zaC (by kernel_rfl)
 z4:=fun w=>zao (by kernel_rfl)
 v4:=fun w=>zan (by kernel_rfl)
 t23:=by kernel_rfl
 a23:=fun w=>zaC (by kernel_rfl)
 z23:=fun w=>zao (by kernel_rfl)
 v23:=fun w=>zan (by kernel_rfl)
 t26:=by kernel_rfl
 a26:=fun w=>zaC (by kernel_rfl)
 z26:=fun w=>zao (by kernel_rfl)
 v26:=fun w=>zan (by kernel_rfl)
 t33:=by kernel_rfl
 a33:=fun w=>zaC (by kernel_rfl)
 z33:=fun w=>zao (by kernel_rfl)
 v33:=fun w=>zan (by kernel_rfl)
def vi (x:Int):Value:=.int .i64 x
def Ints (h:Heap)(v:Value)(l:List Int):Prop:=
 ∃a cap,v=.slice a l.length cap∧(l=[]∨∃b o,a=some ⟨b,o,none⟩∧∀i (hi:i<l.length),zah h ⟨b,o+i,none⟩=some (vi l[i]))
theorem Ints.ext {h h':Heap}{v:Value}{l:List Int}(H:Ints h v l)(e:Ext h h'):Ints h' v l:=by
 obtain⟨a,cap,rfl,hl⟩:=H
 refine⟨a,cap,rfl,hl.imp id ?_⟩
 rintro⟨b,o,rfl,hc⟩
 exact⟨b,o,rfl,fun i hi=>e.cell (hc i hi)⟩
def zrt (a b:List Int):Bool:=decide (a.length=b.length)&&(a.zip b).all fun p=>decide (p.1≤p.2)
theorem zrs {a b:List Int}(h:a.length=b.length):zrt a b=true↔ ∀i (hi:i<a.length),a[i]≤b[i]'(h▸hi):=by
 simp only[zrt,h,decide_true,Bool.true_and,List.all_eq_true,decide_eq_true_eq]
 constructor
 ·intro H i hi
  have:=H (a[i],b[i]'(h▸hi)) (by rw[List.mem_iff_getElem];exact⟨i,by simp;omega,by simp⟩)
  exact this
 ·intro H p hp
  obtain⟨i,hi,rfl⟩:=List.mem_iff_getElem.1 hp
  simp only[List.length_zip]at hi
  simpa using H i (by omega)
theorem c_below {h:Heap}{a b:Value}{la lb:List Int}(ha:Ints h a la)(hb:Ints h b lb)(hn:la.length≤9223372036854775807):
  FCall prog ziv #[a,b] h fun v h'=>v=.bool (zrt la lb)∧h'=h:=by
 apply zqz
 unfold zkL
 obtain⟨A,ca,rfl,hA⟩:=ha
 obtain⟨B,cb,rfl,hB⟩:=hb
 simp only[zpz,zaa,zh8]
 refine zc3 (fun hne=>?_) (fun he=>?_)
 ·refine⟨?_,trivial⟩
  have:¬la.length=lb.length:=by simp at hne;omega
  simp[zrt,this]
 ·have hl:la.length=lb.length:=by simp at he;omega
  refine za1 (fun d xs h'=>h'=h∧∃k:Nat,k+d=la.length∧xs=[.int .i64 k]∧∀i (hi:i<k) (h1:i<la.length),la[i]≤lb[i]'(hl▸h1)) la.length ⟨rfl,0,by omega,rfl,fun i hi=>by omega⟩ ?_
  rintro d _ ρj _ again ⟨rfl,k,hk,rfl,hinv⟩ hag
  simp only[ix_0,zbp,zaa]
  refine zac (fun hlt=>?_) (fun hge=>?_)
  ·have hk1:k<la.length:=by omega
   have hk2:k<lb.length:=by omega
   rcases hA with rfl|⟨b1,o1,rfl,hA⟩
   ·simp at hk1
   rcases hB with rfl|⟨b2,o2,rfl,hB⟩
   ·simp at hk2
   simp only[zgW hk1,zgW hk2,zaa,znk,Nat.mul_one,hA k hk1,hB k hk2,vi,zjZ]
   refine zac (fun hgt=>?_) (fun hle=>?_)
   ·refine⟨?_,trivial⟩
    congr 1
    rw[eq_comm,Bool.eq_false_iff]
    intro hall
    have:=(zrs hl).1 hall k hk1
    omega
   ·simp only[za6,zaa]
    rw[w64 (by omega) (by omega)]
    refine hag _ _ (d-1) (by omega) ⟨rfl,k+1,by omega,rfl,fun i hi h1=>?_⟩
    rcases Nat.lt_succ_iff_lt_or_eq.1 hi with hi|rfl
    ·exact hinv i hi h1
    ·omega
  ·refine⟨?_,trivial⟩
   congr 1
   rw[eq_comm,zrs hl]
   intro i hi
   exact hinv i (by omega) hi
theorem eq_list {a b:List Int}(h:a.length=b.length):a=b↔ ∀i (hi:i<a.length),a[i]=b[i]'(h▸hi):=
 ⟨fun e i hi=>by subst e;rfl,fun H=>List.ext_getElem h fun i h1 h2=>H i h1⟩
theorem c_slEqual {h:Heap}{a b:Value}{la lb:List Int}(ha:Ints h a la)(hb:Ints h b lb)(hn:la.length≤9223372036854775807):
  FCall prog zbk #[a,b] h fun v h'=>v=.bool (decide (la=lb))∧h'=h:=by
 apply zee
 unfold zch
 obtain⟨A,ca,rfl,hA⟩:=ha
 obtain⟨B,cb,rfl,hB⟩:=hb
 simp only[zpz,zaa,zh8]
 refine zc3 (fun hne=>?_) (fun he=>?_)
 ·refine⟨?_,trivial⟩
  have:¬la=lb:=fun e=>by subst e;simp at hne
  simp[this]
 ·have hl:la.length=lb.length:=by simp at he;omega
  refine za1 (fun d xs h'=>h'=h∧∃k:Nat,k+d=la.length∧xs=[.int .i64 k]∧∀i (hi:i<k) (h1:i<la.length),la[i]=lb[i]'(hl▸h1)) la.length ⟨rfl,0,by omega,rfl,fun i hi=>by omega⟩ ?_
  rintro d _ ρj _ again ⟨rfl,k,hk,rfl,hinv⟩ hag
  simp only[ix_0,zbp,zaa]
  refine zac (fun hlt=>?_) (fun hge=>?_)
  ·have hk1:k<la.length:=by omega
   have hk2:k<lb.length:=by omega
   rcases hA with rfl|⟨b1,o1,rfl,hA⟩
   ·simp at hk1
   rcases hB with rfl|⟨b2,o2,rfl,hB⟩
   ·simp at hk2
   simp only[zgW hk1,zgW hk2,zaa,znk,Nat.mul_one,hA k hk1,hB k hk2,vi,zh8]
   refine zc3 (fun hgt=>?_) (fun hle=>?_)
   ·refine⟨?_,trivial⟩
    congr 1
    rw[eq_comm,decide_eq_false_iff_not]
    intro hall
    have:=(eq_list hl).1 hall k hk1
    simp[this]at hgt
   ·simp only[za6,zaa]
    rw[w64 (by omega) (by omega)]
    refine hag _ _ (d-1) (by omega) ⟨rfl,k+1,by omega,rfl,fun i hi h1=>?_⟩
    rcases Nat.lt_succ_iff_lt_or_eq.1 hi with hi|rfl
    ·exact hinv i hi h1
    ·simpa using hle
  ·refine⟨?_,trivial⟩
   congr 1
   rw[eq_comm,decide_eq_true_eq,eq_list hl]
   intro i hi
   exact hinv i (by omega) hi
theorem c_Equal {h:Heap}{a b:Value}{la lb:List Int}(ha:Ints h a la)(hb:Ints h b lb)(hn:la.length≤9223372036854775807):
  FCall prog ziw #[a,b] h fun v h'=>v=.bool (decide (la=lb))∧h'=h:=by
 apply zqA
 unfold zkM
 refine(c_slEqual ha hb hn).mono ?_
 rintro _ _ ⟨rfl,rfl⟩
 exact⟨rfl,rfl⟩
def zrw (a b:List Int):Bool:=zrt a b&& !decide (a=b)
theorem c_Ahead {h:Heap}{a b:Value}{la lb:List Int}(ha:Ints h a la)(hb:Ints h b lb)(hn:la.length≤9223372036854775807):
  FCall prog zfE #[a,b] h fun v h'=>v=.bool (zrw la lb)∧h'=h:=by
 apply zqB
 unfold zkN
 refine(c_below ha hb hn).mono ?_
 rintro _ _ ⟨rfl,rfl⟩
 cases hbl:zrt la lb with
 |false=>simp only[go_sem];exact⟨by simp[zrw,hbl],trivial⟩
 |true=>
  simp only[go_sem]
  refine(c_Equal ha hb hn).mono ?_
  rintro _ _ ⟨rfl,rfl⟩
  simp only[go_sem]
  exact⟨by simp[zrw,hbl],trivial⟩
end Go.Proofs.YtcoimlclclnlkaaGreatDoor
namespace Go.Proofs.YtcoimlclclnlkaaGreatDoor
open Go Go.Crisp
attribute [local irreducible] FCall rowK newK stK iteK vK qK drawK gK joinK loopK mkK appK cpyK
open _root_.Go.Proofs.Tryz
def OwnI (h:Heap)(v:Value)(l:List Int):Prop:=Own 1 h v l.length (l.map vi)
theorem Ints.sl {h:Heap}{v:Value}{l:List Int}(H:Ints h v l):SlC 1 h v l.length (l.map vi):=by
 obtain⟨a,cap,rfl,H⟩:=H
 refine⟨by simp,a,cap,rfl,?_⟩
 rcases H with rfl|⟨b,o,rfl,H⟩
 ·exact .inl rfl
 ·exact .inr ⟨b,o,rfl,fun j hj=>by rw[List.getElem_map];exact H j (by simpa using hj)⟩
theorem ints_sl {h:Heap}{v:Value}{l:List Int}(H:SlC 1 h v l.length (l.map vi)):Ints h v l:=by
 obtain⟨_,a,cap,rfl,H⟩:=H
 refine⟨a,cap,rfl,?_⟩
 rcases H with H|⟨b,o,rfl,H⟩
 ·exact .inl (by simpa using H)
 ·refine .inr ⟨b,o,rfl,fun j hj=>?_⟩
  have:=H j (by simpa using hj)
  rw[List.getElem_map]at this
  exact this
theorem OwnI.ints {h:Heap}{v:Value}{l:List Int}(H:OwnI h v l):Ints h v l:=ints_sl (Own.sl H)
theorem vi_one {l:List Int}:∀v∈l.map vi,zam v=true:=by
 intro v hv
 obtain⟨x,_,rfl⟩:=List.mem_map.1 hv
 rfl
def joinL (a b:List Int):List Int:=(List.range (max a.length b.length)).map fun i=>max (a.getD i 0) (b.getD i 0)
theorem zjw (a b:List Int):(joinL a b).length=max a.length b.length:=by simp[joinL]
theorem set_range (n:Nat)(f:Nat→Int)(i:Nat)(x:Int):(((List.range n).map f).map vi).set i (vi x)=((List.range n).map fun k=>if k=i then x else f k).map vi:=by
 apply List.ext_getElem
 ·simp
 ·intro k h1 h2
  rw[List.getElem_set]
  simp only[List.getElem_map,List.getElem_range, @eq_comm _ k i]
  split<;>rfl
theorem zsL {l:List Int}{k:Nat}(h:k<l.length):l.getD k 0=l[k]:=by simp[List.getD,h]
theorem zsK {l:List Int}{k:Nat}(h:l.length≤k):l.getD k 0=0:=by simp[List.getD,List.getElem?_eq_none h]
theorem c_Join {h:Heap}{v u:Value}{a b:List Int}(ha:Ints h v a)(hb:Ints h u b)(la:a.length≤4398046511104)(lb:b.length≤4398046511104):
  FCall prog zjP #[v,u] h fun r h'=>OwnI h' r (joinL a b)∧Ext h h'∧∀k,blk r k→h.size≤k:=by
 apply zsp
 unfold zl6
 obtain⟨aa,ac,rfl,_⟩:=ha
 obtain⟨ba,bc,rfl,_⟩:=hb
 have ha':Ints h (.slice aa a.length ac) a:=⟨_,_,rfl,by assumption⟩
 have hb':Ints h (.slice ba b.length bc) b:=⟨_,_,rfl,by assumption⟩
 simp only[go_sem]
 rw[show max (a.length:Int) (b.length:Int)=((max a.length b.length:Nat):Int)by omega]
 generalize hn:max a.length b.length=n
 refine zha rfl (by omega) (by omega) fun s h1 o1 e1 n1=>?_
 refine zoJ o1 (ha'.ext e1).sl vi_one fun h2 o2 f2 _=>?_
 have e2:Ext h h2:=e1.then_fr f2 n1
 have hs2:Own 1 h2 s n (((List.range n).map fun k=>a.getD k 0).map vi):=by
  have:(a.map vi).take n++(List.replicate n (Value.int .i64 0)).drop a.length=((List.range n).map fun k=>a.getD k 0).map vi:=by
   apply List.ext_getElem
   ·simp;omega
   ·intro k h1 h2
    simp only[List.getElem_map,List.getElem_range,List.getElem_append,List.getElem_take,List.getElem_drop,List.getElem_replicate]
    split
    ·rename_i hk
     rw[List.length_take,List.length_map]at hk
     rw[zsL (show k<a.length by omega)]
    ·rename_i hk
     rw[List.length_take,List.length_map]at hk
     simp at h2
     rw[zsK (show a.length≤k by omega)]
     rfl
  rw[←this];exact o2
 refine znj b.length (fun k h'=>k≤b.length∧Own 1 h' s n (((List.range n).map fun j=>if j<k then max (a.getD j 0) (b.getD j 0)else a.getD j 0).map vi)∧Ext h h') ⟨Nat.zero_le _,by simpa using hs2,e2⟩ ?_
 rintro k h3 again ρj ⟨hkl,o3,e3⟩ hag
 simp only[go_sem]
 refine zac (fun hk=>?_) (fun hk=>?_)
 ·have hk:k<b.length:=by omega
  obtain⟨p,hp,hq⟩:=(hb'.ext e3).sl.at1 (k:=.i64) hk
  rw[List.getElem_map]at hq
  obtain⟨p',hp',hq',hst⟩:=o3.at1 (k:=.i64) (i:=k) (by omega)
  have hfin:∀x:Int,x=max (a.getD k 0) (b.getD k 0)→stK 1 p' (.int .i64 x) h3 fun v27 h28=>again [.int .i64 (IntKind.i64.wrap ((k:Int)+1))] h28:=by
   intro x hx
   refine hst _ _ rfl fun h4 o4 f4 _=>?_
   rw[w64 (by omega) (by omega)]
   refine hag h4 hk ⟨hk,?_,e3.then_fr f4 n1⟩
   rw[show(Value.int .i64 x)=vi x from rfl,set_range]at o4
   refine(congrArg (fun l:List Int=>Own 1 h4 s n (l.map vi)) ?_).mp o4
   apply List.map_congr_left
   intro j _
   subst hx
   by_cases h1:j=k
   ·subst h1;simp
   ·simp only[h1,if_false]
    by_cases h2:j<k
    ·simp[h2,Nat.lt_succ_of_lt h2]
    ·simp[h2,show¬j<k+1 by omega]
  simp only[go_sem,hp,hq,vi]
  refine zac (fun hge=>?_) (fun hlt=>?_)
  ·simp only[go_sem,hp']
   refine hfin _ ?_
   rw[zsK (show a.length≤k by omega),zsL hk]
  ·simp only[go_sem,hp',hq']
   rw[List.getElem_map,List.getElem_map,List.getElem_range,if_neg (Nat.lt_irrefl k)]
   simp only[vi,go_sem]
   exact hfin _ (by rw[zsL hk])
 ·obtain rfl:k=b.length:=by omega
  refine loop_from a.length b.length (fun k h'=>Own 1 h' s n (((List.range n).map fun j=>if j<k then max (a.getD j 0) (b.getD j 0)else a.getD j 0).map vi)∧Ext h h') ⟨o3,e3⟩ ?_
  rintro k h3 again ρj hk0 ⟨o3,e3⟩ hag
  simp only[go_sem]
  refine zac (fun hk=>?_) (fun hk=>?_)
  ·have hk:k<a.length:=by omega
   obtain⟨p',hp',hq',hst⟩:=o3.at1 (k:=.i64) (i:=k) (by omega)
   simp only[go_sem,hp',hq']
   rw[List.getElem_map,List.getElem_map,List.getElem_range,if_neg (Nat.lt_irrefl k)]
   simp only[vi,go_sem]
   refine hst _ _ rfl fun h4 o4 f4 _=>?_
   rw[w64 (by omega) (by omega)]
   refine hag h4 hk ⟨?_,e3.then_fr f4 n1⟩
   rw[show(Value.int .i64 (max 0 (a.getD k 0)))=vi (max 0 (a.getD k 0))from rfl,set_range]at o4
   refine(congrArg (fun l:List Int=>Own 1 h4 s n (l.map vi)) ?_).mp o4
   apply List.map_congr_left
   intro j _
   by_cases h1:j=k
   ·subst h1;rw[if_pos rfl,if_pos (Nat.lt_succ_self j),zsK hk0,Int.max_comm]
   ·simp only[h1,if_false]
    by_cases h2:j<k
    ·simp[h2,Nat.lt_succ_of_lt h2]
    ·simp[h2,show¬j<k+1 by omega]
  ·refine⟨?_,e3,n1⟩
   unfold OwnI
   rw[zjw,hn]
   refine(congrArg (fun l:List Int=>Own 1 h3 s n (l.map vi)) ?_).mp o3
   unfold joinL
   rw[hn]
   apply List.map_congr_left
   intro j hj
   rw[if_pos (by have:=List.mem_range.1 hj;omega)]
end Go.Proofs.YtcoimlclclnlkaaGreatDoor
namespace Go.Proofs.YtcoimlclclnlkaaGreatDoor
open Go Go.Crisp Go.MapKept Go.RowKit
attribute [local irreducible] rowK newK stK iteK vK qK drawK gK joinK loopK mkK appK cpyK
open _root_.Go.Proofs.Tryz
theorem own_of_row {w:World}{base:Nat}{e:TypeId}{v:Value}{xs:List Int}(H:w.ownsRow base e 1 v xs.length (xs.map encZ)):OwnI w.heap v xs∧∀b,blk v b→base≤b:=by
 obtain⟨_,H⟩:=H
 rcases H with⟨rfl,hn⟩|⟨g,cap,cur,rfl,hb,hg,hc,_,hs,ht⟩
 ·have:xs=[]:=List.eq_nil_of_length_eq_zero hn
  subst this
  exact⟨.inl ⟨rfl,rfl,rfl⟩,fun b hb=>hb.elim⟩
 ·refine⟨.inr ⟨g,cap,cur.toList.drop xs.length,e,rfl,hc,by simp,?_,?_⟩,fun b h=>by rw[show b=g from h];exact hb⟩
  ·rw[Nat.mul_one]at ht
   rw[show xs.map vi=xs.map encZ from rfl,←ht,List.take_append_drop,Array.length_toList];exact hs
  ·rw[Nat.mul_one]at ht
   rw[show xs.map vi=xs.map encZ from rfl,←ht,List.take_append_drop,Array.toArray_toList];exact hg
theorem below_ext {w w':World}(H:Below w.heap.size w w'):Same w w'∧Ext w.heap w'.heap:=⟨⟨H.os,H.tape,H.output⟩,H.size,fun b hb=>H.block b hb⟩
def noR:Value→Option (DataW Unit×List MemPlace):=fun _=>some (.nil,[])
theorem zpG (x:Lit×DataW Unit):∀l:List (Lit×DataW Unit),(DataW.insert x l).Perm (x::l)
 | []=>List.Perm.refl _
 |y::r=>by
  unfold DataW.insert
  split
  ·exact List.Perm.refl _
  ·exact((zpG x r).cons y).trans (List.Perm.swap x y r)
theorem znr:∀l:List (Lit×DataW Unit),(l.foldr DataW.insert []).Perm l
 | []=>List.Perm.refl _
 |x::l=>by
  rw[List.foldr_cons]
  exact(zpG x _).trans ((znr l).cons x)
theorem owns_map {P:Program}{k:TypeId}{w:World}{b:Nat}{kv:List (Int×Value)}(hk:P.underlying k=some (.int .i64))(H:MapI w.heap b kv)(hw:∀p∈kv,(Lit.int .i64 p.1).wf=true)(hl:kv.length≤maxLen):
  ∃D:DataW Unit,w.ownsMap P k noR b kv.length D∧(intKeys D).Perm (kv.map Prod.fst)∧Go.Maps.size D=kv.length:=by
 obtain⟨es,c,hb,hs,he⟩:=H
 have hlen:=he.length
 have hmem:∀x∈es.toList,∃j,x.key=.int .i64 j∧(Lit.int .i64 j).wf=true:=fun x hx=>by
  have:(x.key,x.val)∈kv.map fun p=>(Value.int .i64 p.1,p.2):=by rw[←he];exact List.mem_map.2 ⟨x,hx,rfl⟩
  obtain⟨p,hp,hpe⟩:=List.mem_map.1 this
  exact⟨p.1,(congrArg Prod.fst hpe).symm,hw p hp⟩
 have hrd:∀x∈es.toList,∀j,x.key=.int .i64 j→(Lit.int .i64 j).wf=true→WideElems.rd P k noR x=some (.int .i64 j,.nil):=fun x hx j hj hwf=>by
  unfold WideElems.rd
  rw[hj]
  simp[keyOf,hk,mapKey,hwf,noR]
 refine⟨.map ((es.toList.map (WideElems.rg P k noR)).foldr DataW.insert []),⟨es,c,hb,⟨by rw[←Array.length_toList,hlen];exact hl,hs,fun x hx=>?_⟩,by rw[←Array.length_toList,hlen];exact Nat.le_refl _,rfl⟩,?_,?_⟩
 ·obtain⟨j,hj,hwf⟩:=hmem x hx
  exact⟨_,hrd x hx j hj hwf⟩
 ·have h1:(es.toList.map (WideElems.rg P k noR)).map (fun p=>_root_.Go.intOf p.1)=kv.map Prod.fst:=by
   have h2:kv.map Prod.fst=(kv.map fun p=>(Value.int .i64 p.1,p.2)).map fun q=>match q.1 with| .int _ n=>n|_=>0:=by simp[List.map_map,Function.comp_def]
   rw[h2,←he,List.map_map,List.map_map]
   refine List.map_congr_left fun x hx=>?_
   obtain⟨j,hj,hwf⟩:=hmem x hx
   simp only[Function.comp_def]
   rw[WideElems.rg_of (hrd x hx j hj hwf),hj]
   rfl
  rw[←h1]
  exact(znr _).map _
 ·show(List.foldr DataW.insert [] _).length=_
  rw[(znr _).length_eq,List.length_map,hlen]
theorem calls_wide {P:Program}{f:FuncId}{args:Array Value}{w:World}{n:Nat}{R R':Ending→World→Prop}(H:CallsIn Fence.wide n P f args w R)(hr:∀e w',R e w'→R' e w'):Calls P f args w R':=(callsIn_wide.1 H).mono hr
theorem c_Collect64 {h:Heap}{b1 b:Nat}{t:TypeId}{kv:List (Int×Value)}(r1:h[b1]? =some (.cells #[.map (some b)] t (0,0)))(hm:MapI h b kv)(hw:∀p∈kv,(Lit.int .i64 p.1).wf=true)(hl:kv.length≤1000000):
  FCall prog zd9 #[.func (.func zaS) #[] #[.pointer (some ⟨b1,0,none⟩)]] h fun r h'=>∃ss:List Int,ss.Perm (kv.map Prod.fst)∧OwnI h' r ss∧Ext h h'∧∀k,blk r k→h.size≤k:=by
 refine FCall.ofCalls (by kernel_rfl) fun w hh=>?_
 subst hh
 obtain⟨D,hD,hp,hs⟩:=owns_map (P:=prog) (k:=(zkP).t 26) zq3.t26 hm hw (by unfold maxLen;omega)
 have seq:=AnyZI.keys_gives zq3 Fence.wide 3 trivial rfl (by omega) b1 b kv.length D w (zaz r1) (show zah w.heap ⟨b1,0,none⟩=_ from by rw[zab r1];rfl) hD
 have:=AnyZI.collect_in zsE Fence.wide 5 trivial trivial rfl (by omega) _ #[.pointer (some ⟨b1,0,none⟩)] trivial (fun args w=>zji (by kernel_rfl)) _ _ (by rw[hs];unfold maxLen;omega) (by rw[hs];omega) w seq
 refine calls_wide this ?_
 rintro e w' ⟨v,ss,rfl,hS,hrow,_,hB⟩
 obtain⟨o,n⟩:=own_of_row hrow
 obtain⟨s,e⟩:=below_ext hB
 exact⟨v,rfl,s,ss,hS.trans hp,o,e,n⟩
end Go.Proofs.YtcoimlclclnlkaaGreatDoor
namespace Go.Proofs.YtcoimlclclnlkaaGreatDoor
open Go Go.Crisp
attribute [local irreducible] FCall rowK newK stK iteK vK qK drawK gK joinK loopK mkK appK cpyK
open _root_.Go.Proofs.Tryz
theorem own_nil {h:Heap}:OwnI h (.slice none 0 0) []:=.inl ⟨rfl,rfl,rfl⟩
theorem zoc (a:Addr)(n c n' c':Nat):binV .sl .eql (.slice (some a) n c) (.slice none n' c')=some (.bool false):=Eq.trans rfl rfl
theorem zod (n c n' c':Nat):binV .sl .eql (.slice none n c) (.slice none n' c')=some (.bool true):=Eq.trans rfl rfl
theorem clone_own {e:TypeId}{h:Heap}{v:Value}{l:List Int}{K:Value→Heap→Prop}(hv:Ints h v l)(hl:l.length≤4398046511104)
  (H:∀r h',OwnI h' r l→Ext h h'→(∀b,blk r b→h.size≤b)→K r h'):rowK #[] e 0 [] h fun v2 h3=>appK (.int .i64 0) e 1 8 v2 v h3 K:=by
 refine zbn (c':=#[]) (by kernel_rfl) fun b h1 r1 e1 n1=>?_
 refine zj1 (n:=0) (cs:=[]) (.inr ⟨b,0,[],e,rfl,Nat.le_refl _,rfl,rfl,r1⟩) (hv.ext e1).sl vi_one rfl (by omega) (by omega) fun s' h2 o2 f2 n2=>?_
 rw[Nat.zero_add,List.nil_append]at o2
 refine H s' h2 o2 (e1.then_fr f2 fun i hi=>by rw[show i=b from hi];exact n1) fun k hk=>?_
 rcases n2 k hk with h3|h3
 ·rw[show k=b from h3];exact n1
 ·exact Nat.le_trans e1.1 h3
theorem c_Clone {h:Heap}{v:Value}{l:List Int}(hv:Ints h v l)(hl:l.length≤4398046511104):
  FCall prog zaT #[v] h fun r h'=>OwnI h' r l∧Ext h h'∧∀b,blk r b→h.size≤b:=by
 apply zef
 unfold zci
 have hv0:=hv
 obtain⟨a,cap,rfl,hv⟩:=hv
 cases a with
 |none=>
  simp only[zod,go_sem]
  rcases hv with rfl|⟨b,o,h1,_⟩
  ·exact⟨own_nil,Ext.refl h,fun b hb=>hb.elim⟩
  ·cases h1
 |some a=>
  simp only[zoc,go_sem]
  exact clone_own hv0 hl fun r h' o e n=>⟨o,e,n⟩
structure zex (M:Nat→Prop)(h:Heap)(bc:Nat)(sl:Value)(sv:Nat→Value)(t:TypeId)(n:Nat)(rows:Nat→List Int):Prop where
 var:h[bc]? =some (.cells #[sl] t (0,0))
 arr:Own 1 h sl n ((List.range n).map sv)
 row:∀i,i<n→OwnI h (sv i) (rows i)
 len:∀i,i<n→(rows i).length=n
 pos:1≤n∧n≤512
 inM:M bc∧(∀b,blk sl b→M b)∧∀i,i<n→∀b,blk (sv i) b→M b
 ap1:¬blk sl bc
 ap2:∀i,i<n→∀b,blk (sv i) b→b≠bc∧¬blk sl b
 ap3:∀i j,i<n→j<n→i≠j→∀b,blk (sv i) b→¬blk (sv j) b
 lt:∀b,M b→b<h.size
def zbQ (M:Nat→Prop)(h:Heap)(v:Value)(n:Nat)(rows:Nat→List Int):Prop:=
 ∃bc sl sv t,v=.pointer (some ⟨bc,0,none⟩)∧zex M h bc sl sv t n rows
theorem zex.fr {M Q:Nat→Prop}{h h':Heap}{bc:Nat}{sl:Value}{sv:Nat→Value}{t:TypeId}{n:Nat}{rows:Nat→List Int}(C:zex M h bc sl sv t n rows)(f:Fr Q h h')(hq:∀b,b<h.size→M b→¬Q b):zex M h' bc sl sv t n rows:=
 {C with
  var:=f.row C.var (hq bc (C.lt _ C.inM.1) C.inM.1)
  arr:=C.arr.fr f fun b hb=>hq b (C.lt _ (C.inM.2.1 b hb)) (C.inM.2.1 b hb)
  row:=fun i hi=>(C.row i hi).fr f fun b hb=>hq b (C.lt _ (C.inM.2.2 i hi b hb)) (C.inM.2.2 i hi b hb)
  lt:=fun b hb=>Nat.lt_of_lt_of_le (C.lt b hb) f.1}
theorem zex.ext {M:Nat→Prop}{h h':Heap}{bc:Nat}{sl:Value}{sv:Nat→Value}{t:TypeId}{n:Nat}{rows:Nat→List Int}(C:zex M h bc sl sv t n rows)(e:Ext h h'):zex M h' bc sl sv t n rows:=C.fr (Q:=fun _=>False) e.fr fun _ _ _=>id
theorem zbQ.fr {M Q:Nat→Prop}{h h':Heap}{v:Value}{n:Nat}{rows:Nat→List Int}(H:zbQ M h v n rows)(f:Fr Q h h')(hq:∀b,b<h.size→M b→¬Q b):zbQ M h' v n rows:=by
 obtain⟨bc,sl,sv,t,rfl,C⟩:=H
 exact⟨bc,sl,sv,t,rfl,C.fr f hq⟩
theorem zbQ.ext {M:Nat→Prop}{h h':Heap}{v:Value}{n:Nat}{rows:Nat→List Int}(H:zbQ M h v n rows)(e:Ext h h'):zbQ M h' v n rows:=H.fr (Q:=fun _=>False) e.fr fun _ _ _=>id
theorem c_in {M:Nat→Prop}{h:Heap}{v:Value}{n:Nat}{rows:Nat→List Int}(H:zbQ M h v n rows)(i:Int):
  FCall prog zcE #[v,.int .i64 i] h fun r h'=>r=.bool (decide (0≤i∧i<n))∧h'=h:=by
 obtain⟨bc,sl,sv,t,rfl,C⟩:=H
 apply zni
 unfold zhF
 have hs:=C.arr.sl
 obtain⟨_,a,cap,rfl,_⟩:=hs
 by_cases h0:0≤i
 ·simp only[go_sem,h0,zab C.var,true_and,and_true]
 ·simp only[go_sem,h0,false_and,and_true]
def nowF (n:Nat)(rows:Nat→List Int)(i:Int):List Int:=if 0≤i∧i<n then rows i.toNat else[]
theorem c_Now {M:Nat→Prop}{h:Heap}{v:Value}{n:Nat}{rows:Nat→List Int}(H:zbQ M h v n rows)(i:Int):
  FCall prog zdb #[v,.int .i64 i] h fun r h'=>OwnI h' r (nowF n rows i)∧Ext h h'∧∀b,blk r b→h.size≤b:=by
 apply zmz
 unfold zgO
 refine(c_in H i).mono ?_
 rintro _ h' ⟨rfl,rfl⟩
 by_cases hi:0≤i∧i<n
 ·obtain⟨k,rfl⟩:=Int.eq_ofNat_of_zero_le hi.1
  have hk:k<n:=by omega
  obtain⟨bc,sl,sv,t,rfl,C⟩:=H
  obtain⟨p,hp,hq⟩:=C.arr.sl.at1 (k:=.i64) hk
  rw[List.getElem_map,List.getElem_range]at hq
  simp only[go_sem,hi,zab C.var,hp,hq,and_self]
  rw[show nowF n rows (k:Int)=rows k by unfold nowF;rw[if_pos hi];rfl]
  refine(c_Clone (C.row k hk).ints (by rw[C.len k hk];have:=C.pos;omega)).mono ?_
  rintro r h1 H
  exact H
 ·simp only[go_sem,hi]
  rw[show nowF n rows i=[]by unfold nowF;rw[if_neg hi]]
  exact⟨own_nil,Ext.refl _,fun b hb=>hb.elim⟩
theorem zex.put {M:Nat→Prop}{h h':Heap}{bc:Nat}{sl:Value}{sv:Nat→Value}{t:TypeId}{n:Nat}{rows:Nat→List Int}(C:zex M h bc sl sv t n rows){k:Nat}(hk:k<n){l:List Int}
  (o:OwnI h' (sv k) l) (hl:l.length=n) (f:Fr (blk (sv k)) h h'):zex M h' bc sl sv t n (fun j=>if j=k then l else rows j):=
 { C with
  var:=f.row C.var fun hb=>(C.ap2 k hk _ hb).1 rfl
  arr:=C.arr.fr f fun b hb hb'=>(C.ap2 k hk b hb').2 hb
  row:=fun i hi=>by
   by_cases hik:i=k
   ·subst hik;simpa using o
   ·simp only[hik,if_false]
    exact(C.row i hi).fr f fun b hb=>C.ap3 i k hi hk hik b hb
  len:=fun i hi=>by
   by_cases hik:i=k
   ·subst hik;simpa using hl
   ·simp only[hik,if_false];exact C.len i hi
  lt:=fun b hb=>Nat.lt_of_lt_of_le (C.lt b hb) f.1}
def tickF (n:Nat)(rows:Nat→List Int)(i:Int):Nat→List Int:=
 if 0≤i∧i<n then fun j=>if j=i.toNat then(rows i.toNat).set i.toNat (IntKind.i64.wrap ((rows i.toNat).getD i.toNat 0+1))else rows j else rows
theorem c_Tick {M:Nat→Prop}{h:Heap}{v:Value}{n:Nat}{rows:Nat→List Int}(H:zbQ M h v n rows)(i:Int):
  FCall prog zb6 #[v,.int .i64 i] h fun r h'=>OwnI h' r (nowF n rows i)∧zbQ M h' v n (tickF n rows i)∧Fr M h h'∧∀b,blk r b→h.size≤b:=by
 apply zk8
 unfold zf0
 refine(c_Now H i).mono ?_
 rintro r h1 ⟨o1,e1,n1⟩
 refine(c_in (H.ext e1) i).mono ?_
 rintro _ h2 ⟨rfl,rfl⟩
 by_cases hi:0≤i∧i<n
 ·obtain⟨k,rfl⟩:=Int.eq_ofNat_of_zero_le hi.1
  have hk:k<n:=by omega
  obtain⟨bc,sl,sv,t,rfl,C0⟩:=H
  have C:=C0.ext e1
  obtain⟨p,hp,hq⟩:=C.arr.sl.at1 (k:=.i64) hk
  rw[List.getElem_map,List.getElem_range]at hq
  have hkl:k<(rows k).length:=by rw[C.len k hk];exact hk
  obtain⟨p',hp',hq',hst⟩:=Own.at1 (C.row k hk) (k:=.i64) hkl
  rw[List.getElem_map]at hq'
  simp only[go_sem,hi,zab C.var,hp,hq,and_self,hp',hq',vi]
  refine hst _ _ rfl fun h3 o3 f3 _=>?_
  have o4:OwnI h3 (sv k) ((rows k).set k (IntKind.i64.wrap ((rows k)[k]+1))):=by
   unfold OwnI
   rw[List.length_set,List.map_set]
   exact o3
  have C':=C.put hk o4 (by rw[List.length_set];exact C.len k hk) f3
  refine⟨o1.fr f3 fun b hb hb'=>?_,⟨bc,sl,sv,t,rfl,?_⟩,?_,n1⟩
  ·have h5:=n1 b hb
   have:=C0.lt b (C0.inM.2.2 k hk b hb')
   omega
  ·unfold tickF
   rw[if_pos hi]
   simp only[Int.toNat_natCast]
   rw[zsL hkl]
   exact C'
  ·exact e1.fr.trans (f3.mono fun b _ hb=>C.inM.2.2 k hk b hb)
 ·simp only[go_sem,hi]
  refine⟨o1,?_,e1.fr,n1⟩
  unfold tickF
  rw[if_neg hi]
  exact H.ext e1
theorem c_Min {h:Heap}{v:Value}{l:List Int}(hv:Ints h v l)(h0:l≠[])(hl:l.length≤4398046511104):
  FCall prog zbF #[v] h fun r h'=>(∃m,r=.int .i64 m∧(decide (m<0)=l.any fun x=>decide (x<0)))∧h'=h:=by
 apply ze7
 unfold zcB
 have hp:0<l.length:=List.length_pos_iff.2 h0
 have hs:=hv.sl
 obtain⟨a,cap,rfl,_⟩:=hv
 refine zar (fun xs h'=>xs=[]∧h'=h) ?_ ?_
 ·simp only[go_sem]
  refine zac (fun h1=>by omega) (fun _=>⟨trivial,trivial⟩)
 ·rintro _ ρj h' ⟨rfl,hh⟩
  subst hh
  obtain⟨p,hp0,hq0⟩:=hs.at1 (k:=.i64) (i:=0) hp
  rw[List.getElem_map]at hq0
  rw[show((0:Nat):Int)=0 from rfl]at hp0
  simp only[go_sem,hp0,hq0]
  refine za1 (fun d xs h''=>h''=h'∧∃(k:Nat) (m:Int),1≤k∧k≤l.length∧d=l.length-k∧xs=[.int .i64 m,.int .i64 (k:Int)]∧decide (m<0)=(l.take k).any fun x=>decide (x<0)) (l.length-1)
   ⟨rfl,1,l[0],by omega,by omega,rfl,rfl,?_⟩ ?_
  ·cases l with
   |nil=>exact absurd rfl h0
   |cons x l=>simp
  ·rintro d _ ρj _ again ⟨rfl,k,m,h1,hk,rfl,rfl,hm⟩ hag
   simp only[go_sem]
   refine zac (fun hlt=>?_) (fun hge=>?_)
   ·have hk':k<l.length:=by omega
    obtain⟨p,hp1,hq1⟩:=hs.at1 (k:=.i64) hk'
    rw[List.getElem_map]at hq1
    simp only[go_sem,hp1,hq1,vi]
    rw[w64 (by omega) (by omega)]
    refine hag _ _ (l.length-(k+1)) (by omega) ⟨rfl,k+1,_,by omega,by omega,rfl,rfl,?_⟩
    rw[List.take_succ_eq_append_getElem hk',List.any_append,←hm]
    simp only[List.any_cons,List.any_nil,Bool.or_false]
    rw[←Bool.decide_or,decide_eq_decide]
    omega
   ·refine⟨⟨m,rfl,?_⟩,trivial⟩
    rw[hm,List.take_of_length_le (by omega)]
def mayF (n:Nat)(i:Int)(s:List Int):Bool:=decide (0≤i∧i<n)&&(decide (s.length=n)&& !s.any fun x=>decide (x<0))
def meetF (n:Nat)(rows:Nat→List Int)(i:Int)(s:List Int):Nat→List Int:=
 if mayF n i s=true then fun j=>if j=i.toNat then joinL (rows i.toNat) s else rows j else rows
theorem zex.swap {M:Nat→Prop}{h h':Heap}{bc:Nat}{sl:Value}{sv:Nat→Value}{t:TypeId}{n:Nat}{rows:Nat→List Int}(C:zex M h bc sl sv t n rows){k:Nat}(hk:k<n){l:List Int}{v:Value}
  (o:OwnI h' v l) (hl:l.length=n) (f:Fr (blk sl) h h') (a:Own 1 h' sl n ((List.range n).map fun j=>if j=k then v else sv j)) (hv:∀b,blk v b→b<h'.size∧¬M b):
  zex (fun b=>M b∨blk v b) h' bc sl (fun j=>if j=k then v else sv j) t n (fun j=>if j=k then l else rows j) where
 var:=f.row C.var C.ap1
 arr:=a
 row:=fun i hi=>by
  by_cases hik:i=k
  ·simp only[hik,if_true];exact o
  ·simp only[hik,if_false]
   exact(C.row i hi).fr f fun b hb=>(C.ap2 i hi b hb).2
 len:=fun i hi=>by
  by_cases hik:i=k
  ·simp only[hik,if_true];exact hl
  ·simp only[hik,if_false];exact C.len i hi
 pos:=C.pos
 inM:=⟨.inl C.inM.1,fun b hb=>.inl (C.inM.2.1 b hb),fun i hi b hb=>by
  by_cases hik:i=k
  ·simp only[hik,if_true]at hb;exact .inr hb
  ·simp only[hik,if_false]at hb;exact .inl (C.inM.2.2 i hi b hb)⟩
 ap1:=C.ap1
 ap2:=fun i hi b hb=>by
  by_cases hik:i=k
  ·simp only[hik,if_true]at hb
   exact⟨fun hbc=>(hv b hb).2 (hbc▸C.inM.1),fun hs=>(hv b hb).2 (C.inM.2.1 b hs)⟩
  ·simp only[hik,if_false]at hb;exact C.ap2 i hi b hb
 ap3:=fun i j hi hj hij b hb hb'=>by
  by_cases hik:i=k
  ·subst hik
   simp only[if_true,Ne.symm hij,if_false]at hb hb'
   exact(hv b hb).2 (C.inM.2.2 j hj b hb')
  ·simp only[hik,if_false]at hb
   by_cases hjk:j=k
   ·simp only[hjk,if_true]at hb'
    exact(hv b hb').2 (C.inM.2.2 i hi b hb)
   ·simp only[hjk,if_false]at hb'
    exact C.ap3 i j hi hj hij b hb hb'
 lt:=fun b hb=>by
  rcases hb with hb|hb
  ·exact Nat.lt_of_lt_of_le (C.lt b hb) f.1
  ·exact(hv b hb).1
theorem zqQ (n:Nat)(f:Nat→Value)(i:Nat)(x:Value):((List.range n).map f).set i x=(List.range n).map fun k=>if k=i then x else f k:=by
 apply List.ext_getElem
 ·simp
 ·intro k h1 h2
  rw[List.getElem_set]
  simp only[List.getElem_map,List.getElem_range, @eq_comm _ k i]
theorem zm0 {h:Heap}{v:Value}{l:List Int}(o:OwnI h v l):zam v=true:=by
 rcases o with⟨rfl,_⟩|⟨b,cap,r,e,rfl,_⟩<;>rfl
theorem c_Meet {M:Nat→Prop}{h:Heap}{v u:Value}{n:Nat}{rows:Nat→List Int}(H:zbQ M h v n rows)(i:Int){s:List Int}(hu:Ints h u s)(hs:s.length≤4398046511104):
  FCall prog zbt #[v,.int .i64 i,u] h fun r h'=>r=.bool (mayF n i s)∧∃M',zbQ M' h' v n (meetF n rows i s)∧Fr M h h'∧∀b,M' b→M b∨h.size≤b:=by
 apply zk9
 unfold zf1
 refine(c_in H i).mono ?_
 rintro _ h' ⟨rfl,hh⟩
 subst hh
 have no:mayF n i s=false→∃M',zbQ M' h' v n (meetF n rows i s)∧Fr M h' h'∧∀b,M' b→M b∨h'.size≤b:=fun hm=>
  ⟨M,by unfold meetF;rw[hm];exact H,Fr.refl _ _,fun b hb=>.inl hb⟩
 have hu0:=hu
 obtain⟨ua,uc,rfl,_⟩:=hu
 by_cases hi:0≤i∧i<n
 ·obtain⟨bc,sl,sv,t,rfl,C⟩:=H
  have hpos:=C.pos
  have hsl:=C.arr.sl
  obtain⟨_,sa,sc,rfl,_⟩:=hsl
  by_cases hn:s.length=n
  ·have hn':((s.length:Int)=(n:Int)):=by omega
   simp only[go_sem,hi,zab C.var,and_self,hn']
   refine(c_Min hu0 (by intro h0;subst h0;simp at hn;omega) hs).mono ?_
   rintro _ h1 ⟨⟨m,rfl,hm⟩,hh⟩
   subst hh
   simp only[go_sem,hm]
   cases hany:s.any fun x=>decide (x<0)with
   |true=>
    have hmf:mayF n i s=false:=by simp[mayF,hany]
    simp only[go_sem]
    exact⟨by rw[hmf],no hmf⟩
   | false=>
    have hmf:mayF n i s=true:=by simp[mayF,hany,hi,hn]
    obtain⟨k,rfl⟩:=Int.eq_ofNat_of_zero_le hi.1
    have hk:k<n:=by omega
    simp only[go_sem]
    refine drawK_ext ?_
    obtain⟨p,hp,hq⟩:=C.arr.sl.at1 (k:=.i64) hk
    rw[List.getElem_map,List.getElem_range]at hq
    refine zae (.slice sa n sc) (fun h2 e=>by rw[zab (e.row C.var)];rfl) ?_
    refine zae (.slice sa n sc) (fun h2 e=>by rw[zab (e.row C.var)];rfl) ?_
    rw[hp,zaa]
    refine zae (sv k) (fun h2 e=>?_) ?_
    ·obtain⟨p2,hp2,hq2⟩:=(C.ext e).arr.sl.at1 (k:=.i64) hk
     rw[List.getElem_map,List.getElem_range]at hq2
     rw[hp]at hp2
     cases hp2
     exact hq2
    refine(c_Join (C.row k hk).ints hu0 (by rw[C.len k hk];omega) hs).mono ?_
    rintro r h2 ⟨o2,e2,n2⟩
    refine⟨e2,?_⟩
    have C2:=C.ext e2
    obtain⟨p3,hp3,hq3,hst⟩:=C2.arr.at1 (k:=.i64) hk
    rw[hp]at hp3
    cases hp3
    rw[zaa]
    refine hst _ _ (zm0 o2) fun h3 o3 f3 _=>?_
    rw[zqQ]at o3
    have hfr:∀b,blk r b→¬M b:=fun b hb hm=>by have:=C.lt b hm;have:=n2 b hb;omega
    have o4:OwnI h3 r (joinL (rows k) s):=o2.fr f3 fun b hb hb'=>hfr b hb (C.inM.2.1 b hb')
    have C3:=C2.swap hk o4 (by rw[zjw,C.len k hk,hn];exact Nat.max_self n) f3 o3 fun b hb=>⟨Own.lt o4 hb,hfr b hb⟩
    have CC:zbQ (fun b=>M b∨blk r b) h3 (.pointer (some ⟨bc,0,none⟩)) n (meetF n rows k s):=by
     unfold meetF
     rw[if_pos hmf]
     exact⟨bc,_,_,t,rfl,C3⟩
    refine⟨by rw[hmf],(fun b=>M b∨blk r b),CC,e2.fr.trans (f3.mono fun b _ hb=>C.inM.2.1 b hb),fun b hb=>Or.imp (fun h=>h) (n2 b) hb⟩
  ·have hn':¬((s.length:Int)=(n:Int)):=by omega
   have hmf:mayF n i s=false:=by simp[mayF,hn]
   simp only[go_sem,hi,zab C.var,and_self,hn']
   exact⟨by rw[hmf],no hmf⟩
 ·have hmf:mayF n i s=false:=by simp[mayF,hi]
  simp only[go_sem,hi]
  exact⟨by rw[hmf],no hmf⟩
end Go.Proofs.YtcoimlclclnlkaaGreatDoor
namespace Go.Proofs.YtcoimlclclnlkaaGreatDoor
open Go Go.Crisp
attribute [local irreducible] FCall rowK newK stK iteK vK qK drawK gK joinK loopK mkK appK cpyK zh1 zgb newmK
open _root_.Go.Proofs.Tryz
section
structure Bag (M:Nat→Prop)(h:Heap)(bx bm:Nat)(fr:Value)(w:Nat)(all:List (Value×List Int)):Prop where
 own:∀p∈all,OwnI h p.1 p.2∧p.2.length=w∧∀k,blk p.1 k→k≠bx∧k≠bm∧¬blk fr k∧M k
 apart:all.Pairwise fun a b=>∀k,blk a.1 k→¬blk b.1 k
theorem Bag.perm {M:Nat→Prop}{h:Heap}{bx bm:Nat}{fr:Value}{w:Nat}{all all':List (Value×List Int)}(B:Bag M h bx bm fr w all)(p:all'.Perm all):Bag M h bx bm fr w all' where
 own:=fun q hq=>B.own q (p.mem_iff.1 hq)
 apart:=(p.pairwise_iff (fun{x y} hxy k hk hk'=>hxy k hk' hk)).2 B.apart
theorem Bag.fr {M Q:Nat→Prop}{h h':Heap}{bx bm:Nat}{fr:Value}{w:Nat}{all:List (Value×List Int)}(B:Bag M h bx bm fr w all)(f:Fr Q h h')(q:∀p∈all,∀k,blk p.1 k→¬Q k):Bag M h' bx bm fr w all where
 own:=fun p hp=>⟨(B.own p hp).1.fr f (q p hp),(B.own p hp).2⟩
 apart:=B.apart
theorem Bag.ext {M:Nat→Prop}{h h':Heap}{bx bm:Nat}{fr:Value}{w:Nat}{all:List (Value×List Int)}(B:Bag M h bx bm fr w all)(e:Ext h h'):Bag M h' bx bm fr w all:=B.fr (Q:=fun _=>False) e.fr fun _ _ _ _=>id
theorem Bag.mono {M M':Nat→Prop}{h:Heap}{bx bm:Nat}{fr fr':Value}{w:Nat}{all:List (Value×List Int)}(B:Bag M h bx bm fr w all)(hM:∀k,M k→M' k)(hf:∀p∈all,∀k,blk p.1 k→¬blk fr' k):Bag M' h bx bm fr' w all where
 own:=fun p hp=>⟨(B.own p hp).1,(B.own p hp).2.1,fun k hk=>⟨((B.own p hp).2.2 k hk).1,((B.own p hp).2.2 k hk).2.1,hf p hp k hk,hM k ((B.own p hp).2.2 k hk).2.2.2⟩⟩
 apart:=B.apart
structure zmP (M:Nat→Prop)(h:Heap)(bx bm:Nat)(fr:Value)(t:TypeId)(room w:Nat)(es:List (Int×(Value×List Int)))(fv xs:List (Value×List Int)):Prop where
 var:h[bx]? =some (.cells #[.int .i64 room,.int .i64 w,.map (some bm),fr] t (0,0))
 map:MapI h bm (kMap Prod.fst es)
 free:Own 1 h fr fv.length (fv.map Prod.fst)
 bag:Bag M h bx bm fr w (es.map Prod.snd++fv++xs)
 ap:bx≠bm∧¬blk fr bx∧¬blk fr bm
 inM:M bx∧M bm∧∀k,blk fr k→M k
 lt:∀k,M k→k<h.size
 nums:1≤room∧room≤65536∧w≤262144
 keys:∀e∈es,(Lit.int .i64 e.1).wf=true
 len:es.length≤room
 tot:es.length+fv.length+xs.length≤room+1
def zcX (M:Nat→Prop)(h:Heap)(v:Value)(room w:Nat)(rs:List (Int×List Int)):Prop:=
 ∃bx bm fr t es fv,v=.pointer (some ⟨bx,0,none⟩)∧zmP M h bx bm fr t room w es fv []∧rs=kMap Prod.snd es∧es.length+fv.length≤room
theorem zmP.fr {M Q:Nat→Prop}{h h':Heap}{bx bm:Nat}{fr:Value}{t:TypeId}{room w:Nat}{es:List (Int×(Value×List Int))}{fv xs:List (Value×List Int)}(R:zmP M h bx bm fr t room w es fv xs)(f:Fr Q h h')(q:∀b,b<h.size→M b→¬Q b):zmP M h' bx bm fr t room w es fv xs:=
 {R with
  var:=f.row R.var (q bx (R.lt _ R.inM.1) R.inM.1)
  map:=R.map.fr f (q bm (R.lt _ R.inM.2.1) R.inM.2.1)
  free:=R.free.fr f fun k hk=>q k (R.lt _ (R.inM.2.2 k hk)) (R.inM.2.2 k hk)
  bag:=R.bag.fr f fun p hp k hk=>q k (R.lt _ ((R.bag.own p hp).2.2 k hk).2.2.2) ((R.bag.own p hp).2.2 k hk).2.2.2
  lt:=fun k hk=>Nat.lt_of_lt_of_le (R.lt k hk) f.1}
theorem zcX.fr {M Q:Nat→Prop}{h h':Heap}{v:Value}{room w:Nat}{rs:List (Int×List Int)}(H:zcX M h v room w rs)(f:Fr Q h h')(q:∀b,b<h.size→M b→¬Q b):zcX M h' v room w rs:=by
 obtain⟨bx,bm,fr,t,es,fv,rfl,R,h1,h2⟩:=H
 exact⟨bx,bm,fr,t,es,fv,rfl,R.fr f q,h1,h2⟩
theorem zcX.ext {M:Nat→Prop}{h h':Heap}{v:Value}{room w:Nat}{rs:List (Int×List Int)}(H:zcX M h v room w rs)(e:Ext h h'):zcX M h' v room w rs:=H.fr (Q:=fun _=>False) e.fr fun _ _ _=>id
theorem zcX.lt {M:Nat→Prop}{h:Heap}{v:Value}{room w:Nat}{rs:List (Int×List Int)}(H:zcX M h v room w rs){b:Nat}(hb:M b):b<h.size:=by
 obtain⟨bx,bm,fr,t,es,fv,rfl,R,h1,h2⟩:=H
 exact R.lt b hb
theorem zcX.nodup {M:Nat→Prop}{h:Heap}{v:Value}{room w:Nat}{rs:List (Int×List Int)}(H:zcX M h v room w rs):(rs.map Prod.fst).Nodup:=by
 obtain⟨bx,bm,fr,t,es,fv,rfl,R,rfl,h2⟩:=H
 rw[zjv,←zjv Prod.fst]
 exact R.map.nodup
theorem zcX.nums {M:Nat→Prop}{h:Heap}{v:Value}{room w:Nat}{rs:List (Int×List Int)}(H:zcX M h v room w rs):1≤room∧room≤65536∧w≤262144∧rs.length≤room∧(∀p∈rs,p.2.length=w∧(Lit.int .i64 p.1).wf=true):=by
 obtain⟨bx,bm,fr,t,es,fv,rfl,R,rfl,h2⟩:=H
 refine⟨R.nums.1,R.nums.2.1,R.nums.2.2,by simpa[kMap]using R.len,fun p hp=>?_⟩
 obtain⟨e,he,rfl⟩:=List.mem_map.1 hp
 exact⟨(R.bag.own e.2 (by simp;exact .inl ⟨e.1,he⟩)).2.1,R.keys e he⟩
def roomN (a:Int):Nat:=(min (max 1 a) 65536).toNat
def zcI (a:Int):Nat:=(min (max 0 a) 262144).toNat
theorem c_RNew {h:Heap}(a b:Int):FCall prog znE #[.int .i64 a,.int .i64 b] h fun r h'=>∃M,zcX M h' r (roomN a) (zcI b) []∧Ext h h'∧∀k,M k→h.size≤k:=by
 apply ok_ring_New
 unfold zoS
 have ha:min (max 1 a) 65536=((roomN a:Nat):Int):=by unfold roomN;omega
 have hb:min (max 0 b) 262144=((zcI b:Nat):Int):=by unfold zcI;omega
 have h1:1≤roomN a∧roomN a≤65536:=by unfold roomN;omega
 have h2:zcI b≤262144:=by unfold zcI;omega
 simp only[go_sem,ha,hb]
 generalize roomN a=room at h1
 generalize zcI b=w at h2
 refine new_map fun bm h3 m3 e3 n3=>?_
 rw[vK_map _ #[.int .i64 room,.int .i64 w,.map (some bm),.slice none 0 0] (by kernel_rfl)]
 refine zag (c:=#[.int .i64 room,.int .i64 w,.map (some bm),.slice none 0 0]) fun bx h4 r4' e4 n4=>?_
 obtain⟨t,r4⟩:∃t,h4[bx]? =some (.cells #[.int .i64 room,.int .i64 w,.map (some bm),.slice none 0 0] t (0,0)):=⟨_,r4'⟩
 have lm:=m3.lt
 refine⟨fun k=>k=bx∨k=bm,⟨bx,bm,.slice none 0 0,t,[],[],rfl,?_,rfl,by simp⟩,e3.trans e4,?_⟩
 ·exact{
   var:=r4,map:=m3.ext e4,free:=.inl ⟨rfl,rfl,rfl⟩,bag:=⟨fun p hp=>absurd hp (by simp),List.Pairwise.nil⟩
   ap:=⟨by omega,fun h=>h.elim,fun h=>h.elim⟩,inM:=⟨.inl rfl,.inr rfl,fun k hk=>hk.elim⟩
   lt:=fun k hk=>by
    rcases hk with rfl|rfl
    ·exact zaz r4
    ·exact(m3.ext e4).lt
   nums:=⟨h1.1,h1.2,h2⟩,keys:=fun e he=>absurd he (by simp),len:=by simp,tot:=by simp}
 ·rintro k (rfl|rfl)
  ·exact Nat.le_trans e3.1 n4
  ·exact n3
section
variable {M:Nat→Prop}{h:Heap}{v:Value}{room w:Nat}{rs:List (Int×List Int)}
theorem c_RWidth (H:zcX M h v room w rs):FCall prog zeo #[v] h fun r h'=>r=.int .i64 (w:Nat)∧h'=h:=by
 obtain⟨bx,bm,fr,t,es,fv,rfl,R,rfl,h2⟩:=H
 apply zmo
 unfold zgD
 simp only[go_sem,zab R.var]
 exact⟨trivial,trivial⟩
theorem c_RWords (H:zcX M h v room w rs):FCall prog zen #[v] h fun r h'=>r=.int .i64 ((room:Int)*w)∧h'=h:=by
 obtain⟨bx,bm,fr,t,es,fv,rfl,R,rfl,h2⟩:=H
 apply zmn
 unfold zgC
 have hn:=R.nums
 have hm:room*w≤65536*262144:=Nat.mul_le_mul hn.2.1 hn.2.2
 have hm':((room*w:Nat):Int)=(room:Int)*w:=Int.natCast_mul ..
 simp only[go_sem,zab R.var]
 rw[w64 (by omega) (by omega)]
 exact⟨rfl,trivial⟩
theorem c_RHas (H:zcX M h v room w rs)(j:Int):FCall prog zdX #[v,.int .i64 j] h fun r h'=>r=.bool (kGet j rs).isSome∧h'=h:=by
 obtain⟨bx,bm,fr,t,es,fv,rfl,R,rfl,h2⟩:=H
 apply zoq
 unfold ziE
 simp only[go_sem,zab R.var,zsA R.map]
 rw[zgV,zgV]
 cases kGet j es with
 |none=>simp only[Option.map_none,lookR,cond_true,go_sem];exact⟨rfl,trivial⟩
 |some p=>simp only[Option.map_some,lookR,cond_true,go_sem];exact⟨rfl,trivial⟩
theorem zrp {h:Heap}{v:Value}{l:List Int}(hv:Ints h v l)(hl:l.length≤4398046511104):
  FCall prog zaJ #[v] h fun r h'=>OwnI h' r l∧Ext h h'∧∀b,blk r b→h.size≤b:=by
 apply zcq
 unfold zbi
 have hv0:=hv
 obtain⟨a,cap,rfl,hv⟩:=hv
 cases a with
 |none=>
  simp only[zod,go_sem]
  rcases hv with rfl|⟨b,o,h1,_⟩
  ·exact⟨own_nil,Ext.refl h,fun b hb=>hb.elim⟩
  ·cases h1
 |some a=>
  simp only[zoc,go_sem]
  exact clone_own hv0 hl fun r h' o e n=>⟨o,e,n⟩
theorem c_RRow (H:zcX M h v room w rs)(j:Int):FCall prog zgl #[v,.int .i64 j] h fun r h'=>∃u,r=.tuple #[u,.bool (kGet j rs).isSome]∧OwnI h' u ((kGet j rs).getD [])∧Ext h h'∧∀b,blk u b→h.size≤b:=by
 have hnum:=H.nums
 obtain⟨bx,bm,fr,t,es,fv,rfl,R,rfl,h2⟩:=H
 apply zoo
 unfold ziC
 simp only[go_sem,zab R.var,zsA R.map]
 rw[zgV,zgV]
 cases hg:kGet j es with
 |none=>
  simp only[Option.map_none,lookR,cond_true,go_sem]
  refine(zrp (v:=.slice none 0 0) (l:=[]) ⟨none,0,rfl,.inl rfl⟩ (by simp)).mono ?_
  rintro u h1 ⟨o,e,n⟩
  exact⟨u,rfl,o,e,n⟩
 |some p=>
  simp only[Option.map_some,lookR,cond_true,go_sem]
  have hp:=R.bag.own p (by simp;exact .inl ⟨j,zsG hg⟩)
  refine(zrp hp.1.ints (by rw[hp.2.1];omega)).mono ?_
  rintro u h1 ⟨o,e,n⟩
  exact⟨u,rfl,o,e,n⟩
def minL:List Int→Int
 | []=>0
 |x::l=>l.foldl min x
theorem minL_perm {a b:List Int}(h:a.Perm b):minL a=minL b:=by
 have key:∀(l:List Int) (x:Int),(∀y∈x::l,l.foldl min x≤y)∧l.foldl min x∈x::l:=by
  intro l
  induction l with
  |nil=>intro x;simp
  | cons z l ih=>
   intro x
   rw[List.foldl_cons]
   obtain⟨h1,h2⟩:=ih (min x z)
   have h3:=h1 (min x z) (List.mem_cons_self ..)
   refine⟨fun y hy=>?_,?_⟩
   ·rcases List.mem_cons.1 hy with rfl|hy
    ·omega
    ·rcases List.mem_cons.1 hy with rfl|hy
     ·omega
     ·exact h1 y (List.mem_cons_of_mem _ hy)
   ·rcases List.mem_cons.1 h2 with h2|h2
    ·rw[h2]
     rcases Int.le_total x z with hxz|hxz
     ·rw[Int.min_eq_left hxz];simp
     ·rw[Int.min_eq_right hxz];simp
    ·exact List.mem_cons_of_mem _ (List.mem_cons_of_mem _ h2)
 cases a with
 |nil=>have:=h.nil_eq;subst this;rfl
 | cons x l=>
  cases b with
  |nil=>have:=h.symm.nil_eq;cases this
  |cons y m=>
   obtain⟨a1,a2⟩:=key l x
   obtain⟨b1,b2⟩:=key m y
   exact Int.le_antisymm (a1 _ (h.mem_iff.2 b2)) (b1 _ (h.mem_iff.1 a2))
theorem minL_push {l:List Int}(h:l≠[])(x:Int):minL (l++[x])=min (minL l) x:=by
 cases l with
 |nil=>exact absurd rfl h
 |cons y l=>simp[minL]
theorem c_Min64 {h:Heap}{v:Value}{l:List Int}(hv:Ints h v l)(h0:l≠[])(hl:l.length≤4398046511104):
  FCall prog zbS #[v] h fun r h'=>r=.int .i64 (minL l)∧h'=h:=by
 apply zft
 unfold zcJ
 have hp:0<l.length:=List.length_pos_iff.2 h0
 have hs:=hv.sl
 obtain⟨a,cap,rfl,_⟩:=hv
 refine zar (fun xs h'=>xs=[]∧h'=h) ?_ ?_
 ·simp only[go_sem]
  refine zac (fun h1=>by omega) (fun _=>⟨trivial,trivial⟩)
 ·rintro _ ρj h' ⟨rfl,hh⟩
  subst hh
  obtain⟨p,hp0,hq0⟩:=hs.at1 (k:=.i64) (i:=0) hp
  rw[List.getElem_map]at hq0
  rw[show((0:Nat):Int)=0 from rfl]at hp0
  simp only[go_sem,hp0,hq0]
  refine za1 (fun d xs h''=>h''=h'∧∃(k:Nat),1≤k∧k≤l.length∧d=l.length-k∧xs=[.int .i64 (minL (l.take k)),.int .i64 (k:Int)]) (l.length-1)
   ⟨rfl,1,by omega,by omega,rfl,?_⟩ ?_
  ·cases l with
   |nil=>exact absurd rfl h0
   |cons x l=>rfl
  ·rintro d _ ρj _ again ⟨rfl,k,h1,hk,rfl,rfl⟩ hag
   simp only[go_sem]
   refine zac (fun hlt=>?_) (fun hge=>?_)
   ·have hk':k<l.length:=by omega
    obtain⟨p,hp1,hq1⟩:=hs.at1 (k:=.i64) hk'
    rw[List.getElem_map]at hq1
    simp only[go_sem,hp1,hq1,vi]
    rw[w64 (by omega) (by omega)]
    refine hag _ _ (l.length-(k+1)) (by omega) ⟨rfl,k+1,by omega,by omega,rfl,?_⟩
    have hne:l.take k≠[]:=fun h=>by
     have h9:=congrArg List.length h
     rw[List.length_take,List.length_nil]at h9
     omega
    rw[List.take_succ_eq_append_getElem hk',minL_push hne]
    rfl
   ·rw[List.take_of_length_le (by omega)]
    exact⟨rfl,trivial⟩
theorem c_RFirst (H:zcX M h v room w rs):FCall prog zep #[v] h fun r h'=>r=.tuple #[.int .i64 (minL (rs.map Prod.fst)),.bool (!decide (rs=[]))]∧Ext h h':=by
 have hnum:=H.nums
 obtain⟨bx,bm,fr,t,es,fv,rfl,R,rfl,h2⟩:=H
 apply zmp
 unfold zgE
 by_cases h0:es=[]
 ·subst h0
  simp only[go_sem,zab R.var,len_map R.map,kMap,List.map_nil,List.length_nil,Int.natCast_zero]
  exact⟨rfl,Ext.refl h⟩
 ·have hl:¬(((kMap Prod.fst es).length:Nat):Int)=0:=by
   simp only[kMap,List.length_map]
   have:=List.length_pos_iff.2 h0
   omega
  simp only[go_sem,zab R.var,len_map R.map,hl]
  apply zcb
  unfold zaY
  refine zag fun b1 h1 r1 e1 n1=>?_
  have hlen:(kMap Prod.fst es).length≤1000000:=by
   have:=R.len;have:=R.nums
   simp only[kMap,List.length_map];omega
  refine(c_Collect64 r1 (R.map.ext e1) (fun p hp=>?_) hlen).mono ?_
  ·obtain⟨e,he,rfl⟩:=List.mem_map.1 hp
   exact R.keys e he
  rintro u h3 ⟨ss,hperm,o3,e3,n3⟩
  have hsl:ss.length=es.length:=by rw[hperm.length_eq];simp[kMap]
  refine(c_Min64 o3.ints (by intro h;subst h;simp at hsl;exact h0 (List.eq_nil_of_length_eq_zero hsl.symm)) (by have:=R.len;have:=R.nums;omega)).mono ?_
  rintro _ h4 ⟨rfl,rfl⟩
  refine⟨?_,e1.trans e3⟩
  rw[minL_perm hperm,zjv,zjv]
  have:¬kMap Prod.snd es=[]:=by simpa[kMap]using h0
  simp[this]
end
end
theorem zoG {α:Type}{j:Int}{p:α}{es:List (Int×α)}(hg:kGet j es=some p):(kDel j es).length+1=es.length:=by
 have:=(zpF hg).length_eq
 simpa using this.symm
theorem c_drop {M:Nat→Prop}{h:Heap}{bx bm:Nat}{fr:Value}{t:TypeId}{room w:Nat}{es:List (Int×(Value×List Int))}{fv:List (Value×List Int)}(R:zmP M h bx bm fr t room w es fv []){j:Int}{p:Value×List Int}(hg:kGet j es=some p):
  FCall prog ze8 #[.pointer (some ⟨bx,0,none⟩),.int .i64 j] h fun _ h'=>∃M' fr',zmP M' h' bx bm fr' t room w (kDel j es) (fv++[p]) []∧Fr M h h'∧(∀k,M' k→M k∨h.size≤k)∧
   ∀es0 c,h[bm]? =some (.map es0 c)→∃es1,h'[bm]? =some (.map es1 c)∧∀e∈es1,e∈es0∧e.key≠ .int .i64 j:=by
 apply zm5
 unfold zhs
 refine zaj (fun hh=>hh[bx]? =some (.cells #[.int .i64 room,.int .i64 w,.map (some bm),fr] t (0,0))∧hh[bm]? =h[bm]?) ⟨R.var,rfl⟩ ?_
 try simp only[go_sem]
 refine zae fr (fun hh S=>by rw[zab S.1];rfl) ?_
 refine zae (.map (some bm)) (fun hh S=>by rw[zab S.1];rfl) ?_
 refine zae p.1 (fun hh S=>by rw[zsA (R.map.row S.2),zgV,hg];rfl) ?_
 have hmem:p∈es.map Prod.snd++fv++[]:=by simp;exact .inl ⟨j,zsG hg⟩
 have hp:=R.bag.own p hmem
 have hp1:=zm0 hp.1
 refine zbn (Rp.fill_one hp1) fun b1 h1 r1 e1 n1=>?_
 have lbx:=zaz R.var
 have lbm:=R.map.lt
 refine⟨⟨e1.row R.var,e1.2 bm lbm⟩,?_⟩
 have S1:=Rp.SlC.single (cs:=[p.1]) r1
 have hnum:=R.nums
 have htot:=R.tot
 simp only[List.length_nil,Nat.add_zero]at htot
 refine zj1 (R.free.fr (M:=fun _=>False) e1.fr fun _ _=>id) S1 (zad hp1 zaq) rfl (by omega) (by omega) fun fr' h2 o2 f2 n2=>?_
 have v2:=f2.row (e1.row R.var) R.ap.2.1
 have m2:h2[bm]? =h[bm]? :=(f2.2 bm (Nat.lt_of_lt_of_le lbm e1.1) R.ap.2.2).trans (e1.2 bm lbm)
 refine⟨⟨v2,m2⟩,?_⟩
 have frbx:∀k,blk fr' k→k≠bx∧k≠bm:=fun k hk=>by
  rcases n2 k hk with h3|h3
  ·exact⟨fun h4=>R.ap.2.1 (h4▸h3),fun h4=>R.ap.2.2 (h4▸h3)⟩
  ·have:=e1.1;exact⟨by omega,by omega⟩
 obtain⟨fa,fc,rfl⟩:∃a c,fr'=.slice a (fv.length+1) c:=o2.isSl
 try simp only[go_sem]
 refine zaH (o:=3) v2 (by simp) rfl fun h3 r3 u3=>?_
 have r3:h3[bx]? =some (.cells #[.int .i64 room,.int .i64 w,.map (some bm),.slice fa (fv.length+1) fc] t (0,0)):=r3
 have m3:h3[bm]? =h[bm]? :=(u3.2 bm (Ne.symm R.ap.1)).trans m2
 simp only[go_sem,zab r3]
 refine del_map' (R.map.row m3) fun h4 m4 u4 d4=>?_
 have f04:Fr (fun k=>M k) h h4:=((e1.fr.trans (f2.mono fun k _ hk=>R.inM.2.2 k hk)).trans (u3.fr.mono fun k _ hk=>by rw[show k=bx from hk];exact R.inM.1)).trans (u4.fr.mono fun k _ hk=>by rw[show k=bm from hk];exact R.inM.2.1)
 have fbx:∀k,M k→k<h.size:=R.lt
 have hperm:(((kDel j es).map Prod.snd++(fv++[p]))++[]).Perm (es.map Prod.snd++fv++[]):=by
  have h5:=(zpF hg).map Prod.snd
  rw[List.map_cons]at h5
  rw[List.append_nil,List.append_nil,←List.append_assoc]
  exact(List.perm_append_comm (l₁:=(kDel j es).map Prod.snd++fv) (l₂:=[p])).trans (h5.symm.append_right fv)
 have hblk:∀q∈es.map Prod.snd++fv++[],∀k,blk q.1 k→k≠bx∧k≠bm∧¬blk fr k∧M k:=fun q hq=>(R.bag.own q hq).2.2
 have bag4:Bag M h4 bx bm fr w (es.map Prod.snd++fv++[]):=by
  refine(((R.bag.ext e1).fr f2 fun q hq k hk=>(hblk q hq k hk).2.2.1).fr u3.fr fun q hq k hk=>(hblk q hq k hk).1).fr u4.fr fun q hq k hk=>(hblk q hq k hk).2.1
 refine⟨fun k=>M k∨blk (.slice fa (fv.length+1) fc) k,.slice fa (fv.length+1) fc,?_,f04,fun k hk=>?_,?_⟩
 ·exact{
   var:=u4.row (fun h=>R.ap.1 h) r3
   map:=by rw[zsI]at m4;exact m4
   free:=by
    have:=(o2.fr u3.fr fun k hk=>(frbx k hk).1).fr u4.fr fun k hk=>(frbx k hk).2
    rw[List.length_append,List.map_append]
    exact this
   bag:=(bag4.mono (fun k hk=>.inl hk) fun q hq k hk hk'=>by
    rcases n2 k hk' with h5|h5
    ·exact(hblk q hq k hk).2.2.1 h5
    ·have:=R.lt k (hblk q hq k hk).2.2.2;have:=e1.1;omega).perm hperm
   ap:=⟨R.ap.1,fun hk=>(frbx _ hk).1 rfl,fun hk=>(frbx _ hk).2 rfl⟩
   inM:=⟨.inl R.inM.1,.inl R.inM.2.1,fun k hk=>.inr hk⟩
   lt:=fun k hk=>by
    rcases hk with hk|hk
    ·exact Nat.lt_of_lt_of_le (R.lt k hk) f04.1
    ·have:=o2.lt hk;have:=u3.1;have:=u4.1;omega
   nums:=R.nums
   keys:=fun e he=>R.keys e (zsH.subset he)
   len:=by have:=zoG hg;have:=R.len;omega
   tot:=by have:=zoG hg;simp;omega}
 ·rcases hk with hk|hk
  ·exact .inl hk
  ·rcases n2 k hk with h5|h5
   ·exact .inl (R.inM.2.2 k h5)
   ·exact .inr (Nat.le_trans e1.1 h5)
 ·intro es0 c hb0
  exact d4 es0 c (m3.trans hb0)
theorem Own.shrink {h:Heap}{v:Value}{n:Nat}{cs:List Value}(H:Own 1 h v n cs)(hn:0<n):∃v',slcV 1 v none (some (.int .i64 ((n-1:Nat):Int)))=some v'∧Own 1 h v' (n-1) cs.dropLast∧(∀k,blk v' k→blk v k):=by
 rcases H with⟨rfl,rfl,rfl⟩|⟨b,cap,r,e,rfl,hc,hl,hr,hb⟩
 ·omega
 ·have hne:cs≠[]:=fun h0=>by rw[h0]at hl;simp at hl;omega
  refine⟨.slice (some ⟨b,0,none⟩) (n-1) cap,?_,.inr ⟨b,cap,cs.getLast hne::r,e,rfl,by omega,by simp;omega,?_,?_⟩,fun k hk=>hk⟩
  ·have h1:(0:Int)≤((n-1:Nat):Int)∧((n-1:Nat):Int)≤(cap:Int):=by omega
   have h2:¬cap=0:=by omega
   simp only[slcV,bdV,if_pos h1,Int.toNat_natCast,if_neg h2,Option.map_some,zgg,Nat.sub_zero,Nat.zero_mul,Nat.add_zero]
  ·rw[←hr]
   conv=>rhs;rw[←List.dropLast_concat_getLast hne]
   simp
  ·rw[hb]
   conv=>lhs;rw[←List.dropLast_concat_getLast hne]
   simp
theorem Bag.last {M:Nat→Prop}{h h':Heap}{bx bm:Nat}{fr:Value}{w:Nat}{all:List (Value×List Int)}{u:Value}{l0 l:List Int}(B:Bag M h bx bm fr w (all++[(u,l0)]))(f:Fr (blk u) h h')(o:OwnI h' u l)(hl:l.length=w):Bag M h' bx bm fr w (all++[(u,l)]) where
 own:=fun p hp=>by
  rcases List.mem_append.1 hp with hp|hp
  ·have h1:=B.own p (List.mem_append_left _ hp)
   have h2:=(List.pairwise_append.1 B.apart).2.2 p hp (u,l0) (by simp)
   exact⟨h1.1.fr f fun k hk=>h2 k hk,h1.2⟩
  ·rw[List.mem_singleton.1 hp]
   exact⟨o,hl,(B.own (u,l0) (by simp)).2.2⟩
 apart:=by
  have h1:=List.pairwise_append.1 B.apart
  refine List.pairwise_append.2 ⟨h1.1,by simp,fun a ha b hb=>?_⟩
  rw[List.mem_singleton.1 hb]
  exact h1.2.2 a ha (u,l0) (by simp)
theorem c_space {M:Nat→Prop}{h:Heap}{bx bm:Nat}{fr:Value}{t:TypeId}{room w:Nat}{es:List (Int×(Value×List Int))}{fv:List (Value×List Int)}(R:zmP M h bx bm fr t room w es fv [])(h1:es.length<room)(h2:es.length+fv.length≤room):
  FCall prog zem #[.pointer (some ⟨bx,0,none⟩)] h fun u h'=>∃M' fr' fv' l0,zmP M' h' bx bm fr' t room w es fv' [(u,l0)]∧Fr M h h'∧(∀k,M' k→M k∨h.size≤k)∧es.length+1+fv'.length≤room:=by
 apply zmm
 unfold zgB
 have hnum:=R.nums
 obtain⟨fa,fc,rfl⟩:=R.free.isSl
 simp only[go_sem,zab R.var]
 refine zac (fun hp=>?_) (fun hz=>?_)
 ·have hp:0<fv.length:=by omega
  have hsub:IntKind.i64.wrap ((fv.length:Int)-1)=((fv.length-1:Nat):Int):=by rw[w64 (by omega) (by omega)];omega
  obtain⟨p,hp1,hq1⟩:=R.free.sl.at1 (k:=.i64) (i:=fv.length-1) (by omega)
  obtain⟨v',hv',ov',bv'⟩:=Own.shrink R.free hp
  rw[hsub,hp1,zaa,hq1,zaa,hv',zaa]
  have hne:fv≠[]:=List.length_pos_iff.1 hp
  have hlast:(fv.map Prod.fst)[fv.length-1]'(by simp;omega)=(fv.getLast hne).1:=by
   rw[List.getElem_map];congr 1
   rw[List.getLast_eq_getElem]
  rw[hlast]
  refine zaH (o:=3) R.var (by simp) (by obtain⟨_,_,rfl⟩:=ov'.isSl;rfl) fun h3 r3 u3=>?_
  have r3:h3[bx]? =some (.cells #[.int .i64 room,.int .i64 w,.map (some bm),v'] t (0,0)):=r3
  have hdl:fv.dropLast.map Prod.fst=(fv.map Prod.fst).dropLast:=by simp
  refine⟨M,v',fv.dropLast,(fv.getLast hne).2,?_,u3.fr.mono fun k _ hk=>by rw[show k=bx from hk];exact R.inM.1,fun k hk=>.inl hk,by simp;omega⟩
  have hbx:∀k,blk v' k→k≠bx:=fun k hk hkb=>R.ap.2.1 (hkb▸bv' k hk)
  have hperm:(es.map Prod.snd++fv.dropLast++[fv.getLast hne]).Perm (es.map Prod.snd++fv++[]):=by
   rw[List.append_assoc,List.dropLast_concat_getLast hne,List.append_nil]
  exact{
   var:=r3
   map:=R.map.row (u3.2 bm (Ne.symm R.ap.1))
   free:=by rw[List.length_dropLast,hdl];exact ov'.fr u3.fr fun k hk=>hbx k hk
   bag:=((R.bag.fr u3.fr fun q hq k hk=>((R.bag.own q hq).2.2 k hk).1).mono (fun k hk=>hk) fun q hq k hk hk'=>((R.bag.own q hq).2.2 k hk).2.2.1 (bv' k hk')).perm hperm
   ap:=⟨R.ap.1,fun hk=>R.ap.2.1 (bv' _ hk),fun hk=>R.ap.2.2 (bv' _ hk)⟩
   inM:=⟨R.inM.1,R.inM.2.1,fun k hk=>R.inM.2.2 k (bv' k hk)⟩
   lt:=fun k hk=>by rw[u3.1];exact R.lt k hk
   nums:=R.nums,keys:=R.keys,len:=R.len
   tot:=by simp;omega}
 ·have hfv:fv=[]:=List.eq_nil_of_length_eq_zero (by omega)
  subst hfv
  refine zha rfl (by omega) (by omega) fun u h3 o3 e3 n3=>?_
  have o3':OwnI h3 u (List.replicate w 0):=by
   unfold OwnI;rw[List.length_replicate,List.map_replicate];exact o3
  have R3:=R.fr (Q:=fun _=>False) e3.fr fun _ _ _=>id
  refine⟨fun k=>M k∨blk u k,.slice fa ([]:List (Value×List Int)).length fc,[],List.replicate w 0,?_,e3.fr,fun k hk=>hk.imp id (n3 k),by simp;omega⟩
  have hu:∀k,blk u k→¬M k:=fun k hk hm=>by have:=R.lt k hm;have:=n3 k hk;omega
  exact{R3 with
   bag:=by
    refine⟨fun q hq=>?_,?_⟩
    ·rcases List.mem_append.1 hq with hq|hq
     ·have h5:=R3.bag.own q (by simpa using hq)
      exact⟨h5.1,h5.2.1,fun k hk=>⟨(h5.2.2 k hk).1,(h5.2.2 k hk).2.1,(h5.2.2 k hk).2.2.1,.inl (h5.2.2 k hk).2.2.2⟩⟩
     ·rw[List.mem_singleton.1 hq]
      exact⟨o3',by simp,fun k hk=>⟨fun h=>hu k hk (h▸R.inM.1),fun h=>hu k hk (h▸R.inM.2.1),fun h=>hu k hk (R.inM.2.2 k h),.inr hk⟩⟩
    ·refine List.pairwise_append.2 ⟨by simpa using R3.bag.apart,by simp,fun a ha b hb k hk hk'=>?_⟩
     rw[List.mem_singleton.1 hb]at hk'
     exact hu k hk' ((R3.bag.own a (by simpa using ha)).2.2 k hk).2.2.2
   inM:=⟨.inl R.inM.1,.inl R.inM.2.1,fun k hk=>.inl (R.inM.2.2 k hk)⟩
   lt:=fun k hk=>by
    rcases hk with hk|hk
    ·exact R3.lt k hk
    ·exact o3.lt hk
   tot:=by simp;omega}
def fullB (room:Nat)(rs:List (Int×List Int)):Bool:=decide (room≤rs.length)
def putOk (room w:Nat)(rs:List (Int×List Int))(j:Int)(l:List Int):Bool:=decide (l.length=w)&&((kGet j rs).isNone&& !(fullB room rs&&decide (j<minL (rs.map Prod.fst))))
def ze4 (room:Nat)(rs:List (Int×List Int)):List (Int×List Int):=if fullB room rs=true then kDel (minL (rs.map Prod.fst)) rs else rs
def putR (room w:Nat)(rs:List (Int×List Int))(j:Int)(l:List Int):List (Int×List Int):=if putOk room w rs j l=true then ze4 room rs++[(j,l)]else rs
theorem minL_mem {l:List Int}(h:l≠[]):minL l∈l:=by
 have key:∀(l:List Int) (x:Int),l.foldl min x∈x::l:=by
  intro l
  induction l with
  |nil=>intro x;simp
  | cons z l ih=>
   intro x
   rw[List.foldl_cons]
   rcases List.mem_cons.1 (ih (min x z))with h2|h2
   ·rw[h2]
    rcases Int.le_total x z with hxz|hxz
    ·rw[Int.min_eq_left hxz];simp
    ·rw[Int.min_eq_right hxz];simp
   ·exact List.mem_cons_of_mem _ (List.mem_cons_of_mem _ h2)
 cases l with
 |nil=>exact absurd rfl h
 |cons x l=>exact key l x
theorem c_RPut {M:Nat→Prop} {h:Heap} {v u:Value} {room w:Nat} {rs:List (Int×List Int)} (H:zcX M h v room w rs) {j:Int} (hj:(Lit.int .i64 j).wf=true) {l:List Int} (hu:Ints h u l) (hul:l.length≤9223372036854775807) (hn:∀b,blk u b→¬M b):
  FCall prog zgm #[v,.int .i64 j,u] h fun r h'=>r=.bool (putOk room w rs j l)∧∃M',zcX M' h' v room w (putR room w rs j l)∧Fr M h h'∧∀k,M' k→M k∨h.size≤k:=by
 have H0:=H
 have hnd:=H.nodup
 have hnum:=H.nums
 have hfirst:=fun h' (e:Ext h h')=>c_RFirst (H.ext e)
 obtain⟨bx,bm,fr,t,es,fv,rfl,R,hrs,hlen⟩:=H
 apply zop
 unfold ziD
 have hu0:=hu
 obtain⟨ua,uc,rfl,_⟩:=hu
 have no:putOk room w rs j l=false→∀h',Ext h h'→∃M',zcX M' h' (.pointer (some ⟨bx,0,none⟩)) room w (putR room w rs j l)∧Fr M h h'∧∀k,M' k→M k∨h.size≤k:=fun hp h' e=>
  ⟨M,by unfold putR;rw[hp];exact H0.ext e,e.fr,fun k hk=>.inl hk⟩
 by_cases hw:l.length=w
 ·have hw':(l.length:Int)=(w:Int):=by omega
  simp only[go_sem,zab R.var,hw']
  refine(c_RHas H0 j).mono ?_
  rintro _ h1 ⟨rfl,hh⟩
  subst hh
  try simp only[go_sem]
  cases hg:kGet j rs with
  |some q=>
   simp only[Option.isSome_some,go_sem]
   have hp:putOk room w rs j l=false:=by simp[putOk,hg]
   exact⟨by rw[hp],no hp _ (Ext.refl _)⟩
  | none=>
   simp only[Option.isSome_none,go_sem]
   refine zar (fun xs h'=>xs=[]∧putOk room w rs j l=true∧∃M' fr' es' fv',zmP M' h' bx bm fr' t room w es' fv' []∧es'.length<room∧es'.length+fv'.length≤room∧kMap Prod.snd es'=ze4 room rs∧Fr M h1 h'∧∀k,M' k→M k∨h1.size≤k) ?_ ?_
   ·refine(c_RFirst H0).mono ?_
    rintro _ h2 ⟨rfl,e2⟩
    have R2:=R.fr (Q:=fun _=>False) e2.fr fun _ _ _=>id
    have hll:(kMap Prod.fst es).length=rs.length:=by rw[hrs];simp[kMap]
    simp only[go_sem,zab R2.var,len_map R2.map,hll]
    refine zac (fun hfull=>?_) (fun hnot=>?_)
    ·have hfull:room≤rs.length:=by omega
     have hf:fullB room rs=true:=by simp[fullB,hfull]
     refine zac (fun hlt=>?_) (fun hge=>?_)
     ·have hp:putOk room w rs j l=false:=by simp[putOk,hf,hlt]
      exact⟨by rw[hp],no hp _ e2⟩
     ·have hp:putOk room w rs j l=true:=by simp[putOk,hf,hge,hg,hw]
      have hne:rs.map Prod.fst≠[]:=fun h0=>by
       have:=congrArg List.length h0
       simp at this
       rw[this]at hfull;simp at hfull;omega
      have hmem:=minL_mem hne
      generalize hm:minL (rs.map Prod.fst)=m at hmem
      have hk:∃p,kGet m es=some p:=by
       cases hc:kGet m es with
       |some p=>exact⟨p,rfl⟩
       |none=>
        have:=zgd.1 hc
        rw[hrs,zjv]at hmem
        exact absurd hmem this
      obtain⟨p,hk⟩:=hk
      refine(c_drop R2 hk).mono ?_
      rintro _ h3 ⟨M',fr',R3,f3,n3,_⟩
      have hdl:=zoG hk
      have hel:es.length=rs.length:=by rw[hrs];simp[kMap]
      refine⟨trivial,hp,M',fr',kDel m es,fv++[p],R3,by have:=R.len;omega,by simp;omega,?_,e2.fr.trans f3,fun k hk=>(n3 k hk).imp id fun h5=>Nat.le_trans e2.1 h5⟩
      unfold ze4
      rw[if_pos hf,hm,hrs,zsI]
    ·have hnot:¬room≤rs.length:=by omega
     have hf:fullB room rs=false:=by simp[fullB];omega
     have hel:es.length=rs.length:=by rw[hrs];simp[kMap]
     refine⟨trivial,by simp[putOk,hf,hg,hw],M,fr,es,fv,R2,by omega,hlen,?_,e2.fr,fun k hk=>.inl hk⟩
     unfold ze4
     rw[hf];exact hrs.symm
   ·rintro _ ρj h2 ⟨rfl,hp,M2,fr2,es2,fv2,R2,l2,t2,hk2,f2,n2⟩
    refine(c_space R2 l2 t2).mono ?_
    rintro x h3 ⟨M3,fr3,fv3,l0,R3,f3,n3,t3⟩
    have hxo:=R3.bag.own (x,l0) (by simp)
    have f13:Fr (fun k=>M k∨h1.size≤k) h1 h3:=(f2.mono fun k _ hk=>.inl hk).trans (f3.mono fun k _ hk=>n2 k hk)
    have f13':Fr M h1 h3:=⟨f13.1,fun b hb hm=>f13.2 b hb fun hc=>hc.elim hm fun h5=>by omega⟩
    have us:SlC 1 h3 (.slice ua l.length uc) l.length (l.map vi):=hu0.sl.fr f13' fun b _ hb=>hn b hb
    have xo:Own 1 h3 x w (l0.map vi):=by
     have h5:=hxo.1
     unfold OwnI at h5
     rw[hxo.2.1]at h5
     exact h5
    have xl:(l0.map vi).length=w:=by rw[List.length_map];exact hxo.2.1
    refine zoJ xo us vi_one fun h4 o4 f4 s4=>?_
    have o4':OwnI h4 x l:=by
     have h6:(l.map vi).take w++(l0.map vi).drop l.length=l.map vi:=by
      rw[List.take_of_length_le (by rw[List.length_map];omega),List.drop_eq_nil_of_le (by omega),List.append_nil]
     rw[h6]at o4
     unfold OwnI
     rw[hw]
     exact o4
    have bag4:=R3.bag.last (l:=l) f4 o4' hw
    have hxx:=hxo.2.2
    have v4:=f4.row R3.var fun hb=>(hxx _ hb).1 rfl
    have m4:=R3.map.fr f4 fun hb=>(hxx _ hb).2.1 rfl
    have fr4:=R3.free.fr f4 fun k hk hk'=>(hxx k hk').2.2.1 hk
    simp only[go_sem,zab v4]
    refine put_map m4 fun h5 m5 u5=>?_
    have hnone:kGet j es2=none:=by
     cases hc:kGet j es2 with
     |none=>rfl
     | some p=>
      exfalso
      have h6:kGet j (ze4 room rs)=some p.2:=by rw[←hk2,zgV,hc];rfl
      unfold ze4 at h6
      split at h6
      ·rw[zoF hnd,hg]at h6
       split at h6<;>cases h6
      ·rw[hg]at h6;cases h6
    have hnew:kPut j x (kMap Prod.fst es2)=kMap Prod.fst (es2++[(j,(x,l))]):=by
     rw[zsF (by rw[zgV,hnone];rfl)]
     simp[kMap]
    rw[hnew]at m5
    have f35:Fr M3 h3 h5:=(f4.mono fun k _ hk=>(hxx k hk).2.2.2).trans (u5.fr.mono fun k _ hk=>by rw[show k=bm from hk];exact R3.inM.2.1)
    have f15:Fr M h1 h5:=by
     have h7:Fr (fun k=>M k∨h1.size≤k) h1 h5:=f13.trans (f35.mono fun k _ hk=>(n3 k hk).elim (n2 k) fun h8=>.inr (Nat.le_trans f2.1 h8))
     exact⟨h7.1,fun b hb hm=>h7.2 b hb fun hc=>hc.elim hm fun h5=>by omega⟩
    refine⟨by rw[hp],M3,⟨bx,bm,fr3,t,es2++[(j,(x,l))],fv3,rfl,?_,?_,by simp;omega⟩,f15,fun k hk=>(n3 k hk).elim (n2 k) fun h8=>.inr (Nat.le_trans f2.1 h8)⟩
    ·have hb5:Bag M3 h5 bx bm fr3 w (es2.map Prod.snd++fv3++[(x,l)]):=bag4.fr u5.fr fun q hq k hk=>((bag4.own q hq).2.2 k hk).2.1
     exact{
      var:=u5.row (fun h=>R3.ap.1 h) v4
      map:=m5
      free:=fr4.fr u5.fr fun k hk hk'=>R3.ap.2.2 (hk'▸hk)
      bag:=hb5.perm (by
       rw[List.append_nil,List.map_append,List.append_assoc,List.append_assoc]
       exact(List.perm_append_comm (l₁:=[(x,l)])).append_left _)
      ap:=R3.ap,inM:=R3.inM
      lt:=fun k hk=>Nat.lt_of_lt_of_le (R3.lt k hk) f35.1
      nums:=R3.nums
      keys:=fun e he=>by
       rcases List.mem_append.1 he with he|he
       ·exact R3.keys e he
       ·rw[List.mem_singleton.1 he];exact hj
      len:=by simp;omega
      tot:=by simp;omega}
    ·unfold putR
     rw[if_pos hp,←hk2]
     simp[kMap]
 ·have hw':¬(l.length:Int)=(w:Int):=by omega
  have hp:putOk room w rs j l=false:=by simp[putOk,hw]
  simp only[go_sem,zab R.var,hw']
  exact⟨by rw[hp],no hp _ (Ext.refl _)⟩
def zrx (rs:List (Int×List Int))(a b n:Int)(is:Bool):Prop:=
 (is=true∧a≤n∧n<b∧kGet n rs=none∧∀i,a≤i→i<n→(kGet i rs).isSome=true)∨(is=false∧n=0∧∀i,a≤i→i<b→(kGet i rs).isSome=true)
theorem c_RNext {M:Nat→Prop}{h:Heap}{v:Value}{room w:Nat}{rs:List (Int×List Int)}(H:zcX M h v room w rs){a b:Int}(ha: -9223372036854775808≤a)(hb:b≤9223372036854775807):
  FCall prog ze9 #[v,.int .i64 a,.int .i64 b] h fun r h'=>(∃n is,r=.tuple #[.int .i64 n,.bool is]∧zrx rs a b n is)∧h'=h:=by
 apply zm6
 unfold zht
 refine za1 (fun d xs h'=>h'=h∧∃j,a≤j∧d=(b-j).toNat∧xs=[.int .i64 j]∧∀i,a≤i→i<j→(kGet i rs).isSome=true) (b-a).toNat ⟨rfl,a,by omega,rfl,rfl,fun i h1 h2=>by omega⟩ ?_
 rintro d _ ρj h1 again ⟨hh,j,haj,rfl,rfl,hall⟩ hag
 subst hh
 simp only[go_sem]
 refine zac (fun hlt=>?_) (fun hge=>?_)
 ·refine(c_RHas H j).mono ?_
  rintro _ h2 ⟨rfl,hh⟩
  subst hh
  try simp only[go_sem]
  cases hg:kGet j rs with
  |none=>
   simp only[Option.isSome_none,go_sem]
   exact⟨⟨j,true,rfl,.inl ⟨rfl,haj,hlt,hg,hall⟩⟩,trivial⟩
  |some p=>
   simp only[Option.isSome_some,go_sem]
   rw[w64 (by omega) (by omega)]
   refine hag _ _ (b-(j+1)).toNat (by omega) ⟨rfl,j+1,by omega,rfl,rfl,fun i h1 h2=>?_⟩
   by_cases hi:i=j
   ·rw[hi,hg];rfl
   ·exact hall i h1 (by omega)
 ·exact⟨⟨0,false,rfl,.inr ⟨rfl,rfl,fun i h1 h2=>hall i h1 (by omega)⟩⟩,trivial⟩
theorem wf64 {n:Int}(h1: -9223372036854775808≤n)(h2:n≤9223372036854775807):(Lit.int .i64 n).wf=true:=by
 show(decide (IntKind.i64.min≤n)&&decide (n≤IntKind.i64.max))=true
 rw[Bool.and_eq_true,decide_eq_true_eq,decide_eq_true_eq]
 exact⟨h1,h2⟩
end Go.Proofs.YtcoimlclclnlkaaGreatDoor
namespace Go.Proofs.YtcoimlclclnlkaaGreatDoor
open Go Go.Crisp
attribute [local irreducible] FCall rowK newK stK iteK vK qK drawK gK joinK loopK mkK appK cpyK zoB zmd bsK clK zh1 zgb newmK
open _root_.Go.Proofs.Tryz
section
structure JobD where
 m:Pic
 s:Stg
 t:TileD
structure JobD.Wf (d:JobD):Prop where
 m:d.m.Wf
 s:d.s.Wf
 su:zhp d.m d.s
 w1:1≤d.t.w
 h1:1≤d.t.h
 x0:0≤d.t.x
 y0:0≤d.t.y
 xw:d.t.x+d.t.w≤d.s.x.lines.length
 yh:d.t.y+d.t.h≤d.s.y.lines.length
abbrev jobC (bf bt:Nat)(p q rv:Value)(d:JobD)(y:Int):List Value:=[ptr bf,ptr bt,p,q,.int .i64 d.s.border]++tileC d.t++[rv,.int .i64 y]
structure JobAt (Z M:Nat→Prop)(h:Heap)(bj bf:Nat)(vf:Value)(bt:Nat)(vt p q rv:Value)(d:JobD)(y:Int)(n:Pic)(room w:Nat)(rs:List (Int×List Int)):Prop where
 row:h[bj]? =some (.cells (jobC bf bt p q rv d y).toArray 171 (0,0))
 src:IsImg h bf vf d.m
 tx:IsTbl Z h p d.s.x
 ty:IsTbl Z h q d.s.y
 ring:zcX M h rv room w rs
 out:IsImg h bt vt n
 zf:Z bf∧∀c,blk vf c→Z c
 zz:∀c,Z c→¬M c∧c≠bj∧¬blk vt c
 mj:¬M bj∧¬M bt∧(∀c,blk vt c→¬M c)
 jt:bj≠bt∧¬blk vt bj
 y0:d.t.y≤y
 y1:y≤d.t.y+d.t.h
 zl:∀c,Z c→c<h.size
section
variable {Z M:Nat→Prop}{h:Heap}{bj bf:Nat}{vf:Value}{bt:Nat}{vt p q rv:Value}{d:JobD}{y:Int}{n:Pic}{room w:Nat}{rs:List (Int×List Int)}
theorem JobAt.ext {h':Heap}(J:JobAt Z M h bj bf vf bt vt p q rv d y n room w rs)(e:Ext h h'):JobAt Z M h' bj bf vf bt vt p q rv d y n room w rs:=
 ⟨e.row J.row,J.src.ext e,J.tx.ext e,J.ty.ext e,J.ring.ext e,J.out.ext e,J.zf,J.zz,J.mj,J.jt,J.y0,J.y1,fun c hc=>Nat.lt_of_lt_of_le (J.zl c hc) e.1⟩
theorem JobD.bd (W:d.Wf):d.t.x+d.t.w≤65536∧d.t.y+d.t.h≤65536:=by
 have:=W.s.x.len
 have:=W.s.y.len
 have:=W.xw
 have:=W.yh
 omega
theorem c_over (J:JobAt Z M h bj bf vf bt vt p q rv d y n room w rs)(W:d.Wf):FCall prog zel #[ptr bj] h fun r h'=>r=.bool (decide (d.t.y+d.t.h≤y))∧h'=h:=by
 apply zmh
 unfold zgw
 have hb:=JobD.bd W
 have h1:=W.y0
 have h2:=W.h1
 simp only[go_sem,Nat.zero_add,zab J.row]
 simp only[jobC,tileC,List.cons_append,List.nil_append,List.getElem?_toArray,List.getElem?_cons_succ,List.getElem?_cons_zero,go_sem]
 rw[w64 (n:=d.t.y+d.t.h) (by omega) (by omega)]
 exact⟨rfl,trivial⟩
theorem JobAt.c2 {h':Heap}(J:JobAt Z M h bj bf vf bt vt p q rv d y n room w rs)(e:Ext h h'):zah h' ⟨bj,2,none⟩=some p:=by rw[zab (e.row J.row)];rfl
theorem JobAt.c3 {h':Heap}(J:JobAt Z M h bj bf vf bt vt p q rv d y n room w rs)(e:Ext h h'):zah h' ⟨bj,3,none⟩=some q:=by rw[zab (e.row J.row)];rfl
theorem JobAt.c4 {h':Heap}(J:JobAt Z M h bj bf vf bt vt p q rv d y n room w rs)(e:Ext h h'):zah h' ⟨bj,4,none⟩=some (.int .i64 d.s.border):=by rw[zab (e.row J.row)];rfl
theorem JobAt.c0 {h':Heap}(J:JobAt Z M h bj bf vf bt vt p q rv d y n room w rs)(e:Ext h h'):zah h' ⟨bj,0,none⟩=some (ptr bf):=by rw[zab (e.row J.row)];rfl
theorem JobAt.c1 {h':Heap}(J:JobAt Z M h bj bf vf bt vt p q rv d y n room w rs)(e:Ext h h'):zah h' ⟨bj,1,none⟩=some (ptr bt):=by rw[zab (e.row J.row)];rfl
theorem JobAt.c6 {h':Heap}(J:JobAt Z M h bj bf vf bt vt p q rv d y n room w rs)(e:Ext h h'):zah h' ⟨bj,6,none⟩=some (.int .i64 d.t.x):=by rw[zab (e.row J.row)];rfl
theorem JobAt.c8 {h':Heap}(J:JobAt Z M h bj bf vf bt vt p q rv d y n room w rs)(e:Ext h h'):zah h' ⟨bj,8,none⟩=some (.int .i64 d.t.w):=by rw[zab (e.row J.row)];rfl
theorem JobAt.c15 {h':Heap}(J:JobAt Z M h bj bf vf bt vt p q rv d y n room w rs)(e:Ext h h'):zah h' ⟨bj,15,none⟩=some rv:=by rw[zab (e.row J.row)];rfl
theorem JobAt.c16 {h':Heap}(J:JobAt Z M h bj bf vf bt vt p q rv d y n room w rs)(e:Ext h h'):zah h' ⟨bj,16,none⟩=some (.int .i64 y):=by rw[zab (e.row J.row)];rfl
theorem c_jobLine (J:JobAt Z M h bj bf vf bt vt p q rv d y n room w rs)(W:d.Wf):FCall prog zc5 #[ptr bj] h fun r h'=>
  ∃u,r=.agg #[.int .i64 (lineT d.s.y y).1,u]∧SlI (Since h h') h' u (lineT d.s.y y).2∧Ext h h':=by
 apply zmi
 unfold zgx
 refine zag fun b1 h1 r1 e1 n1=>?_
 have l1:=zaz r1
 simp only[go_sem,Nat.zero_add]
 refine zaj (fun h'=>h'=h1) rfl ?_
 refine zae q (fun h' e=>by rw[e];exact J.c3 e1) ?_
 refine zae (.int .i64 y) (fun h' e=>by rw[e];exact J.c16 e1) ?_
 refine(zog (J.ty.ext e1) W.s.y).mono fun r h2 ⟨u,e,S,e2⟩=>?_
 subst e
 refine zbA (l:=[.int .i64 (lineT d.s.y y).1,u]) (e2.row r1) rfl (zad rfl (zad S.one zaq)) rfl fun h3 r3 u3=>?_
 rw[zap r3 2 rfl,zaa]
 refine⟨u,rfl,?_,(e1.trans e2).upd n1 u3⟩
 refine(S.fr u3.fr fun c _ hz he=>?_).mono fun c hc hz=>⟨Nat.le_trans e1.1 hz.1,hc⟩
 have:=hz.1
 omega
abbrev moveV (k j:Int):Value:=.agg #[.int .i64 k,.int .i64 j]
def NextZ (d:JobD)(y:Int)(rs:List (Int×List Int))(k j:Int):Prop:=
 if d.t.y+d.t.h≤y then k=0∧j=0 else
  (k=1∧zrx rs (lineT d.s.y y).1 ((lineT d.s.y y).1+((lineT d.s.y y).2.length:Int)) j true)∨(k=2∧j=y∧zrx rs (lineT d.s.y y).1 ((lineT d.s.y y).1+((lineT d.s.y y).2.length:Int)) 0 false)
theorem c_jobNext (J:JobAt Z M h bj bf vf bt vt p q rv d y n room w rs)(W:d.Wf):FCall prog zck #[ptr bj] h fun r h'=>∃k j,r=moveV k j∧NextZ d y rs k j∧Ext h h':=by
 apply zmk
 unfold zgz
 refine zag fun b1 h1 r1 e1 n1=>?_
 have l1:=zaz r1
 have J1:=J.ext e1
 refine(c_over J1 W).mono fun r h2 ⟨e,wq⟩=>?_
 have wq:=wq.symm
 subst e wq
 refine zac (fun h2=>?_) (fun h2=>?_)
 ·rw[zcV,zaA,zaa]
  refine zbA (l:=[.int .i64 0,.int .i64 0]) r1 rfl (zad rfl (zad rfl zaq)) rfl fun h3 r3 u3=>?_
  rw[zap r3 2 rfl,zaa]
  exact⟨0,0,rfl,by unfold NextZ;rw[if_pos h2];exact⟨rfl,rfl⟩,e1.upd n1 u3⟩
 refine(c_jobLine J1 W).mono fun r h3 ⟨u,e,S,e3⟩=>?_
 subst e
 refine zbh (cs:=[.int .i64 (lineT d.s.y y).1,u]) rfl (zad rfl (zad S.one zaq)) rfl fun b4 h4 r4 e4 n4=>?_
 have E4:=e3.trans e4
 have J4:=J1.ext E4
 have hl:=zh2 W.s.y y
 obtain⟨au,cu,eu⟩:=S.isSl
 have eu2:zaf u=some (.int .i64 ((lineT d.s.y y).2.length:Int)):=by rw[eu];rfl
 have hN:∀k j,NextZ d y rs k j↔((k=1∧zrx rs (lineT d.s.y y).1 ((lineT d.s.y y).1+((lineT d.s.y y).2.length:Int)) j true)∨(k=2∧j=y∧zrx rs (lineT d.s.y y).1 ((lineT d.s.y y).1+((lineT d.s.y y).2.length:Int)) 0 false)):=fun k j=>by unfold NextZ;rw[if_neg h2]
 generalize lineT d.s.y y=L at*
 refine zaj (fun h'=>h'=h4) rfl ?_
 simp only[go_sem,Nat.zero_add]
 refine zae rv (fun h' e=>by rw[e];exact J1.c15 E4) ?_
 refine zae (.int .i64 L.1) (fun h' e=>by rw[e];exact zab r4) ?_
 refine zae (.int .i64 L.1) (fun h' e=>by rw[e];exact zab r4) ?_
 refine zae u (fun h' e=>by rw[e];exact zab r4) ?_
 refine zae (.int .i64 (L.2.length:Int)) (fun h' e=>eu2) ?_
 simp only[go_sem]
 rw[w64 (n:=L.1+(L.2.length:Int)) (by omega) (by omega)]
 refine(c_RNext J4.ring (a:=L.1) (b:=L.1+(L.2.length:Int)) (by omega) (by omega)).mono fun r h5 ⟨⟨j,is,e,hn⟩,wq⟩=>?_
 have wq:=wq.symm
 subst e wq
 simp only[go_sem]
 have r1':=E4.row r1
 refine zc3 (fun hi=>?_) (fun hi=>?_)
 ·subst hi
  have hf:fillL #[(.int .i64 0),(.int .i64 0)] [(0,1,Value.int .i64 1),(1,1,Value.int .i64 j)]=some #[.int .i64 1,.int .i64 j]:=zpL rfl rfl
  rw[hf,zaA,zaa]
  refine zbA (l:=[.int .i64 1,.int .i64 j]) r1' rfl (zad rfl (zad rfl zaq)) rfl fun h6 r6 u6=>?_
  rw[zap r6 2 rfl,zaa]
  exact⟨1,j,rfl,(hN 1 j).2 (.inl ⟨rfl,hn⟩),(e1.trans E4).upd n1 u6⟩
 ·subst hi
  have hj:j=0:=by rcases hn with⟨hh,_⟩|⟨_,hh,_⟩;cases hh;exact hh
  subst hj
  rw[J1.c16 E4,zaa]
  have hf:fillL #[(.int .i64 0),(.int .i64 0)] [(0,1,Value.int .i64 2),(1,1,Value.int .i64 y)]=some #[.int .i64 2,.int .i64 y]:=zpL rfl rfl
  rw[hf,zaA,zaa]
  refine zbA (l:=[.int .i64 2,.int .i64 y]) r1' rfl (zad rfl (zad rfl zaq)) rfl fun h6 r6 u6=>?_
  rw[zap r6 2 rfl,zaa]
  exact⟨2,y,rfl,(hN 2 y).2 (.inr ⟨rfl,rfl,hn⟩),(e1.trans E4).upd n1 u6⟩
end
end
section
section
variable {Z M:Nat→Prop}{h:Heap}{bj bf:Nat}{vf:Value}{bt:Nat}{vt p q rv:Value}{d:JobD}{y:Int}{n:Pic}{room w:Nat}{rs:List (Int×List Int)}
def colZ (d:JobD)(x row:Int):List Int:=(List.range d.m.c.toNat).map fun c:Nat=>IntKind.i64.wrap (zh9 d.m d.s x row c)
theorem c_across {h0:Heap}{u:Value}{l:List Int}{x row:Int}(J:JobAt Z M h0 bj bf vf bt vt p q rv d y n room w rs)(W:d.Wf)(N:New (Rp.int .i64) h0 h u l)(hl:l.length≤1000000):
  FCall prog zdv #[ptr bj,.int .i64 x,.int .i64 row,u] h fun r h'=>New (Rp.int .i64) h0 h' r (l++colZ d x row):=by
 apply zj9
 unfold zfh
 have E0:=N.2.1
 simp only[go_sem,Nat.zero_add,J.c2 E0]
 refine(zog (J.tx.ext E0) W.s.x).mono fun r h1 ⟨v,e,S,e1⟩=>?_
 subst e
 refine zbh (cs:=[.int .i64 (lineT d.s.x x).1,v]) rfl (zad rfl (zad S.one zaq)) rfl fun b2 h2 r2 e2 n2=>?_
 have E2:=E0.trans (e1.trans e2)
 simp only[go_sem,Nat.zero_add,J.c0 E2]
 refine(zbH (J.src.ext E2)).mono fun r h3 ⟨e,wq⟩=>?_
 have wq:=wq.symm
 subst e wq
 have hf:=zbv W.m.fits
 have hln:=zh2 W.s.x x
 unfold colZ zh9
 obtain⟨C,hC⟩:∃C:Nat,d.m.c=(C:Int):=⟨d.m.c.toNat,by omega⟩
 rw[hC,Int.toNat_natCast]
 have S2:=S.ext e2
 have Sz:SlI (fun c=>¬blk u c∧c≠b2∧c<h2.size) h2 v (lineT d.s.x x).2:=S2.mono fun c hc hz=>⟨fun hu=>by have:=N.lt hu;have:=hz.1;omega,fun he=>by have:=hz.2;omega,hc⟩
 have hub:¬blk u b2:=fun hu=>by have:=N.lt hu;have:=e1.1;omega
 generalize lineT d.s.x x=L at*
 obtain⟨av,cv,ev⟩:=S.isSl
 have ev2:zaf v=some (.int .i64 (L.2.length:Int)):=by rw[ev];rfl
 obtain⟨g,hg⟩:∃g:Nat→Int,g=fun c:Nat=>IntKind.i64.wrap (sumN (fun i=>L.2.getD i 0*atP d.m (atZ d.s.border (L.1+i) d.m.w) row c) L.2.length):=⟨_,rfl⟩
 rw[←hg]
 refine zaF (α:=Value) C 0 (fun c u=>[u,.int .i64 (c:Int)]) (fun c u h'=>New (Rp.int .i64) h0 h' u (l++(List.range c).map g)∧SlI (fun c=>¬blk u c∧c≠b2∧c<h2.size) h' v L.2∧h2.size≤h'.size∧h'[b2]? =some (.cells #[.int .i64 L.1,v] 235 (0,0))∧¬blk u b2∧Ext h0 h') u rfl (Nat.zero_le _)
  ⟨by simpa using N.ext (e1.trans e2),Sz,Nat.le_refl _,r2,hub,E2⟩ fun c u h4 again ρ1 _ hc ⟨N4,S4,sz4,r4,u4,E4⟩ Hag=>?_
 simp only[go_sem]
 refine zac (fun h5=>?_) (fun h5=>?_)
 ·have c1:zah h4 ⟨b2,1,none⟩=some v:=zab r4
  simp only[go_sem,Nat.zero_add,c1,ev2]
  have J4:=J.ext E4
  refine zeh (fun i=>[.int .i64 (IntKind.i64.wrap (sumN (fun i=>L.2.getD i 0*atP d.m (atZ d.s.border (L.1+i) d.m.w) row c) i)),.int .i64 (i:Int)]) L.2.length 0 rfl (Nat.zero_le _) fun i again2 ρ2 _ hi Hag2=>?_
  simp only[go_sem]
  refine zac (fun h6=>?_) (fun h6=>?_)
  ·have hi':i<L.2.length:=by omega
   have Hag2:=Hag2 hi'
   obtain⟨pi,i1,i2⟩:=S4.int_at (k':=.i64) hi'
   have ea:L.2.getD i 0=L.2[i]:=by simp[List.getD_eq_getElem?_getD,hi']
   rw[i1,zaa,i2,zaa,←ea]
   refine zaj (fun h'=>h'=h4) rfl ?_
   try simp only[go_sem,Nat.zero_add]
   refine zae (.int .i64 d.s.border) (fun h' e=>by rw[e];exact J.c4 E4) ?_
   refine zae (.int .i64 L.1) (fun h' e=>by rw[e];exact zab r4) ?_
   try simp only[go_sem,Nat.zero_add]
   refine zae (ptr bf) (fun h' e=>by rw[e];exact J.c0 E4) ?_
   rw[w64 (n:=L.1+(i:Int)) (by omega) (by omega)]
   refine(zh7 J4.src).mono fun r h7 ⟨e,wq⟩=>?_
   have wq:=wq.symm
   subst e wq
   refine⟨rfl,?_⟩
   refine(zhM (by unfold I64;omega)).mono fun r h7 ⟨e,wq⟩=>?_
   have wq:=wq.symm
   subst e wq
   simp only[go_sem,Nat.zero_add,J.c0 E4]
   refine(c_At J4.src W.m).mono fun r h7 ⟨e,wq⟩=>?_
   have wq:=wq.symm
   subst e wq
   have hv:=atP_bd W.m (atZ d.s.border (L.1+(i:Int)) d.m.w) row c
   have hm:=W.m.m2
   simp only[go_sem]
   rw[w64 (n:=atP d.m (atZ d.s.border (L.1+(i:Int)) d.m.w) row c) (by omega) (by omega),wrap_step,w64 (n:=(i:Int)+1) (by omega) (by omega)]
   exact Hag2
  ·have hiL:i=L.2.length:=by omega
   subst hiL
   have hgc:IntKind.i64.wrap (sumN (fun i=>L.2.getD i 0*atP d.m (atZ d.s.border (L.1+i) d.m.w) row c) L.2.length)=g c:=by rw[hg]
   rw[hgc]
   have hlen:(l++(List.range c).map g).length=l.length+c:=by simp
   refine Rp.push_ow1 (e:=Rp.int .i64) rfl N4.1 (x:=g c) rfl rfl (by rw[hlen];omega) (by rw[hlen];omega) (fun b hb=>hb.elim) fun s' h' o' f' n'=>?_
   try simp only[go_sem]
   rw[w64 (by omega) (by omega)]
   have E':Ext h0 h':=E4.then_fr f' N4.2.2
   have hs':∀b,blk s' b→blk u b∨h4.size≤b:=n'
   refine Hag s' h' (by omega) ⟨⟨by rw[zfO _ (c+1) c (by omega),←List.append_assoc];exact o',E',fun b hb=>?_⟩,?_,Nat.le_trans sz4 f'.1,f'.row r4 u4,fun hb=>?_,E'⟩
   ·rcases hs' b hb with h7|h7
    ·exact N4.2.2 b h7
    ·exact Nat.le_trans E4.1 h7
   ·refine(S4.fr f' fun b _ hz=>hz.1).mono fun b hb hz=>⟨fun hs=>?_,hz.2⟩
    rcases hs' b hs with h7|h7
    ·exact hz.1 h7
    ·have:=hz.2.2;omega
   ·rcases hs' _ hb with h7|h7
    ·exact u4 h7
    ·have:=zaz r4;omega
 ·have:c=C:=by omega
  subst this
  exact N4
def rowP (d:JobD)(real:Int):Nat→List Int
 |0=>[]
 |x+1=>rowP d real x++colZ d (d.t.x+x) real
def rowZ (d:JobD)(j:Int):List Int:=rowP d (atZ d.s.border j d.m.h) d.t.w.toNat
theorem colZ_len (d:JobD)(x row:Int):(colZ d x row).length=d.m.c.toNat:=by unfold colZ;simp
theorem zmb (d:JobD)(real:Int):∀k,(rowP d real k).length=k*d.m.c.toNat
 |0=>by simp[rowP]
 |k+1=>by unfold rowP;rw[List.length_append,zmb,colZ_len,Nat.add_mul,Nat.one_mul]
theorem rowP_get (d:JobD)(real:Int){x c:Nat}(hc:c<d.m.c.toNat):∀{k:Nat},x<k→(rowP d real k).getD (x*d.m.c.toNat+c) 0=IntKind.i64.wrap (zh9 d.m d.s (d.t.x+x) real c)
 |0,h=>absurd h (by omega)
 | k+1,h=>by
  unfold rowP
  have hl:=zmb d real k
  by_cases hx:x<k
  ·have h1:x*d.m.c.toNat+c<(rowP d real k).length:=by
    rw[hl]
    have:(x+1)*d.m.c.toNat≤k*d.m.c.toNat:=Nat.mul_le_mul_right _ hx
    rw[Nat.add_mul,Nat.one_mul]at this
    omega
   have:=rowP_get d real hc hx
   rw[List.getD_eq_getElem?_getD]at this ⊢
   rw[List.getElem?_append_left h1]
   exact this
  ·have hxk:x=k:=by omega
   subst hxk
   rw[List.getD_eq_getElem?_getD,List.getElem?_append_right (by omega),hl,Nat.add_sub_cancel_left]
   unfold colZ
   simp[hc]
theorem c_filter {j:Int}(J:JobAt Z M h bj bf vf bt vt p q rv d y n room w rs)(W:d.Wf)(hj:I64 j)(hs:d.t.w≤300):
  FCall prog zdu #[ptr bj,.int .i64 j] h fun r h'=>∃M',JobAt Z M' h' bj bf vf bt vt p q rv d y n room w (putR room w rs j (rowZ d j))∧Fr M h h'∧∀k,M' k→M k∨h.size≤k:=by
 apply zj8
 unfold zfg
 have hf:=zbv W.m.fits
 have hb:=JobD.bd W
 have hw1:=W.w1
 have hx0:=W.x0
 simp only[go_sem,Nat.zero_add]
 refine zaj (fun h'=>h'=h) rfl ?_
 refine zae (.int .i64 d.s.border) (fun h' e=>by rw[e];exact J.c4 (Ext.refl _)) ?_
 refine zae (ptr bf) (fun h' e=>by rw[e];exact J.c0 (Ext.refl _)) ?_
 refine(zgZ J.src).mono fun r h1 ⟨e,wq⟩=>?_
 have wq:=wq.symm
 subst e wq
 refine⟨rfl,?_⟩
 refine(zhM hj).mono fun r h1 ⟨e,wq⟩=>?_
 have wq:=wq.symm
 subst e wq
 simp only[go_sem,Nat.zero_add,J.c8 (Ext.refl _)]
 unfold rowZ
 generalize atZ d.s.border j d.m.h=real
 obtain⟨N,hN⟩:∃N:Nat,d.t.w=(N:Int):=⟨d.t.w.toNat,by omega⟩
 rw[hN,Int.toNat_natCast]
 have hC:d.m.c.toNat≤3:=by omega
 have hlen:∀k,k≤N→(rowP d real k).length≤900:=fun k hk=>by
  rw[zmb]
  have:=Nat.mul_le_mul (show k≤300 by omega) hC
  omega
 refine zaF (α:=Value) N 0 (fun k u=>[u,.int .i64 (k:Int)]) (fun k u h'=>New (Rp.int .i64) h h' u (rowP d real k)) (.slice none 0 0) rfl (Nat.zero_le _) (New.nil (Ext.refl _)) fun k u h2 again ρ1 _ hk Nw Hag=>?_
 simp only[go_sem]
 refine zac (fun h3=>?_) (fun h3=>?_)
 ·simp only[go_sem,Nat.zero_add,J.c6 Nw.2.1]
  rw[w64 (n:=d.t.x+(k:Int)) (by omega) (by omega)]
  refine(c_across J W Nw (by have:=hlen k hk;omega)).mono fun r h4 N4=>?_
  rw[w64 (by omega) (by omega)]
  exact Hag r h4 (by omega) N4
 ·have hkN:k=N:=by omega
  subst hkN
  have J2:=J.ext Nw.2.1
  simp only[go_sem,Nat.zero_add,J.c15 Nw.2.1]
  have hin:Ints h2 u (rowP d real k):=by
   obtain⟨a,cap,e⟩:=Nw.isSl
   refine⟨a,cap,e,?_⟩
   have o:=(ow_own Nw.1).sl
   obtain⟨_,a',c',e',ho⟩:=o
   rw[e]at e'
   cases e'
   rcases ho with ho|⟨b,o,ha,ho⟩
   ·left;simpa using ho
   ·refine .inr ⟨b,o,ha,fun i hi=>?_⟩
    have:=ho i (by simpa using hi)
    rw[this,List.getElem_map]
    rfl
  refine(c_RPut J2.ring (by unfold I64 at hj;exact wf64 hj.1 hj.2) hin (by have:=hlen k hk;omega) fun b hb hm=>?_).mono fun r h5 ⟨e,M',R',f',m'⟩=>?_
  ·have h6:=Nw.2.2 b hb
   have h7:=J.ring.lt hm
   omega
  have lt:∀c,c<h.size→¬M c→¬M' c:=fun c hc hm hm'=>by
   rcases m' c hm' with h6|h6
   ·exact hm h6
   ·have:=Nw.2.1.1;omega
  have zl:=J.zl
  have zM:∀c,Z c→¬M c:=fun c hc=>(J.zz c hc).1
  refine⟨M',⟨f'.row J2.row J.mj.1,J2.src.fr f' (zM _ J.zf.1) fun c hc=>zM _ (J.zf.2 c hc),J2.tx.fr f' fun c _ hz=>zM c hz,J2.ty.fr f' fun c _ hz=>zM c hz,R',J2.out.fr f' J.mj.2.1 J.mj.2.2,J.zf,
   fun c hz=>⟨lt c (zl c hz) (zM c hz),(J.zz c hz).2⟩,⟨lt _ (zaz J.row) J.mj.1,lt _ J.out.lt J.mj.2.1,fun c hc=>lt c (J.out.ltv hc) (J.mj.2.2 c hc)⟩,J.jt,J.y0,J.y1,fun c hc=>?_⟩,Nw.2.1.fr.trans f',fun k hk=>?_⟩
  ·have h6:=zl c hc
   have h7:=Nw.2.1.1
   have h8:=f'.1
   omega
  ·rcases m' k hk with h6|h6
   ·exact .inl h6
   ·exact .inr (Nat.le_trans Nw.2.1.1 h6)
end
end
section
structure OutOk (d:JobD)(n:Pic):Prop where
 wf:n.Wf
 w:n.w=d.s.x.lines.length
 h:n.h=d.s.y.lines.length
 c:n.c=d.m.c
 m:n.most=d.m.most
section
variable {Z M:Nat→Prop}{h:Heap}{bj bf:Nat}{vf:Value}{bt:Nat}{vt p q rv:Value}{d:JobD}{y:Int}{n:Pic}{room w:Nat}{rs:List (Int×List Int)}
theorem JobAt.set {h':Heap}{n':Pic}(J:JobAt Z M h bj bf vf bt vt p q rv d y n room w rs)(f:Fr (blk vt) h h')(I:IsImg h' bt vt n'):JobAt Z M h' bj bf vf bt vt p q rv d y n' room w rs:=
 ⟨f.row J.row J.jt.2,J.src.fr f (J.zz _ J.zf.1).2.2 fun c hc=>(J.zz _ (J.zf.2 c hc)).2.2,J.tx.fr f fun c _ hz=>(J.zz c hz).2.2,J.ty.fr f fun c _ hz=>(J.zz c hz).2.2,J.ring.fr f fun c _ hm hv=>J.mj.2.2 c hv hm,I,J.zf,J.zz,J.mj,J.jt,J.y0,J.y1,
  fun c hc=>Nat.lt_of_lt_of_le (J.zl c hc) f.1⟩
def wrote (d:JobD)(y:Int)(i:Int)(x' y' c':Int):Prop:=y'=y∧d.t.x≤x'∧x'<d.t.x+d.t.w∧(x'-d.t.x)*d.m.c+c'<i
instance (d:JobD)(y i x' y' c':Int):Decidable (wrote d y i x' y' c'):=by unfold wrote;infer_instance
theorem c_write (J:JobAt Z M h bj bf vf bt vt p q rv d y n room w rs)(W:d.Wf)(O:OutOk d n)(hs:d.t.w≤300)(hy:y<d.t.y+d.t.h)(hw:(w:Int)=d.t.w*d.m.c)
  (hold:∀k:Nat,k<(lineT d.s.y y).2.length→kGet ((lineT d.s.y y).1+(k:Int)) rs=some (rowZ d ((lineT d.s.y y).1+(k:Int)))):
  FCall prog zdU #[ptr bj] h fun r h'=>∃n',JobAt Z M h' bj bf vf bt vt p q rv d (y+1) n' room w rs∧OutOk d n'∧(∀x' y' c',inP n x' y' c'→atP n' x' y' c'=if wrote d y w x' y' c' then pixZ d.m d.s x' y' c' else atP n x' y' c')∧Fr (fun c=>blk vt c∨c=bj) h h':=by
 apply zkY
 unfold zfQ
 have hf:=zbv W.m.fits
 have hb:=JobD.bd W
 have hw1:=W.w1
 have hx0:=W.x0
 have hy0:=W.y0
 refine(c_jobLine J W).mono fun r h1 ⟨u,e,S,e1⟩=>?_
 subst e
 have hl:=zh2 W.s.y y
 refine zbh (cs:=[.int .i64 (lineT d.s.y y).1,u]) rfl (zad rfl (zad S.one zaq)) rfl fun b2 h2 r2 e2 n2=>?_
 have E2:=e1.trans e2
 have S2:=S.ext e2
 obtain⟨au,cu,eu⟩:=S.isSl
 have eu2:zaf u=some (.int .i64 ((lineT d.s.y y).2.length:Int)):=by rw[eu];rfl
 have htot:∀x c,sumN (fun k=>(lineT d.s.y y).2.getD k 0*zh9 d.m d.s x (atZ d.s.border ((lineT d.s.y y).1+k) d.m.h) c) (lineT d.s.y y).2.length=totZ d.m d.s x y c:=fun x c=>rfl
 generalize lineT d.s.y y=L at*
 obtain⟨C,hC⟩:∃C:Nat,d.m.c=(C:Int):=⟨d.m.c.toNat,by omega⟩
 have hC3:1≤C∧C≤3:=by omega
 obtain⟨Wn,hWn⟩:∃Wn:Nat,d.t.w=(Wn:Int):=⟨d.t.w.toNat,by omega⟩
 have hwn:w=Wn*C:=by
  rw[hWn,hC]at hw
  exact_mod_cast hw
 have hwb:w≤900:=by
  rw[hwn]
  have:=Nat.mul_le_mul (show Wn≤300 by omega) hC3.2
  omega
 simp only[go_sem,Nat.zero_add,J.c15 E2]
 refine(c_RWidth (J.ring.ext E2)).mono fun r h3 ⟨e,wq⟩=>?_
 have wq:=wq.symm
 subst e wq
 refine zha rfl (by omega) (by omega) fun sv h3 o3 e3 n3=>?_
 have E3:=E2.trans e3
 have c1:zah h3 ⟨b2,1,none⟩=some u:=zab (e3.row r2)
 simp only[go_sem,Nat.zero_add,c1,eu2]
 -- the sums
 obtain⟨g,hg⟩:∃g:Nat→Nat→Int,g=fun k i=>sumN (fun k=>L.2.getD k 0*zh9 d.m d.s (d.t.x+((i/C:Nat):Int)) (atZ d.s.border (L.1+k) d.m.h) ((i%C:Nat):Int)) k:=⟨_,rfl⟩
 refine zaF (α:=Unit) L.2.length 0 (fun k _=>[.int .i64 (k:Int)]) (fun k _ h'=>Ext h2 h'∧Own 1 h' sv w ((List.range w).map fun i=>Value.int .i64 (IntKind.i64.wrap (g k i)))) () rfl (Nat.zero_le _)
  ⟨e3,by
   rw[zrM]at o3
   rw[←zax (g:=fun i=>Value.int .i64 ((fun _=>0:Nat→Int) i)) fun i _=>by rw[hg];rfl]
   exact o3⟩ fun k _ h4 again ρ1 _ hk ⟨E4,o4⟩ Hag=>?_
 have E04:=E2.trans E4
 simp only[go_sem]
 refine zac (fun h5=>?_) (fun h5=>?_)
 ·have hk':k<L.2.length:=by omega
  obtain⟨pk,k1,k2⟩:=(S2.ext E4).int_at (k':=.i64) hk'
  have eb:L.2.getD k 0=L.2[k]:=by simp[List.getD_eq_getElem?_getD,hk']
  rw[k1,zaa,k2,zaa,←eb]
  refine zaj (fun h'=>h'=h4) rfl ?_
  try simp only[go_sem,Nat.zero_add]
  refine zae rv (fun h' e=>by rw[e];exact J.c15 E04) ?_
  refine zae (.int .i64 L.1) (fun h' e=>by rw[e];exact zab (E4.row r2)) ?_
  simp only[go_sem]
  rw[w64 (n:=L.1+(k:Int)) (by omega) (by omega)]
  refine(c_RRow (J.ring.ext E04) (L.1+(k:Int))).mono fun r h5 ⟨v,e,ov,e5,nv⟩=>?_
  subst e
  rw[hold k hk']at ov
  have ov:OwnI h5 v (rowZ d (L.1+(k:Int))):=ov
  have hrl:(rowZ d (L.1+(k:Int))).length=w:=by
   unfold rowZ
   rw[zmb,hWn,hC,Int.toNat_natCast,Int.toNat_natCast,hwn]
  have Sv:=zqX (k:=.i64) ov
  obtain⟨av,cv,ev⟩:=Sv.isSl
  have ev2:zaf v=some (.int .i64 (w:Int)):=by rw[ev,hrl];rfl
  simp only[go_sem,ev2]
  have o5:=o4.fr (M:=fun _=>False) e5.fr fun _ _=>id
  have hrow:∀i,i<w→(rowZ d (L.1+(k:Int))).getD i 0=IntKind.i64.wrap (zh9 d.m d.s (d.t.x+((i/C:Nat):Int)) (atZ d.s.border (L.1+(k:Int)) d.m.h) ((i%C:Nat):Int)):=fun i hi=>by
   have h6:i%C<C:=Nat.mod_lt _ (by omega)
   have h7:i/C<Wn:=by rw[Nat.div_lt_iff_lt_mul (by omega),←hwn];exact hi
   have h8:=rowP_get d (atZ d.s.border (L.1+(k:Int)) d.m.h) (x:=i/C) (c:=i%C) (by rw[hC,Int.toNat_natCast];exact h6) (k:=Wn) h7
   rw[hC,Int.toNat_natCast,Nat.mul_comm,Nat.div_add_mod]at h8
   unfold rowZ
   rw[hWn,Int.toNat_natCast]
   exact h8
  have hdis:∀c,blk sv c→¬blk v c:=fun c hc hv=>by
   have:=nv c hv
   have:=o4.lt hc
   omega
  refine zaF (α:=Unit) w 0 (fun i _=>[.int .i64 (i:Int)]) (fun i _ h'=>Ext h2 h'∧Rp.Sl (Rp.int .i64) (blk v) h' v (rowZ d (L.1+(k:Int)))∧Own 1 h' sv w ((List.range w).map fun j=>Value.int .i64 (IntKind.i64.wrap (if j<i then g (k+1) j else g k j)))) () rfl (Nat.zero_le _)
   ⟨E4.trans e5,Sv,by
    rw[←zax (g:=fun i=>Value.int .i64 (IntKind.i64.wrap (g k i))) fun i _=>by rw[if_neg (by omega)]]
    exact o5⟩ fun i _ h6 again2 ρ2 _ hi ⟨E6,Sv6,o6⟩ Hag2=>?_
  simp only[go_sem]
  refine zac (fun h7=>?_) (fun h7=>?_)
  ·have hi':i<w:=by omega
   obtain⟨pv,v1,v2⟩:=Sv6.int_at (k':=.i64) (i:=i) (by omega)
   have ev':(rowZ d (L.1+(k:Int)))[i]'(by omega)=(rowZ d (L.1+(k:Int))).getD i 0:=by simp[List.getD_eq_getElem?_getD,show i<(rowZ d (L.1+(k:Int))).length by omega]
   rw[ev',hrow i hi']at v2
   obtain⟨ps,s1,s2,s3⟩:=Own.at_map o6 (k:=.i64) hi'
   simp only[go_sem,v1,v2,s1,s2]
   rw[if_neg (by omega),zmS,wrap_step]
   have hgk:g k i+L.2.getD k 0*zh9 d.m d.s (d.t.x+((i/C:Nat):Int)) (atZ d.s.border (L.1+(k:Int)) d.m.h) ((i%C:Nat):Int)=g (k+1) i:=by rw[hg];rfl
   rw[hgk]
   refine s3 _ _ fun h8 o8 f8=>?_
   rw[w64 (by omega) (by omega)]
   refine Hag2 () h8 hi' ⟨E6.then_fr f8 fun c hc=>n3 c hc,Sv6.fr f8 fun c _ hz hs=>hdis c hs hz,?_⟩
   rw[←zax (g:=fun j=>Value.int .i64 (if j=i then IntKind.i64.wrap (g (k+1) i)else IntKind.i64.wrap (if j<i then g (k+1) j else g k j))) fun j _=>by
    congr 1
    by_cases h1:j=i
    ·rw[if_pos h1,if_pos (by omega),h1]
    ·rw[if_neg h1]
     by_cases h2:j<i
     ·rw[if_pos h2,if_pos (by omega)]
     ·rw[if_neg h2,if_neg (by omega)]]
   exact o8
  ·have hiw:i=w:=by omega
   subst hiw
   rw[w64 (by omega) (by omega)]
   refine Hag () h6 (by omega) ⟨E6,?_⟩
   rw[←zax (g:=fun j=>Value.int .i64 (IntKind.i64.wrap (if j<i then g (k+1) j else g k j))) fun j hj=>by rw[if_pos hj]]
   exact o6
 have hkL:k=L.2.length:=by omega
 subst hkL
 have J4:=J.ext E04
 have o4':Own 1 h4 sv w ((List.range w).map fun i=>Value.int .i64 (IntKind.i64.wrap (totZ d.m d.s (d.t.x+((i/C:Nat):Int)) y ((i%C:Nat):Int)))):=by
  rw[←zax (g:=fun i=>Value.int .i64 (IntKind.i64.wrap (g L.2.length i))) fun i _=>by rw[hg];rw[←htot]]
  exact o4
 have hdv:∀c,blk sv c→¬blk vt c:=fun c hc hv=>by
  have h6:=n3 c hc
  have h7:=J.out.ltv hv
  have h8:=E2.1
  omega
 obtain⟨asv,csv,es⟩:=o4'.isSl
 have es2:zaf sv=some (.int .i64 (w:Int)):=by rw[es];rfl
 simp only[go_sem,Nat.zero_add,J.c1 E04]
 refine(zbH J4.out).mono fun r h5 ⟨e,wq⟩=>?_
 have wq:=wq.symm
 subst e wq
 rw[O.c,hC]
 simp only[go_sem,es2]
 refine zaF (α:=Pic) w 0 (fun i _=>[.int .i64 (i:Int)]) (fun i n' h'=>JobAt Z M h' bj bf vf bt vt p q rv d y n' room w rs∧OutOk d n'∧(∀x' y' c',inP n x' y' c'→atP n' x' y' c'=if wrote d y i x' y' c' then pixZ d.m d.s x' y' c' else atP n x' y' c')∧
   Own 1 h' sv w ((List.range w).map fun i=>Value.int .i64 (IntKind.i64.wrap (totZ d.m d.s (d.t.x+((i/C:Nat):Int)) y ((i%C:Nat):Int))))∧Fr (blk vt) h4 h') n rfl (Nat.zero_le _)
  ⟨J4,O,fun x' y' c' hi=>by
   rw[if_neg]
   unfold wrote inP at*
   rintro⟨a1,a2,a3,a4⟩
   have:=Int.mul_nonneg (show 0≤x'-d.t.x by omega) (show 0≤d.m.c by omega)
   omega,o4',Fr.refl _ _⟩ fun i n' h6 again ρ3 _ hi ⟨J6,O6,A6,o6,f6⟩ Hag=>?_
 simp only[go_sem]
 refine zac (fun h7=>?_) (fun h7=>?_)
 ·have hi':i<w:=by omega
  obtain⟨ps,s1,s2,_⟩:=Own.at_map o6 (k:=.i64) hi'
  simp only[go_sem,s1,s2]
  refine zaj (fun h'=>h'=h6) rfl ?_
  try simp only[go_sem,Nat.zero_add]
  refine zae (ptr bt) (fun h' e=>by rw[e];exact J6.c1 (Ext.refl _)) ?_
  refine zae (.int .i64 d.t.x) (fun h' e=>by rw[e];exact J6.c6 (Ext.refl _)) ?_
  rw[zez _ _ _ _ (by omega),zaa,Int.tdiv_eq_ediv_of_nonneg (by omega),show(i:Int)/(C:Int)=((i/C:Nat):Int)by omega]
  have hdiv:i/C<Wn:=by rw[Nat.div_lt_iff_lt_mul (by omega),←hwn];exact hi'
  have hmod:i%C<C:=Nat.mod_lt _ (by omega)
  have hdm:=Nat.div_add_mod i C
  have hdmi:((i/C:Nat):Int)*(C:Int)+((i%C:Nat):Int)=(i:Int):=by
   rw[←Int.natCast_mul,Nat.mul_comm];omega
  have hrem:(i:Int)%(C:Int)=((i%C:Nat):Int):=by omega
  have hdom:=A6
  generalize hqd:i/C=qd at*
  generalize hrd:i%C=rd at*
  simp only[go_sem]
  rw[w64 (n:=(qd:Int)) (by omega) (by omega),w64 (n:=d.t.x+(qd:Int)) (by omega) (by omega)]
  refine zae (.int .i64 y) (fun h' e=>by rw[e];exact J6.c16 (Ext.refl _)) ?_
  rw[zbd _ _ _ _ (by omega),zaa,Int.tmod_eq_emod_of_nonneg (by omega),hrem]
  refine zae (ptr bt) (fun h' e=>by rw[e];exact J6.c1 (Ext.refl _)) ?_
  refine(zhL J6.out).mono fun r h8 ⟨e,wq⟩=>?_
  have wq:=wq.symm
  subst e wq
  refine⟨rfl,?_⟩
  refine(c_Round (zdn _)).mono fun r h8 ⟨e,wq⟩=>?_
  have wq:=wq.symm
  subst e wq
  refine⟨rfl,?_⟩
  have hm1:=W.m.m1
  have hm2:=W.m.m2
  rw[O6.m]
  have hr:=roundZ_bd (IntKind.i64.wrap (totZ d.m d.s (d.t.x+(qd:Int)) y (rd:Int))) (most:=d.m.most) (by omega)
  refine(c_Set J6.out O6.wf hr.1 hr.2.1).mono fun r h8 ⟨e,I8,f8,s8⟩=>?_
  subst e
  have hxw:=W.xw
  have hyh:=W.yh
  have hyJ:=J.y0
  have hin:inP n' (d.t.x+(qd:Int)) y (rd:Int):=⟨by omega,by rw[O6.w];omega,by omega,by rw[O6.h];omega,by omega,by rw[O6.c];omega⟩
  have hset:inP n' (d.t.x+(qd:Int)) y (rd:Int)∧zmc (IntKind.i64.wrap (totZ d.m d.s (d.t.x+(qd:Int)) y (rd:Int))) d.m.most≤n'.most:=⟨hin,by rw[O6.m];omega⟩
  rw[if_pos hset]at I8
  try simp only[go_sem]
  rw[w64 (by omega) (by omega)]
  refine Hag _ h8 hi' ⟨J6.set f8 I8,⟨setP_Wf O6.wf hr.1 hset.2,O6.w,O6.h,O6.c,O6.m⟩,fun x' y' c' hip=>?_,o6.fr f8 hdv,f6.trans f8⟩
  rw[atP_setP O6.wf hin,A6 x' y' c' hip]
  by_cases he:x'=d.t.x+(qd:Int)∧y'=y∧c'=(rd:Int)
  ·rw[if_pos he]
   obtain⟨rfl,rfl,rfl⟩:=he
   rw[if_pos]
   ·rfl
   ·refine⟨rfl,by omega,by omega,?_⟩
    rw[hC,show d.t.x+(qd:Int)-d.t.x=(qd:Int)by omega]
    omega
  ·rw [if_neg he]
   have hiff:wrote d y ((i+1:Nat):Int) x' y' c'↔wrote d y (i:Int) x' y' c':=by
    unfold wrote
    constructor
    ·rintro⟨a1,a2,a3,a4⟩
     refine⟨a1,a2,a3,?_⟩
     rcases Int.lt_or_le ((x'-d.t.x)*d.m.c+c') i with h9|h9
     ·exact h9
     ·exfalso
      have heq:(x'-d.t.x)*d.m.c+c'=(qd:Int)*d.m.c+(rd:Int):=by rw[hC]at*;omega
      have hc0:=hip.2.2.2.2
      have hc1:=O.c
      obtain⟨b1,b2⟩:=zmT heq hc0.1 (by omega) (by omega) (by omega)
      exact he ⟨by omega,a1,b2⟩
    ·rintro⟨a1,a2,a3,a4⟩
     exact⟨a1,a2,a3,by omega⟩
   by_cases hwr:wrote d y (i:Int) x' y' c'
   ·rw[if_pos hwr,if_pos (hiff.2 hwr)]
   ·rw[if_neg hwr,if_neg fun hh=>hwr (hiff.1 hh)]
 ·have hiw:i=w:=by omega
  subst hiw
  simp only[go_sem,Nat.zero_add,J6.c16 (Ext.refl _)]
  have hyJ:=J.y0
  rw[w64 (n:=y+1) (by omega) (by omega)]
  refine zaH J6.row (by simp[jobC,tileC]) rfl fun h8 r8 u8=>?_
  have r8:h8[bj]? =some (.cells (jobC bf bt p q rv d (y+1)).toArray 171 (0,0)):=r8
  have bjz:∀c,Z c→¬c=bj:=fun c hc=>(J6.zz c hc).2.1
  refine⟨n',⟨r8,J6.src.fr u8.fr (bjz _ J6.zf.1) fun c hc=>bjz _ (J6.zf.2 c hc),J6.tx.fr u8.fr fun c _ hz=>bjz c hz,J6.ty.fr u8.fr fun c _ hz=>bjz c hz,J6.ring.fr u8.fr fun c _ hm he=>J6.mj.1 (he▸hm),J6.out.fr u8.fr (Ne.symm J6.jt.1) fun c hc he=>J6.jt.2 (he▸hc),J6.zf,J6.zz,J6.mj,J6.jt,by omega,by omega,
   fun c hc=>by rw[u8.1];exact J6.zl c hc⟩,O6,A6,?_⟩
  exact((E04.fr (M:=fun c=>blk vt c∨c=bj)).trans (f6.mono fun c _ hc=>.inl hc)).trans (u8.fr.mono fun c _ hc=>.inr hc)
end
end
end Go.Proofs.YtcoimlclclnlkaaGreatDoor
namespace Go.Proofs.YtcoimlclclnlkaaGreatDoor
open Go Go.Crisp
theorem zla:∀(k:Nat) (l:List Nat),l.Nodup→(∀x∈l,x<k)→l.length≤k
 |0,[],_,_=>by simp
 |0,x::_,_,h=>absurd (h x (by simp)) (by omega)
 | k+1,l,hn,h=>by
  by_cases hk:k∈l
  ·have h1:=zla k (l.erase k) (hn.erase k) fun x hx=>by
    have h2:=h x (List.mem_of_mem_erase hx)
    have h3:x≠k:=fun e=>by rw[e]at hx;exact(List.Nodup.not_mem_erase hn) hx
    omega
   rw[List.length_erase_of_mem hk]at h1
   omega
  ·have:=zla k l hn fun x hx=>by
    have h2:=h x hx
    have h3:x≠k:=fun e=>hk (e▸hx)
    omega
   omega
theorem nodup_range {l:List Int}{a b:Int}(hn:l.Nodup)(h:∀x∈l,a≤x∧x<b):(l.length:Int)≤max 0 (b-a):=by
 have h1:(l.map fun x=>(x-a).toNat).Nodup:=by
  rw[List.nodup_iff_pairwise_ne,List.pairwise_map]
  have h2:=(List.nodup_iff_pairwise_ne.1 hn)
  refine List.Pairwise.imp_of_mem ?_ h2
  intro x y hx hy hne he
  have:=h x hx
  have:=h y hy
  omega
 have h3:=zla (b-a).toNat _ h1 fun x hx=>by
  obtain⟨z,hz,rfl⟩:=List.mem_map.1 hx
  have:=h z hz
  omega
 rw[List.length_map]at h3
 omega
theorem kGet_snoc {α:Type}(j i:Int)(v:α):∀kv:List (Int×α),kGet i (kv++[(j,v)])=match kGet i kv with|some u=>some u|none=>if i=j then some v else none
 | []=>by
  simp only[List.nil_append,kGet]
  by_cases h:j=i
  ·subst h;simp
  ·rw[if_neg h,if_neg (Ne.symm h)]
 | (k,u)::kv=>by
  simp only[List.cons_append,kGet]
  by_cases h:k=i
  ·rw[if_pos h,if_pos h]
  ·rw[if_neg h,if_neg h]
   exact kGet_snoc j i v kv
theorem zjz:∀(l:List Int) (a:Int),l.foldl min a≤a∧∀x∈l,l.foldl min a≤x
 | [],a=>⟨Int.le_refl _,fun x hx=>absurd hx (by simp)⟩
 |y::l,a=>by
  have h:=zjz l (min a y)
  rw[List.foldl_cons]
  refine⟨by have:=h.1;omega,fun x hx=>?_⟩
  rcases List.mem_cons.1 hx with rfl|hx
  ·have:=h.1;omega
  ·exact h.2 x hx
theorem minL_le {l:List Int}{x:Int}(h:x∈l):minL l≤x:=by
 cases l with
 |nil=>simp at h
 |cons y l=>
  rcases List.mem_cons.1 h with rfl|h
  ·exact(zjz l _).1
  ·exact(zjz l y).2 x h
structure Held (row:Int→List Int)(rs:List (Int×List Int))(F e:Int):Prop where
 nd:(rs.map Prod.fst).Nodup
 inn:∀j,F≤j→j<e→kGet j rs=some (row j)
 lt:∀x∈rs.map Prod.fst,x<e
theorem Held.none {row:Int→List Int}{rs:List (Int×List Int)}{F e:Int}(H:Held row rs F e){j:Int}(hj:e≤j):kGet j rs=none:=zgd.2 fun hm=>by have:=H.lt j hm;omega
theorem Held.start (row:Int→List Int)(F:Int):Held row [] F F:=⟨by simp,fun j h1 h2=>absurd h2 (by omega),by simp⟩
theorem Held.move {row:Int→List Int}{rs:List (Int×List Int)}{F e F':Int}(H:Held row rs F e)(hF:F≤F'):Held row rs F' (max e F'):=
 ⟨H.nd,fun j h1 h2=>H.inn j (by omega) (by omega),fun x hx=>by have:=H.lt x hx;omega⟩
theorem Held.next {row:Int→List Int}{rs:List (Int×List Int)}{F e E n:Int}{is:Bool}(H:Held row rs F e)(h1:F≤e)(h2:e≤E)(hn:zrx rs F E n is):(e<E∧is=true∧n=e)∨(e=E∧is=false∧n=0):=by
 rcases hn with⟨rfl,a1,a2,a3,a4⟩|⟨rfl,rfl,a4⟩
 ·left
  have h3:¬n<e:=fun h=>by rw[H.inn n a1 h]at a3;cases a3
  have h4:¬e<n:=fun h=>by have:=a4 e h1 h;rw[H.none (Int.le_refl _)]at this;cases this
  exact⟨by omega,rfl,by omega⟩
 ·right
  refine⟨?_,rfl,rfl⟩
  rcases Int.lt_or_le e E with h|h
  ·have:=a4 e h1 h;rw[H.none (Int.le_refl _)]at this;cases this
  ·omega
theorem Held.put {row:Int→List Int}{rs:List (Int×List Int)}{F e E:Int}{room w:Nat}(H:Held row rs F e)(h1:F≤e)(h2:e<E)(hr:E-F≤room)(hr1:1≤room)(hl:rs.length≤room)(hw:(row e).length=w):
  Held row (putR room w rs e (row e)) F (e+1)∧(putR room w rs e (row e)).length≤room:=by
 have hnone:=H.none (Int.le_refl e)
 have hlen:(rs.map Prod.fst).length=rs.length:=by simp
 have hmin:fullB room rs=true→minL (rs.map Prod.fst)∈rs.map Prod.fst:=fun hf=>minL_mem fun h0=>by
  have:rs.length=0:=by rw[←hlen,h0];rfl
  unfold fullB at hf
  have:=of_decide_eq_true hf
  omega
 have hok:putOk room w rs e (row e)=true:=by
  unfold putOk
  rw[hnone,decide_eq_true hw]
  by_cases hf:fullB room rs=true
  ·have:=H.lt _ (hmin hf)
   rw[hf,decide_eq_false (show¬e<minL (rs.map Prod.fst)by omega)]
   rfl
  ·have hf:fullB room rs=false:=by simpa using hf
   rw[hf];rfl
 unfold putR
 rw[if_pos hok]
 -- what is left of the rows
 have key:((ze4 room rs).map Prod.fst).Nodup∧(∀x∈(ze4 room rs).map Prod.fst,x<e)∧(∀j,F≤j→j<e→kGet j (ze4 room rs)=some (row j))∧(ze4 room rs).length+1≤room:=by
  unfold ze4
  by_cases hf:fullB room rs=true
  ·rw [if_pos hf]
   have hm:=hmin hf
   have hfl:room≤rs.length:=of_decide_eq_true hf
   have hmF:minL (rs.map Prod.fst)<F:=by
    rcases Int.lt_or_le (minL (rs.map Prod.fst)) F with h|h
    ·exact h
    ·have hall:∀x∈rs.map Prod.fst,F≤x∧x<e:=fun x hx=>by
      have h3:minL (rs.map Prod.fst)≤x:=minL_le hx
      have:=H.lt x hx
      omega
     have:=nodup_range H.nd hall
     rw[hlen]at this
     omega
   have hsub:(kDel (minL (rs.map Prod.fst)) rs).Sublist rs:=zsH
   have hg:∃v,kGet (minL (rs.map Prod.fst)) rs=some v:=by
    cases hg:kGet (minL (rs.map Prod.fst)) rs with
    |none=>exact absurd hm (zgd.1 hg)
    |some v=>exact⟨v,rfl⟩
   obtain⟨v,hg⟩:=hg
   have hdl:=zoG hg
   refine⟨(hsub.map Prod.fst).nodup H.nd,fun x hx=>H.lt x ((hsub.map Prod.fst).subset hx),fun j j1 j2=>?_,by omega⟩
   rw[zoF H.nd,if_neg (by omega)]
   exact H.inn j j1 j2
  ·rw[if_neg hf]
   have:¬room≤rs.length:=fun h=>hf (decide_eq_true h)
   exact⟨H.nd,H.lt,H.inn,by omega⟩
 obtain⟨k1,k2,k3,k4⟩:=key
 refine⟨⟨?_,fun j j1 j2=>?_,fun x hx=>?_⟩,by simp;omega⟩
 ·rw[List.map_append,List.nodup_append]
  refine⟨k1,by simp,fun a ha b hb he=>?_⟩
  have:=k2 a ha
  simp at hb
  omega
 ·rw[kGet_snoc]
  by_cases hj:j<e
  ·rw[k3 j j1 hj]
  ·have hje:j=e:=by omega
   subst hje
   have:kGet j (ze4 room rs)=Option.none:=zgd.2 fun hm=>by have:=k2 j hm;omega
   rw[this]
   simp
 ·rw[List.map_append]at hx
  rcases List.mem_append.1 hx with h|h
  ·have:=k2 x h;omega
  ·simp at h;omega
theorem zmH {a b c:Int}(h:a≤b)(hc:0<c):a/c≤b/c:=Int.ediv_le_ediv hc h
theorem lowW_mono {f n m i k:Int}(hn:1≤n)(hm:1≤m)(h:i≤k):lowW f n m i≤lowW f n m k:=by
 unfold lowW
 have h1:i*n≤k*n:=Int.mul_le_mul_of_nonneg_right h (by omega)
 have h2:(2*i+1)*n≤(2*k+1)*n:=Int.mul_le_mul_of_nonneg_right (by omega) (by omega)
 split
 ·exact zmH h1 (by omega)
 ·have:=zmH (a:=(2*i+1)*n-m-zaZ f*2*max n m) (b:=(2*k+1)*n-m-zaZ f*2*max n m) (c:=2*m) (by omega) (by omega)
  omega
theorem highW_mono {f n m i k:Int}(hn:1≤n)(hm:1≤m)(h:i≤k):highW f n m i≤highW f n m k:=by
 unfold highW ceilD
 have h1:(i+1)*n≤(k+1)*n:=Int.mul_le_mul_of_nonneg_right (by omega) (by omega)
 have h2:(2*i+1)*n≤(2*k+1)*n:=Int.mul_le_mul_of_nonneg_right (by omega) (by omega)
 split
 ·have:=zmH (a:= -((k+1)*n)) (b:= -((i+1)*n)) (c:=m) (by omega) (by omega)
  omega
 ·have:=zmH (a:= -((2*k+1)*n-m+zaZ f*2*max n m)) (b:= -((2*i+1)*n-m+zaZ f*2*max n m)) (c:=2*m) (by omega) (by omega)
  omega
theorem zh6 {g:Nat→Int}:∀{n:Nat},za8 g n=0→∀i,i<n→g i=0
 |0,_,i,h=>absurd h (by omega)
 | n+1,hz,i,h=>by
  have e:za8 g (n+1)=if za8 g n≠0 then za8 g n else g n:=rfl
  rw[e]at hz
  by_cases h0:za8 g n=0
  ·rw[if_neg (by simpa using h0)]at hz
   by_cases hi:i=n
   ·rw[hi];exact hz
   ·exact zh6 h0 i (by omega)
  ·rw[if_pos h0]at hz
   exact absurd hz h0
abbrev lnF (t:Tbl)(y:Int):Int:=(lineT t y).1
abbrev lnE (t:Tbl)(y:Int):Int:=(lineT t y).1+((lineT t y).2.length:Int)
structure znC (t:Tbl):Prop where
 f:∀i k:Int,0≤i→i≤k→k<t.lines.length→lnF t i≤lnF t k
 e:∀i k:Int,0≤i→i≤k→k<t.lines.length→lnE t i≤lnE t k
 m:∀i:Int,(((lineT t i).2.length:Nat):Int)≤mostL t.lines
theorem lineT_at {n:Int}{N:Nat}{g:Nat→Int×List Int}{i:Int}(h0:0≤i)(h1:i<N):lineT ⟨n,(List.range N).map g⟩ i=g i.toNat:=by
 unfold lineT
 rw[if_pos h0]
 have:i.toNat<N:=by omega
 simp[List.getD_eq_getElem?_getD,this]
theorem most_ge:∀(ls:List (Int×List Int)) (a:Int),a≤ls.foldl (fun m x=>max m (x.2.length:Int)) a∧∀x∈ls,((x.2.length:Nat):Int)≤ls.foldl (fun m x=>max m (x.2.length:Int)) a
 | [],a=>⟨Int.le_refl _,fun x hx=>absurd hx (by simp)⟩
 |y::l,a=>by
  have h:=most_ge l (max a (y.2.length:Int))
  rw[List.foldl_cons]
  refine⟨by have:=h.1;omega,fun x hx=>?_⟩
  rcases List.mem_cons.1 hx with rfl|hx
  ·have:=h.1;omega
  ·exact h.2 x hx
theorem line_most (t:Tbl)(i:Int):(((lineT t i).2.length:Nat):Int)≤mostL t.lines:=by
 have h:=most_ge t.lines 0
 unfold lineT
 split
 ·by_cases hi:i.toNat<t.lines.length
  ·have e:t.lines.getD i.toNat (0,[])=t.lines[i.toNat]:=by simp[List.getD_eq_getElem?_getD,hi]
   rw[e]
   exact h.2 _ (List.getElem_mem hi)
  ·have e:t.lines.getD i.toNat (0,[])=(0,[]):=by simp[List.getD_eq_getElem?_getD,Nat.le_of_not_lt hi]
   rw[e];exact h.1
 ·exact h.1
theorem znB {l:List Int}(h:za0 l=0):(zaG l).length=l.length:=by unfold zaG;rw[if_pos h,zfI]
theorem resize_mono {f n m:Int}(hc:zbE f n m=0):znC (zb8 f n m):=by
 have h0:¬(¬(0≤f∧f<3)∨¬zav n∨¬zav m):=fun h=>by unfold zbE at hc;rw[if_pos h]at hc;cases hc
 have hz:=hc
 unfold zbE at hz
 rw[if_neg h0]at hz
 have hf:0≤f∧f<3:=Decidable.of_not_not fun h=>h0 (.inl h)
 have hn:zav n:=Decidable.of_not_not fun h=>h0 (.inr (.inl h))
 have hm:zav m:=Decidable.of_not_not fun h=>h0 (.inr (.inr h))
 unfold zav at hn hm
 have hlen:(zb8 f n m).lines.length=m.toNat:=by show(List.map _ (List.range m.toNat)).length=_;rw[List.length_map,List.length_range]
 have hline:∀i:Int,0≤i→i<m→lineT (zb8 f n m) i=(zbD f n m i,zaG (zbb f n m i)):=fun i i0 i1=>by
  have:=lineT_at (n:=n) (N:=m.toNat) (g:=fun i:Nat=>(zbD f n m i,zaG (zbb f n m i))) i0 (by omega)
  rw[show((i.toNat:Nat):Int)=i by omega]at this
  exact this
 have hmay:∀i:Int,0≤i→i<m→mayR f n m i:=fun i i0 i1=>⟨hf.1,hf.2,hn.1,hn.2,hm.1,hm.2,i0,i1⟩
 have hF:∀i:Int,0≤i→i<m→lnF (zb8 f n m) i=lowW f n m i:=fun i i0 i1=>by
  unfold lnF
  rw[hline i i0 i1]
  show zbD f n m i=_
  unfold zbD
  rw[if_pos (hmay i i0 i1)]
 have hE:∀i:Int,0≤i→i<m→lnE (zb8 f n m) i=highW f n m i:=fun i i0 i1=>by
  have h1:=hF i i0 i1
  unfold lnF at h1
  unfold lnE
  rw[h1,hline i i0 i1]
  have h2:=zh6 hz i.toNat (by omega)
  rw[show((i.toNat:Nat):Int)=i by omega]at h2
  show lowW f n m i+(((zaG (zbb f n m i)).length:Nat):Int)=_
  rw[znB h2]
  unfold zbb
  rw[if_pos (hmay i i0 i1)]
  unfold rowW
  rw[List.length_map,List.length_range]
  have:=start_in (hmay i i0 i1)
  omega
 refine⟨fun i k i0 ik k1=>?_,fun i k i0 ik k1=>?_,line_most _⟩
 ·rw[hlen]at k1
  rw[hF i i0 (by omega),hF k (by omega) (by omega)]
  exact lowW_mono hn.1 hm.1 ik
 ·rw[hlen]at k1
  rw[hE i i0 (by omega),hE k (by omega) (by omega)]
  exact highW_mono hn.1 hm.1 ik
theorem filter_mono (l:List Int)(n:Int):znC (zej l n):=by
 have hlen:(zej l n).lines.length=n.toNat:=by show(List.map _ (List.range n.toNat)).length=_;rw[List.length_map,List.length_range]
 have hline:∀i:Int,0≤i→i<n.toNat→lineT (zej l n) i=(i-(l.length/2:Nat),zaG l):=fun i i0 i1=>by
  have:=lineT_at (n:=n) (N:=n.toNat) (g:=fun i:Nat=>((i:Int)-(l.length/2:Nat),zaG l)) i0 i1
  rw[show((i.toNat:Nat):Int)=i by omega]at this
  exact this
 refine⟨fun i k i0 ik k1=>?_,fun i k i0 ik k1=>?_,line_most _⟩
 ·rw[hlen]at k1
  unfold lnF
  rw[hline i i0 (by omega),hline k (by omega) k1]
  show i-_≤k-_
  omega
 ·rw[hlen]at k1
  unfold lnE
  rw[hline i i0 (by omega),hline k (by omega) k1]
  show i-((l.length/2:Nat):Int)+((zaG l).length:Int)≤k-((l.length/2:Nat):Int)+((zaG l).length:Int)
  omega
theorem makeS_mono {o:OpD}{w h:Int}(hc:makeC o w h=0):znC (makeS o w h).y:=by
 have ht:zec o w h=0:=by
  unfold makeC at hc
  split at hc
  ·cases hc
  ·exact hc
 show znC (zdc o h)
 unfold zec at ht
 unfold zdc
 split
 ·rename_i hk
  rw[if_pos hk]at ht
  by_cases h1:zbE o.filter w o.w=0
  ·rw[if_neg (by simpa using h1)]at ht
   exact resize_mono ht
  ·rw[if_pos h1]at ht
   exact absurd ht h1
 ·exact filter_mono _ _
end Go.Proofs.YtcoimlclclnlkaaGreatDoor
namespace Go.Crisp
open Go
theorem FCall.at {P:Program}{f:FuncId}{args:Array Value}{h:Heap}{v:Value}{K:Value→Heap→Prop}(H:FCall P f args h fun r h'=>r=v∧h'=h)(k:K v h):FCall P f args h K:=
 H.mono fun r h' ⟨e,w⟩=>by rw[e,w];exact k
theorem FCall.to {P:Program}{f:FuncId}{args:Array Value}{h:Heap}{v:Value}{K:Value→Heap→Prop}(H:FCall P f args h fun r h'=>r=v∧Ext h h')(k:∀h',Ext h h'→K v h'):FCall P f args h K:=
 H.mono fun r h' ⟨e,w⟩=>by rw[e];exact k h' w
theorem Fr.after {M N:Nat→Prop}{a b c:Heap}(f:Fr M a b)(k:Fr N b c)(n:∀i,i<a.size→N i→M i):Fr M a c:=
 ⟨Nat.le_trans f.1 k.1,fun i hi hm=>(k.2 i (Nat.lt_of_lt_of_le hi f.1) fun x=>hm (n i hi x)).trans (f.2 i hi hm)⟩
theorem Ext.after {N:Nat→Prop}{a b c:Heap}(f:Ext a b)(k:Fr N b c):Fr N a c:=(f.fr (M:=N)).after k fun _ _ x=>x
theorem Fr.ext_r {M:Nat→Prop}{a b c:Heap}(f:Fr M a b)(k:Ext b c):Fr M a c:=f.trans k.fr
theorem Fr.upd_new {M:Nat→Prop}{a b c:Heap}{x:Nat}(f:Fr M a b)(u:Upd x b c)(n:a.size≤x):Fr M a c:=f.after u.fr fun i hi e=>by omega
theorem Rp.push_ow1S {α:Type}{e:Rp α}{Z P:Nat→Prop}{Q:Heap→Prop}{z z' c:Value}{t t':TypeId}{bytes:Nat}{s:Value}{h:Heap}{l:List α}{x:α}{K:Value→Heap→Prop}(hw:e.w=1)
  (hs:Rp.Ow e Z h s l) (hx:e.R Z h [c] x) (hz:z.cells.size=1) (hb:(l.length+1)*bytes≤140737488355328) (hn:l.length+1≤9223372036854775807) (hZ:∀b,Z b→b<h.size) (hQ:∀h',Ext h h'→Q h')
  (H:∀s' h',Rp.Ow e Z h' s' (l++[x])→Fr (blk s) h h'→(∀b,blk s' b→blk s b∨h.size≤b)→K s' h'):rowK #[z'] t 1 [(0,1,c)] h fun v2 h3=>Q h3∧appK z t' 1 bytes s v2 h3 K:=by
 refine zbn (fill_one (e.one hx c (by simp))) fun b h1 r1 e1 n1=>⟨hQ h1 e1,?_⟩
 have S1:=SlC.single (cs:=[c]) r1
 rw[show[c].length=e.w by rw[hw];rfl]at S1
 have ee:appK z t' 1 bytes s (.slice (some ⟨b,0,none⟩) 1 1) h1 K=appK z t' e.w bytes s (.slice (some ⟨b,0,none⟩) 1 1) h1 K:=by rw[hw]
 rw[ee]
 refine Rp.app_ow (l2:=[x]) (hs.ext e1) S1 (fun i hi=>?_) (hz.trans hw.symm) (by simpa using hb) (by simpa using hn) (fun k hk=>Nat.lt_of_lt_of_le (hZ k hk) e1.1) fun s' h' o' f' n'=>
  H s' h' o' (e1.fr.trans f') fun k hk=>(n' k hk).imp id fun h2=>Nat.le_trans e1.1 h2
 have hi:i=0:=by simpa using hi
 subst hi
 rw[Rp.el_self (e.len hx)]
 exact e.ext hx e1
theorem eqT (a:Int):(a=a)=True:=eq_true rfl
theorem ptr_nn (a:Nat):binV .p .neq (.pointer (some ⟨a,0,none⟩)) (.pointer none)=some (.bool true):=rfl
theorem ptr_en (a:Nat):binV .p .eql (.pointer (some ⟨a,0,none⟩)) (.pointer none)=some (.bool false):=rfl
theorem nil_nn:binV .p .neq (.pointer none) (.pointer none)=some (.bool false):=rfl
theorem nil_en:binV .p .eql (.pointer none) (.pointer none)=some (.bool true):=rfl
end Go.Crisp
namespace Go.Proofs.YtcoimlclclnlkaaGreatDoor
open Go Go.Crisp
attribute [local irreducible] FCall rowK newK stK iteK vK qK drawK gK joinK loopK mkK appK cpyK zoB zmd bsK clK zh1 zgb newmK
open _root_.Go.Proofs.Tryz
section
def Grow (B:Nat→Prop)(h h':Heap):Nat→Prop:=fun c=>B c∨(h.size≤c∧c<h'.size)
structure JobSt (Z B:Nat→Prop)(h:Heap)(bj bf:Nat)(vf:Value)(bt:Nat)(vt p q rv:Value)(d:JobD)(y e:Int)(n:Pic)(room w:Nat):Prop where
 at_:∃M rs,JobAt Z M h bj bf vf bt vt p q rv d y n room w rs∧(∀c,M c→B c)∧(y<d.t.y+d.t.h→Held (rowZ d) rs (lnF d.s.y y) e∧lnF d.s.y y≤e∧e≤lnE d.s.y y)
 bj0:B bj
 bl:∀c,B c→c<h.size
 bz:∀c,B c→¬Z c∧c≠bt∧¬blk vt c
 out:OutOk d n
theorem JobSt.ext {Z B:Nat→Prop}{h h':Heap}{bj bf:Nat}{vf:Value}{bt:Nat}{vt p q rv:Value}{d:JobD}{y e:Int}{n:Pic}{room w:Nat}(S:JobSt Z B h bj bf vf bt vt p q rv d y e n room w)(k:Ext h h'):JobSt Z B h' bj bf vf bt vt p q rv d y e n room w:=by
 obtain⟨⟨M,rs,J,a,b⟩,c,f,g,o⟩:=S
 exact⟨⟨M,rs,J.ext k,a,b⟩,c,fun c hc=>Nat.lt_of_lt_of_le (f c hc) k.1,g,o⟩
theorem JobAt.chg {Z M Q:Nat→Prop}{h h':Heap}{bj bf:Nat}{vf:Value}{bt:Nat}{vt p q rv:Value}{d:JobD}{y:Int}{n n':Pic}{room w:Nat}{rs:List (Int×List Int)}(J:JobAt Z M h bj bf vf bt vt p q rv d y n room w rs)(f:Fr Q h h')
  (qz:∀c,Z c→¬Q c) (qm:∀c,M c→¬Q c) (qj:¬Q bj) (I:IsImg h' bt vt n'):JobAt Z M h' bj bf vf bt vt p q rv d y n' room w rs:=
 ⟨f.row J.row qj,J.src.fr f (qz _ J.zf.1) fun c hc=>qz _ (J.zf.2 c hc),J.tx.fr f fun c _ hz=>qz c hz,J.ty.fr f fun c _ hz=>qz c hz,J.ring.fr f fun c _ hm=>qm c hm,I,J.zf,J.zz,J.mj,J.jt,J.y0,J.y1,fun c hc=>Nat.lt_of_lt_of_le (J.zl c hc) f.1⟩
theorem JobSt.other {Z B Q:Nat→Prop}{h h':Heap}{bj bf:Nat}{vf:Value}{bt:Nat}{vt p q rv:Value}{d:JobD}{y e:Int}{n n':Pic}{room w:Nat}(S:JobSt Z B h bj bf vf bt vt p q rv d y e n room w)(f:Fr Q h h')
  (qz:∀c,Z c→¬Q c) (qb:∀c,B c→¬Q c) (I:IsImg h' bt vt n') (O:OutOk d n'):JobSt Z B h' bj bf vf bt vt p q rv d y e n' room w:=by
 obtain⟨⟨M,rs,J,a,b⟩,c,l,g,o⟩:=S
 exact⟨⟨M,rs,J.chg f qz (fun k hk=>qb k (a k hk)) (qb _ c) I,a,b⟩,c,fun c hc=>Nat.lt_of_lt_of_le (l c hc) f.1,g,O⟩
theorem JobSt.img {Z B:Nat→Prop}{h:Heap}{bj bf:Nat}{vf:Value}{bt:Nat}{vt p q rv:Value}{d:JobD}{y e:Int}{n:Pic}{room w:Nat}(S:JobSt Z B h bj bf vf bt vt p q rv d y e n room w):IsImg h bt vt n:=by
 obtain⟨⟨M,rs,J,a,b⟩,_⟩:=S
 exact J.out
theorem JobSt.src {Z B:Nat→Prop}{h:Heap}{bj bf:Nat}{vf:Value}{bt:Nat}{vt p q rv:Value}{d:JobD}{y e:Int}{n:Pic}{room w:Nat}(S:JobSt Z B h bj bf vf bt vt p q rv d y e n room w):IsImg h bf vf d.m:=by
 obtain⟨⟨M,rs,J,a,b⟩,_⟩:=S
 exact J.src
theorem JobAt.frq {Z M Q:Nat→Prop}{h h':Heap}{bj bf:Nat}{vf:Value}{bt:Nat}{vt p q rv:Value}{d:JobD}{y:Int}{n:Pic}{room w:Nat}{rs:List (Int×List Int)}(J:JobAt Z M h bj bf vf bt vt p q rv d y n room w rs)(f:Fr Q h h')
  (qz:∀c,Z c→¬Q c) (qm:∀c,M c→¬Q c) (qj:¬Q bj) (qt:¬Q bt) (qv:∀c,blk vt c→¬Q c):JobAt Z M h' bj bf vf bt vt p q rv d y n room w rs:=
 ⟨f.row J.row qj,J.src.fr f (qz _ J.zf.1) fun c hc=>qz _ (J.zf.2 c hc),J.tx.fr f fun c _ hz=>qz c hz,J.ty.fr f fun c _ hz=>qz c hz,J.ring.fr f fun c _ hm=>qm c hm,J.out.fr f qt qv,J.zf,J.zz,J.mj,J.jt,J.y0,J.y1,fun c hc=>Nat.lt_of_lt_of_le (J.zl c hc) f.1⟩
structure RoomOk (d:JobD)(room w:Nat):Prop where
 mono:znC d.s.y
 fit:mostL d.s.y.lines≤room
 one:1≤room
 wid:(w:Int)=d.t.w*d.m.c
 small:d.t.w≤300
def stepK (d:JobD)(y e:Int):Int:=if d.t.y+d.t.h≤y then 0 else if e<lnE d.s.y y then 1 else 2
def stepJ (d:JobD)(y e:Int):Int:=if d.t.y+d.t.h≤y then 0 else if e<lnE d.s.y y then e else y
def stepY (d:JobD)(y e:Int):Int:=if stepK d y e=2 then y+1 else y
def stepE (d:JobD)(y e:Int):Int:=if stepK d y e=1 then e+1 else if stepK d y e=2 then max e (lnF d.s.y (y+1))else e
section
variable {Z B:Nat→Prop}{h:Heap}{bj bf:Nat}{vf:Value}{bt:Nat}{vt p q rv:Value}{d:JobD}{y e:Int}{n:Pic}{room w:Nat}
theorem zrl (S:JobSt Z B h bj bf vf bt vt p q rv d y e n room w)(W:d.Wf):FCall prog zck #[ptr bj] h fun r h'=>r=moveV (stepK d y e) (stepJ d y e)∧Ext h h':=by
 obtain⟨⟨M,rs,J,a,b⟩,c,f,g,o⟩:=S
 refine(c_jobNext J W).mono fun r h' ⟨k,j,er,hn,E⟩=>⟨?_,E⟩
 rw[er]
 unfold NextZ at hn
 unfold stepK stepJ
 by_cases ho:d.t.y+d.t.h≤y
 ·rw[if_pos ho]at hn
  rw[if_pos ho,if_pos ho,hn.1,hn.2]
 ·rw[if_neg ho]at hn
  rw[if_neg ho,if_neg ho]
  obtain⟨H,h1,h2⟩:=b (by omega)
  rcases hn with⟨rfl,hn⟩|⟨rfl,rfl,hn⟩
  ·rcases H.next h1 h2 hn with⟨a1,_,a3⟩|⟨_,a2,_⟩
   ·rw[if_pos a1,if_pos a1,a3]
   ·cases a2
  ·rcases H.next h1 h2 hn with⟨_,a2,_⟩|⟨a1,_,_⟩
   ·cases a2
   ·rw[if_neg (by omega),if_neg (by omega)]
theorem c_Step (S:JobSt Z B h bj bf vf bt vt p q rv d y e n room w)(W:d.Wf)(R:RoomOk d room w):FCall prog zbI #[ptr bj] h fun r h'=>
  r=moveV (stepK d y e) (stepJ d y e)∧∃n',JobSt Z (Grow B h h') h' bj bf vf bt vt p q rv d (stepY d y e) (stepE d y e) n' room w∧Fr (fun c=>blk vt c∨B c) h h'∧
   (stepK d y e≠2→n'=n)∧(stepK d y e=2→∀x' y' c',inP n x' y' c'→atP n' x' y' c'=if wrote d y w x' y' c' then pixZ d.m d.s x' y' c' else atP n x' y' c'):=by
 apply zmj
 unfold zgy
 refine zag fun b1 h1 r1 e1 n1=>?_
 have S1:=S.ext e1
 refine(zrl S1 W).mono fun r h2 ⟨er,e2⟩=>?_
 subst er
 refine zbh (cs:=[.int .i64 (stepK d y e),.int .i64 (stepJ d y e)]) rfl (zad rfl (zad rfl zaq)) rfl fun b3 h3 r3 e3 n3=>?_
 have E3:=e1.trans (e2.trans e3)
 have S3:=S.ext E3
 have hl13:b1<b3:=by have:=zaz r1;have:=e2.1;omega
 have l3:=zaz r3
 have l1:b1<h3.size:=by omega
 have r13:=(e2.trans e3).row r1
 have sz3:=E3.1
 -- the end of a step: the move is handed on
 have fin:∀{h4:Heap} {n':Pic},Fr (fun c=>(blk vt c∨B c)∧c≠b1∧c≠b3) h3 h4→
   ((stepK d y e≠2→n'=n)∧(stepK d y e=2→∀x' y' c',inP n x' y' c'→atP n' x' y' c'=if wrote d y w x' y' c' then pixZ d.m d.s x' y' c' else atP n x' y' c'))→(∀h5,Upd b1 h4 h5→JobSt Z (Grow B h h5) h5 bj bf vf bt vt p q rv d (stepY d y e) (stepE d y e) n' room w)→
   vK (ldsV 2 h4 (ptr b3)) fun v16=>stK 2 (ptr b1) v16 h4 fun _ h18=>vK (ldsV 2 h18 (ptr b1)) fun v19=>v19=moveV (stepK d y e) (stepJ d y e)∧∃n',JobSt Z (Grow B h h18) h18 bj bf vf bt vt p q rv d (stepY d y e) (stepE d y e) n' room w∧Fr (fun c=>blk vt c∨B c) h h18∧
    (stepK d y e≠2→n'=n)∧(stepK d y e=2→∀x' y' c',inP n x' y' c'→atP n' x' y' c'=if wrote d y w x' y' c' then pixZ d.m d.s x' y' c' else atP n x' y' c'):=by
  intro h4 n' f4 hc4 hS5
  have r34:=f4.row r3 fun hm=>hm.2.2 rfl
  have r14:=f4.row r13 fun hm=>hm.2.1 rfl
  rw[zap (l:=[.int .i64 (stepK d y e),.int .i64 (stepJ d y e)]) r34 2 rfl,zaa]
  refine zbA (l:=[.int .i64 (stepK d y e),.int .i64 (stepJ d y e)]) r14 rfl (zad rfl (zad rfl zaq)) rfl fun h5 r5 u5=>?_
  rw[zap r5 2 rfl,zaa]
  exact⟨rfl,n',hS5 h5 u5,((E3.fr (M:=fun c=>blk vt c∨B c)).after f4 fun c _ hc=>hc.1).after u5.fr (fun c hc he=>by omega),hc4.1,hc4.2⟩
 obtain⟨⟨M,rs,J,hMb,hH⟩,hbj,hbl,hbz,hO⟩:=S
 have J3:=J.ext E3
 -- a block that is new lies apart from a job
 have ap:∀{b:Nat} {M':Nat→Prop},h.size≤b→b<h3.size→(∀c,M' c→M c∨h3.size≤c)→(∀c,Z c→¬c=b)∧(∀c,M' c→¬c=b)∧¬bj=b∧¬bt=b∧∀c,blk vt c→¬c=b:=by
  intro b M' hb hb' hM'
  refine⟨fun c hc he=>?_,fun c hc he=>?_,fun he=>?_,fun he=>?_,fun c hc he=>?_⟩
  ·have:=J.zl c hc;omega
  ·rcases hM' c hc with h4|h4
   ·have:=J.ring.lt h4;omega
   ·omega
  ·have:=zaz J.row;omega
  ·have:=J.out.lt;omega
  ·have:=J.out.ltv hc;omega
 have nb1:h.size≤b1:=n1
 have nb3:h.size≤b3:=by omega
 -- what is its own, at last
 have gz:∀{h5:Heap},∀c,Grow B h h5 c→¬Z c∧c≠bt∧¬blk vt c:=fun c hc=>by
  rcases hc with hc|hc
  ·exact hbz c hc
  ·refine⟨fun hz=>?_,fun he=>?_,fun hv=>?_⟩
   ·have:=J.zl c hz;omega
   ·have:=J.out.lt;omega
   ·have:=J.out.ltv hv;omega
 have gl:∀{h5:Heap},h.size≤h5.size→∀c,Grow B h h5 c→c<h5.size:=fun hs c hc=>by
  rcases hc with hc|hc
  ·exact Nat.lt_of_lt_of_le (hbl c hc) hs
  ·exact hc.2
 simp only[go_sem,Nat.zero_add]
 have c0:zah h3 ⟨b3,0,none⟩=some (.int .i64 (stepK d y e)):=zab r3
 have c1:zah h3 ⟨b3,1,none⟩=some (.int .i64 (stepJ d y e)):=zab r3
 simp only[go_sem,c0,c1]
 refine zac (fun hk=>?_) (fun hk=>?_)
 ·-- a row is filtered
  have hno:¬d.t.y+d.t.h≤y:=fun h=>by unfold stepK at hk;rw[if_pos h]at hk;cases hk
  have hlt:e<lnE d.s.y y:=by
   unfold stepK at hk
   rw[if_neg hno]at hk
   rcases Int.lt_or_le e (lnE d.s.y y)with h|h
   ·exact h
   ·rw[if_neg (by omega)]at hk;cases hk
  have hj:stepJ d y e=e:=by unfold stepJ;rw[if_neg hno,if_pos hlt]
  have hy:stepY d y e=y:=by unfold stepY;rw[if_neg (by omega)]
  have he:stepE d y e=e+1:=by unfold stepE;rw[if_pos hk]
  obtain⟨H,a1,a2⟩:=hH (by omega)
  have hl:=zh2 W.s.y y
  rw[hy,he]at fin ⊢
  rw[hj]at fin ⊢
  refine(c_filter J3 W (j:=e) (by unfold lnF at a1;unfold lnE at hlt;unfold I64;omega) R.small).mono fun r h4 ⟨M',J4,f4,m4⟩=>?_
  have hrm:=R.fit
  have hml:=R.mono.m y
  have hrs:=J3.ring.nums
  have hwl:(rowZ d e).length=w:=by
   have h5:=R.wid
   have hf:=zbv W.m.fits
   have hw1:=W.w1
   unfold rowZ
   rw[zmb]
   have:((d.t.w.toNat*d.m.c.toNat:Nat):Int)=d.t.w*d.m.c:=by rw[Int.natCast_mul,Int.toNat_of_nonneg (by omega),Int.toNat_of_nonneg (by omega)]
   omega
  have HP:=H.put (E:=lnE d.s.y y) (room:=room) (w:=w) a1 hlt (by unfold lnF lnE;omega) R.one hrs.2.2.2.1 hwl
  have ap1:=ap nb1 l1 m4
  have sz4:=f4.1
  refine fin (f4.mono fun c hc hm=>⟨.inr (hMb c hm),fun h5=>by have:=J.ring.lt hm;omega,fun h5=>by have:=J.ring.lt hm;omega⟩) ⟨fun _=>rfl,fun h5=>by omega⟩ fun h5 u5=>
   ⟨⟨M',_,J4.frq u5.fr ap1.1 ap1.2.1 ap1.2.2.1 ap1.2.2.2.1 ap1.2.2.2.2,fun c hc=>?_,fun _=>⟨HP.1,by omega,by omega⟩⟩,.inl hbj,gl (by rw[u5.1];omega),gz,hO⟩
  rcases m4 c hc with h6|h6
  ·exact .inl (hMb c h6)
  ·have:=J4.ring.lt hc
   exact .inr ⟨by omega,by rw[u5.1];exact this⟩
 refine zac (fun hk2=>?_) (fun hk2=>?_)
 ·-- a row is written
  have hno:¬d.t.y+d.t.h≤y:=fun h=>by unfold stepK at hk2;rw[if_pos h]at hk2;cases hk2
  obtain⟨H,a1,a2⟩:=hH (by omega)
  have heE:e=lnE d.s.y y:=by
   unfold stepK at hk
   rw[if_neg hno]at hk
   rcases Int.lt_or_le e (lnE d.s.y y)with h|h
   ·rw[if_pos h]at hk;exact absurd rfl hk
   ·omega
  have hy:stepY d y e=y+1:=by unfold stepY;rw[if_pos hk2]
  have he:stepE d y e=max e (lnF d.s.y (y+1)):=by unfold stepE;rw[if_neg hk,if_pos hk2]
  rw[hy,he]at fin ⊢
  refine(c_write J3 W hO R.small (by omega) R.wid fun k hk'=>H.inn _ (by unfold lnF;omega) (by rw[heE];unfold lnE;omega)).mono fun r h4 ⟨n',J4,O4,A4,f4⟩=>?_
  have ap1:=ap (M':=M) nb1 l1 fun c hc=>.inl hc
  have hm:=R.mono
  have hy0:=J.y0
  have hW0:=W.y0
  have hWh:=W.yh
  have sz4:=f4.1
  refine fin (f4.mono fun c hc hm=>?_) ⟨fun h5=>absurd hk2 h5,fun _=>A4⟩ fun h5 u5=>
   ⟨⟨M,_,J4.frq u5.fr ap1.1 ap1.2.1 ap1.2.2.1 ap1.2.2.2.1 ap1.2.2.2.2,fun c hc=>.inl (hMb c hc),fun hlt=>?_⟩,.inl hbj,gl (by rw[u5.1];omega),gz,O4⟩
  ·rcases hm with hm|hm
   ·have:=J.out.ltv hm
    exact⟨.inl hm,by omega,by omega⟩
   ·have:=zaz J.row
    exact⟨.inr (hm▸hbj),by omega,by omega⟩
  ·have g1:=hm.f y (y+1) (by omega) (by omega) (by omega)
   have g2:=hm.e y (y+1) (by omega) (by omega) (by omega)
   refine⟨H.move g1,by omega,?_⟩
   have:lnF d.s.y (y+1)≤lnE d.s.y (y+1):=by unfold lnF lnE;omega
   omega
 ·-- it is over
  have hk0:stepK d y e=0:=by
   unfold stepK at*
   by_cases h4:d.t.y+d.t.h≤y
   ·rw[if_pos h4]
   ·rw[if_neg h4]at*
    by_cases h5:e<lnE d.s.y y
    ·rw[if_pos h5]at hk;exact absurd rfl hk
    ·rw[if_neg h5]at hk2;exact absurd rfl hk2
  have hy:stepY d y e=y:=by unfold stepY;rw[if_neg hk2]
  have he:stepE d y e=e:=by unfold stepE;rw[if_neg hk,if_neg hk2]
  rw[hy,he]at fin ⊢
  have ap1:=ap (M':=M) nb1 l1 fun c hc=>.inl hc
  exact fin (Fr.refl _ _) ⟨fun _=>rfl,fun h5=>absurd h5 hk2⟩ fun h5 u5=>⟨⟨M,rs,J3.frq u5.fr ap1.1 ap1.2.1 ap1.2.2.1 ap1.2.2.2.1 ap1.2.2.2.2,fun c hc=>.inl (hMb c hc),hH⟩,.inl hbj,gl (by rw[u5.1];omega),gz,hO⟩
end
end
theorem pe_ne {h:Heap}{a b:Nat}{c c':Array Value}{t t':TypeId}(ha:h[a]? =some (.cells c t (0,0)))(hb:h[b]? =some (.cells c' t' (0,0)))(hne:a≠b):peV h .neq (ptr a) (ptr b)=some (.bool true):=by
 have h1:¬(⟨a,0,none⟩:Addr)=⟨b,0,none⟩:=fun hh=>hne (by injection hh)
 have h2:zgR h a=true:=by unfold zgR;rw[ha];rfl
 have h3:zgR h b=true:=by unfold zgR;rw[hb];rfl
 show(if(⟨a,0,none⟩:Addr)=⟨b,0,none⟩then some (Value.bool false)else if zgR h a&&zgR h b then some (.bool true)else none)=_
 rw[if_neg h1,h2,h3];rfl
def zea (m n:Pic)(s:Stg):Prop:=zhp m s∧n.w=s.x.lines.length∧n.h=s.y.lines.length∧n.c=m.c∧n.most=m.most
instance (m n:Pic)(s:Stg):Decidable (zea m n s):=by unfold zea;infer_instance
theorem c_wsuits {h:Heap}(G:GlobB h){Z:Nat→Prop}{bf bt:Nat}{vf vt sv:Value}{m n:Pic}{s:Stg}(I:IsImg h bf vf m)(O:IsImg h bt vt n)(hne:bf≠bt)(HS:IsStg Z h sv s):
  FCall prog zhc #[ptr bf,ptr bt,sv] h fun r h'=>r=.bool (decide (zea m n s))∧Ext h h':=by
 apply zpb
 unfold ziZ
 obtain⟨p,q,rfl,hp,hq,ones⟩:=zcM HS
 simp only[zaB]
 refine zag fun b1 h1 r1 e1 n1=>?_
 refine zaj (fun h'=>h'=h1) rfl ?_
 simp only[go_sem,ptr_nn]
 refine zae (.bool true) (fun h' e=>by rw[e];exact pe_ne (e1.row I.row) (e1.row O.row) hne) ?_
 try simp only[go_sem]
 refine zae (.agg #[p,q,.int .i64 s.border]) (fun h' e=>by rw[e];exact zap (l:=[p,q,.int .i64 s.border]) r1 3 rfl) ?_
 refine FCall.to (zpX (G.ext e1) (I.ext e1) (HS.ext e1)) fun h2 e2=>?_
 have E2:=e1.trans e2
 have r2:=e2.row r1
 have c0:zah h2 ⟨b1,0,none⟩=some p:=zab r2
 have c1:zah h2 ⟨b1,1,none⟩=some q:=zab r2
 by_cases g1:zhp m s
 case neg=>
  rw[decide_eq_false g1,decide_eq_false fun hw:zea m n s=>g1 hw.1]
  refine zaj (fun h'=>h'=h2) rfl ?_
  simp only[go_sem]
  refine zae undef (fun _ _=>rfl) ?_
  try simp only[go_sem]
  refine⟨trivial,?_⟩
  try simp only[go_sem]
  refine zaj (fun h'=>h'=h2) rfl ?_
  simp only[go_sem]
  refine zae undef (fun _ _=>rfl) ?_
  try simp only[go_sem]
  refine⟨trivial,?_⟩
  try simp only[go_sem]
  exact⟨trivial,E2⟩
 rw[decide_eq_true g1]
 refine zaj (fun h'=>h'=h2) rfl ?_
 simp only[go_sem,Nat.zero_add]
 refine zae p (fun h' e=>by rw[e];exact c0) ?_
 try simp only[go_sem]
 refine FCall.at (zh7 (O.ext E2)) ?_
 refine⟨rfl,?_⟩
 try simp only[go_sem]
 refine FCall.at (c_To (hp.ext E2)) ?_
 refine zaj (fun h'=>h'=h2) rfl ?_
 by_cases g2:n.w=s.x.lines.length
 case neg=>
  rw[decide_eq_false fun hw:zea m n s=>g2 hw.2.1]
  simp only[go_sem,decide_eq_false g2]
  refine zae undef (fun _ _=>rfl) ?_
  try simp only[go_sem]
  refine⟨trivial,?_⟩
  try simp only[go_sem]
  exact⟨trivial,E2⟩
 simp only[go_sem,Nat.zero_add,g2,eqT]
 refine zae q (fun h' e=>by rw[e];exact c1) ?_
 try simp only[go_sem]
 refine FCall.at (zgZ (O.ext E2)) ?_
 refine⟨rfl,?_⟩
 try simp only[go_sem]
 refine FCall.at (c_To (hq.ext E2)) ?_
 by_cases g3:n.h=s.y.lines.length
 case neg=>
  rw[decide_eq_false fun hw:zea m n s=>g3 hw.2.2.1]
  simp only[go_sem,decide_eq_false g3]
  exact⟨trivial,E2⟩
 simp only[go_sem,Nat.zero_add,g3,eqT]
 refine FCall.at (zbH (O.ext E2)) (FCall.at (zbH (I.ext E2)) ?_)
 by_cases g4:n.c=m.c
 case neg=>
  rw[decide_eq_false fun hw:zea m n s=>g4 hw.2.2.2.1]
  simp only[go_sem,decide_eq_false g4]
  exact⟨trivial,E2⟩
 simp only[go_sem,Nat.zero_add,g4,eqT]
 refine FCall.at (zhL (O.ext E2)) (FCall.at (zhL (I.ext E2)) ?_)
 simp only[go_sem]
 refine⟨?_,E2⟩
 congr 1
 rw[decide_eq_decide]
 exact⟨fun g5=>⟨g1,g2,g3,g4,g5⟩,fun hw=>hw.2.2.2.2⟩
abbrev rectV (x y w hh:Int):Value:=.agg #[.int .i64 x,.int .i64 y,.int .i64 w,.int .i64 hh]
def zbY (s:Stg)(x y w hh:Int):Prop:=1≤w∧1≤hh∧0≤x∧0≤y∧x<s.x.lines.length∧y<s.y.lines.length∧w≤s.x.lines.length-x∧hh≤s.y.lines.length-y
instance (s:Stg)(x y w hh:Int):Decidable (zbY s x y w hh):=by unfold zbY;infer_instance
theorem c_within {h:Heap}{Z:Nat→Prop}{sv:Value}{s:Stg}(HS:IsStg Z h sv s)(WS:s.Wf){x y w hh:Int}:
  FCall prog zdT #[sv,rectV x y w hh] h fun r h'=>r=.bool (decide (zbY s x y w hh))∧Ext h h':=by
 apply zok
 unfold ziy
 obtain⟨p,q,rfl,hp,hq,ones⟩:=zcM HS
 have lx:=WS.x.len
 have ly:=WS.y.len
 simp only[zaB]
 refine zag fun b1 h1 r1 e1 n1=>zag fun b2 h2 r2 e2 n2=>?_
 have r1:=e2.row r1
 have E:=e1.trans e2
 have np:=(zqJ hp).1
 have nq:=(zqJ hq).1
 refine zaj (fun h'=>h'=h2) rfl ?_
 simp only[go_sem,Nat.zero_add]
 refine zae p (fun h' e=>by rw[e];exact zab r1) ?_
 simp only[go_sem,Nat.zero_add,np]
 refine zae q (fun h' e=>by rw[e];exact zab r1) ?_
 simp only[go_sem,Nat.zero_add,nq]
 refine zae (.int .i64 w) (fun h' e=>by rw[e];exact zab r2) ?_
 by_cases g1:1≤w
 case neg=>
  rw[decide_eq_false fun hw:zbY s x y w hh=>g1 hw.1]
  simp only[go_sem,decide_eq_false g1]
  repeat(first|refine zae undef (fun _ _=>rfl) ?_ |(refine⟨trivial,?_⟩)|simp only[go_sem])
  first|exact E|exact⟨trivial,E⟩|exact⟨rfl,E⟩
 simp only[go_sem,Nat.zero_add,decide_eq_true g1]
 refine zae (.int .i64 hh) (fun h' e=>by rw[e];exact zab r2) ?_
 by_cases g2:1≤hh
 case neg=>
  rw[decide_eq_false fun hw:zbY s x y w hh=>g2 hw.2.1]
  simp only[go_sem,decide_eq_false g2]
  repeat(first|refine zae undef (fun _ _=>rfl) ?_ |(refine⟨trivial,?_⟩)|simp only[go_sem])
  first|exact E|exact⟨trivial,E⟩|exact⟨rfl,E⟩
 simp only[go_sem,Nat.zero_add,decide_eq_true g2]
 refine zae (.int .i64 x) (fun h' e=>by rw[e];exact zab r2) ?_
 by_cases g3:0≤x
 case neg=>
  rw[decide_eq_false fun hw:zbY s x y w hh=>g3 hw.2.2.1]
  simp only[go_sem,decide_eq_false g3]
  repeat(first|refine zae undef (fun _ _=>rfl) ?_ |(refine⟨trivial,?_⟩)|simp only[go_sem])
  first|exact E|exact⟨trivial,E⟩|exact⟨rfl,E⟩
 simp only[go_sem,Nat.zero_add,decide_eq_true g3]
 refine zae (.int .i64 y) (fun h' e=>by rw[e];exact zab r2) ?_
 by_cases g4:0≤y
 case neg=>
  rw[decide_eq_false fun hw:zbY s x y w hh=>g4 hw.2.2.2.1]
  simp only[go_sem,decide_eq_false g4]
  repeat(first|refine zae undef (fun _ _=>rfl) ?_ |(refine⟨trivial,?_⟩)|simp only[go_sem])
  first|exact E|exact⟨trivial,E⟩|exact⟨rfl,E⟩
 simp only[go_sem,Nat.zero_add,decide_eq_true g4]
 refine zae (.int .i64 x) (fun h' e=>by rw[e];exact zab r2) ?_
 refine zae p (fun h' e=>by rw[e];exact zab r1) ?_
 try simp only[go_sem]
 refine FCall.at (c_To (hp.ext E)) ?_
 refine⟨rfl,?_⟩
 by_cases g5:x<(s.x.lines.length:Int)
 case neg=>
  rw[decide_eq_false fun hw:zbY s x y w hh=>g5 hw.2.2.2.2.1]
  simp only[go_sem,decide_eq_false g5]
  repeat(first|refine zae undef (fun _ _=>rfl) ?_ |(refine⟨trivial,?_⟩)|simp only[go_sem])
  first|exact E|exact⟨trivial,E⟩|exact⟨rfl,E⟩
 simp only[go_sem,Nat.zero_add,decide_eq_true g5]
 refine zae (.int .i64 y) (fun h' e=>by rw[e];exact zab r2) ?_
 refine zae q (fun h' e=>by rw[e];exact zab r1) ?_
 try simp only[go_sem]
 refine FCall.at (c_To (hq.ext E)) ?_
 refine⟨rfl,?_⟩
 by_cases g6:y<(s.y.lines.length:Int)
 case neg=>
  rw[decide_eq_false fun hw:zbY s x y w hh=>g6 hw.2.2.2.2.2.1]
  simp only[go_sem,decide_eq_false g6]
  repeat(first|refine zae undef (fun _ _=>rfl) ?_ |(refine⟨trivial,?_⟩)|simp only[go_sem])
  first|exact E|exact⟨trivial,E⟩|exact⟨rfl,E⟩
 simp only[go_sem,Nat.zero_add,decide_eq_true g6]
 refine zae (.int .i64 w) (fun h' e=>by rw[e];exact zab r2) ?_
 refine zae p (fun h' e=>by rw[e];exact zab r1) ?_
 refine zae (.int .i64 x) (fun h' e=>by rw[e];exact zab r2) ?_
 try simp only[go_sem]
 refine FCall.at (c_To (hp.ext E)) ?_
 refine⟨rfl,?_⟩
 simp only[go_sem,Nat.zero_add]
 rw[w64 (by omega) (by omega)]
 by_cases g7:w≤(s.x.lines.length:Int)-x
 case neg=>
  rw[decide_eq_false fun hw:zbY s x y w hh=>g7 hw.2.2.2.2.2.2.1]
  simp only[go_sem,decide_eq_false g7]
  repeat(first|refine zae undef (fun _ _=>rfl) ?_ |(refine⟨trivial,?_⟩)|simp only[go_sem])
  first|exact E|exact⟨trivial,E⟩|exact⟨rfl,E⟩
 simp only[go_sem,Nat.zero_add,decide_eq_true g7]
 refine zae (.int .i64 hh) (fun h' e=>by rw[e];exact zab r2) ?_
 refine zae q (fun h' e=>by rw[e];exact zab r1) ?_
 refine zae (.int .i64 y) (fun h' e=>by rw[e];exact zab r2) ?_
 try simp only[go_sem]
 refine FCall.at (c_To (hq.ext E)) ?_
 refine⟨rfl,?_⟩
 simp only[go_sem,Nat.zero_add]
 rw[w64 (by omega) (by omega)]
 refine⟨?_,E⟩
 congr 1
 rw[decide_eq_decide]
 exact⟨fun g8=>⟨g1,g2,g3,g4,g5,g6,g7,g8⟩,fun hw=>hw.2.2.2.2.2.2.2⟩
abbrev zeroJ:Array Value:=#[(.pointer none),(.pointer none),(.pointer none),(.pointer none),(.int .i64 0),(.int .i64 0),(.int .i64 0),(.int .i64 0),(.int .i64 0),(.int .i64 0),(.int .i64 0),(.int .i64 0),(.int .i64 0),(.int .i64 0),(.int .i64 0),(.pointer none),(.int .i64 0)]
theorem fill_job {bf bt:Nat}{p q rv:Value}{d:JobD}{y:Int}(hr:zam rv=true):
  fillL zeroJ [(0,1,ptr bf),(1,1,ptr bt),(2,3,.agg #[p,q,.int .i64 d.s.border]),(5,10,.agg (tileC d.t).toArray),(15,1,rv),(16,1,.int .i64 y)]=some (jobC bf bt p q rv d y).toArray:=by
 refine(zaV (n:=1) (l:=[ptr bf]) rfl rfl (by simp)).trans ?_
 refine(zaV (n:=1) (l:=[ptr bt]) rfl rfl (by simp[zbl])).trans ?_
 refine(zaV (n:=3) (l:=[p,q,.int .i64 d.s.border]) rfl rfl (by simp[zbl])).trans ?_
 refine(zaV (n:=10) (l:=tileC d.t) rfl rfl (by simp[zbl])).trans ?_
 refine(zaV (n:=1) (l:=[rv]) (zaK hr) rfl (by simp[zbl])).trans ?_
 refine(zaV (n:=1) (l:=[.int .i64 y]) rfl rfl (by simp[zbl])).trans ?_
 rw[zcV]
 simp[wrL,tileC,jobC]
theorem zsD {h:Heap}{b:Nat}{l:List Value}{t:TypeId}{f:Nat×Nat}(r:h[b]? =some (.cells l.toArray t f))(o n:Nat)(m:List Value)(hm:(l.drop o).take n=m)(hn:m.length=n):ldsV n h (.pointer (some ⟨b,o,none⟩))=some (.agg m.toArray):=by
 subst hm
 refine zoE _ n hn fun j hj=>?_
 rw[zab r]
 rw[List.length_take,List.length_drop]at hj
 have h2:o+j<l.length:=by omega
 rw[List.getElem_take,List.getElem_drop]
 simp[h2]
def wnewC (m n:Pic)(s:Stg)(t:TileD):Int:=if¬zea m n s then 6 else if¬zbY s t.x t.y t.w t.h then 9 else 0
theorem zfH {m n:Pic}{s:Stg}{t:TileD}:wnewC m n s t=0↔zea m n s∧zbY s t.x t.y t.w t.h:=by
 unfold wnewC
 by_cases h1:zea m n s
 ·rw[if_neg (by simpa using h1)]
  by_cases h2:zbY s t.x t.y t.w t.h
  ·rw[if_neg (by simpa using h2)];exact⟨fun _=>⟨h1,h2⟩,fun _=>rfl⟩
  ·rw[if_pos h2];exact⟨fun h=>absurd h (by decide),fun h=>absurd h.2 h2⟩
 ·rw[if_pos h1];exact⟨fun h=>absurd h (by decide),fun h=>absurd h.1 h1⟩
theorem job_wf {m n:Pic}{s:Stg}{t:TileD}(W:m.Wf)(WS:s.Wf)(hc:wnewC m n s t=0):JobD.Wf ⟨m,s,t⟩:=by
 obtain⟨h1,h2⟩:=zfH.1 hc
 obtain⟨a1,a2,a3,a4,a5,a6,a7,a8⟩:=h2
 exact⟨W,WS,h1.1,a1,a2,a3,a4,by show t.x+t.w≤(s.x.lines.length:Int);omega,by show t.y+t.h≤(s.y.lines.length:Int);omega⟩
theorem job_out {m n:Pic}{s:Stg}{t:TileD}(W:n.Wf)(hc:wnewC m n s t=0):OutOk ⟨m,s,t⟩ n:=by
 obtain⟨h1,h2⟩:=zfH.1 hc
 exact⟨W,h1.2.1,h1.2.2.1,h1.2.2.2.1,h1.2.2.2.2⟩
def WNew (Z:Nat→Prop)(h:Heap)(bf:Nat)(vf:Value)(bt:Nat)(vt p q:Value)(m n:Pic)(s:Stg)(t:TileD)(r:Value)(h':Heap):Prop:=
 Ext h h'∧∃v,r=.tuple #[v,.int .i64 (wnewC m n s t)]∧(wnewC m n s t≠0→v=.pointer none)∧
  (wnewC m n s t=0→∃bj rv,v=ptr bj∧JobSt Z (Grow (fun _=>False) h h') h' bj bf vf bt vt p q rv ⟨m,s,t⟩ t.y (lnF s.y t.y) n (roomN (mostL s.y.lines)) (zcI (t.w*m.c)))
theorem c_wNew {h:Heap}(G:GlobB h){Z:Nat→Prop}{bf bt:Nat}{vf vt p q:Value}{m n:Pic}{s:Stg}{t:TileD}(I:IsImg h bf vf m)(O:IsImg h bt vt n)(hne:bf≠bt)(W:m.Wf)(WO:n.Wf)(hp:IsTbl Z h p s.x)(hq:IsTbl Z h q s.y)(WS:s.Wf)
  (zf:Z bf∧∀c,blk vf c→Z c) (zz:∀c,Z c→¬blk vt c) (zl:∀c,Z c→c<h.size):
  FCall prog zeY #[ptr bf,ptr bt,.agg #[p,q,.int .i64 s.border],.agg (tileC t).toArray] h (WNew Z h bf vf bt vt p q m n s t):=by
 apply zrS
 unfold zly
 simp only[zaB]
 have HS:IsStg Z h (.agg #[p,q,.int .i64 s.border]) s:=⟨p,q,rfl,hp,hq⟩
 refine zag fun b1 h1 r1 e1 n1=>zag fun b2 h2 r2 e2 n2=>?_
 have E2:=e1.trans e2
 have r1:=e2.row r1
 rw[zap (l:=[p,q,.int .i64 s.border]) r1 3 rfl,zaa]
 refine FCall.to (c_wsuits (G.ext E2) (I.ext E2) (O.ext E2) hne (HS.ext E2)) fun h3 e3=>?_
 have E3:=E2.trans e3
 by_cases g1:zea m n s
 case neg=>
  have hc:wnewC m n s t=6:=by unfold wnewC;rw[if_pos g1]
  simp only[go_sem,decide_eq_false g1]
  exact⟨E3,_,by rw[hc],fun _=>rfl,fun h0=>absurd (h0.symm.trans hc) (by decide)⟩
 simp only[go_sem,decide_eq_true g1]
 have r1:=e3.row r1
 have r2:=e3.row r2
 rw[zap (l:=[p,q,.int .i64 s.border]) r1 3 rfl,zaa,zsD r2 (0+1) 4 [.int .i64 t.x,.int .i64 t.y,.int .i64 t.w,.int .i64 t.h] rfl rfl,zaa]
 refine FCall.to (c_within (HS.ext E3) WS) fun h4 e4=>?_
 have E4:=E3.trans e4
 by_cases g2:zbY s t.x t.y t.w t.h
 case neg=>
  have hc:wnewC m n s t=9:=by unfold wnewC;rw[if_neg (by simpa using g1),if_pos g2]
  simp only[go_sem,decide_eq_false g2]
  exact⟨E4,_,by rw[hc],fun _=>rfl,fun h0=>absurd (h0.symm.trans hc) (by decide)⟩
 simp only[go_sem,decide_eq_true g2]
 have hc:wnewC m n s t=0:=zfH.2 ⟨g1,g2⟩
 have r1:=e4.row r1
 have r2:=e4.row r2
 have WJ:=job_wf (t:=t) W WS hc
 have hb:=JobD.bd WJ
 have hw1:=WJ.w1
 have hx0:=WJ.x0
 have hf:=zbv W.fits
 refine zaj (Ext h4) (Ext.refl _) ?_
 refine zae (.agg #[p,q,.int .i64 s.border]) (fun h' e=>zap (l:=[p,q,.int .i64 s.border]) (e.row r1) 3 rfl) ?_
 refine zae (.agg (tileC t).toArray) (fun h' e=>zap (e.row r2) 10 rfl) ?_
 try simp only[go_sem,Nat.zero_add]
 refine zae q (fun h' e=>zab (e.row r1)) ?_
 try simp only[go_sem,Nat.zero_add]
 refine zae (.int .i64 t.w) (fun h' e=>zab (e.row r2)) ?_
 try simp only[go_sem,Nat.zero_add]
 refine zae (.int .i64 t.y) (fun h' e=>zab (e.row r2)) ?_
 refine FCall.at (c_Most (hq.ext E4)) ?_
 refine⟨Ext.refl _,?_⟩
 refine FCall.at (zbH (I.ext E4)) ?_
 refine⟨Ext.refl _,?_⟩
 have hwc:0≤t.w*m.c∧t.w*m.c≤65536*3:=by
  have h1:(1:Int)≤t.w:=hw1
  have h2:t.x+t.w≤65536:=hb.1
  have h3:0≤t.x:=hx0
  have:=Int.mul_le_mul (show t.w≤65536 by omega) hf.2.2.2.2.2.1 (by omega) (by omega)
  exact⟨Int.mul_nonneg (by omega) (by omega),this⟩
 simp only[go_sem]
 rw[w64 (n:=t.w*m.c) (by omega) (by omega)]
 refine(c_RNew (mostL s.y.lines) (t.w*m.c)).mono fun rv h5 ⟨M,R,e5,hM⟩=>?_
 refine⟨e5,?_⟩
 have E5:=E4.trans e5
 have hr:zam rv=true:=by obtain⟨_,_,_,_,_,_,e,_⟩:=R;rw[e];rfl
 have hfj:fillL zeroJ [(0,1,ptr bf),(1,1,ptr bt),(2,3,.agg #[p,q,.int .i64 s.border]),(5,10,.agg (tileC t).toArray),(15,1,rv),(16,1,.int .i64 t.y)]=some (jobC bf bt p q rv ⟨m,s,t⟩ t.y).toArray:=fill_job (d:=⟨m,s,t⟩) hr
 rw[hfj,zaA,zaa]
 refine zag fun bj h6 r6 e6 n6=>?_
 have E6:=E5.trans e6
 have hbt:=O.lt
 have hs5:=E5.1
 have hs4:=E4.1
 refine⟨E6,_,by rw[hc],fun h0=>absurd hc h0,fun _=>⟨bj,rv,rfl,⟨M,[],⟨r6,I.ext E6,hp.ext E6,hq.ext E6,R.ext e6,O.ext E6,zf,fun c hz=>⟨fun hm=>?_,fun he=>?_,zz c hz⟩,⟨fun hm=>?_,fun hm=>?_,fun c hv hm=>?_⟩,⟨by omega,fun hv=>?_⟩,Int.le_refl _,?_,fun c hz=>Nat.lt_of_lt_of_le (zl c hz) E6.1⟩,fun c hm=>.inr ⟨?_,?_⟩,fun _=>⟨Held.start _ _,Int.le_refl _,?_⟩⟩,.inr ⟨by omega,zaz r6⟩,fun c hc=>hc.elim (fun h=>h.elim) fun h=>h.2,fun c hc=>?_,job_out WO hc⟩⟩
 ·have:=hM c hm;have:=zl c hz;omega
 ·have:=zl c hz;omega
 ·have:=R.lt hm;omega
 ·have:=hM bt hm;omega
 ·have:=hM c hm;have:=O.ltv hv;omega
 ·have:=O.ltv hv;omega
 ·show t.y≤t.y+t.h
  have:=WJ.h1
  have:(1:Int)≤t.h:=this
  omega
 ·have:=hM c hm;omega
 ·have:=R.lt hm;have:=e6.1;omega
 ·show lnF s.y t.y≤lnE s.y t.y
  unfold lnF lnE;omega
 ·rcases hc with h|h
  ·exact h.elim
  ·exact⟨fun hz=>by have:=zl c hz;omega,by omega,fun hv=>by have:=O.ltv hv;omega⟩
section
theorem zqI {a b:Int}(ha:1≤a)(hb:1≤b):max a b≤a*b:=by
 have h1:a*1≤a*b:=Int.mul_le_mul_of_nonneg_left hb (by omega)
 have h2:1*b≤a*b:=Int.mul_le_mul_of_nonneg_right ha (by omega)
 omega
theorem span0 (X:Int){n m:Int}(hn:1≤n)(hm:1≤m): -(-(X+n)/m)-X/m≤6*n+4:=by
 have a1:=Int.mul_ediv_add_emod (-(X+n)) m
 have a2:=Int.mul_ediv_add_emod X m
 have b1:=Int.emod_lt_of_pos (-(X+n)) (show 0<m by omega)
 have b2:=Int.emod_lt_of_pos X (show 0<m by omega)
 have hmn:=zqI hn hm
 revert a1 a2 b1 b2
 generalize-(X+n)/m=q1
 generalize X/m=q2
 generalize-(X+n)%m=r1
 generalize X%m=r2
 intro a1 a2 b1 b2
 rcases Int.lt_or_le (6*n+4) (-q1-q2)with h|h
 ·exfalso
  have h1:m*(6*n+5)≤m*(-q1-q2):=Int.mul_le_mul_of_nonneg_left (by omega) (by omega)
  have h2:m*(6*n+5)=6*(n*m)+5*m:=by grind
  have h3:m*(-q1-q2)= -(m*q1)-m*q2:=by grind
  rw[h2,h3]at h1
  omega
 ·omega
theorem span1 (X R:Int){n m:Int}(hn:1≤n)(hm:1≤m)(hR:R≤6*(n*m)): -(-(X+R)/(2*m))-((X-R)/(2*m)+1)≤6*n+4:=by
 have a1:=Int.mul_ediv_add_emod (-(X+R)) (2*m)
 have a2:=Int.mul_ediv_add_emod (X-R) (2*m)
 have b1:=Int.emod_lt_of_pos (-(X+R)) (show 0<2*m by omega)
 have b2:=Int.emod_lt_of_pos (X-R) (show 0<2*m by omega)
 revert a1 a2 b1 b2
 generalize-(X+R)/(2*m)=q1
 generalize(X-R)/(2*m)=q2
 generalize-(X+R)%(2*m)=r1
 generalize(X-R)%(2*m)=r2
 intro a1 a2 b1 b2
 rcases Int.lt_or_le (6*n+4) (-q1-(q2+1))with h|h
 ·exfalso
  have h1:2*m*(6*n+5)≤2*m*(-q1-(q2+1)):=Int.mul_le_mul_of_nonneg_left (by omega) (by omega)
  have h2:2*m*(6*n+5)=12*(n*m)+10*m:=by grind
  have h3:2*m*(-q1-(q2+1))= -(2*m*q1)-2*m*q2-2*m:=by grind
  rw[h2,h3]at h1
  omega
 ·omega
theorem span_bd {f n m i:Int}(hf:0≤f∧f<3)(hn:1≤n)(hm:1≤m):highW f n m i-lowW f n m i≤6*n+4:=by
 have hmn:=zqI hn hm
 unfold highW lowW ceilD
 by_cases h0:f=0
 ·rw[if_pos h0,if_pos h0]
  rw[show(i+1)*n=i*n+n by rw[Int.add_mul,Int.one_mul]]
  exact span0 (i*n) hn hm
 ·rw[if_neg h0,if_neg h0]
  have hR:zaZ f*2*max n m≤6*(n*m)∧0≤zaZ f*2*max n m:=by
   have:(zaZ f=2∨zaZ f=3):=by unfold zaZ;rw[if_neg h0];split<;>simp
   rcases this with h|h<;>rw[h]<;>omega
  generalize zaZ f*2*max n m=R at*
  exact span1 _ _ hn hm hR.1
theorem zqY {ls:List (Int×List Int)}{c:Int}(h0:0≤c)(h:∀x∈ls,(x.2.length:Int)≤c):mostL ls≤c:=by
 unfold mostL
 have:∀(l:List (Int×List Int)) (a:Int),a≤c→(∀x∈l,(x.2.length:Int)≤c)→l.foldl (fun m x=>max m (x.2.length:Int)) a≤c:=by
  intro l
  induction l with
  |nil=>intro a ha _;exact ha
  |cons y l ih=>
   intro a ha hl
   rw[List.foldl_cons]
   exact ih _ (by have:=hl y (by simp);omega) fun x hx=>hl x (by simp[hx])
 exact this ls 0 h0 h
theorem resize_mostB {f n m:Int}(hc:zbE f n m=0):mostL (zb8 f n m).lines≤6*n+4:=by
 have h0:¬(¬(0≤f∧f<3)∨¬zav n∨¬zav m):=fun h=>by unfold zbE at hc;rw[if_pos h]at hc;cases hc
 have hz:=hc
 unfold zbE at hz
 rw[if_neg h0]at hz
 have hf:0≤f∧f<3:=Decidable.of_not_not fun h=>h0 (.inl h)
 have hn:zav n:=Decidable.of_not_not fun h=>h0 (.inr (.inl h))
 have hm:zav m:=Decidable.of_not_not fun h=>h0 (.inr (.inr h))
 unfold zav at hn hm
 refine zqY (by omega) fun x hx=>?_
 obtain⟨i,hi,rfl⟩:=List.mem_map.1 hx
 have hi:=List.mem_range.1 hi
 have h2:=zh6 hz i hi
 show((zaG (zbb f n m i)).length:Int)≤_
 rw[znB h2]
 unfold zbb
 rw[if_pos ⟨hf.1,hf.2,hn.1,hn.2,hm.1,hm.2,by omega,by omega⟩]
 unfold rowW
 rw[List.length_map,List.length_range]
 have:=span_bd (i:=i) hf hn.1 hm.1
 omega
theorem resize_most {f n m:Int}(hc:zbE f n m=0)(hs:n≤10000):mostL (zb8 f n m).lines≤65536:=by have:=resize_mostB hc;omega
theorem filter_mostB (l:List Int)(n:Int)(hc:zdR l n=0):mostL (zej l n).lines≤l.length:=by
 refine zqY (by omega) fun x hx=>?_
 obtain⟨i,hi,rfl⟩:=List.mem_map.1 hx
 show((zaG l).length:Int)≤_
 have h0:za0 l=0:=by
  unfold zdR at hc
  split at hc
  ·cases hc
  ·split at hc
   ·cases hc
   ·exact hc
 rw[znB h0]
 omega
theorem filter_most (l:List Int)(hl:l.length≤1024)(n:Int)(hc:zdR l n=0):mostL (zej l n).lines≤65536:=by have:=filter_mostB l n hc;omega
theorem makeS_most {o:OpD}{w h:Int}(hc:makeC o w h=0)(hs:h≤10000):mostL (makeS o w h).y.lines≤65536:=by
 have ht:zec o w h=0:=by
  unfold makeC at hc
  split at hc
  ·cases hc
  ·exact hc
 show mostL (zdc o h).lines≤_
 unfold zec at ht
 unfold zdc
 split
 ·rename_i hk
  rw[if_pos hk]at ht
  by_cases h1:zbE o.filter w o.w=0
  ·rw[if_neg (by simpa using h1)]at ht
   exact resize_most ht hs
  ·rw[if_pos h1]at ht
   exact absurd ht h1
 ·rename_i hk
  rw[if_neg hk]at ht
  refine filter_most _ (zkU o).2 _ ?_
  split at ht
  ·exact absurd ht (by assumption)
  ·split at ht
   ·exact absurd ht (by assumption)
   ·exact ht
structure StgOk (s:Stg):Prop where
 wf:s.Wf
 mono:znC s.y
 most:mostL s.y.lines≤65536
 side:s.x.lines.length≤300
theorem zsz {o:OpD}{w h:Int}(hc:makeC o w h=0)(hs:h≤10000)(hx:sizeW o w≤300):StgOk (makeS o w h):=
 ⟨(zjW hc).1,makeS_mono hc,makeS_most hc hs,by have:=(zpx hc).1;omega⟩
theorem StgOk.room {s:Stg}(H:StgOk s){m n:Pic}{t:TileD}(W:m.Wf)(hc:wnewC m n s t=0):RoomOk ⟨m,s,t⟩ (roomN (mostL s.y.lines)) (zcI (t.w*m.c)):=by
 have hw:=job_wf (t:=t) W H.wf hc
 have hf:=zbv W.fits
 have h1:1≤t.w:=hw.w1
 have h2:0≤t.x:=hw.x0
 have h3:t.x+t.w≤s.x.lines.length:=hw.xw
 have h4:=H.side
 have h5:=H.most
 have hwc:0≤t.w*m.c∧t.w*m.c≤300*3:=⟨Int.mul_nonneg (by omega) (by omega),Int.mul_le_mul (show t.w≤300 by omega) hf.2.2.2.2.2.1 (by omega) (by omega)⟩
 refine⟨H.mono,?_,?_,?_,?_⟩
 ·unfold roomN;show mostL s.y.lines≤_;omega
 ·unfold roomN;omega
 ·unfold zcI;show _=t.w*m.c;omega
 ·show t.w≤300;omega
def leftN (d:JobD):Nat→Int→Int→Nat
 |0,_,_=>0
 |k+1,y,e=>(lnE d.s.y y-e).toNat+1+leftN d k (y+1) (max (lnE d.s.y y) (lnF d.s.y (y+1)))
def leftZ (d:JobD)(y e:Int):Nat:=leftN d (d.t.y+d.t.h-y).toNat y e
theorem left_zero {d:JobD}{y e:Int}(h:d.t.y+d.t.h≤y):leftZ d y e=0:=by
 unfold leftZ
 rw[show(d.t.y+d.t.h-y).toNat=0 by omega];rfl
theorem zpA {d:JobD}{y e:Int}(h:y<d.t.y+d.t.h):leftZ d y e=(lnE d.s.y y-e).toNat+1+leftZ d (y+1) (max (lnE d.s.y y) (lnF d.s.y (y+1))):=by
 unfold leftZ
 rw[show(d.t.y+d.t.h-y).toNat=(d.t.y+d.t.h-(y+1)).toNat+1 by omega];rfl
theorem left_step {d:JobD}{y e:Int}(hk:stepK d y e≠0)(he:e≤lnE d.s.y y):leftZ d (stepY d y e) (stepE d y e)+1=leftZ d y e:=by
 have hno:¬d.t.y+d.t.h≤y:=fun h=>hk (by unfold stepK;rw[if_pos h])
 have hl:=zpA (e:=e) (show y<d.t.y+d.t.h by omega)
 by_cases h1:e<lnE d.s.y y
 ·have k1:stepK d y e=1:=by unfold stepK;rw[if_neg hno,if_pos h1]
  have hy:stepY d y e=y:=by unfold stepY;rw[if_neg (by omega)]
  have hE:stepE d y e=e+1:=by unfold stepE;rw[if_pos k1]
  rw[hy,hE,hl,zpA (e:=e+1) (by omega)]
  omega
 ·have k2:stepK d y e=2:=by unfold stepK;rw[if_neg hno,if_neg h1]
  have hy:stepY d y e=y+1:=by unfold stepY;rw[if_pos k2]
  have hE:stepE d y e=max e (lnF d.s.y (y+1)):=by unfold stepE;rw[if_neg (by omega),if_pos k2]
  have hee:e=lnE d.s.y y:=by omega
  rw[hy,hE,hl,hee]
  omega
theorem left_pos {d:JobD}{y e:Int}:leftZ d y e=0↔stepK d y e=0:=by
 unfold stepK
 by_cases h:d.t.y+d.t.h≤y
 ·rw[if_pos h,left_zero h]
  simp
 ·rw[if_neg h,zpA (by omega)]
  constructor
  ·intro h;omega
  ·split<;>intro h<;>cases h
theorem zsB {d:JobD}(W:d.s.y.Wf):∀(k:Nat) (y e:Int),lnF d.s.y y≤e→leftN d k y e≤k*1048577
 |0,_,_,_=>Nat.le_refl _
 |k+1,y,e,he=>by
  have h1:=zsB W k (y+1) (max (lnE d.s.y y) (lnF d.s.y (y+1))) (by omega)
  have h2:=zh2 W y
  unfold leftN
  unfold lnE lnF at*
  omega
theorem left_bd {d:JobD}(W:d.Wf){y e:Int}(hy:d.t.y≤y)(he:y<d.t.y+d.t.h→lnF d.s.y y≤e):leftZ d y e≤68719542272:=by
 by_cases h:y<d.t.y+d.t.h
 ·have h1:=zsB W.s.y (d.t.y+d.t.h-y).toNat y e (he h)
  have h2:=JobD.bd W
  have h3:=W.y0
  unfold leftZ
  omega
 ·rw[left_zero (by omega)];omega
theorem zmF {B:Nat→Prop}{h:Heap}:Grow B h h=B:=by
 funext c
 unfold Grow
 apply propext
 constructor
 ·rintro(h|h)
  ·exact h
  ·omega
 ·exact .inl
section
variable {Z B:Nat→Prop}{h:Heap}{bj bf:Nat}{vf:Value}{bt:Nat}{vt p q rv:Value}{d:JobD}{y e:Int}{n:Pic}{room w:Nat}
theorem zrk (S:JobSt Z B h bj bf vf bt vt p q rv d y e n room w):FCall prog zcL #[ptr bj] h fun r h'=>r=.int .i64 ((room:Int)*w)∧h'=h:=by
 apply zkZ
 unfold zfR
 obtain⟨⟨M,rs,J,a,b⟩,_⟩:=S
 simp only[go_sem,J.c15 (Ext.refl _)]
 exact c_RWords J.ring
end
def zlu (s:Stg)(t:TileD)(m:Pic):Nat:=leftZ ⟨m,s,t⟩ t.y (lnF s.y t.y)
theorem c_Steps {Z:Nat→Prop}{h:Heap}{p q:Value}{s:Stg}{t:TileD}(m:Pic)(hp:IsTbl Z h p s.x)(hq:IsTbl Z h q s.y)(OK:StgOk s):
  FCall prog zhd #[.agg #[p,q,.int .i64 s.border],.agg (tileC t).toArray] h fun r h'=>r=.int .i64 (if zbY s t.x t.y t.w t.h then(zlu s t m:Int)else 0)∧Ext h h':=by
 apply zpc
 unfold zi0
 simp only[zaB]
 have HS:IsStg Z h (.agg #[p,q,.int .i64 s.border]) s:=⟨p,q,rfl,hp,hq⟩
 refine zag fun b1 h1 r1 e1 n1=>zag fun b2 h2 r2 e2 n2=>?_
 have E2:=e1.trans e2
 have r1:=e2.row r1
 rw[zap (l:=[p,q,.int .i64 s.border]) r1 3 rfl,zaa,fldV_ptr,zaa,zsD r2 (0+1) 4 [.int .i64 t.x,.int .i64 t.y,.int .i64 t.w,.int .i64 t.h] rfl rfl,zaa]
 refine FCall.to (c_within (HS.ext E2) OK.wf) fun h4 e4=>?_
 have E4:=E2.trans e4
 have r1:=e4.row r1
 have r2:=e4.row r2
 by_cases g:zbY s t.x t.y t.w t.h
 case neg=>
  rw[if_neg g]
  simp only[go_sem,decide_eq_false g]
  exact⟨trivial,E4⟩
 rw[if_pos g]
 obtain⟨g1,g2,g3,g4,g5,g6,g7,g8⟩:=g
 have q1:zah h4 ⟨b1,1,none⟩=some q:=zab r1
 have t4:zah h4 ⟨b2,4,none⟩=some (.int .i64 t.h):=zab r2
 have t2:zah h4 ⟨b2,2,none⟩=some (.int .i64 t.y):=zab r2
 simp only[go_sem,decide_eq_true (show zbY s t.x t.y t.w t.h from⟨g1,g2,g3,g4,g5,g6,g7,g8⟩),t4,q1,t2]
 refine(zog (hq.ext E4) OK.wf.y).mono fun r h5 ⟨u,e,S,e5⟩=>?_
 subst e
 have E5:=E4.trans e5
 have hpt:partV false 1 0 (.agg #[.int .i64 (lineT s.y t.y).1,u])=some (.int .i64 (lnF s.y t.y)):=rfl
 have t4:zah h5 ⟨b2,4,none⟩=some (.int .i64 t.h):=zab (e5.row r2)
 simp only[go_sem,hpt,t4]
 obtain⟨H,hH⟩:∃H:Nat,t.h=(H:Int):=⟨t.h.toNat,by omega⟩
 have hly:=OK.wf.y.len
 have hmo:=OK.mono
 obtain⟨d,hd⟩:∃d:JobD,d=⟨m,s,t⟩:=⟨_,rfl⟩
 have hds:d.s=s:=by rw[hd]
 have htot:zlu s t m=leftN d H t.y (lnF s.y t.y):=by
  unfold zlu leftZ
  rw[hd]
  show leftN _ (t.y+t.h-t.y).toNat _ _=_
  rw[show(t.y+t.h-t.y).toNat=H by omega]
 have hbd:∀k y e,lnF s.y y≤e→leftN d k y e≤k*1048577:=fun k y e he=>zsB (by rw[hds];exact OK.wf.y) k y e (by rw[hds];exact he)
 have htb:=hbd H t.y (lnF s.y t.y) (Int.le_refl _)
 rw[hH]
 refine zaF (α:=Int×Int) H 0 (fun k a=>[.int .i64 a.1,.int .i64 a.2,.int .i64 (k:Int)])
  (fun k a h'=>Ext h h'∧h'[b1]? =some (.cells #[p,q,.int .i64 s.border] 46 (0,0))∧h'[b2]? =some (.cells (tileC t).toArray 65 (0,0))∧0≤a.1∧a.1+leftN d (H-k) (t.y+k) (max a.2 (lnF s.y (t.y+k)))-(H-k:Nat)=zlu s t m∧(k<H→a.2≤lnE s.y (t.y+k)∧lnF s.y t.y≤a.2)) ((H:Int),lnF s.y t.y) rfl (Nat.zero_le _)
  ⟨E5,e5.row r1,e5.row r2,by show(0:Int)≤(H:Int);omega,by
   show((H:Int)+(leftN d (H-0) (t.y+(0:Nat)) (max (lnF s.y t.y) (lnF s.y (t.y+(0:Nat)))):Int))-_=_
   rw[show t.y+((0:Nat):Int)=t.y by omega,show max (lnF s.y t.y) (lnF s.y t.y)=lnF s.y t.y by omega,htot,Nat.sub_zero]
   omega,fun _=>by
   show lnF s.y t.y≤lnE s.y (t.y+(0:Nat))∧_
   rw[show t.y+((0:Nat):Int)=t.y by omega]
   exact⟨by unfold lnE lnF;omega,Int.le_refl _⟩⟩ fun k a h6 again ρ1 _ hk ⟨E6,r16,r26,a0,hI,hL⟩ Hag=>?_
 obtain⟨n,last⟩:=a
 have a0:0≤n:=a0
 have hI:n+leftN d (H-k) (t.y+k) (max last (lnF s.y (t.y+k)))-(H-k:Nat)=zlu s t m:=hI
 have hL:k<H→last≤lnE s.y (t.y+k)∧lnF s.y t.y≤last:=hL
 simp only[go_sem]
 refine zac (fun h7=>?_) (fun h7=>?_)
 ·have hk':k<H:=by omega
  obtain⟨hL,hL2⟩:=hL hk'
  have q1:zah h6 ⟨b1,1,none⟩=some q:=zab r16
  have t2:zah h6 ⟨b2,2,none⟩=some (.int .i64 t.y):=zab r26
  simp only[go_sem,q1,t2]
  rw[w64 (n:=t.y+(k:Int)) (by omega) (by omega)]
  refine(zog (hq.ext E6) OK.wf.y).mono fun r h7 ⟨u,e,S,e7⟩=>?_
  subst e
  have hl:=zh2 OK.wf.y (t.y+k)
  refine zbh (cs:=[.int .i64 (lineT s.y (t.y+k)).1,u]) rfl (zad rfl (zad S.one zaq)) rfl fun b8 h8 r8 e8 n8=>?_
  obtain⟨au,cu,eu⟩:=S.isSl
  have eu2:zaf u=some (.int .i64 ((lineT s.y (t.y+k)).2.length:Int)):=by rw[eu];rfl
  have c0:zah h8 ⟨b8,0,none⟩=some (.int .i64 (lineT s.y (t.y+k)).1):=zab r8
  have c1:zah h8 ⟨b8,1,none⟩=some u:=zab r8
  simp only[go_sem,Nat.zero_add,c0,c1,eu2]
  have hEe:(lineT s.y (t.y+k)).1+((lineT s.y (t.y+k)).2.length:Int)=lnE s.y (t.y+k):=rfl
  have hFe:(lineT s.y (t.y+k)).1=lnF s.y (t.y+k):=rfl
  have hFE:lnF s.y (t.y+k)≤lnE s.y (t.y+k):=by unfold lnE lnF;omega
  have hEb: -70368744177664≤lnE s.y (t.y+k)∧lnE s.y (t.y+k)≤70368745226240:=by unfold lnE;omega
  have hFb:=zh2 OK.wf.y t.y
  have hFb2: -70368744177664≤lnF s.y t.y∧lnF s.y t.y≤70368744177664:=⟨hFb.2.1,hFb.2.2⟩
  have hFk: -70368744177664≤lnF s.y (t.y+k):=hl.2.1
  rw[w64 (n:=(lineT s.y (t.y+k)).1+((lineT s.y (t.y+k)).2.length:Int)) (by omega) (by omega),hEe,hFe]
  have hsplit:leftN d (H-k) (t.y+k) (max last (lnF s.y (t.y+k)))=(lnE s.y (t.y+k)-max last (lnF s.y (t.y+k))).toNat+1+leftN d (H-(k+1)) (t.y+(k+1:Nat)) (max (lnE s.y (t.y+k)) (lnF s.y (t.y+(k+1:Nat)))):=by
   rw[show H-k=(H-(k+1))+1 by omega]
   rw[leftN,hds,show t.y+(k:Int)+1=t.y+((k+1:Nat):Int)by omega]
  have hlb:=hbd (H-(k+1)) (t.y+(k+1:Nat)) (max (lnE s.y (t.y+k)) (lnF s.y (t.y+(k+1:Nat)))) (by omega)
  rw[hsplit]at hI
  generalize hld:leftN d (H-(k+1)) (t.y+(k+1:Nat)) (max (lnE s.y (t.y+k)) (lnF s.y (t.y+(k+1:Nat))))=LL at*
  rw[w64 (n:=lnE s.y (t.y+k)-max last (lnF s.y (t.y+k))) (by omega) (by omega),w64 (n:=n+max 0 (lnE s.y (t.y+k)-max last (lnF s.y (t.y+k)))) (by omega) (by omega),w64 (n:=(k:Int)+1) (by omega) (by omega)]
  refine Hag (n+max 0 (lnE s.y (t.y+k)-max last (lnF s.y (t.y+k))),max last (lnE s.y (t.y+k))) h8 hk' ⟨E6.trans (e7.trans e8),(e7.trans e8).row r16,(e7.trans e8).row r26,?_,?_,fun hk2=>?_⟩
  ·show 0≤n+max 0 (lnE s.y (t.y+k)-max last (lnF s.y (t.y+k)));omega
  ·show n+max 0 (lnE s.y (t.y+k)-max last (lnF s.y (t.y+k)))+(leftN d (H-(k+1)) (t.y+(k+1:Nat)) (max (max last (lnE s.y (t.y+k))) (lnF s.y (t.y+(k+1:Nat)))):Int)-_=_
   rw[show max last (lnE s.y (t.y+k))=lnE s.y (t.y+k)by omega,hld]
   omega
  ·have:=hmo.e (t.y+k) (t.y+(k+1:Nat)) (by omega) (by omega) (by omega)
   show max last (lnE s.y (t.y+k))≤lnE s.y (t.y+(k+1:Nat))∧lnF s.y t.y≤max last (lnE s.y (t.y+k))
   omega
 ·have hkH:k=H:=by omega
  subst hkH
  refine⟨?_,E6⟩
  rw[Nat.sub_self]at hI
  have:n=zlu s t m:=by unfold leftN at hI;omega
  rw[this]
end
end Go.Proofs.YtcoimlclclnlkaaGreatDoor
namespace Go.Proofs.YtcoimlclclnlkaaGreatDoor
open Go Go.Crisp
attribute [local irreducible] FCall rowK newK stK iteK vK qK drawK gK joinK loopK mkK appK cpyK zoB zmd bsK clK zh1 zgb newmK
def pixL (m:Pic)(s:Stg)(i:Nat):Int:=pixZ m s ((i/m.c.toNat%s.x.lines.length:Nat):Int) ((i/m.c.toNat/s.x.lines.length:Nat):Int) ((i%m.c.toNat:Nat):Int)
def zoh (m:Pic)(s:Stg):Pic:=⟨s.x.lines.length,s.y.lines.length,m.c,m.most,(List.range (s.y.lines.length*s.x.lines.length*m.c.toNat)).map fun i:Nat=>pixL m s i⟩
theorem pixL_at {m:Pic}{s:Stg}{x y c:Nat}(hx:x<s.x.lines.length)(hc:c<m.c.toNat):pixL m s ((y*s.x.lines.length+x)*m.c.toNat+c)=pixZ m s x y c:=by
 unfold pixL
 have e1:((y*s.x.lines.length+x)*m.c.toNat+c)/m.c.toNat=y*s.x.lines.length+x:=by
  rw[Nat.mul_comm,Nat.mul_add_div (by omega),Nat.div_eq_of_lt hc,Nat.add_zero]
 have e2:((y*s.x.lines.length+x)*m.c.toNat+c)%m.c.toNat=c:=by
  rw[Nat.mul_comm,Nat.mul_add_mod,Nat.mod_eq_of_lt hc]
 rw[e1,e2]
 have e3:(y*s.x.lines.length+x)%s.x.lines.length=x:=by rw[Nat.mul_comm,Nat.mul_add_mod,Nat.mod_eq_of_lt hx]
 have e4:(y*s.x.lines.length+x)/s.x.lines.length=y:=by rw[Nat.mul_comm,Nat.mul_add_div (by omega),Nat.div_eq_of_lt hx,Nat.add_zero]
 rw[e3,e4]
theorem applyP_at {m:Pic}{s:Stg}{x y c:Int}(hi:inP (zoh m s) x y c):atP (zoh m s) x y c=pixZ m s x y c:=by
 unfold atP
 rw[if_pos hi]
 obtain⟨x0,x1,y0,y1,c0,c1⟩:=hi
 have x1:x<s.x.lines.length:=x1
 have y1:y<s.y.lines.length:=y1
 have c1:c<m.c:=c1
 obtain⟨a,rfl⟩:∃a:Nat,x=a:=⟨x.toNat,by omega⟩
 obtain⟨b,rfl⟩:∃b:Nat,y=b:=⟨y.toNat,by omega⟩
 obtain⟨e,rfl⟩:∃e:Nat,c=e:=⟨c.toNat,by omega⟩
 have hp:(posP (zoh m s) a b e).toNat=(b*s.x.lines.length+a)*m.c.toNat+e:=by
  show(((b:Int)*(s.x.lines.length:Int)+a)*m.c+e).toNat=_
  have:((((b*s.x.lines.length+a)*m.c.toNat+e:Nat)):Int)=((b:Int)*(s.x.lines.length:Int)+a)*m.c+e:=by
   rw[Int.natCast_add,Int.natCast_mul,Int.natCast_add,Int.natCast_mul,Int.toNat_of_nonneg (by omega)]
  omega
 rw[hp]
 have h1:b*s.x.lines.length+a<s.y.lines.length*s.x.lines.length:=by
  have:(b+1)*s.x.lines.length≤s.y.lines.length*s.x.lines.length:=Nat.mul_le_mul_right _ (by omega)
  rw[Nat.add_mul,Nat.one_mul]at this
  omega
 have h2:(b*s.x.lines.length+a)*m.c.toNat+e<s.y.lines.length*s.x.lines.length*m.c.toNat:=by
  have:(b*s.x.lines.length+a+1)*m.c.toNat≤s.y.lines.length*s.x.lines.length*m.c.toNat:=Nat.mul_le_mul_right _ (by omega)
  rw[Nat.add_mul,Nat.one_mul]at this
  omega
 show((List.range _).map _).getD _ 0=_
 rw[List.getD_eq_getElem?_getD,List.getElem?_map,List.getElem?_range h2]
 exact pixL_at (by omega) (by omega)
end Go.Proofs.YtcoimlclclnlkaaGreatDoor
namespace Go.Crisp
open Go
def OwnO (w:Nat)(h:Heap)(v:Value)(n:Nat)(cs:List Value):Prop:=
 (v=.slice none 0 0∧n=0∧cs=[])∨∃b cap p r e,v=.slice (some ⟨b,p.length,none⟩) n cap∧n≤cap∧cs.length=n*w∧(cs++r).length=cap*w∧h[b]? =some (.cells (p++(cs++r)).toArray e (0,0))
theorem Own.o {w:Nat}{h:Heap}{v:Value}{n:Nat}{cs:List Value}(H:Own w h v n cs):OwnO w h v n cs:=by
 rcases H with H|⟨b,cap,r,e,rfl,h1,h2,h3,h4⟩
 ·exact .inl H
 ·exact .inr ⟨b,cap,[],r,e,rfl,h1,h2,h3,h4⟩
theorem OwnO.sl {w:Nat}{h:Heap}{v:Value}{n:Nat}{cs:List Value}(H:OwnO w h v n cs):SlC w h v n cs:=by
 rcases H with⟨rfl,rfl,rfl⟩|⟨b,cap,p,r,e,rfl,hc,hl,_,hb⟩
 ·exact⟨by simp,none,0,rfl,.inl rfl⟩
 ·refine⟨hl,_,cap,rfl,.inr ⟨b,p.length,rfl,fun j hj=>?_⟩⟩
  rw[zab hb]
  simp only[List.getElem?_toArray]
  rw[List.getElem?_append_right (Nat.le_add_right _ _),Nat.add_sub_cancel_left,List.getElem?_append_left hj]
  simp[hj]
theorem OwnO.tail {w:Nat}{h:Heap}{v x:Value}{n:Nat}{cs ds:List Value}(H:OwnO w h v (n+1) (ds++cs))(hd:ds.length=w)(hn:0<n){k:IntKind}:
  ∃v',slcV w v (some (.int k 1)) none=some v'∧OwnO w h v' n cs∧∀b,blk v' b→blk v b:=by
 rcases H with⟨_,h0,_⟩|⟨b,cap,p,r,e,rfl,hc,hl,hr,hb⟩
 ·cases h0
 ·have hne:¬cap=1:=by omega
  refine⟨.slice (some ⟨b,p.length+w,none⟩) n (cap-1),?_,.inr ⟨b,cap-1,p++ds,r,e,by rw[List.length_append,hd],by omega,?_,?_,?_⟩,fun c hc=>hc⟩
  ·have e0:bdV (some (Value.int k 1)) 0 (n+1)=some 1:=znA k 1 0 (n+1) (by omega)
   simp only[slcV,bdV,e0,if_neg hne,Option.map_some,zgg,Nat.one_mul,Nat.add_sub_cancel]
   rw[if_pos (by omega)]
   simp[hne]
  ·rw[List.length_append,hd,Nat.add_mul,Nat.one_mul]at hl;omega
  ·simp only[List.length_append]at hr ⊢
   rw[hd]at hr
   have:cap*w=(cap-1)*w+w:=by rw[←Nat.succ_mul];congr 1;omega
   omega
  ·rw[hb];simp
def OwO (k:IntKind)(h:Heap)(v:Value)(l:List Int):Prop:=OwnO 1 h v l.length (l.map fun x=>Value.int k x)
theorem OwO.sl {k:IntKind}{h:Heap}{v:Value}{l:List Int}(H:OwO k h v l):Rp.Sl (Rp.int k) (blk v) h v l:=by
 have s:=OwnO.sl H
 refine⟨_,s,fun _ b hb=>hb,fun i hi=>?_⟩
 show Rp.el 1 (l.map fun x=>Value.int k x) i=[Value.int k l[i]]
 rw[Rp.el_one (by simpa using hi)]
 simp
theorem OwO.tail {k k':IntKind}{h:Heap}{v:Value}{x:Int}{l:List Int}(H:OwO k h v (x::l))(hn:0<l.length):
  ∃v',slcV 1 v (some (.int k' 1)) none=some v'∧OwO k h v' l∧∀b,blk v' b→blk v b:=
 OwnO.tail (x:=v) (ds:=[.int k x]) H rfl hn
end Go.Crisp
namespace Go.Proofs.YtcoimlclclnlkaaGreatDoor
open Go Go.Crisp
attribute [local irreducible] FCall rowK newK stK iteK vK qK drawK gK joinK loopK mkK appK cpyK zoB zmd bsK clK zh1 zgb newmK
open _root_.Go.Proofs.Tryz
theorem move_eq (a b c d:Int):binV (.st [(0,1,.i),(1,1,.i)]) .eql (moveV a b) (moveV c d)=some (.bool (decide (a=c∧b=d))):=by
 have e1:(a==c)=decide (a=c):=rfl
 have e2:(b==d)=decide (b=d):=rfl
 simp only[binV,eqV,seEqL,seEq,seAgg,cond_false,List.getElem?_toArray,List.getElem?_cons_zero,List.getElem?_cons_succ,if_true,e1,e2]
 by_cases h:a=c<;>by_cases h2:b=d<;>simp[h,h2]
theorem move_ne (a b c d:Int):binV (.st [(0,1,.i),(1,1,.i)]) .neq (moveV a b) (moveV c d)=some (.bool (!decide (a=c∧b=d))):=by
 have e1:(a==c)=decide (a=c):=rfl
 have e2:(b==d)=decide (b=d):=rfl
 simp only[binV,eqV,seEqL,seEq,seAgg,cond_false,List.getElem?_toArray,List.getElem?_cons_zero,List.getElem?_cons_succ,if_true,e1,e2]
 by_cases h:a=c<;>by_cases h2:b=d<;>simp[h,h2]
structure Setup (Z:Nat→Prop)(h:Heap)(bf:Nat)(vf:Value)(bt:Nat)(vt p q:Value)(m n:Pic)(s:Stg):Prop where
 src:IsImg h bf vf m
 out:IsImg h bt vt n
 ne:bf≠bt
 tx:IsTbl Z h p s.x
 ty:IsTbl Z h q s.y
 zf:Z bf∧∀c,blk vf c→Z c
 zz:∀c,Z c→¬blk vt c
 zb:∀c,Z c→c≠bt
 zl:∀c,Z c→c<h.size
theorem Setup.ext {Z:Nat→Prop}{h h':Heap}{bf:Nat}{vf:Value}{bt:Nat}{vt p q:Value}{m n:Pic}{s:Stg}(S:Setup Z h bf vf bt vt p q m n s)(e:Ext h h'):Setup Z h' bf vf bt vt p q m n s:=
 ⟨S.src.ext e,S.out.ext e,S.ne,S.tx.ext e,S.ty.ext e,S.zf,S.zz,S.zb,fun c hc=>Nat.lt_of_lt_of_le (S.zl c hc) e.1⟩
theorem Setup.chg {Z Q:Nat→Prop}{h h':Heap}{bf:Nat}{vf:Value}{bt:Nat}{vt p q:Value}{m n n':Pic}{s:Stg}(S:Setup Z h bf vf bt vt p q m n s)(f:Fr Q h h')(qz:∀c,Z c→¬Q c)(I:IsImg h' bt vt n'):Setup Z h' bf vf bt vt p q m n' s:=
 ⟨S.src.fr f (qz _ S.zf.1) fun c hc=>qz _ (S.zf.2 c hc),I,S.ne,S.tx.fr f fun c _ hz=>qz c hz,S.ty.fr f fun c _ hz=>qz c hz,S.zf,S.zz,S.zb,fun c hc=>Nat.lt_of_lt_of_le (S.zl c hc) f.1⟩
theorem Setup.mk3 {h0 h1 h2:Heap}{bf:Nat}{vf:Value}{pn p q:Value}{m n:Pic}{s:Stg}(I:IsImg h1 bf vf m)(nb:h0.size≤bf)(nv:∀c,blk vf c→h0.size≤c)(tx:IsTbl (Since h0 h1) h1 p s.x)(ty:IsTbl (Since h0 h1) h1 q s.y)(N:ziN h1 h2 pn n):
  ∃bt vt,pn=ptr bt∧Setup (Since h0 h1) h2 bf vf bt vt p q m n s∧h1.size≤bt∧(∀c,blk vt c→h1.size≤c)∧Ext h1 h2:=by
 obtain⟨bt,vt,rfl,O,mb,mv,E⟩:=N
 have l:=I.lt
 exact⟨bt,vt,rfl,⟨I.ext E,O,by omega,tx.ext E,ty.ext E,⟨⟨nb,l⟩,fun c hc=>⟨nv c hc,I.ltv hc⟩⟩,fun c hc hv=>by have:=hc.2;have:=mv c hv;omega,fun c hc he=>by have:=hc.2;omega,fun c hc=>Nat.lt_of_lt_of_le hc.2 E.1⟩,mb,mv,E⟩
theorem c_wNewS {Z:Nat→Prop}{h:Heap}(G:GlobB h){bf:Nat}{vf:Value}{bt:Nat}{vt p q:Value}{m n:Pic}{s:Stg}{t:TileD}(S:Setup Z h bf vf bt vt p q m n s)(W:m.Wf)(WO:n.Wf)(WS:s.Wf):
  FCall prog zeY #[ptr bf,ptr bt,.agg #[p,q,.int .i64 s.border],.agg (tileC t).toArray] h (WNew Z h bf vf bt vt p q m n s t):=
 c_wNew G S.src S.out S.ne W WO S.tx S.ty WS S.zf S.zz S.zl
def pic17:Pic:=imgN 3 1 1 255
def op17:OpD:=⟨1,0,0,1,[],[],0,0,0⟩
def zb9:TileD:=⟨0,0,0,3,1,0,0,0,0,0⟩
theorem c_l17Lives {h:Heap}(G:GlobB h):FCall prog zim #[] h fun r h'=>r=.bool true∧Ext h h':=by
 apply zqo
 unfold zkA
 have a0:imgC 3 1 1 255=0:=by decide+kernel
 refine zjY.mono fun r h1 ⟨pp,e,e1,_,s1⟩=>?_
 subst e
 obtain⟨bm,vm,rfl,I,nbm,nvm,_⟩:=s1 a0
 have I:IsImg h1 bm vm pic17:=I
 have W:pic17.Wf:=znn a0
 rw[a0]
 simp only[go_sem]
 have hf:(fillL #[(.int .i64 0),(.int .i64 0),(.int .i64 0),(.int .i64 0),(.slice none 0 0),(.slice none 0 0),(.int .i64 0),(.int .i64 0),(.int .i64 0)] [(0,1,(.int .i64 1)),(3,1,(.int .i64 1))])=some #[.int .i64 1,.int .i64 0,.int .i64 0,.int .i64 1,.slice none 0 0,.slice none 0 0,.int .i64 0,.int .i64 0,.int .i64 0]:=rfl
 rw[hf,zaA,zaa]
 have wf:op17.Wf:=zmf (by simp[I64])
 refine(zrn (Z:=fun _=>True) (o:=op17) (G.ext e1) zmg wf (by simp[op17]) (by simp[op17]) (by unfold I64;omega) (by unfold I64;omega)).mono fun w h2 ⟨sv,e,e2,_,s2⟩=>?_
 subst e
 have a1:makeC op17 3 1=0:=by decide+kernel
 have HS:=s2 a1
 rw[a1]
 obtain⟨p,q,rfl,hp,hq,ones⟩:=zcM HS
 simp only[go_sem]
 refine zbh (cs:=[p,q,.int .i64 _]) rfl ones rfl fun b3 h3 r3 e3 n3=>?_
 refine zjY.mono fun r h4 ⟨pp,e,e4,_,s4⟩=>?_
 subst e
 have N4:=s4 a0
 rw[a0]
 have E13:=e2.trans e3
 have up:∀c,c<h2.size→Since h1 h2 c→Since h h3 c:=fun c hc hz=>⟨Nat.le_trans e1.1 hz.1,Nat.lt_of_lt_of_le hz.2 e3.1⟩
 obtain⟨bn,vn,rfl,S,nbn,nvn,_⟩:=Setup.mk3 (h0:=h) (I.ext E13) nbm nvm ((hp.mono up).ext e3) ((hq.mono up).ext e3) N4
 simp only[go_sem]
 have E4:=e1.trans (E13.trans e4)
 refine FCall.to (c_l14Lives (G.ext E4)) fun h5 e5=>?_
 simp only[go_sem]
 refine FCall.to (c_l15Lives (G.ext (E4.trans e5))) fun h6 e6=>?_
 have E6:=E4.trans (e5.trans e6)
 simp only[go_sem,eqT]
 rw[zap (l:=[p,q,.int .i64 _]) ((e4.trans (e5.trans e6)).row r3) 3 rfl,zaa]
 have hf4:fillL #[(.int .i64 0),(.int .i64 0),(.int .i64 0),(.int .i64 0)] [(2,1,(.int .i64 3)),(3,1,(.int .i64 1))]=some #[.int .i64 0,.int .i64 0,.int .i64 3,.int .i64 1]:=rfl
 have hf10:fillL #[(.int .i64 0),(.int .i64 0),(.int .i64 0),(.int .i64 0),(.int .i64 0),(.int .i64 0),(.int .i64 0),(.int .i64 0),(.int .i64 0),(.int .i64 0)] [(1,4,.agg #[.int .i64 0,.int .i64 0,.int .i64 3,.int .i64 1])]=some (tileC zb9).toArray:=rfl
 rw[hf4,zaA,zaa,hf10,zaA,zaa]
 have hN:(imgN 3 1 1 255).Wf:=znn a0
 have hcc:wnewC pic17 (imgN 3 1 1 255) (makeS op17 3 1) zb9=0:=by decide+kernel
 refine(c_wNewS (G.ext E6) (S.ext (e5.trans e6)) W hN (zjW a1).1).mono fun r h7 ⟨e7,v,er,_,s7⟩=>?_
 subst er
 obtain⟨bj,rv,rfl,J⟩:=s7 hcc
 rw[hcc]
 simp only[go_sem,eqT,ptr_en]
 have OK:StgOk (makeS op17 3 1):=zsz a1 (by omega) (by decide+kernel)
 have R:=OK.room (m:=pic17) (n:=imgN 3 1 1 255) (t:=zb9) W hcc
 have WJ:=job_wf (t:=zb9) W OK.wf hcc
 -- the steps, one behind the other
 have f1:stepK ⟨pic17,makeS op17 3 1,zb9⟩ 0 (-1)=1∧stepJ ⟨pic17,makeS op17 3 1,zb9⟩ 0 (-1)= -1∧stepY ⟨pic17,makeS op17 3 1,zb9⟩ 0 (-1)=0∧stepE ⟨pic17,makeS op17 3 1,zb9⟩ 0 (-1)=0:=by decide+kernel
 have f2:stepK ⟨pic17,makeS op17 3 1,zb9⟩ 0 0=1∧stepJ ⟨pic17,makeS op17 3 1,zb9⟩ 0 0=0∧stepY ⟨pic17,makeS op17 3 1,zb9⟩ 0 0=0∧stepE ⟨pic17,makeS op17 3 1,zb9⟩ 0 0=1:=by decide+kernel
 have f3:stepK ⟨pic17,makeS op17 3 1,zb9⟩ 0 1=1∧stepJ ⟨pic17,makeS op17 3 1,zb9⟩ 0 1=1∧stepY ⟨pic17,makeS op17 3 1,zb9⟩ 0 1=0∧stepE ⟨pic17,makeS op17 3 1,zb9⟩ 0 1=2:=by decide+kernel
 have f4:stepK ⟨pic17,makeS op17 3 1,zb9⟩ 0 2=2∧stepJ ⟨pic17,makeS op17 3 1,zb9⟩ 0 2=0∧stepY ⟨pic17,makeS op17 3 1,zb9⟩ 0 2=1:=by decide+kernel
 have f5:∀e,stepK ⟨pic17,makeS op17 3 1,zb9⟩ 1 e=0∧stepJ ⟨pic17,makeS op17 3 1,zb9⟩ 1 e=0:=fun e=>by
  have:zb9.y+zb9.h≤1:=by decide
  unfold stepK stepJ
  exact⟨if_pos this,if_pos this⟩
 have hF:lnF (makeS op17 3 1).y zb9.y= -1:=by decide+kernel
 rw[hF]at J
 have J:JobSt (Since h h3) (Grow (fun _=>False) h6 h7) h7 bj bm vm bn vn p q rv ⟨pic17,makeS op17 3 1,zb9⟩ 0 (-1) (imgN 3 1 1 255) (roomN (mostL (makeS op17 3 1).y.lines)) (zcI (zb9.w*pic17.c)):=J
 generalize hD:(⟨pic17,makeS op17 3 1,zb9⟩:JobD)=D at*
 generalize roomN (mostL (makeS op17 3 1).y.lines)=room at*
 generalize zcI (zb9.w*pic17.c)=w at*
 have hB:∀c,Grow (fun _=>False) h6 h7 c→h.size≤c:=fun c hc=>by
  rcases hc with hc|hc
  ·exact hc.elim
  ·have:=E6.1;omega
 have hbn:∀c,blk vn c→h.size≤c:=fun c hc=>by have:=nvn c hc;have:=e1.1;have:=E13.1;omega
 -- from step to step all that was is as it was
 have ExE:∀{h' h'':Heap} {B:Nat→Prop},Ext h h'→(∀c,B c→h.size≤c)→Fr (fun c=>blk vn c∨B c) h' h''→Ext h h'':=fun E hB f=>E.then_fr f fun c hc=>by
  rcases hc with hc|hc
  ·exact hbn c hc
  ·exact hB c hc
 have GrB:∀{h' h'':Heap} {B:Nat→Prop},Ext h h'→(∀c,B c→h.size≤c)→∀c,Grow B h' h'' c→h.size≤c:=fun E hB c hc=>by
  rcases hc with hc|hc
  ·exact hB c hc
  ·have:=E.1;omega
 have hfm:∀a b:Int,fillL #[(.int .i64 0),(.int .i64 0)] [(0,1,(.int .i64 a)),(1,1,.int .i64 b)]=some #[.int .i64 a,.int .i64 b]:=fun _ _=>rfl
 have hfm1:∀a:Int,fillL #[(.int .i64 0),(.int .i64 0)] [(0,1,(.int .i64 a))]=some #[.int .i64 a,.int .i64 0]:=fun _=>rfl
 have E7:=E6.trans e7
 refine za1 (fun k xs h'=>∃e B n',xs=[.int .i64 e]∧(k:Int)=2-e∧ -1≤e∧Ext h h'∧(∀c,B c→h.size≤c)∧JobSt (Since h h3) B h' bj bm vm bn vn p q rv D 0 e n' room w) 3
  ⟨-1,_,_,rfl,by omega,by omega,E7,hB,J⟩ fun k xs ρ1 h8 again ⟨e,B,n',ex,hk,he,E8,hB8,J8⟩ Hag=>?_
 subst ex
 simp only[go_sem]
 refine zac (fun g1=>?_) (fun g1=>?_)
 ·refine(c_Step J8 WJ R).mono fun r h9 ⟨er,n9,J9,fr9,_⟩=>?_
  subst er
  have hs:stepK D 0 e=1∧stepJ D 0 e=e∧stepY D 0 e=0∧stepE D 0 e=e+1:=by
   have:e= -1∨e=0∨e=1:=by omega
   rcases this with rfl|rfl|rfl
   ·exact f1
   ·exact f2
   ·exact f3
  rw[hs.1,hs.2.1]at*
  rw[hs.2.2.1,hs.2.2.2]at J9
  rw[hfm,zaA,zaa,move_ne]
  simp only[go_sem,eqT,and_self]
  rw[w64 (by omega) (by omega)]
  exact Hag _ _ (k-1) (by omega) ⟨e+1,_,n9,rfl,by omega,by omega,ExE E8 hB8 fr9,GrB E8 hB8,J9⟩
 ·have he2:e=2:=by omega
  subst he2
  refine(c_Step J8 WJ R).mono fun r h9 ⟨er,n9,J9,fr9,_⟩=>?_
  subst er
  rw[f4.2.2]at J9
  rw[f4.1,f4.2.1,hfm1,zaA,zaa,move_eq]
  simp only[go_sem,eqT,and_self]
  refine(c_Step J9 WJ R).mono fun r h10 ⟨er,n10,J10,fr10,_⟩=>?_
  subst er
  rw[(f5 _).1,(f5 _).2]
  have hf0:fillL #[(.int .i64 0),(.int .i64 0)] []=some #[.int .i64 0,.int .i64 0]:=rfl
  simp only[go_sem,hf0,zaA,move_eq,eqT,and_self]
  exact⟨by simp,ExE (ExE E8 hB8 fr9) (GrB E8 hB8) fr10⟩
end Go.Proofs.YtcoimlclclnlkaaGreatDoor
namespace Go.Proofs.YtcoimlclclnlkaaGreatDoor
open Go Go.Crisp
attribute [local irreducible] FCall rowK newK stK iteK vK qK drawK gK joinK loopK mkK appK cpyK zoB zmd bsK clK zh1 zgb newmK
section
def B8 (n:Int):Prop:=0≤n∧n≤255
def bgS (a:PicA)(o:OpD):Stg:=makeS o (drawA a).w (drawA a).h
def bgN (a:PicA)(o:OpD):Pic:=imgN (bgS a o).x.lines.length (bgS a o).y.lines.length (drawA a).c (drawA a).most
structure BgOk (a:PicA)(o:OpD):Prop where
 little:¬zhR 12 o
 made:makeC o (drawA a).w (drawA a).h=0
 fit:fitsZ (bgS a o).x.lines.length (bgS a o).y.lines.length (drawA a).c
 sx:1≤(bgS a o).x.lines.length∧(bgS a o).x.lines.length≤12
 sy:1≤(bgS a o).y.lines.length∧(bgS a o).y.lines.length≤12
theorem bg_ok {a:PicA}{o:OpD}(hl:zgc 12 [o])(hc:opsC [o] (drawA a).w (drawA a).h (drawA a).c=0):BgOk a o:=by
 have h1:¬zhR 12 o:=hl o (by simp)
 have hw:=zpN a
 unfold opsC at hc
 rw[if_neg (by simp)]at hc
 have hf:fitsZ (drawA a).w (drawA a).h (drawA a).c:=(zmJ a).fits
 rw[if_neg (by simpa using hf)]at hc
 unfold allC at hc
 by_cases hm:makeC o (drawA a).w (drawA a).h=0
 ·rw [if_neg (by simpa using hm)]at hc
  have hlen:=zpx hm
  by_cases hf2:fitsZ (sizeW o (drawA a).w) (sizeH o (drawA a).h) (drawA a).c
  ·have hb:=zbv hf2
   have⟨b1,b2⟩:sizeW o (drawA a).w≤12∧sizeH o (drawA a).h≤12:=by
    unfold sizeW sizeH at hb ⊢
    unfold zhR at h1
    split<;>rename_i hk
    ·rw[if_pos hk,if_pos hk]at hb
     omega
    ·omega
   refine⟨h1,hm,?_,?_,?_⟩
   ·unfold bgS;rw[hlen.1,hlen.2];exact hf2
   ·unfold bgS;omega
   ·unfold bgS;omega
  ·rw[if_pos hf2]at hc;cases hc
 ·rw[if_pos hm]at hc;exact absurd hc hm
section
variable {a:PicA}{o:OpD}
theorem BgOk.stg (H:BgOk a o):StgOk (bgS a o):=zsz H.made (by have:=zpN a;omega) (by have:=(zpx H.made).1;have:=H.sx;unfold bgS at this;omega)
theorem BgOk.suits (H:BgOk a o):zea (drawA a) (bgN a o) (bgS a o):=⟨zpw H.made,rfl,rfl,rfl,rfl⟩
theorem BgOk.imgc (H:BgOk a o):imgC (bgS a o).x.lines.length (bgS a o).y.lines.length (drawA a).c (drawA a).most=0:=zjx.2 ⟨H.fit,(zmJ a).m1,(zmJ a).m2⟩
end
end
section
structure Args17 (h:Heap)(cs os:List Value)(a:PicA)(o:OpD):Prop where
 pic:∃Z,rPicA.R Z h cs a
 wa:a.Wf
 op:∃Z,rOp.R Z h os o
 wo:OpsWf [o]
structure JobGo (hL:Heap)(B0 Q:Nat→Prop)(Z:Nat→Prop)(h:Heap)(bj bf:Nat)(vf:Value)(bt:Nat)(vt p q rv:Value)(d:JobD)(y e:Int)(n:Pic)(room w:Nat):Prop where
 st:∃B,JobSt Z B h bj bf vf bt vt p q rv d y e n room w∧∀c,c<hL.size→B c→B0 c
 fr:Fr (fun c=>(blk vt c∨B0 c)∨Q c) hL h
def GoFr (vt:Value)(B Q:Nat→Prop)(h h':Heap):Prop:=Fr (fun c=>(blk vt c∨B c)∨Q c) h h'
theorem GoFr.row {vt:Value}{B Q:Nat→Prop}{h h':Heap}(e:GoFr vt B Q h h'){b:Nat}{o:Obj}(r:h[b]? =some o)(hn:¬((blk vt b∨B b)∨Q b)):h'[b]? =some o:=Go.Crisp.Fr.row e r hn
section
variable {hL:Heap}{B0 Q:Nat→Prop}{Z:Nat→Prop}{h:Heap}{bj bf:Nat}{vf:Value}{bt:Nat}{vt p q rv:Value}{d:JobD}{y e:Int}{n:Pic}{room w:Nat}
theorem JobGo.row {b:Nat}{ob:Obj}(J:JobGo hL B0 Q Z h bj bf vf bt vt p q rv d y e n room w)(r:hL[b]? =some ob)(hv:¬blk vt b)(hB:¬B0 b)(hQ:¬Q b):h[b]? =some ob:=J.fr.row r fun hh=>hh.elim (fun hh=>hh.elim hv hB) hQ
theorem JobGo.out (J:JobGo hL B0 Q Z h bj bf vf bt vt p q rv d y e n room w):OutOk d n∧IsImg h bt vt n∧IsImg h bf vf d.m:=by
 obtain⟨⟨B,S,hb⟩,f⟩:=J
 exact⟨S.out,S.img,S.src⟩
end
theorem WNew.go {Z:Nat→Prop}{h:Heap}{bf:Nat}{vf:Value}{bt:Nat}{vt p q:Value}{m n:Pic}{s:Stg}{t:TileD}{r:Value}{h':Heap}(H:WNew Z h bf vf bt vt p q m n s t r h')(hc:wnewC m n s t=0):
  ∃bj rv,r=.tuple #[ptr bj,.int .i64 0]∧Ext h h'∧JobSt Z (Grow (fun _=>False) h h') h' bj bf vf bt vt p q rv ⟨m,s,t⟩ t.y (lnF s.y t.y) n (roomN (mostL s.y.lines)) (zcI (t.w*m.c)):=by
 obtain⟨e,v,er,_,H⟩:=H
 obtain⟨bj,rv,rfl,J⟩:=H hc
 exact⟨bj,rv,by rw[er,hc],e,J⟩
end
end Go.Proofs.YtcoimlclclnlkaaGreatDoor
namespace Go.Proofs.YtcoimlclclnlkaaGreatDoor
open Go Go.Crisp
theorem args17_rd {h:Heap}{ts:List TS}{args:Array Value}(R:zjQ (.st tPic:: .st tOp::ts) h args.toList):∃cs os a o r,args.toList=.agg (List.toArray cs):: .agg (List.toArray os)::r∧Args17 h cs os a o∧zjQ ts h r:=by
 obtain⟨v,r,hr,⟨x,c,rfl,hx⟩,u,r',hr',⟨y,d,rfl,hy⟩,h0⟩:=R
 have hx:Rd tPic h c.toList x:=hx
 have hy:Rd tOp h d.toList y:=hy
 obtain⟨h1,h2⟩:=pic_rd hx
 refine⟨c.toList,d.toList,picOf x,opOf y,r',by rw[hr,hr',Array.toArray_toList,Array.toArray_toList],⟨⟨_,h1⟩,h2,⟨_,(op_rd hy).1⟩,ops1_wf hy⟩,h0⟩
theorem u8_rd {h:Heap}{ts:List TS}{l:List Value}(R:zjQ (.int .u8::ts) h l):∃n r,l=.int .u8 n::r∧B8 n∧zjQ ts h r:=by
 obtain⟨v,r,hr,⟨x,hx1,hx2⟩,h0⟩:=R
 obtain rfl:v=.int .u8 x:=by simpa using hx1
 exact⟨x,r,hr,u8_wf hx2,h0⟩
theorem i64_rd {h:Heap}{ts:List TS}{l:List Value}(R:zjQ (.int .i64::ts) h l):∃n r,l=.int .i64 n::r∧I64 n∧zjQ ts h r:=by
 obtain⟨v,r,hr,⟨x,hx1,hx2⟩,h0⟩:=R
 obtain rfl:v=.int .i64 x:=by simpa using hx1
 exact⟨x,r,hr,zmD hx2,h0⟩
end Go.Proofs.YtcoimlclclnlkaaGreatDoor
namespace Go.Proofs.YtcoimlclclnlkaaGreatDoor
open Go Go.Crisp
open _root_.Go.Proofs.Tryz
structure Acc where
 who:Int
 when_:List Int
 buf:Int
 lo:Int
 hi:Int
 wr:Bool
def IsAcc (h:Heap)(v:Value)(a:Acc):Prop:=∃s,v=.agg #[.int .i64 a.who,s,.int .i64 a.buf,.int .i64 a.lo,.int .i64 a.hi,.bool a.wr]∧Ints h s a.when_
theorem IsAcc.ext {h h':Heap}{v:Value}{a:Acc}(H:IsAcc h v a)(e:Ext h h'):IsAcc h' v a:=by
 obtain⟨s,rfl,hs⟩:=H
 exact⟨s,rfl,hs.ext e⟩
def meetsA (a b:Acc):Bool:=decide (a.buf=b.buf)&&decide (max a.lo b.lo<min a.hi b.hi)
def raceA (a b:Acc):Bool:= !decide (a.who=b.who)&&(a.wr||b.wr)&&meetsA a b&& !zrw a.when_ b.when_&& !zrw b.when_ a.when_
theorem c_meets {h:Heap}{v u:Value}{a b:Acc}(ha:IsAcc h v a)(hb:IsAcc h u b):
  FCall prog zhg #[v,u] h fun r h'=>r=.bool (meetsA a b)∧Ext h h':=by
 apply zpm
 unfold zja
 obtain⟨s,rfl,hs⟩:=ha
 obtain⟨s',rfl,hs'⟩:=hb
 simp only[zaB]
 refine zag fun b1 h1 r1 e1 _=>zag fun b2 h2 r2 e2 _=>?_
 have r1:=e2.row r1
 have e:=e1.trans e2
 simp only[go_sem,zab r1,zab r2]
 by_cases hbuf:a.buf=b.buf
 ·simp only[go_sem,hbuf,zab r1,zab r2]
  exact⟨by simp[meetsA,hbuf],e⟩
 ·simp only[go_sem,hbuf]
  exact⟨by simp[meetsA,hbuf],e⟩
theorem c_Race {h:Heap}{v u:Value}{a b:Acc}(ha:IsAcc h v a)(hb:IsAcc h u b)(hn:a.when_.length≤9223372036854775807)(hm:b.when_.length≤9223372036854775807):
  FCall prog zfB #[v,u] h fun r h'=>r=.bool (raceA a b)∧Ext h h':=by
 apply zqk
 unfold zkw
 have ha0:=ha
 have hb0:=hb
 obtain⟨s,rfl,hs⟩:=ha
 obtain⟨s',rfl,hs'⟩:=hb
 simp only[zaB]
 refine zag fun b1 h1 r1 e1 _=>zag fun b2 h2 r2 e2 _=>?_
 have r1:=e2.row r1
 have e:=e1.trans e2
 have l1:=zap r1 6 rfl
 have l2:=zap r2 6 rfl
 simp only[go_sem,zab r1,zab r2]
 by_cases hw:a.who=b.who
 ·simp only[go_sem,hw]
  exact⟨by simp[raceA,hw],e⟩
 cases hwa:a.wr<;>cases hwb:b.wr<;>simp only[go_sem,hw,zab r1,zab r2,l1,l2,hwa,hwb]
 ·exact⟨by simp[raceA,hwa,hwb],e⟩
 all_goals
  refine(c_meets (a:=a) (b:=b) ?_ ?_).mono ?_
  ·rw[←hwa];exact ha0.ext e
  ·rw[←hwb];exact hb0.ext e
  rintro _ h3 ⟨rfl,e3⟩
  have r1:=e3.row r1
  have r2:=e3.row r2
  have e:=e.trans e3
  cases hme:meetsA a b with
  |false=>simp only[go_sem];exact⟨by simp[raceA,hme],e⟩
  | true=>
   simp only[go_sem,zab r1,zab r2]
   refine(c_Ahead (hs.ext e) (hs'.ext e) hn).mono ?_
   rintro _ _ ⟨rfl,rfl⟩
   cases h1a:zrw a.when_ b.when_ with
   |true=>simp only[go_sem];exact⟨by simp[raceA,h1a],e⟩
   |false=>
    simp only[go_sem,zab r1,zab r2]
    refine(c_Ahead (hs'.ext e) (hs.ext e) hm).mono ?_
    rintro _ _ ⟨rfl,rfl⟩
    simp only[go_sem]
    exact⟨by simp[raceA,hw,hme,h1a,hwa,hwb],e⟩
end Go.Proofs.YtcoimlclclnlkaaGreatDoor
