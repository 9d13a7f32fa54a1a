/- Several texts of this session, one behind the other, without what this claim does not need (put together by its program pack.py). Conditions: none. -/
import Derived.Test.YtcoimlclclnlkaaGreatDoorMp5
set_option linter.unusedVariables false
set_option linter.unusedSimpArgs false
set_option maxRecDepth 100000
namespace Go.Proofs.YtcoimlclclnlkaaGreatDoor
open Go Go.Crisp
attribute [local irreducible] FCall rowK newK stK iteK vK qK drawK gK joinK loopK mkK appK cpyK zoB zmd bsK clK zh1 zgb newmK
open _root_.Go.Proofs.Tryz
structure Bg22 (h6:Heap)(a:PicA)(o:OpD)(bf:Nat)(vf sv rv:Value)(Z1:Nat→Prop)(h':Heap):Prop where
 ok:BgOk a o
 ext:Ext h6 h'
 img:IsImg h' bf vf (drawA a)
 nb:h6.size≤bf∧∀c,blk vf c→h6.size≤c
 st:Rp.Sl rStgP Z1 h' sv [bgS a o]
 rf:Rp.Sl rStg Z1 h' rv [bgS a o]
 zl:∀c,Z1 c→h6.size≤c∧c<h'.size
theorem Bg22.ex {h6 h' h'':Heap}{a:PicA}{o:OpD}{bf:Nat}{vf sv rv:Value}{Z1:Nat→Prop}(B:Bg22 h6 a o bf vf sv rv Z1 h')(e:Ext h' h''):Bg22 h6 a o bf vf sv rv Z1 h'':=
 ⟨B.ok,B.ext.trans e,B.img.ext e,B.nb,B.st.ext e,B.rf.ext e,fun c hc=>⟨(B.zl c hc).1,Nat.lt_of_lt_of_le (B.zl c hc).2 e.1⟩⟩
theorem begin22 {h6:Heap}(G:GlobB h6){Z1 Z2:Nat→Prop}{cs os:List Value}{a:PicA}{o:OpD}(H:rPicA.R Z1 h6 cs a)(WA:a.Wf)(HO:rOp.R Z2 h6 os o)(WO:OpsWf [o]){b1 b3:Nat}{t1 t3:TypeId}(r1:h6[b1]? =some (.cells cs.toArray t1 (0,0)))(r3:h6[b3]? =some (.cells os.toArray t3 (0,0))){Y:Value→Value→Value→Value→Heap→Prop}
  (Y0:∀bf sv rv h',Ext h6 h'→¬(zgc 12 [o]∧opsC [o] (drawA a).w (drawA a).h (drawA a).c=0)→Y (ptr bf) sv rv (.bool false) h') (Y1:∀bf vf sv rv Z1 h',Bg22 h6 a o bf vf sv rv Z1 h'→Y (ptr bf) sv rv (.bool true) h'):
  vK (ldsV 5 h6 (ptr b1)) fun v8=>FCall prog zcf #[v8] h6 fun v9 h10=>vK (ldsV 9 h10 (ptr b3)) fun v11=>
  rowK #[(.int .i64 0),(.int .i64 0),(.int .i64 0),(.int .i64 0),(.slice none 0 0),(.slice none 0 0),(.int .i64 0),(.int .i64 0),(.int .i64 0)] 31 1 [(0,9,v11)] h10 fun v12 h13=>
  FCall prog zeI #[v12,v9] h13 fun v14 h15=>vK (extV v14 0) fun v16=>vK (extV v14 1) fun v17=>vK (extV v14 2) fun v18=>Y v9 v16 v17 v18 h15:=by
 have lc:=rPicA.len H
 have lo:=rOp.len HO
 rw[zap r1 5 lc,zaa]
 refine(c_l15Draw (rPicA.mono H fun _ _ h=>h) WA).mono fun pm h7 N7=>?_
 obtain⟨bf,vf,rfl,I7,nbf,nvf,e7⟩:=N7
 rw[zap (e7.row r3) 9 lo,zaa]
 refine zbn (Rp.fill_whole (by rfl) lo) fun b5 h10 r10 e10 n10=>?_
 have E10:=e7.trans e10
 have S10:Rp.Sl rOp (fun c=>Z2 c∨c=b5) h10 (.slice (some ⟨b5,0,none⟩) 1 1) [o]:=by
  refine⟨os,?_,fun _ b hb=>.inr hb,fun i hi=>?_⟩
  ·have:=Rp.SlC.single (cs:=os) r10
   rw[lo]at this
   exact this
  ·have:i=0:=by simpa using hi
   subst this
   rw[Rp.el_self lo]
   exact rOp.mono (rOp.ext HO E10) fun b _ hb=>.inl hb
 refine(c_Stages (G.ext E10) S10 (by simp) WO (I7.ext e10) (zmJ a)).mono fun r h11 ⟨e11,sv,rv,ok,er,osv,hok,hS⟩=>?_
 subst er
 have x0:extV (.tuple #[sv,rv,.bool ok]) 0=some sv:=rfl
 have x1:extV (.tuple #[sv,rv,.bool ok]) 1=some rv:=rfl
 have x2:extV (.tuple #[sv,rv,.bool ok]) 2=some (.bool ok):=rfl
 rw[x0,zaa,x1,zaa,x2,zaa]
 have s10:=E10.1
 cases hk:ok with
 |false=>exact Y0 _ _ _ _ (E10.trans e11) fun h=>by have:=hok.2 h;rw[hk]at this;cases this
 |true=>
  subst hk
  obtain⟨T1,T2⟩:=hS rfl
  exact Y1 bf vf sv rv _ h11 ⟨bg_ok (hok.1 rfl).1 (hok.1 rfl).2,E10.trans e11,I7.ext (e10.trans e11),⟨nbf,nvf⟩,T1,T2,fun c hc=>⟨Nat.le_trans s10 hc.1,hc.2⟩⟩
theorem c_poolNewNil {h:Heap}{st:List Value}{tw th wk room:Int}(hs:st.length=3)(h1:∀v∈st,zam v=true):FCall prog zeu #[.pointer none,.agg st.toArray,.int .i64 tw,.int .i64 th,.int .i64 wk,.int .i64 room] h fun r h'=>r=.tuple #[.pointer none,.int .i64 6]∧Ext h h':=by
 apply zk7
 unfold zhT
 simp only[zaB]
 refine zag fun b1 h2 r1 e1 n1=>?_
 have nf:binV .p .eql (.pointer none) (.pointer none)=some (.bool true):=rfl
 simp only[go_sem,nf]
 exact⟨trivial,e1⟩
theorem c_poolNewBad {h:Heap}{bf:Nat}{st:List Value}{tw th wk room:Int}(hs:st.length=3)(h1:∀v∈st,zam v=true)(hS:∀g,Ext h g→FCall prog zbg #[ptr bf,.agg st.toArray] g fun r h'=>r=.bool false∧Ext g h'):FCall prog zeu #[ptr bf,.agg st.toArray,.int .i64 tw,.int .i64 th,.int .i64 wk,.int .i64 room] h fun r h'=>r=.tuple #[.pointer none,.int .i64 6]∧Ext h h':=by
 apply zk7
 unfold zhT
 simp only[zaB]
 refine zag fun b1 h2 r1 e1 n1=>?_
 have nf:binV .p .eql (ptr bf) (.pointer none)=some (.bool false):=rfl
 have l3:ldsV 3 h2 (ptr b1)=some (.agg st.toArray):=zap r1 3 hs
 simp only[go_sem,nf,l3]
 refine(hS h2 e1).mono fun r h3 ⟨er,e3⟩=>?_
 subst er
 simp only[go_sem]
 exact⟨trivial,e1.trans e3⟩
def wantZ (tw th wk:Int):Int:=if sideT tw∧sideT th then(if 1≤wk∧wk≤256 then 0 else 10)else 9
theorem c_PoolNew {h:Heap}(G:GlobB h){cs os:List Value}{a:PicA}{o:OpD}{Z1 Z2:Nat→Prop}(H:rPicA.R Z1 h cs a)(WA:a.Wf)(HO:rOp.R Z2 h os o)(WO:OpsWf [o]){tw th wk room no:Int}(h8:B8 no)(hwk:I64 wk):
  FCall prog zgt #[.agg cs.toArray,.agg os.toArray,.int .i64 tw,.int .i64 th,.int .i64 wk,.int .i64 room,.int .u8 no] h fun r h'=>r=.bool true∧Ext h h':=by
 apply zow
 unfold ziK
 simp only[zaB]
 refine zag fun b1 h1 r1 e1 n1=>zag fun b3 h3 r3 e3 n3=>?_
 have E3:=e1.trans e3
 refine FCall.to (c_l22Lives (G.ext E3)) fun h6 e6=>?_
 have E6:=E3.trans e6
 simp only[go_sem]
 refine begin22 (G.ext E6) (rPicA.ext H E6) WA (rOp.ext HO E6) WO ((e3.trans e6).row r1) (e6.row r3) (fun bf sv rv h' e _=>?_) (fun bf vf sv rv Z1 h7 B=>?_)
 ·simp only[go_sem,ptr_nn]
  exact⟨trivial,E6.trans e⟩
 simp only[go_sem]
 refine zar (fun xs g=>xs=[.int .i64 (wantZ tw th wk)]∧g=h7) ?_ ?_
 ·by_cases a1:tw<1
  ·have e:wantZ tw th wk=9:=if_neg fun h=>by have:=h.1;unfold sideT at this;omega
   simp only[go_sem,a1,e]
   exact⟨trivial,trivial⟩
  by_cases a2:4096<tw
  ·have e:wantZ tw th wk=9:=if_neg fun h=>by have:=h.1;unfold sideT at this;omega
   simp only[go_sem,a1,a2,e]
   exact⟨trivial,trivial⟩
  by_cases a3:th<1
  ·have e:wantZ tw th wk=9:=if_neg fun h=>by have:=h.2;unfold sideT at this;omega
   simp only[go_sem,a1,a2,a3,e]
   exact⟨trivial,trivial⟩
  by_cases a4:4096<th
  ·have e:wantZ tw th wk=9:=if_neg fun h=>by have:=h.2;unfold sideT at this;omega
   simp only[go_sem,a1,a2,a3,a4,e]
   exact⟨trivial,trivial⟩
  have sd:sideT tw∧sideT th:=by unfold sideT;omega
  by_cases a5:wk<1
  ·have e:wantZ tw th wk=10:=by unfold wantZ;rw[if_pos sd,if_neg (by omega)]
   simp only[go_sem,a1,a2,a3,a4,a5,e]
   exact⟨trivial,trivial⟩
  by_cases a6:256<wk
  ·have e:wantZ tw th wk=10:=by unfold wantZ;rw[if_pos sd,if_neg (by omega)]
   simp only[go_sem,a1,a2,a3,a4,a5,a6,e]
   exact⟨trivial,trivial⟩
  have e:wantZ tw th wk=0:=by unfold wantZ;rw[if_pos sd,if_pos (by omega)]
  simp only[go_sem,a1,a2,a3,a4,a5,a6,e]
  exact⟨trivial,trivial⟩
 rintro xs ρ g ⟨rfl,rfl⟩
 obtain⟨p,q,bs,os',q1,k0,k1,sl1,zz1,hp,hq⟩:=stg_row B.st
 obtain⟨sp,w1,w2⟩:=sl1.atw (show 0<3 by omega) (k:=.i64) (i:=0) (by omega)
 have w1:idxV 3 sv (.int .i64 0)=some sp:=w1
 have w2:ldsV 3 g sp=some (.agg #[p,q,.int .i64 (bgS a o).border]):=w2
 have op:=zrC hp
 have oq:=zrC hq
 simp only[go_sem,w1,w2]
 refine zbh (cs:=[p,q,.int .i64 (bgS a o).border]) rfl (zad op (zad oq (zad rfl zaq))) rfl fun bv h8' r8 e8 n8=>?_
 have B8':=B.ex e8
 have hp8:=hp.ext e8
 have hq8:=hq.ext e8
 have h80:0≤no%8∧no%8<8:=⟨Int.emod_nonneg _ (by omega),Int.emod_lt_of_pos _ (by omega)⟩
 rw[zbd _ _ _ _ (by omega),zaa,Int.tmod_eq_emod_of_nonneg h8.1]
 refine zar (fun xs g'=>Ext g g'∧∃w fr st,xs=[.int .i64 w,fr]∧g'[bv]? =some (.cells (List.toArray st) 46 (0,0))∧st.length=3∧(∀v∈st,zam v=true)∧((w=6∧(fr=.pointer none∨(fr=ptr bf∧∀k,Ext g' k→FCall prog zbg #[ptr bf,.agg st.toArray] k fun r h'=>r=.bool false∧Ext k h')))∨(w=wantZ tw th wk∧fr=ptr bf∧st=[p,q,.int .i64 (bgS a o).border]))) ?_ ?_
 ·have one3:∀v∈[p,q,Value.int .i64 (bgS a o).border],zam v=true:=zad op (zad oq (zad rfl zaq))
  rw[zeB,zaa]
  refine zac (fun c0=>?_) (fun c0=>?_)
  ·exact⟨e8,6,_,_,rfl,r8,rfl,one3,.inl ⟨rfl,.inl rfl⟩⟩
  rw[zeB,zaa]
  refine zac (fun c1=>?_) (fun c1=>?_)
  ·have hf:(fillL #[(.pointer none),(.pointer none),(.int .i64 0)] []).map Value.agg=some (.agg [.pointer none,.pointer none,.int .i64 0].toArray):=rfl
   rw[hf,zaa]
   refine zbA (l:=[.pointer none,.pointer none,.int .i64 0]) r8 rfl (zad rfl (zad rfl (zad rfl zaq))) rfl fun g' r' u=>?_
   exact⟨e8.upd n8 u,6,_,_,rfl,r',rfl,zad rfl (zad rfl (zad rfl zaq)),.inl ⟨rfl,.inr ⟨rfl,fun k ek=>c_Suits_nilX⟩⟩⟩
  rw[zeB,zaa]
  refine zac (fun c2=>?_) (fun c2=>?_)
  ·simp only[go_sem,Nat.zero_add]
   refine zaH r8 (show 2<3 by omega) rfl fun g' r' u=>?_
   have r':g'[bv]? =some (.cells [p,q,.int .i64 (-1)].toArray _ (0,0)):=r'
   refine⟨e8.upd n8 u,6,_,_,rfl,r',rfl,zad op (zad oq (zad rfl zaq)),.inl ⟨rfl,.inr ⟨rfl,fun k ek=>?_⟩⟩⟩
   have E:Ext g k:=(e8.upd n8 u).trans ek
   refine(zpX (s:=⟨(bgS a o).x,(bgS a o).y, -1⟩) (G.ext (E6.trans (B.ext.trans E))) (B.img.ext E) ⟨p,q,rfl,hp.ext E,hq.ext E⟩).mono fun r h' ⟨er,e'⟩=>⟨?_,e'⟩
   rw[er,decide_eq_false]
   rintro⟨_,_,h3,_⟩
   exact absurd (show(0:Int)≤ -1 from h3) (by decide)
  ·exact⟨e8,wantZ tw th wk,_,_,rfl,r8,rfl,one3,.inr ⟨rfl,rfl,rfl⟩⟩
 rintro xs ρ' g' ⟨e9,w,fr,st,rfl,r9,ls,os3,hcase⟩
 simp only[ix_0,ix_1]
 rw[zap r9 3 ls,zaa]
 have E9:=E6.trans (B.ext.trans e9)
 have x0:∀a b:Value,extV (.tuple #[a,b]) 0=some a:=fun _ _=>rfl
 have x1:∀a b:Value,extV (.tuple #[a,b]) 1=some b:=fun _ _=>rfl
 have nn:∀k:Int,binV .i .neq (.int .i64 k) (.int .i64 k)=some (.bool false):=fun k=>by simp only[go_sem]
 have pn:binV .p .eql (.pointer none) (.pointer none)=some (.bool true):=rfl
 have bb:∀b:Bool,binV .b .neq (.bool b) (.bool b)=some (.bool false):=fun b=>by cases b<;>rfl
 have k0:∀k:Int,k≠0→binV .i .neq (.int .i64 k) (.int .i64 0)=some (.bool true):=fun k h=>by rw[zh8,decide_eq_false h];rfl
 rcases hcase with⟨rfl,hb⟩|⟨rfl,rfl,rfl⟩
 ·have hN:FCall prog zeu #[fr,.agg st.toArray,.int .i64 tw,.int .i64 th,.int .i64 wk,.int .i64 room] g' fun r h'=>r=.tuple #[.pointer none,.int .i64 6]∧Ext g' h':=by
   rcases hb with rfl|⟨rfl,hS⟩
   ·exact c_poolNewNil ls os3
   ·exact c_poolNewBad ls os3 hS
  refine FCall.to hN fun h2 e2=>?_
  simp only[go_sem,x0,x1,nn,pn,k0 6 (by omega),bb]
  exact⟨trivial,E6.trans (B.ext.trans (e9.trans e2))⟩
 ·have OK:=B.ok.stg
  refine(c_poolNew (wk:=wk) (Z0:=fun c=>c<g'.size) (G.ext E9) (B.img.ext e9) (zmJ a) ⟨p,q,rfl,(hp.ext e9).mono fun c hc _=>hc,(hq.ext e9).mono fun c hc _=>hc⟩ OK B.ok.suits.1 ⟨(B.img.ext e9).lt,fun c hc=>(B.img.ext e9).ltv hc⟩ (fun c hc=>hc) B.ok.imgc).mono fun r h2 ⟨f1,f2,f3⟩=>?_
  by_cases sd:sideT tw∧sideT th
  ·by_cases hw:1≤wk∧wk≤256
   ·have e:wantZ tw th wk=0:=by unfold wantZ;rw[if_pos sd,if_pos hw]
    obtain⟨K,hK⟩:∃K:Nat,wk=(K:Int):=⟨wk.toNat,by omega⟩
    subst hK
    obtain⟨bp,C,Z,bw,o',er,k1,k2,k3,CO,HP,nout,e7,now⟩:=f3 sd K rfl (by omega)
    subst er
    have pn2:binV .p .eql (ptr bp) (.pointer none)=some (.bool false):=rfl
    have ct:0≤zaN C.d:=by
     have pc:=zfs (n:=C.d.X) (size:=C.d.w) (PlanD.bd CO.d).1 CO.d.w
     have pr:=zfs (n:=C.d.Y) (size:=C.d.h) (PlanD.bd CO.d).2 CO.d.h
     exact Int.mul_nonneg pc.1 pr.1
    have GP:GoP C Z K (zaN C.d).toNat g' bw bp o' _ _ h2:=⟨HP,0,poolZ_inv (by omega)⟩
    have z0:binV .i .neq (.int .i64 0) (.int .i64 0)=some (.bool false):=rfl
    rw[e]
    simp only[go_sem,x0,x1,nn,pn2,bb]
    refine FCall.at (zsU HP) ?_
    have ek:IntKind.i64.wrap ((K:Int)+1)=((K+1:Nat):Int):=by rw[w64 (by omega) (by omega)];omega
    have ee:∀k:Int,binV .i .eql (.int .i64 k) (.int .i64 k)=some (.bool true):=fun k=>by rw[zeB,decide_eq_true rfl]
    simp only[go_sem,ek,ee]
    refine FCall.at (c_poolPicks HP) ?_
    have ep:(poolZ K room ((drawA a).w*(drawA a).h*(drawA a).c) (((bgS a o).x.lines.length:Int)*(bgS a o).y.lines.length*(drawA a).c)).picks=0:=rfl
    rw[ep]
    simp only[go_sem,ee]
    refine FCall.at (zqG HP) ?_
    have er':(poolZ K room ((drawA a).w*(drawA a).h*(drawA a).c) (((bgS a o).x.lines.length:Int)*(bgS a o).y.lines.length*(drawA a).c)).ret=false:=rfl
    rw[er']
    simp only[go_sem]
    refine(zpY CO HP).mono fun rv h3 NR=>?_
    have hne:=GP.runs er'
    generalize runL C K _ (K+1)=L at NR hne
    obtain⟨ar,cr,erv⟩:=NR.1.sl.isSl
    have elr:zaf rv=some (.int .i64 (L.length:Int)):=by rw[erv];rfl
    have hlen:L.length≠0:=fun h=>hne (List.eq_nil_of_length_eq_zero h)
    have gt:binV .i .gtr (.int .i64 (L.length:Int)) (.int .i64 0)=some (.bool true):=by rw[zjZ,decide_eq_true (by omega)]
    simp only[go_sem,elr,gt]
    exact⟨trivial,E6.trans (B.ext.trans (e9.trans (e7.trans NR.2.1)))⟩
   ·have e:wantZ tw th wk=10:=by unfold wantZ;rw[if_pos sd,if_neg hw]
    obtain⟨er,e2⟩:=f2 sd hw
    subst er
    rw[e]
    simp only[go_sem,x0,x1,nn,pn,k0 10 (by omega),bb]
    exact⟨trivial,E6.trans (B.ext.trans (e9.trans e2))⟩
  ·have e:wantZ tw th wk=9:=if_neg sd
   obtain⟨er,e2⟩:=f1 sd
   subst er
   rw[e]
   simp only[go_sem,x0,x1,nn,pn,k0 9 (by omega),bb]
   exact⟨trivial,E6.trans (B.ext.trans (e9.trans e2))⟩
end Go.Proofs.YtcoimlclclnlkaaGreatDoor
namespace Go.Proofs.YtcoimlclclnlkaaGreatDoor
open Go Go.Crisp
open _root_.Go.Proofs.Tryz
theorem r_PoolNew {L:List (String×DataW Unit)}(l:ListsB L)(h:Heap)(args:Array Value)(H:zoi prog L h)(R:zjQ [.st tPic,.st tOp,.int .i64,.int .i64,.int .i64,.int .i64,.int .u8] h args.toList):
  FCall prog zgt args h fun r h'=>r=.bool true∧Ext h h':=by
 obtain⟨cs,os,a,o,r0,e0,A,R⟩:=args17_rd R
 obtain⟨x,r1,e1,hx,R⟩:=i64_rd R
 obtain⟨y,r2,e2,hy,R⟩:=i64_rd R
 obtain⟨z,r3,e3,hz,R⟩:=i64_rd R
 obtain⟨u,r4,e4,hu,R⟩:=i64_rd R
 obtain⟨v,r5,e5,hv,R⟩:=u8_rd R
 obtain rfl:r5=[]:=R
 subst e5 e4 e3 e2 e1
 obtain rfl:args=#[.agg cs.toArray,.agg os.toArray,.int .i64 x,.int .i64 y,.int .i64 z,.int .i64 u,.int .u8 v]:=by cases args;simp_all
 obtain⟨⟨_,h1⟩,h2,⟨_,h3⟩,h4⟩:=A
 exact c_PoolNew (l.glob H) h1 h2 h3 h4 hv hz
end Go.Proofs.YtcoimlclclnlkaaGreatDoor
