/- Several texts of this session, one behind the other, without what this claim does not need (put together by its program pack.py). Conditions: none. -/
import Derived.Test.YtcoimlclclnlkaaGreatDoorMp4
import Derived.Test.YtcoimlclclnlkaaGreatDoorProg
import Derived.Shelf.Slices.Delete
set_option linter.unusedVariables false
set_option linter.unusedSimpArgs false
set_option maxRecDepth 100000
namespace Go.Proofs.YtcoimlclclnlkaaGreatDoor
open Go Go.Crisp
attribute [local irreducible] FCall rowK newK stK iteK vK qK drawK gK joinK loopK
open _root_.Go.Proofs.Tryz
theorem ints_row {h:Heap}{b:Nat}{l:List Int}{t:TypeId}{f:Nat×Nat}{cap:Nat}(r:h[b]? =some (.cells (l.map vi).toArray t f)):Ints h (.slice (some ⟨b,0,none⟩) l.length cap) l:=
 ⟨_,cap,rfl,.inr ⟨b,0,rfl,fun i hi=>by rw[Nat.zero_add,zab r];simp[hi]⟩⟩
theorem c_Lives {h:Heap}:FCall prog zil #[] h fun r h'=>r=.bool true∧Ext h h':=by
 apply zqn
 unfold zkz
 refine zbn (c':=#[.int .i64 1,.int .i64 0]) (by kernel_rfl) fun b1 h1 r1 e1 _=>?_
 rw[vK_map _ #[.int .i64 0,.slice (some ⟨b1,0,none⟩) 2 2,.int .i64 0,.int .i64 3,.int .i64 4,.bool true] (by kernel_rfl)]
 refine zag fun b2 h2 r2 e2 n2=>?_
 refine zbA (l:=[.int .i64 0,.slice (some ⟨b1,0,none⟩) 2 2,.int .i64 0,.int .i64 3,.int .i64 4,.bool true]) r2 rfl (by simp[zam]) rfl fun h3 r3 u3=>?_
 have e3:Ext h1 h3:=e2.upd n2 u3
 refine zbn (c':=#[.int .i64 0,.int .i64 1]) (by kernel_rfl) fun b4 h4 r4 e4 _=>?_
 rw[vK_map _ #[.int .i64 1,.slice (some ⟨b4,0,none⟩) 2 2,.int .i64 0,.int .i64 2,.int .i64 9,.bool true] (by kernel_rfl)]
 refine zag fun b5 h5 r5 e5 n5=>?_
 refine zbA (l:=[.int .i64 1,.slice (some ⟨b4,0,none⟩) 2 2,.int .i64 0,.int .i64 2,.int .i64 9,.bool true]) r5 rfl (by simp[zam]) rfl fun h6 r6 u6=>?_
 have e6:Ext h4 h6:=e5.upd n5 u6
 have e36:Ext h3 h6:=e4.trans e6
 have l3:=zap (e36.row r3) 6 rfl
 have l6:=zap r6 6 rfl
 have i1:Ints h6 (.slice (some ⟨b1,0,none⟩) 2 2) [1,0]:=ints_row (l:=[1,0]) ((e3.trans e36).row r1)
 have i4:Ints h6 (.slice (some ⟨b4,0,none⟩) 2 2) [0,1]:=ints_row (l:=[0,1]) (e6.row r4)
 have A1:IsAcc h6 (.agg #[.int .i64 0,.slice (some ⟨b1,0,none⟩) 2 2,.int .i64 0,.int .i64 3,.int .i64 4,.bool true]) ⟨0,[1,0],0,3,4,true⟩:=⟨_,rfl,i1⟩
 have A4:IsAcc h6 (.agg #[.int .i64 1,.slice (some ⟨b4,0,none⟩) 2 2,.int .i64 0,.int .i64 2,.int .i64 9,.bool true]) ⟨1,[0,1],0,2,9,true⟩:=⟨_,rfl,i4⟩
 have e:Ext h h6:=e1.trans (e3.trans e36)
 simp only[go_sem,l3,l6]
 refine(c_Race A1 A4 (by simp) (by simp)).mono ?_
 rintro _ h7 ⟨rfl,e7⟩
 rw[show raceA ⟨0,[1,0],0,3,4,true⟩ ⟨1,[0,1],0,2,9,true⟩=true from by decide]
 simp only[go_sem,e7.lds l3,e7.lds l6]
 refine(c_Race (A4.ext e7) (A1.ext e7) (by simp) (by simp)).mono ?_
 rintro _ h8 ⟨rfl,e8⟩
 rw[show raceA ⟨1,[0,1],0,2,9,true⟩ ⟨0,[1,0],0,3,4,true⟩=true from by decide]
 simp only[go_sem]
 exact⟨trivial,e.trans (e7.trans e8)⟩
end Go.Proofs.YtcoimlclclnlkaaGreatDoor
namespace Go.Proofs.YtcoimlclclnlkaaGreatDoor
open Go Go.Crisp
attribute [local irreducible] FCall rowK newK stK iteK vK qK drawK gK joinK loopK mkK appK cpyK
open _root_.Go.Proofs.Tryz
abbrev rIa:Rp Int:=Rp.int .i64
theorem sl_ints {Z:Nat→Prop}{h:Heap}{v:Value}{l:List Int}(H:Rp.Sl rIa Z h v l):Ints h v l:=by
 obtain⟨ds,hs,_,he⟩:=H
 have hl:ds.length=l.length:=by have:=hs.1;simpa[Rp.int]using this
 have:ds=l.map vi:=by
  apply List.ext_getElem (by simp[hl])
  intro i h1 h2
  have h3:=he i (by omega)
  have h4:Rp.el 1 ds i=[.int .i64 l[i]]:=h3
  rw[Rp.el_one h1]at h4
  rw[List.getElem_map]
  simpa[vi]using h4
 subst this
 exact ints_sl hs
theorem znm {Z:Nat→Prop}{h:Heap}{v:Value}{l:List Int}(H:Ints h v l)(hz:l≠[]→∀b,blk v b→Z b):Rp.Sl rIa Z h v l:=by
 refine⟨l.map vi,H.sl,fun h0=>hz (by simpa using h0),fun i hi=>?_⟩
 show Rp.el 1 (l.map vi) i=[.int .i64 l[i]]
 rw[Rp.el_one (by simpa using hi)]
 simp[vi]
def rAcc:Rp Acc where
 w:=6
 R:=fun Z h cs a=>∃s,cs=[.int .i64 a.who,s,.int .i64 a.buf,.int .i64 a.lo,.int .i64 a.hi,.bool a.wr]∧Rp.Sl rIa Z h s a.when_
 len:=by rintro _ _ _ _ ⟨s,rfl,_⟩;rfl
 one:=by
  rintro _ _ _ _ ⟨s,rfl,H⟩ v hv
  have:=H.one
  simp only[List.mem_cons,List.not_mem_nil,or_false]at hv
  rcases hv with rfl|rfl|rfl|rfl|rfl|rfl<;>first|rfl|exact this
 fr:=by rintro _ _ _ _ _ _ ⟨s,rfl,H⟩ f q;exact⟨s,rfl,H.fr f q⟩
 mono:=by rintro _ _ _ _ _ ⟨s,rfl,H⟩ q;exact⟨s,rfl,H.mono q⟩
def mayA (a:Acc):Bool:=decide (0≤a.who)&&(decide (0≤a.buf)&&(decide (0≤a.lo)&&decide (a.lo<a.hi)))
theorem c_may {h:Heap}{v:Value}{a:Acc}(ha:IsAcc h v a):FCall prog zjJ #[v] h fun r h'=>r=.bool (mayA a)∧Ext h h':=by
 obtain⟨s,rfl,_⟩:=ha
 apply zsh
 unfold zlX
 simp only[zaB]
 refine zag fun b h1 r1 e1 n1=>?_
 by_cases p1:0≤a.who
 ·by_cases p2:0≤a.buf
  ·by_cases p3:0≤a.lo
   ·simp only[go_sem,zab r1,p1,p2,p3]
    exact⟨by simp[mayA,p1,p2,p3],e1⟩
   ·simp only[go_sem,zab r1,p1,p2,p3]
    exact⟨by simp[mayA,p1,p2,p3],e1⟩
  ·simp only[go_sem,zab r1,p1,p2]
   exact⟨by simp[mayA,p1,p2],e1⟩
 ·simp only[go_sem,zab r1,p1]
  exact⟨by simp[mayA,p1],e1⟩
theorem c_apart {h:Heap}{v:Value}{a:Acc}(ha:IsAcc h v a)(hl:a.when_.length≤4398046511104):
  FCall prog zhh #[v] h fun r h'=>∃ds,r=.agg (List.toArray ds)∧rAcc.R (fun b=>h.size≤b∧b<h'.size) h' ds a∧Ext h h':=by
 obtain⟨s,rfl,hs⟩:=ha
 apply zpn
 unfold zjb
 simp only[zaB]
 refine zag fun b1 h1 r1 e1 n1=>zag fun b3 h3 r3 e3 n3=>?_
 have r1':=e3.row r1
 simp only[go_sem,zab r1']
 refine(c_Clone ((hs.ext e1).ext e3) hl).mono ?_
 rintro s' h4 ⟨o4,e4,n4⟩
 have hs':=zm0 o4
 refine zaH (o:=1) (e4.row r1') (by simp) hs' fun h5 r5 u5=>?_
 have r5:h5[b1]? =some (.cells (List.toArray [.int .i64 a.who,s',.int .i64 a.buf,.int .i64 a.lo,.int .i64 a.hi,.bool a.wr]) _ (0,0)):=r5
 rw[zap r5 6 rfl,zaa]
 have b13:b3≠b1:=by have:=zaz r1;omega
 refine zbA (l:=[.int .i64 a.who,s',.int .i64 a.buf,.int .i64 a.lo,.int .i64 a.hi,.bool a.wr]) (u5.row b13 (e4.row r3)) rfl (by repeat' (first|rfl|assumption|exact zaq|refine zad ?_ ?_)) rfl fun h6 r6 u6=>?_
 rw[zap r6 6 rfl,zaa]
 have e06:Ext h h6:=(((e1.trans e3).trans e4).upd n1 u5).upd (Nat.le_trans e1.1 n3) u6
 refine⟨_,rfl,⟨s',rfl,?_⟩,e06⟩
 have hs1:∀b,blk s' b→b≠b1∧b≠b3:=fun b hb=>by
  have h1:=n4 b hb
  have h2:=zaz r1'
  have h3:=zaz r3
  exact⟨by omega,by omega⟩
 have o6:OwnI h6 s' a.when_:=(o4.fr u5.fr fun b hb=>(hs1 b hb).1).fr u6.fr fun b hb=>(hs1 b hb).2
 exact znm o6.ints fun _ b hb=>⟨Nat.le_trans (e1.trans e3).1 (n4 b hb),o6.lt hb⟩
end Go.Proofs.YtcoimlclclnlkaaGreatDoor
namespace Go.Proofs.YtcoimlclclnlkaaGreatDoor
open Go Go.Crisp
attribute [local irreducible] FCall rowK newK stK iteK vK qK drawK gK joinK loopK mkK appK cpyK
instance:Inhabited Acc:=⟨⟨0,[],0,0,0,false⟩⟩
end Go.Proofs.YtcoimlclclnlkaaGreatDoor
namespace Go.Proofs.YtcoimlclclnlkaaGreatDoor
open Go Go.Crisp
attribute [local irreducible] FCall rowK newK stK iteK vK qK drawK gK joinK loopK mkK appK cpyK
open _root_.Go.Proofs.Tryz
def newN (a:Int):Nat:=(min (max 1 a) 512).toNat
def newF (n:Nat)(j:Nat):List Int:=(List.range n).map fun m=>if m=j then 1 else 0
theorem zqZ (n:Nat)(f g:Nat→Value)(h:∀k,k<n→f k=g k):(List.range n).map f=(List.range n).map g:=
 List.map_congr_left fun k hk=>h k (List.mem_range.1 hk)
theorem c_New {h:Heap}(a:Int):FCall prog zew #[.int .i64 a] h fun r h'=>∃M,zbQ M h' r (newN a) (newF (newN a))∧Ext h h'∧∀b,M b→h.size≤b:=by
 apply ok_clock_New
 unfold zn6
 have hna:min (max 1 a) 512=((newN a:Nat):Int):=by unfold newN;omega
 have hn1:1≤newN a∧newN a≤512:=by unfold newN;omega
 simp only[go_sem,hna]
 generalize newN a=n at hn1
 refine zha rfl (by omega) (by omega) fun s h1 o1 e1 n1=>?_
 have hsl:=o1.sl
 obtain⟨_,sa,sc,rfl,_⟩:=hsl
 rw[vK_map _ #[.slice sa n sc] (by kernel_rfl)]
 refine zag (c:=#[.slice sa n sc]) fun bc h2 r2' e2 n2=>?_
 obtain⟨t0,r2⟩:∃t,h2[bc]? =some (.cells #[.slice sa n sc] t (0,0)):=⟨_,r2'⟩
 clear r2'
 simp only[go_sem,zab r2]
 have hbs:¬blk (.slice sa n sc) bc:=fun hb=>by have:=o1.lt hb;omega
 refine znj n (fun k h'=>k≤n∧Ext h h'∧∃sv:Nat→Value,h'[bc]? =some (.cells #[.slice sa n sc] t0 (0,0))∧Own 1 h' (.slice sa n sc) n ((List.range n).map fun j=>if j<k then sv j else .slice none 0 0)∧
   (∀j,j<k→OwnI h' (sv j) (newF n j))∧(∀j,j<k→∀b,blk (sv j) b→h.size≤b∧b≠bc∧¬blk (.slice sa n sc) b)∧∀i j,i<k→j<k→i≠j→∀b,blk (sv i) b→¬blk (sv j) b)
  ⟨Nat.zero_le _,e1.trans e2,fun _=>.nilFunc,r2,?_,fun j hj=>by omega,fun j hj=>by omega,fun i j hi=>by omega⟩ ?_
 ·have:=o1.fr (M:=fun _=>False) e2.fr fun _ _=>id
  rw[show List.replicate n (Value.slice none 0 0)=(List.range n).map fun j=>if j<0 then Value.nilFunc else .slice none 0 0 by
   apply List.ext_getElem<;>simp]at this
  exact this
 rintro k h3 again ρj ⟨hkn,e3,sv,r3,o3,hrow,hblk,hap⟩ hag
 simp only[go_sem]
 refine zac (fun hk=>?_) (fun hk=>?_)
 ·have hk:k<n:=by omega
  refine drawK_ext ?_
  refine zae (.slice sa n sc) (fun h' e=>by rw[zab (e.row r3)];rfl) ?_
  refine zha rfl (by omega) (by omega) fun s4 h4 o4 e4 n4=>?_
  refine⟨e4,?_⟩
  obtain⟨p,hp,hq,hst⟩:=(o3.fr (M:=fun _=>False) e4.fr fun _ _=>id).at1 (k:=.i64) hk
  simp only[go_sem,hp]
  have o4':OwnI h4 s4 (List.replicate n 0):=by
   unfold OwnI
   rw[List.length_replicate,List.map_replicate]
   exact o4
  refine hst _ _ (zm0 o4') fun h5 o5 f5 _=>?_
  rw[zqQ]at o5
  have hs4:∀b,blk s4 b→¬blk (.slice sa n sc) b:=fun b hb hb'=>by have:=n4 b hb;have:=o3.lt hb';omega
  have o6:OwnI h5 s4 (List.replicate n 0):=o4'.fr f5 fun b hb=>hs4 b hb
  have r5:h5[bc]? =some (.cells #[.slice sa n sc] t0 (0,0)):=f5.row (e4.row r3) hbs
  obtain⟨p6,hp6,hq6⟩:=o5.sl.at1 (k:=.i64) hk
  rw[hp]at hp6
  cases hp6
  rw[List.getElem_map,List.getElem_range,if_pos rfl]at hq6
  obtain⟨p7,hp7,hq7,hst7⟩:=Own.at1 o6 (k:=.i64) (i:=k) (by simpa using hk)
  simp only[go_sem,zab r5,hp,hq6,hp7]
  refine hst7 _ _ rfl fun h8 o8 f8 _=>?_
  rw[w64 (by omega) (by omega)]
  have f58:Fr (blk s4) h5 h8:=f8
  have hs4n:∀b,blk s4 b→h3.size≤b:=n4
  have e38:Ext h h8:=((e3.trans e4).then_fr f5 n1).then_fr f58 fun b hb=>Nat.le_trans e3.1 (hs4n b hb)
  have hb4:∀b,blk s4 b→h.size≤b∧b≠bc∧¬blk (.slice sa n sc) b:=fun b hb=>
   ⟨Nat.le_trans e3.1 (hs4n b hb),fun hbc=>by
    have h1:=hs4n b hb
    have h2:=(Array.getElem?_eq_some_iff.1 r3).1
    omega,hs4 b hb⟩
  have hold:∀j,j<k→∀b,blk (sv j) b→¬blk s4 b:=fun j hj b hb hb'=>by
   have h1:=hs4n b hb'
   have h2:=(hrow j hj).lt hb
   omega
  refine hag h8 hk ⟨hk,e38,fun j=>if j=k then s4 else sv j,?_,?_,?_,?_,?_⟩
  ·exact f58.row r5 fun hb=>(hb4 _ hb).2.1 rfl
  ·have:=o5.fr f58 fun b hb hb'=>hs4 b hb' hb
   rw[zqZ n _ (fun j=>if j<k+1 then(if j=k then s4 else sv j)else .slice none 0 0) ?_]at this
   ·exact this
   ·intro j hj
    by_cases h1:j=k
    ·subst h1;simp
    ·by_cases h2:j<k
     ·simp[h1,h2,Nat.lt_succ_of_lt h2]
     ·simp[h1,h2,show¬j<k+1 by omega]
  ·intro j hj
   by_cases h1:j=k
   ·subst h1
    simp only[if_true]
    have o9:Own 1 h8 s4 (newF n j).length ((newF n j).map vi):=by
     refine(congr (congrArg (Own 1 h8 s4) ?_) ?_).mp o8
     ·simp[newF]
     ·apply List.ext_getElem
      ·simp[newF]
      ·intro m h1 h2
       rw[List.getElem_set]
       simp only[newF,List.getElem_map,List.getElem_replicate,List.getElem_range,vi, @eq_comm _ m j]
       split<;>rfl
    exact o9
   ·simp only[h1,if_false]
    have hj':j<k:=by omega
    have h9:=((hrow j hj').fr (M:=fun _=>False) e4.fr fun _ _=>id)
    have h10:OwnI h5 (sv j) (newF n j):=h9.fr f5 fun b hb=>(hblk j hj' b hb).2.2
    exact h10.fr f58 fun b hb=>hold j hj' b hb
  ·intro j hj b hb
   by_cases h1:j=k
   ·simp only[h1,if_true]at hb;exact hb4 b hb
   ·simp only[h1,if_false]at hb;exact hblk j (by omega) b hb
  ·intro i j hi hj hij b hb hb'
   by_cases h1:i=k
   ·simp only[h1,if_true]at hb
    have h2:j≠k:=fun h=>hij (h1.trans h.symm)
    simp only[h2,if_false]at hb'
    exact hold j (by omega) b hb' hb
   ·simp only[h1,if_false]at hb
    by_cases h2:j=k
    ·simp only[h2,if_true]at hb'
     exact hold i (by omega) b hb hb'
    ·simp only[h2,if_false]at hb'
     exact hap i j (by omega) (by omega) hij b hb hb'
 ·obtain rfl:k=n:=by omega
  have o3':Own 1 h3 (.slice sa k sc) k ((List.range k).map sv):=by
   rw[zqZ k _ sv (fun j hj=>by simp[hj])]at o3
   exact o3
  refine⟨fun b=>b=bc∨blk (.slice sa k sc) b∨∃j,j<k∧blk (sv j) b,⟨bc,.slice sa k sc,sv,t0,rfl,?_⟩,e3,?_⟩
  ·exact{
    var:=r3,arr:=o3',row:=hrow,len:=fun i hi=>by simp[newF],pos:=hn1
    inM:=⟨.inl rfl,fun b hb=>.inr (.inl hb),fun i hi b hb=>.inr (.inr ⟨i,hi,hb⟩)⟩
    ap1:=hbs,ap2:=fun i hi b hb=>(hblk i hi b hb).2,ap3:=fun i j hi hj hij b=>hap i j hi hj hij b
    lt:=fun b hb=>by
     rcases hb with rfl|hb|⟨j,hj,hb⟩
     ·exact(Array.getElem?_eq_some_iff.1 r3).1
     ·exact o3.lt hb
     ·exact(hrow j hj).lt hb}
  ·intro b hb
   rcases hb with rfl|hb|⟨j,hj,hb⟩
   ·exact Nat.le_trans e1.1 n2
   ·exact n1 b hb
   ·exact(hblk j hj b hb).1
end Go.Proofs.YtcoimlclclnlkaaGreatDoor
namespace Go.Proofs.YtcoimlclclnlkaaGreatDoor
open Go Go.Crisp
attribute [local irreducible] FCall rowK newK stK iteK vK qK drawK gK joinK loopK mkK appK cpyK zh1 zgb newmK
open _root_.Go.Proofs.Tryz
section
section
variable {Z:Nat→Prop}{h:Heap}{bx o:Nat}{cs:Array Value}{t:TypeId}{sl:Value}{l:List Acc}
structure LedIn (Z:Nat→Prop)(h:Heap)(bx o:Nat)(cs:Array Value)(t:TypeId)(sl:Value)(l:List Acc):Prop where
 var:h[bx]? =some (.cells cs t (0,0))
 pl:cs[o]? =some sl
 own:Rp.Ow rAcc Z h sl l
 ap:¬blk sl bx∧¬Z bx
 zlt:∀b,Z b→b<h.size
theorem c_AddP {u:Value}{a:Acc}(L:LedIn Z h bx o cs t sl l)(hu:IsAcc h u a)(ha:a.when_.length≤4398046511104)(hl:l.length≤1000000)(hm:mayA a=true):
  FCall prog zdy #[.pointer (some ⟨bx,o,none⟩),u] h fun r h'=>∃s' Z',LedIn Z' h' bx o (cs.setIfInBounds o s') t s' (l++[a])∧Fr (fun b=>b=bx∨blk sl b) h h'∧(∀b,blk s' b→blk sl b∨h.size≤b)∧∀b,Z' b→Z b∨h.size≤b:=by
 have lbx:=zaz L.var
 have ho:o<cs.size:=(Array.getElem?_eq_some_iff.1 L.pl).1
 obtain⟨s,rfl,hs⟩:=hu
 apply zkh
 unfold zfp
 simp only[zaB]
 refine zag fun b1 h1 r1 e1 n1=>?_
 rw[zap (l:=[.int .i64 a.who,s,.int .i64 a.buf,.int .i64 a.lo,.int .i64 a.hi,.bool a.wr]) r1 6 rfl,zaa]
 have A1:IsAcc h1 (.agg #[.int .i64 a.who,s,.int .i64 a.buf,.int .i64 a.lo,.int .i64 a.hi,.bool a.wr]) a:=⟨s,rfl,hs.ext e1⟩
 refine(c_may A1).mono ?_
 rintro _ h2 ⟨rfl,e2⟩
 have e02:=e1.trans e2
 simp only[hm,go_sem,Nat.add_zero]
 have r12:=e2.row r1
 have v2:=e02.row L.var
 refine zaj (fun hh=>hh[bx]? =some (.cells cs t (0,0))∧ldsV 6 hh (.pointer (some ⟨b1,0,none⟩))=some (.agg #[.int .i64 a.who,s,.int .i64 a.buf,.int .i64 a.lo,.int .i64 a.hi,.bool a.wr]))
  ⟨v2,zap (l:=[.int .i64 a.who,s,.int .i64 a.buf,.int .i64 a.lo,.int .i64 a.hi,.bool a.wr]) r12 6 rfl⟩ ?_
 refine zae sl (fun hh S=>by rw[zab S.1,L.pl]) ?_
 refine zae _ (fun hh S=>S.2) ?_
 refine(c_apart (A1.ext e2) ha).mono ?_
 rintro _ h3 ⟨ds,rfl,hds,e3⟩
 have e03:=e02.trans e3
 refine⟨⟨e3.row v2,zap (l:=[.int .i64 a.who,s,.int .i64 a.buf,.int .i64 a.lo,.int .i64 a.hi,.bool a.wr]) (e3.row r12) 6 rfl⟩,?_⟩
 have hw6:ds.length=6:=rAcc.len hds
 refine zbn (Rp.fill_whole rfl hw6) fun b4 h4 r4 e4 n4=>?_
 have e04:=e03.trans e4
 refine⟨⟨e4.row (e3.row v2),e4.lds (zap (l:=[.int .i64 a.who,s,.int .i64 a.buf,.int .i64 a.lo,.int .i64 a.hi,.bool a.wr]) (e3.row r12) 6 rfl)⟩,?_⟩
 have S1:=Rp.SlC.single r4
 rw[hw6]at S1
 have dz:∀b,blk sl b→¬Z b:=by obtain⟨_,_,d,_⟩:=L.own;exact d
 have o4:Rp.Ow rAcc (fun b=>Z b∨(h.size≤b∧b<h3.size)) h4 sl l:=(L.own.ext e04).mono (fun b _ hb=>.inl hb) fun b hb hz=>by
  rcases hz with hz|hz
  ·exact dz b hb hz
  ·have:=L.own.lt hb;omega
 refine Rp.app_ow (e:=rAcc) (l2:=[a]) o4 S1 (fun i hi=>?_) rfl (by simp;omega) (by simp;omega) (fun b hb=>?_) fun s' h5 o5 f5 n5=>?_
 ·have hi:i=0:=by simpa using hi
  subst hi
  rw[show Rp.el rAcc.w ds 0=ds from Rp.el_self hw6]
  exact rAcc.mono (rAcc.ext hds e4) fun b _ hb=>.inr ⟨Nat.le_trans e02.1 hb.1,hb.2⟩
 ·rcases hb with hb|hb
  ·exact Nat.lt_of_lt_of_le (L.zlt b hb) e04.1
  ·exact Nat.lt_of_lt_of_le hb.2 e4.1
 have v5:h5[bx]? =some (.cells cs t (0,0)):=f5.row (e04.row L.var) L.ap.1
 have n1':¬blk sl b1:=fun hb=>by have:=L.own.lt hb;omega
 refine⟨⟨v5,zap (l:=[.int .i64 a.who,s,.int .i64 a.buf,.int .i64 a.lo,.int .i64 a.hi,.bool a.wr]) (f5.row ((e3.trans e4).row r12) n1') 6 rfl⟩,?_⟩
 refine zaH v5 ho o5.one fun h6 r6 u6=>?_
 have hbx:∀b,blk s' b→b≠bx:=fun b hb hbb=>by
  rcases n5 b hb with h7|h7
  ·exact L.ap.1 (hbb▸h7)
  ·have:=e04.1;omega
 have zbx:∀b,(Z b∨(h.size≤b∧b<h3.size))→b≠bx:=fun b hb hbb=>by
  rcases hb with hb|hb
  ·exact L.ap.2 (hbb▸hb)
  ·omega
 have o6:=o5.fr u6.fr (fun b _ hb=>zbx b hb) hbx
 refine⟨s',fun b=>Z b∨(h.size≤b∧b<h3.size),⟨r6,by simp[ho],o6,⟨fun hb=>hbx bx hb rfl,fun hb=>zbx bx hb rfl⟩,fun b hb=>?_⟩,?_,fun b hb=>?_,fun b hb=>hb.imp id And.left⟩
 ·have h7:h4.size≤h6.size:=by rw[u6.1];exact f5.1
  rcases hb with hb|hb
  ·have:=L.zlt b hb;have:=e04.1;omega
  ·have:=e4.1;omega
 ·exact(e04.fr.trans (f5.mono fun b _ hb=>.inr hb)).trans (u6.fr.mono fun b _ hb=>.inl hb)
 ·rcases n5 b hb with h7|h7
  ·exact .inl h7
  ·exact .inr (Nat.le_trans e04.1 h7)
end
end
end Go.Proofs.YtcoimlclclnlkaaGreatDoor
namespace Go.Proofs.YtcoimlclclnlkaaGreatDoor
open Go Go.Crisp
open _root_.Go.Proofs.Tryz
def zp7:Go.Shelf.Ren:=⟨fun n=>match n with|23=>130|n=>n,fun n=>match n with|0=>0|3=>3|4=>4|22=>73|n=>n,fun n=>n⟩
theorem lay_Delete:Go.Proofs.Lays2.n23 prog zp7 where
 mixed:=by kernel_rfl
 f23:=by kernel_rfl
 t0:=by kernel_rfl
 a0:=fun w=>zaC (by kernel_rfl)
 z0:=fun w=>zao (by kernel_rfl)
 v0:=fun w=>zan (by kernel_rfl)
 t3:=by kernel_rfl
 a3:=fun w=>zaC (by kernel_rfl)
 z3:=fun w=>zao (by kernel_rfl)
 v3:=fun w=>zan (by kernel_rfl)
 t4:=by kernel_rfl
 a4:=fun w=>zaC (by kernel_rfl)
 z4:=fun w=>zao (by kernel_rfl)
 v4:=fun w=>zan (by kernel_rfl)
 t22:=by kernel_rfl
 a22:=fun w=>zaC (by kernel_rfl)
 z22:=fun w=>zao (by kernel_rfl)
 v22:=fun w=>zan (by kernel_rfl)
 i3:=by kernel_rfl
end Go.Proofs.YtcoimlclclnlkaaGreatDoor
namespace Go.Proofs.YtcoimlclclnlkaaGreatDoor
open Go Go.Crisp
attribute [local irreducible] FCall rowK newK stK iteK vK qK drawK gK joinK loopK mkK appK cpyK zoB zmd bsK clK zh1 zgb newmK
structure zbe (n n':Pic):Prop where
 w:n'.w=n.w
 h:n'.h=n.h
 c:n'.c=n.c
 m:n'.most=n.most
theorem zbe.refl (n:Pic):zbe n n:=⟨rfl,rfl,rfl,rfl⟩
theorem zbe.newC {m n n':Pic}{s:Stg}{t:TileD}(D:zbe n n')(h:wnewC m n s t=0):wnewC m n' s t=0:=by
 obtain⟨h1,h2⟩:=zfH.1 h
 exact zfH.2 ⟨⟨h1.1,by rw[D.w];exact h1.2.1,by rw[D.h];exact h1.2.2.1,by rw[D.c];exact h1.2.2.2.1,by rw[D.m];exact h1.2.2.2.2⟩,h2⟩
theorem zbe.inP {n n':Pic}(D:zbe n n'){x y c:Int}:Go.Proofs.YtcoimlclclnlkaaGreatDoor.inP n' x y c↔Go.Proofs.YtcoimlclclnlkaaGreatDoor.inP n x y c:=by
 unfold Go.Proofs.YtcoimlclclnlkaaGreatDoor.inP
 rw[D.w,D.h,D.c]
theorem pic_extL {n n':Pic}(W:n.Wf)(l2:(n'.l.length:Int)=n'.w*n'.h*n'.c)(D:zbe n n')(H:∀x y c,inP n x y c→atP n x y c=atP n' x y c):n.l=n'.l:=by
 have hf:=zbv W.fits
 have l1:=W.len
 rw[D.w,D.h,D.c]at l2
 refine list_eq_take (by omega) fun i h1 h2=>?_
 have hC:0<n.c:=by omega
 have hW:0<n.w:=by omega
 have e1:=Int.mul_ediv_add_emod (i:Int) n.c
 have e2:=Int.mul_ediv_add_emod ((i:Int)/n.c) n.w
 have m1:=Int.emod_nonneg (i:Int) (show n.c≠0 by omega)
 have m2:=Int.emod_lt_of_pos (i:Int) hC
 have m3:=Int.emod_nonneg ((i:Int)/n.c) (show n.w≠0 by omega)
 have m4:=Int.emod_lt_of_pos ((i:Int)/n.c) hW
 have q0:0≤(i:Int)/n.c:=Int.ediv_nonneg (by omega) (by omega)
 have q1:0≤(i:Int)/n.c/n.w:=Int.ediv_nonneg q0 (by omega)
 have q2:(i:Int)/n.c<n.w*n.h:=by
  rw[Int.ediv_lt_iff_lt_mul hC];omega
 have q3:(i:Int)/n.c/n.w<n.h:=by
  rw[Int.ediv_lt_iff_lt_mul hW,Int.mul_comm];exact q2
 have hin:inP n ((i:Int)/n.c%n.w) ((i:Int)/n.c/n.w) ((i:Int)%n.c):=⟨m3,m4,q1,q3,m1,m2⟩
 have hp:posP n ((i:Int)/n.c%n.w) ((i:Int)/n.c/n.w) ((i:Int)%n.c)=(i:Int):=by
  unfold posP
  rw[Int.mul_comm ((i:Int)/n.c/n.w),e2,Int.mul_comm ((i:Int)/n.c),e1]
 have hp':posP n' ((i:Int)/n.c%n.w) ((i:Int)/n.c/n.w) ((i:Int)%n.c)=(i:Int):=by
  unfold posP at hp ⊢
  rw[D.w,D.c];exact hp
 have:=H _ _ _ hin
 unfold atP at this
 rw[if_pos hin,if_pos (D.inP.2 hin),hp,hp',Int.toNat_natCast]at this
 simpa[List.getD_eq_getElem?_getD,h1,h2]using this
end Go.Proofs.YtcoimlclclnlkaaGreatDoor
namespace Go.Crisp
open Go
def CapLe (v:Value):Prop:=∀a n c,v=.slice a n c→c≤9223372036854775807
theorem appK_cap {z:Value}{e:TypeId}{w bytes:Nat}{s x:Value}{h:Heap}{K K':Value→Heap→Prop}(H:appK z e w bytes s x h K)(hs:CapLe s)(m:∀s' h',K s' h'→CapLe s'→K' s' h'):appK z e w bytes s x h K':=by
 unfold appK at H ⊢
 split at H
 ·rename_i base sLen sCap n _
  split at H
  ·rename_i h0
   rw[if_pos h0]
   revert H
   cases srcOf w h n x with
   |none=>exact fun H=>H
   | some news=>
    cases base with
    |none=>exact fun H=>m _ _ H fun a n c e=>by cases e;exact hs _ _ _ rfl
    |some a=>
     dsimp only
     cases zdo h (a.add (sLen*w)) 0 news with
     |none=>exact fun H=>H
     |some h'=>exact fun H=>m _ _ H fun a n c e=>by cases e;exact hs _ _ _ rfl
  ·rename_i h0
   rw[if_neg h0]
   refine⟨H.1,H.2.1,?_⟩
   have H:=H.2.2
   revert H
   cases srcOf w h sLen (.slice base sLen sCap)<;>cases srcOf w h n x
   ·exact fun H=>H
   ·exact fun H=>H
   ·exact fun H=>H
   ·exact fun H c h1 h2=>m _ _ (H c h1 h2) fun a n c' e=>by cases e;omega
 ·exact H
theorem SlC.isSl_one {w:Nat}{h:Heap}{v:Value}{n:Nat}{cs:List Value}(H:SlC w h v n cs):zam v=true:=by obtain⟨a,c,e⟩:=H.isSl;rw[e];rfl
theorem capLe_nil:CapLe (.slice none 0 0):=fun a n c e=>by cases e;omega
end Go.Crisp
namespace Go.Proofs.YtcoimlclclnlkaaGreatDoor
open Go Go.Crisp
attribute [local irreducible] FCall rowK newK stK iteK vK qK drawK gK joinK loopK mkK cpyK zoB zmd bsK clK zh1 zgb newmK
open _root_.Go.Proofs.Tryz
section
theorem putCells_get {α:Type}[Inhabited α](enc:α→Value)(off:Nat)(d:Array α)(c:Array Value)(i:Nat):(Go.Sort.putCells enc off d c)[i]? =c[i]?.map fun x=>if off≤i∧i<off+d.size then enc d[i-off]! else x:=by
 unfold Go.Sort.putCells
 rw[Array.getElem?_mapIdx]
theorem c_Delete {h:Heap}{v:Value}{x:Int}{l:List Int}(H:Own 1 h v (l.length+1) ((x::l).map fun n=>Value.int .i64 n))(hc:CapLe v):
  FCall prog zdd #[v,.int .i64 0,.int .i64 1] h fun r h'=>Own 1 h' r l.length (l.map fun n=>Value.int .i64 n)∧CapLe r∧Fr (blk v) h h'∧(∀b,blk r b→blk v b):=by
 refine FCall.ofCalls (by kernel_rfl) fun w hh=>?_
 subst hh
 rcases H with⟨_,h0,_⟩|⟨b,cap,r,e,rfl,hcap,hl,hr,hb⟩
 ·cases h0
 have hcm:=hc _ _ _ rfl
 have hget:∀j,(hj:j<(x::l).length)→w.heap[b]? =some (.cells ((x::l).map (fun n=>Value.int .i64 n)++r).toArray e (0,0))→zah w.heap ⟨b,0+j,none⟩=some (.int .i64 (x::l)[j]):=fun j hj hb=>by
  rw[zab hb,Nat.zero_add]
  simp only[List.getElem?_toArray]
  rw[List.getElem?_append_left (by simpa using hj),List.getElem?_map,List.getElem?_eq_getElem hj]
  rfl
 have hH:Go.Sort.Holds (Value.int .i64) w b 0 (x::l).toArray:=fun j hj=>by
  have hj':j<(x::l).length:=by simpa using hj
  refine⟨?_,?_⟩
  ·rw[getElem!_pos (x::l).toArray j hj]
   exact hget j hj' hb
  ·show zh5 w.heap ⟨b,0+j,none⟩=false
   unfold zh5
   simp[hb]
 have:=Any.slices_Delete_int lay_Delete b 0 cap 0 1 (x::l) w hH hcap hcm (by omega) (by simp)
 refine this.mono fun e' w' ⟨h1,q,h2⟩=>⟨_,h1,?_⟩
 subst h2
 have hlt:b<w.heap.size:=(Array.getElem?_eq_some_iff.1 hb).1
 have hrow:(Go.Sort.putRow (Value.int .i64) (Go.Sort.ahead w q) b 0 ((x::l).take 0++(x::l).drop 1++List.replicate (1-0) 0).toArray).heap[b]? =some (.cells (l.map (fun n=>Value.int .i64 n)++(Value.int .i64 0::r)).toArray e (0,0)):=by
  show(w.heap.modify b (Go.Sort.onCells _))[b]? =_
  rw[Array.getElem?_modify,if_pos rfl,hb]
  show some (Obj.cells (Go.Sort.putCells _ 0 _ _) e (0,0))=_
  congr 2
  apply Array.ext_getElem?
  intro i
  rw[putCells_get]
  simp only[List.take_zero,List.nil_append,List.drop_succ_cons,List.drop_zero,Nat.sub_zero,List.replicate_one,Nat.zero_le,true_and,Nat.zero_add,List.size_toArray,List.length_append,List.length_singleton,List.getElem?_toArray]
  by_cases h3:i<l.length+1
  ·rw[List.getElem?_append_left (by simpa using h3),List.getElem?_map,List.getElem?_eq_getElem (show i<(x::l).length by simpa using h3),Option.map_some,Option.map_some,if_pos h3,getElem!_pos _ i (by simpa using h3)]
   by_cases h4:i<l.length
   ·rw[List.getElem?_append_left (by simpa using h4),List.getElem?_map,List.getElem?_eq_getElem h4]
    simp[List.getElem_append_left,h4]
   ·have:i=l.length:=by omega
    subst this
    rw[List.getElem?_append_right (by simp)]
    simp
  ·have e1:((x::l).map (fun n=>Value.int .i64 n)++r)[i]? =r[i-(l.length+1)]? :=by
    rw[List.getElem?_append_right (by simp;omega)]
    simp
   have e2:(l.map (fun n=>Value.int .i64 n)++Value.int .i64 0::r)[i]? =r[i-(l.length+1)]? :=by
    rw[List.getElem?_append_right (by simp;omega),List.length_map,show i-l.length=(i-(l.length+1))+1 by omega,List.getElem?_cons_succ]
   rw[e1,e2]
   cases r[i-(l.length+1)]? <;>simp[h3]
 refine⟨⟨rfl,rfl,rfl⟩,?_,fun a n c e=>?_,⟨?_,fun k hk hm=>?_⟩,fun k hk=>hk⟩
 ·refine .inr ⟨b,cap,Value.int .i64 0::r,e,?_,by omega,by simp,?_,hrow⟩
  ·simp
  ·simp at hr ⊢;omega
 ·cases e;exact hcm
 ·show w.heap.size≤(w.heap.modify b _).size
  simp
 ·show(w.heap.modify b _)[k]? =_
  rw[Array.getElem?_modify,if_neg (fun h=>hm h.symm)]
structure QD where
 room:Int
 l:List Int
 closed:Bool
structure QD.Wf (d:QD):Prop where
 r1:1≤d.room
 r2:d.room≤4096
 l:(d.l.length:Int)≤d.room
structure IsQ (Q:Nat→Prop)(h:Heap)(b:Nat)(d:QD):Prop where
 at_:∃v,h[b]? =some (.cells #[.int .i64 d.room,v,.bool d.closed] 173 (0,0))∧Own 1 h v d.l.length (d.l.map fun n=>Value.int .i64 n)∧CapLe v∧¬blk v b∧∀c,blk v c→Q c
 qb:Q b
 ql:∀c,Q c→c<h.size
 wf:d.Wf
theorem IsQ.fr {Q M:Nat→Prop}{h h':Heap}{b:Nat}{d:QD}(H:IsQ Q h b d)(f:Fr M h h')(q:∀c,Q c→¬M c):IsQ Q h' b d:=by
 obtain⟨⟨v,r,o,c,n,s⟩,qb,ql,w⟩:=H
 exact⟨⟨v,f.row r (q b qb),o.fr f fun k hk=>q k (s k hk),c,n,s⟩,qb,fun k hk=>Nat.lt_of_lt_of_le (ql k hk) f.1,w⟩
theorem IsQ.ext {Q:Nat→Prop}{h h':Heap}{b:Nat}{d:QD}(H:IsQ Q h b d)(e:Ext h h'):IsQ Q h' b d:=H.fr (M:=fun _=>False) e.fr fun _ _=>id
def sendQ (d:QD)(x:Int):QD:=if d.closed then d else if d.room≤d.l.length then d else{d with l:=d.l++[x]}
def sendR (d:QD):Int:=if d.closed then 2 else if d.room≤d.l.length then 1 else 0
def recvQ (d:QD):QD:={d with l:=d.l.tail}
def recvX (d:QD):Int:=d.l.headD 0
def recvR (d:QD):Int:=if d.l=[]then(if d.closed then 2 else 1)else 0
theorem zsJ {B:Nat→Prop}{h h':Heap}(hb:∀c,B c→c<h.size)(hs:h.size≤h'.size):∀c,Grow B h h' c→c<h'.size:=fun c hc=>hc.elim (fun h=>Nat.lt_of_lt_of_le (hb c h) hs) fun h=>h.2
section
variable {Q:Nat→Prop}{h:Heap}{b:Nat}{d:QD}
theorem c_qNew {h:Heap}{n:Int}:FCall prog zeq #[.int .i64 n] h fun r h'=>∃b,r=ptr b∧IsQ (fun c=>c=b) h' b ⟨min (max 1 n) 4096,[],false⟩∧Ext h h'∧h.size≤b:=by
 apply ok_queue_New
 unfold znY
 have hf:∀v:Int,fillL #[(.int .i64 0),(.slice none 0 0),(.bool false)] [(0,1,.int .i64 v)]=some #[.int .i64 v,.slice none 0 0,.bool false]:=fun _=>rfl
 simp only[go_sem,hf,zaA]
 refine zag fun b h1 r1 e1 n1=>?_
 exact⟨b,rfl,⟨⟨_,r1,.inl ⟨rfl,rfl,rfl⟩,capLe_nil,id,fun c hc=>hc.elim⟩,rfl,fun c hc=>by rw[hc];exact zaz r1,⟨by show 1≤min (max 1 n) 4096;omega,by show min (max 1 n) 4096≤4096;omega,by show(0:Int)≤min (max 1 n) 4096;omega⟩⟩,e1,n1⟩
theorem c_qClosed (H:IsQ Q h b d):FCall prog zcd #[ptr b] h fun r h'=>r=.bool d.closed∧h'=h:=by
 apply zjp
 unfold zeO
 obtain⟨⟨v,r,o,c,n,s⟩,qb,ql,w⟩:=H
 have c2:zah h ⟨b,2,none⟩=some (.bool d.closed):=zab r
 simp only[go_sem,c2]
 exact⟨trivial,trivial⟩
theorem c_CanSend (H:IsQ Q h b d):FCall prog zb4 #[ptr b] h fun r h'=>r=.bool (decide (sendR d≠1))∧h'=h:=by
 apply ziS
 unfold zd8 sendR
 obtain⟨⟨v,r,o,c,n,s⟩,qb,ql,w⟩:=H
 have c0:zah h ⟨b,0,none⟩=some (.int .i64 d.room):=zab r
 have c1:zah h ⟨b,1,none⟩=some v:=zab r
 have c2:zah h ⟨b,2,none⟩=some (.bool d.closed):=zab r
 obtain⟨a,cp,e⟩:=o.isSl
 have e2:zaf v=some (.int .i64 (d.l.length:Int)):=by rw[e];rfl
 cases hc:d.closed with
 |true=>
  rw[hc]at c2
  simp only[go_sem,c0,c1,c2,e2]
  exact⟨by simp,trivial⟩
 |false=>
  rw[hc]at c2
  simp only[go_sem,c0,c1,c2,e2,Nat.zero_add]
  refine⟨?_,trivial⟩
  congr 1
  rw[decide_eq_decide]
  by_cases hr:d.room≤d.l.length
  ·simp[hr]
  ·simp[hr];omega
theorem c_CanReceive (H:IsQ Q h b d):FCall prog zcm #[ptr b] h fun r h'=>r=.bool (decide (recvR d≠1))∧h'=h:=by
 apply zg9
 unfold zdl recvR
 obtain⟨⟨v,r,o,c,n,s⟩,qb,ql,w⟩:=H
 have c1:zah h ⟨b,1,none⟩=some v:=zab r
 have c2:zah h ⟨b,2,none⟩=some (.bool d.closed):=zab r
 obtain⟨a,cp,e⟩:=o.isSl
 have e2:zaf v=some (.int .i64 (d.l.length:Int)):=by rw[e];rfl
 cases hc:d.closed with
 |true=>
  rw[hc]at c2
  simp only[go_sem,c1,c2,e2]
  refine⟨?_,trivial⟩
  cases d.l<;>simp
 |false=>
  rw[hc]at c2
  simp only[go_sem,c1,c2,e2,Nat.zero_add]
  refine⟨?_,trivial⟩
  cases d.l<;>simp
theorem c_qSend (H:IsQ Q h b d){x:Int}:FCall prog zd0 #[ptr b,.int .i64 x] h fun r h'=>r=.int .i64 (sendR d)∧IsQ (Grow Q h h') h' b (sendQ d x)∧Fr Q h h':=by
 apply zk4
 unfold zfW
 have H0:=H
 obtain⟨⟨v,r,o,c,n,s⟩,qb,ql,w⟩:=H
 have c1:zah h ⟨b,1,none⟩=some v:=zab r
 have c2:zah h ⟨b,2,none⟩=some (.bool d.closed):=zab r
 cases hc:d.closed with
 |true=>
  rw[hc]at c2
  simp only[go_sem,c2]
  unfold sendR sendQ
  rw[if_pos hc,if_pos hc,zmF]
  exact⟨rfl,H0,Fr.refl _ _⟩
 | false=>
  have hcf:¬d.closed=true:=by rw[hc];simp
  rw[hc]at c2
  simp only[go_sem,c2]
  refine FCall.at (c_CanSend H0) ?_
  by_cases hr:d.room≤d.l.length
  ·have hs:sendR d=1:=by unfold sendR;rw[if_neg hcf,if_pos hr]
   have hq:sendQ d x=d:=by unfold sendQ;rw[if_neg hcf,if_pos hr]
   rw[hs,hq,zmF,decide_eq_false (by decide)]
   simp only[go_sem]
   exact⟨trivial,H0,Fr.refl _ _⟩
  ·have hs:sendR d=0:=by unfold sendR;rw[if_neg hcf,if_neg hr]
   have hq:sendQ d x={d with l:=d.l++[x]}:=by unfold sendQ;rw[if_neg hcf,if_neg hr]
   rw[hs,hq,decide_eq_true (by decide)]
   simp only[go_sem,c1]
   have w1:=w.r2
   refine zbn (Rp.fill_one rfl) fun b1 h1 r1 e1 n1=>?_
   refine appK_cap (zj1 (o.fr (M:=fun _=>False) e1.fr fun _ _=>id) (Rp.SlC.single (cs:=[.int .i64 x]) r1) (zad rfl zaq) rfl (by omega) (by omega) fun s' h2 o2 f2 n2=>(⟨o2,f2,n2⟩:Own 1 h2 s' (d.l.length+1) (d.l.map (fun n=>Value.int .i64 n)++[.int .i64 x])∧Fr (blk v) h1 h2∧∀b,blk s' b→blk v b∨h1.size≤b)) c fun v2 h2 ⟨o2,f2,n2⟩ c2'=>?_
   have rb:=f2.row (e1.row r) n
   have hbl:=zaz (e1.row r)
   have hn2:¬blk v2 b:=fun hv=>(n2 b hv).elim n fun hh=>by omega
   try simp only[go_sem]
   refine zaH rb (by simp) o2.sl.isSl_one fun h3 r3 u3=>?_
   have hs1:=e1.1
   have hs2:=f2.1
   have hs3:=u3.1
   refine⟨trivial,⟨⟨v2,r3,?_,c2',hn2,fun k hk=>?_⟩,.inl qb,zsJ ql (by omega),⟨w.r1,w.r2,by show((d.l++[x]).length:Int)≤d.room;simp;omega⟩⟩,?_⟩
   ·show Own 1 h3 v2 (d.l++[x]).length ((d.l++[x]).map fun n=>Value.int .i64 n)
    rw[List.length_append,List.map_append]
    exact o2.fr u3.fr fun k hk he=>hn2 (he▸hk)
   ·rcases n2 k hk with h5|h5
    ·exact .inl (s k h5)
    ·have:=o2.lt hk
     exact .inr ⟨by omega,by omega⟩
   ·exact((e1.fr (M:=Q)).after f2 fun k _ hk=>s k hk).after u3.fr fun k _ hk=>hk▸qb
theorem c_qReceive (H:IsQ Q h b d):FCall prog zc0 #[ptr b] h fun r h'=>r=.tuple #[.int .i64 (recvX d),.int .i64 (recvR d)]∧IsQ (Grow Q h h') h' b (recvQ d)∧Fr Q h h':=by
 apply ziR
 unfold zd7
 have H0:=H
 obtain⟨⟨v,r,o,c,n,s⟩,qb,ql,w⟩:=H
 have c1:zah h ⟨b,1,none⟩=some v:=zab r
 have c2:zah h ⟨b,2,none⟩=some (.bool d.closed):=zab r
 obtain⟨a,cp,e⟩:=o.isSl
 have e2:zaf v=some (.int .i64 (d.l.length:Int)):=by rw[e];rfl
 cases hl:d.l with
 |nil=>
  have hx:recvX d=0:=by unfold recvX;rw[hl];rfl
  have hq:recvQ d=d:=by unfold recvQ;rw[hl];cases d;simp_all
  rw[hx,hq]
  rw[hl]at e2
  have z00:¬(0:Int)<((0:Nat):Int):=by omega
  simp only[go_sem,c1,e2,List.length_nil,decide_eq_false z00,c2]
  have hr:recvR d=if d.closed then 2 else 1:=by unfold recvR;rw[if_pos hl]
  rw[hr]
  cases d.closed with
  |true=>rw[zcU];exact⟨rfl,by rw[zmF];exact H0,Fr.refl _ _⟩
  |false=>rw[zbo];exact⟨rfl,by rw[zmF];exact H0,Fr.refl _ _⟩
 |cons x t=>
  have hx:recvX d=x:=by unfold recvX;rw[hl];rfl
  have hq:recvQ d={d with l:=t}:=by unfold recvQ;rw[hl];rfl
  have hr:recvR d=0:=by unfold recvR;rw[if_neg (by rw[hl];simp)]
  rw[hx,hq,hr]
  rw[hl]at e2 o
  have o':Own 1 h v (t.length+1) ((x::t).map fun n=>Value.int .i64 n):=o
  have zp:(0:Int)<(((x::t).length:Nat):Int):=by simp
  obtain⟨pp,p1,p2⟩:=(zqX (k:=.i64) (l:=x::t) o).int_at (k':=.i64) (i:=0) (by simp)
  have p1:idxV 1 v (.int .i64 0)=some pp:=p1
  simp only[go_sem,c1,e2,decide_eq_true zp,p1,p2]
  refine(c_Delete o' c).mono fun v2 h2 ⟨o2,c2',f2,n2⟩=>?_
  have rb:=f2.row r n
  have hn2:¬blk v2 b:=fun hv=>n (n2 b hv)
  try simp only[go_sem]
  refine zaH rb (by simp) o2.sl.isSl_one fun h3 r3 u3=>?_
  have hs2:=f2.1
  have hs3:=u3.1
  have wl:=w.l
  rw[hl]at wl
  refine⟨rfl,⟨⟨v2,r3,o2.fr u3.fr fun k hk he=>hn2 (he▸hk),c2',hn2,fun k hk=>.inl (s k (n2 k hk))⟩,.inl qb,zsJ ql (by omega),⟨w.r1,w.r2,by show(t.length:Int)≤d.room;simp at wl;omega⟩⟩,?_⟩
  exact(f2.mono fun k _ hk=>s k hk).trans (u3.fr.mono fun k _ hk=>hk▸qb)
theorem c_qClose (H:IsQ Q h b d):FCall prog zcz #[ptr b] h fun r h'=>r=.bool (!d.closed)∧IsQ Q h' b {d with closed:=true}∧Fr Q h h':=by
 apply zke
 unfold zfm
 obtain⟨⟨v,r,o,c,n,s⟩,qb,ql,w⟩:=H
 have c2:zah h ⟨b,2,none⟩=some (.bool d.closed):=zab r
 simp only[go_sem,c2]
 refine zaH r (by simp) rfl fun h3 r3 u3=>?_
 try simp only[go_sem]
 exact⟨trivial,⟨⟨v,r3,o.fr u3.fr fun k hk he=>n (he▸hk),c,n,s⟩,qb,fun c hc=>by rw[u3.1];exact ql c hc,⟨w.r1,w.r2,w.l⟩⟩,u3.fr.mono fun k _ hk=>hk▸qb⟩
end
end
end Go.Proofs.YtcoimlclclnlkaaGreatDoor
namespace Go.Proofs.YtcoimlclclnlkaaGreatDoor
open Go Go.Crisp
attribute [local irreducible] FCall rowK newK stK iteK vK qK drawK gK joinK loopK mkK appK cpyK zoB zmd bsK clK zh1 zgb newmK
open _root_.Go.Proofs.Tryz
section
structure WE where
 bf:Nat
 vf:Value
 bt:Nat
 vt:Value
 p:Value
 q:Value
 m:Pic
 s:Stg
structure WE.Ok (E:WE):Prop where
 m:E.m.Wf
 s:StgOk E.s
abbrev WE.d (E:WE)(t:TileD):JobD:=⟨E.m,E.s,t⟩
def zdG (Z B:Nat→Prop)(h:Heap)(E:Option WE)(n:Pic)(jv:Value):Option (TileD×Int×Int)→Prop
 |none=>jv=.pointer none
 |some (t,y,e)=>∃E',E=some E'∧E'.Ok∧wnewC E'.m n E'.s t=0∧∃bj rv,jv=ptr bj∧JobSt Z B h bj E'.bf E'.vf E'.bt E'.vt E'.p E'.q rv (E'.d t) y e n (roomN (mostL E'.s.y.lines)) (zcI (t.w*E'.m.c))
def outB (E:Option WE):Nat→Prop:=match E with|none=>fun _=>False|some E=>blk E.vt
def outV (E:Option WE)(b:Nat):Prop:=match E with|none=>True|some E=>b≠E.bt
theorem zdG.one {Z B:Nat→Prop}{h:Heap}{E:Option WE}{n:Pic}{jv:Value}{jo:Option (TileD×Int×Int)}(H:zdG Z B h E n jv jo):zam jv=true:=by
 cases jo with
 |none=>rw[show jv=_ from H];rfl
 |some x=>obtain⟨t,y,e⟩:=x;obtain⟨_,_,_,_,bj,rv,rfl,_⟩:=H;rfl
def OutAt (h:Heap)(E:Option WE)(n:Pic):Prop:=∀E',E=some E'→IsImg h E'.bt E'.vt n∧n.Wf
theorem zdG.other {Z B Q:Nat→Prop}{h h':Heap}{E:Option WE}{n n':Pic}{jv:Value}{jo:Option (TileD×Int×Int)}(H:zdG Z B h E n jv jo)(f:Fr Q h h')(qz:∀c,Z c→¬Q c)(qb:∀c,B c→¬Q c)(I:OutAt h' E n')(D:zbe n n'):zdG Z B h' E n' jv jo:=by
 cases jo with
 |none=>exact H
 |some x=>
  obtain⟨t,y,e⟩:=x
  obtain⟨E',rfl,ok,hc,bj,rv,rfl,S⟩:=H
  obtain⟨I1,I2⟩:=I E' rfl
  exact⟨E',rfl,ok,D.newC hc,bj,rv,rfl,S.other f qz qb I1 (job_out I2 (D.newC hc))⟩
structure WD where
 state:Int
 tiles:List Int
 job:Option (TileD×Int×Int)
 words:Int
def zh4 (E:Option WE)(jo:Option (TileD×Int×Int)):Prop:=match jo,E with|some (t,y,e),some E=>stepK (E.d t) y e≠0|_,_=>False
structure IsW (Z B:Nat→Prop)(h:Heap)(bw:Nat)(E:Option WE)(n:Pic)(w:WD):Prop where
 at_:∃tv jv Bj,h[bw]? =some (.cells #[.int .i64 w.state,tv,jv,.int .i64 w.words] 175 (0,0))∧Own 1 h tv w.tiles.length (w.tiles.map fun n=>Value.int .i64 n)∧zdG Z Bj h E n jv w.job∧
  (∀c,blk tv c→B c∧¬Bj c∧c≠bw)∧(∀c,Bj c→B c)∧¬Bj bw
 bw0:B bw
 bl:∀c,B c→c<h.size
 bz:∀c,B c→¬Z c∧outV E c∧¬outB E c
 zl:∀c,Z c→c<h.size
 out:OutAt h E n
 st:(w.state=1∧zh4 E w.job∧w.tiles≠[])∨((w.state=0∨w.state=2)∧w.job=none)
theorem IsW.other {Z B Q:Nat→Prop}{h h':Heap}{bw:Nat}{E:Option WE}{n n':Pic}{w:WD}(H:IsW Z B h bw E n w)(f:Fr Q h h')(qz:∀c,Z c→¬Q c)(qb:∀c,B c→¬Q c)(I:OutAt h' E n')(D:zbe n n'):IsW Z B h' bw E n' w:=by
 obtain⟨⟨tv,jv,Bj,r,o,J,a1,a2,a3⟩,b1,b2,b3,bz,b4,b5⟩:=H
 exact⟨⟨tv,jv,Bj,f.row r (qb _ b1),o.fr f fun c hc=>qb c (a1 c hc).1,J.other f qz (fun c hc=>qb c (a2 c hc)) I D,a1,a2,a3⟩,b1,fun c hc=>Nat.lt_of_lt_of_le (b2 c hc) f.1,b3,fun c hc=>Nat.lt_of_lt_of_le (bz c hc) f.1,I,b5⟩
theorem IsW.ext {Z B:Nat→Prop}{h h':Heap}{bw:Nat}{E:Option WE}{n:Pic}{w:WD}(H:IsW Z B h bw E n w)(e:Ext h h'):IsW Z B h' bw E n w:=
 H.other (Q:=fun _=>False) e.fr (fun _ _ h=>h) (fun _ _ h=>h) (fun E' hE=>⟨(H.out E' hE).1.ext e,(H.out E' hE).2⟩) (zbe.refl n)
section
variable {Z B:Nat→Prop}{h:Heap}{bw:Nat}{E:Option WE}{n:Pic}{w:WD}
theorem zpP {h:Heap}:FCall prog zeX #[] h fun r h'=>∃b,r=ptr b∧h'[b]? =some (.cells #[.int .i64 0,.slice none 0 0,.pointer none,.int .i64 0] 175 (0,0))∧Ext h h'∧h.size≤b:=by
 apply zrR
 unfold zlx
 have hf:fillL #[(.int .i64 0),(.slice none 0 0),(.pointer none),(.int .i64 0)] []=some #[.int .i64 0,.slice none 0 0,.pointer none,.int .i64 0]:=rfl
 simp only[go_sem,hf,zaA]
 refine zag fun b h1 r1 e1 n1=>?_
 exact⟨b,rfl,r1,e1,n1⟩
theorem IsW.new {h:Heap}{b:Nat}(r:h[b]? =some (.cells #[.int .i64 0,.slice none 0 0,.pointer none,.int .i64 0] 175 (0,0)))(hz:¬Z b)(h1:outV E b)(h2:¬outB E b)(zl:∀c,Z c→c<h.size)(I:OutAt h E n):IsW Z (fun c=>c=b) h b E n ⟨0,[],none,0⟩:=
 ⟨⟨_,_,fun _=>False,r,.inl ⟨rfl,rfl,rfl⟩,rfl,fun c hc=>hc.elim,fun c hc=>hc.elim,id⟩,rfl,fun c hc=>by rw[hc];exact zaz r,fun c hc=>by rw[hc];exact⟨hz,h1,h2⟩,zl,I,.inr ⟨.inl rfl,rfl⟩⟩
theorem c_State (H:IsW Z B h bw E n w):FCall prog zcY #[ptr bw] h fun r h'=>r=.int .i64 w.state∧h'=h:=by
 apply ziP
 unfold zd5
 obtain⟨⟨tv,jv,Bj,r,_⟩,_⟩:=H
 have c0:zah h ⟨bw,0,none⟩=some (.int .i64 w.state):=zab r
 simp only[go_sem,c0]
 exact⟨trivial,trivial⟩
theorem zny {Q:Nat→Prop}{bq:Nat}{d:QD}(H:IsW Z B h bw E n w)(HQ:IsQ Q h bq d):FCall prog za2 #[ptr bw,ptr bq] h fun r h'=>r=.bool (decide (w.state=1∨(w.state=0∧recvR d≠1)))∧h'=h:=by
 apply zg8
 unfold zdk
 have hst:=H.st
 obtain⟨⟨tv,jv,Bj,r,_⟩,_⟩:=H
 have c0:zah h ⟨bw,0,none⟩=some (.int .i64 w.state):=zab r
 simp only[go_sem,c0]
 refine zac (fun g=>?_) (fun g=>?_)
 ·refine FCall.at (c_CanReceive HQ) ?_
  refine⟨?_,rfl⟩
  congr 1
  rw[decide_eq_decide]
  constructor
  ·exact fun hh=>.inr ⟨g,hh⟩
  ·rintro(hh|hh)
   ·omega
   ·exact hh.2
 ·refine zac (fun g1=>?_) (fun g1=>?_)
  ·exact⟨by rw[decide_eq_true (.inl g1)],trivial⟩
  ·exact⟨by rw[decide_eq_false];omega,trivial⟩
def zaM (E:Option WE)(jo:Option (TileD×Int×Int)):Option (TileD×Int×Int):=match jo,E with|some (t,y,e),some E=>if stepK (E.d t) y e=0 then none else some (t,y,e)|_,_=>none
theorem zoZ (E:Option WE)(jo:Option (TileD×Int×Int)):(zaM E jo≠none∧zh4 E (zaM E jo)∧zaM E jo=jo)∨zaM E jo=none:=by
 unfold zaM zh4
 cases jo with
 |none=>exact .inr rfl
 | some x=>
  obtain⟨t,y,e⟩:=x
  cases E with
  |none=>exact .inr rfl
  |some E=>
   dsimp only
   by_cases hk:stepK (E.d t) y e=0
   ·rw[if_pos hk];exact .inr rfl
   ·rw[if_neg hk];exact .inl ⟨by simp,hk,rfl⟩
end
end
section
theorem OutAt.fr {Q:Nat→Prop}{h h':Heap}{E:Option WE}{n:Pic}(I:OutAt h E n)(f:Fr Q h h')(hq:∀c,Q c→c<h.size→outV E c∧¬outB E c):OutAt h' E n:=fun E' hE=>by
 subst hE
 have I1:=(I E' rfl).1
 exact⟨I1.fr f (fun hc=>(hq _ hc I1.lt).1 rfl) (fun c hv hc=>(hq c hc (I1.ltv hv)).2 hv),(I E' rfl).2⟩
theorem OutAt.ext {h h':Heap}{E:Option WE}{n:Pic}(I:OutAt h E n)(e:Ext h h'):OutAt h' E n:=I.fr (Q:=fun _=>False) e.fr fun _ h=>h.elim
theorem OutAt.new {h:Heap}{E:Option WE}{n:Pic}(I:OutAt h E n){c:Nat}(hc:h.size≤c):outV E c∧¬outB E c:=by
 cases E with
 |none=>exact⟨trivial,id⟩
 |some E=>exact⟨fun he=>by have:=(I E rfl).1.lt;rw[he]at hc;omega,fun hv=>by have:=(I E rfl).1.ltv hv;omega⟩
def stJ:Option (TileD×Int×Int)→Int
 |none=>0
 |some _=>1
theorem zdG.upd {Z B:Nat→Prop}{h h':Heap}{bw:Nat}{E:Option WE}{n:Pic}{jv:Value}{jo:Option (TileD×Int×Int)}(H:zdG Z B h E n jv jo)(u:Upd bw h h')(hz:¬Z bw)(hb:¬B bw)(h1:outV E bw)(h2:¬outB E bw)(I:OutAt h E n):zdG Z B h' E n jv jo:=
 H.other u.fr (fun c hc he=>hz (he▸hc)) (fun c hc he=>hb (he▸hc)) (I.fr u.fr fun c hc _=>by rw[show c=bw from hc];exact⟨h1,h2⟩) (zbe.refl n)
section
variable {Z B:Nat→Prop}{h:Heap}{bw:Nat}{E:Option WE}{n:Pic}{w:WD}
theorem c_settle {Bj:Nat→Prop}{st wd:Int}{tv jv:Value}{jo:Option (TileD×Int×Int)}(r:h[bw]? =some (.cells #[.int .i64 st,tv,jv,.int .i64 wd] 175 (0,0)))(J:zdG Z Bj h E n jv jo)(hz:¬Z bw)(hb:¬Bj bw)(ho1:outV E bw)(ho2:¬outB E bw)(I:OutAt h E n):
  FCall prog zaU #[ptr bw] h fun r h'=>∃jv',h'[bw]? =some (.cells #[.int .i64 (stJ (zaM E jo)),tv,jv',.int .i64 wd] 175 (0,0))∧zdG Z Bj h' E n jv' (zaM E jo)∧Fr (fun c=>c=bw) h h':=by
 apply zhX
 unfold zdM
 simp only[go_sem]
 refine zaH r (by simp) rfl fun h1 r1 u1=>?_
 have r1:h1[bw]? =some (.cells #[.int .i64 1,tv,jv,.int .i64 wd] 175 (0,0)):=r1
 have J1:=J.upd u1 hz hb ho1 ho2 I
 have I1:=I.fr u1.fr fun c hc _=>by rw[show c=bw from hc];exact⟨ho1,ho2⟩
 have c2:zah h1 ⟨bw,2,none⟩=some jv:=zab r1
 simp only[go_sem,Nat.zero_add,c2]
 -- it goes
 have gone:∀{h2:Heap},Ext h1 h2→zaM E jo=none→stK 1 (.pointer (some ⟨bw,0,none⟩)) (.int .i64 0) h2 fun v20 h21=>stK 1 (.pointer (some ⟨bw,2,none⟩)) (.pointer none) h21 fun _ h'=>∃jv',h'[bw]? =some (.cells #[.int .i64 (stJ (zaM E jo)),tv,jv',.int .i64 wd] 175 (0,0))∧zdG Z Bj h' E n jv' (zaM E jo)∧Fr (fun c=>c=bw) h h':=by
  intro h2 e2 hs
  refine zaH (e2.row r1) (by simp) rfl fun h3 r3 u3=>?_
  refine zaH r3 (by simp) rfl fun h4 r4 u4=>?_
  rw[hs]
  exact⟨_,r4,rfl,((u1.fr.ext_r e2).trans u3.fr).trans u4.fr⟩
 cases jo with
 |none=>
  have hj:jv=.pointer none:=J
  subst hj
  simp only[go_sem,c2,nil_en]
  exact gone (Ext.refl _) rfl
 | some x=>
  obtain⟨t,y,e⟩:=x
  obtain⟨E',rfl,ok,hc,bj,rv,rfl,S⟩:=J1
  simp only[go_sem,c2,ptr_en]
  refine FCall.to (zrl S (job_wf ok.m ok.s.wf hc)) fun h2 e2=>?_
  have hp:partV false 1 0 (moveV (stepK (E'.d t) y e) (stepJ (E'.d t) y e))=some (.int .i64 (stepK (E'.d t) y e)):=rfl
  simp only[go_sem,hp]
  refine zac (fun hk=>?_) (fun hk=>?_)
  ·exact gone e2 (if_pos hk)
  ·have hs:zaM (some E') (some (t,y,e))=some (t,y,e):=if_neg hk
   rw[hs]
   exact⟨_,e2.row r1,⟨E',rfl,ok,hc,bj,rv,rfl,S.ext e2⟩,u1.fr.ext_r e2⟩
def wordsJ (E:Option WE)(jo:Option (TileD×Int×Int))(k:Int):Int:=match jo,E with|some (t,_,_),some E=>max k ((roomN (mostL E.s.y.lines):Int)*(zcI (t.w*E.m.c):Int))|_,_=>k
def tookW (E:Option WE)(w:WD)(x:Int)(jo:Option (TileD×Int×Int)):WD:=⟨stJ (zaM E jo),w.tiles++[x],zaM E jo,wordsJ E jo w.words⟩
def Opens (Z:Nat→Prop)(E:Option WE)(n:Pic)(ov:Value)(x:Int)(jo:Option (TileD×Int×Int))(Qo M:Nat→Prop)(P0 P1:Heap→Prop)(h:Heap):Prop:=
 (ov=.nilFunc∧jo=none∧∀g,P0 g→P1 g)∨(binV .f .neq ov .nilFunc=some (.bool true)∧∀h1,Fr M h h1→P0 h1→clK prog ov #[.int .i64 x] h1 fun r h2=>∃Bj,(∀c,Bj c→h1.size≤c∧c<h2.size)∧zdG Z Bj h2 E n r jo∧Fr Qo h1 h2∧P1 h2)
abbrev eventV (k t mk mr:Int):Value:=.agg #[.int .i64 k,.int .i64 t,.int .i64 mk,.int .i64 mr]
theorem clK_mono {v:Value}{args:Array Value}{h:Heap}{K K':Value→Heap→Prop}(H:clK prog v args h K)(k:∀r h',K r h'→K' r h'):clK prog v args h K':=by
 unfold clK at H ⊢
 split at H
 ·exact H.mono k
 ·exact H.elim
theorem zkV {E:Option WE}{jo:Option (TileD×Int×Int)}:(stJ (zaM E jo)=1∧zh4 E (zaM E jo))∨((stJ (zaM E jo)=0∨stJ (zaM E jo)=2)∧zaM E jo=none):=by
 rcases zoZ E jo with⟨h1,h2,h3⟩|h
 ·left
  refine⟨?_,h2⟩
  revert h1
  cases zaM E jo with
  |none=>exact fun h=>absurd rfl h
  |some x=>exact fun _=>rfl
 ·rw[h];exact .inr ⟨.inl rfl,rfl⟩
theorem c_take {x:Int}{ov:Value}{jo:Option (TileD×Int×Int)}{Qo:Nat→Prop}{P0 P1:Heap→Prop}(H:IsW Z B h bw E n w)(hw:w.state=0)(ht:w.tiles.length≤1000000)(HO:Opens Z E n ov x jo Qo B P0 P1 h)
  (qo:∀c,Qo c→c<h.size∧¬B c∧¬Z c∧outV E c∧¬outB E c) (hP:∀g g',Fr (fun c=>B c∨h.size≤c) g g'→(P0 g→P0 g')∧(P1 g→P1 g')) (p0:P0 h):
  FCall prog zdf #[ptr bw,.int .i64 x,ov] h fun r h'=>r=eventV 1 x 0 0∧IsW Z (Grow B h h') h' bw E n (tookW E w x jo)∧Fr (fun c=>B c∨Qo c) h h'∧P1 h':=by
 apply zjl
 unfold zeK
 have H0:=H
 obtain⟨⟨tv,jv,Bj,r,o,J,a1,a2,a3⟩,w0,bl,bz,zl,I,st⟩:=H
 have hjn:w.job=none:=by
  rcases st with h|h
  ·omega
  ·exact h.2
 rw[hjn]at J
 have hj:jv=.pointer none:=J
 subst hj
 refine zag fun b1 h1 r1 e1 n1=>?_
 have c1:zah h1 ⟨bw,1,none⟩=some tv:=zab (e1.row r)
 simp only[go_sem,Nat.zero_add,c1]
 refine zbn (Rp.fill_one rfl) fun b2 h2 r2 e2 n2=>?_
 have E2:=e1.trans e2
 refine zj1 (m:=1) (o.fr (M:=fun _=>False) E2.fr fun _ _=>id) (Rp.SlC.single (cs:=[.int .i64 x]) r2) (zad rfl zaq) rfl (by omega) (by omega) fun v3 h3 o3 f3 n3=>?_
 have hbw:=zaz r
 have hs2:=E2.1
 have hs3:=f3.1
 have r3:=f3.row (E2.row r) fun hc=>(a1 _ hc).2.2 rfl
 have hv3:∀c,blk v3 c→(B c∧c≠bw)∨h.size≤c:=fun c hc=>(n3 c hc).imp (fun h=>⟨(a1 c h).1,(a1 c h).2.2⟩) fun h=>by omega
 have hv3w:¬blk v3 bw:=fun hc=>(hv3 _ hc).elim (fun h=>h.2 rfl) fun h=>by omega
 try simp only[go_sem]
 refine zaH r3 (by simp) o3.sl.isSl_one fun h4 r4 u4=>?_
 have r4:h4[bw]? =some (.cells #[.int .i64 w.state,v3,.pointer none,.int .i64 w.words] 175 (0,0)):=r4
 have o4:=o3.fr u4.fr fun c hc he=>hv3w (he▸hc)
 have hs4:=u4.1
 have F4:Fr B h h4:=(E2.fr.after f3 fun c _ hc=>(a1 c hc).1).after u4.fr fun c _ hc=>hc▸w0
 have I4:OutAt h4 E n:=I.fr F4 fun c hc _=>(bz c hc).2
 have hq4:P0 h4:=(hP h h4 (F4.mono fun c _ hc=>.inl hc)).1 p0
 have hs1:=e1.1
 have hs21:=e2.1
 have lb1:=zaz r1
 have nb1:h.size≤b1:=n1
 have e4:h4[b1]? =some (.cells #[.int .i64 0,.int .i64 0,.int .i64 0,.int .i64 0] 99 (0,0)):=u4.row (by omega) (f3.row (e2.row r1) fun hc=>by have:=bl _ (a1 _ hc).1;omega)
 -- with a job, or with none
 refine zar (fun xs h5=>∃jv Bj,h5[bw]? =some (.cells #[.int .i64 w.state,v3,jv,.int .i64 w.words] 175 (0,0))∧zdG Z Bj h5 E n jv jo∧(∀c,Bj c→h4.size≤c)∧(∀c,Bj c→c<h5.size)∧Fr (fun c=>B c∨Qo c) h h5∧h4.size≤h5.size∧Own 1 h5 v3 (w.tiles.length+1) (w.tiles.map (fun n=>Value.int .i64 n)++[.int .i64 x])∧P1 h5∧h5[b1]? =some (.cells #[.int .i64 0,.int .i64 0,.int .i64 0,.int .i64 0] 99 (0,0))) ?_ ?_
 ·rcases HO with⟨rfl,rfl,hp⟩|⟨hov,hop⟩
  ·have e0:binV .f .neq Value.nilFunc Value.nilFunc=some (.bool false):=rfl
   simp only[go_sem,e0]
   exact⟨_,fun _=>False,r4,rfl,fun c hc=>hc.elim,fun c hc=>hc.elim,F4.mono fun c _ hc=>.inl hc,Nat.le_refl _,o4,hp _ hq4,e4⟩
  ·simp only[go_sem,hov]
   refine clK_mono (hop h4 F4 hq4) fun v5 h5 ⟨Bj,k1,k2,k3,k4⟩=>?_
   have r5:=k3.row r4 fun hc=>(qo _ hc).2.1 w0
   have o5:=o4.fr k3 fun c hc hq=>(hv3 c hc).elim (fun h=>(qo c hq).2.1 h.1) fun h=>by have:=(qo c hq).1;omega
   have hs5:=k3.1
   try simp only[go_sem]
   refine zaH r5 (by simp) k2.one fun h6 r6 u6=>?_
   have hs6:=u6.1
   have hbj:¬Bj bw:=fun hc=>by have:=(k1 _ hc).1;omega
   have I5:OutAt h5 E n:=I4.fr k3 fun c hc _=>(qo c hc).2.2.2
   refine⟨v5,Bj,r6,k2.upd u6 (bz _ w0).1 hbj (bz _ w0).2.1 (bz _ w0).2.2 I5,fun c hc=>(k1 c hc).1,fun c hc=>by rw[hs6];exact(k1 c hc).2,?_,by omega,o5.fr u6.fr fun c hc he=>hv3w (he▸hc),?_⟩
   ·exact((F4.mono fun c _ hc=>.inl hc).after k3 fun c _ hc=>.inr hc).after u6.fr fun c _ hc=>.inl (hc▸w0)
   ·exact⟨(hP h5 h6 (u6.fr.mono fun c _ hc=>.inl (hc▸w0))).2 k4,u6.row (by omega) (k3.row e4 fun hc=>by have:=(qo _ hc).1;omega)⟩
 ·rintro xs ρ h5 ⟨jv,Bj,r5,J5,k1,k2,F5,hs5,o5,p5,e5⟩
  have hbj:¬Bj bw:=fun hc=>by have:=k1 _ hc;omega
  have I5:OutAt h5 E n:=I.fr F5 fun c hc _=>hc.elim (fun h=>(bz c h).2) fun h=>(qo c h).2.2.2
  have c2:zah h5 ⟨bw,2,none⟩=some jv:=zab r5
  have c3:zah h5 ⟨bw,3,none⟩=some (.int .i64 w.words):=zab r5
  -- the end: settled, and told
  have fin:∀{h6:Heap},h6[bw]? =some (.cells #[.int .i64 w.state,v3,jv,.int .i64 (wordsJ E jo w.words)] 175 (0,0))→zdG Z Bj h6 E n jv jo→Fr (fun c=>B c∨Qo c) h h6→h5.size≤h6.size→OutAt h6 E n→P1 h6→
    Own 1 h6 v3 (w.tiles.length+1) (w.tiles.map (fun n=>Value.int .i64 n)++[.int .i64 x])→h6[b1]? =some (.cells #[.int .i64 0,.int .i64 0,.int .i64 0,.int .i64 0] 99 (0,0))→
    FCall prog zaU #[ptr bw] h6 fun v48 h49=>vK ((fillL #[(.int .i64 0),(.int .i64 0),(.int .i64 0),(.int .i64 0)] [(0,1,(.int .i64 1)),(1,1,.int .i64 x)]).map .agg) fun v50=>stK 4 (ptr b1) v50 h49 fun v51 h52=>vK (ldsV 4 h52 (ptr b1)) fun v53=>
     v53=eventV 1 x 0 0∧IsW Z (Grow B h h52) h52 bw E n (tookW E w x jo)∧Fr (fun c=>B c∨Qo c) h h52∧P1 h52:=by
   intro h6 r6 J6 F6 hs6 I6 p6 o6 e6
   refine(c_settle r6 J6 (bz _ w0).1 hbj (bz _ w0).2.1 (bz _ w0).2.2 I6).mono fun _ h7 ⟨jv',r7,J7,f7⟩=>?_
   have hf:∀z:Int,fillL #[(.int .i64 0),(.int .i64 0),(.int .i64 0),(.int .i64 0)] [(0,1,.int .i64 1),(1,1,.int .i64 z)]=some #[.int .i64 1,.int .i64 z,.int .i64 0,.int .i64 0]:=fun _=>rfl
   have hs7:=f7.1
   simp only[go_sem,hf,zaA]
   refine zbA (l:=[.int .i64 1,.int .i64 x,.int .i64 0,.int .i64 0]) (f7.row e6 fun hc=>by omega) rfl (zad rfl (zad rfl (zad rfl (zad rfl zaq)))) rfl fun h8 r8 u8=>?_
   rw[zap (l:=[.int .i64 1,.int .i64 x,.int .i64 0,.int .i64 0]) r8 4 rfl,zaa]
   have hs8:=u8.1
   have I7:OutAt h7 E n:=I6.fr f7 fun c hc _=>by rw[show c=bw from hc];exact(bz _ w0).2
   have F7:Fr (fun c=>B c∨Qo c) h h7:=F6.after f7 fun c _ hc=>.inl (hc▸w0)
   have F8:Fr (fun c=>B c∨Qo c) h h8:=F7.upd_new u8 nb1
   have ob1:=I.new nb1
   have zb1:¬Z b1:=fun hz=>by have:=zl _ hz;omega
   have hbb:¬Bj b1:=fun hc=>by have:=k1 _ hc;omega
   have o8:=(o6.fr f7 fun c hc he=>hv3w (he▸hc)).fr u8.fr fun c hc he=>by
    have he:c=b1:=he
    rcases n3 c hc with h9|h9
    ·have:=bl _ (a1 c h9).1;omega
    ·omega
   have ho:OutAt h8 E n:=I7.fr u8.fr fun c hc _=>by rw[show c=b1 from hc];exact ob1
   refine⟨rfl,⟨⟨v3,jv',Bj,u8.row (by omega) r7,?_,J7.upd u8 zb1 hbb ob1.1 ob1.2 I7,fun c hc=>⟨?_,fun hj=>?_,fun he=>hv3w (he▸hc)⟩,fun c hc=>.inr ⟨?_,?_⟩,hbj⟩,.inl w0,zsJ bl (by omega),fun c hc=>?_,fun c hc=>Nat.lt_of_lt_of_le (zl c hc) F8.1,ho,?_⟩,F8,?_⟩
   ·show Own 1 h8 v3 (w.tiles++[x]).length ((w.tiles++[x]).map fun n=>Value.int .i64 n)
    rw[List.length_append,List.map_append]
    exact o8
   ·rcases hv3 c hc with h9|h9
    ·exact .inl h9.1
    ·exact .inr ⟨h9,o8.lt hc⟩
   ·have:=k1 c hj
    rcases n3 c hc with h9|h9
    ·have:=bl _ (a1 c h9).1;omega
    ·have:=o3.lt hc;omega
   ·have:=k1 c hc;omega
   ·have:=k2 c hc;omega
   ·rcases hc with h9|h9
    ·exact bz c h9
    ·exact⟨fun hz=>by have:=zl c hz;omega,I.new h9.1⟩
   ·rcases zkV (E:=E) (jo:=jo)with⟨h9,h10⟩|h9
    ·exact .inl ⟨h9,h10,by simp[tookW]⟩
    ·exact .inr h9
   ·exact(hP h7 h8 (u8.fr.mono fun c _ hc=>.inr (by have hc:c=b1:=hc;omega))).2 ((hP h6 h7 (f7.mono fun c _ hc=>.inl (hc▸w0))).2 p6)
  cases jo with
  |none=>
   have hj:jv=.pointer none:=J5
   subst hj
   simp only[go_sem,c2,nil_nn]
   exact fin r5 rfl F5 (Nat.le_refl _) I5 p5 o5 e5
  | some y=>
   obtain⟨t,yy,e⟩:=y
   have J5':=J5
   obtain⟨E',rfl,ok,hc,bj,rv,rfl,S⟩:=J5
   simp only[go_sem,c2,ptr_nn]
   refine zaj (fun g=>g=h5) rfl ?_
   refine zae (.int .i64 w.words) (fun g e=>by rw[e];exact c3) ?_
   try simp only[go_sem]
   refine zae (ptr bj) (fun g e=>by rw[e];exact c2) ?_
   refine FCall.at (zrk S) ⟨rfl,?_⟩
   refine zae (.int .i64 (max w.words ((roomN (mostL E'.s.y.lines):Int)*(zcI (t.w*E'.m.c):Int)))) (fun _ _=>zsu _ _ _) ?_
   try simp only[go_sem]
   refine zaH r5 (by simp) rfl fun h6 r6 u6=>?_
   exact fin r6 (J5'.upd u6 (bz _ w0).1 hbj (bz _ w0).2.1 (bz _ w0).2.2 I5) (F5.after u6.fr fun c _ hc=>.inl (hc▸w0)) (by rw[u6.1];exact Nat.le_refl _) (I5.fr u6.fr fun c hc _=>by rw[show c=bw from hc];exact(bz _ w0).2) ((hP h5 h6 (u6.fr.mono fun c _ hc=>.inl (hc▸w0))).2 p5)
    (o5.fr u6.fr fun c hc he=>hv3w (he▸hc)) (u6.row (by omega) e5)
abbrev EvD:=Int×Int×Int×Int
abbrev evV (e:EvD):Value:=eventV e.1 e.2.1 e.2.2.1 e.2.2.2
def stepW (E:Option WE)(jo:Option (TileD×Int×Int))(w:WD)(d:QD):WD×QD×EvD:=
 if w.state=1 then
  match w.job,E with
  |some (t,y,e),some E'=>
   let j:=zaM E (some (t,stepY (E'.d t) y e,stepE (E'.d t) y e))
   (⟨stJ j,w.tiles,j,w.words⟩,d,(2,w.tiles.getLast?.getD 0,stepK (E'.d t) y e,stepJ (E'.d t) y e))
  |_,_=>(w,d,(0,0,0,0))
 else if w.state=2 then(w,d,(0,0,0,0))
 else if recvR d=0 then(tookW E w (recvX d) jo,recvQ d,(1,recvX d,0,0))
 else if recvR d=2 then({w with state:=2},recvQ d,(3,0,0,0))
 else(w,recvQ d,(0,0,0,0))
def takes (w:WD)(d:QD):Prop:=w.state=0∧recvR d=0
def Drew (E:Option WE)(w:WD)(n n':Pic):Prop:=
 zbe n n'∧match w.job,E with
  |some (t,y,e),some E=>OutOk (E.d t) n∧OutOk (E.d t) n'∧(stepK (E.d t) y e≠2→n'=n)∧(stepK (E.d t) y e=2→∀x' y' c',inP n x' y' c'→atP n' x' y' c'=if wrote (E.d t) y (zcI (t.w*E.m.c)) x' y' c' then pixZ E.m E.s x' y' c' else atP n x' y' c')
  |_,_=>n'=n
theorem Drew.same {E:Option WE}{w:WD}{n:Pic}(h:w.job=none):Drew E w n n:=⟨zbe.refl n,by rw[h]⟩
structure Stepped (Z B Q Qo:Nat→Prop)(h h':Heap)(bw bq:Nat)(E:Option WE)(n:Pic)(w w':WD)(d':QD):Prop where
 ex:∃n' B' Q',IsW Z B' h' bw E n' w'∧IsQ Q' h' bq d'∧(∀c,B' c→B c∨h.size≤c)∧(∀c,Q' c→Q c∨h.size≤c)∧(∀c,B' c→¬Q' c)∧Drew E w n n'
 fr:Fr (fun c=>outB E c∨B c∨Q c∨Qo c) h h'
theorem c_wStep {Q:Nat→Prop}{bq:Nat}{d:QD}{ov:Value}{jo:Option (TileD×Int×Int)}{Qo:Nat→Prop}{P0 P1:Heap→Prop}(H:IsW Z B h bw E n w)(HQ:IsQ Q h bq d)(ht:w.tiles.length≤1000000)
  (HO:takes w d→Opens Z E n ov (recvX d) jo Qo (fun c=>B c∨Q c) P0 P1 h) (bq':∀c,B c→¬Q c) (qz:∀c,Q c→¬Z c∧outV E c∧¬outB E c) (qo:∀c,Qo c→c<h.size∧¬B c∧¬Q c∧¬Z c∧outV E c∧¬outB E c)
  (hP:∀g g',Fr (fun c=>outB E c∨B c∨Q c∨h.size≤c) g g'→(P0 g→P0 g')∧(P1 g→P1 g')) (p0:P0 h):
  FCall prog zaD #[ptr bw,ptr bq,ov] h fun r h'=>r=evV (stepW E jo w d).2.2∧Stepped Z B Q Qo h h' bw bq E n w (stepW E jo w d).1 (stepW E jo w d).2.1∧(takes w d→P1 h')∧(¬takes w d→P0 h'):=by
 apply zjm
 unfold zeL
 have H0:=H
 obtain⟨⟨tv,jv,Bj,r,o,J,a1,a2,a3⟩,w0,bl,bz,zl,I,st⟩:=H
 refine zag fun b1 h1 r1 e1 n1=>?_
 have hs1:=e1.1
 have lb1:=zaz r1
 have nb1:h.size≤b1:=n1
 have lbw:=zaz r
 have r':=e1.row r
 have H1:=H0.ext e1
 have HQ1:=HQ.ext e1
 have I1:=I.ext e1
 have ob1:=I.new nb1
 have hQb:∀c,Q c→c<h.size:=HQ.ql
 have c0:zah h1 ⟨bw,0,none⟩=some (.int .i64 w.state):=zab r'
 simp only[go_sem,Nat.zero_add,c0]
 have tell:∀{h2:Heap} {ev:EvD} {w':WD} {d':QD} {n':Pic} {B' Q':Nat→Prop},h2[b1]? =some (.cells #[.int .i64 0,.int .i64 0,.int .i64 0,.int .i64 0] 99 (0,0))→Fr (fun c=>outB E c∨B c∨Q c∨Qo c) h h2→IsW Z B' h2 bw E n' w'→IsQ Q' h2 bq d'→(∀c,B' c→(B c∨h.size≤c)∧c≠b1)→(∀c,Q' c→(Q c∨h.size≤c)∧c≠b1)→(∀c,B' c→¬Q' c)→Drew E w n n'→
   (takes w d→P1 h2)→(¬takes w d→P0 h2)→stepW E jo w d=(w',d',ev)→
   stK 4 (ptr b1) (evV ev) h2 fun _ h3=>vK (ldsV 4 h3 (ptr b1)) fun v=>v=evV (stepW E jo w d).2.2∧Stepped Z B Q Qo h h3 bw bq E n w (stepW E jo w d).1 (stepW E jo w d).2.1∧(takes w d→P1 h3)∧(¬takes w d→P0 h3):=by
  intro h2 ev w' d' n' B' Q' e2 F2 W2 Q2 k1 k2 k3 D p1 p0 he
  refine zbA (l:=[.int .i64 ev.1,.int .i64 ev.2.1,.int .i64 ev.2.2.1,.int .i64 ev.2.2.2]) e2 rfl (zad rfl (zad rfl (zad rfl (zad rfl zaq)))) rfl fun h3 r3 u3=>?_
  rw[zap (l:=[.int .i64 ev.1,.int .i64 ev.2.1,.int .i64 ev.2.2.1,.int .i64 ev.2.2.2]) r3 4 rfl,zaa,he]
  have zb1:∀c,Z c→¬c=b1:=fun c hz he=>by have:=zl _ hz;omega
  have hp:=hP h2 h3 (u3.fr.mono fun c _ hc=>.inr (.inr (.inr (by have hc:c=b1:=hc;omega))))
  refine⟨rfl,⟨⟨n',B',Q',W2.other u3.fr zb1 (fun c hc=>(k1 c hc).2) (W2.out.fr u3.fr fun c hc _=>by rw[show c=b1 from hc];exact ob1) (zbe.refl n'),Q2.fr u3.fr fun c hc=>(k2 c hc).2,fun c hc=>(k1 c hc).1,fun c hc=>(k2 c hc).1,k3,D⟩,F2.upd_new u3 nb1⟩,fun h=>hp.2 (p1 h),fun h=>hp.1 (p0 h)⟩
 have fE:fillL #[(.int .i64 0),(.int .i64 0),(.int .i64 0),(.int .i64 0)] []=some #[.int .i64 0,.int .i64 0,.int .i64 0,.int .i64 0]:=rfl
 have fL:fillL #[(.int .i64 0),(.int .i64 0),(.int .i64 0),(.int .i64 0)] [(0,1,.int .i64 3)]=some #[.int .i64 3,.int .i64 0,.int .i64 0,.int .i64 0]:=rfl
 have hB1:∀c,B c→(B c∨h.size≤c)∧c≠b1:=fun c hc=>⟨.inl hc,fun he=>by have:=bl c hc;omega⟩
 have hQ1:∀c,Q c→(Q c∨h.size≤c)∧c≠b1:=fun c hc=>⟨.inl hc,fun he=>by have:=hQb c hc;omega⟩
 by_cases s1:w.state=1
 ·-- a job goes on
  have hnt:¬takes w d:=fun h=>by have:=h.1;omega
  obtain⟨hg,htl⟩:zh4 E w.job∧w.tiles≠[]:=by
   rcases st with h|h
   ·exact h.2
   ·have:=h.1;omega
  cases hjo:w.job with
  |none=>rw[hjo]at hg;exact hg.elim
  | some q=>
   obtain⟨t,y,e⟩:=q
   rw[hjo]at J hg
   obtain⟨E',rfl,ok,hc,bj,rv,rfl,S⟩:=J
   have hg:stepK (E'.d t) y e≠0:=hg
   have hds:=job_wf ok.m ok.s.wf hc
   have c2:zah h1 ⟨bw,2,none⟩=some (ptr bj):=zab r'
   simp only[go_sem,decide_eq_true s1,c2]
   refine(c_Step (S.ext e1) hds (ok.s.room ok.m hc)).mono fun rm h2 ⟨er,n',S2,f2,dr1,dr2⟩=>?_
   subst er
   have hs2:=f2.1
   refine zbh (cs:=[.int .i64 (stepK (E'.d t) y e),.int .i64 (stepJ (E'.d t) y e)]) rfl (zad rfl (zad rfl zaq)) rfl fun b3 h3 r3 e3 n3=>?_
   have S3:=S2.ext e3
   have hs3:=e3.1
   have OO:=S3.out
   have D:zbe n n':=⟨by rw[OO.w,S.out.w],by rw[OO.h,S.out.h],by rw[OO.c,S.out.c],by rw[OO.m,S.out.m]⟩
   have fq:∀c,(blk E'.vt c∨Bj c)→outB (some E') c∨B c:=fun c hc=>hc.imp id fun h=>a2 c h
   have nw:¬(blk E'.vt bw∨Bj bw):=fun hc=>hc.elim (bz _ w0).2.2 a3
   have r3w:=e3.row (f2.row r' nw)
   have I3:OutAt h3 (some E') n':=fun E2 hE=>by cases hE;exact⟨S3.img,OO.wf⟩
   have hb3:¬Grow Bj h1 h2 bw:=fun hc=>hc.elim a3 fun h=>by omega
   have J3:zdG Z (Grow Bj h1 h2) h3 (some E') n' (ptr bj) (some (t,stepY (E'.d t) y e,stepE (E'.d t) y e)):=⟨E',rfl,ok,D.newC hc,bj,rv,rfl,S3⟩
   refine(c_settle r3w J3 (bz _ w0).1 hb3 (bz _ w0).2.1 (bz _ w0).2.2 I3).mono fun _ h4 ⟨jv',r4,J4,f4⟩=>?_
   have hs4:=f4.1
   have I4:OutAt h4 (some E') n':=I3.fr f4 fun c hc _=>by rw[show c=bw from hc];exact(bz _ w0).2
   have hv2:∀c,blk tv c→¬(blk E'.vt c∨Bj c):=fun c hc h=>h.elim (bz c (a1 c hc).1).2.2 (a1 c hc).2.1
   have o4:=(((o.fr (M:=fun _=>False) e1.fr fun _ _=>id).fr f2 hv2).fr (M:=fun _=>False) e3.fr fun _ _=>id).fr f4 fun c hc he=>(a1 c hc).2.2 he
   have lb3:=zaz r3
   have b13:¬(blk E'.vt b1∨Bj b1):=fun hc=>hc.elim ob1.2 fun h=>by have:=bl _ (a2 _ h);omega
   have e4:=f4.row (e3.row (f2.row r1 b13)) fun hc=>by omega
   have r34:=f4.row r3 fun hc=>by omega
   have c1:zah h4 ⟨bw,1,none⟩=some tv:=zab r4
   obtain⟨a,cp,et⟩:=o4.isSl
   have el:zaf tv=some (.int .i64 (w.tiles.length:Int)):=by rw[et];rfl
   have hl1:0<w.tiles.length:=List.length_pos_iff.2 htl
   obtain⟨pp,p1,p2⟩:=(zqX (k:=.i64) (l:=w.tiles) o4).int_at (k':=.i64) (i:=w.tiles.length-1) (by omega)
   have p1:idxV 1 tv (.int .i64 ((w.tiles.length:Int)-1))=some pp:=by rw[show(w.tiles.length:Int)-1=((w.tiles.length-1:Nat):Int)by omega];exact p1
   refine zaj (fun g=>g=h4) rfl ?_
   try simp only[go_sem,Nat.zero_add]
   refine zae tv (fun g e=>by rw[e];exact c1) ?_
   try simp only[go_sem]
   refine zae tv (fun g e=>by rw[e];exact c1) ?_
   refine zae (.int .i64 (w.tiles.length:Int)) (fun _ _=>el) ?_
   simp only[go_sem]
   rw[w64 (n:=(w.tiles.length:Int)-1) (by omega) (by omega),p1,zaa]
   refine zae (.int .i64 (w.tiles.getLast?.getD 0)) (fun g e=>by rw[e,p2,List.getLast?_eq_getElem?,List.getElem?_eq_getElem];rfl) ?_
   refine zae (moveV (stepK (E'.d t) y e) (stepJ (E'.d t) y e)) (fun g e=>by rw[e];exact zap (l:=[_,_]) r34 2 rfl) ?_
   have hf:∀z a b:Int,fillL #[(.int .i64 0),(.int .i64 0),(.int .i64 0),(.int .i64 0)] [(0,1,.int .i64 2),(1,1,.int .i64 z),(2,2,moveV a b)]=some #[.int .i64 2,.int .i64 z,.int .i64 a,.int .i64 b]:=fun _ _ _=>rfl
   simp only[go_sem,hf,zaA]
   have F4:Fr (fun c=>outB (some E') c∨B c) h h4:=((e1.fr.trans (f2.mono fun c _ hc=>fq c hc)).ext_r e3).trans (f4.mono fun c _ hc=>.inr (hc▸w0))
   have hp:=(hP h h4 (F4.mono fun c _ hc=>hc.imp id .inl)).1 p0
   have nq:∀c,Q c→¬(outB (some E') c∨B c):=fun c hc h=>h.elim (qz c hc).2.2 fun h=>bq' c h hc
   refine tell (ev:=(2,w.tiles.getLast?.getD 0,stepK (E'.d t) y e,stepJ (E'.d t) y e)) (w':=⟨stJ (zaM (some E') (some (t,stepY (E'.d t) y e,stepE (E'.d t) y e))),w.tiles,zaM (some E') (some (t,stepY (E'.d t) y e,stepE (E'.d t) y e)),w.words⟩) (B':=Grow B h1 h4) (Q':=Q) e4 (F4.mono fun c _ hc=>hc.imp id .inl)
    ⟨⟨tv,jv',Grow Bj h1 h2,r4,o4,J4,fun c hc=>⟨.inl (a1 c hc).1,fun h9=>?_,(a1 c hc).2.2⟩,fun c hc=>hc.imp (a2 c) fun h=>⟨h.1,by omega⟩,hb3⟩,.inl w0,zsJ (fun c hc=>Nat.lt_of_lt_of_le (bl c hc) hs1) (by omega),fun c hc=>?_,fun c hc=>Nat.lt_of_lt_of_le (zl c hc) F4.1,I4,?_⟩
    (HQ.fr F4 nq) (fun c hc=>⟨?_,fun he=>?_⟩) hQ1 (fun c hc hq=>?_) ⟨D,?_⟩ (fun h=>absurd h hnt) (fun _=>hp) ?_
   ·rcases h9 with h9|h9
    ·exact(a1 c hc).2.1 h9
    ·have:=bl c (a1 c hc).1;omega
   ·rcases hc with h9|h9
    ·exact bz c h9
    ·exact⟨fun hz=>by have:=zl c hz;omega,I.new (by omega)⟩
   ·rcases zkV (E:=some E') (jo:=some (t,stepY (E'.d t) y e,stepE (E'.d t) y e))with⟨h9,h10⟩|h9
    ·exact .inl ⟨h9,h10,htl⟩
    ·exact .inr h9
   ·exact hc.imp id fun h=>by omega
   ·rcases hc with h9|h9
    ·exact(hB1 c h9).2 he
    ·omega
   ·rcases hc with h9|h9
    ·exact bq' c h9 hq
    ·have:=hQb c hq;omega
   ·rw[hjo]
    exact⟨S.out,OO,dr1,dr2⟩
   ·unfold stepW
    rw[if_pos s1,hjo]
 ·have hjn:w.job=none:=by
   rcases st with h|h
   ·exact absurd h.1 s1
   ·exact h.2
  simp only[go_sem,decide_eq_false s1]
  refine zac (fun s2=>?_) (fun s2=>?_)
  ·-- it is gone
   simp only[go_sem,fE,zaA]
   have hnt:¬takes w d:=fun h=>by have:=h.1;omega
   exact tell (ev:=(0,0,0,0)) (r1) e1.fr H1 HQ1 hB1 hQ1 bq' (Drew.same hjn) (fun h=>absurd h hnt) (fun _=>(hP h h1 e1.fr).1 p0) (by unfold stepW;rw[if_neg s1,if_pos s2])
  ·have s0:w.state=0:=by
    rcases st with h|h
    ·exact absurd h.1 s1
    ·exact h.1.resolve_right s2
   refine(c_qReceive HQ1).mono fun rr h2 ⟨er,Q2,f2⟩=>?_
   subst er
   have hs2:=f2.1
   have x0:extV (.tuple #[.int .i64 (recvX d),.int .i64 (recvR d)]) 0=some (.int .i64 (recvX d)):=rfl
   have x1:extV (.tuple #[.int .i64 (recvX d),.int .i64 (recvR d)]) 1=some (.int .i64 (recvR d)):=rfl
   have H2:IsW Z B h2 bw E n w:=H1.other f2 (fun c hz hq=>(qz c hq).1 hz) bq' (I1.fr f2 fun c hc _=>(qz c hc).2) (zbe.refl n)
   have e2:=f2.row r1 fun hc=>by have:=hQb _ hc;omega
   have F2:Fr (fun c=>outB E c∨B c∨Q c∨h.size≤c) h h2:=e1.fr.trans (f2.mono fun c _ hc=>.inr (.inr (.inl hc)))
   have F2':Fr (fun c=>outB E c∨B c∨Q c∨Qo c) h h2:=e1.fr.trans (f2.mono fun c _ hc=>.inr (.inr (.inl hc)))
   have hg2:∀c,Grow Q h1 h2 c→(Q c∨h.size≤c)∧c≠b1:=fun c hc=>hc.elim (fun h=>hQ1 c h) fun h=>⟨.inr (by omega),by omega⟩
   have bg:∀c,B c→¬Grow Q h1 h2 c:=fun c hc hq=>hq.elim (bq' c hc) fun h=>by have:=bl c hc;omega
   simp only[go_sem,x0,x1]
   refine zac (fun g0=>?_) (fun g0=>?_)
   ·have ht0:takes w d:=⟨s0,g0⟩
    refine(c_take H2 s0 ht (jo:=jo) (Qo:=Qo) (P0:=P0) (P1:=P1) ?_ ?_ ?_ ((hP h h2 F2).1 p0)).mono fun rr h3 ⟨er,W3,f3,p3⟩=>?_
    ·rcases HO ht0 with ho|⟨ho1,ho2⟩
     ·exact .inl ho
     ·refine .inr ⟨ho1,fun h3 f3 p3=>ho2 h3 ?_ p3⟩
      exact(e1.fr.trans (f2.mono fun c _ hc=>.inr hc)).after f3 fun c _ hc=>.inl hc
    ·exact fun c hc=>by have:=qo c hc;exact⟨by omega,this.2.1,this.2.2.2⟩
    ·exact fun g g' f=>hP g g' (f.mono fun c _ hc=>hc.elim (fun h=>.inr (.inl h)) fun h=>.inr (.inr (.inr (by omega))))
    ·subst er
     have hs3:=f3.1
     have q3:∀c,Grow Q h1 h2 c→¬(B c∨Qo c):=fun c hc hb=>hc.elim (fun h=>hb.elim (fun hb=>bq' c hb h) fun hb=>(qo c hb).2.2.1 h) fun h=>hb.elim (fun hb=>by have:=bl c hb;omega) fun hb=>by have:=(qo c hb).1;omega
     refine tell (ev:=(1,recvX d,0,0)) (f3.row e2 fun hc=>hc.elim (fun h=>(hB1 _ h).2 rfl) fun h=>by have:=(qo _ h).1;omega) (F2'.trans (f3.mono fun c _ hc=>hc.elim (fun h=>.inr (.inl h)) fun h=>.inr (.inr (.inr h)))) W3 (Q2.fr f3 q3)
      (fun c hc=>hc.elim (fun h=>hB1 c h) fun h=>⟨.inr (by omega),by omega⟩) hg2 (fun c hc hq=>?_) (Drew.same hjn) (fun _=>p3) (fun h=>absurd ht0 h) (by unfold stepW;rw[if_neg s1,if_neg s2,if_pos g0])
     rcases hc with h9|h9
     ·exact bg c h9 hq
     ·rcases hq with h8|h8
      ·have:=hQb c h8;omega
      ·omega
   ·have hnt:¬takes w d:=fun h=>g0 h.2
    refine zac (fun g2=>?_) (fun g2=>?_)
    ·obtain⟨⟨tv2,jv2,Bj2,r2,o2,J2,k1,k2,k3⟩,_,l2,z2,zl2,I2,_⟩:=H2
     rw[hjn]at J2
     have hj2:jv2=.pointer none:=J2
     subst hj2
     try simp only[go_sem]
     refine zaH r2 (by simp) rfl fun h3 r3 u3=>?_
     have r3:h3[bw]? =some (.cells #[.int .i64 2,tv2,.pointer none,.int .i64 w.words] 175 (0,0)):=r3
     have hs3:=u3.1
     simp only[go_sem,fL,zaA]
     refine tell (ev:=(3,0,0,0)) (w':={w with state:=2}) (B':=B) (u3.row (by omega) e2) (F2'.after u3.fr fun c _ hc=>.inr (.inl (hc▸w0))) ⟨⟨tv2,.pointer none,Bj2,r3,o2.fr u3.fr fun c hc he=>(k1 c hc).2.2 he,?_,k1,k2,k3⟩,w0,fun c hc=>by rw[hs3];exact l2 c hc,bz,fun c hc=>by rw[hs3];exact zl2 c hc,I2.fr u3.fr fun c hc _=>by rw[show c=bw from hc];exact(bz _ w0).2,.inr ⟨.inr rfl,hjn⟩⟩
      (Q2.fr u3.fr fun c hc he=>bg bw w0 (he▸hc)) hB1 hg2 bg (Drew.same hjn) (fun h=>absurd h hnt) (fun _=>(hP h2 h3 (u3.fr.mono fun c _ hc=>.inr (.inl (hc▸w0)))).1 ((hP h h2 F2).1 p0)) (by unfold stepW;rw[if_neg s1,if_neg s2,if_neg g0,if_pos g2])
     show zdG Z Bj2 h3 E n (.pointer none) w.job
     rw[hjn];rfl
    ·simp only[go_sem,fE,zaA]
     exact tell (ev:=(0,0,0,0)) e2 F2' H2 Q2 hB1 hg2 bg (Drew.same hjn) (fun h=>absurd h hnt) (fun _=>(hP h h2 F2).1 p0) (by unfold stepW;rw[if_neg s1,if_neg s2,if_neg g0,if_neg g2])
end
end
section
theorem ev_ne (a b:EvD):binV (.st [(0,1,.i),(1,1,.i),(2,2,(.st [(0,1,.i),(1,1,.i)]))]) .neq (evV a) (evV b)=some (.bool (decide (a≠b))):=by
 obtain⟨a1,a2,a3,a4⟩:=a
 obtain⟨b1,b2,b3,b4⟩:=b
 have e1:(a1==b1)=decide (a1=b1):=rfl
 have e2:(a2==b2)=decide (a2=b2):=rfl
 have e3:(a3==b3)=decide (a3=b3):=rfl
 have e4:(a4==b4)=decide (a4=b4):=rfl
 simp only[binV,eqV,seEqL,seEq,seAgg,partV,cond_false,cond_true,List.getElem?_toArray,List.getElem?_cons_zero,List.getElem?_cons_succ,if_true,e1,e2,Prod.mk.injEq,ne_eq]
 by_cases h1:a1=b1<;>by_cases h2:a2=b2<;>by_cases h3:a3=b3<;>by_cases h4:a4=b4<;>simp[h1,h2,h3,h4,e3,e4]
theorem ev_eq (a b:EvD):binV (.st [(0,1,.i),(1,1,.i),(2,2,(.st [(0,1,.i),(1,1,.i)]))]) .eql (evV a) (evV b)=some (.bool (decide (a=b))):=by
 obtain⟨a1,a2,a3,a4⟩:=a
 obtain⟨b1,b2,b3,b4⟩:=b
 have e1:(a1==b1)=decide (a1=b1):=rfl
 have e2:(a2==b2)=decide (a2=b2):=rfl
 have e3:(a3==b3)=decide (a3=b3):=rfl
 have e4:(a4==b4)=decide (a4=b4):=rfl
 simp only[binV,eqV,seEqL,seEq,seAgg,partV,cond_false,cond_true,List.getElem?_toArray,List.getElem?_cons_zero,List.getElem?_cons_succ,if_true,e1,e2,Prod.mk.injEq,ne_eq]
 by_cases h1:a1=b1<;>by_cases h2:a2=b2<;>by_cases h3:a3=b3<;>by_cases h4:a4=b4<;>simp[h1,h2,h3,h4,e3,e4]
abbrev noPic:Pic:=⟨0,0,0,0,[]⟩
abbrev noZ:Nat→Prop:=fun _=>False
theorem Drew.none {w:WD}{n n':Pic}(D:Drew none w n n'):n'=n:=by
 have:=D.2
 cases h:w.job<;>simp only[h]at this<;>exact this
def StepN (B Q:Nat→Prop)(M:Nat→Prop)(h h':Heap)(bw bq:Nat)(w:WD)(d:QD):Prop:=
 ∃B' Q',IsW noZ B' h' bw none noPic w∧IsQ Q' h' bq d∧(∀c,B' c→B c∨h.size≤c)∧(∀c,Q' c→Q c∨h.size≤c)∧(∀c,B' c→¬Q' c)∧Fr (fun c=>B c∨Q c∨M c) h h'
section
variable {B Q:Nat→Prop}{h:Heap}{bw bq:Nat}{w:WD}{d:QD}
theorem zpS (H:IsW noZ B h bw none noPic w)(HQ:IsQ Q h bq d)(ht:w.tiles.length≤1000000)(bq':∀c,B c→¬Q c):
  FCall prog zaD #[ptr bw,ptr bq,.nilFunc] h fun r h'=>r=evV (stepW none none w d).2.2∧StepN B Q noZ h h' bw bq (stepW none none w d).1 (stepW none none w d).2.1:=
 (c_wStep (Z:=noZ) (ov:=.nilFunc) (jo:=none) (Qo:=noZ) (P0:=fun _=>True) (P1:=fun _=>True) H HQ ht (fun _=>.inl ⟨rfl,rfl,fun _ h=>h⟩) bq' (fun _ _=>⟨id,trivial,id⟩) (fun _ h=>h.elim) (fun _ _ _=>⟨id,id⟩) trivial).mono
  fun r h' ⟨e,⟨⟨n',B',Q',W,q,k1,k2,k3,D⟩,f⟩,_⟩=>by
   have:=D.none
   subst this
   exact⟨e,B',Q',W,q,k1,k2,k3,f.mono fun c _ hc=>hc.elim (fun h=>h.elim) id⟩
end
theorem c_l21Lives {h:Heap}(G:GlobB h):FCall prog zik #[] h fun r h'=>r=.bool true∧Ext h h':=by
 apply zqm
 unfold zky
 refine zpP.mono fun r h1 ⟨bw,er,r1,e1,n1⟩=>?_
 subst er
 refine c_qNew.mono fun r h2 ⟨bq,er,Q2,e2,n2⟩=>?_
 subst er
 have E2:=e1.trans e2
 refine FCall.to (c_l17Lives (G.ext E2)) fun h3 e3=>?_
 have E3:=E2.trans e3
 have lw:=zaz r1
 have W3:IsW noZ (fun c=>c=bw) h3 bw none noPic ⟨0,[],none,0⟩:=IsW.new ((e2.trans e3).row r1) id trivial id (fun _ h=>h.elim) fun _ h=>by cases h
 have Q3:=Q2.ext e3
 simp only[go_sem,ptr_en]
 refine(zpS W3 Q3 (by simp) fun c hc hq=>by have hq:c=bq:=hq;have hc:c=bw:=hc;omega).mono fun r h4 ⟨er,B4,q4,W4,Q4,k1,k2,k3,f4⟩=>?_
 subst er
 have s1:stepW none none ⟨0,[],none,0⟩ ⟨min (max 1 1) 4096,[],false⟩=(⟨0,[],none,0⟩,⟨1,[],false⟩,(0,0,0,0)):=rfl
 rw[s1]at W4 Q4 ⊢
 have E4:Ext h h4:=E3.then_fr f4 fun c hc=>by
  rcases hc with hc|hc|hc
  ·rw[show c=bw from hc];exact n1
  ·rw[show c=bq from hc];exact Nat.le_trans e1.1 n2
  ·exact hc.elim
 have hB4:∀c,B4 c→h.size≤c:=fun c hc=>(k1 c hc).elim (fun h=>by rw[h];exact n1) fun h=>Nat.le_trans E3.1 h
 have hq4:∀c,q4 c→h.size≤c:=fun c hc=>(k2 c hc).elim (fun h=>by rw[h];exact Nat.le_trans e1.1 n2) fun h=>Nat.le_trans E3.1 h
 have f0:fillL #[(.int .i64 0),(.int .i64 0),(.int .i64 0),(.int .i64 0)] []=some #[.int .i64 0,.int .i64 0,.int .i64 0,.int .i64 0]:=rfl
 have f3:fillL #[(.int .i64 0),(.int .i64 0),(.int .i64 0),(.int .i64 0)] [(0,1,.int .i64 3)]=some #[.int .i64 3,.int .i64 0,.int .i64 0,.int .i64 0]:=rfl
 have n0:=ev_ne (0,0,0,0) (0,0,0,0)
 have q0:=ev_eq (0,0,0,0) (0,0,0,0)
 have q3:=ev_eq (3,0,0,0) (3,0,0,0)
 simp only[go_sem,f0,zaA,n0,ne_eq,not_true,decide_false]
 refine FCall.at (zny W4 Q4) ?_
 have d1:decide ((0:Int)=1∨((0:Int)=0∧recvR ⟨1,[],false⟩≠1))=false:=rfl
 rw[d1]
 simp only[go_sem]
 refine(c_qClose Q4).mono fun _ h5 ⟨_,Q5,f5⟩=>?_
 have W5:=W4.other f5 (fun c h=>h.elim) k3 (fun _ h=>by cases h) (zbe.refl _)
 have E5:=E4.then_fr f5 hq4
 refine FCall.at (zny W5 Q5) ?_
 have d2:decide ((0:Int)=1∨((0:Int)=0∧recvR ⟨1,[],true⟩≠1))=true:=rfl
 rw[d2]
 simp only[go_sem]
 refine(zpS W5 Q5 (by simp) k3).mono fun r h6 ⟨er,B6,q6,W6,Q6,l1,l2,l3,f6⟩=>?_
 subst er
 have s2:stepW none none ⟨0,[],none,0⟩ ⟨1,[],true⟩=(⟨2,[],none,0⟩,⟨1,[],true⟩,(3,0,0,0)):=rfl
 rw[s2]at W6 Q6 ⊢
 have E6:Ext h h6:=E5.then_fr f6 fun c hc=>hc.elim (hB4 c) fun hc=>hc.elim (hq4 c) fun hc=>hc.elim
 simp only[go_sem,f3,zaA,q3,decide_true]
 refine(zpS W6 Q6 (by simp) l3).mono fun r h7 ⟨er,B7,q7,W7,Q7,m1,m2,m3,f7⟩=>?_
 subst er
 have s3:stepW none none ⟨2,[],none,0⟩ ⟨1,[],true⟩=(⟨2,[],none,0⟩,⟨1,[],true⟩,(0,0,0,0)):=rfl
 rw[s3]at W7 Q7 ⊢
 have E7:Ext h h7:=E6.then_fr f7 fun c hc=>by
  have hs:=E5.1
  rcases hc with hc|hc|hc
  ·exact(l1 c hc).elim (hB4 c) fun h=>by omega
  ·exact(l2 c hc).elim (hq4 c) fun h=>by omega
  ·exact hc.elim
 simp only[go_sem,f0,zaA,q0,decide_true]
 refine FCall.at (c_State W7) ?_
 simp only[go_sem]
 exact⟨trivial,E7⟩
end
end Go.Proofs.YtcoimlclclnlkaaGreatDoor
namespace Go.Proofs.YtcoimlclclnlkaaGreatDoor
open Go Go.Crisp
attribute [local irreducible] FCall rowK newK stK iteK vK qK drawK gK joinK loopK mkK appK cpyK zoB zmd bsK clK zh1 zgb newmK
structure NwMk (h0:Heap)(T:TypeId)(N:Pic)(im:Option (Nat×Value))(va:Option (Nat×Bool))(g:Heap):Prop where
 ext:Ext h0 g
 mi:∀p,im=some p→IsImg g p.1 p.2 N∧h0.size≤p.1∧∀c,blk p.2 c→h0.size≤c
 av:∀q,va=some q→h0.size≤q.1∧g[q.1]? =some (.cells #[if q.2 then(match im with|some p=>ptr p.1|none=>.pointer none)else .pointer none] T (0,0))
 dis:∀p q,im=some p→va=some q→p.1≠q.1∧¬blk p.2 q.1
theorem NwMk.st {h0 g:Heap}{T:TypeId}{N:Pic}{b bt:Nat}{vt:Value}{K:Value→Heap→Prop}(M:NwMk h0 T N (some (bt,vt)) (some (b,false)) g)(H:∀g',NwMk h0 T N (some (bt,vt)) (some (b,true)) g'→K undef g'):stK 1 (ptr b) (ptr bt) g K:=by
 obtain⟨a1,a2⟩:=M.av _ rfl
 obtain⟨d1,d2⟩:=M.dis _ _ rfl rfl
 refine zaH a2 (by simp) rfl fun g' r u=>H g' ⟨M.ext.upd a1 u,fun p hp=>?_,fun q hq=>?_,fun p q hp hq=>?_⟩
 ·cases hp
  obtain⟨i1,i2⟩:=M.mi _ rfl
  exact⟨i1.fr u.fr d1 fun c hv he=>d2 (he▸hv),i2⟩
 ·cases hq;exact⟨a1,r⟩
 ·cases hp;cases hq;exact⟨d1,d2⟩
theorem stg_row {Z:Nat→Prop}{h:Heap}{sv:Value}{s:Stg}(H:Rp.Sl rStgP Z h sv [s]):∃p q b o,idxV 3 sv (.int .i64 0)=some (.pointer (some ⟨b,o,none⟩))∧zah h ⟨b,o,none⟩=some p∧zah h ⟨b,o+1,none⟩=some q∧SlC 3 h sv 1 [p,q,.int .i64 s.border]∧(∀c,blk sv c→Z c)∧IsTbl Z h p s.x∧IsTbl Z h q s.y:=by
 obtain⟨ds,⟨hl,a,cap,rfl,hs⟩,hz,he⟩:=H
 have hl:ds.length=3:=hl
 have H0:rStgP.R Z h (Rp.el 3 ds 0) s:=he 0 (by simp)
 rw[Rp.el_self hl]at H0
 obtain⟨p,q,rfl,hp,hq⟩:=H0
 rcases hs with h0|⟨b,o,rfl,hs⟩
 ·cases h0
 ·exact⟨p,q,b,o,rfl,hs 0 (by simp),hs 1 (by simp),⟨rfl,_,cap,rfl,.inr ⟨b,o,rfl,hs⟩⟩,fun c hc=>hz (by simp) c hc,hp,hq⟩
section
theorem zeb {d:PlanD}(W:d.Wf){i:Int}(h0:0≤i)(h1:i<zaN d):zbY d.s (zat d i).x (zat d i).y (zat d i).w (zat d i).h:=by
 have ti:=zrA W h0 h1
 have hw:=W.w
 have hh:=W.h
 unfold sideT at hw hh
 unfold PlanD.X PlanD.Y at ti
 show 1≤outW d i∧1≤outH d i∧0≤outX d i∧0≤outY d i∧outX d i<_∧outY d i<_∧outW d i≤d.s.x.lines.length-outX d i∧outH d i≤d.s.y.lines.length-outY d i
 unfold outW outH PlanD.X PlanD.Y
 omega
def jobOf (d:PlanD)(i:Int):TileD×Int×Int:=(zat d i,(zat d i).y,lnF d.s.y (zat d i).y)
structure C21 where
 bm:Nat
 bn:Nat
 bs:Nat
 bp:Nat
 bf:Nat
 vf:Value
 bt:Nat
 vt:Value
 p:Value
 q:Value
 rv:Value
 bl:Nat
 pp:Value
 pq:Value
 m:Pic
 d:PlanD
 bw:Nat
 bq:Nat
abbrev C21.E (C:C21):WE:=⟨C.bf,C.vf,C.bt,C.vt,C.p,C.q,C.m,C.d.s⟩
structure C21.Ok (C:C21):Prop where
 m:C.m.Wf
 d:C.d.Wf
 s:StgOk C.d.s
abbrev C21.jo (C:C21)(i:Int):Option (TileD×Int×Int):=some (jobOf C.d i)
abbrev C21.suits (C:C21)(n:Pic):Prop:=n.Wf∧zea C.m n C.d.s
theorem C21.newC {C:C21}(O:C.Ok){n:Pic}(S:C.suits n){i:Int}(h0:0≤i)(h1:i<zaN C.d):wnewC C.m n C.d.s (zat C.d i)=0:=zfH.2 ⟨S.2,zeb O.d h0 h1⟩
section
variable {C:C21}{Z:Nat→Prop}{g:Heap}{n:Pic}{x:Int}
theorem WNew.has {h':Heap}{r:Value}(O:C.Ok)(S:C.suits n)(h0:0≤x)(h1:x<zaN C.d)(H:WNew Z g C.bf C.vf C.bt C.vt C.p C.q C.m n C.d.s (zat C.d x) r h'):
  ∃bj rv,r=.tuple #[ptr bj,.int .i64 0]∧Ext g h'∧zdG Z (Grow (fun _=>False) g h') h' (some C.E) n (ptr bj) (C.jo x)∧JobSt Z (Grow (fun _=>False) g h') h' bj C.bf C.vf C.bt C.vt C.p C.q rv ⟨C.m,C.d.s,zat C.d x⟩ (zat C.d x).y (lnF C.d.s.y (zat C.d x).y) n (roomN (mostL C.d.s.y.lines)) (zcI ((zat C.d x).w*C.m.c)):=by
 have hc:=C21.newC O S h0 h1
 obtain⟨bj,rv,er,e,J⟩:=H.go hc
 exact⟨bj,rv,er,e,⟨C.E,rfl,⟨O.m,O.s⟩,hc,bj,rv,rfl,J⟩,J⟩
end
end
def muJ (E:WE):Option (TileD×Int×Int)→Nat
 |none=>0
 |some (t,y,e)=>leftZ (E.d t) y e
def ziW (C:C21)(i:Int):Nat:=leftZ (C.E.d (zat C.d i)) (zat C.d i).y (lnF C.d.s.y (zat C.d i).y)
theorem mu_settle {E:WE}{t:TileD}{y e:Int}:muJ E (zaM (some E) (some (t,y,e)))=leftZ (E.d t) y e:=by
 show muJ E (if stepK (E.d t) y e=0 then none else some (t,y,e))=_
 split
 ·rename_i h;rw[left_pos.2 h];rfl
 ·rfl
def sumT (C:C21):Nat→Nat→Nat
 |0,_=>0
 |j+1,i=>ziW C i+sumT C j (i+1)
end Go.Proofs.YtcoimlclclnlkaaGreatDoor
namespace Go.Proofs.YtcoimlclclnlkaaGreatDoor
open Go Go.Crisp
attribute [local irreducible] FCall rowK newK stK iteK vK qK drawK gK joinK loopK mkK appK cpyK zoB zmd bsK clK zh1 zgb newmK
open _root_.Go.Proofs.Tryz
def rTile:Rp TileD where
 w:=10
 R:=fun _ _ cs t=>cs=tileC t
 len:=by rintro _ _ _ _ rfl;rfl
 one:=by rintro _ _ _ _ rfl;exact zdi _
 fr:=by rintro _ _ _ _ _ _ rfl _ _;rfl
 mono:=by rintro _ _ _ _ _ rfl _;rfl
def zhn (d:PlanD)(N:Nat):List TileD:=(List.range N).map fun i:Nat=>zat d i
theorem c_planAll {Z:Nat→Prop}{h:Heap}{b:Nat}{d:PlanD}{p q:Value}(H:ziO Z h b d p q)(W:d.Wf){N:Nat}(hN:(N:Int)=zaN d)(hN2:N≤4096):FCall prog zgr #[ptr b] h fun r h'=>New rTile h h' r (zhn d N):=by
 apply zou
 unfold ziI
 refine FCall.at (znz H W) ?_
 rw[←hN]
 refine zaF (α:=Value) N 0 (fun i v=>[v,.int .i64 (i:Int)]) (fun i v g=>New rTile h g v (zhn d i)) (.slice none 0 0) rfl (Nat.zero_le _) (New.nil (Ext.refl _)) fun i v g again ρ _ hi NT Hag=>?_
 simp only[ix_0,ix_1]
 rw[zbp,zaa]
 refine zac (fun g1=>?_) (fun g1=>?_)
 ·have hi':i<N:=by omega
  refine FCall.to (zhK (H.ext NT.2.1) W (i:=i) (by omega) (by omega)) fun g2 e2=>?_
  have x0:extV (.tuple #[.agg (tileC (zat d i)).toArray,.bool true]) 0=some (.agg (tileC (zat d i)).toArray):=rfl
  have x1:extV (.tuple #[.agg (tileC (zat d i)).toArray,.bool true]) 1=some (.bool true):=rfl
  simp only[go_sem,x0,x1]
  refine zbh (cs:=tileC (zat d i)) rfl (zdi _) rfl fun b3 g3 r3 e3 n3=>?_
  rw[zap r3 10 rfl,zaa]
  have NT3:=NT.ext (e2.trans e3)
  have hl:(zhn d i).length=i:=by simp[zhn]
  refine Rp.push_ow (e:=rTile) (x:=zat d i) NT3.1 rfl rfl rfl (by rw[hl];omega) (by rw[hl];omega) (fun _ h=>h.elim) fun v4 g4 o4 f4 n4=>?_
  have hw':(i:Int)+1=((i+1:Nat):Int):=by omega
  try simp only[go_sem]
  rw[w64 (n:=(i:Int)+1) (by omega) (by omega),hw']
  have e1:zhn d (i+1)=zhn d i++[zat d i]:=by simp[zhn,List.range_succ]
  have hs3:=NT3.2.1.1
  refine Hag v4 g4 hi' ⟨by rw[e1];exact o4,NT3.2.1.then_fr f4 NT3.2.2,fun c hc=>(n4 c hc).elim (NT3.2.2 c) fun h=>by omega⟩
 ·have:i=N:=by omega
  subst this
  exact NT
def inTile (t:TileD)(x y:Int):Prop:=t.x≤x∧x<t.x+t.w∧t.y≤y∧y<t.y+t.h
theorem tile_cover {d:PlanD}(W:d.Wf){x y:Int}(x0:0≤x)(x1:x<d.X)(y0:0≤y)(y1:y<d.Y):∃i:Nat,(i:Int)<zaN d∧inTile (zat d i) x y:=by
 have hw:=W.w
 have hh:=W.h
 unfold sideT at hw hh
 have a1:=Int.mul_ediv_add_emod x d.w
 have a2:=Int.emod_nonneg x (show d.w≠0 by omega)
 have a3:=Int.emod_lt_of_pos x (show 0<d.w by omega)
 have b1:=Int.mul_ediv_add_emod y d.h
 have b2:=Int.emod_nonneg y (show d.h≠0 by omega)
 have b3:=Int.emod_lt_of_pos y (show 0<d.h by omega)
 have q0:0≤x/d.w:=Int.ediv_nonneg x0 (by omega)
 have r0:0≤y/d.h:=Int.ediv_nonneg y0 (by omega)
 have q1:x/d.w<colsZ d:=by
  unfold colsZ zdD
  apply Int.lt_of_add_one_le
  rw[Int.le_ediv_iff_mul_le (by omega),Int.add_mul,Int.one_mul,Int.mul_comm]
  omega
 have r1:y/d.h<zdD d.Y d.h:=by
  unfold zdD
  apply Int.lt_of_add_one_le
  rw[Int.le_ediv_iff_mul_le (by omega),Int.add_mul,Int.one_mul,Int.mul_comm]
  omega
 have hc:(y/d.h+1)*colsZ d≤zdD d.Y d.h*colsZ d:=Int.mul_le_mul_of_nonneg_right (by omega) (by omega)
 rw[Int.add_mul,Int.one_mul]at hc
 have hi0:0≤y/d.h*colsZ d+x/d.w:=by
  have:=Int.mul_nonneg r0 (show 0≤colsZ d by omega);omega
 refine⟨(y/d.h*colsZ d+x/d.w).toNat,?_,?_⟩
 ·rw[Int.toNat_of_nonneg hi0]
  unfold zaN
  rw[Int.mul_comm (colsZ d)]
  omega
 ·rw[Int.toNat_of_nonneg hi0]
  have m1:(y/d.h*colsZ d+x/d.w)%colsZ d=x/d.w:=by
   rw[Int.add_comm,Int.add_mul_emod_self_right,Int.emod_eq_of_lt q0 q1]
  have m2:(y/d.h*colsZ d+x/d.w)/colsZ d=y/d.h:=by
   rw[Int.add_comm,Int.add_mul_ediv_right _ _ (by omega),Int.ediv_eq_zero_of_lt q0 q1,Int.zero_add]
  show outX d _≤x∧x<outX d _+outW d _∧outY d _≤y∧y<outY d _+outH d _
  unfold outW outH outX outY
  rw[m1,m2,Int.mul_comm (x/d.w),Int.mul_comm (y/d.h)]
  omega
def Painted (C:C21)(k:Nat)(jo:Option (TileD×Int×Int))(n:Pic):Prop:=
 ∀x y c,inP n x y c→∀i:Nat,i<k→inTile (zat C.d i) x y→(∀t yy e,jo=some (t,yy,e)→i+1=k→y<yy)→atP n x y c=pixZ C.m C.d.s x y c
theorem painted_all {C:C21}(O:C.Ok){N:Nat}{n:Pic}(hN:(N:Int)=zaN C.d)(P:Painted C N none n)(su:C.suits n):n.l=(zoh C.m C.d.s).l:=by
 obtain⟨s1,s2,s3,s4,s5⟩:=su.2
 have hf:=zbv O.m.fits
 refine pic_extL su.1 ?_ ⟨s2.symm,s3.symm,s4.symm,s5.symm⟩ fun x y c hi=>?_
 ·show(((List.range (C.d.s.y.lines.length*C.d.s.x.lines.length*C.m.c.toNat)).map _).length:Int)=(C.d.s.x.lines.length:Int)*(C.d.s.y.lines.length:Int)*C.m.c
  rw[List.length_map,List.length_range,Int.natCast_mul,Int.natCast_mul,Int.toNat_of_nonneg (by omega),Int.mul_comm (C.d.s.y.lines.length:Int)]
 ·obtain⟨h1,h2,h3,h4,h5,h6⟩:=hi
  obtain⟨i,hi1,hi2⟩:=tile_cover O.d h1 (by show x<(C.d.s.x.lines.length:Int);rw[←s2];exact h2) h3 (by show y<(C.d.s.y.lines.length:Int);rw[←s3];exact h4)
  rw[P x y c ⟨h1,h2,h3,h4,h5,h6⟩ i (by omega) hi2 fun _ _ _ h=>by cases h]
  rw[applyP_at]
  exact⟨h1,by show x<(C.d.s.x.lines.length:Int);rw[←s2];exact h2,h3,by show y<(C.d.s.y.lines.length:Int);rw[←s3];exact h4,h5,by show c<C.m.c;rw[←s4];exact h6⟩
end Go.Proofs.YtcoimlclclnlkaaGreatDoor
namespace Go.Proofs.YtcoimlclclnlkaaGreatDoor
open Go Go.Crisp
attribute [local irreducible] FCall rowK newK stK iteK vK qK drawK gK joinK loopK mkK appK cpyK zoB zmd bsK clK zh1 zgb newmK
section
def rIs:Rp (List Int) where
 w:=1
 R:=fun Z h cs l=>∃v,cs=[v]∧Rp.Sl (Rp.int .i64) Z h v l
 len:=by rintro _ _ _ _ ⟨_,rfl,_⟩;rfl
 one:=by
  rintro _ _ _ _ ⟨_,rfl,H⟩
  exact zad H.one zaq
 fr:=by rintro _ _ _ _ _ _ ⟨v,rfl,H⟩ f q;exact⟨v,rfl,H.fr f q⟩
 mono:=by rintro _ _ _ _ _ ⟨v,rfl,H⟩ q;exact⟨v,rfl,H.mono q⟩
structure PV where
 vc:Value
 sl:Value
 wv:Value
 dv:Value
 sv:Value
 ev:Value
 lv:Value
structure PoolD where
 q:QD
 rows:Nat→List Int
 acc:List Acc
 ws:Nat→WD
 words:Nat→Int
 sent:Int
 stamps:List (List Int)
 fin:List Int
 left:List (List Int)
 ret:Bool
 picks:Int
def zcR (C:C21)(V:PV)(P:PoolD):Array Value:=#[ptr C.bf,ptr C.bt,ptr C.bl,ptr C.bq,V.vc,V.sl,V.wv,V.dv,.int .i64 P.sent,V.sv,V.ev,V.lv,.bool P.ret,.int .i64 P.picks]
def OwnRs (o:Nat→Nat)(k:Nat)(h:Heap)(v:Value)(l:List (List Int)):Prop:=∃Z:Nat→Prop,Rp.Ow rIs Z h v l∧(∀c,Z c→o c=k)∧∀c,blk v c→o c=k
structure zal (X:Nat→Prop)(C:C21)(Z:Nat→Prop)(K:Nat)(h0:Heap)(bw:Nat→Nat)(bp:Nat)(o:Nat→Nat)(n:Pic)(V:PV)(P:PoolD)(h:Heap):Prop where
 q:¬X 1→IsQ (fun c=>o c=1) h C.bq P.q
 c:¬X 2→zbQ (fun c=>o c=2) h V.vc (K+1) P.rows
 l:¬X 3→∃Zl:Nat→Prop,Rp.Ow rAcc Zl h V.sl P.acc∧(∀c,Zl c→o c=3)∧∀c,blk V.sl c→o c=3
 p:¬X 4→h[bp]? =some (.cells (zcR C V P) 197 (0,0))
 w:¬X 5→Own 1 h V.dv K ((List.range K).map fun i=>.int .i64 (P.words i))∧∀c,blk V.dv c→o c=5
 s:¬X 6→OwnRs o 6 h V.sv P.stamps
 f:¬X 7→OwnRs o 7 h V.lv P.left
 e:¬X 8→Rp.Sl (Rp.int .i64) (fun c=>o c=8) h V.ev P.fin
 wk:¬X 9→SlC 1 h V.wv K ((List.range K).map fun i=>ptr (bw i))∧∀c,blk V.wv c→o c=9
 ws:∀i,i<K→¬X (10+i)→IsW Z (fun c=>o c=10+i) h (bw i) (some C.E) n (P.ws i)
 po:o bp=4
 set:Setup Z h C.bf C.vf C.bt C.vt C.p C.q C.m n C.d.s
 pl:ziO Z h C.bl C.d C.pp C.pq
 zl:Z C.bl∧C.pp=C.p∧C.pq=C.q
 sui:C.suits n
 ow:∀c,o c≠0→c<h.size∧h0.size≤c∧¬Z c∧outV (some C.E) c∧¬outB (some C.E) c
 ext:Ext h0 h
 few:1≤K∧K≤256
section
variable {X:Nat→Prop}{C:C21}{Z:Nat→Prop}{K:Nat}{h0 h h':Heap}{bw:Nat→Nat}{bp:Nat}{o:Nat→Nat}{n:Pic}{V:PV}{P:PoolD}
theorem OwnRs.fr {k:Nat}{v:Value}{l:List (List Int)}{M:Nat→Prop}(H:OwnRs o k h v l)(f:Fr M h h')(q:∀c,o c=k→¬M c):OwnRs o k h' v l:=by
 obtain⟨Z,o1,z1,z2⟩:=H
 exact⟨Z,o1.fr f (fun c _ hc=>q c (z1 c hc)) fun c hc=>q c (z2 c hc),z1,z2⟩
theorem zal.chgO (H:zal X C Z K h0 bw bp o n V P h){A:Nat→Prop}(ha:¬A 0){n':Pic}(hb:∀c,outB (some C.E) c→h0.size≤c)(f:Fr (fun c=>A (o c)∨outB (some C.E) c) h h')(I2:OutAt h' (some C.E) n')(D:zbe n n'):zal (fun k=>X k∨A k) C Z K h0 bw bp o n' V P h':=by
 have no:∀c,o c≠0→¬outB (some C.E) c:=fun c hc=>(H.ow c hc).2.2.2.2
 have g:∀k,k≠0→¬A k→∀c,o c=k→¬(A (o c)∨outB (some C.E) c):=fun k h0 hk c hc h=>h.elim (by rw[hc];exact hk) (no c (by rw[hc];exact h0))
 have na:∀{k},¬(X k∨A k)→¬X k∧¬A k:=fun h=>⟨fun x=>h (.inl x),fun x=>h (.inr x)⟩
 have oa:∀c,A (o c)→c<h.size∧h0.size≤c∧¬Z c∧outV (some C.E) c∧¬outB (some C.E) c:=fun c hc=>H.ow c fun h=>ha (h▸hc)
 have qz:∀c,Z c→¬(A (o c)∨outB (some C.E) c):=fun c hz hc=>hc.elim (fun hc=>(oa c hc).2.2.1 hz) (H.set.zz c hz)
 obtain⟨p1,p2,p3⟩:=H.pl
 obtain⟨I,wf⟩:=I2 C.E rfl
 obtain⟨s1,s2,s3,s4,s5⟩:=H.sui.2
 refine⟨fun hx=>(H.q (na hx).1).fr f (g 1 (by omega) (na hx).2),fun hx=>(H.c (na hx).1).fr f fun c _=>g 2 (by omega) (na hx).2 c,fun hx=>?_,fun hx=>f.row (H.p (na hx).1) (g 4 (by omega) (na hx).2 bp H.po),fun hx=>⟨(H.w (na hx).1).1.fr f fun c hc=>g 5 (by omega) (na hx).2 c ((H.w (na hx).1).2 c hc),(H.w (na hx).1).2⟩,fun hx=>(H.s (na hx).1).fr f (g 6 (by omega) (na hx).2),fun hx=>(H.f (na hx).1).fr f (g 7 (by omega) (na hx).2),fun hx=>(H.e (na hx).1).fr f fun c _=>g 8 (by omega) (na hx).2 c,
  fun hx=>⟨(H.wk (na hx).1).1.fr f fun c _ hc=>g 9 (by omega) (na hx).2 c ((H.wk (na hx).1).2 c hc),(H.wk (na hx).1).2⟩,fun i hi hx=>(H.ws i hi (na hx).1).other f qz (g (10+i) (by omega) (na hx).2) I2 D,H.po,H.set.chg f qz I,⟨f.row p1 (qz _ H.zl.1),p2.fr f fun c _=>qz c,p3.fr f fun c _=>qz c⟩,H.zl,⟨wf,s1,by rw[D.w];exact s2,by rw[D.h];exact s3,by rw[D.c];exact s4,by rw[D.m];exact s5⟩,fun c hc=>⟨Nat.lt_of_lt_of_le (H.ow c hc).1 f.1,(H.ow c hc).2⟩,H.ext.then_fr f fun c hc=>hc.elim (fun h=>(oa c h).2.1) (hb c),H.few⟩
 obtain⟨Zl,o1,z1,z2⟩:=H.l (na hx).1
 exact⟨Zl,o1.fr f (fun c _ hc=>g 3 (by omega) (na hx).2 c (z1 c hc)) fun c hc=>g 3 (by omega) (na hx).2 c (z2 c hc),z1,z2⟩
theorem zal.ex0 (H:zal X C Z K h0 bw bp o n V P h):OutAt h (some C.E) n:=fun E' hE=>by cases hE;exact⟨H.set.out,H.sui.1⟩
theorem zal.chgM (H:zal X C Z K h0 bw bp o n V P h){A M:Nat→Prop}(f:Fr M h h')(oa:∀c,M c→(A (o c)∨o c=0)∧h0.size≤c∧¬Z c∧outV (some C.E) c∧¬outB (some C.E) c):zal (fun k=>X k∨A k) C Z K h0 bw bp o n V P h':=by
 have I2:OutAt h' (some C.E) n:=H.ex0.fr f fun c hc _=>(oa c hc).2.2.2
 have qz:∀c,Z c→¬M c:=fun c hz hc=>(oa c hc).2.2.1 hz
 have g:∀k,k≠0→¬A k→∀c,o c=k→¬M c:=fun k k0 hk c hc hm=>(oa c hm).1.elim (by rw[hc];exact hk) fun h=>k0 (by rw[←hc,h])
 have na:∀{k},¬(X k∨A k)→¬X k∧¬A k:=fun h=>⟨fun x=>h (.inl x),fun x=>h (.inr x)⟩
 obtain⟨p1,p2,p3⟩:=H.pl
 refine⟨fun hx=>(H.q (na hx).1).fr f (g 1 (by omega) (na hx).2),fun hx=>(H.c (na hx).1).fr f fun c _=>g 2 (by omega) (na hx).2 c,fun hx=>?_,fun hx=>f.row (H.p (na hx).1) (g 4 (by omega) (na hx).2 bp H.po),fun hx=>⟨(H.w (na hx).1).1.fr f fun c hc=>g 5 (by omega) (na hx).2 c ((H.w (na hx).1).2 c hc),(H.w (na hx).1).2⟩,fun hx=>(H.s (na hx).1).fr f (g 6 (by omega) (na hx).2),fun hx=>(H.f (na hx).1).fr f (g 7 (by omega) (na hx).2),fun hx=>(H.e (na hx).1).fr f fun c _=>g 8 (by omega) (na hx).2 c,
  fun hx=>⟨(H.wk (na hx).1).1.fr f fun c _ hc=>g 9 (by omega) (na hx).2 c ((H.wk (na hx).1).2 c hc),(H.wk (na hx).1).2⟩,fun i hi hx=>(H.ws i hi (na hx).1).other f qz (g (10+i) (by omega) (na hx).2) I2 (zbe.refl n),H.po,H.set.chg f qz (I2 C.E rfl).1,⟨f.row p1 (qz _ H.zl.1),p2.fr f fun c _=>qz c,p3.fr f fun c _=>qz c⟩,H.zl,H.sui,fun c hc=>⟨Nat.lt_of_lt_of_le (H.ow c hc).1 f.1,(H.ow c hc).2⟩,H.ext.then_fr f fun c hc=>(oa c hc).2.1,H.few⟩
 obtain⟨Zl,o1,z1,z2⟩:=H.l (na hx).1
 exact⟨Zl,o1.fr f (fun c _ hc=>g 3 (by omega) (na hx).2 c (z1 c hc)) fun c hc=>g 3 (by omega) (na hx).2 c (z2 c hc),z1,z2⟩
theorem zal.chg (H:zal X C Z K h0 bw bp o n V P h){A:Nat→Prop}(ha:¬A 0)(f:Fr (fun c=>A (o c)) h h'):zal (fun k=>X k∨A k) C Z K h0 bw bp o n V P h':=
 H.chgM f fun c hc=>⟨.inl hc,(H.ow c fun h=>ha (h▸hc)).2⟩
theorem zal.less {Y:Nat→Prop}(H:zal X C Z K h0 bw bp o n V P h)(k:∀i,X i→Y i):zal Y C Z K h0 bw bp o n V P h:=
 ⟨fun hx=>H.q (hx∘k _),fun hx=>H.c (hx∘k _),fun hx=>H.l (hx∘k _),fun hx=>H.p (hx∘k _),fun hx=>H.w (hx∘k _),fun hx=>H.s (hx∘k _),fun hx=>H.f (hx∘k _),fun hx=>H.e (hx∘k _),fun hx=>H.wk (hx∘k _),fun i hi hx=>H.ws i hi (hx∘k _),H.po,H.set,H.pl,H.zl,H.sui,H.ow,H.ext,H.few⟩
theorem zal.loc (H:zal X C Z K h0 bw bp o n V P h){b:Nat}(u:Upd b h h')(hb:o b=0∧h0.size≤b∧¬Z b∧outV (some C.E) b∧¬outB (some C.E) b):zal X C Z K h0 bw bp o n V P h':=
 (H.chgM (A:=fun _=>False) u.fr fun c hc=>by rw[show c=b from hc];exact⟨.inr hb.1,hb.2⟩).less fun k hk=>hk.elim id False.elim
theorem zal.ex (H:zal X C Z K h0 bw bp o n V P h)(e:Ext h h'):zal X C Z K h0 bw bp o n V P h':=by
 obtain⟨p1,p2,p3⟩:=H.pl
 have I2:OutAt h' (some C.E) n:=fun E' hE=>by cases hE;exact⟨H.set.out.ext e,H.sui.1⟩
 refine⟨fun hx=>(H.q hx).ext e,fun hx=>(H.c hx).ext e,fun hx=>?_,fun hx=>e.row (H.p hx),fun hx=>⟨(H.w hx).1.fr (M:=fun _=>False) e.fr fun _ _=>id,(H.w hx).2⟩,fun hx=>(H.s hx).fr (M:=fun _=>False) e.fr fun _ _=>id,fun hx=>(H.f hx).fr (M:=fun _=>False) e.fr fun _ _=>id,fun hx=>(H.e hx).ext e,fun hx=>⟨(H.wk hx).1.ext e,(H.wk hx).2⟩,fun i hi hx=>(H.ws i hi hx).ext e,H.po,H.set.ext e,⟨e.row p1,p2.ext e,p3.ext e⟩,H.zl,H.sui,fun c hc=>⟨Nat.lt_of_lt_of_le (H.ow c hc).1 e.1,(H.ow c hc).2⟩,H.ext.trans e,H.few⟩
 obtain⟨Zl,o1,z1,z2⟩:=H.l hx
 exact⟨Zl,o1.ext e,z1,z2⟩
def grow (o:Nat→Nat)(b lo hi:Nat):Nat→Nat:=fun c=>if lo≤c∧c<hi then b else o c
theorem zcK {b lo hi c:Nat}(h:c<lo):grow o b lo hi c=o c:=if_neg (by omega)
theorem zal.relab (H:zal X C Z K h0 bw bp o n V P h){B:Nat→Prop}{o':Nat→Nat}{lo:Nat}(e:∀c,c<lo→o' c=o c)(hl:∀c,lo≤c→o c=0)(hb:∀c,lo≤c→o' c≠0→B (o' c)∧c<h.size)(h1:h0.size≤lo)(h2:∀c,lo≤c→¬Z c∧outV (some C.E) c∧¬outB (some C.E) c):zal (fun k=>X k∨B k) C Z K h0 bw bp o' n V P h:=by
 have na:∀{k},¬(X k∨B k)→¬X k∧¬B k:=fun h=>⟨fun x=>h (.inl x),fun x=>h (.inr x)⟩
 have g:∀k,¬B k→k≠0→∀c,o' c=k↔o c=k:=fun k hk h0 c=>by
  rcases Nat.lt_or_ge c lo with h|h
  ·rw[e c h]
  ·rw[hl c h]
   exact⟨fun h3=>absurd (by rw[←h3];exact(hb c h (by omega)).1) hk,fun h3=>absurd h3.symm h0⟩
 have gf:∀k,¬B k→k≠0→(fun c=>o' c=k)=fun c=>o c=k:=fun k hk h0=>funext fun c=>propext (g k hk h0 c)
 have gr:∀{k v l},¬B k→k≠0→OwnRs o k h v l→OwnRs o' k h v l:=fun hk h0 ⟨Z1,o1,z1,z2⟩=>⟨Z1,o1,fun c hc=>(g _ hk h0 c).2 (z1 c hc),fun c hc=>(g _ hk h0 c).2 (z2 c hc)⟩
 have lb:bp<lo:=Nat.lt_of_not_le fun h=>by have:=hl bp h;have:=H.po;omega
 refine⟨fun hx=>by rw[gf 1 (na hx).2 (by omega)];exact H.q (na hx).1,fun hx=>by rw[gf 2 (na hx).2 (by omega)];exact H.c (na hx).1,fun hx=>?_,fun hx=>H.p (na hx).1,fun hx=>⟨(H.w (na hx).1).1,fun c hc=>(g 5 (na hx).2 (by omega) c).2 ((H.w (na hx).1).2 c hc)⟩,fun hx=>gr (na hx).2 (by omega) (H.s (na hx).1),fun hx=>gr (na hx).2 (by omega) (H.f (na hx).1),fun hx=>by rw[gf 8 (na hx).2 (by omega)];exact H.e (na hx).1,fun hx=>⟨(H.wk (na hx).1).1,fun c hc=>(g 9 (na hx).2 (by omega) c).2 ((H.wk (na hx).1).2 c hc)⟩,
  fun i hi hx=>by rw[gf (10+i) (na hx).2 (by omega)];exact H.ws i hi (na hx).1,by rw[e bp lb];exact H.po,H.set,H.pl,H.zl,H.sui,fun c hc=>?_,H.ext,H.few⟩
 ·obtain⟨Zl,o1,z1,z2⟩:=H.l (na hx).1
  exact⟨Zl,o1,fun c hc=>(g 3 (na hx).2 (by omega) c).2 (z1 c hc),fun c hc=>(g 3 (na hx).2 (by omega) c).2 (z2 c hc)⟩
 ·rcases Nat.lt_or_ge c lo with h|h
  ·rw[e c h]at hc;exact H.ow c hc
  ·exact⟨(hb c h hc).2,by omega,h2 c h⟩
theorem zal.own (H:zal X C Z K h0 bw bp o n V P h){b lo:Nat}(hl:∀c,lo≤c→o c=0)(h1:h0.size≤lo)(h2:∀c,lo≤c→¬Z c∧outV (some C.E) c∧¬outB (some C.E) c):zal (fun k=>X k∨k=b) C Z K h0 bw bp (grow o b lo h.size) n V P h:=
 H.relab (fun c hc=>zcK hc) hl (fun c hc h=>by
  unfold grow at h ⊢
  split at h
  ·rename_i h3;rw[if_pos h3];exact⟨rfl,h3.2⟩
  ·exact absurd (hl c hc) h) h1 h2
theorem zal.fresh (H:zal X C Z K h0 bw bp o n V P h){c:Nat}(hc:h.size≤c):o c=0∧¬Z c∧outV (some C.E) c∧¬outB (some C.E) c:=by
 have I2:OutAt h (some C.E) n:=fun E' hE=>by cases hE;exact⟨H.set.out,H.sui.1⟩
 refine⟨Classical.byContradiction fun h=>?_,fun hz=>?_,I2.new hc⟩
 ·have:=(H.ow c h).1;omega
 ·have:=H.set.zl c hz;omega
theorem zal.take (H:zal X C Z K h0 bw bp o n V P h){V1:PV}{P1:PoolD}{n1:Pic}{X1:Nat→Prop}(H1:zal X1 C Z K h0 bw bp o n1 V1 P1 h'){b:Nat}:zal (fun k=>X1 k∨k=b) C Z K h0 bw bp (grow o b h.size h'.size) n1 V1 P1 h':=
 H1.own (fun c hc=>(H.fresh hc).1) H.ext.1 fun c hc=>(H.fresh hc).2
theorem zal.fq (H:zal (fun k=>X k∨k=1) C Z K h0 bw bp o n V P h){q:QD}(hq:IsQ (fun c=>o c=1) h C.bq q):zal X C Z K h0 bw bp o n V {P with q:=q} h:=
 have n1:∀{k},¬X k→k≠1→¬(X k∨k=1):=fun a b h=>h.elim a b
 ⟨fun _=>hq,fun hx=>H.c (n1 hx (by omega)),fun hx=>H.l (n1 hx (by omega)),fun hx=>H.p (n1 hx (by omega)),fun hx=>H.w (n1 hx (by omega)),fun hx=>H.s (n1 hx (by omega)),fun hx=>H.f (n1 hx (by omega)),fun hx=>H.e (n1 hx (by omega)),fun hx=>H.wk (n1 hx (by omega)),fun i hi hx=>H.ws i hi (n1 hx (by omega)),H.po,H.set,H.pl,H.zl,H.sui,H.ow,H.ext,H.few⟩
theorem zal.fc (H:zal (fun k=>X k∨k=2) C Z K h0 bw bp o n V P h){r:Nat→List Int}(hc:zbQ (fun c=>o c=2) h V.vc (K+1) r):zal X C Z K h0 bw bp o n V {P with rows:=r} h:=
 have n1:∀{k},¬X k→k≠2→¬(X k∨k=2):=fun a b h=>h.elim a b
 ⟨fun hx=>H.q (n1 hx (by omega)),fun _=>hc,fun hx=>H.l (n1 hx (by omega)),fun hx=>H.p (n1 hx (by omega)),fun hx=>H.w (n1 hx (by omega)),fun hx=>H.s (n1 hx (by omega)),fun hx=>H.f (n1 hx (by omega)),fun hx=>H.e (n1 hx (by omega)),fun hx=>H.wk (n1 hx (by omega)),fun i hi hx=>H.ws i hi (n1 hx (by omega)),H.po,H.set,H.pl,H.zl,H.sui,H.ow,H.ext,H.few⟩
theorem zal.fl (H:zal (fun k=>X k∨k=3) C Z K h0 bw bp o n V P h)(x4:X 4){sl:Value}{acc:List Acc}(hl:∃Zl:Nat→Prop,Rp.Ow rAcc Zl h sl acc∧(∀c,Zl c→o c=3)∧∀c,blk sl c→o c=3):zal X C Z K h0 bw bp o n {V with sl:=sl} {P with acc:=acc} h:=
 have n1:∀{k},¬X k→k≠3→¬(X k∨k=3):=fun a b h=>h.elim a b
 ⟨fun hx=>H.q (n1 hx (by omega)),fun hx=>H.c (n1 hx (by omega)),fun hx=>hl,fun hx=>absurd x4 hx,fun hx=>H.w (n1 hx (by omega)),fun hx=>H.s (n1 hx (by omega)),fun hx=>H.f (n1 hx (by omega)),fun hx=>H.e (n1 hx (by omega)),fun hx=>H.wk (n1 hx (by omega)),fun i hi hx=>H.ws i hi (n1 hx (by omega)),H.po,H.set,H.pl,H.zl,H.sui,H.ow,H.ext,H.few⟩
theorem zal.fp (H:zal (fun k=>X k∨k=4) C Z K h0 bw bp o n V P h){st:Int}{rt:Bool}{pk:Int}(hp:h[bp]? =some (.cells (zcR C V {P with sent:=st,ret:=rt,picks:=pk}) 197 (0,0))):zal X C Z K h0 bw bp o n V {P with sent:=st,ret:=rt,picks:=pk} h:=
 have n1:∀{k},¬X k→k≠4→¬(X k∨k=4):=fun a b h=>h.elim a b
 ⟨fun hx=>H.q (n1 hx (by omega)),fun hx=>H.c (n1 hx (by omega)),fun hx=>H.l (n1 hx (by omega)),fun _=>hp,fun hx=>H.w (n1 hx (by omega)),fun hx=>H.s (n1 hx (by omega)),fun hx=>H.f (n1 hx (by omega)),fun hx=>H.e (n1 hx (by omega)),fun hx=>H.wk (n1 hx (by omega)),fun i hi hx=>H.ws i hi (n1 hx (by omega)),H.po,H.set,H.pl,H.zl,H.sui,H.ow,H.ext,H.few⟩
theorem zal.fs (H:zal (fun k=>X k∨k=6) C Z K h0 bw bp o n V P h)(x4:X 4){sv:Value}{l:List (List Int)}(hs:OwnRs o 6 h sv l):zal X C Z K h0 bw bp o n {V with sv:=sv} {P with stamps:=l} h:=
 have n1:∀{k},¬X k→k≠6→¬(X k∨k=6):=fun a b h=>h.elim a b
 ⟨fun hx=>H.q (n1 hx (by omega)),fun hx=>H.c (n1 hx (by omega)),fun hx=>H.l (n1 hx (by omega)),fun hx=>absurd x4 hx,fun hx=>H.w (n1 hx (by omega)),fun _=>hs,fun hx=>H.f (n1 hx (by omega)),fun hx=>H.e (n1 hx (by omega)),fun hx=>H.wk (n1 hx (by omega)),fun i hi hx=>H.ws i hi (n1 hx (by omega)),H.po,H.set,H.pl,H.zl,H.sui,H.ow,H.ext,H.few⟩
theorem zal.ff (H:zal (fun k=>X k∨k=7) C Z K h0 bw bp o n V P h)(x4:X 4){lv:Value}{l:List (List Int)}(hs:OwnRs o 7 h lv l):zal X C Z K h0 bw bp o n {V with lv:=lv} {P with left:=l} h:=
 have n1:∀{k},¬X k→k≠7→¬(X k∨k=7):=fun a b h=>h.elim a b
 ⟨fun hx=>H.q (n1 hx (by omega)),fun hx=>H.c (n1 hx (by omega)),fun hx=>H.l (n1 hx (by omega)),fun hx=>absurd x4 hx,fun hx=>H.w (n1 hx (by omega)),fun hx=>H.s (n1 hx (by omega)),fun _=>hs,fun hx=>H.e (n1 hx (by omega)),fun hx=>H.wk (n1 hx (by omega)),fun i hi hx=>H.ws i hi (n1 hx (by omega)),H.po,H.set,H.pl,H.zl,H.sui,H.ow,H.ext,H.few⟩
theorem zal.fe (H:zal (fun k=>X k∨k=8) C Z K h0 bw bp o n V P h)(x4:X 4){ev:Value}{l:List Int}(hs:Rp.Sl (Rp.int .i64) (fun c=>o c=8) h ev l):zal X C Z K h0 bw bp o n {V with ev:=ev} {P with fin:=l} h:=
 have n1:∀{k},¬X k→k≠8→¬(X k∨k=8):=fun a b h=>h.elim a b
 ⟨fun hx=>H.q (n1 hx (by omega)),fun hx=>H.c (n1 hx (by omega)),fun hx=>H.l (n1 hx (by omega)),fun hx=>absurd x4 hx,fun hx=>H.w (n1 hx (by omega)),fun hx=>H.s (n1 hx (by omega)),fun hx=>H.f (n1 hx (by omega)),fun _=>hs,fun hx=>H.wk (n1 hx (by omega)),fun i hi hx=>H.ws i hi (n1 hx (by omega)),H.po,H.set,H.pl,H.zl,H.sui,H.ow,H.ext,H.few⟩
end
end
end Go.Proofs.YtcoimlclclnlkaaGreatDoor
namespace Go.Proofs.YtcoimlclclnlkaaGreatDoor
open Go Go.Crisp
attribute [local irreducible] FCall rowK newK stK iteK vK qK drawK gK joinK loopK mkK appK cpyK zoB zmd bsK clK zh1 zgb newmK
open _root_.Go.Proofs.Tryz
section
theorem znx {h:Heap}{b:Nat}{v:Value}{m:Pic}(H:IsImg h b v m)(hf:fitsZ m.w m.h m.c):FCall prog zgq #[ptr b] h fun r h'=>r=.int .i64 (m.w*m.h*m.c)∧h'=h:=by
 apply ok_pool_size
 unfold znZ
 have bd:=zbv hf
 refine FCall.at (zh7 H) (FCall.at (zgZ H) ?_)
 simp only[go_sem]
 rw[w64 (n:=m.w*m.h) (by omega) (by omega)]
 refine FCall.at (zbH H) ?_
 simp only[go_sem]
 rw[w64 (n:=m.w*m.h*m.c) (by omega) (by omega)]
 exact⟨rfl,trivial⟩
def zcr (C:C21)(Z:Nat→Prop)(K:Nat)(h0:Heap)(bw:Nat→Nat)(bp:Nat)(o:Nat→Nat)(n:Pic)(P:PoolD)(h:Heap):Prop:=∃V,zal (fun _=>False) C Z K h0 bw bp o n V P h
def PTo (C:C21)(Z:Nat→Prop)(K:Nat)(h0:Heap)(bw:Nat→Nat)(bp:Nat)(o:Nat→Nat)(h:Heap)(n':Pic)(P':PoolD)(h':Heap):Prop:=∃o',zcr C Z K h0 bw bp o' n' P' h'∧(∀c,c<h.size→o' c=o c)∧Fr (fun c=>o c≠0∨outB (some C.E) c) h h'
def noteP (P:PoolD)(who:Nat)(buf lo cnt:Int)(wr:Bool):PoolD:={P with acc:=P.acc++[⟨who,P.rows who,buf,lo,lo+cnt,wr⟩]}
section
variable {C:C21}{Z:Nat→Prop}{K:Nat}{h0 h:Heap}{bw:Nat→Nat}{bp:Nat}{o:Nat→Nat}{n:Pic}{P:PoolD}
theorem zcr.row (H:zcr C Z K h0 bw bp o n P h):∃V,zal (fun _=>False) C Z K h0 bw bp o n V P h∧h[bp]? =some (.cells (zcR C V P) 197 (0,0)):=by
 obtain⟨V,H⟩:=H
 exact⟨V,H,H.p id⟩
theorem PTo.refl (H:zcr C Z K h0 bw bp o n P h):PTo C Z K h0 bw bp o h n P h:=⟨o,H,fun _ _=>rfl,Fr.refl _ _⟩
theorem zcr.ext {h':Heap}(H:zcr C Z K h0 bw bp o n P h)(e:Ext h h'):zcr C Z K h0 bw bp o n P h':=by
 obtain⟨V,H⟩:=H
 exact⟨V,H.ex e⟩
theorem PTo.trans {o1:Nat→Nat}{h1 h2:Heap}{n1 n2:Pic}{P1 P2:PoolD}(a:zcr C Z K h0 bw bp o1 n1 P1 h1∧(∀c,c<h.size→o1 c=o c)∧Fr (fun c=>o c≠0∨outB (some C.E) c) h h1)(b:PTo C Z K h0 bw bp o1 h1 n2 P2 h2):PTo C Z K h0 bw bp o h n2 P2 h2:=by
 obtain⟨H1,a1,f1⟩:=a
 obtain⟨o2,H2,a2,f2⟩:=b
 have s:=f1.1
 exact⟨o2,H2,fun c hc=>(a2 c (by omega)).trans (a1 c hc),f1.after f2 fun c hc h=>h.imp (fun h=>by rwa [a1 c hc]at h) id⟩
theorem fill_acc {r:Value}(hr:zam r=true)(a b c d:Int)(w:Bool):fillL #[(.int .i64 0),(.slice none 0 0),(.int .i64 0),(.int .i64 0),(.int .i64 0),(.bool false)] [(0,1,.int .i64 a),(1,1,r),(2,1,.int .i64 b),(3,1,.int .i64 c),(4,1,.int .i64 d),(5,1,.bool w)]=some #[.int .i64 a,r,.int .i64 b,.int .i64 c,.int .i64 d,.bool w]:=by
 refine(zaV (n:=1) (l:=[.int .i64 a]) rfl rfl (by simp)).trans ?_
 refine(zaV (n:=1) (l:=[r]) (zaK hr) rfl (by simp[zbl])).trans ?_
 refine(zaV (n:=1) (l:=[.int .i64 b]) rfl rfl (by simp[zbl])).trans ?_
 refine(zaV (n:=1) (l:=[.int .i64 c]) rfl rfl (by simp[zbl])).trans ?_
 refine(zaV (n:=1) (l:=[.int .i64 d]) rfl rfl (by simp[zbl])).trans ?_
 refine(zaV (n:=1) (l:=[.bool w]) rfl rfl (by simp[zbl])).trans ?_
 rw[zcV]
 simp[wrL]
theorem zpU (H:zcr C Z K h0 bw bp o n P h){who:Nat}(hw:who≤K){buf lo cnt:Int}{wr:Bool}(hl:P.acc.length≤1000000)(hb:0≤buf)(h1:0≤lo)(h2:1≤cnt)(h3:lo+cnt≤1000000000000):
  FCall prog zaX #[ptr bp,.int .i64 (who:Int),.int .i64 buf,.int .i64 lo,.int .i64 cnt,.bool wr] h fun r h'=>r=.tuple #[]∧PTo C Z K h0 bw bp o h n (noteP P who buf lo cnt wr) h':=by
 obtain⟨V,H,row⟩:=H.row
 apply znd
 unfold zhA
 have c4:zah h ⟨bp,4,none⟩=some V.vc:=zab row
 refine zaj (fun k=>k=h) rfl ?_
 simp only[go_sem,Nat.zero_add]
 refine zae V.vc (fun k e=>by rw[e];exact c4) ?_
 rw[w64 (n:=lo+cnt) (by omega) (by omega)]
 refine(c_Now (H.c id) who).mono fun r g1 ⟨o1,e1,n1⟩=>?_
 have hnow:nowF (K+1) P.rows (who:Int)=P.rows who:=by
  unfold nowF
  rw[if_pos (by omega),Int.toNat_natCast]
 rw[hnow]at o1
 have hlen:(P.rows who).length=K+1:=by
  obtain⟨bc,sl,sv,t,_,CA⟩:=H.c id
  exact CA.len who (by omega)
 have hK:=H.few
 rw[vK_map _ #[.int .i64 (who:Int),r,.int .i64 buf,.int .i64 lo,.int .i64 (lo+cnt),.bool wr] (fill_acc (zm0 o1) _ _ _ _ _)]
 have H1:=H.ex e1
 obtain⟨Zl,ol,z1,z2⟩:=H1.l id
 have hp4:=H.po
 have L:LedIn Zl g1 bp 5 (zcR C V P) 197 V.sl P.acc:=⟨e1.row row,rfl,ol,⟨fun h=>by have:=z2 _ h;omega,fun h=>by have:=z1 _ h;omega⟩,fun c hc=>(H1.ow c (by rw[z1 c hc];omega)).1⟩
 refine(c_AddP (a:=⟨who,P.rows who,buf,lo,lo+cnt,wr⟩) L ⟨r,rfl,o1.ints⟩ (by show(P.rows who).length≤_;omega) hl (by simp[mayA];omega)).mono fun _ g2 ⟨s',Z',L',f2,n2,nz⟩=>?_
 have A0:Fr (fun c=>(fun k=>k=3∨k=4) (o c)) g1 g2:=f2.mono fun c _ hc=>hc.elim (fun h=>.inr (by rw[h];exact hp4)) fun h=>.inl (z2 c h)
 have H2:=H.take ((H1.chg (A:=fun k=>k=3∨k=4) (by omega) A0)) (b:=3)
 have s1:=e1.1
 have s2:=f2.1
 have g3:∀c,blk s' c∨Z' c→grow o 3 h.size g2.size c=3:=fun c hc=>by
  have lt:c<g2.size:=hc.elim (fun h=>L'.own.lt h) fun h=>L'.zlt c h
  unfold grow
  split
  ·rfl
  ·rcases hc with h9|h9
   ·exact(n2 c h9).elim (z2 c) fun h=>by omega
   ·exact(nz c h9).elim (z1 c) fun h=>by omega
 have H3:=(H2.less (Y:=fun k=>k=4∨k=3) fun k hk=>by rcases hk with (h|h|h)|h<;>first|exact h.elim|exact .inr h|exact .inl h).fl (X:=fun k=>k=4) rfl ⟨Z',L'.own,fun c hc=>g3 c (.inr hc),fun c hc=>g3 c (.inl hc)⟩
 have H4:=(H3.less (Y:=fun k=>False∨k=4) fun k hk=>.inr hk).fp (X:=fun _=>False) (st:=P.sent) (rt:=P.ret) (pk:=P.picks) L'.var
 exact⟨trivial,_,⟨_,H4⟩,fun c hc=>zcK hc,(e1.fr (M:=fun c=>o c≠0∨outB (some C.E) c)).after A0 fun c _ hc=>.inl (by rcases hc with h|h<;>omega)⟩
end
end
section
def runsP (C:C21)(K:Nat)(P:PoolD)(i:Int):Bool:=
 if i<0∨(K:Int)<i then false
 else if 0<i then decide ((P.ws (i-1).toNat).state=1∨((P.ws (i-1).toNat).state=0∧recvR P.q≠1))
 else if P.ret=true then false
 else if P.sent<zaN C.d then decide (sendR P.q≠1)
 else !P.q.closed||decide (P.left.length=K)
section
variable {C:C21}{Z:Nat→Prop}{K:Nat}{h0 h:Heap}{bw:Nat→Nat}{bp:Nat}{o:Nat→Nat}{n:Pic}{P:PoolD}
theorem SlC.len {w:Nat}{h:Heap}{v:Value}{n:Nat}{cs:List Value}(H:SlC w h v n cs):zaf v=some (.int .i64 (n:Int)):=by
 obtain⟨a,c,e⟩:=H.isSl
 rw[e];rfl
theorem OwnRs.len {k:Nat}{v:Value}{l:List (List Int)}(H:OwnRs o k h v l):zaf v=some (.int .i64 (l.length:Int)):=by
 obtain⟨Z,o1,_⟩:=H
 obtain⟨a,c,e⟩:=o1.isSl
 rw[e];rfl
theorem zal.wat {X:Nat→Prop}{V:PV}(H:zal X C Z K h0 bw bp o n V P h)(x9:¬X 9){i:Nat}(hi:i<K):∃p,idxV 1 V.wv (.int .i64 (i:Int))=some p∧ldV h p=some (ptr (bw i)):=by
 obtain⟨p,a1,a2⟩:=(H.wk x9).1.at1 (k:=.i64) hi
 refine⟨p,a1,?_⟩
 rw[a2];simp[hi]
theorem c_gone (H:zcr C Z K h0 bw bp o n P h):FCall prog zff #[ptr bp] h fun r h'=>r=.bool (decide (P.left.length=K))∧h'=h:=by
 obtain⟨V,H,row⟩:=H.row
 apply znf
 unfold zhC
 have c6:zah h ⟨bp,6,none⟩=some V.wv:=zab row
 have c11:zah h ⟨bp,11,none⟩=some V.lv:=zab row
 have e6:=SlC.len (H.wk id).1
 have e11:=(H.f id).len
 simp only[go_sem,Nat.zero_add,c6,c11,e6,e11]
 exact⟨by congr 1;simp;omega,trivial⟩
theorem c_runs (O:C.Ok)(H:zcr C Z K h0 bw bp o n P h){i:Int}(hi:I64 i):FCall prog zdq #[ptr bp,.int .i64 i] h fun r h'=>r=.bool (runsP C K P i)∧h'=h:=by
 have HP:=H
 obtain⟨V,H,row⟩:=H.row
 apply znb
 unfold zhy
 have c6:zah h ⟨bp,6,none⟩=some V.wv:=zab row
 have c3:zah h ⟨bp,3,none⟩=some (ptr C.bq):=zab row
 have c12:zah h ⟨bp,12,none⟩=some (.bool P.ret):=zab row
 have c8:zah h ⟨bp,8,none⟩=some (.int .i64 P.sent):=zab row
 have c2:zah h ⟨bp,2,none⟩=some (ptr C.bl):=zab row
 have e6:=SlC.len (H.wk id).1
 have hq:=H.q id
 unfold runsP
 unfold I64 at hi
 by_cases h1:i<0
 ·simp only[go_sem,h1]
  exact⟨by simp,trivial⟩
 by_cases h2:(K:Int)<i
 ·simp only[go_sem,Nat.zero_add,h1,c6,e6,h2]
  exact⟨by simp,trivial⟩
 rw[if_neg (by omega)]
 by_cases h3:0<i
 ·rw[if_pos h3]
  simp only[go_sem,Nat.zero_add,h1,c6,e6,h2,h3]
  refine zaj (fun k=>k=h) rfl ?_
  refine zae V.wv (fun k e=>by rw[e];exact c6) ?_
  rw[w64 (n:=i-1) (by omega) (by omega)]
  obtain⟨m,hm⟩:∃m:Nat,i-1=(m:Int):=⟨(i-1).toNat,by omega⟩
  have hmk:m<K:=by omega
  obtain⟨p,a1,a2⟩:=H.wat id hmk
  rw[hm,a1,zaa]
  refine zae (ptr (bw m)) (fun k e=>by rw[e];exact a2) ?_
  try simp only[go_sem,Nat.zero_add]
  refine zae (ptr C.bq) (fun k e=>by rw[e];exact c3) ?_
  refine(zny (H.ws m hmk id) hq).mono fun r h' ⟨er,eh⟩=>?_
  subst eh
  exact⟨by rw[er,Int.toNat_natCast],rfl⟩
 ·rw [if_neg h3]
  simp only[go_sem,Nat.zero_add,h1,c6,e6,h2,h3,c12]
  by_cases h4:P.ret=true
  ·rw[if_pos h4,h4]
   simp only[go_sem]
   exact⟨trivial,trivial⟩
  ·rw[if_neg h4]
   have h5:P.ret=false:=by simpa using h4
   rw[h5]
   simp only[go_sem,Nat.zero_add]
   refine zaj (fun k=>k=h) rfl ?_
   refine zae (.int .i64 P.sent) (fun k e=>by rw[e];exact c8) ?_
   try simp only[go_sem,Nat.zero_add]
   refine zae (ptr C.bl) (fun k e=>by rw[e];exact c2) ?_
   refine FCall.at (znz H.pl O.d) ⟨rfl,?_⟩
   rw[zbp,zaa]
   refine zac (fun g=>?_) (fun g=>?_)
   ·rw[if_pos g]
    simp only[go_sem,Nat.zero_add,c3]
    exact c_CanSend hq
   ·rw[if_neg g]
    simp only[go_sem,Nat.zero_add,c3]
    refine FCall.at (c_qClosed hq) ?_
    cases hc:P.q.closed with
    |true=>
     simp only[go_sem]
     refine FCall.at (c_gone HP) ?_
     simp only[go_sem]
     exact⟨by simp,trivial⟩
    |false=>
     simp only[go_sem]
     exact⟨by simp,trivial⟩
end
end
section
def runL (C:C21)(K:Nat)(P:PoolD)(k:Nat):List Int:=((List.range k).map fun i:Nat=>(i:Int)).filter fun i=>runsP C K P i
theorem runL_succ (C:C21)(K:Nat)(P:PoolD)(k:Nat):runL C K P (k+1)=runL C K P k++if runsP C K P (k:Int)=true then[(k:Int)]else[]:=by
 unfold runL
 rw[List.range_succ,List.map_append,List.filter_append]
 congr 1
 simp[List.filter_cons]
theorem runL_len (C:C21)(K:Nat)(P:PoolD)(k:Nat):(runL C K P k).length≤k:=by
 unfold runL
 exact Nat.le_trans (List.length_filter_le _ _) (by simp)
section
variable {C:C21}{Z:Nat→Prop}{K:Nat}{h0 h:Heap}{bw:Nat→Nat}{bp:Nat}{o:Nat→Nat}{n:Pic}{P:PoolD}
theorem zsU (H:zcr C Z K h0 bw bp o n P h):FCall prog zb5 #[ptr bp] h fun r h'=>r=.int .i64 ((K+1:Nat):Int)∧h'=h:=by
 obtain⟨V,H,row⟩:=H.row
 apply zk6
 unfold zfY
 have c6:zah h ⟨bp,6,none⟩=some V.wv:=zab row
 have e6:=SlC.len (H.wk id).1
 have hk:=H.few
 simp only[go_sem,Nat.zero_add,c6,e6]
 rw[w64 (n:=(K:Int)+1) (by omega) (by omega)]
 exact⟨rfl,trivial⟩
theorem zpY (O:C.Ok)(H:zcr C Z K h0 bw bp o n P h):FCall prog zce #[ptr bp] h fun r h'=>New (Rp.int .i64) h h' r (runL C K P (K+1)):=by
 apply zjq
 unfold zeP
 have hk:K≤256:=by obtain⟨V,H⟩:=H;exact H.few.2
 refine FCall.at (zsU H) ?_
 refine zaF (α:=Value) (K+1) 0 (fun i v=>[v,.int .i64 (i:Int)]) (fun i v g=>New (Rp.int .i64) h g v (runL C K P i)) (.slice none 0 0) rfl (Nat.zero_le _) (New.nil (Ext.refl _)) fun i v g again ρ _ hi N Hag=>?_
 simp only[ix_0,ix_1]
 rw[zbp,zaa]
 refine zac (fun g1=>?_) (fun g1=>?_)
 ·have hi':i<K+1:=by omega
  have hw':(i:Int)+1=((i+1:Nat):Int):=by omega
  have hl:=runL_len C K P i
  refine FCall.at (c_runs O (H.ext N.2.1) (by unfold I64;omega)) ?_
  have hs:=runL_succ C K P i
  cases hr:runsP C K P (i:Int)with
  |true=>
   rw[hr,if_pos rfl]at hs
   rw[zcU]
   refine New.push_int N rfl (by omega) (by omega) fun v2 g2 N2=>?_
   simp only[go_sem]
   rw[w64 (n:=(i:Int)+1) (by omega) (by omega),hw']
   exact Hag v2 g2 hi' (by rw[hs];exact N2)
  |false=>
   rw[hr]at hs
   rw[zbo]
   simp only[go_sem]
   rw[w64 (n:=(i:Int)+1) (by omega) (by omega),hw']
   exact Hag v g hi' (by rw[hs];simpa using N)
 ·have:i=K+1:=by omega
  subst this
  exact N
theorem zqG (H:zcr C Z K h0 bw bp o n P h):FCall prog zdg #[ptr bp] h fun r h'=>r=.bool P.ret∧h'=h:=by
 obtain⟨V,H,row⟩:=H.row
 apply zjr
 unfold zeQ
 have c:zah h ⟨bp,12,none⟩=some (.bool P.ret):=zab row
 simp only[go_sem,Nat.zero_add,c]
 exact⟨trivial,trivial⟩
theorem c_poolPicks (H:zcr C Z K h0 bw bp o n P h):FCall prog zet #[ptr bp] h fun r h'=>r=.int .i64 P.picks∧h'=h:=by
 obtain⟨V,H,row⟩:=H.row
 apply zmu
 unfold zgJ
 have c:zah h ⟨bp,13,none⟩=some (.int .i64 P.picks):=zab row
 simp only[go_sem,Nat.zero_add,c]
 exact⟨trivial,trivial⟩
theorem c_poolResult (H:zcr C Z K h0 bw bp o n P h):FCall prog zd1 #[ptr bp] h fun r h'=>(P.ret=false∧r=.tuple #[.pointer none,.bool false]∧h'=h)∨(P.ret=true∧∃p,r=.tuple #[p,.bool true]∧ziN h h' p n):=by
 obtain⟨V,H,row⟩:=H.row
 apply zk5
 unfold zfX
 have c12:zah h ⟨bp,12,none⟩=some (.bool P.ret):=zab row
 have c1:zah h ⟨bp,1,none⟩=some (ptr C.bt):=zab row
 simp only[go_sem,Nat.zero_add,c12]
 cases P.ret with
 |false=>
  simp only[go_sem]
  exact .inl ⟨trivial,trivial,trivial⟩
 |true=>
  simp only[go_sem,Nat.zero_add,c1]
  exact(c_Copy H.set.out H.sui.1).mono fun r h' N=>.inr ⟨trivial,r,rfl,N⟩
theorem zrC {p:Value}{t:Tbl}(H:IsTbl Z h p t):zam p=true:=by
 obtain⟨b,lv,rfl,_⟩:=H.open
 rfl
theorem c_Stage {b:Nat}{d:PlanD}{p q:Value}(H:ziO Z h b d p q):FCall prog zcn #[ptr b] h fun r h'=>r=.agg #[p,q,.int .i64 d.s.border]∧Ext h h':=by
 apply zmv
 unfold zgK
 refine zag fun b1 h1 r1 e1 n1=>?_
 simp only[go_sem]
 rw[zsD (e1.row H.row) 0 3 [p,q,.int .i64 d.s.border] rfl rfl,zaa]
 refine zbA (l:=[p,q,.int .i64 d.s.border]) r1 rfl (zad (zrC H.x) (zad (zrC H.y) (zad rfl zaq))) rfl fun h2 r2 u2=>?_
 rw[zap r2 3 rfl,zaa]
 exact⟨rfl,e1.upd n1 u2⟩
end
end
end Go.Proofs.YtcoimlclclnlkaaGreatDoor
namespace Go.Proofs.YtcoimlclclnlkaaGreatDoor
open Go Go.Crisp
open _root_.Go.Proofs.Tryz
section
theorem clK12 {f:FuncId}{a c1 c2:Value}{h:Heap}{K:Value→Heap→Prop}:clK prog (.func (.func f) #[] #[c1,c2]) #[a] h K=FCall prog f #[a,c1,c2] h K:=rfl
attribute [local irreducible] FCall rowK newK stK iteK vK qK drawK gK joinK loopK mkK appK cpyK zoB zmd bsK clK zh1 zgb newmK
def zix (C:C21)(x:Int):Int:=(roomN (mostL C.d.s.y.lines):Int)*(zcI ((zat C.d x).w*C.m.c):Int)
section
variable {X:Nat→Prop}{C:C21}{Z:Nat→Prop}{K:Nat}{h0 h g:Heap}{bw:Nat→Nat}{bp:Nat}{o:Nat→Nat}{n:Pic}{V:PV}{P:PoolD}{x:Int}
theorem c_open (O:C.Ok)(G:GlobB h0)(H:zal X C Z K h0 bw bp o n V P g)(x4:¬X 4)(h1:0≤x)(h2:x<zaN C.d):FCall prog zfd #[ptr bp,.int .i64 x] g fun r g2=>
  ∃Bj bj rv,r=ptr bj∧Ext g g2∧(∀c,Bj c→g.size≤c∧c<g2.size)∧zdG Z Bj g2 (some C.E) n (ptr bj) (C.jo x)∧JobSt Z Bj g2 bj C.bf C.vf C.bt C.vt C.p C.q rv ⟨C.m,C.d.s,zat C.d x⟩ (zat C.d x).y (lnF C.d.s.y (zat C.d x).y) n (roomN (mostL C.d.s.y.lines)) (zcI ((zat C.d x).w*C.m.c)):=by
 have row:=H.p x4
 apply znc
 unfold zhz
 have c2:zah g ⟨bp,2,none⟩=some (ptr C.bl):=zab row
 simp only[go_sem,Nat.zero_add,c2]
 refine FCall.to (zhK H.pl O.d h1 h2) fun g1 e1=>?_
 have x0:extV (.tuple #[.agg (tileC (zat C.d x)).toArray,.bool true]) 0=some (.agg (tileC (zat C.d x)).toArray):=rfl
 have x1:extV (.tuple #[.agg (tileC (zat C.d x)).toArray,.bool true]) 1=some (.bool true):=rfl
 simp only[x0,x1,zaa]
 refine zbh (cs:=tileC (zat C.d x)) rfl (zdi _) rfl fun b g2 r2 e2 n2=>?_
 have E2:=e1.trans e2
 have row2:=E2.row row
 have H2:=H.ex E2
 refine zaj (Ext g2) (Ext.refl _) ?_
 try simp only[go_sem,Nat.zero_add]
 refine zae (ptr C.bf) (fun k e=>zab (e.row row2)) ?_
 refine zae (ptr C.bt) (fun k e=>zab (e.row row2)) ?_
 refine zae (ptr C.bl) (fun k e=>zab (e.row row2)) ?_
 refine zae (.agg (tileC (zat C.d x)).toArray) (fun k e=>zap (e.row r2) 10 rfl) ?_
 refine(c_Stage H2.pl).mono fun r g3 ⟨er,e3⟩=>?_
 subst er
 refine⟨e3,?_⟩
 rw[H.zl.2.1,H.zl.2.2]
 have H3:=H2.ex e3
 refine(c_wNewS (G.ext H3.ext) H3.set O.m H3.sui.1 O.s.wf).mono fun r g4 HW=>?_
 obtain⟨bj,rv,er,e4,J,JS⟩:=WNew.has O H3.sui h1 h2 HW
 subst er
 have y0:extV (.tuple #[ptr bj,.int .i64 0]) 0=some (ptr bj):=rfl
 have y1:extV (.tuple #[ptr bj,.int .i64 0]) 1=some (.int .i64 0):=rfl
 simp only[go_sem,y0,y1,ne_eq,eqT,not_true,decide_false]
 have le:g.size≤g3.size:=(E2.trans e3).1
 exact⟨_,bj,rv,rfl,(E2.trans e3).trans e4,fun c hc=>hc.elim False.elim fun h=>⟨by omega,h.2⟩,J,JS⟩
theorem op_pool (O:C.Ok)(G:GlobB h0)(H:zal X C Z K h0 bw bp o n V P g)(x4:¬X 4)(x5:¬X 5)(h1:0≤x)(h2:x<zaN C.d){b1 b3 k:Nat}{T1 T3:TypeId}(hk:k<K)(r1:g[b1]? =some (.cells #[ptr bp] T1 (0,0)))(r3:g[b3]? =some (.cells #[.int .i64 ((k:Int)+1)] T3 (0,0))):
  clK prog (.func (.func zbT) #[] #[ptr b1,ptr b3]) #[.int .i64 x] g fun r g2=>∃Bj,(∀c,Bj c→g.size≤c∧c<g2.size)∧zdG Z Bj g2 (some C.E) n r (C.jo x)∧Fr (blk V.dv) g g2∧Own 1 g2 V.dv K ((List.range K).map fun i=>.int .i64 (if i=k then zix C x else P.words i)):=by
 rw[clK12]
 apply zkf
 unfold zfn
 have hK:=H.few
 have c1:zah g ⟨b1,0,none⟩=some (ptr bp):=zab r1
 simp only[go_sem,c1]
 refine(c_open O G H x4 h1 h2).mono fun r g2 ⟨Bj,bj,rv,er,e2,hB,J,JS⟩=>?_
 subst er
 rw[ptr_nn,zaa,zcU]
 have row:=e2.row (H.p x4)
 have c7:zah g2 ⟨bp,7,none⟩=some V.dv:=zab row
 refine zaj (fun k=>k=g2) rfl ?_
 refine zae (ptr bp) (fun k e=>by rw[e];exact zab (e2.row r1)) ?_
 try simp only[go_sem,Nat.zero_add]
 refine zae V.dv (fun k e=>by rw[e];exact c7) ?_
 refine zae (.int .i64 ((k:Int)+1)) (fun k e=>by rw[e];exact zab (e2.row r3)) ?_
 simp only[go_sem]
 rw[w64 (n:=(k:Int)+1-1) (by omega) (by omega),show(k:Int)+1-1=(k:Int)by omega]
 refine FCall.at (zrk JS) ⟨rfl,?_⟩
 have o2:Own 1 g2 V.dv K ((List.range K).map fun i=>Value.int .i64 (P.words i)):=(H.w x5).1.fr (M:=fun _=>False) e2.fr fun _ _=>id
 obtain⟨p,a1,a2,a3⟩:=Own.at_map o2 (k:=.i64) hk
 rw[a1,zaa]
 refine a3 _ _ fun g3 o3 f3=>?_
 have lt5:∀c,blk V.dv c→c<g.size:=fun c hc=>(H.w x5).1.lt hc
 have oc:∀c,blk V.dv c→o c=5:=(H.w x5).2
 have sz:=e2.1
 have J3:=J.other f3 (fun c hz hc=>(H.ow c (by rw[oc c hc];omega)).2.2.1 hz) (fun c hb hc=>by have:=hB c hb;have:=lt5 c hc;omega) (fun E' hE=>by cases hE;exact⟨((H.ex e2).set.out).fr f3 (fun hc=>(H.ow _ (by rw[oc _ hc];omega)).2.2.2.1 rfl) fun c hv hc=>(H.ow c (by rw[oc c hc];omega)).2.2.2.2 hv,H.sui.1⟩) (zbe.refl n)
 exact⟨Bj,fun c hc=>⟨(hB c hc).1,Nat.lt_of_lt_of_le (hB c hc).2 f3.1⟩,J3,e2.after f3,o3⟩
end
end
end Go.Proofs.YtcoimlclclnlkaaGreatDoor
namespace Go.Proofs.YtcoimlclclnlkaaGreatDoor
open Go Go.Crisp
attribute [local irreducible] FCall rowK newK stK iteK vK qK drawK gK joinK loopK mkK appK cpyK zoB zmd bsK clK zh1 zgb newmK
open _root_.Go.Proofs.Tryz
section
theorem IsW.bmono {Z B B':Nat→Prop}{h:Heap}{bw:Nat}{E:Option WE}{n:Pic}{w:WD}(H:IsW Z B h bw E n w)(hb:∀c,B c→B' c)(hl:∀c,B' c→c<h.size)(hz:∀c,B' c→¬Z c∧outV E c∧¬outB E c):IsW Z B' h bw E n w:=by
 obtain⟨⟨tv,jv,Bj,r,o,J,a1,a2,a3⟩,b1,b2,b3,zl,I,st⟩:=H
 exact⟨⟨tv,jv,Bj,r,o,J,fun c hc=>⟨hb c (a1 c hc).1,(a1 c hc).2⟩,fun c hc=>hb c (a2 c hc),a3⟩,hb _ b1,hl,hz,zl,I,st⟩
theorem IsQ.bmono {Q Q':Nat→Prop}{h:Heap}{b:Nat}{d:QD}(H:IsQ Q h b d)(hb:∀c,Q c→Q' c)(hl:∀c,Q' c→c<h.size):IsQ Q' h b d:=by
 obtain⟨⟨v,r,o,c,n,s⟩,qb,ql,w⟩:=H
 exact⟨⟨v,r,o,c,n,fun c hc=>hb c (s c hc)⟩,hb _ qb,hl,w⟩
theorem zbQ.bmono {M M':Nat→Prop}{h:Heap}{v:Value}{n:Nat}{rows:Nat→List Int}(H:zbQ M h v n rows)(hb:∀c,M c→M' c)(hl:∀c,M' c→c<h.size):zbQ M' h v n rows:=by
 obtain⟨bc,sl,sv,t,e,L⟩:=H
 exact⟨bc,sl,sv,t,e,L.var,L.arr,L.row,L.len,L.pos,⟨hb _ L.inM.1,fun b hc=>hb b (L.inM.2.1 b hc),fun i hi b hc=>hb b (L.inM.2.2 i hi b hc)⟩,L.ap1,L.ap2,L.ap3,hl⟩
def stepP (C:C21)(P:PoolD)(k:Nat):PoolD:=
 {P with q:=(stepW (some C.E) (C.jo (recvX P.q)) (P.ws k) P.q).2.1,ws:=fun i=>if i=k then(stepW (some C.E) (C.jo (recvX P.q)) (P.ws k) P.q).1 else P.ws i,words:=fun i=>if i=k∧(P.ws k).state=0∧recvR P.q=0 then zix C (recvX P.q)else P.words i}
section
variable {C:C21}{Z:Nat→Prop}{K:Nat}{h0 h:Heap}{bw:Nat→Nat}{bp:Nat}{o:Nat→Nat}{n:Pic}{V:PV}{P:PoolD}
theorem c_pstep (O:C.Ok)(G:GlobB h0)(H:zal (fun _=>False) C Z K h0 bw bp o n V P h){k:Nat}(hk:k<K){b1 b3:Nat}{T1 T3:TypeId}(r1:h[b1]? =some (.cells #[ptr bp] T1 (0,0)))(r3:h[b3]? =some (.cells #[.int .i64 ((k:Int)+1)] T3 (0,0)))(p1:o b1=0)(p3:o b3=0)(ht:(P.ws k).tiles.length≤1000000)(hb:∀c,outB (some C.E) c→h0.size≤c)
  (hx:takes (P.ws k) P.q→0≤recvX P.q∧recvX P.q<zaN C.d):
  FCall prog zaD #[ptr (bw k),ptr C.bq,.func (.func zbT) #[] #[ptr b1,ptr b3]] h fun r h'=>r=evV (stepW (some C.E) (C.jo (recvX P.q)) (P.ws k) P.q).2.2∧
   ∃n' o',zal (fun _=>False) C Z K h0 bw bp o' n' V (stepP C P k) h'∧(∀c,c<h.size→o' c=o c)∧Fr (fun c=>(o c=10+k∨o c=1∨o c=5)∨outB (some C.E) c) h h'∧Drew (some C.E) (P.ws k) n n':=by
 have W:=H.ws k hk id
 have Q:=H.q id
 obtain⟨ow5,oc5⟩:=H.w id
 have lt5:∀c,blk V.dv c→c<h.size:=fun c hc=>ow5.lt hc
 have nob:∀c,o c≠0→¬outB (some C.E) c:=fun c hc=>(H.ow c hc).2.2.2.2
 refine(c_wStep (jo:=C.jo (recvX P.q)) (Qo:=blk V.dv) (P0:=fun g=>Own 1 g V.dv K ((List.range K).map fun i=>Value.int .i64 (P.words i))) (P1:=fun g=>Own 1 g V.dv K ((List.range K).map fun i=>Value.int .i64 (if i=k then zix C (recvX P.q)else P.words i))) W Q ht (fun tk=>.inr ⟨rfl,fun h1 f1 w1=>?_⟩) (fun c hc h=>by omega) (fun c hc=>(H.ow c (by omega)).2.2) (fun c hc=>?_) (fun g g' f=>?_) ow5).mono fun r h' ⟨er,⟨⟨n',B',Q',W',q',j1,j2,j3,Dr⟩,f⟩,p1',p0'⟩=>?_
 ·have f2:Fr (fun c=>(fun j=>j=10+k∨j=1) (o c)) h h1:=f1
  have H1:=H.chg (A:=fun j=>j=10+k∨j=1) (by omega) f2
  have nx:∀{j},j≠10+k→j≠1→¬(False∨(j=10+k∨j=1)):=fun a b h=>by rcases h with h|h|h<;>first|exact h|exact a h|exact b h
  exact op_pool O G H1 (nx (by omega) (by omega)) (nx (by omega) (by omega)) (hx tk).1 (hx tk).2 hk (f1.row r1 (by omega)) (f1.row r3 (by omega))
 ·have h5:=oc5 c hc
  have:=H.ow c (by omega)
  exact⟨this.1,by omega,by omega,this.2.2⟩
 ·have q:∀c,blk V.dv c→¬(outB (some C.E) c∨o c=10+k∨o c=1∨h.size≤c):=fun c hc hh=>by
   have h5:=oc5 c hc
   have:=lt5 c hc
   rcases hh with hh|hh
   ·exact nob c (by omega) hh
   ·omega
  exact⟨fun w=>w.fr f q,fun w=>w.fr f q⟩
 ·have f2:Fr (fun c=>(fun j=>j=10+k∨j=1∨j=5) (o c)∨outB (some C.E) c) h h':=f.mono fun c _ hc=>by
   rcases hc with hc|hc|hc|hc
   ·exact .inr hc
   ·exact .inl (.inl hc)
   ·exact .inl (.inr (.inl hc))
   ·exact .inl (.inr (.inr (oc5 c hc)))
  have sz:=f.1
  have H2:=H.chgO (A:=fun j=>j=10+k∨j=1∨j=5) (by omega) hb f2 W'.out Dr.1
  have Bl:=W'.bl
  have Ql:=q'.ql
  obtain⟨o',oo,on,ob,oq⟩:∃o':Nat→Nat,(∀c,c<h.size→o' c=o c)∧(∀c,h.size≤c→o' c≠0→(o' c=10+k∨o' c=1)∧c<h'.size)∧(∀c,B' c→o' c=10+k)∧∀c,Q' c→o' c=1:=by
   classical
   refine⟨fun c=>if c<h.size then o c else if B' c then 10+k else if Q' c then 1 else 0,fun c hc=>if_pos hc,fun c hc h1=>?_,fun c hc=>?_,fun c hc=>?_⟩
   ·have h2:¬c<h.size:=by omega
    simp only[if_neg h2]at h1 ⊢
    by_cases b:B' c
    ·simp only[if_pos b];exact⟨.inl trivial,Bl c b⟩
    ·simp only[if_neg b]at h1 ⊢
     by_cases q:Q' c
     ·simp only[if_pos q];exact⟨.inr trivial,Ql c q⟩
     ·simp only[if_neg q]at h1;exact absurd rfl h1
   ·by_cases h2:c<h.size
    ·simp only[if_pos h2]
     exact(j1 c hc).elim id fun h=>by omega
    ·simp only[if_neg h2,if_pos hc]
   ·have nb:¬B' c:=fun hb=>j3 c hb hc
    by_cases h2:c<h.size
    ·simp only[if_pos h2]
     exact(j2 c hc).elim id fun h=>by omega
    ·simp only[if_neg h2,if_neg nb,if_pos hc]
  have H3:=H2.relab (B:=fun j=>j=10+k∨j=1) (o':=o') oo (fun c hc=>(H.fresh hc).1) on H.ext.1 fun c hc=>(H.fresh hc).2
  have q3:IsQ (fun c=>o' c=1) h' C.bq _:=q'.bmono oq fun c hc=>(H3.ow c (by rw[hc];omega)).1
  have W3:IsW Z (fun c=>o' c=10+k) h' (bw k) (some C.E) n' _:=W'.bmono ob (fun c hc=>(H3.ow c (by rw[hc];omega)).1) fun c hc=>(H3.ow c (by rw[hc];omega)).2.2
  have w3:Own 1 h' V.dv K ((List.range K).map fun i=>Value.int .i64 ((stepP C P k).words i)):=by
   by_cases tk:(P.ws k).state=0∧recvR P.q=0
   ·have e:(fun i=>Value.int .i64 ((stepP C P k).words i))=fun i=>Value.int .i64 (if i=k then zix C (recvX P.q)else P.words i):=by
     funext i
     show Value.int .i64 (if i=k∧(P.ws k).state=0∧recvR P.q=0 then _ else _)=_
     by_cases hi:i=k
     ·rw[if_pos ⟨hi,tk⟩,if_pos hi]
     ·rw[if_neg (fun h=>hi h.1),if_neg hi]
    rw[e]
    exact p1' tk
   ·have e:(fun i=>Value.int .i64 ((stepP C P k).words i))=fun i=>Value.int .i64 (P.words i):=by
     funext i
     show Value.int .i64 (if i=k∧(P.ws k).state=0∧recvR P.q=0 then _ else _)=_
     rw[if_neg fun h=>tk h.2]
    rw[e]
    exact p0' tk
  have oc':∀c,blk V.dv c→o' c=5:=fun c hc=>by rw[oo c (lt5 c hc)];exact oc5 c hc
  have nx:∀{j},j≠10+k→j≠1→j≠5→¬((False∨(j=10+k∨j=1∨j=5))∨(j=10+k∨j=1)):=fun a b c h=>by rcases h with (h|h|h|h)|h|h<;>first|exact h|exact a h|exact b h|exact c h
  refine⟨er,n',o',⟨fun _=>q3,fun _=>H3.c (nx (by omega) (by omega) (by omega)),fun _=>H3.l (nx (by omega) (by omega) (by omega)),fun _=>H3.p (nx (by omega) (by omega) (by omega)),fun _=>⟨w3,oc'⟩,fun _=>H3.s (nx (by omega) (by omega) (by omega)),fun _=>H3.f (nx (by omega) (by omega) (by omega)),fun _=>H3.e (nx (by omega) (by omega) (by omega)),fun _=>H3.wk (nx (by omega) (by omega) (by omega)),fun i hi _=>?_,H3.po,H3.set,H3.pl,H3.zl,H3.sui,H3.ow,H3.ext,H3.few⟩,oo,f2,Dr⟩
  by_cases he:i=k
  ·subst he
   show IsW Z _ h' _ _ n' (if i=i then _ else _)
   rw[if_pos rfl]
   exact W3
  ·show IsW Z _ h' _ _ n' (if i=k then _ else _)
   rw[if_neg he]
   exact H3.ws i hi (nx (by omega) (by omega) (by omega))
end
end
section
def zmA (C:C21)(P:PoolD)(k:Nat)(e:EvD):PoolD:=
 if e.2.2.1=1 then noteP (noteP P (k+1) 0 (atZ C.d.s.border e.2.2.2 C.m.h*(C.m.w*C.m.c)) (C.m.w*C.m.c) false) (k+1) (k+2) 0 (P.words k) true
 else noteP (noteP P (k+1) (k+2) 0 (P.words k) false) (k+1) 1 ((e.2.2.2*C.d.X+(zat C.d e.2.1).x)*C.m.c) ((zat C.d e.2.1).w*C.m.c) true
section
variable {C:C21}{Z:Nat→Prop}{K:Nat}{h0 h:Heap}{bw:Nat→Nat}{bp:Nat}{o:Nat→Nat}{n:Pic}{P:PoolD}
theorem c_moved (O:C.Ok)(H:zcr C Z K h0 bw bp o n P h){k:Nat}(hk:k<K){e:EvD}(hl:P.acc.length≤999999)(hx:0≤e.2.1∧e.2.1<zaN C.d)(hr:I64 e.2.2.2)(hy:e.2.2.1≠1→0≤e.2.2.2∧e.2.2.2<C.d.Y)(hw:1≤P.words k∧P.words k≤100000000000):
  FCall prog zer #[ptr bp,.int .i64 ((k:Int)+1),evV e] h fun r h'=>r=.tuple #[]∧PTo C Z K h0 bw bp o h n (zmA C P k e) h':=by
 obtain⟨ek,et,emk,emr⟩:=e
 have HP:=H
 obtain⟨V,H,row⟩:=H.row
 apply zms
 unfold zgH
 have x0:extV (.tuple #[.agg (tileC (zat C.d et)).toArray,.bool true]) 0=some (.agg (tileC (zat C.d et)).toArray):=rfl
 have x1:extV (.tuple #[.agg (tileC (zat C.d et)).toArray,.bool true]) 1=some (.bool true):=rfl
 refine zag fun b1 h1 r1 e1 n1=>?_
 have r1:h1[b1]? =some (.cells #[.int .i64 ek,.int .i64 et,.int .i64 emk,.int .i64 emr] 99 (0,0)):=r1
 refine zar (fun xs g=>∃bt,xs=[ptr bt]∧h.size≤bt∧Ext h1 g∧g[bt]? =some (.cells (tileC (zat C.d et)).toArray 65 (0,0))) ?_ ?_
 ·refine zaj (Ext h1) (Ext.refl _) ?_
  simp only[go_sem,Nat.zero_add]
  refine zae (ptr C.bl) (fun g e=>zab (e.row (e1.row row))) ?_
  refine zae (.int .i64 et) (fun g e=>zab (e.row r1)) ?_
  have one:∀v∈tileC (zat C.d et),zam v=true:=zdi _
  refine⟨?_,?_⟩
  ·refine FCall.to (zhK (H.ex e1).pl O.d hx.1 hx.2) fun g2 e2=>⟨e2,?_⟩
   simp only[x0,x1,zaa]
   refine zag fun bt g3 r3 e3 n3=>⟨e2.trans e3,?_⟩
   refine zbA (l:=tileC (zat C.d et)) r3 rfl one rfl fun g4 r4 u4=>?_
   have E:=(e2.trans e3).upd (Nat.le_trans e2.1 n3) u4
   have s1:=e1.1
   have s2:=e2.1
   exact⟨E,bt,rfl,by omega,E,r4⟩
  ·refine zag fun bt g2 r2 e2 n2=>⟨e2,?_⟩
   refine FCall.to (zhK ((H.ex e1).ex e2).pl O.d hx.1 hx.2) fun g3 e3=>⟨e2.trans e3,?_⟩
   simp only[x0,x1,zaa]
   refine zbA (l:=tileC (zat C.d et)) (e3.row r2) rfl one rfl fun g4 r4 u4=>?_
   have E:=(e2.trans e3).upd n2 u4
   have s1:=e1.1
   exact⟨E,bt,rfl,by omega,E,r4⟩
 rintro xs ρ g ⟨bt,rfl,nbt,e2,rt⟩
 have E:=e1.trans e2
 have rg:=e2.row r1
 have rowg:=E.row row
 have c7:zah g ⟨bp,7,none⟩=some V.dv:=zab rowg
 have c1:zah g ⟨bp,1,none⟩=some (ptr C.bt):=zab rowg
 have m2:zah g ⟨b1,2,none⟩=some (.int .i64 emk):=zab rg
 have hK:=H.few
 have Hg:=H.ex E
 have HPg:=HP.ext E
 simp only[ix_0,go_sem,Nat.zero_add,c7]
 rw[w64 (n:=(k:Int)+1-1) (by omega) (by omega),show(k:Int)+1-1=(k:Int)by omega]
 obtain⟨p,a1,a2,_⟩:=Own.at_map (Hg.w id).1 (k:=.i64) hk
 rw[a1,zaa,a2,zaa,m2,zaa,zeB,zaa]
 have bf:=zbv O.m.fits
 have sui:=H.sui.2
 obtain⟨s1,s2,s3,s4,s5⟩:=sui
 have who:((k:Int)+1)=((k+1:Nat):Int):=by omega
 have PT0:∀{h'} {P'},PTo C Z K h0 bw bp o g n P' h'→PTo C Z K h0 bw bp o h n P' h':=fun{h' P'} T=>PTo.trans (h1:=g) ⟨HPg,fun _ _=>rfl,E.fr⟩ T
 refine zac (fun hm=>?_) (fun hm=>?_)
 ·have hm:emk=1:=hm
  subst hm
  refine zaj (fun k=>k=g) rfl ?_
  refine zae (ptr C.bf) (fun k e=>by rw[e];exact zab rowg) ?_
  refine zae (ptr C.bf) (fun k e=>by rw[e];exact zab rowg) ?_
  refine FCall.at (zh7 Hg.set.src) ⟨rfl,?_⟩
  refine FCall.at (zbH Hg.set.src) ?_
  have wc:1≤C.m.w*C.m.c∧C.m.w*C.m.c≤65536*3:=⟨Int.mul_pos (by omega) (by omega),Int.mul_le_mul (by omega) (by omega) (by omega) (by omega)⟩
  simp only[go_sem]
  rw[w64 (n:=C.m.w*C.m.c) (by omega) (by omega)]
  refine zaj (Ext g) (Ext.refl _) ?_
  refine zae (ptr C.bl) (fun k e=>zab (e.row rowg)) ?_
  try simp only[go_sem,Nat.zero_add]
  refine zae (.int .i64 emr) (fun k e=>zab (e.row rg)) ?_
  try simp only[go_sem,Nat.zero_add]
  refine zae (ptr C.bf) (fun k e=>zab (e.row rowg)) ?_
  refine(c_Stage Hg.pl).mono fun r g3 ⟨er,e3⟩=>?_
  subst er
  refine⟨e3,?_⟩
  have pv:partV false 1 2 (.agg #[C.pp,C.pq,.int .i64 C.d.s.border])=some (.int .i64 C.d.s.border):=rfl
  rw[pv,zaa]
  have H3:=Hg.ex e3
  refine FCall.at (zgZ H3.set.src) ⟨e3,?_⟩
  refine FCall.at (zhM hr) ?_
  have ha:=atZ_in (p:=C.d.s.border) (j:=emr) (n:=C.m.h) (by omega) (by omega)
  have hlo:=zf8 (a:=atZ C.d.s.border emr C.m.h) (A:=65536) (b:=C.m.w*C.m.c) (B:=65536*3) (by omega) (by omega) (by omega) (by omega)
  simp only[go_sem]
  rw[w64 (n:=atZ C.d.s.border emr C.m.h*(C.m.w*C.m.c)) (by omega) (by omega),who]
  refine(zpU (HPg.ext e3) (who:=k+1) (by omega) (by omega) (by omega) hlo.1 wc.1 (by omega)).mono fun r g4 ⟨er,o4,H4,q4,f4⟩=>?_
  rw[w64 (n:=1+((k+1:Nat):Int)) (by omega) (by omega),show 1+((k+1:Nat):Int)=(k:Int)+2 by omega]
  refine(zpU H4 (who:=k+1) (by omega) (by simp[noteP];omega) (by omega) (by omega) hw.1 (by omega)).mono fun r g5 ⟨er,T⟩=>?_
  have T2:=PTo.trans (h1:=g4) ⟨H4,q4,f4⟩ T
  have T3:=PTo.trans (h1:=g3) (P1:=P) ⟨HPg.ext e3,fun _ _=>rfl,e3.fr⟩ T2
  refine⟨trivial,?_⟩
  unfold zmA
  rw[if_pos rfl]
  exact PT0 T3
 ·have hy:0≤emr∧emr<C.d.Y:=hy hm
  rw[c1,zaa]
  refine FCall.at (zbH Hg.set.out) ?_
  rw[w64 (n:=1+((k:Int)+1)) (by omega) (by omega),show 1+((k:Int)+1)=(k:Int)+2 by omega,who]
  refine(zpU HPg (who:=k+1) (by omega) (by omega) (by omega) (by omega) hw.1 (by omega)).mono fun r g4 ⟨er,o4,H4,q4,f4⟩=>?_
  have nf:∀{c},h.size≤c→¬(o c≠0∨outB (some C.E) c):=fun hc h=>h.elim (fun h=>h (H.fresh hc).1) (H.fresh hc).2.2.2
  have rg4:=f4.row rg (nf n1)
  have rt4:=f4.row rt (nf nbt)
  obtain⟨V4,B4,row4⟩:=H4.row
  have wf:=zeb O.d (i:=et) hx.1 hx.2
  unfold zbY at wf
  refine zaj (fun k=>k=g4) rfl ?_
  refine zae (.int .i64 emr) (fun k e=>by rw[e];exact zab rg4) ?_
  try simp only[go_sem,Nat.zero_add]
  refine zae (ptr C.bt) (fun k e=>by rw[e];exact zab row4) ?_
  try simp only[go_sem,Nat.zero_add]
  refine zae (.int .i64 (zat C.d et).x) (fun k e=>by rw[e];exact zab rt4) ?_
  try simp only[go_sem,Nat.zero_add]
  refine zae (.int .i64 (zat C.d et).w) (fun k e=>by rw[e];exact zab rt4) ?_
  have bd:=PlanD.bd O.d
  have wX:(zat C.d et).x+(zat C.d et).w≤C.d.X:=by show _≤((C.d.s.x.lines.length:Nat):Int);omega
  have nc:n.c=C.m.c:=s4
  have hwc:=zf8 (a:=(zat C.d et).w) (A:=65536) (b:=C.m.c) (B:=3) (by omega) (by omega) (by omega) (by omega)
  have hw1:1≤(zat C.d et).w*C.m.c:=Int.mul_pos (by omega) (by omega)
  have hyx:=zf8 (a:=emr) (A:=65536) (b:=C.d.X) (B:=65536) (by omega) (by omega) (by omega) (by omega)
  have hyc:=zf8 (a:=emr*C.d.X+(zat C.d et).x) (A:=65536*65536+65536) (b:=C.m.c) (B:=3) (by omega) (by omega) (by omega) (by omega)
  rw[nc]
  simp only[go_sem]
  rw[w64 (n:=(zat C.d et).w*C.m.c) (by omega) (by omega)]
  refine FCall.at (zh7 B4.set.out) ⟨rfl,?_⟩
  rw[show n.w=C.d.X from s2]
  simp only[go_sem]
  rw[w64 (n:=emr*C.d.X) (by omega) (by omega),w64 (n:=emr*C.d.X+(zat C.d et).x) (by omega) (by omega),w64 (n:=(emr*C.d.X+(zat C.d et).x)*C.m.c) (by omega) (by omega)]
  refine(zpU H4 (who:=k+1) (by omega) (by simp[noteP];omega) (by omega) hyc.1 hw1 (by omega)).mono fun r g5 ⟨er,T⟩=>?_
  have T2:=PTo.trans (h1:=g4) ⟨H4,q4,f4⟩ T
  refine⟨trivial,?_⟩
  unfold zmA
  rw[if_neg hm]
  exact PT0 T2
end
end
section
section
variable {C:C21}{Z:Nat→Prop}{K:Nat}{h0 g g1 g2:Heap}{bw:Nat→Nat}{bp:Nat}{o:Nat→Nat}{n:Pic}{V:PV}{P:PoolD}
theorem zal.setrow (H:zal (fun _=>False) C Z K h0 bw bp o n V P g)(u:Upd bp g g1){st:Int}{rt:Bool}{pk:Int}(r:g1[bp]? =some (.cells (zcR C V {P with sent:=st,ret:=rt,picks:=pk}) 197 (0,0))):zal (fun _=>False) C Z K h0 bw bp o n V {P with sent:=st,ret:=rt,picks:=pk} g1:=by
 have hp:=H.po
 exact(H.chg (A:=fun k=>k=4) (by omega) (u.fr.mono fun c _ hc=>by rw[show c=bp from hc];exact hp)).fp r
theorem zal.putS (H:zal (fun k=>k=6) C Z K h0 bw bp o n V P g){s:Value}{l:List (List Int)}(hs:OwnRs o 6 g s l)(u:Upd bp g g1)(r:g1[bp]? =some (.cells (zcR C {V with sv:=s} P) 197 (0,0))):zal (fun _=>False) C Z K h0 bw bp o n {V with sv:=s} {P with stamps:=l} g1:=by
 have hp:=H.po
 have f:Fr (fun c=>(fun k=>k=4) (o c)) g g1:=u.fr.mono fun c _ hc=>by rw[show c=bp from hc];exact hp
 have H1:=(H.chg (A:=fun k=>k=4) (by omega) f).less (Y:=fun k=>k=4∨k=6) fun k hk=>hk.symm
 have H2:=H1.fs (X:=fun k=>k=4) rfl (hs.fr f fun c hc h=>by have h:o c=4:=h;omega)
 exact(H2.less (Y:=fun k=>False∨k=4) fun k hk=>.inr hk).fp (X:=fun _=>False) (st:=P.sent) (rt:=P.ret) (pk:=P.picks) r
theorem zal.putL (H:zal (fun k=>k=7) C Z K h0 bw bp o n V P g){s:Value}{l:List (List Int)}(hs:OwnRs o 7 g s l)(u:Upd bp g g1)(r:g1[bp]? =some (.cells (zcR C {V with lv:=s} P) 197 (0,0))):zal (fun _=>False) C Z K h0 bw bp o n {V with lv:=s} {P with left:=l} g1:=by
 have hp:=H.po
 have f:Fr (fun c=>(fun k=>k=4) (o c)) g g1:=u.fr.mono fun c _ hc=>by rw[show c=bp from hc];exact hp
 have H1:=(H.chg (A:=fun k=>k=4) (by omega) f).less (Y:=fun k=>k=4∨k=7) fun k hk=>hk.symm
 have H2:=H1.ff (X:=fun k=>k=4) rfl (hs.fr f fun c hc h=>by have h:o c=4:=h;omega)
 exact(H2.less (Y:=fun k=>False∨k=4) fun k hk=>.inr hk).fp (X:=fun _=>False) (st:=P.sent) (rt:=P.ret) (pk:=P.picks) r
theorem zal.putE (H:zal (fun k=>k=8) C Z K h0 bw bp o n V P g){s:Value}{l:List Int}(hs:Rp.Sl (Rp.int .i64) (fun c=>o c=8) g s l)(u:Upd bp g g1)(r:g1[bp]? =some (.cells (zcR C {V with ev:=s} P) 197 (0,0))):zal (fun _=>False) C Z K h0 bw bp o n {V with ev:=s} {P with fin:=l} g1:=by
 have hp:=H.po
 have f:Fr (fun c=>(fun k=>k=4) (o c)) g g1:=u.fr.mono fun c _ hc=>by rw[show c=bp from hc];exact hp
 have H1:=(H.chg (A:=fun k=>k=4) (by omega) f).less (Y:=fun k=>k=4∨k=8) fun k hk=>hk.symm
 have H2:=H1.fe (X:=fun k=>k=4) rfl (hs.fr f fun c _ hc h=>by have h:o c=4:=h;omega)
 exact(H2.less (Y:=fun k=>False∨k=4) fun k hk=>.inr hk).fp (X:=fun _=>False) (st:=P.sent) (rt:=P.ret) (pk:=P.picks) r
theorem grow_two {o:Nat→Nat}{j k lo hi:Nat}(h:∀c,lo≤c→o c=0)(hj:k≠j)(hk:k≠0):(fun c=>grow o j lo hi c=k)=fun c=>o c=k:=by
 funext c
 refine propext ?_
 unfold grow
 split
 ·rename_i h3
  rw[h c h3.1]
  omega
 ·exact Iff.rfl
theorem zal.rs_push (H:zal (fun _=>False) C Z K h0 bw bp o n V P g){j:Nat}(hj:j≠0∧j≠2){v:Value}{l:List (List Int)}(HR:OwnRs o j g v l){rows:Nat→List Int}{r:Value}{x:List Int}(o1:OwnI g1 r x)(c1:zbQ (fun c=>o c=2) g1 V.vc (K+1) rows)(f1:Fr (fun c=>o c=2) g g1)(n1:∀b,blk r b→g.size≤b)
  {Q:Heap→Prop} {z z':Value} {t t':TypeId} {K':Value→Heap→Prop} (hz:z.cells.size=1) (hl:l.length≤1000000000) (hQ:∀h',Ext g1 h'→Q h')
  (HK:∀s' g2,OwnRs (grow o j g.size g2.size) j g2 s' (l++[x])→zal (fun k=>k=j) C Z K h0 bw bp (grow o j g.size g2.size) n V {P with rows:=rows} g2→Fr (fun c=>o c=2∨o c=j) g g2→Fr (fun c=>o c=j) g1 g2→K' s' g2):
  rowK #[z'] t 1 [(0,1,r)] g1 fun v2 h3=>Q h3∧appK z t' 1 24 v v2 h3 K':=by
 obtain⟨Zr,ow,z1,z2⟩:=HR
 have s1:=f1.1
 have q1:∀c,Zr c∨blk v c→¬o c=2:=fun c hc=>by have:=hc.elim (z1 c) (z2 c);omega
 have ow1:=ow.fr f1 (fun c _ hc=>q1 c (.inl hc)) fun c hc=>q1 c (.inr hc)
 have dz:∀b,blk v b→¬Zr b:=by obtain⟨_,_,d,_⟩:=ow;exact d
 have ob:∀c,o c=j→c<g.size:=fun c hc=>(H.ow c (by omega)).1
 have o2:Rp.Ow rIs (fun b=>Zr b∨blk r b) g1 v l:=ow1.mono (fun b _ hb=>.inl hb) fun b hb hz=>by
  rcases hz with hz|hz
  ·exact dz b hb hz
  ·have:=ob b (z2 b hb);have:=n1 b hz;omega
 refine Rp.push_ow1S (P:=fun _=>False) (e:=rIs) (x:=x) rfl o2 ⟨r,rfl,znm o1.ints fun _ b hb=>.inr hb⟩ hz (by omega) (by omega) (fun b hb=>?_) hQ fun s' g2 o3 f3 n3=>?_
 ·rcases hb with hb|hb
  ·have:=ob b (z1 b hb);omega
  ·exact Own.lt o1 hb
 have f3':Fr (fun c=>o c=j) g1 g2:=f3.mono fun c _ hc=>z2 c hc
 have s3:=f3.1
 have fA:Fr (fun c=>(fun k=>k=2∨k=j) (o c)) g g2:=(f1.mono fun c _ hc=>.inl hc).after f3' fun c _ hc=>.inr hc
 have H2:=H.take (H.chg (A:=fun k=>k=2∨k=j) (by omega) fA) (b:=j)
 have g2f:∀c,c<g2.size→(o c=j∨g.size≤c)→grow o j g.size g2.size c=j:=fun c hl hc=>by
  unfold grow
  split
  ·rfl
  ·exact hc.elim id fun h=>by omega
 have hR:OwnRs (grow o j g.size g2.size) j g2 s' (l++[x]):=by
  refine⟨fun b=>Zr b∨blk r b,o3,fun c hc=>?_,fun c hc=>g2f c (o3.lt hc) ?_⟩
  ·rcases hc with hc|hc
   ·exact g2f c (by have:=ob c (z1 c hc);omega) (.inl (z1 c hc))
   ·exact g2f c (by have:=Own.lt o1 hc;omega) (.inr (n1 c hc))
  ·rcases n3 c hc with h|h
   ·exact .inl (z2 c h)
   ·exact .inr (by omega)
 have c2:zbQ (fun c=>grow o j g.size g2.size c=2) g2 V.vc (K+1) rows:=by
  have e:(fun c=>grow o j g.size g2.size c=2)=fun c=>o c=2:=by
   funext c
   refine propext ?_
   unfold grow
   split
   ·rename_i h3
    rw[(H.fresh h3.1).1]
    omega
   ·exact Iff.rfl
  rw[e]
  exact c1.fr f3' fun c _ hc h=>by have h:o c=j:=h;omega
 have H3:=(H2.less (Y:=fun k=>k=j∨k=2) fun k hk=>by rcases hk with (h|h|h)|h<;>first|exact h.elim|exact .inr h|exact .inl h).fc c2
 exact HK s' g2 hR H3 fA f3'
theorem c_meet (H:zal (fun _=>False) C Z K h0 bw bp o n V P g){i:Nat}{u:Value}{s:List Int}(hu:Ints g u s)(hs:s.length≤4398046511104):
  FCall prog zbt #[V.vc,.int .i64 (i:Int),u] g fun r g1=>zal (fun _=>False) C Z K h0 bw bp (grow o 2 g.size g1.size) n V {P with rows:=meetF (K+1) P.rows i s} g1∧Fr (fun c=>o c=2) g g1:=by
 refine(c_Meet (H.c id) i hu hs).mono fun r g1 ⟨_,M',c1,f1,m1⟩=>?_
 have f1':Fr (fun c=>(fun k=>k=2) (o c)) g g1:=f1
 have H2:=H.take (H.chg (A:=fun k=>k=2) (by omega) f1') (b:=2)
 refine⟨(H2.less (Y:=fun k=>False∨k=2) fun k hk=>by rcases hk with (h|h)|h<;>first|exact h.elim|exact .inr h).fc (c1.bmono (fun c hc=>?_) fun c hc=>(H2.ow c (by rw[hc];omega)).1),f1⟩
 unfold grow
 split
 ·rfl
 ·rename_i h3
  have lt:c<g1.size:=by
   obtain⟨bc,sl,sv,t,_,L⟩:=c1
   exact L.lt c hc
  rcases m1 c hc with h|h
  ·exact h
  ·omega
end
end
section
def evP (C:C21)(P:PoolD)(k:Nat):EvD:=(stepW (some C.E) (C.jo (recvX P.q)) (P.ws k) P.q).2.2
def leaveP (K:Nat)(P:PoolD)(k:Nat):PoolD:=
 {P with rows:=tickF (K+1) (meetF (K+1) P.rows (k+1:Nat) P.fin) (k+1:Nat),left:=P.left++[meetF (K+1) P.rows (k+1:Nat) P.fin (k+1)]}
def workP (C:C21)(K:Nat)(P:PoolD)(k:Nat):PoolD:=
 if(evP C P k).1=1 then{stepP C P k with rows:=meetF (K+1) P.rows (k+1:Nat) (P.stamps.getD (evP C P k).2.1.toNat [])}
 else if(evP C P k).1=2 then zmA C (stepP C P k) k (evP C P k)
 else if(evP C P k).1=3 then leaveP K (stepP C P k) k
 else stepP C P k
section
variable {C:C21}{Z:Nat→Prop}{K:Nat}{h0 h:Heap}{bw:Nat→Nat}{bp:Nat}{o:Nat→Nat}{n:Pic}{P:PoolD}
theorem c_work (O:C.Ok)(G:GlobB h0)(H:zcr C Z K h0 bw bp o n P h){k:Nat}(hk:k<K)(ht:(P.ws k).tiles.length≤1000000)(hb:∀c,outB (some C.E) c→h0.size≤c)(hl:P.acc.length≤999999)(hlf:P.left.length≤1000000000)
  (hx:takes (P.ws k) P.q→0≤recvX P.q∧recvX P.q<zaN C.d)
  (h1:(evP C P k).1=1→0≤(evP C P k).2.1∧(evP C P k).2.1<P.stamps.length)
  (hs:∀s∈P.stamps,s.length≤4398046511104) (hf:P.fin.length≤4398046511104)
  (h2:(evP C P k).1=2→(0≤(evP C P k).2.1∧(evP C P k).2.1<zaN C.d)∧I64 (evP C P k).2.2.2∧((evP C P k).2.2.1≠1→0≤(evP C P k).2.2.2∧(evP C P k).2.2.2<C.d.Y)∧1≤(stepP C P k).words k∧(stepP C P k).words k≤100000000000):
  FCall prog zfc #[ptr bp,.int .i64 ((k:Int)+1)] h fun r h'=>∃n',PTo C Z K h0 bw bp o h n' (workP C K P k) h'∧Drew (some C.E) (P.ws k) n n':=by
 have HP:=H
 obtain⟨V,H,row⟩:=H.row
 apply zna
 unfold zhx
 have hK:=H.few
 refine zag fun b1 g1 r1 e1 n1=>zag fun b3 g3 r3 e3 n3=>?_
 have r1:g1[b1]? =some (.cells #[ptr bp] _ (0,0)):=r1
 have r3:g3[b3]? =some (.cells #[.int .i64 ((k:Int)+1)] _ (0,0)):=r3
 have r1:=e3.row r1
 have E:=e1.trans e3
 have H3:=H.ex E
 have row3:=E.row row
 have s1:=e1.1
 have s3:=e3.1
 have f1:=H.fresh (c:=b1) n1
 have f3:=H.fresh (c:=b3) (by omega)
 have who:((k:Int)+1)=((k+1:Nat):Int):=by omega
 generalize hev:evP C P k=e at*
 have hev':(stepW (some C.E) (C.jo (recvX P.q)) (P.ws k) P.q).2.2=e:=hev
 refine zar (fun xs g=>∃be n' o' T,xs=[ptr be]∧g[be]? =some (.cells #[.int .i64 e.1,.int .i64 e.2.1,.int .i64 e.2.2.1,.int .i64 e.2.2.2] T (0,0))∧zal (fun _=>False) C Z K h0 bw bp o' n' V (stepP C P k) g∧(∀c,c<h.size→o' c=o c)∧Fr (fun c=>o c≠0∨outB (some C.E) c) h g∧g[b1]? =some (.cells #[ptr bp] 105 (0,0))∧g[b3]? =some (.cells #[.int .i64 ((k:Int)+1)] 3 (0,0))∧o' b1=0∧o' b3=0∧o' be=0∧Drew (some C.E) (P.ws k) n n') ?_ ?_
 ·have nS:∀{c},o c=4∨o c=9→¬((o c=10+k∨o c=1∨o c=5)∨outB (some C.E) c):=fun{c} hc h=>h.elim (by omega) (H.ow c (by omega)).2.2.2.2
  have nL:∀{c},h.size≤c→¬((o c=10+k∨o c=1∨o c=5)∨outB (some C.E) c):=fun{c} hc h=>h.elim (by have:=(H.fresh hc).1;omega) (H.fresh hc).2.2.2
  have M0:Fr (fun c=>o c≠0∨outB (some C.E) c) h g3:=E.fr
  have hM:∀c,((o c=10+k∨o c=1∨o c=5)∨outB (some C.E) c)→o c≠0∨outB (some C.E) c:=fun c hc=>hc.imp (by omega) id
  have tc:evV e=.agg [.int .i64 e.1,.int .i64 e.2.1,.int .i64 e.2.2.1,.int .i64 e.2.2.2].toArray:=rfl
  have one:∀v∈[Value.int .i64 e.1,.int .i64 e.2.1,.int .i64 e.2.2.1,.int .i64 e.2.2.2],zam v=true:=zad rfl (zad rfl (zad rfl (zad rfl zaq)))
  refine zaj (Fr (fun c=>(o c=10+k∨o c=1∨o c=5)∨outB (some C.E) c) g3) (Fr.refl _ _) ?_
  refine zae (ptr bp) (fun g f=>zab (f.row r1 (nL n1))) ?_
  simp only[go_sem,Nat.zero_add]
  refine zae V.wv (fun g f=>zab (f.row row3 (nS (.inl H.po)))) ?_
  refine zae (.int .i64 ((k:Int)+1)) (fun g f=>zab (f.row r3 (nL (by omega)))) ?_
  simp only[go_sem]
  rw[w64 (n:=(k:Int)+1-1) (by omega) (by omega),show(k:Int)+1-1=(k:Int)by omega]
  obtain⟨p,a1,a2⟩:=H3.wat id hk
  rw[a1,zaa]
  refine zae (ptr (bw k)) (fun g f=>?_) ?_
  ·obtain⟨p',c1,c2⟩:=((H3.wk id).1.fr f fun c _ hc=>nS (.inr ((H3.wk id).2 c hc))).at1 (k:=.i64) hk
   rw[a1]at c1
   cases c1
   rw[c2];simp[hk]
  refine zae (ptr bp) (fun g f=>zab (f.row r1 (nL n1))) ?_
  try simp only[go_sem,Nat.zero_add]
  refine zae (ptr C.bq) (fun g f=>zab (f.row row3 (nS (.inl H.po)))) ?_
  have l1:=zaz r1
  have l3:=zaz r3
  refine⟨?_,?_⟩
  ·refine(c_pstep O G H3 hk r1 r3 f1.1 f3.1 ht hb hx).mono fun r g4 ⟨er,n',o',HB,oo,f4,Dr⟩=>⟨f4,?_⟩
   rw[hev']at er
   subst er
   have s4:=f4.1
   refine zag fun be g5 r5 e5 n5=>⟨f4.ext_r e5,?_⟩
   refine zbA (l:=[.int .i64 e.1,.int .i64 e.2.1,.int .i64 e.2.2.1,.int .i64 e.2.2.2]) r5 rfl one rfl fun g6 r6 u6=>?_
   have E6:=e5.upd n5 u6
   have f6:=f4.ext_r E6
   exact⟨f6,be,n',o',_,rfl,r6,HB.ex E6,fun c hc=>oo c (by omega),M0.after f6 fun c _ hc=>hM c hc,f6.row r1 (nL n1),f6.row r3 (nL (by omega)),by rw[oo _ l1];exact f1.1,by rw[oo _ l3];exact f3.1,(HB.fresh n5).1,Dr⟩
  ·refine zag fun be g4 r4 e4 n4=>⟨e4.fr,?_⟩
   have s4:=e4.1
   have l4:=zaz r4
   refine(c_pstep O G (H3.ex e4) hk (e4.row r1) (e4.row r3) f1.1 f3.1 ht hb hx).mono fun r g5 ⟨er,n',o',HB,oo,f5,Dr⟩=>⟨e4.fr.trans f5,?_⟩
   rw[hev']at er
   subst er
   have s5:=f5.1
   refine zbA (l:=[.int .i64 e.1,.int .i64 e.2.1,.int .i64 e.2.2.1,.int .i64 e.2.2.2]) (f5.row r4 (nL (by omega))) rfl one rfl fun g6 r6 u6=>?_
   have f6:=(e4.fr.trans f5).upd_new u6 (x:=be) n4
   have f4':=H.fresh (c:=be) (by omega)
   have ob:o' be=0:=by rw[oo be l4];exact f4'.1
   exact⟨f6,be,n',o',_,rfl,r6,HB.loc u6 ⟨ob,by have:=H.ext.1;omega,f4'.2⟩,fun c hc=>oo c (by omega),M0.after f6 fun c _ hc=>hM c hc,f6.row r1 (nL n1),f6.row r3 (nL (by omega)),by rw[oo _ (by omega)];exact f1.1,by rw[oo _ (by omega)];exact f3.1,ob,Dr⟩
 rintro xs ρ g ⟨be,n',o',T,rfl,re,HB,oo,fr,q1,q3,z1,z3,ze,Dr⟩
 have k0:zah g ⟨be,0,none⟩=some (.int .i64 e.1):=zab re
 have k1:zah g ⟨be,1,none⟩=some (.int .i64 e.2.1):=zab re
 have rowg:=HB.p id
 have hsg:=fr.1
 have hfin:∀{o2:Nat→Nat} {P2:PoolD} {g2:Heap},zcr C Z K h0 bw bp o2 n' P2 g2→(∀c,c<g.size→o2 c=o' c)→Fr (fun c=>o' c≠0∨outB (some C.E) c) g g2→PTo C Z K h0 bw bp o h n' P2 g2:=fun{o2 P2 g2} a b c=>⟨o2,a,fun c hc=>(b c (by omega)).trans (oo c hc),fr.after c fun c hc h=>h.imp (fun h=>by rwa [oo c hc]at h) id⟩
 have wP:workP C K P k=if e.1=1 then{stepP C P k with rows:=meetF (K+1) P.rows (k+1:Nat) (P.stamps.getD e.2.1.toNat [])}else if e.1=2 then zmA C (stepP C P k) k e else if e.1=3 then leaveP K (stepP C P k) k else stepP C P k:=by
  unfold workP
  rw[hev]
 rw[wP]
 simp only[ix_0,go_sem,Nat.zero_add,k0]
 refine zac (fun c1=>?_) (fun c1=>?_)
 ·rw[if_pos c1]
  obtain⟨m1,m2⟩:=h1 c1
  obtain⟨m,hm⟩:∃m:Nat,e.2.1=(m:Int):=⟨e.2.1.toNat,by omega⟩
  have hml:m<P.stamps.length:=by omega
  obtain⟨Zr,ow,_,_⟩:=HB.s id
  obtain⟨p,c,a1,a2,a3⟩:=ow.sl.at1 rfl (k:=.i64) (i:=m) hml
  obtain⟨v,hv,hS⟩:=a3
  cases hv
  have hi:=sl_ints hS
  refine zaj (fun k=>k=g) rfl ?_
  refine zae (ptr bp) (fun k e=>by rw[e];exact zab q1) ?_
  try simp only[go_sem,Nat.zero_add]
  refine zae V.vc (fun k e=>by rw[e];exact zab rowg) ?_
  refine zae (.int .i64 ((k:Int)+1)) (fun k e=>by rw[e];exact zab q3) ?_
  refine zae (ptr bp) (fun k e=>by rw[e];exact zab q1) ?_
  try simp only[go_sem,Nat.zero_add]
  refine zae V.sv (fun k e=>by rw[e];exact zab rowg) ?_
  refine zae (.int .i64 e.2.1) (fun k e=>by rw[e];exact k1) ?_
  rw[hm,a1,zaa]
  refine zae c (fun k e=>by rw[e];exact a2) ?_
  rw[who]
  have hsm:=hs _ (List.getElem_mem hml)
  refine(c_meet HB (i:=k+1) hi hsm).mono fun r g2 ⟨H2,f2⟩=>⟨n',hfin (o2:=grow o' 2 g.size g2.size) ⟨V,?_⟩ (fun c hc=>zcK hc) (f2.mono fun c _ hc=>.inl (by have hc:o' c=2:=hc;omega)),Dr⟩
  have e1:P.stamps.getD (m:Int).toNat []=P.stamps[m]:=by rw[Int.toNat_natCast,List.getD_eq_getElem?_getD,List.getElem?_eq_getElem hml];rfl
  rw[e1]
  exact H2
 rw[if_neg c1]
 refine zac (fun c2=>?_) (fun c2=>?_)
 ·rw[if_pos c2]
  obtain⟨m1,m2,m3,m4⟩:=h2 c2
  have q1':ldV g (ptr b1)=some (ptr bp):=zab q1
  have q3':ldV g (ptr b3)=some (.int .i64 ((k:Int)+1)):=zab q3
  have le:ldsV 4 g (ptr be)=some (evV e):=zap (l:=[.int .i64 e.1,.int .i64 e.2.1,.int .i64 e.2.2.1,.int .i64 e.2.2.2]) re 4 rfl
  have q1'':zah g ⟨b1,0,none⟩=some (ptr bp):=zab q1
  have q3'':zah g ⟨b3,0,none⟩=some (.int .i64 ((k:Int)+1)):=zab q3
  rw[q1'',zaa,q3'',zaa,le,zaa]
  refine(c_moved O (P:=stepP C P k) ⟨V,HB⟩ hk hl m1 m2 m3 m4).mono fun r g2 ⟨_,o2,a,b,c⟩=>⟨n',hfin a b c,Dr⟩
 rw[if_neg c2]
 refine zac (fun c3=>?_) (fun c3=>?_)
 ·rw[if_pos c3]
  refine zaj (fun k=>k=g) rfl ?_
  refine zae (ptr bp) (fun k e=>by rw[e];exact zab q1) ?_
  try simp only[go_sem,Nat.zero_add]
  refine zae V.vc (fun k e=>by rw[e];exact zab rowg) ?_
  refine zae (.int .i64 ((k:Int)+1)) (fun k e=>by rw[e];exact zab q3) ?_
  refine zae (ptr bp) (fun k e=>by rw[e];exact zab q1) ?_
  try simp only[go_sem,Nat.zero_add]
  refine zae V.ev (fun k e=>by rw[e];exact zab rowg) ?_
  rw[who]
  refine(c_meet HB (i:=k+1) (sl_ints (HB.e id)) hf).mono fun r g2 ⟨H2,f2⟩=>?_
  have f2L:∀{c},o' c=0→¬o' c=2:=fun h=>by omega
  have lq1:=zaz q1
  have lq3:=zaz q3
  have rb1:=f2.row q1 (f2L z1)
  have rb3:=f2.row q3 (f2L z3)
  have row2:=H2.p id
  have hp:=H2.po
  rw[who]at rb3
  refine zaj (fun k'=>k'[b1]? =some (.cells #[ptr bp] 105 (0,0))∧k'[b3]? =some (.cells #[.int .i64 ((k+1:Nat):Int)] 3 (0,0))∧k'[bp]? =some (.cells (zcR C V {stepP C P k with rows:=meetF (K+1) (stepP C P k).rows (k+1:Nat) (stepP C P k).fin}) 197 (0,0))) ⟨rb1,rb3,row2⟩ ?_
  refine zae (ptr bp) (fun k e=>zab e.1) ?_
  refine zae (ptr bp) (fun k e=>zab e.1) ?_
  try simp only[go_sem,Nat.zero_add]
  refine zae V.lv (fun k e=>zab e.2.2) ?_
  refine zae (ptr bp) (fun k e=>zab e.1) ?_
  try simp only[go_sem,Nat.zero_add]
  refine zae V.vc (fun k e=>zab e.2.2) ?_
  refine zae (.int .i64 ((k+1:Nat):Int)) (fun k e=>zab e.2.1) ?_
  refine(c_Tick (H2.c id) ((k+1:Nat):Int)).mono fun r g3 ⟨o3,c3',f3,n3⟩=>?_
  have gz:∀{c},c<g.size→o' c=0→¬grow o' 2 g.size g2.size c=2:=fun hl h=>by rw[zcK hl];omega
  have gp:¬grow o' 2 g.size g2.size bp=2:=by omega
  have S3:=And.intro (f3.row rb1 (gz lq1 z1)) (And.intro (f3.row rb3 (gz lq3 z3)) (f3.row row2 gp))
  refine⟨S3,?_⟩
  have hnow:nowF (K+1) (meetF (K+1) (stepP C P k).rows (k+1:Nat) (stepP C P k).fin) ((k+1:Nat):Int)=meetF (K+1) P.rows (k+1:Nat) P.fin (k+1):=by
   unfold nowF
   rw[if_pos (by omega),Int.toNat_natCast]
   rfl
  rw[hnow]at o3
  refine H2.rs_push (j:=7) (by omega) (H2.f id) o3 c3' f3 n3 rfl hlf (fun h' e=>⟨e.row S3.1,e.row S3.2.1,e.row S3.2.2⟩) fun s' g4 hR H4 fA f4=>?_
  have g7:∀{c},c<g.size→o' c=0→¬grow o' 2 g.size g2.size c=7:=fun hl h=>by rw[zcK hl];omega
  have row4:=f4.row S3.2.2 (show¬grow o' 2 g.size g2.size bp=7 by omega)
  refine⟨⟨f4.row S3.1 (g7 lq1 z1),f4.row S3.2.1 (g7 lq3 z3),row4⟩,?_⟩
  have os:zam s'=true:=by
   obtain⟨_,o5,_⟩:=hR
   exact o5.one
  refine zaH row4 (show 11<_ from by simp[zcR]) os fun g5 r5 u5=>?_
  have H5:=H4.putL hR u5 r5
  refine⟨n',hfin (o2:=grow (grow o' 2 g.size g2.size) 7 g2.size g4.size) ⟨_,H5⟩ (fun c hc=>?_) ?_,Dr⟩
  ·have:=f2.1
   rw[zcK (by omega),zcK hc]
  ·have s2:=f2.1
   have F1:Fr (fun c=>o' c≠0∨outB (some C.E) c) g g2:=f2.mono fun c _ hc=>.inl (by have hc:o' c=2:=hc;omega)
   have F2:=F1.after fA fun c hc h=>.inl (by rw[zcK hc]at h;omega)
   exact F2.after u5.fr fun c hc h=>.inl (by
    have h:c=bp:=h
    rw[h]at hc ⊢
    rw[zcK hc]at hp
    omega)
 rw[if_neg c3]
 exact⟨n',hfin ⟨V,HB⟩ (fun _ _=>rfl) (Fr.refl _ _),Dr⟩
end
end
section
def sendP (K:Nat)(P:PoolD):PoolD:={P with q:=sendQ P.q P.sent,rows:=tickF (K+1) P.rows 0,stamps:=P.stamps++[P.rows 0],sent:=P.sent+1}
def closeP (K:Nat)(P:PoolD):PoolD:={P with q:={P.q with closed:=true},rows:=tickF (K+1) P.rows 0,fin:=P.rows 0}
def zlb (K:Nat)(rows:Nat→List Int)(l:List (List Int)):Nat→List Int:=l.foldl (fun r s=>meetF (K+1) r 0 s) rows
def doneP (C:C21)(K:Nat)(P:PoolD):PoolD:={noteP {P with rows:=zlb K P.rows P.left} 0 1 0 (C.d.X*C.d.Y*C.m.c) false with ret:=true}
def mainP (C:C21)(K:Nat)(P:PoolD):PoolD:=if P.sent<zaN C.d then sendP K P else if P.q.closed=false then closeP K P else doneP C K P
def pickP (C:C21)(K:Nat)(P:PoolD)(i:Int):PoolD:=
 if runsP C K P i=false then P else if i=0 then mainP C K {P with picks:=P.picks+1}else workP C K {P with picks:=P.picks+1} (i-1).toNat
section
variable {C:C21}{Z:Nat→Prop}{K:Nat}{h0 h:Heap}{bw:Nat→Nat}{bp:Nat}{o:Nat→Nat}{n:Pic}{P:PoolD}
theorem c_main (O:C.Ok)(H:zcr C Z K h0 bw bp o n P h)(hl:P.acc.length≤999999)(hst:P.stamps.length≤1000000)(hsn:0≤P.sent)(hlf:∀s∈P.left,s.length≤4398046511104)(hln:P.left.length≤1000000)(hct:zaN C.d≤1000000):
  FCall prog zfe #[ptr bp] h fun r h'=>PTo C Z K h0 bw bp o h n (mainP C K P) h':=by
 have HP:=H
 obtain⟨V,H,row⟩:=H.row
 apply zne
 unfold zhB
 have hK:=H.few
 have c8:zah h ⟨bp,8,none⟩=some (.int .i64 P.sent):=zab row
 have c2:zah h ⟨bp,2,none⟩=some (ptr C.bl):=zab row
 have c3:zah h ⟨bp,3,none⟩=some (ptr C.bq):=zab row
 have c11:zah h ⟨bp,11,none⟩=some V.lv:=zab row
 have c4:zah h ⟨bp,4,none⟩=some V.vc:=zab row
 have c9:zah h ⟨bp,9,none⟩=some V.sv:=zab row
 have hp:=H.po
 have hnow:∀rows,nowF (K+1) rows (0:Int)=rows 0:=fun rows=>by
  unfold nowF
  rw[if_pos (by omega)];rfl
 refine zaj (fun k=>k=h) rfl ?_
 simp only[go_sem,Nat.zero_add]
 refine zae (.int .i64 P.sent) (fun k e=>by rw[e];exact c8) ?_
 try simp only[go_sem,Nat.zero_add]
 refine zae (ptr C.bl) (fun k e=>by rw[e];exact c2) ?_
 refine FCall.at (znz H.pl O.d) ⟨rfl,?_⟩
 unfold mainP
 rw[zbp,zaa]
 refine zac (fun g1=>?_) (fun g1=>?_)
 ·rw[if_pos g1]
  refine zaj (fun k=>k=h) rfl ?_
  refine zae (ptr C.bq) (fun k e=>by rw[e];exact c3) ?_
  try simp only[go_sem,Nat.zero_add]
  refine zae (.int .i64 P.sent) (fun k e=>by rw[e];exact c8) ?_
  refine(c_qSend (H.q id)).mono fun r g2 ⟨_,q2,f2⟩=>?_
  have f2':Fr (fun c=>(fun k=>k=1) (o c)) h g2:=f2
  have H2:=H.take (H.chg (A:=fun k=>k=1) (by omega) f2') (b:=1)
  have H2:=(H2.less (Y:=fun k=>False∨k=1) fun k hk=>by rcases hk with (h|h)|h<;>first|exact h.elim|exact .inr h).fq (q:=sendQ P.q P.sent) (by
   have e:(fun c=>grow o 1 h.size g2.size c=1)=Grow (fun c=>o c=1) h g2:=by
    funext c
    refine propext ?_
    unfold grow
    split
    ·rename_i h3;exact⟨fun _=>.inr h3,fun _=>rfl⟩
    ·rename_i h3;exact⟨.inl,fun h=>h.elim id fun h=>absurd h h3⟩
   rw[e];exact q2)
  have row2:=H2.p id
  have hp2:=H2.po
  have s2:=f2.1
  refine zaj (fun k=>k[bp]? =some (.cells (zcR C V {P with q:=sendQ P.q P.sent}) 197 (0,0))) row2 ?_
  refine zae V.sv (fun k e=>zab e) ?_
  try simp only[go_sem,Nat.zero_add]
  refine zae V.vc (fun k e=>zab e) ?_
  refine(c_Tick (H2.c id) 0).mono fun r g3 ⟨o3,c3',f3,n3⟩=>?_
  rw[hnow]at o3
  have S3:=f3.row row2 (show¬grow o 1 h.size g2.size bp=2 by omega)
  refine⟨S3,?_⟩
  refine H2.rs_push (j:=6) (by omega) (H2.s id) o3 c3' f3 n3 rfl (by show P.stamps.length≤_;omega) (fun h' e=>e.row S3) fun s' g4 hR H4 fA f4=>?_
  have row4:=f4.row S3 (show¬grow o 1 h.size g2.size bp=6 by omega)
  have os:zam s'=true:=by
   obtain⟨_,o5,_⟩:=hR
   exact o5.one
  try simp only[go_sem,Nat.zero_add]
  refine zaH row4 (show 9<_ from by simp[zcR]) os fun g5 r5 u5=>?_
  have H5:=H4.putS hR u5 r5
  have c8':zah g5 ⟨bp,8,none⟩=some (.int .i64 P.sent):=zab (H5.p id)
  simp only[go_sem,Nat.zero_add,c8']
  rw[w64 (n:=P.sent+1) (by omega) (by omega)]
  refine zaH (H5.p id) (show 8<_ from by simp[zcR]) rfl fun g6 r6 u6=>?_
  have H6:=H5.setrow u6 (st:=P.sent+1) (rt:=P.ret) (pk:=P.picks) r6
  refine⟨grow (grow o 1 h.size g2.size) 6 g2.size g4.size,⟨_,H6⟩,fun c hc=>?_,?_⟩
  ·rw[zcK (by omega),zcK hc]
  ·have F1:Fr (fun c=>o c≠0∨outB (some C.E) c) h g2:=f2.mono fun c _ hc=>.inl (by have hc:o c=1:=hc;omega)
   have F2:=F1.after fA fun c hc h=>.inl (by rw[zcK hc]at h;omega)
   have F3:=F2.after u5.fr fun c hc h=>.inl (by have h:c=bp:=h;rw[h];omega)
   exact F3.after u6.fr fun c hc h=>.inl (by have h:c=bp:=h;rw[h];omega)
 ·rw [if_neg g1]
  rw[c3,zaa]
  refine FCall.at (c_qClosed (H.q id)) ?_
  cases hc:P.q.closed with
  | false=>
   rw[if_pos rfl]
   simp only[go_sem,Nat.zero_add,c3]
   refine(c_qClose (H.q id)).mono fun r g2 ⟨_,q2,f2⟩=>?_
   have f2':Fr (fun c=>(fun k=>k=1) (o c)) h g2:=f2
   have H2:=(H.chg (A:=fun k=>k=1) (by omega) f2').fq q2
   have row2:=H2.p id
   have c4':zah g2 ⟨bp,4,none⟩=some V.vc:=zab row2
   simp only[go_sem,Nat.zero_add,c4']
   refine(c_Tick (H2.c id) 0).mono fun r g3 ⟨o3,c3',f3,n3⟩=>?_
   rw[hnow]at o3
   have f3':Fr (fun c=>(fun k=>k=2) (o c)) g2 g3:=f3
   have H3:=H2.take (H2.chg (A:=fun k=>k=2) (by omega) f3') (b:=8)
   have H3:=(H3.less (Y:=fun k=>k=8∨k=2) fun k hk=>by rcases hk with (h|h)|h<;>first|exact h.elim|exact .inr h|exact .inl h).fc (r:=tickF (K+1) P.rows 0) (by rw[grow_two (fun c hc=>(H2.fresh hc).1) (by omega) (by omega)];exact c3')
   have row3:=f3.row row2 (show¬o bp=2 by omega)
   have hs:Rp.Sl (Rp.int .i64) (fun c=>grow o 8 g2.size g3.size c=8) g3 r (P.rows 0):=znm o3.ints fun _ c hc=>by
    unfold grow
    rw[if_pos ⟨n3 c hc,Own.lt o3 hc⟩]
   refine zaH row3 (show 10<_ from by simp[zcR]) (zm0 o3) fun g4 r4 u4=>?_
   have H4:=H3.putE hs u4 r4
   have s2:=f2.1
   refine⟨grow o 8 g2.size g3.size,⟨_,H4⟩,fun c hc=>zcK (by omega),?_⟩
   have F1:Fr (fun c=>o c≠0∨outB (some C.E) c) h g2:=f2.mono fun c _ hc=>.inl (by have hc:o c=1:=hc;omega)
   have F2:=F1.after f3 fun c hc h=>.inl (by omega)
   exact F2.after u4.fr fun c hc h=>.inl (by have h:c=bp:=h;rw[h];omega)
  | true=>
   rw[if_neg (by simp)]
   simp only[go_sem,Nat.zero_add,c11]
   have e11:=(H.f id).len
   rw[e11,zaa]
   refine zaF (α:=Unit) P.left.length 0 (fun i _=>[.int .i64 (i:Int)]) (fun i _ g=>∃o',zal (fun _=>False) C Z K h0 bw bp o' n V {P with rows:=zlb K P.rows (P.left.take i)} g∧(∀c,c<h.size→o' c=o c)∧Fr (fun c=>o c≠0∨outB (some C.E) c) h g) () rfl (Nat.zero_le _) ⟨o,H,fun _ _=>rfl,Fr.refl _ _⟩ fun i _ g again ρ _ hi ⟨o',HB,oo,f⟩ Hag=>?_
   have rowg:=HB.p id
   have c4':zah g ⟨bp,4,none⟩=some V.vc:=zab rowg
   have c1':zah g ⟨bp,1,none⟩=some (ptr C.bt):=zab rowg
   have sg:=f.1
   simp only[ix_0]
   rw[zbp,zaa]
   refine zac (fun g2=>?_) (fun g2=>?_)
   ·have hi':i<P.left.length:=by omega
    have hw':(i:Int)+1=((i+1:Nat):Int):=by omega
    obtain⟨Zr,ow,_,_⟩:=HB.f id
    obtain⟨p,c,a1,a2,a3⟩:=ow.sl.at1 rfl (k:=.i64) (i:=i) hi'
    obtain⟨v,hv,hS⟩:=a3
    cases hv
    have hl2:=hlf _ (List.getElem_mem hi')
    rw[a1,zaa,a2,zaa]
    simp only[go_sem,Nat.zero_add,c4']
    refine(c_meet HB (i:=0) (sl_ints hS) hl2).mono fun r g3 ⟨H3,f3⟩=>?_
    rw[w64 (n:=(i:Int)+1) (by omega) (by omega),hw']
    refine Hag () g3 hi' ⟨grow o' 2 g.size g3.size,?_,fun c hc=>by rw[zcK (by omega)];exact oo c hc,f.after f3 fun c hc h=>.inl (by rw[←oo c hc];have h:o' c=2:=h;omega)⟩
    have e:zlb K P.rows (P.left.take (i+1))=meetF (K+1) (zlb K P.rows (P.left.take i)) 0 P.left[i]:=by
     unfold zlb
     rw[List.take_succ_eq_append_getElem hi',List.foldl_append];rfl
    rw[e]
    exact H3
   ·have:i=P.left.length:=by omega
    subst this
    rw[List.take_length]at HB
    simp only[go_sem,Nat.zero_add,c1']
    obtain⟨s1,s2,s3,s4,s5⟩:=HB.sui.2
    refine FCall.at (znx HB.set.out HB.sui.1.fits) ?_
    have bf:=zbv HB.sui.1.fits
    have hn1:1≤n.w*n.h*n.c:=Int.mul_pos (Int.mul_pos (by omega) (by omega)) (by omega)
    have en:n.w*n.h*n.c=C.d.X*C.d.Y*C.m.c:=by rw[s2,s3,s4];rfl
    rw[en]at hn1 bf ⊢
    refine(zpU (P:={P with rows:=zlb K P.rows P.left}) ⟨V,HB⟩ (who:=0) (by omega) (by show P.acc.length≤_;omega) (by omega) (by omega) hn1 (by omega)).mono fun r g3 ⟨_,o3,H3,q3,f3⟩=>?_
    obtain⟨V3,B3,row3⟩:=H3.row
    try simp only[go_sem,Nat.zero_add]
    refine zaH row3 (show 12<_ from by simp[zcR]) rfl fun g4 r4 u4=>?_
    have hp3:=B3.po
    have H4:=B3.setrow u4 (st:=P.sent) (rt:=true) (pk:=P.picks) r4
    refine⟨o3,⟨_,H4⟩,fun c hc=>(q3 c (by omega)).trans (oo c hc),?_⟩
    have F2:=f.after f3 fun c hc h=>by rwa [oo c hc]at h
    exact F2.after u4.fr fun c hc h=>.inl (by have h:c=bp:=h;rw[←oo c hc,←q3 c (by omega),h];omega)
end
end
end Go.Proofs.YtcoimlclclnlkaaGreatDoor
namespace Go.Proofs.YtcoimlclclnlkaaGreatDoor
open Go Go.Crisp
attribute [local irreducible] FCall rowK newK stK iteK vK qK drawK gK joinK loopK mkK appK cpyK zoB zmd bsK clK zh1 zgb newmK
structure WdOk (C:C21)(sent:Int)(w:WD)(words:Int):Prop where
 tl:∀x∈w.tiles,0≤x∧x<sent
 st:(w.state=1∧zh4 (some C.E) w.job∧w.tiles≠[])∨((w.state=0∨w.state=2)∧w.job=none)
 jb:∀t y e,w.job=some (t,y,e)→t=zat C.d (w.tiles.getLast?.getD 0)∧words=zix C (w.tiles.getLast?.getD 0)
structure zfr (C:C21)(K:Nat)(P:PoolD):Prop where
 sent:0≤P.sent∧P.sent≤zaN C.d
 st:(P.stamps.length:Int)=P.sent
 q:∀x∈P.q.l,0≤x∧x<P.sent
 w:∀i,i<K→WdOk C P.sent (P.ws i) (P.words i)
 tn:∀i,i<K→((P.ws i).tiles.length:Int)≤P.picks
 rows:∀i,i≤K→(P.rows i).length=K+1
 ss:∀s∈P.stamps,s.length=K+1
 fn:P.fin.length≤K+1
 ls:∀s∈P.left,s.length=K+1
 ln:(P.left.length:Int)≤P.picks
 ac:(P.acc.length:Int)≤2+2*P.picks
 pk:0≤P.picks
 cl:P.q.closed=true→P.sent=zaN C.d
theorem zrB {n:Nat}{rows:Nat→List Int}(h:∀i,i<n→(rows i).length=n)(i:Int):∀j,j<n→(tickF n rows i j).length=n:=by
 intro j hj
 unfold tickF
 split
 ·rename_i hi
  by_cases e:j=i.toNat
  ·simp only[e,if_true,List.length_set]
   exact h _ (by omega)
  ·simp only[e,if_false]
   exact h j hj
 ·exact h j hj
theorem zst {n:Nat}{rows:Nat→List Int}(h:∀i,i<n→(rows i).length=n)(i:Int)(s:List Int):∀j,j<n→(meetF n rows i s j).length=n:=by
 intro j hj
 unfold meetF
 split
 ·rename_i hm
  unfold mayF at hm
  simp only[Bool.and_eq_true,decide_eq_true_eq]at hm
  by_cases e:j=i.toNat
  ·simp only[e,if_true,zjw]
   rw[h _ (by omega),hm.2.1,Nat.max_self]
  ·simp only[e,if_false]
   exact h j hj
 ·exact h j hj
theorem words_in {C:C21}(O:C.Ok){x:Int}(h1:0≤x)(h2:x<zaN C.d):1≤zix C x∧zix C x≤100000000000:=by
 have hf:=zbv O.m.fits
 have hw:=zeb O.d h1 h2
 unfold zbY at hw
 have b1:1*1≤(zat C.d x).w*C.m.c:=Int.mul_le_mul (by omega) (by omega) (by omega) (by omega)
 have e1:1≤(roomN (mostL C.d.s.y.lines):Int)∧(roomN (mostL C.d.s.y.lines):Int)≤65536:=by unfold roomN;omega
 have e2:1≤(zcI ((zat C.d x).w*C.m.c):Int)∧(zcI ((zat C.d x).w*C.m.c):Int)≤262144:=by unfold zcI;omega
 have h1:1*1≤(roomN (mostL C.d.s.y.lines):Int)*(zcI ((zat C.d x).w*C.m.c):Int):=Int.mul_le_mul e1.1 e2.1 (by omega) (by omega)
 have h2:=Int.mul_le_mul e1.2 e2.2 (by omega) (show(0:Int)≤65536 by omega)
 unfold zix
 omega
theorem last_mem {l:List Int}(h:l≠[]):l.getLast?.getD 0∈l:=by
 rw[List.getLast?_eq_some_getLast h]
 exact List.getLast_mem h
theorem WdOk.step {C:C21}{sent:Int}{w:WD}{words:Int}{q:QD}(H:WdOk C sent w words)(hq:∀x∈q.l,0≤x∧x<sent):
  WdOk C sent (stepW (some C.E) (C.jo (recvX q)) w q).1 (if w.state=0∧recvR q=0 then zix C (recvX q)else words):=by
 have sk:∀(jo:Option (TileD×Int×Int)) (tl:List Int),(jo≠none→tl≠[])→(stJ (zaM (some C.E) jo)=1∧zh4 (some C.E) (zaM (some C.E) jo)∧tl≠[])∨((stJ (zaM (some C.E) jo)=0∨stJ (zaM (some C.E) jo)=2)∧zaM (some C.E) jo=none):=fun jo tl h=>by
  rcases zoZ (some C.E) jo with⟨h1,h2,h3⟩|h1
  ·refine .inl ⟨?_,h2,h ?_⟩
   ·rcases zkV (E:=some C.E) (jo:=jo)with h|h
    ·exact h.1
    ·exact absurd h.2 h1
   ·rw[←h3];exact h1
  ·refine .inr ⟨?_,h1⟩
   rw[h1];exact .inl rfl
 have st0:∀(jo:Option (TileD×Int×Int)) t y e,zaM (some C.E) jo=some (t,y,e)→jo=some (t,y,e):=fun jo t y e h=>by
  rcases zoZ (some C.E) jo with⟨_,_,h3⟩|h1
  ·rw[←h3];exact h
  ·rw[h1]at h;cases h
 obtain⟨st,tl,jo,wd⟩:=w
 obtain⟨h1,h2,h3⟩:=H
 unfold stepW
 rcases h2 with⟨s1,s2,s3⟩|⟨s1|s1,s2⟩
 ·have s1:st=1:=s1
  subst s1
  cases jo with
  |none=>exact(show False from s2).elim
  |some x=>
   obtain⟨t,y,e⟩:=x
   rw[if_pos rfl,if_neg (show¬((1:Int)=0∧_)from fun h=>by omega)]
   refine⟨h1,sk _ _ fun _=>s3,fun t' y' e' h=>?_⟩
   have h:=st0 (some (t,stepY (C.E.d t) y e,stepE (C.E.d t) y e)) _ _ _ h
   have h:some (t,stepY (C.E.d t) y e,stepE (C.E.d t) y e)=some (t',y',e'):=h
   cases h
   exact h3 t y e rfl
 ·have s1:st=0:=s1
  subst s1
  have s2:jo=none:=s2
  subst s2
  rw[if_neg (show¬(0:Int)=1 by omega),if_neg (show¬(0:Int)=2 by omega)]
  by_cases hr:recvR q=0
  ·rw[if_pos hr,if_pos ⟨rfl,hr⟩]
   have hm:recvX q∈q.l:=by
    unfold recvR at hr
    unfold recvX
    cases hl:q.l with
    |nil=>rw[hl,if_pos rfl]at hr;split at hr<;>omega
    |cons a l=>simp
   have hx:=hq _ hm
   refine⟨fun x hx'=>?_,sk _ _ fun _=>by simp[tookW],fun t y e h=>?_⟩
   ·rcases List.mem_append.1 hx' with h|h
    ·exact h1 x h
    ·rw[List.mem_singleton.1 h];exact hx
   ·have h:=st0 (C.jo (recvX q)) _ _ _ h
    have h:some (jobOf C.d (recvX q))=some (t,y,e):=h
    unfold jobOf at h
    cases h
    show _=zat C.d ((tl++[recvX q]).getLast?.getD 0)∧_=zix C ((tl++[recvX q]).getLast?.getD 0)
    simp
  ·rw[if_neg hr,if_neg (show¬((0:Int)=0∧recvR q=0)from fun h=>hr h.2)]
   split
   ·exact⟨h1,.inr ⟨.inr rfl,rfl⟩,fun t y e h=>by cases h⟩
   ·exact⟨h1,.inr ⟨.inl rfl,rfl⟩,fun t y e h=>by cases h⟩
 ·have s1:st=2:=s1
  subst s1
  rw[if_neg (show¬(2:Int)=1 by omega),if_pos rfl,if_neg (show¬((2:Int)=0∧_)from fun h=>by omega)]
  exact⟨h1,.inr ⟨.inr rfl,s2⟩,h3⟩
theorem zrE (C:C21):∀a b i:Nat,sumT C (a+b) i=sumT C a i+sumT C b (i+a)
 |0,b,i=>by rw[Nat.zero_add,Nat.add_zero];show _=0+_;omega
 |a+1,b,i=>by
  have h:=zrE C a b (i+1)
  rw[show a+1+b=(a+b)+1 by omega]
  show ziW C i+sumT C (a+b) (i+1)=ziW C i+sumT C a (i+1)+_
  rw[h,show i+1+a=i+(a+1)by omega]
  omega
section
theorem IsW.job_e {Z B:Nat→Prop}{h:Heap}{bw:Nat}{E:WE}{n:Pic}{w:WD}(H:IsW Z B h bw (some E) n w):∀t y e,w.job=some (t,y,e)→e≤lnE E.s.y y:=by
 obtain⟨⟨tv,jv,Bj,r,o,J,_⟩,_,_,_,_,_,st⟩:=H
 intro t y e hj
 rw[hj]at J st
 obtain⟨E',hE,ok,hc,bj,rv,_,S⟩:=J
 cases hE
 obtain⟨⟨M,rs,_,_,k⟩,_⟩:=S
 rcases st with⟨_,h2,_⟩|⟨_,h⟩
 ·have h2:stepK (E.d t) y e≠0:=h2
  unfold stepK at h2
  split at h2
  ·exact absurd rfl h2
  ·exact(k (by omega)).2.2
 ·cases h
section
variable {a:Bool}{C:C21}{Z X Zd:Nat→Prop}{N:Nat}{h0 h:Heap}{mv:Value}{bQ bW bV:Nat}{TW TV:TypeId}{n:Pic}{ba bb:Nat}{wa wb:WD}{q:QD}
end
end
theorem stepW_tiles {E:Option WE}{jo:Option (TileD×Int×Int)}{w:WD}{d:QD}:(stepW E jo w d).1.tiles.length≤w.tiles.length+1:=by
 obtain⟨st,tl,j,wd⟩:=w
 unfold stepW
 split
 ·split
  ·exact Nat.le_succ _
  ·exact Nat.le_succ _
 ·split
  ·exact Nat.le_succ _
  ·split
   ·simp[tookW]
   ·split<;>exact Nat.le_succ _
end Go.Proofs.YtcoimlclclnlkaaGreatDoor
namespace Go.Proofs.YtcoimlclclnlkaaGreatDoor
open Go Go.Crisp
attribute [local irreducible] FCall rowK newK stK iteK vK qK drawK gK joinK loopK mkK appK cpyK zoB zmd bsK clK zh1 zgb newmK
open _root_.Go.Proofs.Tryz
section
section
variable {C:C21}{K:Nat}{P:PoolD}
theorem WdOk.more {s s':Int}{w:WD}{k:Int}(H:WdOk C s w k)(h:s≤s'):WdOk C s' w k:=⟨fun x hx=>by have:=H.tl x hx;omega,H.st,H.jb⟩
theorem send_ok (H:zfr C K P)(h:P.sent<zaN C.d):zfr C K (sendP K {P with picks:=P.picks+1}):=by
 have h1:=H.sent
 have h2:=H.st
 have h3:=H.pk
 refine⟨⟨by show 0≤P.sent+1;omega,by show P.sent+1≤_;omega⟩,by show((P.stamps++[P.rows 0]).length:Int)=P.sent+1;rw[List.length_append];simp only[List.length_cons,List.length_nil];omega,fun x hx=>?_,fun i hi=>(H.w i hi).more (by show P.sent≤P.sent+1;omega),fun i hi=>by have:=H.tn i hi;show _≤P.picks+1;exact Int.le_trans this (by omega),fun i hi=>zrB (fun j hj=>H.rows j (by omega)) 0 i (by omega),fun s hs=>?_,H.fn,H.ls,by have:=H.ln;show _≤P.picks+1;exact Int.le_trans this (by omega),by have:=H.ac;show(P.acc.length:Int)≤2+2*(P.picks+1);omega,by show 0≤P.picks+1;omega,fun hc=>?_⟩
 ·have hx:x∈(sendQ P.q P.sent).l:=hx
  show 0≤x∧x<P.sent+1
  unfold sendQ at hx
  split at hx
  ·have:=H.q x hx;omega
  ·split at hx
   ·have:=H.q x hx;omega
   ·rcases List.mem_append.1 hx with hx|hx
    ·have:=H.q x hx;omega
    ·have:=List.mem_singleton.1 hx;omega
 ·rcases List.mem_append.1 hs with hs|hs
  ·exact H.ss s hs
  ·rw[List.mem_singleton.1 hs];exact H.rows 0 (by omega)
 ·have hc:(sendQ P.q P.sent).closed=true:=hc
  have hc:P.q.closed=true:=by
   unfold sendQ at hc
   split at hc
   ·exact hc
   ·split at hc<;>exact hc
  have:=H.cl hc
  omega
theorem close_ok (H:zfr C K P)(h:¬P.sent<zaN C.d):zfr C K (closeP K {P with picks:=P.picks+1}):=by
 have h1:=H.sent
 have h3:=H.pk
 exact⟨H.sent,H.st,H.q,H.w,fun i hi=>by have:=H.tn i hi;show _≤P.picks+1;exact Int.le_trans this (by omega),fun i hi=>zrB (fun j hj=>H.rows j (by omega)) 0 i (by omega),H.ss,by show(P.rows 0).length≤_;rw[H.rows 0 (by omega)];exact Nat.le_refl _,H.ls,by have:=H.ln;show _≤P.picks+1;exact Int.le_trans this (by omega),by have:=H.ac;show(P.acc.length:Int)≤2+2*(P.picks+1);omega,by show 0≤P.picks+1;omega,fun _=>by show P.sent=_;omega⟩
theorem all_len {rows:Nat→List Int}(h:∀i,i≤K→(rows i).length=K+1):∀(l:List (List Int)) i,i≤K→(zlb K rows l i).length=K+1:=by
 intro l
 induction l generalizing rows with
 |nil=>exact h
 |cons s l ih=>exact ih (rows:=meetF (K+1) rows 0 s) fun i hi=>zst (fun j hj=>h j (by omega)) 0 s i (by omega)
theorem done_ok (H:zfr C K P):zfr C K (doneP C K {P with picks:=P.picks+1}):=by
 have h3:=H.pk
 exact⟨H.sent,H.st,H.q,H.w,fun i hi=>by have:=H.tn i hi;show _≤P.picks+1;exact Int.le_trans this (by omega),all_len H.rows P.left,H.ss,H.fn,H.ls,by have:=H.ln;show _≤P.picks+1;exact Int.le_trans this (by omega),by have:=H.ac;show((P.acc++[_]).length:Int)≤2+2*(P.picks+1);rw[List.length_append];simp only[List.length_cons,List.length_nil];omega,by show 0≤P.picks+1;omega,H.cl⟩
theorem stepQ_l {E:Option WE}{jo:Option (TileD×Int×Int)}{w:WD}{q:QD}:(∀x∈(stepW E jo w q).2.1.l,x∈q.l)∧(stepW E jo w q).2.1.closed=q.closed:=by
 have hr:(∀x∈(recvQ q).l,x∈q.l)∧(recvQ q).closed=q.closed:=⟨fun x hx=>List.mem_of_mem_tail hx,rfl⟩
 unfold stepW
 split
 ·split
  ·exact⟨fun _ h=>h,rfl⟩
  ·exact⟨fun _ h=>h,rfl⟩
 ·split
  ·exact⟨fun _ h=>h,rfl⟩
  ·split
   ·exact hr
   ·split<;>exact hr
theorem step_ok (H:zfr C K P){k:Nat}(hk:k<K):zfr C K (stepP C {P with picks:=P.picks+1} k):=by
 have h3:=H.pk
 have hq:=stepQ_l (E:=some C.E) (jo:=C.jo (recvX P.q)) (w:=P.ws k) (q:=P.q)
 have hW:=(H.w k hk).step H.q
 have ht:=stepW_tiles (E:=some C.E) (jo:=C.jo (recvX P.q)) (w:=P.ws k) (d:=P.q)
 refine⟨H.sent,H.st,fun x hx=>H.q x (hq.1 x hx),fun i hi=>?_,fun i hi=>?_,H.rows,H.ss,H.fn,H.ls,by have:=H.ln;show _≤P.picks+1;exact Int.le_trans this (by omega),by have:=H.ac;show(P.acc.length:Int)≤2+2*(P.picks+1);omega,by show 0≤P.picks+1;omega,fun hc=>H.cl (by rw[←hq.2];exact hc)⟩
 ·by_cases e:i=k
  ·subst e
   show WdOk C P.sent (if i=i then(stepW (some C.E) (C.jo (recvX P.q)) (P.ws i) P.q).1 else P.ws i) (if i=i∧(P.ws i).state=0∧recvR P.q=0 then zix C (recvX P.q)else P.words i)
   simp only[if_true,true_and]
   exact hW
  ·show WdOk C P.sent (if i=k then _ else P.ws i) (if i=k∧_ then _ else P.words i)
   rw[if_neg e,if_neg fun h=>e h.1]
   exact H.w i hi
 ·by_cases e:i=k
  ·subst e
   show(((if i=i then(stepW (some C.E) (C.jo (recvX P.q)) (P.ws i) P.q).1 else P.ws i).tiles.length:Nat):Int)≤P.picks+1
   rw[if_pos rfl]
   have:=H.tn i hk
   omega
  ·show(((if i=k then(stepW (some C.E) (C.jo (recvX P.q)) (P.ws k) P.q).1 else P.ws i).tiles.length:Nat):Int)≤P.picks+1
   rw[if_neg e]
   have:=H.tn i hi
   omega
theorem work_ok (H:zfr C K P){k:Nat}(hk:k<K):zfr C K (workP C K {P with picks:=P.picks+1} k):=by
 have S:=step_ok H hk
 have hac:=H.ac
 have hln:=H.ln
 unfold workP
 split
 ·exact⟨S.sent,S.st,S.q,S.w,S.tn,fun i hi=>zst (fun j hj=>H.rows j (by omega)) _ _ i (by omega),S.ss,S.fn,S.ls,S.ln,S.ac,S.pk,S.cl⟩
 ·split
  ·have ha:((zmA C (stepP C {P with picks:=P.picks+1} k) k (evP C {P with picks:=P.picks+1} k)).acc.length:Int)≤2+2*(P.picks+1):=by
    unfold zmA
    split
    ·show(((P.acc++[_])++[_]).length:Int)≤_
     simp only[List.length_append,List.length_cons,List.length_nil];omega
    ·show(((P.acc++[_])++[_]).length:Int)≤_
     simp only[List.length_append,List.length_cons,List.length_nil];omega
   unfold zmA at ha ⊢
   split at ha
   ·rename_i hc
    rw[if_pos hc]
    exact⟨S.sent,S.st,S.q,S.w,S.tn,S.rows,S.ss,S.fn,S.ls,S.ln,ha,S.pk,S.cl⟩
   ·rename_i hc
    rw[if_neg hc]
    exact⟨S.sent,S.st,S.q,S.w,S.tn,S.rows,S.ss,S.fn,S.ls,S.ln,ha,S.pk,S.cl⟩
  ·split
   ·have hm:∀i,i≤K→(meetF (K+1) P.rows (k+1:Nat) P.fin i).length=K+1:=fun i hi=>zst (fun j hj=>H.rows j (by omega)) _ _ i (by omega)
    refine⟨S.sent,S.st,S.q,S.w,S.tn,fun i hi=>zrB (fun j hj=>hm j (by omega)) _ i (by omega),S.ss,S.fn,fun s hs=>?_,?_,S.ac,S.pk,S.cl⟩
    ·rcases List.mem_append.1 hs with hs|hs
     ·exact H.ls s hs
     ·rw[List.mem_singleton.1 hs];exact hm (k+1) (by omega)
    ·show((P.left++[_]).length:Int)≤P.picks+1
     rw[List.length_append];simp only[List.length_cons,List.length_nil];omega
   ·exact S
theorem pick_ok (H:zfr C K P)(i:Int):zfr C K (pickP C K P i):=by
 unfold pickP
 split
 ·exact H
 ·rename_i hr
  split
  ·unfold mainP
   split
   ·rename_i h;exact send_ok H h
   ·rename_i h
    split
    ·exact close_ok H h
    ·exact done_ok H
  ·rename_i h0
   have hi:0<i∧i≤K:=by
    unfold runsP at hr
    split at hr
    ·exact absurd rfl hr
    ·omega
   exact work_ok H (by omega)
end
section
variable {C:C21}{Z:Nat→Prop}{K:Nat}{h0 h:Heap}{bw:Nat→Nat}{bp:Nat}{o:Nat→Nat}{n:Pic}{P:PoolD}
theorem IsW.job_at {Z B:Nat→Prop}{h:Heap}{bw:Nat}{E:WE}{n:Pic}{w:WD}(H:IsW Z B h bw (some E) n w):∀t y e,w.job=some (t,y,e)→t.y≤y∧y<t.y+t.h∧lnF E.s.y y≤e∧e≤lnE E.s.y y:=by
 obtain⟨⟨tv,jv,Bj,r,o,J,_⟩,_,_,_,_,_,st⟩:=H
 intro t y e hj
 rw[hj]at J st
 obtain⟨E',hE,ok,hc,bj,rv,_,S⟩:=J
 cases hE
 obtain⟨⟨M,rs,J,_,k⟩,_⟩:=S
 rcases st with⟨_,h2,_⟩|⟨_,h⟩
 ·have h2:stepK (E.d t) y e≠0:=h2
  unfold stepK at h2
  split at h2
  ·exact absurd rfl h2
  ·rename_i hy
   have hy:¬t.y+t.h≤y:=hy
   have:=k (by show y<t.y+t.h;omega)
   exact⟨J.y0,by omega,this.2⟩
 ·cases h
theorem recv_mem {q:QD}(h:recvR q=0):recvX q∈q.l:=by
 unfold recvR at h
 unfold recvX
 cases hl:q.l with
 |nil=>rw[hl,if_pos rfl]at h;split at h<;>omega
 |cons a l=>simp
theorem took_ev {E:WE}{jo:Option (TileD×Int×Int)}{w:WD}{q:QD}(h:(w.state=1∧zh4 (some E) w.job∧w.tiles≠[])∨((w.state=0∨w.state=2)∧w.job=none))(he:(stepW (some E) jo w q).2.2.1=1):(stepW (some E) jo w q).2.2.2.1=recvX q∧w.state=0∧recvR q=0:=by
 obtain⟨st,tl,j,wd⟩:=w
 unfold stepW at he ⊢
 rcases h with⟨s1,s2,_⟩|⟨s1|s1,s2⟩
 ·have s1:st=1:=s1
  subst s1
  cases j with
  |none=>exact(show False from s2).elim
  |some x=>exact absurd (show(2:Int)=1 from he) (by omega)
 ·have s1:st=0:=s1
  subst s1
  rw[if_neg (show¬(0:Int)=1 by omega),if_neg (show¬(0:Int)=2 by omega)]at he ⊢
  by_cases hr:recvR q=0
  ·rw[if_pos hr];exact⟨rfl,rfl,hr⟩
  ·rw[if_neg hr]at he
   split at he
   ·exact absurd (show(3:Int)=1 from he) (by omega)
   ·exact absurd (show(0:Int)=1 from he) (by omega)
 ·have s1:st=2:=s1
  subst s1
  rw[if_neg (show¬(2:Int)=1 by omega),if_pos rfl]at he
  exact absurd (show(0:Int)=1 from he) (by omega)
theorem moved_ev {E:WE}{jo:Option (TileD×Int×Int)}{w:WD}{q:QD}(h:(w.state=1∧zh4 (some E) w.job∧w.tiles≠[])∨((w.state=0∨w.state=2)∧w.job=none))(he:(stepW (some E) jo w q).2.2.1=2):
  ∃t y e,w.job=some (t,y,e)∧w.state=1∧(stepW (some E) jo w q).2.2=(2,w.tiles.getLast?.getD 0,stepK (E.d t) y e,stepJ (E.d t) y e)∧stepK (E.d t) y e≠0:=by
 obtain⟨st,tl,j,wd⟩:=w
 unfold stepW at he ⊢
 rcases h with⟨s1,s2,_⟩|⟨s1|s1,s2⟩
 ·have s1:st=1:=s1
  subst s1
  cases j with
  |none=>exact(show False from s2).elim
  |some x=>exact⟨x.1,x.2.1,x.2.2,rfl,rfl,rfl,s2⟩
 ·have s1:st=0:=s1
  subst s1
  rw[if_neg (show¬(0:Int)=1 by omega),if_neg (show¬(0:Int)=2 by omega)]at he
  by_cases hr:recvR q=0
  ·rw[if_pos hr]at he;exact absurd (show(1:Int)=2 from he) (by omega)
  ·rw[if_neg hr]at he
   split at he
   ·exact absurd (show(3:Int)=2 from he) (by omega)
   ·exact absurd (show(0:Int)=2 from he) (by omega)
 ·have s1:st=2:=s1
  subst s1
  rw[if_neg (show¬(2:Int)=1 by omega),if_pos rfl]at he
  exact absurd (show(0:Int)=2 from he) (by omega)
theorem lineT_bd {t:Tbl}(W:t.Wf)(y:Int): -70368744177664≤(lineT t y).1∧(lineT t y).1≤70368744177664∧(lineT t y).2.length≤1048576:=by
 unfold lineT
 split
 ·rw[List.getD_eq_getElem?_getD]
  by_cases h:y.toNat<t.lines.length
  ·rw[List.getElem?_eq_getElem h]
   have:=W.taps _ (List.getElem_mem h)
   exact⟨this.2.1,this.2.2,this.1⟩
  ·rw[List.getElem?_eq_none (by omega)]
   exact⟨by decide,by decide,by decide⟩
 ·exact⟨by decide,by decide,by decide⟩
def DrewP (C:C21)(K:Nat)(P:PoolD)(i:Int)(n n':Pic):Prop:=if runsP C K P i=true∧i≠0 then Drew (some C.E) (P.ws (i-1).toNat) n n' else n'=n
theorem c_Pick (O:C.Ok)(G:GlobB h0)(H:zcr C Z K h0 bw bp o n P h)(W:zfr C K P){i:Int}(hi:I64 i)(hpk:P.picks≤400000)(hct:zaN C.d≤1000000)(hb:∀c,outB (some C.E) c→h0.size≤c):
  FCall prog zdr #[ptr bp,.int .i64 i] h fun r h'=>r=.bool (runsP C K P i)∧∃n',PTo C Z K h0 bw bp o h n' (pickP C K P i) h'∧DrewP C K P i n n':=by
 apply zng
 unfold zhD
 refine FCall.at (c_runs O H hi) ?_
 unfold pickP DrewP
 have w1:=W.pk
 have w2:=W.ac
 have w3:=W.ln
 have w4:=W.sent
 have w5:=W.st
 cases hr:runsP C K P i with
 |false=>
  simp only[go_sem]
  exact⟨trivial,n,by simpa using PTo.refl H,by simp⟩
 | true=>
  obtain⟨V,HB,row⟩:=H.row
  have hp:=HB.po
  have hK:=HB.few
  have c13:zah h ⟨bp,13,none⟩=some (.int .i64 P.picks):=zab row
  simp only[go_sem,Nat.zero_add,c13]
  rw[w64 (n:=P.picks+1) (by omega) (by omega)]
  refine zaH row (show 13<_ from by simp[zcR]) rfl fun g r u=>?_
  have HB1:=HB.setrow u (st:=P.sent) (rt:=P.ret) (pk:=P.picks+1) r
  have H1:zcr C Z K h0 bw bp o n {P with picks:=P.picks+1} g:=⟨V,HB1⟩
  have F1:Fr (fun c=>o c≠0∨outB (some C.E) c) h g:=u.fr.mono fun c _ hc=>.inl (by have hc:c=bp:=hc;rw[hc];omega)
  have T:∀{n' P' h'},PTo C Z K h0 bw bp o g n' P' h'→PTo C Z K h0 bw bp o h n' P' h':=fun{n' P' h'} t=>PTo.trans (h1:=g) ⟨H1,fun _ _=>rfl,F1⟩ t
  rw[if_neg (by simp)]
  by_cases h0':i=0
  ·subst h0'
   simp only[go_sem]
   refine(c_main O H1 (by show P.acc.length≤_;omega) (by show P.stamps.length≤_;omega) w4.1 (fun s hs=>by have:=W.ls s hs;omega) (by show P.left.length≤_;omega) hct).mono fun r g2 t=>⟨trivial,n,T t,?_⟩
   simp
  ·simp only[go_sem,h0']
   have hi2:0<i∧i≤K:=by
    unfold runsP at hr
    split at hr
    ·cases hr
    ·omega
   obtain⟨k,rfl⟩:∃k:Nat,i=(k:Int)+1:=⟨(i-1).toNat,by omega⟩
   have hk:k<K:=by omega
   have ek:((k:Int)+1-1).toNat=k:=by omega
   rw[ek]
   have Wk:=W.w k hk
   have tk:=W.tn k hk
   have IW:=HB.ws k hk id
   refine(c_work O G H1 hk (by show(P.ws k).tiles.length≤_;omega) hb (by show P.acc.length≤_;omega) (by show P.left.length≤_;omega) (fun tks=>?_) (fun he=>?_) (fun s hs=>by have:=W.ss s hs;omega) (by have:=W.fn;show P.fin.length≤_;omega) fun he=>?_).mono fun r g2 ⟨n',t,Dr⟩=>⟨trivial,n',by rw[if_neg (fun h:False=>h)];exact T t,?_⟩
   ·have tks:(P.ws k).state=0∧recvR P.q=0:=tks
    have hm:=recv_mem tks.2
    have:=W.q _ hm
    show 0≤recvX P.q∧recvX P.q<zaN C.d
    omega
   ·have he:(stepW (some C.E) (C.jo (recvX P.q)) (P.ws k) P.q).2.2.1=1:=he
    obtain⟨e1,e2⟩:=took_ev Wk.st he
    have hm:=recv_mem e2.2
    have:=W.q _ hm
    have ee:(evP C {P with picks:=P.picks+1} k).2.1=recvX P.q:=e1
    rw[ee]
    show 0≤recvX P.q∧recvX P.q<(P.stamps.length:Int)
    omega
   ·have he:(stepW (some C.E) (C.jo (recvX P.q)) (P.ws k) P.q).2.2.1=2:=he
    obtain⟨t,y,e,hj,s1,ev,nk⟩:=moved_ev Wk.st he
    have hne:(P.ws k).tiles≠[]:=by
     rcases Wk.st with h|h
     ·exact h.2.2
     ·rw[h.2]at hj;cases hj
    have hl:=Wk.tl _ (last_mem hne)
    obtain⟨j1,j2⟩:=Wk.jb t y e hj
    obtain⟨a1,a2,a3,a4⟩:=IW.job_at t y e hj
    have hx:0≤(P.ws k).tiles.getLast?.getD 0∧(P.ws k).tiles.getLast?.getD 0<zaN C.d:=by omega
    have wt:=zeb O.d hx.1 hx.2
    rw[←j1]at wt
    unfold zbY at wt
    have ew:(stepP C {P with picks:=P.picks+1} k).words k=zix C ((P.ws k).tiles.getLast?.getD 0):=by
     show(if k=k∧(P.ws k).state=0∧recvR P.q=0 then _ else P.words k)=_
     rw[if_neg (by omega)]
     exact j2
    have wi:=words_in O hx.1 hx.2
    rw[ew]
    have ee:evP C {P with picks:=P.picks+1} k=(2,(P.ws k).tiles.getLast?.getD 0,stepK (C.E.d t) y e,stepJ (C.E.d t) y e):=ev
    rw[ee]
    have bl:=lineT_bd O.s.wf.y y
    have sj:stepJ (C.E.d t) y e=if stepK (C.E.d t) y e=1 then e else y:=by
     have nk:=nk
     unfold stepK at nk
     unfold stepJ stepK
     by_cases q1:(C.E.d t).t.y+(C.E.d t).t.h≤y
     ·rw[if_pos q1]at nk;exact absurd rfl nk
     ·rw[if_neg q1,if_neg q1]
      by_cases q2:e<lnE (C.E.d t).s.y y
      ·rw[if_pos q2,if_pos q2,if_pos rfl]
      ·rw[if_neg q2,if_neg q2,if_neg (by omega)]
    have hY:C.d.Y=((C.d.s.y.lines.length:Nat):Int):=rfl
    have bY:=PlanD.bd O.d
    refine⟨hx,?_,fun h1=>?_,wi⟩
    ·show I64 (stepJ (C.E.d t) y e)
     rw[sj]
     unfold I64
     unfold lnF at a3
     unfold lnE at a4
     have bl: -70368744177664≤(lineT C.E.s.y y).1∧(lineT C.E.s.y y).1≤70368744177664∧(lineT C.E.s.y y).2.length≤1048576:=bl
     split<;>omega
    ·have h1:stepK (C.E.d t) y e≠1:=h1
     show 0≤stepJ (C.E.d t) y e∧stepJ (C.E.d t) y e<C.d.Y
     rw[sj,if_neg h1]
     omega
   ·rw[if_pos ⟨trivial,h0'⟩]
    exact Dr
end
end
section
theorem new_few {K:Nat}(h:1≤K∧K≤256):newN ((K:Int)+1)=K+1:=by unfold newN;omega
theorem rep_mapZ {α:Type}(n:Nat)(x:α):List.replicate n x=(List.range n).map fun _=>x:=by rw[List.map_const',List.length_range]
structure zeV (h0:Heap)(K:Nat)(room:Int)(q:Option Nat)(c:Option (Value×(Nat→Prop)))(d:Option Value)(g:Heap):Prop where
 ext:Ext h0 g
 hq:∀b,q=some b→IsQ (fun c=>c=b) g b ⟨min (max 1 room) 4096,[],false⟩∧h0.size≤b
 hc:∀p,c=some p→zbQ p.2 g p.1 (K+1) (newF (K+1))∧∀b,p.2 b→h0.size≤b∧b<g.size
 hd:∀v,d=some v→Own 1 g v K ((List.range K).map fun _=>.int .i64 0)∧∀b,blk v b→h0.size≤b
 qc:∀b p,q=some b→c=some p→¬p.2 b
 qd:∀b v,q=some b→d=some v→¬blk v b
 cd:∀p v b,c=some p→d=some v→p.2 b→¬blk v b
section
variable {h0 g:Heap}{K:Nat}{room:Int}{q:Option Nat}{c:Option (Value×(Nat→Prop))}{d:Option Value}{X:Value→Heap→Prop}
theorem zeV.start (h:Heap)(K:Nat)(room:Int):zeV h K room none none none h:=⟨Ext.refl _,by simp,by simp,by simp,by simp,by simp,by simp⟩
theorem zeV.ex {g':Heap}(M:zeV h0 K room q c d g)(e:Ext g g'):zeV h0 K room q c d g':=
 ⟨M.ext.trans e,fun b h=>⟨(M.hq b h).1.ext e,(M.hq b h).2⟩,fun p h=>⟨(M.hc p h).1.ext e,fun b hb=>⟨((M.hc p h).2 b hb).1,Nat.lt_of_lt_of_le ((M.hc p h).2 b hb).2 e.1⟩⟩,fun v h=>⟨(M.hd v h).1.fr (M:=fun _=>False) e.fr fun _ _=>id,(M.hd v h).2⟩,M.qc,M.qd,M.cd⟩
theorem zeV.queue (M:zeV h0 K room none c d g)(H:∀b g',zeV h0 K room (some b) c d g'→X (ptr b) g'):FCall prog zeq #[.int .i64 room] g X:=by
 refine c_qNew.mono fun r g' ⟨b,er,Q,e,n⟩=>?_
 subst er
 have M':=M.ex e
 have s:=M.ext.1
 refine H b g' ⟨M'.ext,fun b' h=>by cases h;exact⟨Q,by omega⟩,M'.hc,M'.hd,fun b' p h hp hb=>?_,fun b' v h hv hb=>?_,M.cd⟩
 ·cases h;have:=((M.hc p hp).2 b hb).2;omega
 ·cases h;have:=(M.hd v hv).1.lt hb;omega
theorem zeV.clock (hK:1≤K∧K≤256)(M:zeV h0 K room q none d g)(H:∀p g',zeV h0 K room q (some p) d g'→X p.1 g'):FCall prog zew #[.int .i64 ((K:Int)+1)] g X:=by
 refine(c_New ((K:Int)+1)).mono fun r g' ⟨Mc,Ck,e,n⟩=>?_
 rw[new_few hK]at Ck
 have M':=M.ex e
 have s:=M.ext.1
 refine H (r,Mc) g' ⟨M'.ext,M'.hq,fun p h=>by cases h;exact⟨Ck,fun b hb=>⟨by have:=n b hb;omega,by obtain⟨_,_,_,_,_,L⟩:=Ck;exact L.lt b hb⟩⟩,M'.hd,fun b p h hp hb=>?_,M.qd,fun p v b hp hv hb hv2=>?_⟩
 ·cases hp;have:=n b hb;have:=(M.hq b h).1.ql b rfl;omega
 ·cases hp;have:=n b hb;have:=(M.hd v hv).1.lt hv2;omega
theorem zeV.words (hK:1≤K∧K≤256)(M:zeV h0 K room q c none g){t:TypeId}(H:∀v g',zeV h0 K room q c (some v) g'→X v g'):mkK (.int .i64 0) t 1 8 (.int .i64 (K:Int)) (.int .i64 (K:Int)) g X:=by
 refine zha rfl (by omega) (by omega) fun v g' o e n=>?_
 rw[rep_mapZ]at o
 have M':=M.ex e
 have s:=M.ext.1
 refine H v g' ⟨M'.ext,M'.hq,M'.hc,fun v' h=>by cases h;exact⟨o,fun b hb=>by have:=n b hb;omega⟩,M.qc,fun b v' h hv hb=>?_,fun p v' b hp hv hb hv2=>?_⟩
 ·cases hv;have:=n b hb;have:=(M.hq b h).1.ql b rfl;omega
 ·cases hv;have:=n b hv2;have:=((M.hc p hp).2 b hb).2;omega
end
theorem fill_pool {vc dv:Value}{a b c d:Nat}(hc:zam vc=true)(hd:zam dv=true):(fillL #[(.pointer none),(.pointer none),(.pointer none),(.pointer none),(.pointer none),(.slice none 0 0),(.slice none 0 0),(.slice none 0 0),(.int .i64 0),(.slice none 0 0),(.slice none 0 0),(.slice none 0 0),(.bool false),(.int .i64 0)] [(0,1,ptr a),(1,1,ptr b),(2,1,ptr c),(3,1,ptr d),(4,1,vc),(7,1,dv)]).map Value.agg=
  some (.agg #[ptr a,ptr b,ptr c,ptr d,vc,.slice none 0 0,.slice none 0 0,dv,.int .i64 0,.slice none 0 0,.slice none 0 0,.slice none 0 0,.bool false,.int .i64 0]):=by
 have:fillL #[(.pointer none),(.pointer none),(.pointer none),(.pointer none),(.pointer none),(.slice none 0 0),(.slice none 0 0),(.slice none 0 0),(.int .i64 0),(.slice none 0 0),(.slice none 0 0),(.slice none 0 0),(.bool false),(.int .i64 0)] [(0,1,ptr a),(1,1,ptr b),(2,1,ptr c),(3,1,ptr d),(4,1,vc),(7,1,dv)]=some #[ptr a,ptr b,ptr c,ptr d,vc,.slice none 0 0,.slice none 0 0,dv,.int .i64 0,.slice none 0 0,.slice none 0 0,.slice none 0 0,.bool false,.int .i64 0]:=by
  refine(zaV (n:=1) (l:=[ptr a]) rfl rfl (by simp)).trans ?_
  refine(zaV (n:=1) (l:=[ptr b]) rfl rfl (by simp[zbl])).trans ?_
  refine(zaV (n:=1) (l:=[ptr c]) rfl rfl (by simp[zbl])).trans ?_
  refine(zaV (n:=1) (l:=[ptr d]) rfl rfl (by simp[zbl])).trans ?_
  refine(zaV (n:=1) (l:=[vc]) (zaK hc) rfl (by simp[zbl])).trans ?_
  refine(zaV (n:=1) (l:=[dv]) (zaK hd) rfl (by simp[zbl])).trans ?_
  rw[zcV]
  simp[wrL]
 rw[this];rfl
structure WsMk (hL:Heap)(bp:Nat)(row:Value→Array Value)(T:TypeId)(i:Nat)(wv:Value)(bw:Nat→Nat)(g:Heap):Prop where
 fr:Fr (fun c=>c=bp) hL g
 own:Own 1 g wv i ((List.range i).map fun j=>ptr (bw j))
 ws:∀j,j<i→g[bw j]? =some (.cells #[.int .i64 0,.slice none 0 0,.pointer none,.int .i64 0] 175 (0,0))∧hL.size≤bw j
 ne:∀j k,j<k→k<i→bw j≠bw k
 nw:∀b,blk wv b→hL.size≤b∧∀j,j<i→b≠bw j
 p:g[bp]? =some (.cells (row wv) T (0,0))
theorem ws_loop {hL:Heap}{bp:Nat}{row:Value→Array Value}{T:TypeId}{K:Nat}(hK:1≤K∧K≤256)(r0:hL[bp]? =some (.cells (row (.slice none 0 0)) T (0,0)))(h6:∀v,(row v)[6]? =some v)(hset:∀v v',(row v).setIfInBounds 6 v'=row v'){tA tB:TypeId}{X:Heap→Prop}
  (HX:∀wv bw g,WsMk hL bp row T K wv bw g→X g):
  loopK [(.int .i64 0)] hL fun x67 j68 h69 again70=>vK (binV .i .lss (ix x67 0) (.int .i64 (K:Int))) fun v71=>iteK v71 (
  drawK h69 fun S=>vK (nilV (ptr bp)) fun v72=>vK (fldV 6 v72) fun v73=>qK S (fun h69=>ldV h69 v73) fun v74=>
  FCall prog zeX #[] h69 fun v75 h76=>S h76∧(rowK #[(.pointer none)] tA 1 [(0,1,v75)] h76 fun v77 h78=>S h78∧(appK (.pointer none) tB 1 8 v74 v77 h78 fun v79 h80=>
  vK (nilV (ptr bp)) fun v81=>vK (fldV 6 v81) fun v82=>stK 1 v82 v79 h80 fun v83 h84=>vK (binV .i .add (ix x67 0) (.int .i64 1)) fun v85=>again70 [v85] h84))) (X h69):=by
 have lbp:=zaz r0
 refine zaF (α:=Value×(Nat→Nat)) K 0 (fun i _=>[.int .i64 (i:Int)]) (fun i s g=>WsMk hL bp row T i s.1 s.2 g) (.slice none 0 0,fun _=>0) rfl (Nat.zero_le _) ⟨Fr.refl _ _,.inl ⟨rfl,rfl,rfl⟩,by simp,by omega,fun b hb=>hb.elim,r0⟩ fun i s g again ρ _ hi M Hag=>?_
 obtain⟨wv,bw⟩:=s
 have M:WsMk hL bp row T i wv bw g:=M
 simp only[ix_0]
 rw[zbp,zaa]
 refine zac (fun g1=>?_) (fun g1=>?_)
 ·have hi':i<K:=by omega
  have hw':(i:Int)+1=((i+1:Nat):Int):=by omega
  have sg:=M.fr.1
  refine zaj (Ext g) (Ext.refl _) ?_
  simp only[go_sem,Nat.zero_add]
  refine zae wv (fun k e=>by rw[zab (e.row M.p)];exact h6 wv) ?_
  refine zpP.mono fun r g2 ⟨b,er,r2,e2,n2⟩=>⟨e2,?_⟩
  subst er
  have l2:=zaz r2
  refine zbn (Rp.fill_one rfl) fun b3 g3 r3 e3 n3=>⟨e2.trans e3,?_⟩
  have E3:=e2.trans e3
  have o3:Own 1 g3 wv i ((List.range i).map fun j=>ptr (bw j)):=M.own.fr (M:=fun _=>False) E3.fr fun _ _=>id
  have S1:=Rp.SlC.single (cs:=[ptr b]) r3
  have hne:∀c,blk wv c→c<g.size:=fun c hc=>M.own.lt hc
  refine zj1 o3 S1 (zad rfl zaq) rfl (by omega) (by omega) fun s' g4 o4 f4 n4=>?_
  have nbp:¬blk wv bp:=fun hb=>by have:=(M.nw bp hb).1;omega
  have r4:=f4.row (E3.row M.p) nbp
  have os:zam s'=true:=by obtain⟨a,c,e⟩:=Own.isSl o4;rw[e];rfl
  have hs6:6<(row wv).size:=(Array.getElem?_eq_some_iff.1 (h6 wv)).1
  refine zaH r4 hs6 os fun g5 r5 u5=>?_
  rw[hset]at r5
  have s2:=e2.1
  have s3:=e3.1
  have s4:=f4.1
  rw[w64 (n:=(i:Int)+1) (by omega) (by omega),hw']
  have b5:b≠bp:=by omega
  have nb4:∀c,blk s' c→c≠bp∧hL.size≤c:=fun c hc=>by
   rcases n4 c hc with h|h
   ·have:=(M.nw c h).1;exact⟨by omega,by omega⟩
   ·exact⟨by omega,by omega⟩
  refine Hag (s',fun j=>if j=i then b else bw j) g5 hi' ⟨?_,?_,fun j hj=>?_,fun j k hjk hk=>?_,fun c hc=>⟨(nb4 c hc).2,fun j hj=>?_⟩,r5⟩
  ·exact(((M.fr.trans E3.fr).after f4 fun c hc hb=>by have:=(M.nw c hb).1;omega)).trans u5.fr
  ·have e:(List.range (i+1)).map (fun j=>ptr (if j=i then b else bw j))=(List.range i).map (fun j=>ptr (bw j))++[ptr b]:=by
    rw[List.range_succ,List.map_append]
    congr 1
    ·refine List.map_congr_left fun j hj=>?_
     rw[if_neg (by have:=List.mem_range.1 hj;omega)]
    ·simp
   rw[e]
   exact o4.fr u5.fr fun c hc=>(nb4 c hc).1
  ·by_cases e:j=i
   ·subst e
    simp only[if_true]
    exact⟨u5.row b5 (f4.row (e3.row r2) fun hb=>by have:=hne b hb;omega),by omega⟩
   ·simp only[if_neg e]
    obtain⟨w1,w2⟩:=M.ws j (by omega)
    exact⟨u5.row (by omega) (f4.row (E3.row w1) fun hb=>(M.nw _ hb).2 j (by omega) rfl),w2⟩
  ·show(if j=i then b else bw j)≠(if k=i then b else bw k)
   have lj:∀m,m<i→bw m<g.size:=fun m hm=>zaz (M.ws m hm).1
   by_cases e:k=i
   ·rw[if_neg (by omega),if_pos e]
    have:=lj j (by omega);omega
   ·rw[if_neg (by omega),if_neg e]
    exact M.ne j k hjk (by omega)
  ·show c≠(if j=i then b else bw j)
   by_cases e:j=i
   ·rw[if_pos e]
    rcases n4 c hc with h|h
    ·have:=hne c h;omega
    ·omega
   ·rw[if_neg e]
    rcases n4 c hc with h|h
    ·exact(M.nw c h).2 j (by omega)
    ·have:=zaz (M.ws j (by omega)).1;omega
 ·have:i=K:=by omega
  subst this
  exact HX wv bw g M
end
def pool0 (K:Nat)(room:Int):PoolD:=⟨⟨min (max 1 room) 4096,[],false⟩,newF (K+1),[],fun _=>⟨0,[],none,0⟩,fun _=>0,0,[],[],[],false,0⟩
def poolZ (K:Nat)(room a b:Int):PoolD:=noteP (noteP (pool0 K room) 0 0 0 a true) 0 1 0 b true
theorem pool0_ok {C:C21}{K:Nat}{room:Int}(h:0≤zaN C.d):zfr C K (pool0 K room):=
 ⟨⟨Int.le_refl _,h⟩,rfl,(fun x hx=>by cases hx),(fun i _=>⟨(fun x hx=>by cases hx),.inr ⟨.inl rfl,rfl⟩,(fun t y e h=>by cases h)⟩),(fun i _=>Int.le_refl _),(fun i _=>by simp[pool0,newF]),(fun s hs=>by cases hs),Nat.zero_le _,(fun s hs=>by cases hs),Int.le_refl _,(by show(0:Int)≤2+2*0;omega),Int.le_refl _,(fun h=>by cases h)⟩
theorem poolZ_ok {C:C21}{K:Nat}{room a b:Int}(h:0≤zaN C.d):zfr C K (poolZ K room a b):=by
 have H:=pool0_ok (C:=C) (K:=K) (room:=room) h
 exact⟨H.sent,H.st,H.q,H.w,H.tn,H.rows,H.ss,H.fn,H.ls,H.ln,(by show(2:Int)≤2+2*0;omega),H.pk,H.cl⟩
theorem label {P:Nat→Nat→Prop}(h0:∀c,¬P 0 c)(u:∀k k' c,P k c→P k' c→k=k'):∃o:Nat→Nat,∀k,k≠0→∀c,o c=k↔P k c:=by
 classical
 refine⟨fun c=>if h:∃k,P k c then Classical.choose h else 0,fun k hk c=>?_⟩
 by_cases h:∃k,P k c
 ·simp only[dif_pos h]
  have hc:=Classical.choose_spec h
  exact⟨fun e=>e▸hc,fun e=>u _ _ c hc e⟩
 ·simp only[dif_neg h]
  exact⟨fun e=>absurd e.symm hk,fun e=>absurd ⟨k,e⟩ h⟩
def Made0 (h:Heap)(m:Pic)(s:Stg)(tw th room:Int)(bf:Nat)(K:Nat)(r:Value)(h':Heap):Prop:=
 ∃bp C Z bw o,r=.tuple #[ptr bp,.int .i64 0]∧C.m=m∧C.d=⟨s,tw,th⟩∧C.bf=bf∧C.Ok∧zcr C Z K h bw bp o (imgN s.x.lines.length s.y.lines.length m.c m.most) (poolZ K room (m.w*m.h*m.c) ((s.x.lines.length:Int)*s.y.lines.length*m.c)) h'∧(∀c,outB (some C.E) c→h.size≤c)∧Ext h h'∧(∀c,o c≠0→h.size≤c)
def PoolPost (h4:Heap)(K:Nat)(room:Int)(bf bt bl:Nat)(xs:List Value)(g:Heap):Prop:=
 ∃bp bq pc dv,xs=[ptr bp]∧zeV h4 K room (some bq) (some pc) (some dv) g∧g[bp]? =some (.cells #[ptr bf,ptr bt,ptr bl,ptr bq,pc.1,.slice none 0 0,.slice none 0 0,dv,.int .i64 0,.slice none 0 0,.slice none 0 0,.slice none 0 0,.bool false,.int .i64 0] 197 (0,0))∧h4.size≤bp∧bp≠bq∧¬pc.2 bp∧¬blk dv bp
theorem zo8 {h4 g:Heap}{K:Nat}{room:Int}{bf bt bl bq:Nat}{pc:Value×(Nat→Prop)}{dv:Value}(M:zeV h4 K room (some bq) (some pc) (some dv) g):
  vK ((fillL #[(.pointer none),(.pointer none),(.pointer none),(.pointer none),(.pointer none),(.slice none 0 0),(.slice none 0 0),(.slice none 0 0),(.int .i64 0),(.slice none 0 0),(.slice none 0 0),(.slice none 0 0),(.bool false),(.int .i64 0)] [(0,1,ptr bf),(1,1,ptr bt),(2,1,ptr bl),(3,1,ptr bq),(4,1,pc.1),(7,1,dv)]).map .agg) fun v48=>newK (Value.cells v48) 197 g fun v49 h50=>Ext h4 h50∧PoolPost h4 K room bf bt bl [v49] h50:=by
 have oc:zam pc.1=true:=by obtain⟨_,_,_,_,e,_⟩:=(M.hc pc rfl).1;rw[e];rfl
 have od:zam dv=true:=by obtain⟨a,c,e⟩:=Own.isSl (M.hd dv rfl).1;rw[e];rfl
 rw[fill_pool oc od,zaa]
 refine zag fun bp g' r' e' n'=>⟨M.ext.trans e',bp,bq,pc,dv,rfl,M.ex e',r',by have:=M.ext.1;omega,by have:=(M.hq bq rfl).1.ql bq rfl;omega,fun h=>by have:=((M.hc pc rfl).2 bp h).2;omega,fun h=>by have:=(M.hd dv rfl).1.lt h;omega⟩
theorem c_poolNew {h:Heap}(G:GlobB h){Z0:Nat→Prop}{bf:Nat}{vf sv:Value}{m:Pic}{s:Stg}(I:IsImg h bf vf m)(W:m.Wf)(HS:IsStg Z0 h sv s)(WS:StgOk s)(hsu:zhp m s)(zf:Z0 bf∧∀c,blk vf c→Z0 c)(zl:∀c,Z0 c→c<h.size)(fit:imgC s.x.lines.length s.y.lines.length m.c m.most=0){tw th wk room:Int}:
  FCall prog zeu #[ptr bf,sv,.int .i64 tw,.int .i64 th,.int .i64 wk,.int .i64 room] h fun r h'=>
   (¬(sideT tw∧sideT th)→r=.tuple #[.pointer none,.int .i64 9]∧Ext h h')∧(sideT tw∧sideT th→¬(1≤wk∧wk≤256)→r=.tuple #[.pointer none,.int .i64 10]∧Ext h h')∧
   (sideT tw∧sideT th→∀K:Nat,wk=K→1≤K∧K≤256→Made0 h m s tw th room bf K r h'):=by
 apply zk7
 unfold zhT
 have HS0:=HS
 obtain⟨p,q,rfl,hp,hq,ones⟩:=zcM HS
 simp only[zaB]
 refine zag fun b1 h1 r1 e1 n1=>?_
 have nf:binV .p .eql (ptr bf) (.pointer none)=some (.bool false):=rfl
 have l3:ldsV 3 h1 (ptr b1)=some (.agg #[p,q,.int .i64 s.border]):=zap (l:=[p,q,.int .i64 s.border]) r1 3 rfl
 simp only[go_sem,nf,l3]
 refine(zpX (G.ext e1) (I.ext e1) (HS0.ext e1)).mono fun r h2 ⟨er,e2⟩=>?_
 rw[decide_eq_true hsu]at er
 subst er
 simp only[go_sem]
 have E2:=e1.trans e2
 have r2:=e2.row r1
 refine zaj (fun k=>k=h2) rfl ?_
 refine zae p (fun k e=>by rw[e];exact zab r2) ?_
 refine zae q (fun k e=>by rw[e];exact zab r2) ?_
 have hp2:=hp.ext E2
 have hq2:=hq.ext E2
 refine FCall.at (c_To hp2) ⟨rfl,?_⟩
 refine FCall.at (c_To hq2) ?_
 have I2:=I.ext E2
 refine FCall.at (zbH I2) ?_
 refine FCall.at (zhL I2) ?_
 refine zjY.mono fun r h3 ⟨pt,er,e3,_,hN⟩=>?_
 subst er
 obtain⟨bt,vt,ept,It,nbt,nvt,_⟩:=hN fit
 subst ept
 rw[fit]
 have x0:∀a b:Value,extV (.tuple #[a,b]) 0=some a:=fun _ _=>rfl
 have x1:∀a b:Value,extV (.tuple #[a,b]) 1=some b:=fun _ _=>rfl
 simp only[x0,x1,zaa]
 have n00:binV .i .neq (.int .i64 0) (.int .i64 0)=some (.bool false):=rfl
 rw[n00,zaa,zbo]
 have E3:=E2.trans e3
 have s1:=e1.1
 have s2:=e2.1
 have s3:=e3.1
 rw[zap (l:=[p,q,.int .i64 s.border]) (e3.row r2) 3 rfl,zaa]
 refine(c_planNew (Z:=Z0) (s:=s) ⟨p,q,rfl,hp.ext E3,hq.ext E3⟩).mono fun r h4 ⟨e4,pl1,pl2⟩=>?_
 have E4:=E3.trans e4
 by_cases hsd:sideT tw∧sideT th
 ·obtain⟨bl,pp,pq,er,nbl,PL⟩:=pl1 hsd
  subst er
  simp only[x0,x1,zaa]
  rw[n00,zaa,zbo]
  by_cases hw1:wk<1
  ·simp only[go_sem,hw1]
   exact⟨fun h=>absurd hsd h,fun _ _=>⟨trivial,E4⟩,fun _ K hK h=>by omega⟩
  by_cases hw2:256<wk
  ·simp only[go_sem,hw1,hw2]
   exact⟨fun h=>absurd hsd h,fun _ _=>⟨trivial,E4⟩,fun _ K hK h=>by omega⟩
  simp only[go_sem,hw1,hw2]
  obtain⟨K,hK⟩:∃K:Nat,wk=(K:Int):=⟨wk.toNat,by omega⟩
  subst hK
  have hK:1≤K∧K≤256:=by omega
  have fin:∀{r h'},Made0 h m s tw th room bf K r h'→(¬(sideT tw∧sideT th)→r=.tuple #[.pointer none,.int .i64 9]∧Ext h h')∧(sideT tw∧sideT th→¬(1≤(K:Int)∧(K:Int)≤256)→r=.tuple #[.pointer none,.int .i64 10]∧Ext h h')∧(sideT tw∧sideT th→∀K':Nat,(K:Int)=K'→1≤K'∧K'≤256→Made0 h m s tw th room bf K' r h'):=fun{r h'} M=>⟨fun h=>absurd hsd h,fun _ h=>absurd (by omega) h,fun _ K' e _=>by
   obtain rfl:K=K':=by omega
   exact M⟩
  have lbt:=It.lt
  have lbl:=zaz PL.row
  have s4:=e4.1
  refine zar (PoolPost h4 K room bf bt bl) ?_ ?_
  ·refine zaj (Ext h4) (Ext.refl _) ?_
   try simp only[go_sem]
   rw[w64 (n:=(K:Int)+1) (by omega) (by omega)]
   have M0:=zeV.start h4 K room
   refine⟨?_,?_⟩
   ·refine M0.queue fun bq g1 M1=>⟨M1.ext,?_,?_⟩
    ·refine M1.clock hK fun pc g2 M2=>⟨M2.ext,?_⟩
     refine M2.words hK fun dv g3 M3=>⟨M3.ext,?_⟩
     exact zo8 M3
    ·refine M1.words hK fun dv g2 M2=>⟨M2.ext,?_⟩
     refine M2.clock hK fun pc g3 M3=>⟨M3.ext,?_⟩
     exact zo8 M3
   ·refine M0.words hK fun dv g1 M1=>⟨M1.ext,?_⟩
    refine M1.queue fun bq g2 M2=>⟨M2.ext,?_⟩
    refine M2.clock hK fun pc g3 M3=>⟨M3.ext,?_⟩
    exact zo8 M3
  rintro xs ρ g ⟨bp,bq,pc,dv,rfl,M,row,nbp,bpq,bpc,bpd⟩
  simp only[ix_0]
  refine ws_loop (row:=fun v=>#[ptr bf,ptr bt,ptr bl,ptr bq,pc.1,.slice none 0 0,v,dv,.int .i64 0,.slice none 0 0,.slice none 0 0,.slice none 0 0,.bool false,.int .i64 0]) hK row (fun v=>rfl) (fun v v'=>rfl) fun wv bw g2 WM=>?_
  have c0:=M.ext
  have sM:=c0.1
  obtain⟨Qk,nbq⟩:=M.hq bq rfl
  obtain⟨Ck,cM⟩:=M.hc pc rfl
  obtain⟨Dk,nd⟩:=M.hd dv rfl
  have lbq:=Qk.ql bq rfl
  have ldv:∀c,blk dv c→c<g.size:=fun c hc=>Dk.lt hc
  have lbp:=zaz row
  have e0:=WM.fr
  have se:=e0.1
  have wl:∀j,j<K→bw j<g2.size:=fun j hj=>zaz (WM.ws j hj).1
  have wvl:∀c,blk wv c→c<g2.size:=fun c hc=>WM.own.lt hc
  have wi:∀i j,i<K→j<K→bw i=bw j→i=j:=fun i j hi hj h=>by
   rcases Nat.lt_trichotomy i j with h1|h1|h1
   ·exact absurd h (WM.ne i j h1 hj)
   ·exact h1
   ·exact absurd h.symm (WM.ne j i h1 hi)
  have u:∀k k' c,((k=1∧c=bq)∨(k=2∧pc.2 c)∨(k=4∧c=bp)∨(k=5∧blk dv c)∨(k=9∧blk wv c)∨∃j,j<K∧k=10+j∧c=bw j)→((k'=1∧c=bq)∨(k'=2∧pc.2 c)∨(k'=4∧c=bp)∨(k'=5∧blk dv c)∨(k'=9∧blk wv c)∨∃j,j<K∧k'=10+j∧c=bw j)→k=k':=by
   intro k k' c h1 h2
   have q1:pc.2 c→c<g.size∧c≠bq∧c≠bp∧¬blk dv c:=fun h=>⟨(cM c h).2,fun e=>M.qc bq pc rfl rfl (e▸h),fun e=>bpc (e▸h),M.cd pc dv c rfl rfl h⟩
   have q2:blk dv c→c<g.size∧c≠bq∧c≠bp:=fun h=>⟨ldv c h,fun e=>M.qd bq dv rfl rfl (e▸h),fun e=>bpd (e▸h)⟩
   have q3:blk wv c→g.size≤c∧∀j,j<K→c≠bw j:=fun h=>WM.nw c h
   have q4:∀j,j<K→g.size≤bw j:=fun j hj=>(WM.ws j hj).2
   rcases h1 with⟨a1,b1⟩|⟨a1,b1⟩|⟨a1,b1⟩|⟨a1,b1⟩|⟨a1,b1⟩|⟨i,i1,a1,b1⟩<;>rcases h2 with⟨a2,b2⟩|⟨a2,b2⟩|⟨a2,b2⟩|⟨a2,b2⟩|⟨a2,b2⟩|⟨j,j1,a2,b2⟩<;>
    first
    |omega
    |(exfalso;exact(q1 b1).2.2.2 b2)
    |(exfalso;exact(q1 b2).2.2.2 b1)
    |(exfalso;have:=q1 b1;have:=q3 b2;omega)
    |(exfalso;have:=q1 b2;have:=q3 b1;omega)
    |(exfalso;have:=q2 b1;have:=q3 b2;omega)
    |(exfalso;have:=q2 b2;have:=q3 b1;omega)
    |(exfalso;have:=q1 b1;omega)
    |(exfalso;have:=q1 b2;omega)
    |(exfalso;have:=q2 b1;omega)
    |(exfalso;have:=q2 b2;omega)
    |(exfalso;have:=(q3 b1).1;omega)
    |(exfalso;have:=(q3 b2).1;omega)
    |(exfalso;exact(q3 b1).2 _ j1 b2)
    |(exfalso;exact(q3 b2).2 _ i1 b1)
    |(exfalso;have:=q1 b1;have:=q4 _ j1;omega)
    |(exfalso;have:=q1 b2;have:=q4 _ i1;omega)
    |(exfalso;have:=q2 b1;have:=q4 _ j1;omega)
    |(exfalso;have:=q2 b2;have:=q4 _ i1;omega)
    |(exfalso;have:=q4 _ j1;omega)
    |(exfalso;have:=q4 _ i1;omega)
    |(have:=wi i j i1 j1 (b1.symm.trans b2);omega)
  obtain⟨o,ho⟩:=label (fun c h=>by rcases h with⟨a,_⟩|⟨a,_⟩|⟨a,_⟩|⟨a,_⟩|⟨a,_⟩|⟨j,_,a,_⟩<;>omega) u
  have hlow:∀c,o c≠0→h4.size≤c∧c<g2.size:=fun c hc=>by
   rcases(ho _ hc c).1 rfl with⟨_,e⟩|⟨_,e⟩|⟨_,e⟩|⟨_,e⟩|⟨_,e⟩|⟨j,j1,_,e⟩
   ·omega
   ·have:=cM c e;omega
   ·omega
   ·have:=nd c e;have:=ldv c e;omega
   ·have:=(WM.nw c e).1;have:=wvl c e;omega
   ·have:=(WM.ws j j1).2;have:=wl j j1;omega
  have s2e:h4.size≤g2.size:=by omega
  have E42:Ext h4 g2:=c0.then_fr e0 fun c hc=>by have hc:c=bp:=hc;omega
  have E:=E4.trans E42
  obtain⟨C,hC⟩:∃C:C21,C=⟨0,0,0,0,bf,vf,bt,vt,pp,pq,.pointer none,bl,pp,pq,m,⟨s,tw,th⟩,0,bq⟩:=⟨_,rfl⟩
  have It2:IsImg g2 bt vt (imgN s.x.lines.length s.y.lines.length m.c m.most):=(It.ext e4).ext E42
  have I0:=I.lt
  have Iv:∀c,blk vf c→c<h.size:=fun c hc=>I.ltv hc
  have Tv:∀c,blk vt c→c<h3.size:=fun c hc=>It.ltv hc
  have nwf:(imgN s.x.lines.length s.y.lines.length m.c m.most).Wf:=znn fit
  have hfit:fitsZ s.x.lines.length s.y.lines.length m.c:=nwf.fits
  have hZ:∀c,(Z0 c∨c=bl)→c<g2.size∧c≠bt∧¬blk vt c:=fun c hc=>by
   have h1:=nvt c
   rcases hc with hc|hc
   ·have:=zl c hc
    exact⟨by omega,by omega,fun h=>by have:=h1 h;omega⟩
   ·exact⟨by omega,by omega,fun h=>by have:=Tv c h;omega⟩
  have SU:Setup (fun c=>Z0 c∨c=bl) g2 C.bf C.vf C.bt C.vt C.p C.q C.m (imgN s.x.lines.length s.y.lines.length m.c m.most) C.d.s:=by
   rw[hC]
   exact⟨I.ext E,It2,(by show bf≠bt;omega),(PL.x.ext E42).mono fun c _ hc=>.inl hc,(PL.y.ext E42).mono fun c _ hc=>.inl hc,⟨.inl zf.1,fun c hc=>.inl (zf.2 c hc)⟩,fun c hc=>(hZ c hc).2.2,fun c hc=>(hZ c hc).2.1,fun c hc=>(hZ c hc).1⟩
  have Pl2:ziO (fun c=>Z0 c∨c=bl) g2 C.bl C.d C.pp C.pq:=by
   rw[hC]
   exact⟨E42.row PL.row,(PL.x.ext E42).mono fun c _ hc=>.inl hc,(PL.y.ext E42).mono fun c _ hc=>.inl hc⟩
  have CO:C.Ok:=by
   rw[hC]
   exact⟨W,⟨WS.wf,hsd.1,hsd.2⟩,WS⟩
  have SW:C.suits (imgN s.x.lines.length s.y.lines.length m.c m.most):=by
   rw[hC]
   exact⟨nwf,hsu,rfl,rfl,rfl,rfl⟩
  have eC:C.m=m∧C.d=⟨s,tw,th⟩∧C.bf=bf∧C.bq=bq∧C.bt=bt∧C.bl=bl∧C.vt=vt∧C.pp=C.p∧C.pq=C.q:=by rw[hC];exact⟨rfl,rfl,rfl,rfl,rfl,rfl,rfl,rfl,rfl⟩
  clear hC
  obtain⟨k1,k2,k3,k4,k5,k6,k7,k8,k9⟩:=eC
  have hOut:OutAt g2 (some C.E) (imgN s.x.lines.length s.y.lines.length m.c m.most):=fun E' hE=>by cases hE;exact⟨SU.out,nwf⟩
  have hnew:∀c,h4.size≤c→¬(Z0 c∨c=bl)∧outV (some C.E) c∧¬outB (some C.E) c:=fun c hc=>by
   refine⟨fun h=>?_,?_,fun h=>?_⟩
   ·rcases h with h|h
    ·have:=zl c h;omega
    ·omega
   ·show c≠C.bt;omega
   ·have h:blk C.vt c:=h
    rw[k7]at h
    have:=Tv c h;omega
  have fbp:∀c,c≠bp→¬(fun c=>c=bp) c:=fun c h=>h
  have PB:zal (fun _=>False) C (fun c=>Z0 c∨c=bl) K h bw bp o (imgN s.x.lines.length s.y.lines.length m.c m.most) ⟨pc.1,.slice none 0 0,wv,dv,.slice none 0 0,.slice none 0 0,.slice none 0 0⟩ (pool0 K room) g2:=by
   refine⟨fun _=>?_,fun _=>?_,fun _=>⟨fun _=>False,Rp.Ow.nil,fun c h=>h.elim,fun c h=>h.elim⟩,fun _=>?_,fun _=>⟨?_,fun c hc=>(ho 5 (by omega) c).2 (.inr (.inr (.inr (.inl ⟨rfl,hc⟩))))⟩,fun _=>⟨fun _=>False,Rp.Ow.nil,fun c h=>h.elim,fun c h=>h.elim⟩,fun _=>⟨fun _=>False,Rp.Ow.nil,fun c h=>h.elim,fun c h=>h.elim⟩,fun _=>Rp.Sl.nil,fun _=>⟨WM.own.sl,fun c hc=>(ho 9 (by omega) c).2 (.inr (.inr (.inr (.inr (.inl ⟨rfl,hc⟩)))))⟩,fun i hi _=>?_,(ho 4 (by omega) bp).2 (.inr (.inr (.inl ⟨rfl,rfl⟩))),SU,Pl2,⟨.inr k6,k8,k9⟩,SW,fun c hc=>⟨(hlow c hc).2,by have:=(hlow c hc).1;have:=E4.1;omega,hnew c (hlow c hc).1⟩,E,hK⟩
   ·rw[k4]
    exact(Qk.fr e0 fun c hc h=>bpq (h.symm.trans hc)).bmono (fun c hc=>(ho 1 (by omega) c).2 (.inl ⟨rfl,hc⟩)) fun c hc=>(hlow c (by rw[hc];omega)).2
   ·exact(Ck.fr e0 fun c _ hc h=>bpc (by have h:c=bp:=h;rw[←h];exact hc)).bmono (fun c hc=>(ho 2 (by omega) c).2 (.inr (.inl ⟨rfl,hc⟩))) fun c hc=>(hlow c (by rw[hc];omega)).2
   ·have:=WM.p
    unfold zcR
    rw[k3,k5,k6,k4]
    exact this
   ·exact Dk.fr e0 fun c hc h=>bpd (by have h:c=bp:=h;rw[←h];exact hc)
   ·have hw:=WM.ws i hi
    have hn:=hnew (bw i) (by omega)
    exact(IsW.new hw.1 hn.1 hn.2.1 hn.2.2 (fun c hc=>(hZ c hc).1) hOut).bmono (fun c hc=>(ho (10+i) (by omega) c).2 (.inr (.inr (.inr (.inr (.inr ⟨i,hi,rfl,hc⟩)))))) (fun c hc=>(hlow c (by rw[hc];omega)).2) fun c hc=>hnew c (hlow c (by rw[hc];omega)).1
  have HP:zcr C (fun c=>Z0 c∨c=bl) K h bw bp o _ (pool0 K room) g2:=⟨_,PB⟩
  -- the two notes
  have bf1:=zbv W.fits
  have bf2:=zbv hfit
  have m1:1≤m.w*m.h*m.c:=Int.mul_pos (Int.mul_pos (by omega) (by omega)) (by omega)
  have m2:1≤(s.x.lines.length:Int)*s.y.lines.length*m.c:=Int.mul_pos (Int.mul_pos (by omega) (by omega)) (by omega)
  refine FCall.at (znx (I.ext E) W.fits) ?_
  refine(zpU HP (who:=0) (by omega) (by show 0≤1000000;omega) (Int.le_refl 0) (Int.le_refl 0) m1 (by omega)).mono fun r g3 ⟨_,o3,H3,q3,f3⟩=>?_
  have B3:=H3
  obtain⟨V3,B3⟩:=B3
  have It3:=B3.set.out
  rw[k5,k7]at It3
  refine FCall.at (znx It3 hfit) ?_
  refine(zpU H3 (who:=0) (by omega) (by show 1≤1000000;omega) (by omega) (Int.le_refl 0) m2 (by omega)).mono fun r g4 ⟨_,o4,H4,q4,f4⟩=>?_
  refine fin ⟨bp,C,fun c=>Z0 c∨c=bl,bw,o4,rfl,k1,k2,k3,CO,H4,fun c hc=>?_,?_,fun c hc=>?_⟩
  ·have hc:blk C.vt c:=hc
   rw[k7]at hc
   have:=nvt c hc;omega
  ·obtain⟨V4,B4⟩:=H4
   exact B4.ext
  ·obtain⟨V4,B4⟩:=H4
   exact(B4.ow c hc).2.1
 ·have er:=pl2 hsd
  subst er
  simp only[x0,x1,zaa]
  have n90:binV .i .neq (.int .i64 9) (.int .i64 0)=some (.bool true):=rfl
  rw[n90,zaa,zcU]
  exact⟨fun _=>⟨trivial,E4⟩,fun h=>absurd h hsd,fun h=>absurd h hsd⟩
section
section
variable {C:C21}{Z:Nat→Prop}{K:Nat}{h0 h:Heap}{bw:Nat→Nat}{bp:Nat}{o:Nat→Nat}{n:Pic}{P:PoolD}
theorem c_poolTotal (O:C.Ok)(H:zcr C Z K h0 bw bp o n P h){N:Nat}(hN:(N:Int)=zaN C.d)(hN2:N≤4096)(hs:sumT C N 0≤1000000000):
  FCall prog zes #[ptr bp] h fun r h'=>r=.int .i64 ((2*N+K+2+sumT C N 0:Nat):Int)∧Ext h h':=by
 have HP:=H
 obtain⟨V,H,row⟩:=H.row
 apply zmt
 unfold zgI
 have hK:=H.few
 have c2:zah h ⟨bp,2,none⟩=some (ptr C.bl):=zab row
 have c6:zah h ⟨bp,6,none⟩=some V.wv:=zab row
 have e6:=SlC.len (H.wk id).1
 refine zaj (fun k=>k=h) rfl ?_
 simp only[go_sem,Nat.zero_add]
 refine zae (ptr C.bl) (fun k e=>by rw[e];exact c2) ?_
 try simp only[go_sem,Nat.zero_add]
 refine zae V.wv (fun k e=>by rw[e];exact c6) ?_
 refine zae (.int .i64 (K:Int)) (fun _ _=>e6) ?_
 refine FCall.at (znz H.pl O.d) ⟨rfl,?_⟩
 rw[←hN]
 simp only[go_sem]
 rw[w64 (n:=2*(N:Int)) (by omega) (by omega),w64 (n:=2*(N:Int)+K) (by omega) (by omega),w64 (n:=2*(N:Int)+K+2) (by omega) (by omega),c2,zaa]
 refine(c_planAll H.pl O.d hN (by omega)).mono fun av g3 NA=>?_
 obtain⟨aa,ca,ea⟩:=NA.sl.isSl
 have hll:(zhn C.d N).length=N:=by simp[zhn]
 have ela:zaf av=some (.int .i64 (N:Int)):=by rw[ea];show some (Value.int .i64 ((zhn C.d N).length:Int))=_;rw[hll]
 rw[ela,zaa]
 refine zaF (α:=Unit) N 0 (fun i _=>[.int .i64 (2*(N:Int)+K+2+(sumT C i 0:Nat)),.int .i64 (i:Int)]) (fun i _ g=>Ext g3 g) () (by simp[sumT]) (Nat.zero_le _) (Ext.refl _) fun i _ g4 again ρ _ hi e4 Hag=>?_
 simp only[ix_0,ix_1]
 have E4:=NA.2.1.trans e4
 have H4:=H.ex E4
 rw[zbp,zaa]
 refine zac (fun g1=>?_) (fun g1=>?_)
 ·have hi':i<N:=by omega
  obtain⟨pt,ct',q1,q2,q3⟩:=(NA.sl.ext e4).atw (show 0<10 by omega) (k:=.i64) (i:=i) (by omega)
  have q1:idxV 10 av (.int .i64 (i:Int))=some pt:=q1
  have q2:ldsV 10 g4 pt=some (.agg ct'.toArray):=q2
  have q3:ct'=tileC (zhn C.d N)[i]:=q3
  have q4:(zhn C.d N)[i]=zat C.d i:=by simp[zhn]
  rw[q4]at q3
  subst q3
  rw[q1,zaa,q2,zaa]
  refine zbh (cs:=tileC (zat C.d i)) rfl (zdi _) rfl fun b5 g5 r5 e5 n5=>?_
  have H5:=H4.ex e5
  have row5:=H5.p id
  refine zaj (Ext g5) (Ext.refl _) ?_
  try simp only[go_sem,Nat.zero_add]
  refine zae (ptr C.bl) (fun k e=>zab (e.row row5)) ?_
  refine zae (.agg (tileC (zat C.d i)).toArray) (fun k e=>zap (e.row r5) 10 rfl) ?_
  refine(c_Stage H5.pl).mono fun r g6 ⟨er,e6⟩=>?_
  subst er
  refine⟨e6,?_⟩
  have H6:=H5.ex e6
  rw[H.zl.2.1,H.zl.2.2]
  refine FCall.to (c_Steps C.m H6.set.tx H6.set.ty O.s) fun g7 e7=>?_
  rw[if_pos (zeb O.d (by omega) (by omega))]
  have hst:zlu C.d.s (zat C.d i) C.m=ziW C i:=rfl
  rw[hst]
  have hsp:sumT C (i+1) 0=sumT C i 0+ziW C i:=by
   rw[zrE C i 1 0,Nat.zero_add];show _+(ziW C i+0)=_;omega
  have htot:sumT C N 0=sumT C (i+1) 0+sumT C (N-(i+1)) (0+(i+1)):=by rw[←zrE];congr 1;omega
  have hs':2*(N:Int)+K+2+(sumT C i 0:Nat)+(ziW C i:Int)=2*(N:Int)+K+2+(sumT C (i+1) 0:Nat):=by omega
  have hw':(i:Int)+1=((i+1:Nat):Int):=by omega
  try simp only[go_sem]
  rw[hs',w64 (n:=2*(N:Int)+K+2+(sumT C (i+1) 0:Nat)) (by omega) (by omega),w64 (n:=(i:Int)+1) (by omega) (by omega),hw']
  exact Hag () g7 hi' (e4.trans (e5.trans (e6.trans e7)))
 ·have hiN:i=N:=by omega
  subst hiN
  refine⟨?_,E4⟩
  congr 1
end
end
end Go.Proofs.YtcoimlclclnlkaaGreatDoor
namespace Go.Proofs.YtcoimlclclnlkaaGreatDoor
open Go Go.Crisp
attribute [local irreducible] FCall rowK newK stK iteK vK qK drawK gK joinK loopK mkK appK cpyK zoB zmd bsK clK zh1 zgb newmK
section
def numsF (a b:Nat):List Int:=(List.range' a (b-a)).map fun i:Nat=>(i:Int)
theorem nums_push {a b:Nat}(h:a≤b):numsF a (b+1)=numsF a b++[(b:Int)]:=by
 unfold numsF
 rw[show b+1-a=(b-a)+1 by omega,List.range'_concat,List.map_append]
 congr 1
 simp;omega
theorem nums_pop {a b:Nat}(h:a<b):numsF a b=(a:Int)::numsF (a+1) b:=by
 unfold numsF
 rw[show b-a=(b-(a+1))+1 by omega,List.range'_succ]
 rfl
theorem nums_null {a b:Nat}:numsF a b=[]↔b≤a:=by
 unfold numsF
 simp;omega
def sumW (K:Nat)(f:Nat→Nat):Nat:=((List.range K).map f).sum
theorem zho (K:Nat)(f:Nat→Nat):sumW (K+1) f=sumW K f+f K:=by simp[sumW,List.range_succ]
theorem zoP {K:Nat}{f g:Nat→Nat}(h:∀i,i<K→f i=g i):sumW K f=sumW K g:=by
 unfold sumW
 congr 1
 exact List.map_congr_left fun i hi=>h i (List.mem_range.1 hi)
theorem sumW_upd {f g:Nat→Nat}{k:Nat}(h:∀i,i≠k→g i=f i):∀K,k<K→sumW K g+f k=sumW K f+g k:=by
 intro K
 induction K with
 |zero=>intro hk;omega
 | succ K ih=>
  intro hk
  rw[zho,zho]
  by_cases e:k=K
  ·subst e
   rw[zoP (f:=g) (g:=f) fun i hi=>h i (by omega)]
   omega
  ·have:=ih (by omega)
   rw[h K (by omega)]
   omega
def goneN (w:WD):Nat:=if w.state=2 then 1 else 0
theorem gone_le (K:Nat)(ws:Nat→WD):sumW K (fun k=>goneN (ws k))≤K:=by
 induction K with
 |zero=>exact Nat.le_refl _
 |succ K ih=>rw[zho];unfold goneN at ih ⊢;split<;>omega
theorem gone_all {K:Nat}{ws:Nat→WD}(h:sumW K (fun k=>goneN (ws k))=K):∀k,k<K→(ws k).state=2:=by
 induction K with
 |zero=>intro k hk;omega
 | succ K ih=>
  rw[zho]at h
  have h1:=gone_le K ws
  have h2:goneN (ws K)≤1:=by unfold goneN;split<;>omega
  intro k hk
  by_cases e:k=K
  ·subst e
   have:goneN (ws k)=1:=by omega
   unfold goneN at this
   split at this
   ·assumption
   ·omega
  ·exact ih (by omega) k (by omega)
def zhN (C:C21)(w:WD)(n:Pic):Prop:=
 ∀x y c,inP n x y c→∀i∈w.tiles,inTile (zat C.d i) x y→(∀t yy e,w.job=some (t,yy,e)→i=w.tiles.getLast?.getD 0→y<yy)→atP n x y c=pixZ C.m C.d.s x y c
structure zgh (C:C21)(K N tk:Nat)(P:PoolD)(n:Pic):Prop where
 ok:zfr C K P
 nn:(N:Int)=zaN C.d
 sn:(tk:Int)≤P.sent
 ql:P.q.l=numsF tk P.sent.toNat
 rm:1≤P.q.room
 cov:∀x:Nat,x<tk→∃k,k<K∧(x:Int)∈(P.ws k).tiles
 gone:∀k,k<K→(P.ws k).state=2→P.q.l=[]∧P.q.closed=true
 cnt:P.left.length=sumW K fun k=>goneN (P.ws k)
 rt:P.ret=true→P.q.closed=true∧P.left.length=K
 rem:P.picks+((N-P.sent.toNat)+(if P.q.closed=true then 0 else 1)+(if P.ret=true then 0 else 1)+(N-tk)+sumT C (N-tk) tk+sumW K (fun k=>muJ C.E (P.ws k).job)+(K-P.left.length):Nat)=(2*N+K+2+sumT C N 0:Nat)
 paint:∀k,k<K→zhN C (P.ws k) n
theorem workP_eq (C:C21)(K:Nat)(P:PoolD)(k:Nat):(workP C K P k).q=(stepP C P k).q∧(workP C K P k).ws=(stepP C P k).ws∧(workP C K P k).words=(stepP C P k).words∧(workP C K P k).sent=P.sent∧(workP C K P k).ret=P.ret∧(workP C K P k).picks=P.picks∧(workP C K P k).left.length=P.left.length+if(evP C P k).1=3 then 1 else 0:=by
 unfold workP
 split
 ·rename_i h;rw[h];exact⟨rfl,rfl,rfl,rfl,rfl,rfl,rfl⟩
 ·split
  ·rename_i h1 h2
   rw[if_neg (by omega)]
   unfold zmA
   split<;>exact⟨rfl,rfl,rfl,rfl,rfl,rfl,rfl⟩
  ·split
   ·refine⟨rfl,rfl,rfl,rfl,rfl,rfl,?_⟩
    show(P.left++[_]).length=_
    simp
   ·exact⟨rfl,rfl,rfl,rfl,rfl,rfl,rfl⟩
section
variable {C:C21}{K N tk:Nat}{P:PoolD}{n n':Pic}
theorem main_inv (H:zgh C K N tk P n)(h1:runsP C K P 0=true):zgh C K N tk (pickP C K P 0) n:=by
 have ok':=pick_ok H.ok 0
 have hs:=H.ok.sent
 have hn:=H.nn
 have hsn:=H.sn
 have hr:=H.rem
 have hrt:P.ret=false:=by
  unfold runsP at h1
  rw[if_neg (by omega),if_neg (by omega)]at h1
  split at h1
  ·cases h1
  ·rename_i h;simpa using h
 rw[hrt]at hr
 have h2:(if P.sent<zaN C.d then decide (sendR P.q≠1)else !P.q.closed||decide (P.left.length=K))=true:=by
  unfold runsP at h1
  rw[if_neg (by omega),if_neg (by omega),hrt]at h1
  simpa using h1
 have e:pickP C K P 0=mainP C K {P with picks:=P.picks+1}:=by
  unfold pickP
  rw[h1,if_neg (by simp),if_pos rfl]
 rw[e]at ok' ⊢
 unfold mainP at ok' ⊢
 by_cases g:P.sent<zaN C.d
 ·have hc:P.q.closed=false:=by
   cases h:P.q.closed with
   |false=>rfl
   |true=>have:=H.ok.cl h;omega
  rw[if_pos g]at ok' h2 ⊢
  have hsr:sendR P.q≠1:=by simpa using h2
  have hq:sendQ P.q P.sent={P.q with l:=P.q.l++[P.sent]}:=by
   unfold sendR at hsr
   unfold sendQ
   rw[hc]at hsr ⊢
   simp only[Bool.false_eq_true,if_false]at hsr ⊢
   split at hsr
   ·exact absurd rfl hsr
   ·rename_i h;rw[if_neg h];simp[hc]
  have hst:(P.sent+1).toNat=P.sent.toNat+1:=by omega
  have hsi:((P.sent.toNat:Nat):Int)=P.sent:=by omega
  refine⟨ok',H.nn,by show(tk:Int)≤P.sent+1;omega,?_,?_,H.cov,fun k hk h=>?_,H.cnt,fun h=>?_,?_,H.paint⟩
  ·show(sendQ P.q P.sent).l=numsF tk (P.sent+1).toNat
   rw[hq,hst,nums_push (by omega),←H.ql,hsi]
  ·show 1≤(sendQ P.q P.sent).room
   rw[hq];exact H.rm
  ·have:=(H.gone k hk h).2;rw[hc]at this;cases this
  ·have h:P.ret=true:=h
   rw[hrt]at h;cases h
  ·show P.picks+1+((N-(P.sent+1).toNat)+(if(sendQ P.q P.sent).closed=true then 0 else 1)+(if P.ret=true then 0 else 1)+(N-tk)+sumT C (N-tk) tk+sumW K (fun k=>muJ C.E (P.ws k).job)+(K-P.left.length):Nat)=(2*N+K+2+sumT C N 0:Nat)
   rw[hq,hrt,hc]
   rw[hc]at hr
   simp only[Bool.false_eq_true,if_false]at hr ⊢
   omega
 ·rw[if_neg g]at ok' h2 ⊢
  cases hc:P.q.closed with
  | false=>
   rw[hc]at ok' hr
   rw[if_pos rfl]at ok' ⊢
   refine⟨ok',H.nn,H.sn,H.ql,H.rm,H.cov,fun k hk h=>?_,H.cnt,fun h=>?_,?_,H.paint⟩
   ·have:=(H.gone k hk h).2;rw[hc]at this;cases this
   ·have h:P.ret=true:=h
    rw[hrt]at h;cases h
   ·show P.picks+1+((N-P.sent.toNat)+(if true=true then 0 else 1)+(if P.ret=true then 0 else 1)+(N-tk)+sumT C (N-tk) tk+sumW K (fun k=>muJ C.E (P.ws k).job)+(K-P.left.length):Nat)=(2*N+K+2+sumT C N 0:Nat)
    rw[hrt]
    simp only[Bool.false_eq_true,if_false,if_true]at hr ⊢
    omega
  |true=>
   rw[hc]at ok' hr h2
   rw[if_neg (by simp)]at ok' ⊢
   have hl:P.left.length=K:=by simpa using h2
   refine⟨ok',H.nn,H.sn,H.ql,H.rm,H.cov,H.gone,H.cnt,fun _=>⟨hc,hl⟩,?_,H.paint⟩
   show P.picks+1+((N-P.sent.toNat)+(if P.q.closed=true then 0 else 1)+(if true=true then 0 else 1)+(N-tk)+sumT C (N-tk) tk+sumW K (fun k=>muJ C.E (P.ws k).job)+(K-P.left.length):Nat)=(2*N+K+2+sumT C N 0:Nat)
   rw[hc]
   simp only[Bool.false_eq_true,if_false,if_true]at hr ⊢
   omega
theorem zhN.keep {w:WD}(H:zhN C w n)(D:zbe n n')(k:∀x y c,inP n x y c→atP n x y c=pixZ C.m C.d.s x y c→atP n' x y c=pixZ C.m C.d.s x y c):zhN C w n':=
 fun x y c hi i h1 h2 h3=>k x y c (D.inP.1 hi) (H x y c (D.inP.1 hi) i h1 h2 h3)
theorem drew_keep {w:WD}(D:Drew (some C.E) w n n'):∀x y c,inP n x y c→atP n x y c=pixZ C.m C.d.s x y c→atP n' x y c=pixZ C.m C.d.s x y c:=by
 intro x y c hi h
 obtain⟨D1,D2⟩:=D
 cases hj:w.job with
 |none=>rw[hj]at D2;rw[D2];exact h
 | some j=>
  obtain⟨t,yy,e⟩:=j
  rw[hj]at D2
  obtain⟨_,_,d1,d2⟩:=D2
  by_cases hK:stepK (C.E.d t) yy e=2
  ·rw[d2 hK x y c hi]
   split
   ·rfl
   ·exact h
  ·rw[d1 hK];exact h
theorem zhN.move (O:C.Ok){w:WD}{t:TileD}{y e:Int}(hj:w.job=some (t,y,e))(h0:0≤w.tiles.getLast?.getD 0)(h1:w.tiles.getLast?.getD 0<zaN C.d)(ht:t=zat C.d (w.tiles.getLast?.getD 0))(su:C.suits n)(H:zhN C w n)(D:Drew (some C.E) w n n'){w':WD}(hw1:w'.tiles=w.tiles)(hw2:w'.job=zaM (some C.E) (some (t,stepY (C.E.d t) y e,stepE (C.E.d t) y e))):zhN C w' n':=by
 have keep:=drew_keep D
 obtain⟨D1,D2⟩:=D
 rw[hj]at D2
 obtain⟨O1,O2,d1,d2⟩:=D2
 have hr:=(C21.newC O su h0 h1)
 have RO:=O.s.room (m:=C.m) (n:=n) (t:=t) O.m (by rw[ht];exact hr)
 intro x' y' c' hi i him hin hl
 rw[hw1]at him hl
 rw[hw2]at hl
 have hi0:inP n x' y' c':=D1.inP.1 hi
 by_cases hil:i=w.tiles.getLast?.getD 0
 ·rw [hil,←ht]at hin
  have hy:y'<stepY (C.E.d t) y e:=by
   by_cases h0:stepK (C.E.d t) (stepY (C.E.d t) y e) (stepE (C.E.d t) y e)=0
   ·unfold stepK at h0
    split at h0
    ·rename_i h1
     have h1:t.y+t.h≤stepY (C.E.d t) y e:=h1
     unfold inTile at hin
     omega
    ·split at h0<;>omega
   ·exact hl t _ _ (if_neg h0) hil
  rcases Int.lt_or_le y' y with h2|h2
  ·exact keep x' y' c' hi0 (H x' y' c' hi0 i him (by rw[hil,←ht];exact hin) fun t2 yy e2 h3 _=>by rw[hj]at h3;cases h3;exact h2)
  ·have hK:stepK (C.E.d t) y e=2:=by
    unfold stepY at hy
    split at hy
    ·assumption
    ·omega
   have hY:stepY (C.E.d t) y e=y+1:=if_pos hK
   have ey:y'=y:=by omega
   rw[d2 hK x' y' c' hi0,if_pos]
   refine⟨ey,hin.1,hin.2.1,?_⟩
   have hwid:=RO.wid
   have hwid:(zcI (t.w*C.m.c):Int)=t.w*C.m.c:=hwid
   rw[hwid]
   show(x'-t.x)*C.m.c+c'<t.w*C.m.c
   have hc:c'<C.m.c:=by have:=hi0.2.2.2.2.2;rw[←su.2.2.2.2.1];exact this
   have hx:=hin.2.1
   have:(x'-t.x+1)*C.m.c≤t.w*C.m.c:=Int.mul_le_mul_of_nonneg_right (by omega) (by have:=hi0.2.2.2.2.1;omega)
   rw[Int.add_mul,Int.one_mul]at this
   omega
 ·exact keep x' y' c' hi0 (H x' y' c' hi0 i him hin fun t2 yy e2 _ h3=>absurd h3 hil)
theorem zhN.take (O:C.Ok){w:WD}{x:Int}(h0:0≤x)(h1:x<zaN C.d)(hj:w.job=none)(H:zhN C w n){w':WD}(hw1:w'.tiles=w.tiles++[x])(hw2:w'.job=zaM (some C.E) (C.jo x)):zhN C w' n:=by
 intro x' y' c' hi i him hin hl
 rw[hw1]at him hl
 rw[hw2]at hl
 by_cases hil:i=x
 ·subst hil
  have hw:=zeb O.d h0 h1
  have hk0:stepK (C.E.d (zat C.d i)) (zat C.d i).y (lnF C.d.s.y (zat C.d i).y)≠0:=by
   unfold stepK
   rw[if_neg (by show¬(zat C.d i).y+(zat C.d i).h≤(zat C.d i).y;unfold zbY at hw;omega)]
   split<;>omega
  have hs:zaM (some C.E) (C.jo i)=C.jo i:=if_neg hk0
  rw[hs]at hl
  have:=hl _ _ _ rfl (by simp)
  unfold inTile at hin
  omega
 ·rcases List.mem_append.1 him with h|h
  ·exact H x' y' c' hi i h hin fun t yy e h3 _=>by rw[hj]at h3;cases h3
  ·exact absurd (List.mem_singleton.1 h) hil
end
end
section
section
variable {C:C21}{K N tk:Nat}{P:PoolD}{n n':Pic}
theorem sumW_one (K:Nat):sumW K (fun _=>1)=K:=by
 induction K with
 |zero=>rfl
 |succ K ih=>rw[zho,ih]
theorem zrD (K:Nat):sumW K (fun _=>0)=0:=by
 induction K with
 |zero=>rfl
 |succ K ih=>rw[zho,ih]
theorem work_inv (O:C.Ok)(H:zgh C K N tk P n){k:Nat}(hk:k<K)(h1:runsP C K P ((k:Int)+1)=true)(hje:∀t y e,(P.ws k).job=some (t,y,e)→e≤lnE C.d.s.y y)(su:C.suits n)(D:Drew (some C.E) (P.ws k) n n'):∃tk',zgh C K N tk' (pickP C K P ((k:Int)+1)) n':=by
 have ok':=pick_ok H.ok ((k:Int)+1)
 have ek:((k:Int)+1-1).toNat=k:=by omega
 have epk:pickP C K P ((k:Int)+1)=workP C K {P with picks:=P.picks+1} k:=by
  unfold pickP
  rw[h1,if_neg (by simp),if_neg (by omega),ek]
 rw[epk]at ok' ⊢
 clear epk
 obtain⟨f1,f2,f3,f4,f5,f6,f7⟩:=workP_eq C K {P with picks:=P.picks+1} k
 generalize workP C K {P with picks:=P.picks+1} k=Q at ok' f1 f2 f3 f4 f5 f6 f7 ⊢
 have f4:Q.sent=P.sent:=f4
 have f5:Q.ret=P.ret:=f5
 have f6:Q.picks=P.picks+1:=f6
 have f1:Q.q=(stepW (some C.E) (C.jo (recvX P.q)) (P.ws k) P.q).2.1:=f1
 have f2:Q.ws=fun i=>if i=k then(stepW (some C.E) (C.jo (recvX P.q)) (P.ws k) P.q).1 else P.ws i:=f2
 have f7:Q.left.length=P.left.length+if(stepW (some C.E) (C.jo (recvX P.q)) (P.ws k) P.q).2.2.1=3 then 1 else 0:=f7
 have hs:=H.ok.sent
 have hn:=H.nn
 have hsn:=H.sn
 have hr:=H.rem
 have Wk:=H.ok.w k hk
 have hrun:(P.ws k).state=1∨((P.ws k).state=0∧recvR P.q≠1):=by
  unfold runsP at h1
  split at h1
  ·cases h1
  ·rw[if_pos (by omega),ek]at h1
   simpa using h1
 have hup:∀(f:WD→Nat),sumW K (fun i=>f (Q.ws i))+f (P.ws k)=sumW K (fun i=>f (P.ws i))+f (stepW (some C.E) (C.jo (recvX P.q)) (P.ws k) P.q).1:=fun f=>by
  have:=sumW_upd (f:=fun i=>f (P.ws i)) (g:=fun i=>f (Q.ws i)) (k:=k) (fun i hi=>by rw[f2];simp only[if_neg hi]) K hk
  rw[f2]at this ⊢
  simp only[if_true]at this
  exact this
 have others:∀j,j<K→j≠k→Q.ws j=P.ws j:=fun j _ h=>by rw[f2];simp only[if_neg h]
 have self:Q.ws k=(stepW (some C.E) (C.jo (recvX P.q)) (P.ws k) P.q).1:=by rw[f2];simp only[if_true]
 have keep:=drew_keep D
 have pO:∀j,j<K→j≠k→zhN C (Q.ws j) n':=fun j hj h=>by rw[others j hj h];exact(H.paint j hj).keep D.1 keep
 rcases Wk.st with⟨s1,s2,s3⟩|⟨s1,s2⟩
 ·-- it moves
  cases hj:(P.ws k).job with
  |none=>rw[hj]at s2;exact(show False from s2).elim
  | some jj=>
   obtain⟨t,y,e⟩:=jj
   rw[hj]at s2
   have s2:stepK (C.E.d t) y e≠0:=s2
   have es:stepW (some C.E) (C.jo (recvX P.q)) (P.ws k) P.q=(⟨stJ (zaM (some C.E) (some (t,stepY (C.E.d t) y e,stepE (C.E.d t) y e))),(P.ws k).tiles,zaM (some C.E) (some (t,stepY (C.E.d t) y e,stepE (C.E.d t) y e)),(P.ws k).words⟩,P.q,(2,(P.ws k).tiles.getLast?.getD 0,stepK (C.E.d t) y e,stepJ (C.E.d t) y e)):=by
    unfold stepW
    rw[if_pos s1,hj]
   rw[es]at f1 f7 self hup
   have f1:Q.q=P.q:=f1
   have f7:Q.left.length=P.left.length:=by rw[f7];simp
   have hl:=Wk.tl _ (last_mem s3)
   obtain⟨j1,j2⟩:=Wk.jb t y e hj
   have hmu:=hup fun w=>muJ C.E w.job
   have hgo:=hup goneN
   have g0:goneN (P.ws k)=0:=by unfold goneN;rw[if_neg (by omega)]
   have gs:∀jo,goneN ⟨stJ jo,(P.ws k).tiles,jo,(P.ws k).words⟩=0:=fun jo=>by unfold goneN;rw[if_neg];cases jo with|none=>exact(by decide:¬(0:Int)=2)|some x=>exact(by decide:¬(1:Int)=2)
   simp only[mu_settle,hj]at hmu
   have hm1:muJ C.E (some (t,y,e))=leftZ (C.E.d t) y e:=rfl
   have hls:=left_step (d:=C.E.d t) s2 (hje t y e hj)
   simp only[gs,g0]at hgo
   refine⟨tk,ok',H.nn,by rw[f4];exact hsn,by rw[f1,f4];exact H.ql,by rw[f1];exact H.rm,fun x hx=>?_,fun j hj' h=>?_,by rw[f7,H.cnt];omega,fun h=>by rw[f5]at h;rw[f1,f7];exact H.rt h,?_,fun j hj'=>?_⟩
   ·obtain⟨j,hj1,hj2⟩:=H.cov x hx
    refine⟨j,hj1,?_⟩
    by_cases ejk:j=k
    ·subst ejk;rw[self];exact hj2
    ·rw[others j hj1 ejk];exact hj2
   ·rw[f1]
    by_cases ejk:j=k
    ·subst ejk
     rw[self]at h
     have:=gs (zaM (some C.E) (some (t,stepY (C.E.d t) y e,stepE (C.E.d t) y e)))
     unfold goneN at this
     rw[if_pos h]at this
     omega
    ·rw[others j hj' ejk]at h;exact H.gone j hj' h
   ·rw[f1,f4,f5,f6,f7];omega
   ·by_cases e':j=k
    ·subst e'
     exact zhN.move O hj hl.1 (by omega) j1 su (H.paint j hj') D (by rw[self]) (by rw[self])
    ·exact pO j hj' e'
 ·have s0:(P.ws k).state=0∧recvR P.q≠1:=by
   rcases hrun with h|h
   ·omega
   ·exact h
  have hn':n'=n:=by
   obtain⟨_,D2⟩:=D
   rw[s2]at D2
   exact D2
  subst hn'
  have g0:goneN (P.ws k)=0:=by unfold goneN;rw[if_neg (by omega)]
  have m0:muJ C.E (P.ws k).job=0:=by rw[s2];rfl
  by_cases hr0:recvR P.q=0
  ·-- it takes a tile
   have hne:P.q.l≠[]:=fun h=>by unfold recvR at hr0;rw[if_pos h]at hr0;split at hr0<;>omega
   have htk:tk<P.sent.toNat:=by
    rw[H.ql]at hne
    exact Nat.lt_of_not_le fun h=>hne (nums_null.2 h)
   have hx:recvX P.q=(tk:Int):=by unfold recvX;rw[H.ql,nums_pop htk];rfl
   have es:stepW (some C.E) (C.jo (recvX P.q)) (P.ws k) P.q=(tookW (some C.E) (P.ws k) (recvX P.q) (C.jo (recvX P.q)),recvQ P.q,(1,recvX P.q,0,0)):=by
    unfold stepW
    rw[if_neg (by omega),if_neg (by omega),if_pos hr0]
   rw[es]at f1 f7 self hup
   have f1:Q.q=recvQ P.q:=f1
   have f7:Q.left.length=P.left.length:=by rw[f7];simp
   have hl':(recvQ P.q).l=numsF (tk+1) P.sent.toNat:=by
    unfold recvQ
    show P.q.l.tail=_
    rw[H.ql,nums_pop htk];rfl
   have hgo:=hup goneN
   have hmu:=hup fun w=>muJ C.E w.job
   have gs:∀jo wd tl,goneN ⟨stJ jo,tl,jo,wd⟩=0:=fun jo wd tl=>by unfold goneN;rw[if_neg];cases jo with|none=>exact(by decide:¬(0:Int)=2)|some x=>exact(by decide:¬(1:Int)=2)
   have g1:goneN (tookW (some C.E) (P.ws k) (recvX P.q) (C.jo (recvX P.q)))=0:=gs _ _ _
   have m1:muJ C.E (tookW (some C.E) (P.ws k) (recvX P.q) (C.jo (recvX P.q))).job=ziW C tk:=by
    rw[hx]
    show muJ C.E (zaM (some C.E) (some ((zat C.d tk),(zat C.d tk).y,lnF C.d.s.y (zat C.d tk).y)))=_
    rw[mu_settle];rfl
   have hsp:sumT C (N-tk) tk=ziW C tk+sumT C (N-(tk+1)) (tk+1):=by
    rw[show N-tk=(N-(tk+1))+1 by omega];rfl
   have ht1:(tookW (some C.E) (P.ws k) (recvX P.q) (C.jo (recvX P.q))).tiles=(P.ws k).tiles++[recvX P.q]:=rfl
   simp only[m0,m1]at hmu
   simp only[g0,g1]at hgo
   refine⟨tk+1,ok',H.nn,by rw[f4];omega,by rw[f1,f4];exact hl',by rw[f1];exact H.rm,fun x hx'=>?_,fun j hj' h=>?_,by rw[f7,H.cnt];omega,fun h=>by rw[f5]at h;rw[f1,f7];exact H.rt h,?_,fun j hj'=>?_⟩
   ·by_cases ex:x=tk
    ·refine⟨k,hk,?_⟩
     rw[self,ht1,hx,ex];simp
    ·obtain⟨j,hj1,hj2⟩:=H.cov x (by omega)
     refine⟨j,hj1,?_⟩
     by_cases ejk:j=k
     ·subst ejk;rw[self,ht1];exact List.mem_append_left _ hj2
     ·rw[others j hj1 ejk];exact hj2
   ·by_cases ejk:j=k
    ·subst ejk
     rw[self]at h
     unfold goneN at g1
     rw[if_pos h]at g1
     omega
    ·rw[others j hj' ejk]at h
     exact absurd (H.gone j hj' h).1 hne
   ·rw[f1,f4,f5,f6,f7]
    have hcl:(recvQ P.q).closed=P.q.closed:=rfl
    rw[hcl]
    omega
   ·by_cases e':j=k
    ·subst e'
     exact zhN.take O (x:=recvX P.q) (by rw[hx];omega) (by rw[hx];omega) s2 (H.paint j hj') (by rw[self];rfl) (by rw[self];rfl)
    ·exact pO j hj' e'
  ·-- it leaves
   have hr2:recvR P.q=2:=by
    have:=s0.2
    unfold recvR at this hr0 ⊢
    split
    ·rename_i h;rw[if_pos h]at this hr0;split<;>simp_all
    ·rename_i h;rw[if_neg h]at hr0;exact absurd rfl hr0
   have hq:P.q.l=[]∧P.q.closed=true:=by
    unfold recvR at hr2
    split at hr2
    ·rename_i h
     refine⟨h,?_⟩
     split at hr2
     ·assumption
     ·omega
    ·omega
   have hrq:recvQ P.q=P.q:=by
    unfold recvQ
    rw[hq.1]
    cases h:P.q
    rw[h]at hq
    simp_all
   have es:stepW (some C.E) (C.jo (recvX P.q)) (P.ws k) P.q=({P.ws k with state:=2},recvQ P.q,(3,0,0,0)):=by
    unfold stepW
    rw[if_neg (by omega),if_neg (by omega),if_neg hr0,if_pos hr2]
   rw[es]at f1 f7 self hup
   have f1:Q.q=P.q:=by rw[f1];exact hrq
   have f7:Q.left.length=P.left.length+1:=by rw[f7];simp
   have hgo:=hup goneN
   have hmu:=hup fun w=>muJ C.E w.job
   have g1:goneN {P.ws k with state:=2}=1:=rfl
   have gl:=gone_le K Q.ws
   simp only[m0,s2]at hmu
   simp only[g0,g1]at hgo
   have m00:muJ C.E none=0:=rfl
   have hcnt:=H.cnt
   refine⟨tk,ok',H.nn,by rw[f4];exact hsn,by rw[f1,f4];exact H.ql,by rw[f1];exact H.rm,fun x hx=>?_,fun j hj' h=>by rw[f1];exact hq,by rw[f7,H.cnt];omega,fun h=>?_,?_,fun j hj'=>?_⟩
   ·obtain⟨j,hj1,hj2⟩:=H.cov x hx
    refine⟨j,hj1,?_⟩
    by_cases ejk:j=k
    ·subst ejk;rw[self];exact hj2
    ·rw[others j hj1 ejk];exact hj2
   ·rw[f5]at h
    have:=(H.rt h).2
    have:=gone_le K P.ws
    omega
   ·rw[f1,f4,f5,f6,f7]
    omega
   ·by_cases e':j=k
    ·subst e'
     have hp:=H.paint j hj'
     rw[self]
     exact hp
    ·exact pO j hj' e'
theorem pick_inv (O:C.Ok)(H:zgh C K N tk P n){i:Int}(hje:∀k,k<K→∀t y e,(P.ws k).job=some (t,y,e)→e≤lnE C.d.s.y y)(su:C.suits n)(D:DrewP C K P i n n'):∃tk',zgh C K N tk' (pickP C K P i) n':=by
 unfold DrewP at D
 by_cases hr:runsP C K P i=true
 ·by_cases h0:i=0
  ·rw[if_neg (fun h=>h.2 h0)]at D
   subst h0 D
   exact⟨tk,main_inv H hr⟩
  ·rw[if_pos ⟨hr,h0⟩]at D
   have hi:0<i∧i≤K:=by
    unfold runsP at hr
    split at hr
    ·cases hr
    ·omega
   obtain⟨k,rfl⟩:∃k:Nat,i=(k:Int)+1:=⟨(i-1).toNat,by omega⟩
   rw[show((k:Int)+1-1).toNat=k by omega]at D
   exact work_inv O H (by omega) hr (hje k (by omega)) su D
 ·rw[if_neg (fun h=>hr h.1)]at D
  subst D
  refine⟨tk,?_⟩
  have:pickP C K P i=P:=by unfold pickP;rw[if_pos (by simpa using hr)]
  rw[this]
  exact H
theorem somebody (H:zgh C K N tk P n)(hK:1≤K)(hr:P.ret=false):∃i:Nat,i≤K∧runsP C K P (i:Int)=true:=by
 have hs:=H.ok.sent
 have wk:∀k,k<K→((P.ws k).state=1∨((P.ws k).state=0∧recvR P.q≠1))→∃i:Nat,i≤K∧runsP C K P (i:Int)=true:=fun k hk h=>by
  refine⟨k+1,by omega,?_⟩
  unfold runsP
  rw[if_neg (by omega),if_pos (by omega),show(((k+1:Nat):Int)-1).toNat=k by omega]
  exact decide_eq_true h
 have mn:(if P.sent<zaN C.d then decide (sendR P.q≠1)else !P.q.closed||decide (P.left.length=K))=true→∃i:Nat,i≤K∧runsP C K P (i:Int)=true:=fun h=>by
  refine⟨0,by omega,?_⟩
  unfold runsP
  rw[if_neg (by omega),if_neg (by omega),if_neg (by rw[hr];simp)]
  exact h
 by_cases g:P.sent<zaN C.d
 ·by_cases hf:sendR P.q=1
  ·have hne:P.q.l≠[]:=fun h=>by
    unfold sendR at hf
    split at hf
    ·omega
    ·split at hf
     ·rename_i hh;rw[h]at hh;have:=H.rm;simp only[List.length_nil]at hh;omega
     ·omega
   have hr0:recvR P.q=0:=if_neg hne
   rcases(H.ok.w 0 (by omega)).st with h|⟨h|h,_⟩
   ·exact wk 0 (by omega) (.inl h.1)
   ·exact wk 0 (by omega) (.inr ⟨h,by omega⟩)
   ·exact absurd (H.gone 0 (by omega) h).1 hne
  ·exact mn (by rw[if_pos g];exact decide_eq_true hf)
 ·cases hc:P.q.closed with
  |false=>exact mn (by rw[if_neg g,hc];rfl)
  | true=>
   by_cases hl:P.left.length=K
   ·exact mn (by rw[if_neg g,hc];simpa using hl)
   ·have:∃k,k<K∧(P.ws k).state≠2:=Classical.byContradiction fun h=>hl (by
     rw[H.cnt]
     have:∀k,k<K→goneN (P.ws k)=1:=fun k hk=>by
      unfold goneN
      rw[if_pos (Classical.byContradiction fun h2=>h ⟨k,hk,h2⟩)]
     rw[zoP (g:=fun _=>1) this,sumW_one])
    obtain⟨k,hk,h2⟩:=this
    have hr1:recvR P.q≠1:=by
     unfold recvR
     rw[hc]
     split<;>simp
    rcases(H.ok.w k hk).st with h|⟨h|h,_⟩
    ·exact wk k hk (.inl h.1)
    ·exact wk k hk (.inr ⟨h,hr1⟩)
    ·exact absurd h h2
theorem inv_end (O:C.Ok)(H:zgh C K N tk P n)(su:C.suits n)(hK:1≤K)(hr:P.ret=true):n.l=(zoh C.m C.d.s).l∧P.picks=(2*N+K+2+sumT C N 0:Nat)∧tk=N:=by
 obtain⟨h1,h2⟩:=H.rt hr
 have hs:=H.ok.cl h1
 have hcnt:=H.cnt
 have hall:=gone_all (K:=K) (ws:=P.ws) (by omega)
 have hn:=H.nn
 have hrem:=H.rem
 have hjob:∀k,k<K→(P.ws k).job=none:=fun k hk=>by
  rcases(H.ok.w k hk).st with h|h
  ·have:=hall k hk;omega
  ·exact h.2
 have hmu:sumW K (fun k=>muJ C.E (P.ws k).job)=0:=by
  rw[zoP (g:=fun _=>0) fun k hk=>by rw[hjob k hk];rfl,zrD]
 have htk:tk=N:=by
  have:=(H.gone 0 (by omega) (hall 0 (by omega))).1
  rw[H.ql]at this
  have:=nums_null.1 this
  have:=H.sn
  omega
 refine⟨?_,?_,htk⟩
 ·refine painted_all O H.nn (fun x y c hi i hin ht _=>?_) su
  obtain⟨k,hk,hm⟩:=H.cov i (by omega)
  exact H.paint k hk x y c hi i hm ht fun t yy e h _=>by rw[hjob k hk]at h;cases h
 ·rw[htk,hmu,h1,hr]at hrem
  simp only[if_true]at hrem
  have e0:sumT C (N-N) N=0:=by rw[Nat.sub_self];rfl
  rw[e0]at hrem
  omega
end
end
end Go.Proofs.YtcoimlclclnlkaaGreatDoor
namespace Go.Proofs.YtcoimlclclnlkaaGreatDoor
open Go Go.Crisp
attribute [local irreducible] FCall rowK newK stK iteK vK qK drawK gK joinK loopK mkK appK cpyK zoB zmd bsK clK zh1 zgb newmK
open _root_.Go.Proofs.Tryz
section
def GoP (C:C21)(Z:Nat→Prop)(K N:Nat)(h0:Heap)(bw:Nat→Nat)(bp:Nat)(o:Nat→Nat)(n:Pic)(P:PoolD)(h:Heap):Prop:=zcr C Z K h0 bw bp o n P h∧∃tk,zgh C K N tk P n
theorem run_mem {C:C21}{K:Nat}{P:PoolD}{k:Nat}{x:Int}:x∈runL C K P k↔ ∃i:Nat,i<k∧x=(i:Int)∧runsP C K P x=true:=by
 unfold runL
 rw[List.mem_filter,List.mem_map]
 constructor
 ·rintro⟨⟨i,hi,rfl⟩,h⟩
  exact⟨i,List.mem_range.1 hi,rfl,h⟩
 ·rintro⟨i,hi,rfl,h⟩
  exact⟨⟨i,List.mem_range.2 hi,rfl⟩,h⟩
theorem picks_run {C:C21}{K:Nat}{P:PoolD}{i:Int}(h:runsP C K P i=true):(pickP C K P i).picks=P.picks+1:=by
 unfold pickP
 rw[h,if_neg (by simp)]
 split
 ·unfold mainP
  split
  ·rfl
  ·split<;>rfl
 ·exact(workP_eq C K {P with picks:=P.picks+1} (i-1).toNat).2.2.2.2.2.1
section
variable {C:C21}{Z:Nat→Prop}{K N:Nat}{h0 h:Heap}{bw:Nat→Nat}{bp:Nat}{o:Nat→Nat}{n:Pic}{P:PoolD}
theorem GoP.ext {h':Heap}(H:GoP C Z K N h0 bw bp o n P h)(e:Ext h h'):GoP C Z K N h0 bw bp o n P h':=⟨H.1.ext e,H.2⟩
theorem GoP.picks (H:GoP C Z K N h0 bw bp o n P h):0≤P.picks∧P.picks≤(2*N+K+2+sumT C N 0:Nat):=by
 obtain⟨_,tk,I⟩:=H
 have:=I.rem
 have:=I.ok.pk
 omega
theorem GoP.few (H:GoP C Z K N h0 bw bp o n P h):1≤K∧K≤256∧Ext h0 h∧C.suits n:=by
 obtain⟨⟨V,H⟩,_⟩:=H
 exact⟨H.few.1,H.few.2,H.ext,H.sui⟩
theorem c_pickI (O:C.Ok)(G:GlobB h0)(H:GoP C Z K N h0 bw bp o n P h){i:Int}(hi:I64 i)(few:2*N+K+2+sumT C N 0≤300000)(hb:∀c,outB (some C.E) c→h0.size≤c):
  FCall prog zdr #[ptr bp,.int .i64 i] h fun r h'=>r=.bool (runsP C K P i)∧∃o' n',GoP C Z K N h0 bw bp o' n' (pickP C K P i) h'∧(∀c,c<h.size→o' c=o c)∧Fr (fun c=>o c≠0∨outB (some C.E) c) h h':=by
 have hp:=H.picks
 obtain⟨HP,tk,I⟩:=H
 have hN:=I.nn
 refine(c_Pick O G HP I.ok hi (by omega) (by omega) hb).mono fun r h' ⟨er,n',⟨o',a,b,c⟩,D⟩=>?_
 obtain⟨V,B⟩:=HP
 obtain⟨tk',I'⟩:=pick_inv O I (fun k hk=>(B.ws k hk id).job_e) B.sui D
 exact⟨er,o',n',⟨a,tk',I'⟩,b,c⟩
theorem GoP.runs (H:GoP C Z K N h0 bw bp o n P h)(hr:P.ret=false):runL C K P (K+1)≠[]:=by
 have hK:=H.few.1
 obtain⟨_,tk,I⟩:=H
 obtain⟨i,hi,h1⟩:=somebody I hK hr
 intro h2
 have:((i:Nat):Int)∈runL C K P (K+1):=run_mem.2 ⟨i,by omega,rfl,h1⟩
 rw[h2]at this
 cases this
end
end
def pic22:Pic:=⟨1,1,1,255,[9]⟩
def op22:OpD:=⟨1,0,0,0,[],[],0,0,0⟩
theorem l22_facts:makeC op22 1 1=0∧sizeW op22 1=1∧zhp pic22 (makeS op22 1 1)∧imgC (makeS op22 1 1).x.lines.length (makeS op22 1 1).y.lines.length 1 255=0∧(makeS op22 1 1).x.lines.length=1∧(makeS op22 1 1).y.lines.length=1∧pixZ pic22 (makeS op22 1 1) 0 0 0=9∧zaN ⟨makeS op22 1 1,1,1⟩=1∧zlu (makeS op22 1 1) (zat ⟨makeS op22 1 1,1,1⟩ 0) pic22=2:=by
 decide+kernel
theorem at22:atP (zoh pic22 (makeS op22 1 1)) 0 0 0=9:=by decide+kernel
theorem poolZ_inv {C:C21}{K N:Nat}{room a b:Int}{n:Pic}(hN:(N:Int)=zaN C.d):zgh C K N 0 (poolZ K room a b) n:=by
 refine⟨poolZ_ok (by omega),hN,Int.le_refl _,rfl,(by show 1≤min (max 1 room) 4096;omega),(fun x hx=>by omega),fun k hk h=>?_,?_,(fun h=>by cases h),?_,(fun k hk x y c _ i hi=>by cases hi)⟩
 ·have h:(0:Int)=2:=h
  omega
 ·show 0=sumW K fun _=>0
  rw[zrD]
 ·show(0:Int)+((N-0)+1+1+(N-0)+sumT C (N-0) 0+sumW K (fun _=>0)+(K-0):Nat)=(2*N+K+2+sumT C N 0:Nat)
  rw[zrD,Nat.sub_zero]
  omega
theorem end_pic {C:C21}{K N tk:Nat}{P:PoolD}{n:Pic}(O:C.Ok)(H:zgh C K N tk P n)(su:C.suits n)(hK:1≤K)(hr:P.ret=true):n=zoh C.m C.d.s:=by
 have h:=(inv_end O H su hK hr).1
 obtain⟨s1,s2,s3,s4,s5⟩:=su.2
 cases n
 simp only at h s2 s3 s4 s5
 subst h s2 s3 s4 s5
 rfl
theorem c_l22Lives {h:Heap}(G:GlobB h):FCall prog zij #[] h fun r h'=>r=.bool true∧Ext h h':=by
 apply zql
 unfold zkx
 obtain⟨a1,a2,a3,a4,a5,a6,a7,a8,a9⟩:=l22_facts
 have a0:imgC 1 1 1 255=0:=by decide+kernel
 refine zbn (Rp.fill_one rfl) fun b1 h1 r1 e1 n1=>?_
 have S1:=Rp.SlC.single (cs:=[.int .u16 9]) r1
 have SU:Rp.Sl rU (fun _=>True) h1 (.slice (some ⟨b1,0,none⟩) 1 1) [9]:=⟨_,S1,fun _ _ _=>trivial,fun i hi=>by
  have hi:i=0:=by simpa using hi
  subst hi;rfl⟩
 refine(c_imgOf SU a0 rfl (fun x hx=>by have:=List.mem_singleton.1 hx;omega)).mono fun r h2 ⟨pm,er,bm,vm,epm,I,nbm,nvm,e2⟩=>?_
 subst er epm
 have I:IsImg h2 bm vm pic22:=I
 have W:pic22.Wf:=⟨by decide,by decide,by decide,rfl,fun x hx=>by have:=List.mem_singleton.1 hx;show 0≤x∧x≤255;omega⟩
 have E2:=e1.trans e2
 have hf:(fillL #[(.int .i64 0),(.int .i64 0),(.int .i64 0),(.int .i64 0),(.slice none 0 0),(.slice none 0 0),(.int .i64 0),(.int .i64 0),(.int .i64 0)] [(0,1,(.int .i64 1))])=some #[.int .i64 1,.int .i64 0,.int .i64 0,.int .i64 0,.slice none 0 0,.slice none 0 0,.int .i64 0,.int .i64 0,.int .i64 0]:=rfl
 simp only[go_sem,hf,zaA]
 have wf:op22.Wf:=zmf (by simp[I64])
 refine(zrn (Z:=fun _=>True) (o:=op22) (G.ext E2) zmg wf (by simp[op22]) (by simp[op22]) (by unfold I64;omega) (by unfold I64;omega)).mono fun w h3 ⟨sv,e,e3,_,s2⟩=>?_
 subst e
 have HS:=s2 a1
 rw[a1]
 obtain⟨p,q,rfl,hp,hq,ones⟩:=zcM HS
 simp only[go_sem]
 refine zbh (cs:=[p,q,.int .i64 _]) rfl ones rfl fun b3 h4 r4 e4 n4=>?_
 have E4:=E2.trans (e3.trans e4)
 refine FCall.to c_Lives fun h5 e5=>?_
 simp only[go_sem]
 have E5:=E4.trans e5
 refine FCall.to (c_l21Lives (G.ext E5)) fun h6 e6=>?_
 have E6:=E5.trans e6
 simp only[go_sem,eqT]
 rw[zap (l:=[p,q,.int .i64 _]) ((e5.trans e6).row r4) 3 rfl,zaa]
 have OK:StgOk (makeS op22 1 1):=zsz a1 (by omega) (by rw[a2];omega)
 have s3:=e3.1
 have s46:=(e4.trans (e5.trans e6)).1
 have I6:=(I.ext (e3.trans (e4.trans (e5.trans e6))))
 have HS6:IsStg (fun c=>c<h6.size) h6 (.agg #[p,q,.int .i64 (makeS op22 1 1).border]) (makeS op22 1 1):=(HS.ext (e4.trans (e5.trans e6))).mono fun c hc _=>hc
 refine(c_poolNew (wk:=1) (G.ext E6) I6 W HS6 OK a3 ⟨I6.lt,fun c hc=>I6.ltv hc⟩ (fun c hc=>hc) a4).mono fun r h7 ⟨_,_,hM⟩=>?_
 obtain⟨bp,C,Z,bw,o,er,k1,k2,k3,CO,HP,nout,e7,now⟩:=hM (by unfold sideT;omega) 1 rfl (by omega)
 subst er
 have ct:zaN C.d=1:=by rw[k2];exact a8
 have st:sumT C 1 0=2:=by
  have:ziW C (0:Nat)=zlu C.d.s (zat C.d 0) C.m:=rfl
  show ziW C (0:Nat)+0=2
  rw[this,k1,k2]
  exact a9
 have GP:GoP C Z 1 1 h6 bw bp o _ _ h7:=⟨HP,0,poolZ_inv (by rw[ct];rfl)⟩
 have pn:binV .p .eql (ptr bp) (.pointer none)=some (.bool false):=rfl
 simp only[go_sem,eqT,pn]
 refine FCall.to (c_poolTotal CO GP.1 (N:=1) (by rw[ct];rfl) (by omega) (by omega)) fun h8 e8=>?_
 rw[st]
 have n7:binV .i .neq (.int .i64 ((2*1+1+2+2:Nat):Int)) (.int .i64 7)=some (.bool false):=rfl
 simp only[go_sem,n7]
 have GP8:=GP.ext e8
 refine FCall.at (zsU GP8.1) ?_
 have n2:binV .i .neq (.int .i64 ((1+1:Nat):Int)) (.int .i64 2)=some (.bool false):=rfl
 simp only[go_sem,n2]
 have E8:=E6.trans (e7.trans e8)
 refine zaF (α:=Unit) 7 0 (fun i _=>[.int .i64 (i:Int)]) (fun i _ g=>∃o n P,GoP C Z 1 1 h6 bw bp o n P g∧P.picks=(i:Int)) () rfl (Nat.zero_le _) ⟨o,_,_,GP8,rfl⟩ fun i _ g again ρ _ hi ⟨o',n',P',H',hip⟩ Hag=>?_
 simp only[ix_0]
 rw[zbp,zaa]
 refine zac (fun g1=>?_) (fun g1=>?_)
 ·have hr:P'.ret=false:=by
   cases h:P'.ret with
   |false=>rfl
   |true=>
    have su:=H'.few.2.2.2
    obtain⟨_,tk,J⟩:=H'
    have:=(inv_end CO J su (by omega) h).2.1
    omega
  refine(zpY CO H'.1).mono fun rv g2 NR=>?_
  have e9:=NR.2.1
  have H2:=H'.ext e9
  have hne:=H2.runs hr
  generalize hL:runL C 1 P' (1+1)=L at NR hne
  have hlen:L.length≠0:=fun h=>hne (List.eq_nil_of_length_eq_zero h)
  obtain⟨ar,cr,er⟩:=NR.1.sl.isSl
  have elr:zaf rv=some (.int .i64 (L.length:Int)):=by rw[er];rfl
  have hll:L.length≤2:=by rw[←hL];exact runL_len _ _ _ _
  have l0:binV .i .eql (.int .i64 (L.length:Int)) (.int .i64 0)=some (.bool false):=by rw[zeB,decide_eq_false (by omega)]
  obtain⟨p0,c1,c2⟩:=NR.1.sl.int_at (k':=.i64) (i:=0) (show 0<L.length by omega)
  have c1:idxV 1 rv (.int .i64 0)=some p0:=c1
  simp only[go_sem,elr,l0,c1,c2]
  have hmem:L[0]∈runL C 1 P' (1+1):=by rw[hL];exact List.getElem_mem _
  obtain⟨j,hj,ej,hrj⟩:=run_mem.1 hmem
  refine(c_pickI CO (G.ext E6) H2 (by unfold I64;omega) (by omega) nout).mono fun r g3 ⟨er,o3,n3,H3,oo3,f3⟩=>?_
  rw[hrj]at er
  subst er
  have hw':(i:Int)+1=((i+1:Nat):Int):=by omega
  simp only[go_sem]
  rw[w64 (n:=(i:Int)+1) (by omega) (by omega),hw']
  exact Hag () g3 (by omega) ⟨o3,n3,_,H3,by rw[picks_run hrj];omega⟩
 ·have hi7:i=7:=by omega
  have hF:=H'.few
  obtain⟨HP',tk,J⟩:=H'
  have hrem:=J.rem
  have hr:P'.ret=true:=by
   cases h:P'.ret with
   |true=>rfl
   |false=>
    rw[h,hip,hi7,st]at hrem
    simp only[Bool.false_eq_true,if_false]at hrem
    omega
  have en:=end_pic CO J hF.2.2.2 (by omega) hr
  rw[k1,k2]at en
  refine(c_poolResult HP').mono fun r g2 hres=>?_
  rcases hres with⟨h0,_⟩|⟨_,p2,er,bn,vn,ep,I2,_,_,e9⟩
  ·rw[hr]at h0;cases h0
  ·subst er ep
   have pn2:binV .p .neq (ptr bn) (.pointer none)=some (.bool true):=rfl
   have hwf:=hF.2.2.2.1
   rw[en]at I2 hwf
   simp only[go_sem,pn2]
   refine FCall.at (c_At I2 hwf) ?_
   rw[show atP (zoh pic22 (⟨makeS op22 1 1,1,1⟩:PlanD).s) 0 0 0=9 from at22]
   simp only[go_sem,eqT,decide_true]
   exact⟨trivial,E6.trans (hF.2.2.1.trans e9)⟩
theorem c_Suits_nilX {h:Heap}{b:Nat}{q bd:Value}:FCall prog zbg #[ptr b,.agg #[.pointer none,q,bd]] h fun r h'=>r=.bool false∧Ext h h':=by
 apply zjt
 unfold zfZ
 simp only[zaB]
 refine zag fun b1 h1 r1 e1 n1=>?_
 have q0:zah h1 ⟨b1,0,none⟩=some (.pointer none):=zab r1
 simp only[go_sem,Nat.zero_add,q0,nil_nn]
 exact⟨trivial,e1⟩
end Go.Proofs.YtcoimlclclnlkaaGreatDoor
