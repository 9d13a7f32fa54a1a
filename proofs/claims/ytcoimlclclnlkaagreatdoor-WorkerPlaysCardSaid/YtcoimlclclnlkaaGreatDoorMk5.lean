/- Several texts of this session, one behind the other, without what this claim does not need (put together by its program pack.py). Conditions: none. -/
import Derived.Test.YtcoimlclclnlkaaGreatDoorMk4
set_option linter.unusedVariables false
set_option linter.unusedSimpArgs false
set_option maxRecDepth 100000
namespace Go.Crisp
open Go
def CapLe (v:Value):Prop:=∀a n c,v=.slice a n c→c≤9223372036854775807
theorem appK_cap {z:Value}{e:TypeId}{w bytes:Nat}{s x:Value}{h:Heap}{K K':Value→Heap→Prop}(H:appK z e w bytes s x h K)(hs:CapLe s)(m:∀s' h',K s' h'→CapLe s'→K' s' h'):appK z e w bytes s x h K':=by
 unfold appK at H ⊢
 split at H
 ·rename_i base sLen sCap n _
  split at H
  ·rename_i h0
   rw[if_pos h0]
   revert H
   cases srcOf w h n x with
   |none=>exact fun H=>H
   | some news=>
    cases base with
    |none=>exact fun H=>m _ _ H fun a n c e=>by cases e;exact hs _ _ _ rfl
    |some a=>
     dsimp only
     cases zc6 h (a.add (sLen*w)) 0 news with
     |none=>exact fun H=>H
     |some h'=>exact fun H=>m _ _ H fun a n c e=>by cases e;exact hs _ _ _ rfl
  ·rename_i h0
   rw[if_neg h0]
   refine⟨H.1,H.2.1,?_⟩
   have H:=H.2.2
   revert H
   cases srcOf w h sLen (.slice base sLen sCap)<;>cases srcOf w h n x
   ·exact fun H=>H
   ·exact fun H=>H
   ·exact fun H=>H
   ·exact fun H c h1 h2=>m _ _ (H c h1 h2) fun a n c' e=>by cases e;omega
 ·exact H
theorem SlC.isSl_one {w:Nat}{h:Heap}{v:Value}{n:Nat}{cs:List Value}(H:SlC w h v n cs):zar v=true:=by obtain⟨a,c,e⟩:=H.isSl;rw[e];rfl
def Rp.SlCap (v:Value):Prop:=∃a n c,v=.slice a n c∧n≤c
theorem capLe_nil:CapLe (.slice none 0 0):=fun a n c e=>by cases e;omega
end Go.Crisp
namespace Go.Proofs.YtcoimlclclnlkaaGreatDoor
open Go Go.Crisp
attribute [local irreducible] FCall rowK newK stK iteK vK qK drawK gK joinK loopK mkK cpyK zmY zkN bsK clK zgY zfx newmK
open _root_.Go.Proofs.Tryz
section
theorem putCells_get {α:Type}[Inhabited α](enc:α→Value)(off:Nat)(d:Array α)(c:Array Value)(i:Nat):(Go.Sort.putCells enc off d c)[i]? =c[i]?.map fun x=>if off≤i∧i<off+d.size then enc d[i-off]! else x:=by
 unfold Go.Sort.putCells
 rw[Array.getElem?_mapIdx]
theorem c_Delete {h:Heap}{v:Value}{x:Int}{l:List Int}(H:Own 1 h v (l.length+1) ((x::l).map fun n=>Value.int .i64 n))(hc:CapLe v):
  FCall prog zcU #[v,.int .i64 0,.int .i64 1] h fun r h'=>Own 1 h' r l.length (l.map fun n=>Value.int .i64 n)∧CapLe r∧Fr (blk v) h h'∧(∀b,blk r b→blk v b):=by
 refine FCall.ofCalls (by kernel_rfl) fun w hh=>?_
 subst hh
 rcases H with⟨_,h0,_⟩|⟨b,cap,r,e,rfl,hcap,hl,hr,hb⟩
 ·cases h0
 have hcm:=hc _ _ _ rfl
 have hget:∀j,(hj:j<(x::l).length)→w.heap[b]? =some (.cells ((x::l).map (fun n=>Value.int .i64 n)++r).toArray e (0,0))→zag w.heap ⟨b,0+j,none⟩=some (.int .i64 (x::l)[j]):=fun j hj hb=>by
  rw[zad hb,Nat.zero_add]
  simp only[List.getElem?_toArray]
  rw[List.getElem?_append_left (by simpa using hj),List.getElem?_map,List.getElem?_eq_getElem hj]
  rfl
 have hH:Go.Sort.Holds (Value.int .i64) w b 0 (x::l).toArray:=fun j hj=>by
  have hj':j<(x::l).length:=by simpa using hj
  refine⟨?_,?_⟩
  ·rw[getElem!_pos (x::l).toArray j hj]
   exact hget j hj' hb
  ·show zg1 w.heap ⟨b,0+j,none⟩=false
   unfold zg1
   simp[hb]
 have:=Any.slices_Delete_int lay_Delete b 0 cap 0 1 (x::l) w hH hcap hcm (by omega) (by simp)
 refine this.mono fun e' w' ⟨h1,q,h2⟩=>⟨_,h1,?_⟩
 subst h2
 have hlt:b<w.heap.size:=(Array.getElem?_eq_some_iff.1 hb).1
 have hrow:(Go.Sort.putRow (Value.int .i64) (Go.Sort.ahead w q) b 0 ((x::l).take 0++(x::l).drop 1++List.replicate (1-0) 0).toArray).heap[b]? =some (.cells (l.map (fun n=>Value.int .i64 n)++(Value.int .i64 0::r)).toArray e (0,0)):=by
  show(w.heap.modify b (Go.Sort.onCells _))[b]? =_
  rw[Array.getElem?_modify,if_pos rfl,hb]
  show some (Obj.cells (Go.Sort.putCells _ 0 _ _) e (0,0))=_
  congr 2
  apply Array.ext_getElem?
  intro i
  rw[putCells_get]
  simp only[List.take_zero,List.nil_append,List.drop_succ_cons,List.drop_zero,Nat.sub_zero,List.replicate_one,Nat.zero_le,true_and,Nat.zero_add,List.size_toArray,List.length_append,List.length_singleton,List.getElem?_toArray]
  by_cases h3:i<l.length+1
  ·rw[List.getElem?_append_left (by simpa using h3),List.getElem?_map,List.getElem?_eq_getElem (show i<(x::l).length by simpa using h3),Option.map_some,Option.map_some,if_pos h3,getElem!_pos _ i (by simpa using h3)]
   by_cases h4:i<l.length
   ·rw[List.getElem?_append_left (by simpa using h4),List.getElem?_map,List.getElem?_eq_getElem h4]
    simp[List.getElem_append_left,h4]
   ·have:i=l.length:=by omega
    subst this
    rw[List.getElem?_append_right (by simp)]
    simp
  ·have e1:((x::l).map (fun n=>Value.int .i64 n)++r)[i]? =r[i-(l.length+1)]? :=by
    rw[List.getElem?_append_right (by simp;omega)]
    simp
   have e2:(l.map (fun n=>Value.int .i64 n)++Value.int .i64 0::r)[i]? =r[i-(l.length+1)]? :=by
    rw[List.getElem?_append_right (by simp;omega),List.length_map,show i-l.length=(i-(l.length+1))+1 by omega,List.getElem?_cons_succ]
   rw[e1,e2]
   cases r[i-(l.length+1)]? <;>simp[h3]
 refine⟨⟨rfl,rfl,rfl⟩,?_,fun a n c e=>?_,⟨?_,fun k hk hm=>?_⟩,fun k hk=>hk⟩
 ·refine .inr ⟨b,cap,Value.int .i64 0::r,e,?_,by omega,by simp,?_,hrow⟩
  ·simp
  ·simp at hr ⊢;omega
 ·cases e;exact hcm
 ·show w.heap.size≤(w.heap.modify b _).size
  simp
 ·show(w.heap.modify b _)[k]? =_
  rw[Array.getElem?_modify,if_neg (fun h=>hm h.symm)]
structure QD where
 room:Int
 l:List Int
 closed:Bool
structure QD.Wf (d:QD):Prop where
 r1:1≤d.room
 r2:d.room≤4096
 l:(d.l.length:Int)≤d.room
structure IsQ (Q:Nat→Prop)(h:Heap)(b:Nat)(d:QD):Prop where
 at_:∃v,h[b]? =some (.cells #[.int .i64 d.room,v,.bool d.closed] 173 (0,0))∧Own 1 h v d.l.length (d.l.map fun n=>Value.int .i64 n)∧CapLe v∧¬blk v b∧∀c,blk v c→Q c
 qb:Q b
 ql:∀c,Q c→c<h.size
 wf:d.Wf
theorem IsQ.fr {Q M:Nat→Prop}{h h':Heap}{b:Nat}{d:QD}(H:IsQ Q h b d)(f:Fr M h h')(q:∀c,Q c→¬M c):IsQ Q h' b d:=by
 obtain⟨⟨v,r,o,c,n,s⟩,qb,ql,w⟩:=H
 exact⟨⟨v,f.row r (q b qb),o.fr f fun k hk=>q k (s k hk),c,n,s⟩,qb,fun k hk=>Nat.lt_of_lt_of_le (ql k hk) f.1,w⟩
theorem IsQ.ext {Q:Nat→Prop}{h h':Heap}{b:Nat}{d:QD}(H:IsQ Q h b d)(e:Ext h h'):IsQ Q h' b d:=H.fr (M:=fun _=>False) e.fr fun _ _=>id
def sendQ (d:QD)(x:Int):QD:=if d.closed then d else if d.room≤d.l.length then d else{d with l:=d.l++[x]}
def sendR (d:QD):Int:=if d.closed then 2 else if d.room≤d.l.length then 1 else 0
def recvQ (d:QD):QD:={d with l:=d.l.tail}
def recvX (d:QD):Int:=d.l.headD 0
def recvR (d:QD):Int:=if d.l=[]then(if d.closed then 2 else 1)else 0
theorem zqV {B:Nat→Prop}{h h':Heap}(hb:∀c,B c→c<h.size)(hs:h.size≤h'.size):∀c,Grow B h h' c→c<h'.size:=fun c hc=>hc.elim (fun h=>Nat.lt_of_lt_of_le (hb c h) hs) fun h=>h.2
section
variable {Q:Nat→Prop}{h:Heap}{b:Nat}{d:QD}
theorem c_qNew {h:Heap}{n:Int}:FCall prog zhe #[.int .i64 n] h fun r h'=>∃b,r=ptr b∧IsQ (fun c=>c=b) h' b ⟨min (max 1 n) 4096,[],false⟩∧Ext h h'∧h.size≤b:=by
 apply ok_queue_New
 unfold zmn
 have hf:∀v:Int,fillL #[(.int .i64 0),(.slice none 0 0),(.bool false)] [(0,1,.int .i64 v)]=some #[.int .i64 v,.slice none 0 0,.bool false]:=fun _=>rfl
 simp only[go_sem,hf,zav]
 refine zah fun b h1 r1 e1 n1=>?_
 exact⟨b,rfl,⟨⟨_,r1,.inl ⟨rfl,rfl,rfl⟩,capLe_nil,id,fun c hc=>hc.elim⟩,rfl,fun c hc=>by rw[hc];exact zau r1,⟨by show 1≤min (max 1 n) 4096;omega,by show min (max 1 n) 4096≤4096;omega,by show(0:Int)≤min (max 1 n) 4096;omega⟩⟩,e1,n1⟩
theorem c_CanSend (H:IsQ Q h b d):FCall prog zcI #[ptr b] h fun r h'=>r=.bool (decide (sendR d≠1))∧h'=h:=by
 apply zhH
 unfold zdP sendR
 obtain⟨⟨v,r,o,c,n,s⟩,qb,ql,w⟩:=H
 have c0:zag h ⟨b,0,none⟩=some (.int .i64 d.room):=zad r
 have c1:zag h ⟨b,1,none⟩=some v:=zad r
 have c2:zag h ⟨b,2,none⟩=some (.bool d.closed):=zad r
 obtain⟨a,cp,e⟩:=o.isSl
 have e2:zae v=some (.int .i64 (d.l.length:Int)):=by rw[e];rfl
 cases hc:d.closed with
 |true=>
  rw[hc]at c2
  simp only[go_sem,c0,c1,c2,e2]
  exact⟨by simp,trivial⟩
 |false=>
  rw[hc]at c2
  simp only[go_sem,c0,c1,c2,e2,Nat.zero_add]
  refine⟨?_,trivial⟩
  congr 1
  rw[decide_eq_decide]
  by_cases hr:d.room≤d.l.length
  ·simp[hr]
  ·simp[hr];omega
theorem c_CanReceive (H:IsQ Q h b d):FCall prog zcb #[ptr b] h fun r h'=>r=.bool (decide (recvR d≠1))∧h'=h:=by
 apply zgn
 unfold zc2 recvR
 obtain⟨⟨v,r,o,c,n,s⟩,qb,ql,w⟩:=H
 have c1:zag h ⟨b,1,none⟩=some v:=zad r
 have c2:zag h ⟨b,2,none⟩=some (.bool d.closed):=zad r
 obtain⟨a,cp,e⟩:=o.isSl
 have e2:zae v=some (.int .i64 (d.l.length:Int)):=by rw[e];rfl
 cases hc:d.closed with
 |true=>
  rw[hc]at c2
  simp only[go_sem,c1,c2,e2]
  refine⟨?_,trivial⟩
  cases d.l<;>simp
 |false=>
  rw[hc]at c2
  simp only[go_sem,c1,c2,e2,Nat.zero_add]
  refine⟨?_,trivial⟩
  cases d.l<;>simp
theorem c_qSend (H:IsQ Q h b d){x:Int}:FCall prog zbU #[ptr b,.int .i64 x] h fun r h'=>r=.int .i64 (sendR d)∧IsQ (Grow Q h h') h' b (sendQ d x)∧Fr Q h h':=by
 apply zjI
 unfold zfo
 have H0:=H
 obtain⟨⟨v,r,o,c,n,s⟩,qb,ql,w⟩:=H
 have c1:zag h ⟨b,1,none⟩=some v:=zad r
 have c2:zag h ⟨b,2,none⟩=some (.bool d.closed):=zad r
 cases hc:d.closed with
 |true=>
  rw[hc]at c2
  simp only[go_sem,c2]
  unfold sendR sendQ
  rw[if_pos hc,if_pos hc,zk7]
  exact⟨rfl,H0,Fr.refl _ _⟩
 | false=>
  have hcf:¬d.closed=true:=by rw[hc];simp
  rw[hc]at c2
  simp only[go_sem,c2]
  refine FCall.at (c_CanSend H0) ?_
  by_cases hr:d.room≤d.l.length
  ·have hs:sendR d=1:=by unfold sendR;rw[if_neg hcf,if_pos hr]
   have hq:sendQ d x=d:=by unfold sendQ;rw[if_neg hcf,if_pos hr]
   rw[hs,hq,zk7,decide_eq_false (by decide)]
   simp only[go_sem]
   exact⟨trivial,H0,Fr.refl _ _⟩
  ·have hs:sendR d=0:=by unfold sendR;rw[if_neg hcf,if_neg hr]
   have hq:sendQ d x={d with l:=d.l++[x]}:=by unfold sendQ;rw[if_neg hcf,if_neg hr]
   rw[hs,hq,decide_eq_true (by decide)]
   simp only[go_sem,c1]
   have w1:=w.r2
   refine zbI (Rp.fill_one rfl) fun b1 h1 r1 e1 n1=>?_
   refine appK_cap (ziN (o.fr (M:=fun _=>False) e1.fr fun _ _=>id) (Rp.SlC.single (cs:=[.int .i64 x]) r1) (zac rfl zal) rfl (by omega) (by omega) fun s' h2 o2 f2 n2=>(⟨o2,f2,n2⟩:Own 1 h2 s' (d.l.length+1) (d.l.map (fun n=>Value.int .i64 n)++[.int .i64 x])∧Fr (blk v) h1 h2∧∀b,blk s' b→blk v b∨h1.size≤b)) c fun v2 h2 ⟨o2,f2,n2⟩ c2'=>?_
   have rb:=f2.row (e1.row r) n
   have hbl:=zau (e1.row r)
   have hn2:¬blk v2 b:=fun hv=>(n2 b hv).elim n fun hh=>by omega
   try simp only[go_sem]
   refine zaA rb (by simp) o2.sl.isSl_one fun h3 r3 u3=>?_
   have hs1:=e1.1
   have hs2:=f2.1
   have hs3:=u3.1
   refine⟨trivial,⟨⟨v2,r3,?_,c2',hn2,fun k hk=>?_⟩,.inl qb,zqV ql (by omega),⟨w.r1,w.r2,by show((d.l++[x]).length:Int)≤d.room;simp;omega⟩⟩,?_⟩
   ·show Own 1 h3 v2 (d.l++[x]).length ((d.l++[x]).map fun n=>Value.int .i64 n)
    rw[List.length_append,List.map_append]
    exact o2.fr u3.fr fun k hk he=>hn2 (he▸hk)
   ·rcases n2 k hk with h5|h5
    ·exact .inl (s k h5)
    ·have:=o2.lt hk
     exact .inr ⟨by omega,by omega⟩
   ·exact((e1.fr (M:=Q)).after f2 fun k _ hk=>s k hk).after u3.fr fun k _ hk=>hk▸qb
theorem c_qReceive (H:IsQ Q h b d):FCall prog zcH #[ptr b] h fun r h'=>r=.tuple #[.int .i64 (recvX d),.int .i64 (recvR d)]∧IsQ (Grow Q h h') h' b (recvQ d)∧Fr Q h h':=by
 apply zhG
 unfold zdO
 have H0:=H
 obtain⟨⟨v,r,o,c,n,s⟩,qb,ql,w⟩:=H
 have c1:zag h ⟨b,1,none⟩=some v:=zad r
 have c2:zag h ⟨b,2,none⟩=some (.bool d.closed):=zad r
 obtain⟨a,cp,e⟩:=o.isSl
 have e2:zae v=some (.int .i64 (d.l.length:Int)):=by rw[e];rfl
 cases hl:d.l with
 |nil=>
  have hx:recvX d=0:=by unfold recvX;rw[hl];rfl
  have hq:recvQ d=d:=by unfold recvQ;rw[hl];cases d;simp_all
  rw[hx,hq]
  rw[hl]at e2
  have z00:¬(0:Int)<((0:Nat):Int):=by omega
  simp only[go_sem,c1,e2,List.length_nil,decide_eq_false z00,c2]
  have hr:recvR d=if d.closed then 2 else 1:=by unfold recvR;rw[if_pos hl]
  rw[hr]
  cases d.closed with
  |true=>rw[zes];exact⟨rfl,by rw[zk7];exact H0,Fr.refl _ _⟩
  |false=>rw[zbk];exact⟨rfl,by rw[zk7];exact H0,Fr.refl _ _⟩
 |cons x t=>
  have hx:recvX d=x:=by unfold recvX;rw[hl];rfl
  have hq:recvQ d={d with l:=t}:=by unfold recvQ;rw[hl];rfl
  have hr:recvR d=0:=by unfold recvR;rw[if_neg (by rw[hl];simp)]
  rw[hx,hq,hr]
  rw[hl]at e2 o
  have o':Own 1 h v (t.length+1) ((x::t).map fun n=>Value.int .i64 n):=o
  have zp:(0:Int)<(((x::t).length:Nat):Int):=by simp
  obtain⟨pp,p1,p2⟩:=(zpc (k:=.i64) (l:=x::t) o).int_at (k':=.i64) (i:=0) (by simp)
  have p1:idxV 1 v (.int .i64 0)=some pp:=p1
  simp only[go_sem,c1,e2,decide_eq_true zp,p1,p2]
  refine(c_Delete o' c).mono fun v2 h2 ⟨o2,c2',f2,n2⟩=>?_
  have rb:=f2.row r n
  have hn2:¬blk v2 b:=fun hv=>n (n2 b hv)
  try simp only[go_sem]
  refine zaA rb (by simp) o2.sl.isSl_one fun h3 r3 u3=>?_
  have hs2:=f2.1
  have hs3:=u3.1
  have wl:=w.l
  rw[hl]at wl
  refine⟨rfl,⟨⟨v2,r3,o2.fr u3.fr fun k hk he=>hn2 (he▸hk),c2',hn2,fun k hk=>.inl (s k (n2 k hk))⟩,.inl qb,zqV ql (by omega),⟨w.r1,w.r2,by show(t.length:Int)≤d.room;simp at wl;omega⟩⟩,?_⟩
  exact(f2.mono fun k _ hk=>s k hk).trans (u3.fr.mono fun k _ hk=>hk▸qb)
theorem c_qClose (H:IsQ Q h b d):FCall prog zbd #[ptr b] h fun r h'=>r=.bool (!d.closed)∧IsQ Q h' b {d with closed:=true}∧Fr Q h h':=by
 apply ziY
 unfold zeO
 obtain⟨⟨v,r,o,c,n,s⟩,qb,ql,w⟩:=H
 have c2:zag h ⟨b,2,none⟩=some (.bool d.closed):=zad r
 simp only[go_sem,c2]
 refine zaA r (by simp) rfl fun h3 r3 u3=>?_
 try simp only[go_sem]
 exact⟨trivial,⟨⟨v,r3,o.fr u3.fr fun k hk he=>n (he▸hk),c,n,s⟩,qb,fun c hc=>by rw[u3.1];exact ql c hc,⟨w.r1,w.r2,w.l⟩⟩,u3.fr.mono fun k _ hk=>hk▸qb⟩
end
def rQ:Rp QD where
 w:=3
 R:=fun Z h cs d=>∃v,cs=[.int .i64 d.room,v,.bool d.closed]∧Rp.Sl (Rp.int .i64) Z h v d.l∧Go.Crisp.Rp.SlCap v
 len:=by rintro _ _ _ _ ⟨x,rfl,_⟩;rfl
 one:=by
  rintro _ _ _ _ ⟨x,rfl,H,_⟩
  exact zac rfl (zac H.one (zac rfl zal))
 fr:=by rintro _ _ _ _ _ _ ⟨x,rfl,H,c⟩ f q;exact⟨x,rfl,H.fr f q,c⟩
 mono:=by rintro _ _ _ _ _ ⟨x,rfl,H,c⟩ q;exact⟨x,rfl,H.mono q,c⟩
end
end Go.Proofs.YtcoimlclclnlkaaGreatDoor
namespace Go.Crisp
open Go
theorem Rp.Sl.tl {α:Type}{e:Rp α}{Z:Nat→Prop}{h:Heap}{v:Value}{x:α}{l:List α}(H:Rp.Sl e Z h v (x::l))(hc:Rp.SlCap v){k:IntKind}:
  ∃v',slcV e.w v (some (.int k 1)) none=some v'∧Rp.Sl e Z h v' l∧Rp.SlCap v':=by
 obtain⟨a,n,cap,rfl,hn⟩:=hc
 obtain⟨a',cap',e'⟩:=H.isSl
 cases e'
 obtain⟨v',h1,h2⟩:=H.part (lo:=1) (hi:=(x::l).length) (by simp) (Nat.le_refl _) rfl hn (k:=k) (k':=.i64)
 have e1:slcV e.w (.slice a (x::l).length cap) (some (.int k 1)) (some (.int .i64 (((x::l).length:Nat):Int)))=slcV e.w (.slice a (x::l).length cap) (some (.int k 1)) none:=by
  unfold slcV
  simp only[zik .i64 (x::l).length (x::l).length cap hn]
  simp only[bdV]
 rw[show(((1:Nat):Int))=1 from rfl,e1]at h1
 refine⟨v',h1,?_,?_⟩
 ·simpa using h2
 ·have b1:bdV (some (Value.int k 1)) 0 (x::l).length=some 1:=zik k 1 0 _ (by simp)
  simp only[slcV,bdV,b1]at h1
  rw[if_pos (by simp;omega)]at h1
  cases h1
  exact⟨_,_,_,rfl,by omega⟩
theorem Rp.Ow.slcap {α:Type}{e:Rp α}{Z:Nat→Prop}{h:Heap}{v:Value}{l:List α}(H:Rp.Ow e Z h v l):Rp.SlCap v:=by
 obtain⟨ds,o,_⟩:=H
 rcases o with⟨rfl,_,_⟩|⟨b,cap,r,e,rfl,hc,_⟩
 ·exact⟨_,_,_,rfl,Nat.le_refl _⟩
 ·exact⟨_,_,_,rfl,hc⟩
end Go.Crisp
namespace Go.Proofs.YtcoimlclclnlkaaGreatDoor
open Go Go.Crisp
attribute [local irreducible] FCall rowK newK stK iteK vK qK drawK gK joinK loopK mkK appK cpyK zmY zkN bsK clK zgY zfx newmK
open _root_.Go.Proofs.Tryz
section
theorem c_r18New {h:Heap}{n:Int}:FCall prog zjR #[.int .i64 n] h fun r h'=>r=.agg #[.int .i64 (min (max 1 n) 4096),.slice none 0 0,.bool false]∧Ext h h':=by
 apply ok_ref18_New
 unfold zmc
 have hf:∀v:Int,fillL #[(.int .i64 0),(.slice none 0 0),(.bool false)] [(0,1,.int .i64 v)]=some #[.int .i64 v,.slice none 0 0,.bool false]:=fun _=>rfl
 refine zah fun b1 h1 r1 e1 n1=>?_
 have fin:∀v:Int,v=min (max 1 n) 4096→stK 3 (ptr b1) (.agg #[.int .i64 v,.slice none 0 0,.bool false]) h1 fun v6 h7=>vK (ldsV 3 h7 (ptr b1)) fun v8=>v8=.agg #[.int .i64 (min (max 1 n) 4096),.slice none 0 0,.bool false]∧Ext h h7:=by
  intro v hv
  subst hv
  refine zaP (l:=[.int .i64 (min (max 1 n) 4096),.slice none 0 0,.bool false]) r1 rfl (zac rfl (zac rfl (zac rfl zal))) rfl fun h2 r2 u2=>?_
  rw[zao (l:=[.int .i64 (min (max 1 n) 4096),.slice none 0 0,.bool false]) r2 3 rfl,zaa]
  exact⟨rfl,e1.upd n1 u2⟩
 simp only[go_sem]
 refine zab (fun g1=>?_) (fun g1=>?_)
 ·rw[decide_eq_false (by decide)]
  simp only[go_sem,hf,zav]
  exact fin 1 (by omega)
 ·refine zab (fun g2=>?_) (fun g2=>?_)
  ·simp only[go_sem,hf,zav]
   exact fin 4096 (by omega)
  ·simp only[go_sem,hf,zav]
   exact fin n (by omega)
theorem rQ_new {Z:Nat→Prop}{h:Heap}{n:Int}:rQ.R Z h [.int .i64 n,.slice none 0 0,.bool false] ⟨n,[],false⟩:=⟨_,rfl,Rp.Sl.nil,_,_,_,rfl,Nat.le_refl _⟩
theorem copy_push {h h1:Heap}{Z:Nat→Prop}{b:Nat}{v:Value}{l:List Int}{x:Int}{t:TypeId}{K:Value→Heap→Prop}(H:Rp.Sl (Rp.int .i64) Z h v l)(hl:l.length≤1000000000)(r1:h1[b]? =some (.cells #[] t (0,0)))(e1:Ext h h1)(n1:h.size≤b)
  (HK:∀u h',New (Rp.int .i64) h h' u (l++[x])→K u h'):
  appK (.int .i64 0) t 1 8 (.slice (some ⟨b,0,none⟩) 0 0) v h1 fun v25 h26=>rowK #[(.int .i64 0)] t 1 [(0,1,.int .i64 x)] h26 fun v27 h28=>appK (.int .i64 0) t 1 8 v25 v27 h28 K:=by
 have o0:Rp.Ow (Rp.int .i64) (fun _=>False) h1 (.slice (some ⟨b,0,none⟩) 0 0) []:=⟨[],.inr ⟨b,0,[],t,rfl,Nat.le_refl _,rfl,rfl,r1⟩,fun _ _ h=>h,fun i hi=>absurd hi (by simp)⟩
 obtain⟨ds,hs,hz,he⟩:=H.ext e1
 refine Rp.app_ow (e:=Rp.int .i64) (l2:=l) o0 hs (fun i hi=>he i hi) rfl (by simp;omega) (by simp;omega) (fun b hb=>hb.elim) fun s' h2 o2 f2 n2=>?_
 have E2:Ext h h2:=e1.then_fr f2 fun c hc=>by rw[show c=b from hc];exact n1
 refine New.push_int (h:=h) (x:=x) ⟨o2,E2,fun c hc=>?_⟩ rfl (by simp;omega) (by simp;omega) fun s3 h3 N3=>HK s3 h3 N3
 rcases n2 c hc with h5|h5
 ·rw[show c=b from h5];exact n1
 ·exact Nat.le_trans e1.1 h5
section
variable {Z:Nat→Prop}{h:Heap}{cs:List Value}{d:QD}
theorem c_r18Send (H:rQ.R Z h cs d)(hl:d.l.length≤1000000000){x:Int}:FCall prog zge #[.agg cs.toArray,.int .i64 x] h fun r h'=>∃ds,r=.tuple #[.agg ds.toArray,.int .i64 (sendR d)]∧rQ.R (fun c=>Z c∨(h.size≤c∧c<h'.size)) h' ds (sendQ d x)∧Ext h h':=by
 apply zqa
 unfold zke
 have H0:=H
 obtain⟨v,rfl,Hv,hcap⟩:=H
 simp only[zaJ]
 refine zah fun b1 h1 r1 e1 n1=>zah fun b2 h2 r2 e2 n2=>?_
 have E2:=e1.trans e2
 have lb1:=zau r1
 have r1:=e2.row r1
 have c0:zag h2 ⟨b1,0,none⟩=some (.int .i64 d.room):=zad r1
 have c1:zag h2 ⟨b1,1,none⟩=some v:=zad r1
 have c2:zag h2 ⟨b1,2,none⟩=some (.bool d.closed):=zad r1
 have on:=Hv.one
 obtain⟨a,cp,e⟩:=Hv.isSl
 have el:zae v=some (.int .i64 (d.l.length:Int)):=by rw[e];rfl
 have nb2:h.size≤b2:=Nat.le_trans e1.1 n2
 have keep:∀k:Int,∀(hq:sendQ d x=d) (hr:sendR d=k),vK (ldsV 3 h2 (ptr b1)) fun v7=>stK 3 (ptr b2) v7 h2 fun v8 h9=>vK (ldsV 3 h9 (ptr b2)) fun v10=>
   ∃ds:List Value,Value.tuple #[v10,.int .i64 k]=.tuple #[.agg ds.toArray,.int .i64 (sendR d)]∧rQ.R (fun c=>Z c∨(h.size≤c∧c<h9.size)) h9 ds (sendQ d x)∧Ext h h9:=by
  intro k hq hr
  rw[zao (l:=[.int .i64 d.room,v,.bool d.closed]) r1 3 rfl,zaa]
  refine zaP (l:=[.int .i64 d.room,v,.bool d.closed]) r2 rfl (zac rfl (zac on (zac rfl zal))) rfl fun h3 r3 u3=>?_
  rw[zao (l:=[.int .i64 d.room,v,.bool d.closed]) r3 3 rfl,zaa,hq,hr]
  have E3:=E2.upd nb2 u3
  exact⟨_,rfl,rQ.mono (rQ.ext H0 E3) fun c _ hc=>.inl hc,E3⟩
 cases hc:d.closed with
 |true=>
  rw[hc]at c2
  simp only[go_sem,Nat.zero_add,c2]
  exact keep 2 (by unfold sendQ;rw[if_pos hc]) (by unfold sendR;rw[if_pos hc])
 | false=>
  have hcf:¬d.closed=true:=by rw[hc];simp
  rw[hc]at c2
  simp only[go_sem,Nat.zero_add,c0,c1,c2,el]
  refine zab (fun g=>?_) (fun g=>?_)
  ·exact keep 1 (by unfold sendQ;rw[if_neg hcf,if_pos g]) (by unfold sendR;rw[if_neg hcf,if_pos g])
  ·have hs:sendR d=0:=by unfold sendR;rw[if_neg hcf,if_neg g]
   have hq:sendQ d x={d with l:=d.l++[x]}:=by unfold sendQ;rw[if_neg hcf,if_neg g]
   rw[hs,hq]
   refine zbI (c':=#[]) rfl fun b3 h3 r3 e3 n3=>?_
   have c1:zag h3 ⟨b1,1,none⟩=some v:=zad (e3.row r1)
   simp only[go_sem,Nat.zero_add,c1]
   refine copy_push (Hv.ext E2) hl r3 e3 n3 fun u h4 N4=>?_
   have r14:=N4.2.1.row r1
   have hs:=N4.2.1.1
   refine zaA r14 (by simp) N4.sl.one fun h5 r5 u5=>?_
   have r5:h5[b1]? =some (.cells #[.int .i64 d.room,u,.bool d.closed] 75 (0,0)):=r5
   have l1:=zau r1
   have hnb:∀c,blk u c→¬c=b1:=fun c hc he=>by have:=N4.2.2 c hc;omega
   have N5:=(N4.before E2).fr u5.fr (fun c hc=>by rw[hc];exact n1) hnb
   have l2:=zau r2
   have hb12:¬b2=b1:=by omega
   rw[zao (l:=[.int .i64 d.room,u,.bool d.closed]) r5 3 rfl,zaa]
   refine zaP (l:=[.int .i64 d.room,u,.bool d.closed]) (u5.row hb12 (N4.2.1.row r2)) rfl (zac rfl (zac N5.sl.one (zac rfl zal))) rfl fun h6 r6 u6=>?_
   rw[zao (l:=[.int .i64 d.room,u,.bool d.closed]) r6 3 rfl,zaa]
   have hnb2:∀c,blk u c→¬c=b2:=fun c hc he=>by have:=N4.2.2 c hc;omega
   have N6:=N5.fr u6.fr (fun c hc=>by rw[hc];exact nb2) hnb2
   exact⟨_,rfl,⟨u,rfl,N6.sl.mono fun c hc hu=>.inr ⟨N6.2.2 c hu,hc⟩,N6.1.slcap⟩,N6.2.1⟩
theorem c_r18Receive (H:rQ.R Z h cs d):FCall prog zfH #[.agg cs.toArray] h fun r h'=>∃ds,r=.tuple #[.agg ds.toArray,.int .i64 (recvX d),.int .i64 (recvR d)]∧rQ.R Z h' ds (recvQ d)∧Ext h h':=by
 apply zmN
 unfold zhv
 have H0:=H
 obtain⟨v,rfl,Hv,hcap⟩:=H
 simp only[zaJ]
 refine zah fun b1 h1 r1 e1 n1=>zah fun b2 h2 r2 e2 n2=>?_
 have E2:=e1.trans e2
 have lb1:=zau r1
 have r1:=e2.row r1
 have c1:zag h2 ⟨b1,1,none⟩=some v:=zad r1
 have c2:zag h2 ⟨b1,2,none⟩=some (.bool d.closed):=zad r1
 have on:=Hv.one
 obtain⟨a,cp,e⟩:=Hv.isSl
 have el:zae v=some (.int .i64 (d.l.length:Int)):=by rw[e];rfl
 have nb2:h.size≤b2:=Nat.le_trans e1.1 n2
 simp only[go_sem,Nat.zero_add,c1,el]
 refine zab (fun g=>?_) (fun g=>?_)
 ·have hl:d.l=[]:=List.eq_nil_of_length_eq_zero (by omega)
  have hx:recvX d=0:=by unfold recvX;rw[hl];rfl
  have hq:recvQ d=d:=by unfold recvQ;rw[hl];cases d;simp_all
  have hr:recvR d=if d.closed then 2 else 1:=by unfold recvR;rw[if_pos hl]
  rw[hx,hq,hr]
  have keep:∀k:Int,vK (ldsV 3 h2 (ptr b1)) fun v7=>stK 3 (ptr b2) v7 h2 fun v8 h9=>vK (ldsV 3 h9 (ptr b2)) fun v10=>
    ∃ds:List Value,Value.tuple #[v10,.int .i64 0,.int .i64 k]=.tuple #[.agg ds.toArray,.int .i64 0,.int .i64 k]∧rQ.R Z h9 ds d∧Ext h h9:=by
   intro k
   rw[zao (l:=[.int .i64 d.room,v,.bool d.closed]) r1 3 rfl,zaa]
   refine zaP (l:=[.int .i64 d.room,v,.bool d.closed]) r2 rfl (zac rfl (zac on (zac rfl zal))) rfl fun h3 r3 u3=>?_
   rw[zao (l:=[.int .i64 d.room,v,.bool d.closed]) r3 3 rfl,zaa]
   have E3:=E2.upd nb2 u3
   exact⟨_,rfl,rQ.ext H0 E3,E3⟩
  have c2:=c2
  cases hc:d.closed with
  |true=>
   rw[hc]at c2
   simp only[go_sem,Nat.zero_add,c2]
   exact keep 2
  |false=>
   rw[hc]at c2
   simp only[go_sem,Nat.zero_add,c2]
   exact keep 1
 ·cases hl:d.l with
  |nil=>rw[hl]at g;exact absurd rfl g
  |cons x t=>
   have hx:recvX d=x:=by unfold recvX;rw[hl];rfl
   have hq:recvQ d={d with l:=t}:=by unfold recvQ;rw[hl];rfl
   have hr:recvR d=0:=by unfold recvR;rw[if_neg (by rw[hl];simp)]
   rw[hx,hq,hr]
   rw[hl]at Hv
   obtain⟨pp,p1,p2⟩:=(Hv.ext E2).int_at (k':=.i64) (i:=0) (by simp)
   have p1:idxV 1 v (.int .i64 0)=some pp:=p1
   obtain⟨v',s1,s2,s3⟩:=Rp.Sl.tl (Hv.ext E2) hcap (k:=.i64)
   have s1:slcV 1 v (some (.int .i64 1)) none=some v':=s1
   simp only[go_sem,Nat.zero_add,c1,p1,p2,s1]
   refine zaA r1 (by simp) s2.one fun h5 r5 u5=>?_
   have r5:h5[b1]? =some (.cells #[.int .i64 d.room,v',.bool d.closed] 75 (0,0)):=r5
   have hb12:¬b2=b1:=by omega
   have E5:Ext h h5:=E2.upd n1 u5
   rw[zao (l:=[.int .i64 d.room,v',.bool d.closed]) r5 3 rfl,zaa]
   refine zaP (l:=[.int .i64 d.room,v',.bool d.closed]) (u5.row hb12 r2) rfl (zac rfl (zac s2.one (zac rfl zal))) rfl fun h6 r6 u6=>?_
   rw[zao (l:=[.int .i64 d.room,v',.bool d.closed]) r6 3 rfl,zaa]
   have E6:Ext h h6:=E5.upd nb2 u6
   obtain⟨v'',s1',s2',s3'⟩:=Rp.Sl.tl (Hv.ext E6) hcap (k:=.i64)
   have s1':slcV 1 v (some (.int .i64 1)) none=some v'':=s1'
   rw[s1]at s1'
   cases s1'
   exact⟨_,rfl,⟨v',rfl,s2',s3⟩,E6⟩
end
end
section
structure WE where
 bf:Nat
 vf:Value
 bt:Nat
 vt:Value
 p:Value
 q:Value
 m:Pic
 s:Stg
structure WE.Ok (E:WE):Prop where
 m:E.m.Wf
 s:StgOk E.s
abbrev WE.d (E:WE)(t:TileD):JobD:=⟨E.m,E.s,t⟩
def zdl (Z B:Nat→Prop)(h:Heap)(E:Option WE)(n:Pic)(jv:Value):Option (TileD×Int×Int)→Prop
 |none=>jv=.pointer none
 |some (t,y,e)=>∃E',E=some E'∧E'.Ok∧wnewC E'.m n E'.s t=0∧∃bj rv,jv=ptr bj∧JobSt Z B h bj E'.bf E'.vf E'.bt E'.vt E'.p E'.q rv (E'.d t) y e n (roomN (mostL E'.s.y.lines)) (zek (t.w*E'.m.c))
def outB (E:Option WE):Nat→Prop:=match E with|none=>fun _=>False|some E=>blk E.vt
def outV (E:Option WE)(b:Nat):Prop:=match E with|none=>True|some E=>b≠E.bt
theorem zdl.one {Z B:Nat→Prop}{h:Heap}{E:Option WE}{n:Pic}{jv:Value}{jo:Option (TileD×Int×Int)}(H:zdl Z B h E n jv jo):zar jv=true:=by
 cases jo with
 |none=>rw[show jv=_ from H];rfl
 |some x=>obtain⟨t,y,e⟩:=x;obtain⟨_,_,_,_,bj,rv,rfl,_⟩:=H;rfl
def OutAt (h:Heap)(E:Option WE)(n:Pic):Prop:=∀E',E=some E'→IsImg h E'.bt E'.vt n∧n.Wf
theorem zdl.other {Z B Q:Nat→Prop}{h h':Heap}{E:Option WE}{n n':Pic}{jv:Value}{jo:Option (TileD×Int×Int)}(H:zdl Z B h E n jv jo)(f:Fr Q h h')(qz:∀c,Z c→¬Q c)(qb:∀c,B c→¬Q c)(I:OutAt h' E n')(D:zbl n n'):zdl Z B h' E n' jv jo:=by
 cases jo with
 |none=>exact H
 |some x=>
  obtain⟨t,y,e⟩:=x
  obtain⟨E',rfl,ok,hc,bj,rv,rfl,S⟩:=H
  obtain⟨I1,I2⟩:=I E' rfl
  exact⟨E',rfl,ok,D.newC hc,bj,rv,rfl,S.other f qz qb I1 (job_out I2 (D.newC hc))⟩
structure WD where
 state:Int
 tiles:List Int
 job:Option (TileD×Int×Int)
 words:Int
def zg0 (E:Option WE)(jo:Option (TileD×Int×Int)):Prop:=match jo,E with|some (t,y,e),some E=>stepK (E.d t) y e≠0|_,_=>False
structure IsW (Z B:Nat→Prop)(h:Heap)(bw:Nat)(E:Option WE)(n:Pic)(w:WD):Prop where
 at_:∃tv jv Bj,h[bw]? =some (.cells #[.int .i64 w.state,tv,jv,.int .i64 w.words] 175 (0,0))∧Own 1 h tv w.tiles.length (w.tiles.map fun n=>Value.int .i64 n)∧zdl Z Bj h E n jv w.job∧
  (∀c,blk tv c→B c∧¬Bj c∧c≠bw)∧(∀c,Bj c→B c)∧¬Bj bw
 bw0:B bw
 bl:∀c,B c→c<h.size
 bz:∀c,B c→¬Z c∧outV E c∧¬outB E c
 zl:∀c,Z c→c<h.size
 out:OutAt h E n
 st:(w.state=1∧zg0 E w.job∧w.tiles≠[])∨((w.state=0∨w.state=2)∧w.job=none)
theorem IsW.other {Z B Q:Nat→Prop}{h h':Heap}{bw:Nat}{E:Option WE}{n n':Pic}{w:WD}(H:IsW Z B h bw E n w)(f:Fr Q h h')(qz:∀c,Z c→¬Q c)(qb:∀c,B c→¬Q c)(I:OutAt h' E n')(D:zbl n n'):IsW Z B h' bw E n' w:=by
 obtain⟨⟨tv,jv,Bj,r,o,J,a1,a2,a3⟩,b1,b2,b3,bz,b4,b5⟩:=H
 exact⟨⟨tv,jv,Bj,f.row r (qb _ b1),o.fr f fun c hc=>qb c (a1 c hc).1,J.other f qz (fun c hc=>qb c (a2 c hc)) I D,a1,a2,a3⟩,b1,fun c hc=>Nat.lt_of_lt_of_le (b2 c hc) f.1,b3,fun c hc=>Nat.lt_of_lt_of_le (bz c hc) f.1,I,b5⟩
theorem IsW.ext {Z B:Nat→Prop}{h h':Heap}{bw:Nat}{E:Option WE}{n:Pic}{w:WD}(H:IsW Z B h bw E n w)(e:Ext h h'):IsW Z B h' bw E n w:=
 H.other (Q:=fun _=>False) e.fr (fun _ _ h=>h) (fun _ _ h=>h) (fun E' hE=>⟨(H.out E' hE).1.ext e,(H.out E' hE).2⟩) (zbl.refl n)
section
variable {Z B:Nat→Prop}{h:Heap}{bw:Nat}{E:Option WE}{n:Pic}{w:WD}
theorem zjM {h:Heap}:FCall prog zev #[] h fun r h'=>∃b,r=ptr b∧h'[b]? =some (.cells #[.int .i64 0,.slice none 0 0,.pointer none,.int .i64 0] 175 (0,0))∧Ext h h'∧h.size≤b:=by
 apply zp3
 unfold zj7
 have hf:fillL #[(.int .i64 0),(.slice none 0 0),(.pointer none),(.int .i64 0)] []=some #[.int .i64 0,.slice none 0 0,.pointer none,.int .i64 0]:=rfl
 simp only[go_sem,hf,zav]
 refine zah fun b h1 r1 e1 n1=>?_
 exact⟨b,rfl,r1,e1,n1⟩
theorem IsW.new {h:Heap}{b:Nat}(r:h[b]? =some (.cells #[.int .i64 0,.slice none 0 0,.pointer none,.int .i64 0] 175 (0,0)))(hz:¬Z b)(h1:outV E b)(h2:¬outB E b)(zl:∀c,Z c→c<h.size)(I:OutAt h E n):IsW Z (fun c=>c=b) h b E n ⟨0,[],none,0⟩:=
 ⟨⟨_,_,fun _=>False,r,.inl ⟨rfl,rfl,rfl⟩,rfl,fun c hc=>hc.elim,fun c hc=>hc.elim,id⟩,rfl,fun c hc=>by rw[hc];exact zau r,fun c hc=>by rw[hc];exact⟨hz,h1,h2⟩,zl,I,.inr ⟨.inl rfl,rfl⟩⟩
theorem c_State (H:IsW Z B h bw E n w):FCall prog za1 #[ptr bw] h fun r h'=>r=.int .i64 w.state∧h'=h:=by
 apply zhE
 unfold zdM
 obtain⟨⟨tv,jv,Bj,r,_⟩,_⟩:=H
 have c0:zag h ⟨bw,0,none⟩=some (.int .i64 w.state):=zad r
 simp only[go_sem,c0]
 exact⟨trivial,trivial⟩
theorem zlV {Q:Nat→Prop}{bq:Nat}{d:QD}(H:IsW Z B h bw E n w)(HQ:IsQ Q h bq d):FCall prog zaG #[ptr bw,ptr bq] h fun r h'=>r=.bool (decide (w.state=1∨(w.state=0∧recvR d≠1)))∧h'=h:=by
 apply zgm
 unfold zc1
 have hst:=H.st
 obtain⟨⟨tv,jv,Bj,r,_⟩,_⟩:=H
 have c0:zag h ⟨bw,0,none⟩=some (.int .i64 w.state):=zad r
 simp only[go_sem,c0]
 refine zab (fun g=>?_) (fun g=>?_)
 ·refine FCall.at (c_CanReceive HQ) ?_
  refine⟨?_,rfl⟩
  congr 1
  rw[decide_eq_decide]
  constructor
  ·exact fun hh=>.inr ⟨g,hh⟩
  ·rintro(hh|hh)
   ·omega
   ·exact hh.2
 ·refine zab (fun g1=>?_) (fun g1=>?_)
  ·exact⟨by rw[decide_eq_true (.inl g1)],trivial⟩
  ·exact⟨by rw[decide_eq_false];omega,trivial⟩
def zba (E:Option WE)(jo:Option (TileD×Int×Int)):Option (TileD×Int×Int):=match jo,E with|some (t,y,e),some E=>if stepK (E.d t) y e=0 then none else some (t,y,e)|_,_=>none
theorem settle_st (E:Option WE)(jo:Option (TileD×Int×Int)):(zba E jo≠none∧zg0 E (zba E jo)∧zba E jo=jo)∨zba E jo=none:=by
 unfold zba zg0
 cases jo with
 |none=>exact .inr rfl
 | some x=>
  obtain⟨t,y,e⟩:=x
  cases E with
  |none=>exact .inr rfl
  |some E=>
   dsimp only
   by_cases hk:stepK (E.d t) y e=0
   ·rw[if_pos hk];exact .inr rfl
   ·rw[if_neg hk];exact .inl ⟨by simp,hk,rfl⟩
end
end
section
theorem OutAt.fr {Q:Nat→Prop}{h h':Heap}{E:Option WE}{n:Pic}(I:OutAt h E n)(f:Fr Q h h')(hq:∀c,Q c→c<h.size→outV E c∧¬outB E c):OutAt h' E n:=fun E' hE=>by
 subst hE
 have I1:=(I E' rfl).1
 exact⟨I1.fr f (fun hc=>(hq _ hc I1.lt).1 rfl) (fun c hv hc=>(hq c hc (I1.ltv hv)).2 hv),(I E' rfl).2⟩
theorem OutAt.ext {h h':Heap}{E:Option WE}{n:Pic}(I:OutAt h E n)(e:Ext h h'):OutAt h' E n:=I.fr (Q:=fun _=>False) e.fr fun _ h=>h.elim
theorem OutAt.new {h:Heap}{E:Option WE}{n:Pic}(I:OutAt h E n){c:Nat}(hc:h.size≤c):outV E c∧¬outB E c:=by
 cases E with
 |none=>exact⟨trivial,id⟩
 |some E=>exact⟨fun he=>by have:=(I E rfl).1.lt;rw[he]at hc;omega,fun hv=>by have:=(I E rfl).1.ltv hv;omega⟩
def stJ:Option (TileD×Int×Int)→Int
 |none=>0
 |some _=>1
theorem zdl.upd {Z B:Nat→Prop}{h h':Heap}{bw:Nat}{E:Option WE}{n:Pic}{jv:Value}{jo:Option (TileD×Int×Int)}(H:zdl Z B h E n jv jo)(u:Upd bw h h')(hz:¬Z bw)(hb:¬B bw)(h1:outV E bw)(h2:¬outB E bw)(I:OutAt h E n):zdl Z B h' E n jv jo:=
 H.other u.fr (fun c hc he=>hz (he▸hc)) (fun c hc he=>hb (he▸hc)) (I.fr u.fr fun c hc _=>by rw[show c=bw from hc];exact⟨h1,h2⟩) (zbl.refl n)
section
variable {Z B:Nat→Prop}{h:Heap}{bw:Nat}{E:Option WE}{n:Pic}{w:WD}
theorem c_settle {Bj:Nat→Prop}{st wd:Int}{tv jv:Value}{jo:Option (TileD×Int×Int)}(r:h[bw]? =some (.cells #[.int .i64 st,tv,jv,.int .i64 wd] 175 (0,0)))(J:zdl Z Bj h E n jv jo)(hz:¬Z bw)(hb:¬Bj bw)(ho1:outV E bw)(ho2:¬outB E bw)(I:OutAt h E n):
  FCall prog zaT #[ptr bw] h fun r h'=>∃jv',h'[bw]? =some (.cells #[.int .i64 (stJ (zba E jo)),tv,jv',.int .i64 wd] 175 (0,0))∧zdl Z Bj h' E n jv' (zba E jo)∧Fr (fun c=>c=bw) h h':=by
 apply zgU
 unfold zds
 simp only[go_sem]
 refine zaA r (by simp) rfl fun h1 r1 u1=>?_
 have r1:h1[bw]? =some (.cells #[.int .i64 1,tv,jv,.int .i64 wd] 175 (0,0)):=r1
 have J1:=J.upd u1 hz hb ho1 ho2 I
 have I1:=I.fr u1.fr fun c hc _=>by rw[show c=bw from hc];exact⟨ho1,ho2⟩
 have c2:zag h1 ⟨bw,2,none⟩=some jv:=zad r1
 simp only[go_sem,Nat.zero_add,c2]
 -- it goes
 have gone:∀{h2:Heap},Ext h1 h2→zba E jo=none→stK 1 (.pointer (some ⟨bw,0,none⟩)) (.int .i64 0) h2 fun v20 h21=>stK 1 (.pointer (some ⟨bw,2,none⟩)) (.pointer none) h21 fun _ h'=>∃jv',h'[bw]? =some (.cells #[.int .i64 (stJ (zba E jo)),tv,jv',.int .i64 wd] 175 (0,0))∧zdl Z Bj h' E n jv' (zba E jo)∧Fr (fun c=>c=bw) h h':=by
  intro h2 e2 hs
  refine zaA (e2.row r1) (by simp) rfl fun h3 r3 u3=>?_
  refine zaA r3 (by simp) rfl fun h4 r4 u4=>?_
  rw[hs]
  exact⟨_,r4,rfl,((u1.fr.ext_r e2).trans u3.fr).trans u4.fr⟩
 cases jo with
 |none=>
  have hj:jv=.pointer none:=J
  subst hj
  simp only[go_sem,c2,nil_en]
  exact gone (Ext.refl _) rfl
 | some x=>
  obtain⟨t,y,e⟩:=x
  obtain⟨E',rfl,ok,hc,bj,rv,rfl,S⟩:=J1
  simp only[go_sem,c2,ptr_en]
  refine FCall.to (zpB S (job_wf ok.m ok.s.wf hc)) fun h2 e2=>?_
  have hp:partV false 1 0 (moveV (stepK (E'.d t) y e) (stepJ (E'.d t) y e))=some (.int .i64 (stepK (E'.d t) y e)):=rfl
  simp only[go_sem,hp]
  refine zab (fun hk=>?_) (fun hk=>?_)
  ·exact gone e2 (if_pos hk)
  ·have hs:zba (some E') (some (t,y,e))=some (t,y,e):=if_neg hk
   rw[hs]
   exact⟨_,e2.row r1,⟨E',rfl,ok,hc,bj,rv,rfl,S.ext e2⟩,u1.fr.ext_r e2⟩
def wordsJ (E:Option WE)(jo:Option (TileD×Int×Int))(k:Int):Int:=match jo,E with|some (t,_,_),some E=>max k ((roomN (mostL E.s.y.lines):Int)*(zek (t.w*E.m.c):Int))|_,_=>k
def tookW (E:Option WE)(w:WD)(x:Int)(jo:Option (TileD×Int×Int)):WD:=⟨stJ (zba E jo),w.tiles++[x],zba E jo,wordsJ E jo w.words⟩
def Opens (Z:Nat→Prop)(E:Option WE)(n:Pic)(ov:Value)(x:Int)(jo:Option (TileD×Int×Int))(Qo M:Nat→Prop)(P0 P1:Heap→Prop)(h:Heap):Prop:=
 (ov=.nilFunc∧jo=none∧∀g,P0 g→P1 g)∨(binV .f .neq ov .nilFunc=some (.bool true)∧∀h1,Fr M h h1→P0 h1→clK prog ov #[.int .i64 x] h1 fun r h2=>∃Bj,(∀c,Bj c→h1.size≤c∧c<h2.size)∧zdl Z Bj h2 E n r jo∧Fr Qo h1 h2∧P1 h2)
abbrev eventV (k t mk mr:Int):Value:=.agg #[.int .i64 k,.int .i64 t,.int .i64 mk,.int .i64 mr]
theorem zq0 {v:Value}{args:Array Value}{h:Heap}{K K':Value→Heap→Prop}(H:clK prog v args h K)(k:∀r h',K r h'→K' r h'):clK prog v args h K':=by
 unfold clK at H ⊢
 split at H
 ·exact H.mono k
 ·exact H.elim
theorem zno {E:Option WE}{jo:Option (TileD×Int×Int)}:(stJ (zba E jo)=1∧zg0 E (zba E jo))∨((stJ (zba E jo)=0∨stJ (zba E jo)=2)∧zba E jo=none):=by
 rcases settle_st E jo with⟨h1,h2,h3⟩|h
 ·left
  refine⟨?_,h2⟩
  revert h1
  cases zba E jo with
  |none=>exact fun h=>absurd rfl h
  |some x=>exact fun _=>rfl
 ·rw[h];exact .inr ⟨.inl rfl,rfl⟩
theorem c_take {x:Int}{ov:Value}{jo:Option (TileD×Int×Int)}{Qo:Nat→Prop}{P0 P1:Heap→Prop}(H:IsW Z B h bw E n w)(hw:w.state=0)(ht:w.tiles.length≤1000000)(HO:Opens Z E n ov x jo Qo B P0 P1 h)
  (qo:∀c,Qo c→c<h.size∧¬B c∧¬Z c∧outV E c∧¬outB E c) (hP:∀g g',Fr (fun c=>B c∨h.size≤c) g g'→(P0 g→P0 g')∧(P1 g→P1 g')) (p0:P0 h):
  FCall prog zcY #[ptr bw,.int .i64 x,ov] h fun r h'=>r=eventV 1 x 0 0∧IsW Z (Grow B h h') h' bw E n (tookW E w x jo)∧Fr (fun c=>B c∨Qo c) h h'∧P1 h':=by
 apply zh8
 unfold zel
 have H0:=H
 obtain⟨⟨tv,jv,Bj,r,o,J,a1,a2,a3⟩,w0,bl,bz,zl,I,st⟩:=H
 have hjn:w.job=none:=by
  rcases st with h|h
  ·omega
  ·exact h.2
 rw[hjn]at J
 have hj:jv=.pointer none:=J
 subst hj
 refine zah fun b1 h1 r1 e1 n1=>?_
 have c1:zag h1 ⟨bw,1,none⟩=some tv:=zad (e1.row r)
 simp only[go_sem,Nat.zero_add,c1]
 refine zbI (Rp.fill_one rfl) fun b2 h2 r2 e2 n2=>?_
 have E2:=e1.trans e2
 refine ziN (m:=1) (o.fr (M:=fun _=>False) E2.fr fun _ _=>id) (Rp.SlC.single (cs:=[.int .i64 x]) r2) (zac rfl zal) rfl (by omega) (by omega) fun v3 h3 o3 f3 n3=>?_
 have hbw:=zau r
 have hs2:=E2.1
 have hs3:=f3.1
 have r3:=f3.row (E2.row r) fun hc=>(a1 _ hc).2.2 rfl
 have hv3:∀c,blk v3 c→(B c∧c≠bw)∨h.size≤c:=fun c hc=>(n3 c hc).imp (fun h=>⟨(a1 c h).1,(a1 c h).2.2⟩) fun h=>by omega
 have hv3w:¬blk v3 bw:=fun hc=>(hv3 _ hc).elim (fun h=>h.2 rfl) fun h=>by omega
 try simp only[go_sem]
 refine zaA r3 (by simp) o3.sl.isSl_one fun h4 r4 u4=>?_
 have r4:h4[bw]? =some (.cells #[.int .i64 w.state,v3,.pointer none,.int .i64 w.words] 175 (0,0)):=r4
 have o4:=o3.fr u4.fr fun c hc he=>hv3w (he▸hc)
 have hs4:=u4.1
 have F4:Fr B h h4:=(E2.fr.after f3 fun c _ hc=>(a1 c hc).1).after u4.fr fun c _ hc=>hc▸w0
 have I4:OutAt h4 E n:=I.fr F4 fun c hc _=>(bz c hc).2
 have hq4:P0 h4:=(hP h h4 (F4.mono fun c _ hc=>.inl hc)).1 p0
 have hs1:=e1.1
 have hs21:=e2.1
 have lb1:=zau r1
 have nb1:h.size≤b1:=n1
 have e4:h4[b1]? =some (.cells #[.int .i64 0,.int .i64 0,.int .i64 0,.int .i64 0] 99 (0,0)):=u4.row (by omega) (f3.row (e2.row r1) fun hc=>by have:=bl _ (a1 _ hc).1;omega)
 -- with a job, or with none
 refine zat (fun xs h5=>∃jv Bj,h5[bw]? =some (.cells #[.int .i64 w.state,v3,jv,.int .i64 w.words] 175 (0,0))∧zdl Z Bj h5 E n jv jo∧(∀c,Bj c→h4.size≤c)∧(∀c,Bj c→c<h5.size)∧Fr (fun c=>B c∨Qo c) h h5∧h4.size≤h5.size∧Own 1 h5 v3 (w.tiles.length+1) (w.tiles.map (fun n=>Value.int .i64 n)++[.int .i64 x])∧P1 h5∧h5[b1]? =some (.cells #[.int .i64 0,.int .i64 0,.int .i64 0,.int .i64 0] 99 (0,0))) ?_ ?_
 ·rcases HO with⟨rfl,rfl,hp⟩|⟨hov,hop⟩
  ·have e0:binV .f .neq Value.nilFunc Value.nilFunc=some (.bool false):=rfl
   simp only[go_sem,e0]
   exact⟨_,fun _=>False,r4,rfl,fun c hc=>hc.elim,fun c hc=>hc.elim,F4.mono fun c _ hc=>.inl hc,Nat.le_refl _,o4,hp _ hq4,e4⟩
  ·simp only[go_sem,hov]
   refine zq0 (hop h4 F4 hq4) fun v5 h5 ⟨Bj,k1,k2,k3,k4⟩=>?_
   have r5:=k3.row r4 fun hc=>(qo _ hc).2.1 w0
   have o5:=o4.fr k3 fun c hc hq=>(hv3 c hc).elim (fun h=>(qo c hq).2.1 h.1) fun h=>by have:=(qo c hq).1;omega
   have hs5:=k3.1
   try simp only[go_sem]
   refine zaA r5 (by simp) k2.one fun h6 r6 u6=>?_
   have hs6:=u6.1
   have hbj:¬Bj bw:=fun hc=>by have:=(k1 _ hc).1;omega
   have I5:OutAt h5 E n:=I4.fr k3 fun c hc _=>(qo c hc).2.2.2
   refine⟨v5,Bj,r6,k2.upd u6 (bz _ w0).1 hbj (bz _ w0).2.1 (bz _ w0).2.2 I5,fun c hc=>(k1 c hc).1,fun c hc=>by rw[hs6];exact(k1 c hc).2,?_,by omega,o5.fr u6.fr fun c hc he=>hv3w (he▸hc),?_⟩
   ·exact((F4.mono fun c _ hc=>.inl hc).after k3 fun c _ hc=>.inr hc).after u6.fr fun c _ hc=>.inl (hc▸w0)
   ·exact⟨(hP h5 h6 (u6.fr.mono fun c _ hc=>.inl (hc▸w0))).2 k4,u6.row (by omega) (k3.row e4 fun hc=>by have:=(qo _ hc).1;omega)⟩
 ·rintro xs ρ h5 ⟨jv,Bj,r5,J5,k1,k2,F5,hs5,o5,p5,e5⟩
  have hbj:¬Bj bw:=fun hc=>by have:=k1 _ hc;omega
  have I5:OutAt h5 E n:=I.fr F5 fun c hc _=>hc.elim (fun h=>(bz c h).2) fun h=>(qo c h).2.2.2
  have c2:zag h5 ⟨bw,2,none⟩=some jv:=zad r5
  have c3:zag h5 ⟨bw,3,none⟩=some (.int .i64 w.words):=zad r5
  -- the end: settled, and told
  have fin:∀{h6:Heap},h6[bw]? =some (.cells #[.int .i64 w.state,v3,jv,.int .i64 (wordsJ E jo w.words)] 175 (0,0))→zdl Z Bj h6 E n jv jo→Fr (fun c=>B c∨Qo c) h h6→h5.size≤h6.size→OutAt h6 E n→P1 h6→
    Own 1 h6 v3 (w.tiles.length+1) (w.tiles.map (fun n=>Value.int .i64 n)++[.int .i64 x])→h6[b1]? =some (.cells #[.int .i64 0,.int .i64 0,.int .i64 0,.int .i64 0] 99 (0,0))→
    FCall prog zaT #[ptr bw] h6 fun v48 h49=>vK ((fillL #[(.int .i64 0),(.int .i64 0),(.int .i64 0),(.int .i64 0)] [(0,1,(.int .i64 1)),(1,1,.int .i64 x)]).map .agg) fun v50=>stK 4 (ptr b1) v50 h49 fun v51 h52=>vK (ldsV 4 h52 (ptr b1)) fun v53=>
     v53=eventV 1 x 0 0∧IsW Z (Grow B h h52) h52 bw E n (tookW E w x jo)∧Fr (fun c=>B c∨Qo c) h h52∧P1 h52:=by
   intro h6 r6 J6 F6 hs6 I6 p6 o6 e6
   refine(c_settle r6 J6 (bz _ w0).1 hbj (bz _ w0).2.1 (bz _ w0).2.2 I6).mono fun _ h7 ⟨jv',r7,J7,f7⟩=>?_
   have hf:∀z:Int,fillL #[(.int .i64 0),(.int .i64 0),(.int .i64 0),(.int .i64 0)] [(0,1,.int .i64 1),(1,1,.int .i64 z)]=some #[.int .i64 1,.int .i64 z,.int .i64 0,.int .i64 0]:=fun _=>rfl
   have hs7:=f7.1
   simp only[go_sem,hf,zav]
   refine zaP (l:=[.int .i64 1,.int .i64 x,.int .i64 0,.int .i64 0]) (f7.row e6 fun hc=>by omega) rfl (zac rfl (zac rfl (zac rfl (zac rfl zal)))) rfl fun h8 r8 u8=>?_
   rw[zao (l:=[.int .i64 1,.int .i64 x,.int .i64 0,.int .i64 0]) r8 4 rfl,zaa]
   have hs8:=u8.1
   have I7:OutAt h7 E n:=I6.fr f7 fun c hc _=>by rw[show c=bw from hc];exact(bz _ w0).2
   have F7:Fr (fun c=>B c∨Qo c) h h7:=F6.after f7 fun c _ hc=>.inl (hc▸w0)
   have F8:Fr (fun c=>B c∨Qo c) h h8:=F7.upd_new u8 nb1
   have ob1:=I.new nb1
   have zb1:¬Z b1:=fun hz=>by have:=zl _ hz;omega
   have hbb:¬Bj b1:=fun hc=>by have:=k1 _ hc;omega
   have o8:=(o6.fr f7 fun c hc he=>hv3w (he▸hc)).fr u8.fr fun c hc he=>by
    have he:c=b1:=he
    rcases n3 c hc with h9|h9
    ·have:=bl _ (a1 c h9).1;omega
    ·omega
   have ho:OutAt h8 E n:=I7.fr u8.fr fun c hc _=>by rw[show c=b1 from hc];exact ob1
   refine⟨rfl,⟨⟨v3,jv',Bj,u8.row (by omega) r7,?_,J7.upd u8 zb1 hbb ob1.1 ob1.2 I7,fun c hc=>⟨?_,fun hj=>?_,fun he=>hv3w (he▸hc)⟩,fun c hc=>.inr ⟨?_,?_⟩,hbj⟩,.inl w0,zqV bl (by omega),fun c hc=>?_,fun c hc=>Nat.lt_of_lt_of_le (zl c hc) F8.1,ho,?_⟩,F8,?_⟩
   ·show Own 1 h8 v3 (w.tiles++[x]).length ((w.tiles++[x]).map fun n=>Value.int .i64 n)
    rw[List.length_append,List.map_append]
    exact o8
   ·rcases hv3 c hc with h9|h9
    ·exact .inl h9.1
    ·exact .inr ⟨h9,o8.lt hc⟩
   ·have:=k1 c hj
    rcases n3 c hc with h9|h9
    ·have:=bl _ (a1 c h9).1;omega
    ·have:=o3.lt hc;omega
   ·have:=k1 c hc;omega
   ·have:=k2 c hc;omega
   ·rcases hc with h9|h9
    ·exact bz c h9
    ·exact⟨fun hz=>by have:=zl c hz;omega,I.new h9.1⟩
   ·rcases zno (E:=E) (jo:=jo)with⟨h9,h10⟩|h9
    ·exact .inl ⟨h9,h10,by simp[tookW]⟩
    ·exact .inr h9
   ·exact(hP h7 h8 (u8.fr.mono fun c _ hc=>.inr (by have hc:c=b1:=hc;omega))).2 ((hP h6 h7 (f7.mono fun c _ hc=>.inl (hc▸w0))).2 p6)
  cases jo with
  |none=>
   have hj:jv=.pointer none:=J5
   subst hj
   simp only[go_sem,c2,nil_nn]
   exact fin r5 rfl F5 (Nat.le_refl _) I5 p5 o5 e5
  | some y=>
   obtain⟨t,yy,e⟩:=y
   have J5':=J5
   obtain⟨E',rfl,ok,hc,bj,rv,rfl,S⟩:=J5
   simp only[go_sem,c2,ptr_nn]
   refine zap (fun g=>g=h5) rfl ?_
   refine zaf (.int .i64 w.words) (fun g e=>by rw[e];exact c3) ?_
   try simp only[go_sem]
   refine zaf (ptr bj) (fun g e=>by rw[e];exact c2) ?_
   refine FCall.at (c_jobWords S) ⟨rfl,?_⟩
   refine zaf (.int .i64 (max w.words ((roomN (mostL E'.s.y.lines):Int)*(zek (t.w*E'.m.c):Int)))) (fun _ _=>zqH _ _ _) ?_
   try simp only[go_sem]
   refine zaA r5 (by simp) rfl fun h6 r6 u6=>?_
   exact fin r6 (J5'.upd u6 (bz _ w0).1 hbj (bz _ w0).2.1 (bz _ w0).2.2 I5) (F5.after u6.fr fun c _ hc=>.inl (hc▸w0)) (by rw[u6.1];exact Nat.le_refl _) (I5.fr u6.fr fun c hc _=>by rw[show c=bw from hc];exact(bz _ w0).2) ((hP h5 h6 (u6.fr.mono fun c _ hc=>.inl (hc▸w0))).2 p5)
    (o5.fr u6.fr fun c hc he=>hv3w (he▸hc)) (u6.row (by omega) e5)
abbrev EvD:=Int×Int×Int×Int
abbrev evV (e:EvD):Value:=eventV e.1 e.2.1 e.2.2.1 e.2.2.2
def stepW (E:Option WE)(jo:Option (TileD×Int×Int))(w:WD)(d:QD):WD×QD×EvD:=
 if w.state=1 then
  match w.job,E with
  |some (t,y,e),some E'=>
   let j:=zba E (some (t,stepY (E'.d t) y e,stepE (E'.d t) y e))
   (⟨stJ j,w.tiles,j,w.words⟩,d,(2,w.tiles.getLast?.getD 0,stepK (E'.d t) y e,stepJ (E'.d t) y e))
  |_,_=>(w,d,(0,0,0,0))
 else if w.state=2 then(w,d,(0,0,0,0))
 else if recvR d=0 then(tookW E w (recvX d) jo,recvQ d,(1,recvX d,0,0))
 else if recvR d=2 then({w with state:=2},recvQ d,(3,0,0,0))
 else(w,recvQ d,(0,0,0,0))
def takes (w:WD)(d:QD):Prop:=w.state=0∧recvR d=0
def Drew (E:Option WE)(w:WD)(n n':Pic):Prop:=
 zbl n n'∧match w.job,E with
  |some (t,y,e),some E=>OutOk (E.d t) n∧OutOk (E.d t) n'∧(stepK (E.d t) y e≠2→n'=n)∧(stepK (E.d t) y e=2→∀x' y' c',inP n x' y' c'→atP n' x' y' c'=if wrote (E.d t) y (zek (t.w*E.m.c)) x' y' c' then pixZ E.m E.s x' y' c' else atP n x' y' c')
  |_,_=>n'=n
theorem Drew.same {E:Option WE}{w:WD}{n:Pic}(h:w.job=none):Drew E w n n:=⟨zbl.refl n,by rw[h]⟩
structure Stepped (Z B Q Qo:Nat→Prop)(h h':Heap)(bw bq:Nat)(E:Option WE)(n:Pic)(w w':WD)(d':QD):Prop where
 ex:∃n' B' Q',IsW Z B' h' bw E n' w'∧IsQ Q' h' bq d'∧(∀c,B' c→B c∨h.size≤c)∧(∀c,Q' c→Q c∨h.size≤c)∧(∀c,B' c→¬Q' c)∧Drew E w n n'
 fr:Fr (fun c=>outB E c∨B c∨Q c∨Qo c) h h'
theorem c_wStep {Q:Nat→Prop}{bq:Nat}{d:QD}{ov:Value}{jo:Option (TileD×Int×Int)}{Qo:Nat→Prop}{P0 P1:Heap→Prop}(H:IsW Z B h bw E n w)(HQ:IsQ Q h bq d)(ht:w.tiles.length≤1000000)
  (HO:takes w d→Opens Z E n ov (recvX d) jo Qo (fun c=>B c∨Q c) P0 P1 h) (bq':∀c,B c→¬Q c) (qz:∀c,Q c→¬Z c∧outV E c∧¬outB E c) (qo:∀c,Qo c→c<h.size∧¬B c∧¬Q c∧¬Z c∧outV E c∧¬outB E c)
  (hP:∀g g',Fr (fun c=>outB E c∨B c∨Q c∨h.size≤c) g g'→(P0 g→P0 g')∧(P1 g→P1 g')) (p0:P0 h):
  FCall prog zaF #[ptr bw,ptr bq,ov] h fun r h'=>r=evV (stepW E jo w d).2.2∧Stepped Z B Q Qo h h' bw bq E n w (stepW E jo w d).1 (stepW E jo w d).2.1∧(takes w d→P1 h')∧(¬takes w d→P0 h'):=by
 apply zh9
 unfold zem
 have H0:=H
 obtain⟨⟨tv,jv,Bj,r,o,J,a1,a2,a3⟩,w0,bl,bz,zl,I,st⟩:=H
 refine zah fun b1 h1 r1 e1 n1=>?_
 have hs1:=e1.1
 have lb1:=zau r1
 have nb1:h.size≤b1:=n1
 have lbw:=zau r
 have r':=e1.row r
 have H1:=H0.ext e1
 have HQ1:=HQ.ext e1
 have I1:=I.ext e1
 have ob1:=I.new nb1
 have hQb:∀c,Q c→c<h.size:=HQ.ql
 have c0:zag h1 ⟨bw,0,none⟩=some (.int .i64 w.state):=zad r'
 simp only[go_sem,Nat.zero_add,c0]
 have tell:∀{h2:Heap} {ev:EvD} {w':WD} {d':QD} {n':Pic} {B' Q':Nat→Prop},h2[b1]? =some (.cells #[.int .i64 0,.int .i64 0,.int .i64 0,.int .i64 0] 99 (0,0))→Fr (fun c=>outB E c∨B c∨Q c∨Qo c) h h2→IsW Z B' h2 bw E n' w'→IsQ Q' h2 bq d'→(∀c,B' c→(B c∨h.size≤c)∧c≠b1)→(∀c,Q' c→(Q c∨h.size≤c)∧c≠b1)→(∀c,B' c→¬Q' c)→Drew E w n n'→
   (takes w d→P1 h2)→(¬takes w d→P0 h2)→stepW E jo w d=(w',d',ev)→
   stK 4 (ptr b1) (evV ev) h2 fun _ h3=>vK (ldsV 4 h3 (ptr b1)) fun v=>v=evV (stepW E jo w d).2.2∧Stepped Z B Q Qo h h3 bw bq E n w (stepW E jo w d).1 (stepW E jo w d).2.1∧(takes w d→P1 h3)∧(¬takes w d→P0 h3):=by
  intro h2 ev w' d' n' B' Q' e2 F2 W2 Q2 k1 k2 k3 D p1 p0 he
  refine zaP (l:=[.int .i64 ev.1,.int .i64 ev.2.1,.int .i64 ev.2.2.1,.int .i64 ev.2.2.2]) e2 rfl (zac rfl (zac rfl (zac rfl (zac rfl zal)))) rfl fun h3 r3 u3=>?_
  rw[zao (l:=[.int .i64 ev.1,.int .i64 ev.2.1,.int .i64 ev.2.2.1,.int .i64 ev.2.2.2]) r3 4 rfl,zaa,he]
  have zb1:∀c,Z c→¬c=b1:=fun c hz he=>by have:=zl _ hz;omega
  have hp:=hP h2 h3 (u3.fr.mono fun c _ hc=>.inr (.inr (.inr (by have hc:c=b1:=hc;omega))))
  refine⟨rfl,⟨⟨n',B',Q',W2.other u3.fr zb1 (fun c hc=>(k1 c hc).2) (W2.out.fr u3.fr fun c hc _=>by rw[show c=b1 from hc];exact ob1) (zbl.refl n'),Q2.fr u3.fr fun c hc=>(k2 c hc).2,fun c hc=>(k1 c hc).1,fun c hc=>(k2 c hc).1,k3,D⟩,F2.upd_new u3 nb1⟩,fun h=>hp.2 (p1 h),fun h=>hp.1 (p0 h)⟩
 have fE:fillL #[(.int .i64 0),(.int .i64 0),(.int .i64 0),(.int .i64 0)] []=some #[.int .i64 0,.int .i64 0,.int .i64 0,.int .i64 0]:=rfl
 have fL:fillL #[(.int .i64 0),(.int .i64 0),(.int .i64 0),(.int .i64 0)] [(0,1,.int .i64 3)]=some #[.int .i64 3,.int .i64 0,.int .i64 0,.int .i64 0]:=rfl
 have hB1:∀c,B c→(B c∨h.size≤c)∧c≠b1:=fun c hc=>⟨.inl hc,fun he=>by have:=bl c hc;omega⟩
 have hQ1:∀c,Q c→(Q c∨h.size≤c)∧c≠b1:=fun c hc=>⟨.inl hc,fun he=>by have:=hQb c hc;omega⟩
 by_cases s1:w.state=1
 ·-- a job goes on
  have hnt:¬takes w d:=fun h=>by have:=h.1;omega
  obtain⟨hg,htl⟩:zg0 E w.job∧w.tiles≠[]:=by
   rcases st with h|h
   ·exact h.2
   ·have:=h.1;omega
  cases hjo:w.job with
  |none=>rw[hjo]at hg;exact hg.elim
  | some q=>
   obtain⟨t,y,e⟩:=q
   rw[hjo]at J hg
   obtain⟨E',rfl,ok,hc,bj,rv,rfl,S⟩:=J
   have hg:stepK (E'.d t) y e≠0:=hg
   have hds:=job_wf ok.m ok.s.wf hc
   have c2:zag h1 ⟨bw,2,none⟩=some (ptr bj):=zad r'
   simp only[go_sem,decide_eq_true s1,c2]
   refine(c_Step (S.ext e1) hds (ok.s.room ok.m hc)).mono fun rm h2 ⟨er,n',S2,f2,dr1,dr2⟩=>?_
   subst er
   have hs2:=f2.1
   refine za0 (cs:=[.int .i64 (stepK (E'.d t) y e),.int .i64 (stepJ (E'.d t) y e)]) rfl (zac rfl (zac rfl zal)) rfl fun b3 h3 r3 e3 n3=>?_
   have S3:=S2.ext e3
   have hs3:=e3.1
   have OO:=S3.out
   have D:zbl n n':=⟨by rw[OO.w,S.out.w],by rw[OO.h,S.out.h],by rw[OO.c,S.out.c],by rw[OO.m,S.out.m]⟩
   have fq:∀c,(blk E'.vt c∨Bj c)→outB (some E') c∨B c:=fun c hc=>hc.imp id fun h=>a2 c h
   have nw:¬(blk E'.vt bw∨Bj bw):=fun hc=>hc.elim (bz _ w0).2.2 a3
   have r3w:=e3.row (f2.row r' nw)
   have I3:OutAt h3 (some E') n':=fun E2 hE=>by cases hE;exact⟨S3.img,OO.wf⟩
   have hb3:¬Grow Bj h1 h2 bw:=fun hc=>hc.elim a3 fun h=>by omega
   have J3:zdl Z (Grow Bj h1 h2) h3 (some E') n' (ptr bj) (some (t,stepY (E'.d t) y e,stepE (E'.d t) y e)):=⟨E',rfl,ok,D.newC hc,bj,rv,rfl,S3⟩
   refine(c_settle r3w J3 (bz _ w0).1 hb3 (bz _ w0).2.1 (bz _ w0).2.2 I3).mono fun _ h4 ⟨jv',r4,J4,f4⟩=>?_
   have hs4:=f4.1
   have I4:OutAt h4 (some E') n':=I3.fr f4 fun c hc _=>by rw[show c=bw from hc];exact(bz _ w0).2
   have hv2:∀c,blk tv c→¬(blk E'.vt c∨Bj c):=fun c hc h=>h.elim (bz c (a1 c hc).1).2.2 (a1 c hc).2.1
   have o4:=(((o.fr (M:=fun _=>False) e1.fr fun _ _=>id).fr f2 hv2).fr (M:=fun _=>False) e3.fr fun _ _=>id).fr f4 fun c hc he=>(a1 c hc).2.2 he
   have lb3:=zau r3
   have b13:¬(blk E'.vt b1∨Bj b1):=fun hc=>hc.elim ob1.2 fun h=>by have:=bl _ (a2 _ h);omega
   have e4:=f4.row (e3.row (f2.row r1 b13)) fun hc=>by omega
   have r34:=f4.row r3 fun hc=>by omega
   have c1:zag h4 ⟨bw,1,none⟩=some tv:=zad r4
   obtain⟨a,cp,et⟩:=o4.isSl
   have el:zae tv=some (.int .i64 (w.tiles.length:Int)):=by rw[et];rfl
   have hl1:0<w.tiles.length:=List.length_pos_iff.2 htl
   obtain⟨pp,p1,p2⟩:=(zpc (k:=.i64) (l:=w.tiles) o4).int_at (k':=.i64) (i:=w.tiles.length-1) (by omega)
   have p1:idxV 1 tv (.int .i64 ((w.tiles.length:Int)-1))=some pp:=by rw[show(w.tiles.length:Int)-1=((w.tiles.length-1:Nat):Int)by omega];exact p1
   refine zap (fun g=>g=h4) rfl ?_
   try simp only[go_sem,Nat.zero_add]
   refine zaf tv (fun g e=>by rw[e];exact c1) ?_
   try simp only[go_sem]
   refine zaf tv (fun g e=>by rw[e];exact c1) ?_
   refine zaf (.int .i64 (w.tiles.length:Int)) (fun _ _=>el) ?_
   simp only[go_sem]
   rw[w64 (n:=(w.tiles.length:Int)-1) (by omega) (by omega),p1,zaa]
   refine zaf (.int .i64 (w.tiles.getLast?.getD 0)) (fun g e=>by rw[e,p2,List.getLast?_eq_getElem?,List.getElem?_eq_getElem];rfl) ?_
   refine zaf (moveV (stepK (E'.d t) y e) (stepJ (E'.d t) y e)) (fun g e=>by rw[e];exact zao (l:=[_,_]) r34 2 rfl) ?_
   have hf:∀z a b:Int,fillL #[(.int .i64 0),(.int .i64 0),(.int .i64 0),(.int .i64 0)] [(0,1,.int .i64 2),(1,1,.int .i64 z),(2,2,moveV a b)]=some #[.int .i64 2,.int .i64 z,.int .i64 a,.int .i64 b]:=fun _ _ _=>rfl
   simp only[go_sem,hf,zav]
   have F4:Fr (fun c=>outB (some E') c∨B c) h h4:=((e1.fr.trans (f2.mono fun c _ hc=>fq c hc)).ext_r e3).trans (f4.mono fun c _ hc=>.inr (hc▸w0))
   have hp:=(hP h h4 (F4.mono fun c _ hc=>hc.imp id .inl)).1 p0
   have nq:∀c,Q c→¬(outB (some E') c∨B c):=fun c hc h=>h.elim (qz c hc).2.2 fun h=>bq' c h hc
   refine tell (ev:=(2,w.tiles.getLast?.getD 0,stepK (E'.d t) y e,stepJ (E'.d t) y e)) (w':=⟨stJ (zba (some E') (some (t,stepY (E'.d t) y e,stepE (E'.d t) y e))),w.tiles,zba (some E') (some (t,stepY (E'.d t) y e,stepE (E'.d t) y e)),w.words⟩) (B':=Grow B h1 h4) (Q':=Q) e4 (F4.mono fun c _ hc=>hc.imp id .inl)
    ⟨⟨tv,jv',Grow Bj h1 h2,r4,o4,J4,fun c hc=>⟨.inl (a1 c hc).1,fun h9=>?_,(a1 c hc).2.2⟩,fun c hc=>hc.imp (a2 c) fun h=>⟨h.1,by omega⟩,hb3⟩,.inl w0,zqV (fun c hc=>Nat.lt_of_lt_of_le (bl c hc) hs1) (by omega),fun c hc=>?_,fun c hc=>Nat.lt_of_lt_of_le (zl c hc) F4.1,I4,?_⟩
    (HQ.fr F4 nq) (fun c hc=>⟨?_,fun he=>?_⟩) hQ1 (fun c hc hq=>?_) ⟨D,?_⟩ (fun h=>absurd h hnt) (fun _=>hp) ?_
   ·rcases h9 with h9|h9
    ·exact(a1 c hc).2.1 h9
    ·have:=bl c (a1 c hc).1;omega
   ·rcases hc with h9|h9
    ·exact bz c h9
    ·exact⟨fun hz=>by have:=zl c hz;omega,I.new (by omega)⟩
   ·rcases zno (E:=some E') (jo:=some (t,stepY (E'.d t) y e,stepE (E'.d t) y e))with⟨h9,h10⟩|h9
    ·exact .inl ⟨h9,h10,htl⟩
    ·exact .inr h9
   ·exact hc.imp id fun h=>by omega
   ·rcases hc with h9|h9
    ·exact(hB1 c h9).2 he
    ·omega
   ·rcases hc with h9|h9
    ·exact bq' c h9 hq
    ·have:=hQb c hq;omega
   ·rw[hjo]
    exact⟨S.out,OO,dr1,dr2⟩
   ·unfold stepW
    rw[if_pos s1,hjo]
 ·have hjn:w.job=none:=by
   rcases st with h|h
   ·exact absurd h.1 s1
   ·exact h.2
  simp only[go_sem,decide_eq_false s1]
  refine zab (fun s2=>?_) (fun s2=>?_)
  ·-- it is gone
   simp only[go_sem,fE,zav]
   have hnt:¬takes w d:=fun h=>by have:=h.1;omega
   exact tell (ev:=(0,0,0,0)) (r1) e1.fr H1 HQ1 hB1 hQ1 bq' (Drew.same hjn) (fun h=>absurd h hnt) (fun _=>(hP h h1 e1.fr).1 p0) (by unfold stepW;rw[if_neg s1,if_pos s2])
  ·have s0:w.state=0:=by
    rcases st with h|h
    ·exact absurd h.1 s1
    ·exact h.1.resolve_right s2
   refine(c_qReceive HQ1).mono fun rr h2 ⟨er,Q2,f2⟩=>?_
   subst er
   have hs2:=f2.1
   have x0:extV (.tuple #[.int .i64 (recvX d),.int .i64 (recvR d)]) 0=some (.int .i64 (recvX d)):=rfl
   have x1:extV (.tuple #[.int .i64 (recvX d),.int .i64 (recvR d)]) 1=some (.int .i64 (recvR d)):=rfl
   have H2:IsW Z B h2 bw E n w:=H1.other f2 (fun c hz hq=>(qz c hq).1 hz) bq' (I1.fr f2 fun c hc _=>(qz c hc).2) (zbl.refl n)
   have e2:=f2.row r1 fun hc=>by have:=hQb _ hc;omega
   have F2:Fr (fun c=>outB E c∨B c∨Q c∨h.size≤c) h h2:=e1.fr.trans (f2.mono fun c _ hc=>.inr (.inr (.inl hc)))
   have F2':Fr (fun c=>outB E c∨B c∨Q c∨Qo c) h h2:=e1.fr.trans (f2.mono fun c _ hc=>.inr (.inr (.inl hc)))
   have hg2:∀c,Grow Q h1 h2 c→(Q c∨h.size≤c)∧c≠b1:=fun c hc=>hc.elim (fun h=>hQ1 c h) fun h=>⟨.inr (by omega),by omega⟩
   have bg:∀c,B c→¬Grow Q h1 h2 c:=fun c hc hq=>hq.elim (bq' c hc) fun h=>by have:=bl c hc;omega
   simp only[go_sem,x0,x1]
   refine zab (fun g0=>?_) (fun g0=>?_)
   ·have ht0:takes w d:=⟨s0,g0⟩
    refine(c_take H2 s0 ht (jo:=jo) (Qo:=Qo) (P0:=P0) (P1:=P1) ?_ ?_ ?_ ((hP h h2 F2).1 p0)).mono fun rr h3 ⟨er,W3,f3,p3⟩=>?_
    ·rcases HO ht0 with ho|⟨ho1,ho2⟩
     ·exact .inl ho
     ·refine .inr ⟨ho1,fun h3 f3 p3=>ho2 h3 ?_ p3⟩
      exact(e1.fr.trans (f2.mono fun c _ hc=>.inr hc)).after f3 fun c _ hc=>.inl hc
    ·exact fun c hc=>by have:=qo c hc;exact⟨by omega,this.2.1,this.2.2.2⟩
    ·exact fun g g' f=>hP g g' (f.mono fun c _ hc=>hc.elim (fun h=>.inr (.inl h)) fun h=>.inr (.inr (.inr (by omega))))
    ·subst er
     have hs3:=f3.1
     have q3:∀c,Grow Q h1 h2 c→¬(B c∨Qo c):=fun c hc hb=>hc.elim (fun h=>hb.elim (fun hb=>bq' c hb h) fun hb=>(qo c hb).2.2.1 h) fun h=>hb.elim (fun hb=>by have:=bl c hb;omega) fun hb=>by have:=(qo c hb).1;omega
     refine tell (ev:=(1,recvX d,0,0)) (f3.row e2 fun hc=>hc.elim (fun h=>(hB1 _ h).2 rfl) fun h=>by have:=(qo _ h).1;omega) (F2'.trans (f3.mono fun c _ hc=>hc.elim (fun h=>.inr (.inl h)) fun h=>.inr (.inr (.inr h)))) W3 (Q2.fr f3 q3)
      (fun c hc=>hc.elim (fun h=>hB1 c h) fun h=>⟨.inr (by omega),by omega⟩) hg2 (fun c hc hq=>?_) (Drew.same hjn) (fun _=>p3) (fun h=>absurd ht0 h) (by unfold stepW;rw[if_neg s1,if_neg s2,if_pos g0])
     rcases hc with h9|h9
     ·exact bg c h9 hq
     ·rcases hq with h8|h8
      ·have:=hQb c h8;omega
      ·omega
   ·have hnt:¬takes w d:=fun h=>g0 h.2
    refine zab (fun g2=>?_) (fun g2=>?_)
    ·obtain⟨⟨tv2,jv2,Bj2,r2,o2,J2,k1,k2,k3⟩,_,l2,z2,zl2,I2,_⟩:=H2
     rw[hjn]at J2
     have hj2:jv2=.pointer none:=J2
     subst hj2
     try simp only[go_sem]
     refine zaA r2 (by simp) rfl fun h3 r3 u3=>?_
     have r3:h3[bw]? =some (.cells #[.int .i64 2,tv2,.pointer none,.int .i64 w.words] 175 (0,0)):=r3
     have hs3:=u3.1
     simp only[go_sem,fL,zav]
     refine tell (ev:=(3,0,0,0)) (w':={w with state:=2}) (B':=B) (u3.row (by omega) e2) (F2'.after u3.fr fun c _ hc=>.inr (.inl (hc▸w0))) ⟨⟨tv2,.pointer none,Bj2,r3,o2.fr u3.fr fun c hc he=>(k1 c hc).2.2 he,?_,k1,k2,k3⟩,w0,fun c hc=>by rw[hs3];exact l2 c hc,bz,fun c hc=>by rw[hs3];exact zl2 c hc,I2.fr u3.fr fun c hc _=>by rw[show c=bw from hc];exact(bz _ w0).2,.inr ⟨.inr rfl,hjn⟩⟩
      (Q2.fr u3.fr fun c hc he=>bg bw w0 (he▸hc)) hB1 hg2 bg (Drew.same hjn) (fun h=>absurd h hnt) (fun _=>(hP h2 h3 (u3.fr.mono fun c _ hc=>.inr (.inl (hc▸w0)))).1 ((hP h h2 F2).1 p0)) (by unfold stepW;rw[if_neg s1,if_neg s2,if_neg g0,if_pos g2])
     show zdl Z Bj2 h3 E n (.pointer none) w.job
     rw[hjn];rfl
    ·simp only[go_sem,fE,zav]
     exact tell (ev:=(0,0,0,0)) e2 F2' H2 Q2 hB1 hg2 bg (Drew.same hjn) (fun h=>absurd h hnt) (fun _=>(hP h h2 F2).1 p0) (by unfold stepW;rw[if_neg s1,if_neg s2,if_neg g0,if_neg g2])
theorem c_CloneI {h:Heap}{Z:Nat→Prop}{v:Value}{l:List Int}(H:Rp.Sl (Rp.int .i64) Z h v l)(hl:l.length≤1000000000):
  FCall prog zbX #[v] h fun r h'=>New (Rp.int .i64) h h' r l:=by
 apply zfN
 unfold zcT
 obtain⟨ds,⟨hl1,a,cap,rfl,hs⟩,hz,he⟩:=H
 rw[zoj,zaa]
 cases a with
 | none=>
  have:l=[]:=by
   rcases hs with hs|⟨b,o,h0,_⟩
   ·subst hs
    have h2:([]:List Value).length=l.length*1:=hl1
    exact List.eq_nil_of_length_eq_zero (by simpa using h2.symm)
   ·cases h0
  subst this
  simp only[Option.isNone_none,go_sem]
  exact New.nil (Ext.refl _)
 |some a=>
  simp only[Option.isNone_some,go_sem]
  refine zbI (c':=#[]) rfl fun b h1 r1 e1 n1=>?_
  have O:Rp.Ow (Rp.int .i64) (fun _=>False) h1 (.slice (some ⟨b,0,none⟩) 0 0) []:=⟨[],.inr ⟨b,0,[],_,rfl,Nat.le_refl _,rfl,rfl,r1⟩,fun b hb hb'=>hb',fun i hi=>absurd hi (by simp)⟩
  have S1:SlC 1 h1 (.slice (some a) l.length cap) l.length ds:=SlC.ext ⟨hl1,some a,cap,rfl,hs⟩ e1
  refine Rp.app_ow (e:=(Rp.int .i64)) (l:=[]) (l2:=l) O S1 (fun i hi=>he i hi) rfl (by simp;omega) (by simp;omega) (fun b hb=>hb.elim) fun v2 h2 O2 f2 n2=>?_
  rw[List.nil_append]at O2
  have nb:∀k,blk (.slice (some ⟨b,0,none⟩) 0 0) k→h.size≤k:=fun k hk=>by have:k=b:=hk;omega
  refine⟨O2,e1.then_fr f2 nb,fun k hk=>?_⟩
  rcases n2 k hk with h3|h3
  ·exact nb k h3
  ·exact Nat.le_trans e1.1 h3
theorem c_Tiles (H:IsW Z B h bw E n w)(ht:w.tiles.length≤1000000):FCall prog zbi #[ptr bw] h fun r h'=>New (Rp.int .i64) h h' r w.tiles:=by
 apply zhD
 unfold zdL
 obtain⟨⟨tv,jv,Bj,r,o,J,a1,a2,a3⟩,w0,bl,bz,zl,I,st⟩:=H
 have c1:zag h ⟨bw,1,none⟩=some tv:=zad r
 simp only[go_sem,c1]
 exact c_CloneI (zpc (k:=.i64) (l:=w.tiles) o) (by omega)
end
end
end Go.Proofs.YtcoimlclclnlkaaGreatDoor
namespace Go.Proofs.YtcoimlclclnlkaaGreatDoor
open Go Go.Crisp
open _root_.Go.Proofs.Tryz
section
theorem clK_4 {f:FuncId}{a c1 c2 c3 c4:Value}{h:Heap}{K:Value→Heap→Prop}:clK prog (.func (.func f) #[] #[c1,c2,c3,c4]) #[a] h K=FCall prog f #[a,c1,c2,c3,c4] h K:=rfl
attribute [local irreducible] FCall rowK newK stK iteK vK qK drawK gK joinK loopK mkK appK cpyK zmY zkN bsK clK zgY zfx newmK
theorem ev_ne (a b:EvD):binV (.st [(0,1,.i),(1,1,.i),(2,2,(.st [(0,1,.i),(1,1,.i)]))]) .neq (evV a) (evV b)=some (.bool (decide (a≠b))):=by
 obtain⟨a1,a2,a3,a4⟩:=a
 obtain⟨b1,b2,b3,b4⟩:=b
 have e1:(a1==b1)=decide (a1=b1):=rfl
 have e2:(a2==b2)=decide (a2=b2):=rfl
 have e3:(a3==b3)=decide (a3=b3):=rfl
 have e4:(a4==b4)=decide (a4=b4):=rfl
 simp only[binV,eqV,seEqL,seEq,seAgg,partV,cond_false,cond_true,List.getElem?_toArray,List.getElem?_cons_zero,List.getElem?_cons_succ,if_true,e1,e2,Prod.mk.injEq,ne_eq]
 by_cases h1:a1=b1<;>by_cases h2:a2=b2<;>by_cases h3:a3=b3<;>by_cases h4:a4=b4<;>simp[h1,h2,h3,h4,e3,e4]
theorem ev_eq (a b:EvD):binV (.st [(0,1,.i),(1,1,.i),(2,2,(.st [(0,1,.i),(1,1,.i)]))]) .eql (evV a) (evV b)=some (.bool (decide (a=b))):=by
 obtain⟨a1,a2,a3,a4⟩:=a
 obtain⟨b1,b2,b3,b4⟩:=b
 have e1:(a1==b1)=decide (a1=b1):=rfl
 have e2:(a2==b2)=decide (a2=b2):=rfl
 have e3:(a3==b3)=decide (a3=b3):=rfl
 have e4:(a4==b4)=decide (a4=b4):=rfl
 simp only[binV,eqV,seEqL,seEq,seAgg,partV,cond_false,cond_true,List.getElem?_toArray,List.getElem?_cons_zero,List.getElem?_cons_succ,if_true,e1,e2,Prod.mk.injEq,ne_eq]
 by_cases h1:a1=b1<;>by_cases h2:a2=b2<;>by_cases h3:a3=b3<;>by_cases h4:a4=b4<;>simp[h1,h2,h3,h4,e3,e4]
abbrev noPic:Pic:=⟨0,0,0,0,[]⟩
abbrev noZ:Nat→Prop:=fun _=>False
theorem Drew.none {w:WD}{n n':Pic}(D:Drew none w n n'):n'=n:=by
 have:=D.2
 cases h:w.job<;>simp only[h]at this<;>exact this
def StepN (B Q:Nat→Prop)(M:Nat→Prop)(h h':Heap)(bw bq:Nat)(w:WD)(d:QD):Prop:=
 ∃B' Q',IsW noZ B' h' bw none noPic w∧IsQ Q' h' bq d∧(∀c,B' c→B c∨h.size≤c)∧(∀c,Q' c→Q c∨h.size≤c)∧(∀c,B' c→¬Q' c)∧Fr (fun c=>B c∨Q c∨M c) h h'
section
variable {B Q:Nat→Prop}{h:Heap}{bw bq:Nat}{w:WD}{d:QD}
theorem zoc (H:IsW noZ B h bw none noPic w)(HQ:IsQ Q h bq d)(ht:w.tiles.length≤1000000)(bq':∀c,B c→¬Q c):
  FCall prog zaF #[ptr bw,ptr bq,.nilFunc] h fun r h'=>r=evV (stepW none none w d).2.2∧StepN B Q noZ h h' bw bq (stepW none none w d).1 (stepW none none w d).2.1:=
 (c_wStep (Z:=noZ) (ov:=.nilFunc) (jo:=none) (Qo:=noZ) (P0:=fun _=>True) (P1:=fun _=>True) H HQ ht (fun _=>.inl ⟨rfl,rfl,fun _ h=>h⟩) bq' (fun _ _=>⟨id,trivial,id⟩) (fun _ h=>h.elim) (fun _ _ _=>⟨id,id⟩) trivial).mono
  fun r h' ⟨e,⟨⟨n',B',Q',W,q,k1,k2,k3,D⟩,f⟩,_⟩=>by
   have:=D.none
   subst this
   exact⟨e,B',Q',W,q,k1,k2,k3,f.mono fun c _ hc=>hc.elim (fun h=>h.elim) id⟩
end
theorem zpz {h:Heap}(G:GlobB h):FCall prog ze4 #[] h fun r h'=>r=.bool true∧Ext h h':=by
 apply zoF
 unfold zjh
 refine zjM.mono fun r h1 ⟨bw,er,r1,e1,n1⟩=>?_
 subst er
 refine c_qNew.mono fun r h2 ⟨bq,er,Q2,e2,n2⟩=>?_
 subst er
 have E2:=e1.trans e2
 refine FCall.to (c_l17Lives (G.ext E2)) fun h3 e3=>?_
 have E3:=E2.trans e3
 have lw:=zau r1
 have W3:IsW noZ (fun c=>c=bw) h3 bw none noPic ⟨0,[],none,0⟩:=IsW.new ((e2.trans e3).row r1) id trivial id (fun _ h=>h.elim) fun _ h=>by cases h
 have Q3:=Q2.ext e3
 simp only[go_sem,ptr_en]
 refine(zoc W3 Q3 (by simp) fun c hc hq=>by have hq:c=bq:=hq;have hc:c=bw:=hc;omega).mono fun r h4 ⟨er,B4,q4,W4,Q4,k1,k2,k3,f4⟩=>?_
 subst er
 have s1:stepW none none ⟨0,[],none,0⟩ ⟨min (max 1 1) 4096,[],false⟩=(⟨0,[],none,0⟩,⟨1,[],false⟩,(0,0,0,0)):=rfl
 rw[s1]at W4 Q4 ⊢
 have E4:Ext h h4:=E3.then_fr f4 fun c hc=>by
  rcases hc with hc|hc|hc
  ·rw[show c=bw from hc];exact n1
  ·rw[show c=bq from hc];exact Nat.le_trans e1.1 n2
  ·exact hc.elim
 have hB4:∀c,B4 c→h.size≤c:=fun c hc=>(k1 c hc).elim (fun h=>by rw[h];exact n1) fun h=>Nat.le_trans E3.1 h
 have hq4:∀c,q4 c→h.size≤c:=fun c hc=>(k2 c hc).elim (fun h=>by rw[h];exact Nat.le_trans e1.1 n2) fun h=>Nat.le_trans E3.1 h
 have f0:fillL #[(.int .i64 0),(.int .i64 0),(.int .i64 0),(.int .i64 0)] []=some #[.int .i64 0,.int .i64 0,.int .i64 0,.int .i64 0]:=rfl
 have f3:fillL #[(.int .i64 0),(.int .i64 0),(.int .i64 0),(.int .i64 0)] [(0,1,.int .i64 3)]=some #[.int .i64 3,.int .i64 0,.int .i64 0,.int .i64 0]:=rfl
 have n0:=ev_ne (0,0,0,0) (0,0,0,0)
 have q0:=ev_eq (0,0,0,0) (0,0,0,0)
 have q3:=ev_eq (3,0,0,0) (3,0,0,0)
 simp only[go_sem,f0,zav,n0,ne_eq,not_true,decide_false]
 refine FCall.at (zlV W4 Q4) ?_
 have d1:decide ((0:Int)=1∨((0:Int)=0∧recvR ⟨1,[],false⟩≠1))=false:=rfl
 rw[d1]
 simp only[go_sem]
 refine(c_qClose Q4).mono fun _ h5 ⟨_,Q5,f5⟩=>?_
 have W5:=W4.other f5 (fun c h=>h.elim) k3 (fun _ h=>by cases h) (zbl.refl _)
 have E5:=E4.then_fr f5 hq4
 refine FCall.at (zlV W5 Q5) ?_
 have d2:decide ((0:Int)=1∨((0:Int)=0∧recvR ⟨1,[],true⟩≠1))=true:=rfl
 rw[d2]
 simp only[go_sem]
 refine(zoc W5 Q5 (by simp) k3).mono fun r h6 ⟨er,B6,q6,W6,Q6,l1,l2,l3,f6⟩=>?_
 subst er
 have s2:stepW none none ⟨0,[],none,0⟩ ⟨1,[],true⟩=(⟨2,[],none,0⟩,⟨1,[],true⟩,(3,0,0,0)):=rfl
 rw[s2]at W6 Q6 ⊢
 have E6:Ext h h6:=E5.then_fr f6 fun c hc=>hc.elim (hB4 c) fun hc=>hc.elim (hq4 c) fun hc=>hc.elim
 simp only[go_sem,f3,zav,q3,decide_true]
 refine(zoc W6 Q6 (by simp) l3).mono fun r h7 ⟨er,B7,q7,W7,Q7,m1,m2,m3,f7⟩=>?_
 subst er
 have s3:stepW none none ⟨2,[],none,0⟩ ⟨1,[],true⟩=(⟨2,[],none,0⟩,⟨1,[],true⟩,(0,0,0,0)):=rfl
 rw[s3]at W7 Q7 ⊢
 have E7:Ext h h7:=E6.then_fr f7 fun c hc=>by
  have hs:=E5.1
  rcases hc with hc|hc|hc
  ·exact(l1 c hc).elim (hB4 c) fun h=>by omega
  ·exact(l2 c hc).elim (hq4 c) fun h=>by omega
  ·exact hc.elim
 simp only[go_sem,f0,zav,q0,decide_true]
 refine FCall.at (c_State W7) ?_
 simp only[go_sem]
 exact⟨trivial,E7⟩
end
end Go.Proofs.YtcoimlclclnlkaaGreatDoor
namespace Go.Proofs.YtcoimlclclnlkaaGreatDoor
open Go Go.Crisp
attribute [local irreducible] FCall rowK newK stK iteK vK qK drawK gK joinK loopK mkK appK cpyK zmY zkN bsK clK zgY zfx newmK
open _root_.Go.Proofs.Tryz
structure NwMk (h0:Heap)(T:TypeId)(N:Pic)(im:Option (Nat×Value))(va:Option (Nat×Bool))(g:Heap):Prop where
 ext:Ext h0 g
 mi:∀p,im=some p→IsImg g p.1 p.2 N∧h0.size≤p.1∧∀c,blk p.2 c→h0.size≤c
 av:∀q,va=some q→h0.size≤q.1∧g[q.1]? =some (.cells #[if q.2 then(match im with|some p=>ptr p.1|none=>.pointer none)else .pointer none] T (0,0))
 dis:∀p q,im=some p→va=some q→p.1≠q.1∧¬blk p.2 q.1
theorem NwMk.start (h:Heap)(T:TypeId)(N:Pic):NwMk h T N none none h:=⟨Ext.refl _,by simp,by simp,by simp⟩
theorem NwMk.new {h0 g:Heap}{T:TypeId}{N:Pic}{im:Option (Nat×Value)}{K:Value→Heap→Prop}(M:NwMk h0 T N im none g)(H:∀b g',NwMk h0 T N im (some (b,false)) g'→K (ptr b) g'):newK #[.pointer none] T g K:=by
 have hs:=M.ext.1
 refine zah fun b g' r e n=>H b g' ⟨M.ext.trans e,fun p hp=>⟨(M.mi p hp).1.ext e,(M.mi p hp).2⟩,fun q hq=>?_,fun p q hp hq=>?_⟩
 ·cases hq;exact⟨Nat.le_trans hs n,r⟩
 ·cases hq
  have I:=(M.mi p hp).1
  exact⟨fun he=>by have:=I.lt;show False;have he:p.1=b:=he;omega,fun hv=>by have:=I.ltv hv;have:b<g.size:=this;omega⟩
theorem NwMk.image {h0 g:Heap}{T:TypeId}{va:Option (Nat×Bool)}{w hh c most:Int}{K:Value→Heap→Prop}(M:NwMk h0 T (imgN w hh c most) none va g)(hc:imgC w hh c most=0)(hv:∀q,va=some q→q.2=false)(H:∀b v g',NwMk h0 T (imgN w hh c most) (some (b,v)) va g'→K (.tuple #[ptr b,.int .i64 0]) g'):
  FCall prog zaB #[.int .i64 w,.int .i64 hh,.int .i64 c,.int .i64 most] g K:=by
 refine ziI.mono fun r g' ⟨pn,er,e,_,s⟩=>?_
 subst er
 obtain⟨b,v,rfl,I,nb,nv,_⟩:=s hc
 have hs:=M.ext.1
 rw[hc]
 refine H b v g' ⟨M.ext.trans e,fun p hp=>by cases hp;exact⟨I,Nat.le_trans hs nb,fun c hc=>Nat.le_trans hs (nv c hc)⟩,fun q hq=>?_,fun p q hp hq=>?_⟩
 ·obtain⟨a1,a2⟩:=M.av q hq
  rw[hv q hq]at a2 ⊢
  exact⟨a1,e.row a2⟩
 ·cases hp
  have:=zau (M.av q hq).2
  exact⟨fun he=>by have he:b=q.1:=he;omega,fun hb=>by have:=nv _ hb;omega⟩
theorem NwMk.st {h0 g:Heap}{T:TypeId}{N:Pic}{b bt:Nat}{vt:Value}{K:Value→Heap→Prop}(M:NwMk h0 T N (some (bt,vt)) (some (b,false)) g)(H:∀g',NwMk h0 T N (some (bt,vt)) (some (b,true)) g'→K undef g'):stK 1 (ptr b) (ptr bt) g K:=by
 obtain⟨a1,a2⟩:=M.av _ rfl
 obtain⟨d1,d2⟩:=M.dis _ _ rfl rfl
 refine zaA a2 (by simp) rfl fun g' r u=>H g' ⟨M.ext.upd a1 u,fun p hp=>?_,fun q hq=>?_,fun p q hp hq=>?_⟩
 ·cases hp
  obtain⟨i1,i2⟩:=M.mi _ rfl
  exact⟨i1.fr u.fr d1 fun c hv he=>d2 (he▸hv),i2⟩
 ·cases hq;exact⟨a1,r⟩
 ·cases hp;cases hq;exact⟨d1,d2⟩
theorem NwMk.fin {h0 g:Heap}{T:TypeId}{N:Pic}{b bt:Nat}{vt:Value}(M:NwMk h0 T N (some (bt,vt)) (some (b,true)) g):∃bt vt b',[ptr b,Value.int .i64 0]=[ptr b',.int .i64 0]∧NwMk h0 T N (some (bt,vt)) (some (b',true)) g:=⟨bt,vt,b,rfl,M⟩
structure Env21 (Z:Nat→Prop)(h:Heap)(bm bn bs bp bf:Nat)(vf:Value)(bt:Nat)(vt p q rv:Value)(bl:Nat)(pp pq:Value)(m n:Pic)(d:PlanD):Prop where
 set:Setup Z h bf vf bt vt p q m n d.s
 ref:Rp.Sl rStg Z h rv [d.s]
 vm:∃t,h[bm]? =some (.cells #[ptr bf] t (0,0))
 vn:∃t,h[bn]? =some (.cells #[ptr bt] t (0,0))
 vs:∃t sv,h[bs]? =some (.cells #[sv] t (0,0))∧SlC 3 h sv 1 [p,q,.int .i64 d.s.border]∧∀c,blk sv c→Z c
 vp:∃t,h[bp]? =some (.cells #[ptr bl] t (0,0))
 plan:zil Z h bl d pp pq
 z:Z bm∧Z bn∧Z bs∧Z bp∧Z bl
theorem Env21.chg {Z Q:Nat→Prop}{h h':Heap}{bm bn bs bp bf:Nat}{vf:Value}{bt:Nat}{vt p q rv:Value}{bl:Nat}{pp pq:Value}{m n n':Pic}{d:PlanD}(H:Env21 Z h bm bn bs bp bf vf bt vt p q rv bl pp pq m n d)(f:Fr Q h h')(qz:∀c,Z c→¬Q c)(I:IsImg h' bt vt n'):Env21 Z h' bm bn bs bp bf vf bt vt p q rv bl pp pq m n' d:=by
 obtain⟨S,r,⟨t1,m1⟩,⟨t2,m2⟩,⟨t3,sv,m3,c3,z3⟩,⟨t4,m4⟩,⟨p1,p2,p3⟩,z1,z2,z4,z5,z6⟩:=H
 exact⟨S.chg f qz I,r.fr f (fun c _ h=>qz c h),⟨t1,f.row m1 (qz _ z1)⟩,⟨t2,f.row m2 (qz _ z2)⟩,⟨t3,sv,f.row m3 (qz _ z4),c3.fr f (fun c _ h=>qz c (z3 c h)),z3⟩,⟨t4,f.row m4 (qz _ z5)⟩,⟨f.row p1 (qz _ z6),p2.fr f (fun c _ h=>qz c h),p3.fr f (fun c _ h=>qz c h)⟩,z1,z2,z4,z5,z6⟩
theorem Env21.ext {Z:Nat→Prop}{h h':Heap}{bm bn bs bp bf:Nat}{vf:Value}{bt:Nat}{vt p q rv:Value}{bl:Nat}{pp pq:Value}{m n:Pic}{d:PlanD}(H:Env21 Z h bm bn bs bp bf vf bt vt p q rv bl pp pq m n d)(e:Ext h h'):Env21 Z h' bm bn bs bp bf vf bt vt p q rv bl pp pq m n d:=
 H.chg (Q:=fun _=>False) e.fr (fun _ _=>id) (H.set.out.ext e)
theorem stg_row {Z:Nat→Prop}{h:Heap}{sv:Value}{s:Stg}(H:Rp.Sl rStgP Z h sv [s]):∃p q b o,idxV 3 sv (.int .i64 0)=some (.pointer (some ⟨b,o,none⟩))∧zag h ⟨b,o,none⟩=some p∧zag h ⟨b,o+1,none⟩=some q∧SlC 3 h sv 1 [p,q,.int .i64 s.border]∧(∀c,blk sv c→Z c)∧IsTbl Z h p s.x∧IsTbl Z h q s.y:=by
 obtain⟨ds,⟨hl,a,cap,rfl,hs⟩,hz,he⟩:=H
 have hl:ds.length=3:=hl
 have H0:rStgP.R Z h (Rp.el 3 ds 0) s:=he 0 (by simp)
 rw[Rp.el_self hl]at H0
 obtain⟨p,q,rfl,hp,hq⟩:=H0
 rcases hs with h0|⟨b,o,rfl,hs⟩
 ·cases h0
 ·exact⟨p,q,b,o,rfl,hs 0 (by simp),hs 1 (by simp),⟨rfl,_,cap,rfl,.inr ⟨b,o,rfl,hs⟩⟩,fun c hc=>hz (by simp) c hc,hp,hq⟩
abbrev zpa (a:PicA)(o:OpD)(tw th:Int):PlanD:=⟨bgS a o,1+tw%13,1+th%13⟩
def newTree (tM:TypeId)(m n:Value)(a:Heap)(b:List Value→Heap→Prop):Prop:=
 drawK a fun S=>
 qK S (fun a=>ldV a n) fun a6=>
 vK (idxV 3 a6 (.int .i64 0)) fun a7=>
 vK (fldV 0 a7) fun a8=>
 qK S (fun a=>ldV a a8) fun o=>
 qK S (fun a=>ldV a n) fun a9=>
 vK (idxV 3 a9 (.int .i64 0)) fun ba=>
 vK (fldV 1 ba) fun bb=>
 qK S (fun a=>ldV a bb) fun g=>
 qK S (fun a=>ldV a m) fun e=>
 qK S (fun a=>ldV a m) fun c=>
 (FCall prog zak #[o] a fun d h=>
 S h∧((FCall prog zak #[g] h fun f i=>
 S i∧((FCall prog zai #[e] i fun j k=>
 S k∧((FCall prog zaq #[c] k fun p l=>
 S l∧((FCall prog zaB #[d,f,j,p] l fun q r=>
 S r∧(vK (extV q 0) fun bc=>
 vK (extV q 1) fun bd=>
 newK #[(.pointer none)] tM r fun s t=>
 S t∧(stK 1 s bc t fun bz u=>
 S u∧(b [s,bd] u))))∧(newK #[(.pointer none)] tM l fun v w=>
 S w∧(FCall prog zaB #[d,f,j,p] w fun x y=>
 S y∧(vK (extV x 0) fun be=>
 vK (extV x 1) fun bf=>
 stK 1 v be y fun b0 z=>
 S z∧(b [v,bf] z))))))∧(newK #[(.pointer none)] tM k fun aa ab=>
 S ab∧(FCall prog zaq #[c] ab fun bg ac=>
 S ac∧(FCall prog zaB #[d,f,j,bg] ac fun ad ae=>
 S ae∧(vK (extV ad 0) fun bh=>
 vK (extV ad 1) fun bi=>
 stK 1 aa bh ae fun b1 af=>
 S af∧(b [aa,bi] af)))))))∧(newK #[(.pointer none)] tM i fun ag ah=>
 S ah∧(FCall prog zai #[e] ah fun bj ai=>
 S ai∧(FCall prog zaq #[c] ai fun bk aj=>
 S aj∧(FCall prog zaB #[d,f,bj,bk] aj fun ak al=>
 S al∧(vK (extV ak 0) fun bl=>
 vK (extV ak 1) fun bm=>
 stK 1 ag bl al fun b2 am=>
 S am∧(b [ag,bm] am))))))))∧(newK #[(.pointer none)] tM h fun an ao=>
 S ao∧(FCall prog zak #[g] ao fun bn ap=>
 S ap∧(FCall prog zai #[e] ap fun bo aq=>
 S aq∧(FCall prog zaq #[c] aq fun bp ar=>
 S ar∧(FCall prog zaB #[d,bn,bo,bp] ar fun au av=>
 S av∧(vK (extV au 0) fun bq=>
 vK (extV au 1) fun br=>
 stK 1 an bq av fun b3 aw=>
 S aw∧(b [an,br] aw)))))))))∧(newK #[(.pointer none)] tM a fun ax ay=>
 S ay∧(FCall prog zak #[o] ay fun bs az=>
 S az∧(FCall prog zak #[g] az fun bt a0=>
 S a0∧(FCall prog zai #[e] a0 fun bu a1=>
 S a1∧(FCall prog zaq #[c] a1 fun bv a2=>
 S a2∧(FCall prog zaB #[bs,bt,bu,bv] a2 fun a3 a4=>
 S a4∧(vK (extV a3 0) fun bw=>
 vK (extV a3 1) fun bx=>
 stK 1 ax bw a4 fun b4 a5=>
 S a5∧(b [ax,bx] a5))))))))
theorem open21 {h6:Heap} (G:GlobB h6) {Z1 Z2:Nat→Prop} {cs os:List Value} {a:PicA} {o:OpD} {b1 b3:Nat} {t1 t3 tM tS tP:TypeId} (r1:h6[b1]? =some (.cells cs.toArray t1 (0,0))) (r3:h6[b3]? =some (.cells os.toArray t3 (0,0))) (H:rPicA.R Z1 h6 cs a) (WA:a.Wf) (HO:rOp.R Z2 h6 os o) (WO:OpsWf [o]) {tw th:Int} (hw:B8 tw) (hh:B8 th)
    {XR:Value→Heap→Prop} {X3:Heap→Prop} {F:Value→Value→Value→List Value→Value→Heap→Prop} (hX:∀h',Ext h6 h'→XR (.bool true) h')
    (hF:∀h' Z bm bn bs bp bf vf bt vt p q rv bl pp pq,BgOk a o→Ext h6 h'→Env21 Z h' bm bn bs bp bf vf bt vt p q rv bl pp pq (drawA a) (bgN a o) (zpa a o tw th)→(∀c,Z c→h6.size≤c)→h6.size≤bt→(∀c,blk vt c→h6.size≤c)→F rv (ptr bm) (ptr bs) [ptr bn,.int .i64 0] (ptr bp) h'):
    vK (ldsV 5 h6 (ptr b1)) fun v8=>FCall prog zb5 #[v8] h6 fun v9 h10=>newK #[(.pointer none)] tM h10 fun v11 h12=>stK 1 v11 v9 h12 fun v13 h14=>vK (ldsV 9 h14 (ptr b3)) fun v15=>
    rowK #[(.int .i64 0),(.int .i64 0),(.int .i64 0),(.int .i64 0),(.slice none 0 0),(.slice none 0 0),(.int .i64 0),(.int .i64 0),(.int .i64 0)] 31 1 [(0,9,v15)] h14 fun v16 h17=>vK (ldV h17 v11) fun v18=>FCall prog zei #[v16,v18] h17 fun v19 h20=>
    vK (extV v19 0) fun v21=>vK (extV v19 1) fun v22=>vK (extV v19 2) fun v23=>newK #[(.slice none 0 0)] tS h20 fun v24 h25=>stK 1 v24 v21 h25 fun v26 h27=>vK (unV .not v23) fun v28=>iteK v28 (vK (ldV h27 v11) fun v29=>vK (binV .p .neq v29 (.pointer none)) fun v30=>XR v30 h27)
    (joinK (fun J31=>newTree tM v11 v24 h27 J31) fun x32 j33 h34=>
 vK (ldV h34 v24) fun v121=>
 vK (idxV 3 v121 (.int .i64 0)) fun v122=>
 vK (ldsV 3 h34 v122) fun v123=>
 vK (binV .i .rem (.int .u8 tw) (.int .u8 13)) fun v124=>
 vK (cviV .i64 v124) fun v125=>
 vK (binV .i .add (.int .i64 1) v125) fun v126=>
 vK (binV .i .rem (.int .u8 th) (.int .u8 13)) fun v127=>
 vK (cviV .i64 v127) fun v128=>
 vK (binV .i .add (.int .i64 1) v128) fun v129=>
 FCall prog zgM #[v123,v126,v129] h34 fun v130 h131=>
 vK (extV v130 0) fun v132=>
 vK (extV v130 1) fun v133=>
 newK #[(.pointer none)] tP h131 fun v134 h135=>
 stK 1 v134 v132 h135 fun v136 h137=>
 vK (binV .i .neq (ix x32 1) (.int .i64 0)) fun v138=>
 vK (gV v138 false (some v133)) fun v139=>
 vK (gV v138 false (binV .i .neq v139 (.int .i64 0))) fun v140=>
 vK (pickV v138 (.bool true) v140) fun v141=>
 vK (gV v141 false (ldV h137 (ix x32 0))) fun v142=>
 vK (gV v141 false (binV .p .eql v142 (.pointer none))) fun v143=>
 vK (pickV v141 (.bool true) v143) fun v144=>
 vK (gV v144 false (ldV h137 v134)) fun v145=>
 vK (gV v144 false (binV .p .eql v145 (.pointer none))) fun v146=>
 vK (pickV v144 (.bool true) v146) fun v147=>
 iteK v147 (X3 h137) (F v22 v11 v24 x32 v134 h137)):=by
  have lc:=rPicA.len H
  have lo:=rOp.len HO
  rw[zao r1 5 lc,zaa]
  refine(c_l15Draw (rPicA.mono H fun _ _ h=>h) WA).mono fun pm h7 N7=>?_
  obtain⟨bf,vf,rfl,I7,nbf,nvf,e7⟩:=N7
  have hs7:=e7.1
  refine zah fun bm h8 r8 e8 n8=>?_
  have hs8:=e8.1
  refine zaA r8 (by simp) rfl fun h9 r9 u9=>?_
  have r9:h9[bm]? =some (.cells #[ptr bf] tM (0,0)):=r9
  have hs9:=u9.1
  have E9:Ext h6 h9:=(e7.trans e8).upd (Nat.le_trans hs7 n8) u9
  have I9:=(I7.ext e8).fr u9.fr (fun he=>by have:=I7.lt;have he:bf=bm:=he;omega) fun c hv he=>by have:=I7.ltv hv;have he:c=bm:=he;omega
  rw[zao (E9.row r3) 9 lo,zaa]
  refine zbI (Rp.fill_whole (by rfl) lo) fun b5 h10 r10 e10 n10=>?_
  have E10:=E9.trans e10
  have hs10:=e10.1
  have S10:Rp.Sl rOp (fun c=>Z2 c∨c=b5) h10 (.slice (some ⟨b5,0,none⟩) 1 1) [o]:=by
    refine⟨os,?_,fun _ b hb=>.inr hb,fun i hi=>?_⟩
    · have:=Rp.SlC.single (cs:=os) r10
      rw[lo]at this
      exact this
    · have:i=0:=by simpa using hi
      subst this
      rw[Rp.el_self lo]
      exact rOp.mono (rOp.ext HO E10) fun b _ hb=>.inl hb
  have c9:zag h10 ⟨bm,0,none⟩=some (ptr bf):=zad (e10.row r9)
  simp only[go_sem,c9]
  refine(c_Stages (G.ext E10) S10 (by simp) WO (I9.ext e10) (zlc a)).mono fun r h11 ⟨e11,sv,rv,ok,er,osv,hok,hS⟩=>?_
  subst er
  have hs11:=e11.1
  have E11:=E10.trans e11
  have x0:extV (.tuple #[sv,rv,.bool ok]) 0=some sv:=rfl
  have x1:extV (.tuple #[sv,rv,.bool ok]) 1=some rv:=rfl
  have x2:extV (.tuple #[sv,rv,.bool ok]) 2=some (.bool ok):=rfl
  simp only[go_sem,x0,x1,x2]
  refine zah fun bs h12 r12 e12 n12=>?_
  have hs12:=e12.1
  refine zaA r12 (by simp) osv fun h13 r13 u13=>?_
  have r13:h13[bs]? =some (.cells #[sv] tS (0,0)):=r13
  have hs13:=u13.1
  have E12:=E11.trans e12
  have E13:Ext h6 h13:=E12.upd (Nat.le_trans E11.1 n12) u13
  have lbm:=zau r9
  have r9':h13[bm]? =some (.cells #[ptr bf] tM (0,0)):=u13.row (by omega) ((e10.trans (e11.trans e12)).row r9)
  have I13:=((I9.ext e10).ext (e11.trans e12)).fr u13.fr (fun he=>by have:=I9.lt;have he:bf=bs:=he;omega) fun c hv he=>by have:=I9.ltv hv;have he:c=bs:=he;omega
  have c13:zag h13 ⟨bm,0,none⟩=some (ptr bf):=zad r9'
  have c13s:zag h13 ⟨bs,0,none⟩=some sv:=zad r13
  cases hk:ok with
  | false=>
    simp only[go_sem,c13,ptr_nn]
    exact hX h13 E13
  | true=>
    subst hk
    have B:BgOk a o:=bg_ok (hok.1 rfl).1 (hok.1 rfl).2
    obtain⟨T1,T2⟩:=hS rfl
    have nbs:∀c,Since h10 h11 c→¬c=bs:=fun c hc he=>by have:=hc.2;omega
    have T1:Rp.Sl rStgP (Since h10 h11) h13 sv [bgS a o]:=(Rp.Sl.ext T1 e12).fr u13.fr fun c _ hc=>nbs c hc
    have T2:Rp.Sl rStg (Since h10 h11) h13 rv [bgS a o]:=(Rp.Sl.ext T2 e12).fr u13.fr fun c _ hc=>nbs c hc
    obtain⟨p,q,bp,op,q1,k0,k1,sl1,zz1,hp,hq⟩:=stg_row T1
    have hsx:=B.sx
    have hsy:=B.sy
    simp only[go_sem]
    refine zat (fun xs g=>∃bt vt b',xs=[ptr b',.int .i64 0]∧NwMk h13 tM (bgN a o) (some (bt,vt)) (some (b',true)) g) ?_ ?_
    · unfold newTree
      refine zap (Ext h13) (Ext.refl _) ?_
      refine zaf sv (fun g e=>by rw[show ldV g (ptr bs)=zag g ⟨bs,0,none⟩from rfl];exact e.cell c13s) ?_
      simp only[go_sem,q1,Nat.zero_add]
      refine zaf p (fun g e=>e.cell k0) ?_
      refine zaf sv (fun g e=>e.cell c13s) ?_
      simp only[go_sem,q1,Nat.zero_add]
      refine zaf q (fun g e=>e.cell k1) ?_
      refine zaf (ptr bf) (fun g e=>e.cell c13) ?_
      refine zaf (ptr bf) (fun g e=>e.cell c13) ?_
      have M0:NwMk h13 tM (bgN a o) none none h13:=NwMk.start _ _ _
      have hc:=B.imgc
      have hcv:∀q:Nat×Bool,(none:Option (Nat×Bool))=some q→q.2=false:=fun q h=>by cases h
      have hcw:∀(b:Nat) (q:Nat×Bool),some (b,false)=some q→q.2=false:=fun b q h=>by cases h;rfl
      repeat' first
        |exact NwMk.fin ‹NwMk _ _ _ _ _ _›
        |exact NwMk.ext ‹NwMk _ _ _ _ _ _›
        |refine And.intro ?_ ?_
        |refine FCall.at (c_To (hp.ext (NwMk.ext ‹NwMk _ _ _ _ _ _›))) ?_
        |refine FCall.at (c_To (hq.ext (NwMk.ext ‹NwMk _ _ _ _ _ _›))) ?_
        |refine FCall.at (zcr (I13.ext (NwMk.ext ‹NwMk _ _ _ _ _ _›))) ?_
        |refine FCall.at (zgK (I13.ext (NwMk.ext ‹NwMk _ _ _ _ _ _›))) ?_
        |refine NwMk.new ‹NwMk _ _ _ _ none _› fun b g M=>?_
        |refine NwMk.image (va:=none) ‹NwMk _ _ _ _ _ _› hc hcv fun b v g M=>?_
        |refine NwMk.image (va:=some (_,false)) ‹NwMk _ _ _ _ _ _› hc (hcw _) fun b v g M=>?_
        |refine NwMk.st ‹NwMk _ _ _ _ _ _› fun g M=>?_
        |simp only[go_sem]
    · rintro xs ρ h14 ⟨bt,vt,bn,rfl,M⟩
      have E14:=M.ext
      obtain⟨i1,i2,i3⟩:=M.mi _ rfl
      obtain⟨v1,v2⟩:=M.av _ rfl
      obtain⟨d1,d2⟩:=M.dis _ _ rfl rfl
      have hs14:=E14.1
      have v2:h14[bn]? =some (.cells #[ptr bt] tM (0,0)):=v2
      have i1:IsImg h14 bt vt (bgN a o):=i1
      obtain⟨sp,w1,w2⟩:=(sl1.ext E14).atw (by omega) (k:=.i64) (i:=0) (by omega)
      have w1:idxV 3 sv (.int .i64 0)=some sp:=w1
      have w2:ldsV 3 h14 sp=some (.agg #[p,q,.int .i64 (bgS a o).border]):=w2
      have c14s:zag h14 ⟨bs,0,none⟩=some sv:=E14.cell c13s
      have HS:IsStg (Since h10 h11) h14 (.agg #[p,q,.int .i64 (bgS a o).border]) (bgS a o):=⟨p,q,rfl,hp.ext E14,hq.ext E14⟩
      unfold B8 at hw hh
      have hw13:0≤tw%13∧tw%13<13:=⟨Int.emod_nonneg _ (by omega),Int.emod_lt_of_pos _ (by omega)⟩
      have hh13:0≤th%13∧th%13<13:=⟨Int.emod_nonneg _ (by omega),Int.emod_lt_of_pos _ (by omega)⟩
      simp only[go_sem,c14s,w1,w2]
      rw[zaW _ _ _ _ (by omega),zaa,Int.tmod_eq_emod_of_nonneg hw.1]
      simp only[go_sem]
      rw[w64 (n:=tw%13) (by omega) (by omega),w64 (n:=1+tw%13) (by omega) (by omega),zaW _ _ _ _ (by omega),zaa,Int.tmod_eq_emod_of_nonneg hh.1]
      simp only[go_sem]
      rw[w64 (n:=th%13) (by omega) (by omega),w64 (n:=1+th%13) (by omega) (by omega)]
      refine(c_planNew HS).mono fun r h15 ⟨e15,pl1,_⟩=>?_
      obtain⟨bl,pp,pq,er,nbl,PL⟩:=pl1 (by unfold sideT;omega)
      subst er
      have hs15:=e15.1
      have lpl:=zau PL.row
      have x0:extV (.tuple #[ptr bl,.int .i64 0]) 0=some (ptr bl):=rfl
      have x1:extV (.tuple #[ptr bl,.int .i64 0]) 1=some (.int .i64 0):=rfl
      simp only[go_sem,x0,x1]
      refine zah fun bv h16 r16 e16 n16=>?_
      have hs16:=e16.1
      refine zaA r16 (by simp) rfl fun h17 r17 u17=>?_
      have r17:h17[bv]? =some (.cells #[ptr bl] tP (0,0)):=r17
      have hs17:=u17.1
      have lbv:=zau r17
      have nbv:h15.size≤bv:=n16
      have lbn:=zau v2
      have lbs:=zau r13
      have lbm':=zau r9'
      have lbt:=i1.lt
      have E17:Ext h14 h17:=(e15.trans e16).upd (by omega) u17
      have EE:Ext h6 h17:=E13.trans (E14.trans E17)
      have rn:=E17.row v2
      have cn:zag h17 ⟨bn,0,none⟩=some (ptr bt):=zad rn
      have cp:zag h17 ⟨bv,0,none⟩=some (ptr bl):=zad r17
      simp only[go_sem,cn,cp,ptr_en,decide_true,decide_false,eqT,ne_eq,not_true]
      have I17:IsImg h17 bf vf (drawA a):=(I13.ext E14).ext E17
      have zt:∀c,Since h10 h11 c→h6.size≤c∧c<h17.size∧c≠bt∧¬blk vt c:=fun c hc=>⟨by have:=hc.1;omega,by have:=hc.2;omega,by have:=hc.2;omega,fun hv=>by have:=i3 c hv;have:=hc.2;omega⟩
      have PL17:zil (Since h10 h11) h17 bl ⟨bgS a o,1+tw%13,1+th%13⟩ pp pq:=⟨u17.row (by omega) (e16.row PL.row),(PL.x.ext e16).fr u17.fr fun c _ hc he=>by have:=hc.2;have he:c=bv:=he;omega,(PL.y.ext e16).fr u17.fr fun c _ hc he=>by have:=hc.2;have he:c=bv:=he;omega⟩
      have nvt:∀{c:Nat},c<h13.size→¬blk vt c:=fun hc hv=>by have:=i3 _ hv;omega
      have I7l:=I7.lt
      refine hF h17 (fun c=>h6.size≤c∧c<h17.size∧c≠bt∧¬blk vt c) bm bn bs bv bf vf bt vt p q rv bl pp pq B EE ?_ (fun c hc=>hc.1) (by omega) (fun c hc=>by have:=i3 c hc;omega)
      refine⟨⟨I17,i1.ext E17,by omega,((hp.ext E14).ext E17).mono fun c _ hc=>zt c hc,((hq.ext E14).ext E17).mono fun c _ hc=>zt c hc,⟨⟨nbf,by omega,by omega,nvt (by omega)⟩,fun c hc=>?_⟩,fun c hc=>hc.2.2.2,fun c hc=>hc.2.2.1,fun c hc=>hc.2.1⟩,((Rp.Sl.ext T2 E14).ext E17).mono fun c _ hc=>zt c hc,⟨tM,(E14.trans E17).row r9'⟩,⟨tM,rn⟩,⟨tS,sv,(E14.trans E17).row r13,(sl1.ext E14).ext E17,fun c hc=>zt c (zz1 c hc)⟩,⟨tP,r17⟩,⟨PL17.row,PL17.x.mono fun c _ hc=>zt c hc,PL17.y.mono fun c _ hc=>zt c hc⟩,?_⟩
      · have:=I7.ltv hc
        exact⟨nvf c hc,by omega,by omega,nvt (by omega)⟩
      · have a1:h6.size≤bm:=Nat.le_trans hs7 n8
        have a3:¬blk vt bl:=fun hv=>by have:=i1.ltv hv;omega
        have a4:¬blk vt bv:=fun hv=>by have:=i1.ltv hv;omega
        refine⟨⟨a1,by omega,by omega,nvt lbm'⟩,⟨by omega,by omega,fun he=>d1 he.symm,d2⟩,⟨by omega,by omega,by omega,nvt lbs⟩,⟨by omega,lbv,by omega,a4⟩,⟨by omega,by omega,by omega,a3⟩⟩
section
theorem znc {d:PlanD}(W:d.Wf){i:Int}(h0:0≤i)(h1:i<zcf d):zcV d.s (zaN d i).x (zaN d i).y (zaN d i).w (zaN d i).h:=by
 have ti:=zpN W h0 h1
 have hw:=W.w
 have hh:=W.h
 unfold sideT at hw hh
 unfold PlanD.X PlanD.Y at ti
 show 1≤outW d i∧1≤outH d i∧0≤outX d i∧0≤outY d i∧outX d i<_∧outY d i<_∧outW d i≤d.s.x.lines.length-outX d i∧outH d i≤d.s.y.lines.length-outY d i
 unfold outW outH PlanD.X PlanD.Y
 omega
def jobOf (d:PlanD)(i:Int):TileD×Int×Int:=(zaN d i,(zaN d i).y,lnF d.s.y (zaN d i).y)
structure C21 where
 bm:Nat
 bn:Nat
 bs:Nat
 bp:Nat
 bf:Nat
 vf:Value
 bt:Nat
 vt:Value
 p:Value
 q:Value
 rv:Value
 bl:Nat
 pp:Value
 pq:Value
 m:Pic
 d:PlanD
 bw:Nat
 bq:Nat
abbrev C21.E (C:C21):WE:=⟨C.bf,C.vf,C.bt,C.vt,C.p,C.q,C.m,C.d.s⟩
abbrev C21.Env (C:C21)(Z:Nat→Prop)(h:Heap)(n:Pic):Prop:=Env21 Z h C.bm C.bn C.bs C.bp C.bf C.vf C.bt C.vt C.p C.q C.rv C.bl C.pp C.pq C.m n C.d
structure C21.Ok (C:C21):Prop where
 m:C.m.Wf
 d:C.d.Wf
 s:StgOk C.d.s
abbrev C21.jo (C:C21)(i:Int):Option (TileD×Int×Int):=some (jobOf C.d i)
abbrev C21.suits (C:C21)(n:Pic):Prop:=n.Wf∧zdR C.m n C.d.s
theorem C21.newC {C:C21}(O:C.Ok){n:Pic}(S:C.suits n){i:Int}(h0:0≤i)(h1:i<zcf C.d):wnewC C.m n C.d.s (zaN C.d i)=0:=ze9.2 ⟨S.2,znc O.d h0 h1⟩
def VarAt (bo:Option Nat)(T:TypeId)(k:Int)(h:Heap):Prop:=∀b,bo=some b→h[b]? =some (.cells #[.int .i64 k] T (0,0))
def Opened (C:C21)(Z:Nat→Prop)(bo:Option Nat)(T:TypeId)(n:Pic)(x k:Int)(g:Heap)(r:Value)(g2:Heap):Prop:=
 ∃Bj,(∀c,Bj c→g.size≤c∧c<g2.size)∧zdl Z Bj g2 (some C.E) n r (C.jo x)∧Fr (fun c=>bo=some c) g g2∧VarAt bo T (wordsJ (some C.E) (C.jo x) k) g2
section
variable {C:C21}{Z:Nat→Prop}{g:Heap}{n:Pic}{x:Int}
theorem open_job (O:C.Ok)(G:GlobB g)(V:C.Env Z g n)(S:C.suits n)(h0:0≤x)(h1:x<zcf C.d){T:TypeId}{K:Value→Value→Heap→Prop}{zt:Array Value}
  (HK:∀v6 g2,Ext g g2→g.size≤v6→g2[v6]? =some (.cells (tileC (zaN C.d x)).toArray T (0,0))→K (ptr v6) (.bool true) g2) (hz:zt.size=10):
  vK (ldV g (ptr C.bp)) fun v1=>FCall prog zbR #[v1,.int .i64 x] g fun v2 h3=>vK (extV v2 0) fun v4=>vK (extV v2 1) fun v5=>newK zt T h3 fun v6 h7=>stK 10 v6 v4 h7 fun v8 h9=>K v6 v5 h9:=by
 obtain⟨t4,m4⟩:=V.vp
 have c0:zag g ⟨C.bp,0,none⟩=some (ptr C.bl):=zad m4
 simp only[go_sem,c0]
 refine FCall.to (zpx V.plan O.d h0 h1) fun h3 e3=>?_
 have x0:extV (.tuple #[.agg (tileC (zaN C.d x)).toArray,.bool true]) 0=some (.agg (tileC (zaN C.d x)).toArray):=rfl
 have x1:extV (.tuple #[.agg (tileC (zaN C.d x)).toArray,.bool true]) 1=some (.bool true):=rfl
 simp only[go_sem,x0,x1]
 refine za0 (cs:=tileC (zaN C.d x)) (by rw[hz];rfl) (zgx _) rfl fun b h4 r4 e4 n4=>?_
 exact HK b h4 (e3.trans e4) (Nat.le_trans e3.1 n4) r4
theorem WNew.has {h':Heap}{r:Value}(O:C.Ok)(S:C.suits n)(h0:0≤x)(h1:x<zcf C.d)(H:WNew Z g C.bf C.vf C.bt C.vt C.p C.q C.m n C.d.s (zaN C.d x) r h'):
  ∃bj rv,r=.tuple #[ptr bj,.int .i64 0]∧Ext g h'∧zdl Z (Grow (fun _=>False) g h') h' (some C.E) n (ptr bj) (C.jo x)∧JobSt Z (Grow (fun _=>False) g h') h' bj C.bf C.vf C.bt C.vt C.p C.q rv ⟨C.m,C.d.s,zaN C.d x⟩ (zaN C.d x).y (lnF C.d.s.y (zaN C.d x).y) n (roomN (mostL C.d.s.y.lines)) (zek ((zaN C.d x).w*C.m.c)):=by
 have hc:=C21.newC O S h0 h1
 obtain⟨bj,rv,er,e,J⟩:=H.go hc
 exact⟨bj,rv,er,e,⟨C.E,rfl,⟨O.m,O.s⟩,hc,bj,rv,rfl,J⟩,J⟩
theorem op_plays (O:C.Ok)(G:GlobB g)(V:C.Env Z g n)(S:C.suits n)(h0:0≤x)(h1:x<zcf C.d){T:TypeId}{k:Int}:
  clK prog (.func (.func zaM) #[] #[ptr C.bp,ptr C.bm,ptr C.bn,ptr C.bs]) #[.int .i64 x] g (Opened C Z none T n x k g):=by
 rw[clK_4]
 apply zdw
 unfold zck
 refine open_job O G V S h0 h1 (fun b g2 e2 nb r2=>?_) rfl
 have V2:=V.ext e2
 have I:=V2
 obtain⟨S2,_,⟨t1,m1⟩,⟨t2,m2⟩,⟨t3,sv,m3,c3,z3⟩,_⟩:=V2
 obtain⟨sp,w1,w2⟩:=c3.atw (by omega) (k:=.i64) (i:=0) (by omega)
 have w1:idxV 3 sv (.int .i64 0)=some sp:=w1
 have w2:ldsV 3 g2 sp=some (.agg #[C.p,C.q,.int .i64 C.d.s.border]):=w2
 simp only[go_sem]
 refine zap (fun h=>h=g2) rfl ?_
 refine zaf (ptr C.bf) (fun h e=>by rw[e];exact zad m1) ?_
 refine zaf (ptr C.bt) (fun h e=>by rw[e];exact zad m2) ?_
 refine zaf sv (fun h e=>by rw[e];exact zad m3) ?_
 rw[w1,zaa]
 refine zaf (.agg #[C.p,C.q,.int .i64 C.d.s.border]) (fun h e=>by rw[e];exact w2) ?_
 refine zaf (.agg (tileC (zaN C.d x)).toArray) (fun h e=>by rw[e];exact zao r2 10 rfl) ?_
 refine(c_wNewS (G.ext e2) S2 O.m S.1 O.s.wf).mono fun r g3 HW=>?_
 obtain⟨bj,rv,er,e3,J,_⟩:=WNew.has O S h0 h1 HW
 subst er
 have x0:extV (.tuple #[ptr bj,.int .i64 0]) 0=some (ptr bj):=rfl
 have x1:extV (.tuple #[ptr bj,.int .i64 0]) 1=some (.int .i64 0):=rfl
 simp only[go_sem,x0,x1,ne_eq,eqT,not_true,decide_false]
 exact⟨_,fun c hc=>hc.elim (fun h=>h.elim) fun h=>⟨Nat.le_trans e2.1 h.1,h.2⟩,J,(e2.trans e3).fr,fun b hb=>by cases hb⟩
end
end
end Go.Proofs.YtcoimlclclnlkaaGreatDoor
namespace Go.Proofs.YtcoimlclclnlkaaGreatDoor
open Go Go.Crisp
attribute [local irreducible] FCall rowK newK stK iteK vK qK drawK gK joinK loopK mkK appK cpyK zmY zkN bsK clK zgY zfx newmK
def stepsT (C:C21)(i:Int):Nat:=leftZ (C.E.d (zaN C.d i)) (zaN C.d i).y (lnF C.d.s.y (zaN C.d i).y)
theorem weights_few {o:OpD}(h:¬zeA 12 o):(za5 o).length≤41:=by
 unfold zeA at h
 have hu:∀l:List Int,(userW l).length≤l.length:=fun l=>by unfold userW;split<;>simp
 unfold za5
 split
 ·unfold zga
  split
  ·simp
  ·rename_i hb
   unfold zea at hb
   rw[List.length_map,List.length_range]
   unfold zb2;omega
 split
 ·unfold blurW
  split
  ·simp
  ·rename_i hb
   unfold zg3 at hb
   have:=hu (List.replicate (2*o.radius+1).toNat 1)
   rw[List.length_replicate]at this
   omega
 ·have:=hu o.y;omega
theorem makeS_few {o:OpD}{w h:Int}(hc:makeC o w h=0)(hl:¬zeA 12 o)(hs:h≤12):mostL (makeS o w h).y.lines≤80:=by
 have ht:zc9 o w h=0:=by
  unfold makeC at hc
  split at hc
  ·cases hc
  ·exact hc
 show mostL (zcu o h).lines≤_
 unfold zc9 at ht
 unfold zcu
 split
 ·rename_i hk
  rw[if_pos hk]at ht
  by_cases h1:zbp o.filter w o.w=0
  ·rw[if_neg (by simpa using h1)]at ht
   have:=zmw ht;omega
  ·rw[if_pos h1]at ht
   exact absurd ht h1
 ·rename_i hk
  rw[if_neg hk]at ht
  have hf:=weights_few hl
  have hz:zdb (za5 o) h=0:=by
   split at ht
   ·exact absurd ht (by assumption)
   ·split at ht
    ·exact absurd ht (by assumption)
    ·exact ht
  have:=zmB _ _ hz
  omega
theorem leftN_few {d:JobD}{M:Nat}(hm:mostL d.s.y.lines≤M):∀(k:Nat) (y e:Int),lnF d.s.y y≤e→leftN d k y e≤k*(M+1)
 |0,_,_,_=>by unfold leftN;omega
 |k+1,y,e,he=>by
  have h1:=leftN_few hm k (y+1) (max (lnE d.s.y y) (lnF d.s.y (y+1))) (by omega)
  have h2:=znW d.s.y y
  rw[Nat.add_mul,Nat.one_mul]
  unfold leftN
  unfold lnE lnF at*
  omega
def sumT (C:C21):Nat→Nat→Nat
 |0,_=>0
 |j+1,i=>stepsT C i+sumT C j (i+1)
theorem sumT_few {C:C21}{H M:Nat}(hm:mostL C.d.s.y.lines≤M)(hh:∀i:Nat,(zaN C.d i).h≤H):∀j i,sumT C j i≤j*(H*(M+1))
 |0,_=>by simp[sumT]
 | j+1,i=>by
  have h1:=sumT_few hm hh j (i+1)
  have h2:stepsT C i≤H*(M+1):=by
   unfold stepsT leftZ
   refine Nat.le_trans (leftN_few (d:=C.E.d (zaN C.d i)) hm _ _ _ (Int.le_refl _)) (Nat.mul_le_mul_right _ ?_)
   have:=hh i
   show((zaN C.d i).y+(zaN C.d i).h-(zaN C.d i).y).toNat≤H
   omega
  unfold sumT
  rw[Nat.add_mul,Nat.one_mul]
  omega
theorem parts_sum {n size:Int}(hn:1≤n∧n≤12)(hs:1≤size∧size≤13):1≤zbN n size∧zbN n size≤12∧zbN n size*min size n≤24:=by
 unfold zbN
 have h1:=Int.mul_ediv_add_emod (n+size-1) size
 have h2:=Int.emod_nonneg (n+size-1) (show size≠0 by omega)
 have h3:=Int.emod_lt_of_pos (n+size-1) (show 0<size by omega)
 generalize(n+size-1)/size=k at*
 generalize(n+size-1)%size=r at*
 rcases Int.lt_or_le n size with h|h
 ·have:k=1:=by
   have a1:k<2:=by
    refine Int.lt_of_not_ge fun h4=>?_
    have:size*2≤size*k:=Int.mul_le_mul_of_nonneg_left h4 (by omega)
    omega
   have a2:0<k:=by
    refine Int.lt_of_not_ge fun h4=>?_
    have:size*k≤size*0:=Int.mul_le_mul_of_nonneg_left h4 (by omega)
    omega
   omega
  subst this
  omega
 ·have e1:k*min size n=size*k:=by rw[show min size n=size by omega,Int.mul_comm]
  rw[e1]
  have a2:0<k:=by
   refine Int.lt_of_not_ge fun h4=>?_
   have:size*k≤size*0:=Int.mul_le_mul_of_nonneg_left h4 (by omega)
   omega
  have a3:1*k≤size*k:=Int.mul_le_mul_of_nonneg_right hs.1 (by omega)
  refine⟨by omega,?_,by omega⟩
  refine Int.le_of_not_gt fun h4=>?_
  have:size*13≤size*k:=Int.mul_le_mul_of_nonneg_left (by omega) (by omega)
  omega
theorem bg_few {a:PicA}{o:OpD}(B:BgOk a o){tw th:Int}(hw:0≤tw)(hh:0≤th){C:C21}(hC:C.d=zpa a o tw th):∃N:Nat,(N:Int)=zcf C.d∧1≤N∧N≤144∧sumT C N 0≤23328:=by
 have hsx:=B.sx
 have hsy:=B.sy
 have w13:0≤tw%13∧tw%13<13:=⟨Int.emod_nonneg _ (by omega),Int.emod_lt_of_pos _ (by omega)⟩
 have h13:0≤th%13∧th%13<13:=⟨Int.emod_nonneg _ (by omega),Int.emod_lt_of_pos _ (by omega)⟩
 have px:=parts_sum (n:=(bgS a o).x.lines.length) (size:=1+tw%13) (by omega) (by omega)
 have py:=parts_sum (n:=(bgS a o).y.lines.length) (size:=1+th%13) (by omega) (by omega)
 have hc:zcf C.d=zbN (bgS a o).x.lines.length (1+tw%13)*zbN (bgS a o).y.lines.length (1+th%13):=by rw[hC];rfl
 have hm:mostL C.d.s.y.lines≤((80:Nat):Int):=by
  rw[hC]
  exact makeS_few B.made B.little (by have:=zjL a;omega)
 obtain⟨H,eH⟩:∃H:Nat,(H:Int)=min (1+th%13) (bgS a o).y.lines.length:=⟨(min (1+th%13) (bgS a o).y.lines.length).toNat,by omega⟩
 have hH:∀i:Nat,(zaN C.d i).h≤H:=by
  intro i
  rw[eH,hC]
  show min (1+th%13) ((bgS a o).y.lines.length-outY _ _)≤_
  have:0≤outY (zpa a o tw th) i:=by
   unfold outY
   refine Int.mul_nonneg (Int.ediv_nonneg (by omega) ?_) (by show 0≤1+th%13;omega)
   show 0≤zbN (bgS a o).x.lines.length (1+tw%13)
   omega
  omega
 have hs:=sumT_few (C:=C) hm hH
 rw[hc]
 revert hs px py eH
 generalize zbN (bgS a o).x.lines.length (1+tw%13)=A
 generalize zbN (bgS a o).y.lines.length (1+th%13)=D
 intro px py eH hs
 obtain⟨A',rfl⟩:∃A':Nat,(A':Int)=A:=⟨A.toNat,by omega⟩
 obtain⟨D',rfl⟩:∃D':Nat,(D':Int)=D:=⟨D.toNat,by omega⟩
 have e1:A'*D'≤12*12:=Nat.mul_le_mul (by omega) (by omega)
 have e2:1*1≤A'*D':=Nat.mul_le_mul (by omega) (by omega)
 have e3:D'*H≤24:=by
  have:((D'*H:Nat):Int)≤24:=by rw[Int.natCast_mul,eH];exact py.2.2
  omega
 refine⟨A'*D',by rw[Int.natCast_mul],by omega,e1,Nat.le_trans (hs _ _) ?_⟩
 have e4:A'*D'*(H*81)=A'*(D'*H)*81:=by rw[Nat.mul_assoc,←Nat.mul_assoc D' H 81,←Nat.mul_assoc]
 have e5:A'*(D'*H)≤12*24:=Nat.mul_le_mul (by omega) e3
 show A'*D'*(H*81)≤_
 omega
end Go.Proofs.YtcoimlclclnlkaaGreatDoor
namespace Go.Proofs.YtcoimlclclnlkaaGreatDoor
open Go Go.Crisp
attribute [local irreducible] FCall rowK newK stK iteK vK qK drawK gK joinK loopK mkK appK cpyK zmY zkN bsK clK zgY zfx newmK
open _root_.Go.Proofs.Tryz
section
theorem zoe {h:Heap}{Z:Nat→Prop}{v:Value}{l:List (Int×List Int)}(H:Rp.Sl rLine Z h v l)(hl:l.length≤1000000000)(hb:∀x∈l,x.2.length≤1073741824){a b:Int}:FCall prog ze0 #[v,.int .i64 a,.int .i64 b] h fun r h'=>(∃x y c,r=.tuple #[.int .i64 x,.int .i64 y,.bool c])∧Ext h h':=by
 apply zov
 unfold zi7
 obtain⟨av,cv,ev⟩:=H.isSl
 have el:zae v=some (.int .i64 (l.length:Int)):=by rw[ev];rfl
 rw[el,zaa]
 refine zaE (α:=Int×Int×Bool) l.length 0 (fun i s=>[.int .i64 s.1,.int .i64 s.2.1,.bool s.2.2,.int .i64 (i:Int)]) (fun i s g=>Ext h g) (0,0,false) rfl (Nat.zero_le _) (Ext.refl _) fun i s g again ρ _ hi E Hag=>?_
 simp only[ix_0,ix_1,ix_2,ix_3]
 rw[zbJ,zaa]
 refine zab (fun g1=>?_) (fun g1=>?_)
 ·have hi':i<l.length:=by omega
  have hw':(i:Int)+1=((i+1:Nat):Int):=by omega
  obtain⟨pt,cs,q1,q2,u,q3,q4⟩:=(H.ext E).atw (show 0<2 by omega) (k:=.i64) (i:=i) hi'
  have q1:idxV 2 v (.int .i64 (i:Int))=some pt:=q1
  have q2:ldsV 2 g pt=some (.agg cs.toArray):=q2
  subst q3
  rw[q1,zaa,q2,zaa]
  refine za0 (cs:=[.int .i64 l[i].1,u]) rfl (zac rfl (zac q4.one zal)) rfl fun b5 g5 r5 e5 n5=>?_
  have c0:zag g5 ⟨b5,0,none⟩=some (.int .i64 l[i].1):=zad r5
  have c1:zag g5 ⟨b5,1,none⟩=some u:=zad r5
  obtain⟨au,cu,eu⟩:=q4.isSl
  have eu2:zae u=some (.int .i64 (l[i].2.length:Int)):=by rw[eu];rfl
  simp only[go_sem,Nat.zero_add,c1,eu2]
  refine zab (fun g2=>?_) (fun g2=>?_)
  ·rw[w64 (n:=(i:Int)+1) (by omega) (by omega),hw']
   exact Hag s g5 hi' (E.trans e5)
  ·have hlt:=hb l[i] (List.getElem_mem hi')
   refine zaE (α:=Int×Int×Bool) l[i].2.length 0 (fun j s=>[.int .i64 s.1,.int .i64 s.2.1,.bool s.2.2,.int .i64 (j:Int)]) (fun j s g'=>g'=g5) s rfl (Nat.zero_le _) rfl fun j s' g' again' ρ' _ hj eg Hag'=>?_
   subst eg
   simp only[ix_0,ix_1,ix_2,ix_3]
   rw[zbJ,zaa]
   refine zab (fun g3=>?_) (fun g3=>?_)
   ·have hj':j<l[i].2.length:=by omega
    have hwj:(j:Int)+1=((j+1:Nat):Int):=by omega
    simp only[go_sem,Nat.zero_add,c0]
    refine zat (fun xs g''=>(∃n,xs=[.int .i64 n])∧g''=g') ?_ ?_
    ·obtain⟨s1,s2,s3⟩:=s'
     cases s3<;>simp only[go_sem]
     ·exact⟨⟨_,rfl⟩,trivial⟩
     ·refine zab (fun _=>?_) (fun _=>?_)
      ·exact⟨⟨_,rfl⟩,trivial⟩
      ·exact⟨⟨_,rfl⟩,trivial⟩
    ·rintro xs ρ'' g'' ⟨⟨n,rfl⟩,rfl⟩
     obtain⟨s1,s2,s3⟩:=s'
     simp only[ix_0]
     cases s3<;>simp only[go_sem]
     ·rw[w64 (n:=(j:Int)+1) (by omega) (by omega),hwj]
      exact Hag' (n,_,true) _ hj' rfl
     ·refine zab (fun _=>?_) (fun _=>?_)
      ·rw[w64 (n:=(j:Int)+1) (by omega) (by omega),hwj]
       exact Hag' (n,_,true) _ hj' rfl
      ·rw[w64 (n:=(j:Int)+1) (by omega) (by omega),hwj]
       exact Hag' (n,s2,true) _ hj' rfl
   ·rw[w64 (n:=(i:Int)+1) (by omega) (by omega),hw']
    exact Hag s' _ hi' (E.trans e5)
 ·exact⟨⟨_,_,_,rfl⟩,E⟩
def rT14:Rp (Int×Int) where
 w:=10
 R:=fun _ _ cs t=>∃a b c d e f g k,cs=[.int .i64 a,.int .i64 b,.int .i64 t.1,.int .i64 c,.int .i64 t.2,.int .i64 d,.int .i64 e,.int .i64 f,.int .i64 g,.int .i64 k]
 len:=by rintro _ _ _ _ ⟨_,_,_,_,_,_,_,_,rfl⟩;rfl
 one:=by
  rintro _ _ _ _ ⟨_,_,_,_,_,_,_,_,rfl⟩
  exact zac rfl (zac rfl (zac rfl (zac rfl (zac rfl (zac rfl (zac rfl (zac rfl (zac rfl (zac rfl zal)))))))))
 fr:=by rintro _ _ _ _ _ _ h _ _;exact h
 mono:=by rintro _ _ _ _ _ h _;exact h
theorem parts_lt {n size:Int}(hs:1≤size)(j:Int):j*size<n↔j<zbN n size:=by
 unfold zbN
 rw[show(j<(n+size-1)/size)↔(j+1≤(n+size-1)/size)from Iff.rfl,Int.le_ediv_iff_mul_le (by omega),Int.add_mul,Int.one_mul]
 omega
structure VD where
 state:Int
 tiles:List Int
 left:List (Int×Int)
def rVD:Rp VD where
 w:=3
 R:=fun Z h cs v=>∃t l,cs=[.int .i64 v.state,t,l]∧Rp.Sl (Rp.int .i64) Z h t v.tiles∧Rp.Sl rMove Z h l v.left∧Rp.SlCap l
 len:=by rintro _ _ _ _ ⟨_,_,rfl,_⟩;rfl
 one:=by
  rintro _ _ _ _ ⟨_,_,rfl,H,K,_⟩
  exact zac rfl (zac H.one (zac K.one zal))
 fr:=by rintro _ _ _ _ _ _ ⟨t,l,rfl,H,K,c⟩ f q;exact⟨t,l,rfl,H.fr f q,K.fr f q,c⟩
 mono:=by rintro _ _ _ _ _ ⟨t,l,rfl,H,K,c⟩ q;exact⟨t,l,rfl,H.mono q,K.mono q,c⟩
def rMvs:Rp (List (Int×Int)) where
 w:=1
 R:=fun Z h cs l=>∃v,cs=[v]∧Rp.Sl rMove Z h v l∧Rp.SlCap v
 len:=by rintro _ _ _ _ ⟨_,rfl,_⟩;rfl
 one:=by
  rintro _ _ _ _ ⟨_,rfl,H,_⟩
  exact zac H.one zal
 fr:=by rintro _ _ _ _ _ _ ⟨v,rfl,H,c⟩ f q;exact⟨v,rfl,H.fr f q,c⟩
 mono:=by rintro _ _ _ _ _ ⟨v,rfl,H,c⟩ q;exact⟨v,rfl,H.mono q,c⟩
def zdy (M:List (List (Int×Int)))(x:Int):List (Int×Int):=if 0≤x then M.getD x.toNat []else[]
def stepV (M:List (List (Int×Int)))(v:VD)(d:QD):VD×QD×EvD:=
 if v.state=2 then(v,d,(0,0,0,0))
 else if v.state=1 then(⟨if v.left.tail=[]then 0 else 1,v.tiles,v.left.tail⟩,d,(2,v.tiles.getLast?.getD 0,(v.left.headD (0,0)).1,(v.left.headD (0,0)).2))
 else if recvR d=1 then(v,d,(0,0,0,0))
 else if recvR d=2 then({v with state:=2},d,(3,0,0,0))
 else(⟨if zdy M (recvX d)=[]then v.state else 1,v.tiles++[recvX d],zdy M (recvX d)⟩,recvQ d,(1,recvX d,0,0))
section
variable {Z:Nat→Prop}{h:Heap}{cs ds:List Value}{v:VD}{d:QD}{mv:Value}{M:List (List (Int×Int))}
theorem c_r21Step (H:rVD.R Z h cs v)(HQ:rQ.R Z h ds d)(HM:Rp.Sl rMvs Z h mv M)(zl:∀c,Z c→c<h.size)(h1:v.state=1→v.tiles≠[]∧v.left≠[])(ht:v.tiles.length≤1000000):
  FCall prog zam #[.agg cs.toArray,.agg ds.toArray,mv] h fun r h'=>∃cs' ds',r=.tuple #[.agg cs'.toArray,.agg ds'.toArray,evV (stepV M v d).2.2]∧rVD.R (fun c=>Z c∨(h.size≤c∧c<h'.size)) h' cs' (stepV M v d).1∧rQ.R (fun c=>Z c∨(h.size≤c∧c<h'.size)) h' ds' (stepV M v d).2.1∧Ext h h':=by
 apply zp9
 unfold zkd
 obtain⟨tv,lv,rfl,HT,HL,hcap⟩:=H
 have HQ0:=HQ
 have oq:=rQ.one HQ
 have lq:=rQ.len HQ
 simp only[zaJ]
 refine zah fun b1 g1 r1 e1 n1=>zah fun b2 g2 r2 e2 n2=>zah fun b3 g3 r3 e3 n3=>zah fun b4 g4 r4 e4 n4=>zah fun b5 g5 r5 e5 n5=>?_
 have k1:=zau r1
 have k2:=zau r2
 have k3:=zau r3
 have k4:=zau r4
 have k5:=zau r5
 have s1:=e1.1
 have s2:=e2.1
 have s3:=e3.1
 have s4:=e4.1
 have s5:=e5.1
 have E5:Ext h g5:=e1.trans (e2.trans (e3.trans (e4.trans e5)))
 have r1:=(e2.trans (e3.trans (e4.trans e5))).row r1
 have r2:=(e3.trans (e4.trans e5)).row r2
 have r3:=(e4.trans e5).row r3
 have r4:=e5.row r4
 have c0:zag g5 ⟨b1,0,none⟩=some (.int .i64 v.state):=zad r1
 -- what is told
 have tail:∀{g:Heap} {Zi:Nat→Prop} {cs' ds':List Value} {v':VD} {d':QD} {ev:EvD},g[b3]? =some (.cells cs'.toArray 81 (0,0))→g[b4]? =some (.cells ds'.toArray 75 (0,0))→g[b5]? =some (.cells #[.int .i64 0,.int .i64 0,.int .i64 0,.int .i64 0] 90 (0,0))→Ext h g→rVD.R Zi g cs' v'→rQ.R Zi g ds' d'→
   (∀c,Zi c→(Z c∨h.size≤c)∧c≠b5)→stepV M v d=(v',d',ev)→
   stK 4 (ptr b5) (evV ev) g fun _ g3=>vK (ldsV 3 g3 (ptr b3)) fun v23=>vK (ldsV 3 g3 (ptr b4)) fun v24=>vK (ldsV 4 g3 (ptr b5)) fun v25=>∃cs' ds':List Value,Value.tuple #[v23,v24,v25]=.tuple #[.agg cs'.toArray,.agg ds'.toArray,evV (stepV M v d).2.2]∧rVD.R (fun c=>Z c∨(h.size≤c∧c<g3.size)) g3 cs' (stepV M v d).1∧rQ.R (fun c=>Z c∨(h.size≤c∧c<g3.size)) g3 ds' (stepV M v d).2.1∧Ext h g3:=by
  intro g Zi cs' ds' v' d' ev q3 q4 q5 E R1 R2 hz he
  refine zaP (l:=[.int .i64 ev.1,.int .i64 ev.2.1,.int .i64 ev.2.2.1,.int .i64 ev.2.2.2]) q5 rfl (zac rfl (zac rfl (zac rfl (zac rfl zal)))) rfl fun g3 q u=>?_
  rw[zao (u.row (by omega) q3) 3 (rVD.len R1),zaa,zao (u.row (by omega) q4) 3 (rQ.len R2),zaa,zao (l:=[.int .i64 ev.1,.int .i64 ev.2.1,.int .i64 ev.2.2.1,.int .i64 ev.2.2.2]) q 4 rfl,zaa,he]
  exact⟨cs',ds',rfl,rVD.mono (rVD.fr R1 u.fr fun c _ hc=>(hz c hc).2) fun c hc hi=>(hz c hi).1.imp id fun h=>⟨h,hc⟩,rQ.mono (rQ.fr R2 u.fr fun c _ hc=>(hz c hc).2) fun c hc hi=>(hz c hi).1.imp id fun h=>⟨h,hc⟩,E.upd (by omega) u⟩
 have hv0:rVD.R Z h [.int .i64 v.state,tv,lv] v:=⟨tv,lv,rfl,HT,HL,hcap⟩
 have onv:=rVD.one hv0
 have zn:∀c,Z c→(Z c∨h.size≤c)∧c≠b5:=fun c hc=>⟨.inl hc,fun he=>by have:=zl c hc;omega⟩
 have fE:fillL #[(.int .i64 0),(.int .i64 0),(.int .i64 0),(.int .i64 0)] []=some #[.int .i64 0,.int .i64 0,.int .i64 0,.int .i64 0]:=rfl
 have fL:fillL #[(.int .i64 0),(.int .i64 0),(.int .i64 0),(.int .i64 0)] [(0,1,.int .i64 3)]=some #[.int .i64 3,.int .i64 0,.int .i64 0,.int .i64 0]:=rfl
 have lq3:ds.length=3:=lq
 simp only[go_sem,Nat.zero_add,c0]
 refine zab (fun g20=>?_) (fun g20=>?_)
 ·refine zap (Fr (fun c=>c=b3) g5) (Fr.refl _ _) ?_
  refine zaf (.agg [.int .i64 v.state,tv,lv].toArray) (fun g f=>zao (l:=[.int .i64 v.state,tv,lv]) (f.row r1 (by omega)) 3 rfl) ?_
  refine zaf (.agg ds.toArray) (fun g f=>zao (f.row r2 (by omega)) 3 lq) ?_
  simp only[fE,zav,zaa]
  refine zaP (l:=[.int .i64 v.state,tv,lv]) r3 rfl onv rfl fun g6 q6 u6=>⟨u6.fr,?_⟩
  refine zaP (l:=ds) (u6.row (by omega) r4) (by rw[lq3];rfl) oq lq3 fun g7 q7 u7=>?_
  have E7:Ext h g7:=(E5.upd (by omega) u6).upd (by omega) u7
  exact tail (ev:=(0,0,0,0)) (u7.row (by omega) q6) q7 (u7.row (by omega) (u6.row (by omega) r5)) E7 (rVD.ext hv0 E7) (rQ.ext HQ0 E7) zn (by unfold stepV;rw[if_pos g20])
 try simp only[go_sem,Nat.zero_add,c0]
 have c1:zag g5 ⟨b1,1,none⟩=some tv:=zad r1
 have c2:zag g5 ⟨b1,2,none⟩=some lv:=zad r1
 refine zab (fun g21=>?_) (fun g21=>?_)
 ·obtain⟨ht0,hl0⟩:=h1 g21
  obtain⟨at_,ct,et⟩:=HT.isSl
  have elt:zae tv=some (.int .i64 (v.tiles.length:Int)):=by rw[et];rfl
  have hl1:0<v.tiles.length:=List.length_pos_iff.2 ht0
  cases hvl:v.left with
  |nil=>exact absurd hvl hl0
  | cons x xs=>
   rw[hvl]at HL
   obtain⟨pl,cl,q1,q2,q3⟩:=(HL.ext E5).atw (show 0<2 by omega) (k:=.i64) (i:=0) (by simp)
   have q1:idxV 2 lv (.int .i64 0)=some pl:=q1
   have q2:ldsV 2 g5 pl=some (.agg cl.toArray):=q2
   have q3:cl=[.int .i64 x.1,.int .i64 x.2]:=q3
   subst q3
   obtain⟨pt,p1,p2⟩:=(HT.ext E5).int_at (k':=.i64) (i:=v.tiles.length-1) (by omega)
   have p1:idxV 1 tv (.int .i64 ((v.tiles.length:Int)-1))=some pt:=by rw[show(v.tiles.length:Int)-1=((v.tiles.length-1:Nat):Int)by omega];exact p1
   obtain⟨lv',w1,w2,w3⟩:=Rp.Sl.tl HL hcap (k:=.i64)
   have w1:slcV 2 lv (some (.int .i64 1)) none=some lv':=w1
   have rdl:∀g,Ext g5 g→ldsV 2 g pl=some (.agg [.int .i64 x.1,.int .i64 x.2].toArray):=fun g e=>by
    obtain⟨p',c',a1,a2,a3⟩:=(HL.ext (E5.trans e)).atw (show 0<2 by omega) (k:=.i64) (i:=0) (by simp)
    have a1:idxV 2 lv (.int .i64 0)=some p':=a1
    rw[q1]at a1
    cases a1
    have a3:c'=[.int .i64 x.1,.int .i64 x.2]:=a3
    subst a3
    exact a2
   have rdt:∀g,Ext g5 g→ldV g pt=some (.int .i64 (v.tiles.getLast?.getD 0)):=fun g e=>by
    obtain⟨p',a1,a2⟩:=(HT.ext (E5.trans e)).int_at (k':=.i64) (i:=v.tiles.length-1) (by omega)
    have a1:idxV 1 tv (.int .i64 ((v.tiles.length:Int)-1))=some p':=by rw[show(v.tiles.length:Int)-1=((v.tiles.length-1:Nat):Int)by omega];exact a1
    rw[p1]at a1
    cases a1
    rw[a2,List.getLast?_eq_getElem?,List.getElem?_eq_getElem];rfl
   refine zap (Ext g5) (Ext.refl _) ?_
   try simp only[go_sem,Nat.zero_add]
   refine zaf tv (fun g e=>e.cell c1) ?_
   try simp only[go_sem,Nat.zero_add]
   refine zaf tv (fun g e=>e.cell c1) ?_
   refine zaf (.int .i64 (v.tiles.length:Int)) (fun _ _=>elt) ?_
   simp only[go_sem]
   rw[w64 (n:=(v.tiles.length:Int)-1) (by omega) (by omega),p1,zaa]
   refine zaf (.int .i64 (v.tiles.getLast?.getD 0)) rdt ?_
   try simp only[go_sem,Nat.zero_add]
   refine zaf lv (fun g e=>e.cell c2) ?_
   rw[q1,zaa]
   refine zaf (.agg [.int .i64 x.1,.int .i64 x.2].toArray) rdl ?_
   have hf:∀z a b:Int,fillL #[(.int .i64 0),(.int .i64 0),(.int .i64 0),(.int .i64 0)] [(0,1,.int .i64 2),(1,1,.int .i64 z),(2,2,.agg [.int .i64 a,.int .i64 b].toArray)]=some #[.int .i64 2,.int .i64 z,.int .i64 a,.int .i64 b]:=fun _ _ _=>rfl
   rw[hf,zav,zaa]
   refine zah fun b6 g6 r6 e6 n6=>⟨e6,?_⟩
   have s6:=e6.1
   refine zaP (l:=[.int .i64 2,.int .i64 (v.tiles.getLast?.getD 0),.int .i64 x.1,.int .i64 x.2]) r6 rfl (zac rfl (zac rfl (zac rfl (zac rfl zal)))) rfl fun g7 q7 u7=>?_
   have q17:g7[b1]? =some (.cells [.int .i64 v.state,tv,lv].toArray 81 (0,0)):=u7.row (by omega) (e6.row r1)
   have c27:zag g7 ⟨b1,2,none⟩=some lv:=zad q17
   simp only[go_sem,Nat.zero_add,c27,w1]
   refine zaA q17 (by simp) w2.one fun g8 q8 u8=>?_
   have q8:g8[b1]? =some (.cells [.int .i64 v.state,tv,lv'].toArray 81 (0,0)):=q8
   obtain⟨al,cl',el'⟩:=w2.isSl
   have ell:zae lv'=some (.int .i64 (xs.length:Int)):=by rw[el'];rfl
   have c28:zag g8 ⟨b1,2,none⟩=some lv':=zad q8
   have s7:=u7.1
   have s8:=u8.1
   have nb6:g5.size≤b6:=n6
   refine zat (fun ys g=>ys=[]∧g[b1]? =some (.cells [.int .i64 (if xs=[]then 0 else 1),tv,lv'].toArray 81 (0,0))∧Fr (fun c=>c=b1) g8 g) ?_ ?_
   ·simp only[go_sem,Nat.zero_add,c28,ell]
    refine zab (fun g0=>?_) (fun g0=>?_)
    ·refine zaA q8 (by simp) rfl fun g9 q9 u9=>⟨trivial,?_,u9.fr⟩
     rw[if_pos (List.eq_nil_of_length_eq_zero (by omega))]
     exact q9
    ·refine⟨trivial,?_,Fr.refl _ _⟩
     rw[if_neg (fun h0=>by rw[h0]at g0;exact g0 rfl),←g21]
     exact q8
   ·rintro ys ρ g9 ⟨rfl,q9,f9⟩
    have s9:=f9.1
    have keep:∀{b:Nat} {o:Obj},b≠b1→b≠b6→g5[b]? =some o→g9[b]? =some o:=fun h1 h6 r=>f9.row (u8.row h1 (u7.row h6 (e6.row r))) h1
    have r29:=keep (show b2≠b1 by omega) (show b2≠b6 by omega) r2
    have r39:=keep (show b3≠b1 by omega) (show b3≠b6 by omega) r3
    have r49:=keep (show b4≠b1 by omega) (show b4≠b6 by omega) r4
    have r59:=keep (show b5≠b1 by omega) (show b5≠b6 by omega) r5
    have r69:=f9.row (u8.row (show b6≠b1 by omega) q7) (show¬b6=b1 by omega)
    have E9:Ext h g9:=(((E5.trans e6).upd (by omega) u7).upd (by omega) u8).then_fr f9 fun c hc=>by rw[show c=b1 from hc];omega
    refine zap (Fr (fun c=>c=b3∨c=b4) g9) (Fr.refl _ _) ?_
    refine zaf (.agg [.int .i64 (if xs=[]then 0 else 1),tv,lv'].toArray) (fun g f=>zao (l:=[.int .i64 (if xs=[]then 0 else 1),tv,lv']) (f.row q9 (by omega)) 3 rfl) ?_
    refine zaf (.agg ds.toArray) (fun g f=>zao (f.row r29 (by omega)) 3 lq) ?_
    refine zaf (evV (2,v.tiles.getLast?.getD 0,x.1,x.2)) (fun g f=>zao (l:=[.int .i64 2,.int .i64 (v.tiles.getLast?.getD 0),.int .i64 x.1,.int .i64 x.2]) (f.row r69 (by omega)) 4 rfl) ?_
    refine zaP (l:=[.int .i64 (if xs=[]then 0 else 1),tv,lv']) r39 rfl (zac rfl (zac HT.one (zac w2.one zal))) rfl fun g10 q10 u10=>⟨u10.fr.mono fun c _ hc=>.inl hc,?_⟩
    refine zaP (l:=ds) (u10.row (by omega) r49) (by rw[lq3];rfl) oq lq3 fun g11 q11 u11=>⟨(u10.fr.mono fun c _ hc=>.inl hc).trans (u11.fr.mono fun c _ hc=>.inr hc),?_⟩
    have E11:Ext h g11:=(E9.upd (by omega) u10).upd (by omega) u11
    obtain⟨lv2,z1,z2,z3⟩:=Rp.Sl.tl (HL.ext E11) hcap (k:=.i64)
    have z1:slcV 2 lv (some (.int .i64 1)) none=some lv2:=z1
    rw[w1]at z1
    cases z1
    exact tail (ev:=(2,v.tiles.getLast?.getD 0,x.1,x.2)) (u11.row (by omega) q10) q11 (u11.row (by omega) (u10.row (by omega) r59)) E11 (⟨tv,lv',rfl,HT.ext E11,z2,z3⟩:rVD.R Z g11 _ ⟨if xs=[]then 0 else 1,v.tiles,xs⟩) (rQ.ext HQ0 E11) zn (by unfold stepV;rw[if_neg (by omega),if_pos g21,hvl];rfl)
 ·rw [zao r2 3 lq,zaa]
  refine(c_r18Receive (rQ.ext HQ E5)).mono fun rr g6 ⟨ds',er,R6,e6⟩=>?_
  subst er
  have x0:extV (.tuple #[.agg ds'.toArray,.int .i64 (recvX d),.int .i64 (recvR d)]) 0=some (.agg ds'.toArray):=rfl
  have x1:extV (.tuple #[.agg ds'.toArray,.int .i64 (recvX d),.int .i64 (recvR d)]) 1=some (.int .i64 (recvX d)):=rfl
  have x2:extV (.tuple #[.agg ds'.toArray,.int .i64 (recvX d),.int .i64 (recvR d)]) 2=some (.int .i64 (recvR d)):=rfl
  simp only[go_sem,x0,x1,x2]
  have oq':=rQ.one R6
  have lq':ds'.length=3:=rQ.len R6
  refine za0 (cs:=ds') (by rw[lq'];rfl) oq' lq' fun b6 g7 r7 e7 n7=>?_
  have E67:=e6.trans e7
  have E7:Ext h g7:=E5.trans E67
  have s6:=e6.1
  have s7:=e7.1
  have nb6:g5.size≤b6:=by omega
  have r17:=E67.row r1
  have r27:=E67.row r2
  have r37:=E67.row r3
  have r47:=E67.row r4
  have r57:=E67.row r5
  refine zab (fun q1=>?_) (fun q1=>?_)
  ·refine zap (Fr (fun c=>c=b3) g7) (Fr.refl _ _) ?_
   refine zaf (.agg [.int .i64 v.state,tv,lv].toArray) (fun g f=>zao (l:=[.int .i64 v.state,tv,lv]) (f.row r17 (by omega)) 3 rfl) ?_
   refine zaf (.agg ds.toArray) (fun g f=>zao (f.row r27 (by omega)) 3 lq) ?_
   simp only[fE,zav,zaa]
   refine zaP (l:=[.int .i64 v.state,tv,lv]) r37 rfl onv rfl fun g8 q8 u8=>⟨u8.fr,?_⟩
   refine zaP (l:=ds) (u8.row (by omega) r47) (by rw[lq3];rfl) oq lq3 fun g9 q9 u9=>?_
   have E9:Ext h g9:=(E7.upd (by omega) u8).upd (by omega) u9
   exact tail (ev:=(0,0,0,0)) (u9.row (by omega) q8) q9 (u9.row (by omega) (u8.row (by omega) r57)) E9 (rVD.ext hv0 E9) (rQ.ext HQ0 E9) zn (by unfold stepV;rw[if_neg g20,if_neg g21,if_pos q1])
  try simp only[go_sem]
  refine zab (fun q2=>?_) (fun q2=>?_)
  ·try simp only[go_sem,Nat.zero_add]
   refine zaA r17 (by simp) rfl fun g8 q8 u8=>?_
   have q8:g8[b1]? =some (.cells [.int .i64 2,tv,lv].toArray 81 (0,0)):=q8
   have s8:=u8.1
   refine zap (Fr (fun c=>c=b3) g8) (Fr.refl _ _) ?_
   refine zaf (.agg [.int .i64 2,tv,lv].toArray) (fun g f=>zao (l:=[.int .i64 2,tv,lv]) (f.row q8 (by omega)) 3 rfl) ?_
   refine zaf (.agg ds.toArray) (fun g f=>zao (f.row (u8.row (by omega) r27) (by omega)) 3 lq) ?_
   simp only[fL,zav,zaa]
   refine zaP (l:=[.int .i64 2,tv,lv]) (u8.row (by omega) r37) rfl (zac rfl (zac HT.one (zac HL.one zal))) rfl fun g9 q9 u9=>⟨u9.fr,?_⟩
   refine zaP (l:=ds) (u9.row (by omega) (u8.row (by omega) r47)) (by rw[lq3];rfl) oq lq3 fun g10 q10 u10=>?_
   have E10:Ext h g10:=((E7.upd (by omega) u8).upd (by omega) u9).upd (by omega) u10
   exact tail (ev:=(3,0,0,0)) (u10.row (by omega) q9) q10 (u10.row (by omega) (u9.row (by omega) (u8.row (by omega) r57))) E10 (⟨tv,lv,rfl,HT.ext E10,HL.ext E10,hcap⟩:rVD.R Z g10 _ {v with state:=2}) (rQ.ext HQ0 E10) zn (by unfold stepV;rw[if_neg g20,if_neg g21,if_neg q1,if_pos q2])
  refine zbI (c':=#[]) rfl fun b7 g8 r8 e8 n8=>?_
  have s8:=e8.1
  have c18:zag g8 ⟨b1,1,none⟩=some tv:=zad (e8.row r17)
  simp only[go_sem,Nat.zero_add,c18]
  refine copy_push (HT.ext E7) (by omega) r8 e8 n8 fun u g9 N9=>?_
  have s9:=N9.2.1.1
  have r19:=N9.2.1.row r17
  refine zaA r19 (by simp) N9.sl.one fun g10 q10 u10=>?_
  have s10:=u10.1
  refine zaA q10 (by simp) rfl fun g11 q11 u11=>?_
  have q11:g11[b1]? =some (.cells [.int .i64 v.state,u,.slice none 0 0].toArray 81 (0,0)):=q11
  have s11:=u11.1
  have E11:Ext h g11:=((E7.trans N9.2.1).upd (by omega) u10).upd (by omega) u11
  have F11:Fr (fun c=>c=b1) g9 g11:=u10.fr.trans u11.fr
  have nu:∀c,blk u c→g7.size≤c:=N9.2.2
  have U11:Rp.Sl (Rp.int .i64) (blk u) g11 u (v.tiles++[recvX d]):=N9.sl.fr F11 fun c _ hc he=>by have:=nu c hc;have he:c=b1:=he;omega
  have hr0:recvR d=0:=by
   have hh:recvR d=0∨recvR d=1∨recvR d=2:=by
    unfold recvR
    split
    ·split<;>simp
    ·simp
   omega
  have hmb:∀{b:Nat},b<h.size→¬b=b1:=fun hb he=>by omega
  obtain⟨am,cm,em⟩:=HM.isSl
  have elm:zae mv=some (.int .i64 (M.length:Int)):=by rw[em];rfl
  refine zat (fun ys g=>ys=[]∧∃lv2,g[b1]? =some (.cells [.int .i64 v.state,u,lv2].toArray 81 (0,0))∧Rp.Sl rMove Z g lv2 (zdy M (recvX d))∧Rp.SlCap lv2∧Fr (fun c=>c=b1) g11 g) ?_ ?_
  ·simp only[go_sem,elm]
   refine zab (fun g0=>?_) (fun g0=>?_)
   ·obtain⟨k,hk⟩:∃k:Nat,(k:Int)=recvX d:=⟨(recvX d).toNat,by omega⟩
    have hkl:k<M.length:=by omega
    obtain⟨pm,cc,a1,a2,lv2,a3,a4,a5⟩:=(HM.ext E11).at1 rfl (k:=.i64) hkl
    cases a3
    rw[←hk,a1,zaa,a2,zaa]
    try simp only[go_sem,Nat.zero_add]
    refine zaA q11 (by simp) a4.one fun g12 q12 u12=>⟨trivial,_,q12,?_,a5,u12.fr⟩
    have e0:zdy M (k:Int)=M[k]:=by unfold zdy;rw[if_pos (by omega),Int.toNat_natCast,List.getD_eq_getElem?_getD,List.getElem?_eq_getElem hkl];rfl
    rw[e0]
    exact a4.fr u12.fr fun c _ hz=>hmb (zl c hz)
   ·refine⟨trivial,.slice none 0 0,q11,?_,⟨_,_,_,rfl,Nat.le_refl _⟩,Fr.refl _ _⟩
    have e0:zdy M (recvX d)=[]:=by
     unfold zdy
     split
     ·rw[List.getD_eq_getElem?_getD,List.getElem?_eq_none (by omega)];rfl
     ·rfl
    rw[e0]
    exact Rp.Sl.nil
  ·rintro ys ρ g12 ⟨rfl,lv2,q12,L12,cap12,f12⟩
   have s12:=f12.1
   obtain⟨a2,cl2,el2⟩:=L12.isSl
   have ell:zae lv2=some (.int .i64 ((zdy M (recvX d)).length:Int)):=by rw[el2];rfl
   have c212:zag g12 ⟨b1,2,none⟩=some lv2:=zad q12
   refine zat (fun ys g=>ys=[]∧g[b1]? =some (.cells [.int .i64 (if zdy M (recvX d)=[]then v.state else 1),u,lv2].toArray 81 (0,0))∧Fr (fun c=>c=b1) g12 g) ?_ ?_
   ·simp only[go_sem,Nat.zero_add,c212,ell]
    refine zab (fun g0=>?_) (fun g0=>?_)
    ·refine zaA q12 (by simp) rfl fun g13 q13 u13=>⟨trivial,?_,u13.fr⟩
     rw[if_neg (fun h0=>by rw[h0]at g0;exact absurd g0 (by simp))]
     exact q13
    ·refine⟨trivial,?_,Fr.refl _ _⟩
     rw[if_pos (List.eq_nil_of_length_eq_zero (by omega))]
     exact q12
   ·rintro ys ρ g13 ⟨rfl,q13,f13⟩
    have s13:=f13.1
    have ff:Fr (fun c=>c=b1) g11 g13:=f12.trans f13
    have keep:∀{b:Nat} {o:Obj},b≠b1→g7[b]? =some o→g13[b]? =some o:=fun h1 r=>ff.row (F11.row (N9.2.1.row r) h1) h1
    have E13:Ext h g13:=E11.then_fr ff fun c hc=>by rw[show c=b1 from hc];omega
    have U13:Rp.Sl (Rp.int .i64) (blk u) g13 u (v.tiles++[recvX d]):=U11.fr ff fun c _ hc he=>by have:=nu c hc;have he:c=b1:=he;omega
    have L13:Rp.Sl rMove Z g13 lv2 (zdy M (recvX d)):=L12.fr f13 fun c _ hz=>hmb (zl c hz)
    have r63:=keep (show b6≠b1 by omega) r7
    have r33:=keep (show b3≠b1 by omega) r37
    have r43:=keep (show b4≠b1 by omega) r47
    have r53:=keep (show b5≠b1 by omega) r57
    refine zap (Fr (fun c=>c=b3) g13) (Fr.refl _ _) ?_
    refine zaf (.agg [.int .i64 (if zdy M (recvX d)=[]then v.state else 1),u,lv2].toArray) (fun g f=>zao (l:=[.int .i64 (if zdy M (recvX d)=[]then v.state else 1),u,lv2]) (f.row q13 (by omega)) 3 rfl) ?_
    refine zaf (.agg ds'.toArray) (fun g f=>zao (f.row r63 (by omega)) 3 lq') ?_
    have hf:∀z:Int,fillL #[(.int .i64 0),(.int .i64 0),(.int .i64 0),(.int .i64 0)] [(0,1,.int .i64 1),(1,1,.int .i64 z)]=some #[.int .i64 1,.int .i64 z,.int .i64 0,.int .i64 0]:=fun _=>rfl
    rw[hf,zav,zaa]
    refine zaP (l:=[.int .i64 (if zdy M (recvX d)=[]then v.state else 1),u,lv2]) r33 rfl (zac rfl (zac U13.one (zac L13.one zal))) rfl fun g14 q14 u14=>⟨u14.fr,?_⟩
    refine zaP (l:=ds') (u14.row (by omega) r43) (by rw[lq'];rfl) oq' lq' fun g15 q15 u15=>?_
    have E15:Ext h g15:=(E13.upd (by omega) u14).upd (by omega) u15
    have ap:∀{c b:Nat},(Z c∨blk u c)→h.size≤b→b<g7.size→¬c=b:=fun hc h1 h2 he=>hc.elim (fun h=>by have:=zl _ h;omega) fun h=>by have:=nu _ h;omega
    have FF:Fr (fun c=>c=b3∨c=b4) g13 g15:=(u14.fr.mono fun c _ hc=>.inl hc).trans (u15.fr.mono fun c _ hc=>.inr hc)
    have ap2:∀c,(Z c∨blk u c)→¬(c=b3∨c=b4):=fun c hc h=>h.elim (ap hc (by omega) (by omega)) (ap hc (by omega) (by omega))
    have RQ:rQ.R (fun c=>Z c∨blk u c) g15 ds' (recvQ d):=(rQ.mono (rQ.fr (rQ.fr (rQ.ext (rQ.ext R6 e7) N9.2.1) (F11.trans ff) fun c _ hz=>hmb (zl c hz)) FF fun c _ hz=>ap2 c (.inl hz)) fun c _ hz=>.inl hz)
    exact tail (Zi:=fun c=>Z c∨blk u c) (ev:=(1,recvX d,0,0)) (u15.row (by omega) q14) q15 (u15.row (by omega) (u14.row (by omega) r53)) E15
     (⟨u,lv2,rfl,(U13.fr FF fun c _ hc=>ap2 c (.inr hc)).mono fun c _ hc=>.inr hc,(L13.fr FF fun c _ hc=>ap2 c (.inl hc)).mono fun c _ hc=>.inl hc,cap12⟩:rVD.R _ g15 _ ⟨if zdy M (recvX d)=[]then v.state else 1,v.tiles++[recvX d],zdy M (recvX d)⟩) RQ
     (fun c hc=>⟨hc.imp id fun h=>by have:=nu c h;omega,ap hc (by omega) (by omega)⟩) (by unfold stepV;rw[if_neg g20,if_neg g21,if_neg q1,if_neg q2])
end
end
theorem c_r14MostW {h:Heap}{Z:Nat→Prop}{v:Value}{l:List (Int×List Int)}(H:Rp.Sl rLine Z h v l)(hl:l.length≤1000000000):FCall prog zio #[v] h fun r h'=>(∃n,r=.int .i64 n)∧Ext h h':=by
 apply zqb
 unfold zkf
 obtain⟨av,cv,ev⟩:=H.isSl
 have el:zae v=some (.int .i64 (l.length:Int)):=by rw[ev];rfl
 rw[el,zaa]
 refine zaE (α:=Int) l.length 0 (fun i s=>[.int .i64 s,.int .i64 (i:Int)]) (fun i s g=>Ext h g) 0 rfl (Nat.zero_le _) (Ext.refl _) fun i s g again ρ _ hi E Hag=>?_
 simp only[ix_0,ix_1]
 rw[zbJ,zaa]
 refine zab (fun g1=>?_) (fun g1=>?_)
 ·have hi':i<l.length:=by omega
  have hw':(i:Int)+1=((i+1:Nat):Int):=by omega
  obtain⟨pt,cs,q1,q2,u,q3,q4⟩:=(H.ext E).atw (show 0<2 by omega) (k:=.i64) (i:=i) hi'
  have q1:idxV 2 v (.int .i64 (i:Int))=some pt:=q1
  have q2:ldsV 2 g pt=some (.agg cs.toArray):=q2
  subst q3
  rw[q1,zaa,q2,zaa]
  refine za0 (cs:=[.int .i64 l[i].1,u]) rfl (zac rfl (zac q4.one zal)) rfl fun b5 g5 r5 e5 n5=>?_
  have c1:zag g5 ⟨b5,1,none⟩=some u:=zad r5
  obtain⟨au,cu,eu⟩:=q4.isSl
  have eu2:zae u=some (.int .i64 (l[i].2.length:Int)):=by rw[eu];rfl
  simp only[go_sem,Nat.zero_add,c1,eu2]
  refine zab (fun g2=>?_) (fun g2=>?_)
  ·rw[w64 (n:=(i:Int)+1) (by omega) (by omega),hw']
   exact Hag _ g5 hi' (E.trans e5)
  ·rw[w64 (n:=(i:Int)+1) (by omega) (by omega),hw']
   exact Hag s g5 hi' (E.trans e5)
 ·exact⟨⟨s,rfl⟩,E⟩
theorem fill_r14 (a b c d e f:Int):fillL #[(.int .i64 0),(.int .i64 0),(.int .i64 0),(.int .i64 0),(.int .i64 0),(.int .i64 0),(.int .i64 0),(.int .i64 0),(.int .i64 0),(.int .i64 0)] [(0,1,Value.int .i64 a),(1,1,.int .i64 b),(2,1,.int .i64 c),(3,1,.int .i64 d),(4,1,.int .i64 e),(9,1,.int .i64 f)]=
  some [Value.int .i64 a,.int .i64 b,.int .i64 c,.int .i64 d,.int .i64 e,.int .i64 0,.int .i64 0,.int .i64 0,.int .i64 0,.int .i64 f].toArray:=by
 refine(zbD (n:=1) (l:=[.int .i64 a]) rfl rfl (by simp)).trans ?_
 refine(zbD (n:=1) (l:=[.int .i64 b]) rfl rfl (by simp[zci])).trans ?_
 refine(zbD (n:=1) (l:=[.int .i64 c]) rfl rfl (by simp[zci])).trans ?_
 refine(zbD (n:=1) (l:=[.int .i64 d]) rfl rfl (by simp[zci])).trans ?_
 refine(zbD (n:=1) (l:=[.int .i64 e]) rfl rfl (by simp[zci])).trans ?_
 refine(zbD (n:=1) (l:=[.int .i64 f]) rfl rfl (by simp[zci])).trans ?_
 rw[zcD]
 simp[wrL]
def zcw (d:PlanD)(N:Nat):List (Int×Int):=(List.range N).map fun i:Nat=>((zaN d i).y,(zaN d i).h)
theorem zp1 (d:PlanD)(k:Nat):zcw d (k+1)=zcw d k++[((zaN d k).y,(zaN d k).h)]:=by simp[zcw,List.range_succ]
theorem c_r14All {h:Heap}{Z:Nat→Prop}{cs:List Value}{d:PlanD}(K:rStg.R Z h cs d.s)(W:d.Wf)(few:∀x∈d.s.x.lines++d.s.y.lines,x.2.length≤1073741824){N:Nat}(hN:(N:Int)=zcf d)(hN2:N≤4096)(hX:1≤d.X)(hY:1≤d.Y):
  FCall prog zjS #[.agg cs.toArray,.int .i64 d.w,.int .i64 d.h] h fun r h'=>New rT14 h h' r (zcw d N):=by
 apply ok_ref14_All
 unfold zmd
 obtain⟨X,Y,rfl,HX,HY⟩:=K
 have hbd:=PlanD.bd W
 have hw:=W.w
 have hh:=W.h
 unfold sideT at hw hh
 have pc:=zeU (n:=d.X) (size:=d.w) (by omega) W.w
 have pr:=zeU (n:=d.Y) (size:=d.h) (by omega) W.h
 obtain⟨A,eA⟩:∃A:Nat,(A:Int)=colsZ d:=⟨(colsZ d).toNat,by have:=pc.1;unfold colsZ;omega⟩
 obtain⟨D,eD⟩:∃D:Nat,(D:Int)=zbN d.Y d.h:=⟨(zbN d.Y d.h).toNat,by have:=pr.1;omega⟩
 have hA1:1≤A:=by have:=pc.2.2 hX;have e:colsZ d=zbN d.X d.w:=rfl;omega
 have hAD:N=D*A:=by
  have:(N:Int)=((D*A:Nat):Int):=by rw[hN,Int.natCast_mul,eA,eD,Int.mul_comm];rfl
  omega
 simp only[zaJ]
 refine zah fun b1 h1 r1 e1 n1=>?_
 obtain⟨ax,cx,ex⟩:=HX.isSl
 obtain⟨ay,cy,ey⟩:=HY.isSl
 have elx:zae X=some (.int .i64 d.X):=by rw[ex];rfl
 have ely:zae Y=some (.int .i64 d.Y):=by rw[ey];rfl
 have hcol:∀i:Nat,(i:Int)*d.w<d.X↔i<A:=fun i=>by rw[parts_lt hw.1];show(i:Int)<colsZ d↔_;omega
 have hrow:∀j:Nat,(j:Int)*d.h<d.Y↔j<D:=fun j=>by rw[parts_lt hh.1];omega
 refine zaE (α:=Value) D 0 (fun j v=>[v,.int .i64 ((j:Int)*d.h)]) (fun j v g=>New rT14 h1 g v (zcw d (j*A))) (.slice none 0 0) (by rw[show((0:Nat):Int)*d.h=0 by omega]) (Nat.zero_le _) (by rw[Nat.zero_mul];exact New.nil (Ext.refl _)) fun j v g again ρ _ hj NT Hag=>?_
 have c1:zag g ⟨b1,1,none⟩=some Y:=zad (NT.2.1.row r1)
 simp only[ix_0,ix_1,go_sem,Nat.zero_add,c1,ely]
 refine zab (fun g1=>?_) (fun g1=>?_)
 ·have hj':j<D:=(hrow j).1 g1
  have hjA:(j+1)*A≤N:=by rw[hAD];exact Nat.mul_le_mul_right _ hj'
  rw[Nat.add_mul,Nat.one_mul]at hjA
  have hj0:0≤(j:Int)*d.h:=Int.mul_nonneg (by omega) (by omega)
  refine zaE (α:=Value) A 0 (fun i v=>[v,.int .i64 ((i:Int)*d.w)]) (fun i v g=>New rT14 h1 g v (zcw d (j*A+i))) v (by rw[show((0:Nat):Int)*d.w=0 by omega]) (Nat.zero_le _) NT fun i v2 g2 again2 ρ2 _ hi N2 Hag2=>?_
  have c0:zag g2 ⟨b1,0,none⟩=some X:=zad (N2.2.1.row r1)
  simp only[ix_0,ix_1,go_sem,Nat.zero_add,c0,elx]
  refine zab (fun g3=>?_) (fun g3=>?_)
  ·have hi':i<A:=(hcol i).1 g3
   have hi0:0≤(i:Int)*d.w:=Int.mul_nonneg (by omega) (by omega)
   obtain⟨a2,cc2,e2⟩:=N2.sl.isSl
   have hl2:(zcw d (j*A+i)).length=j*A+i:=by simp[zcw]
   have el2:zae v2=some (.int .i64 ((j*A+i:Nat):Int)):=by rw[e2,hl2];rfl
   have c1':zag g2 ⟨b1,1,none⟩=some Y:=zad (N2.2.1.row r1)
   simp only[el2,zaa,go_sem,Nat.zero_add,c1']
   refine(c_r14MostW (HY.ext (e1.trans N2.2.1)) (by have e:d.Y=d.s.y.lines.length:=rfl;omega)).mono fun rr g4 ⟨⟨top,er⟩,e4⟩=>?_
   subst er
   have N4:=N2.ext e4
   have r14:=N4.2.1.row r1
   rw[fill_r14,zav,zaa]
   have on10:∀a b c d' e f g k l m:Int,∀v∈[Value.int .i64 a,.int .i64 b,.int .i64 c,.int .i64 d',.int .i64 e,.int .i64 f,.int .i64 g,.int .i64 k,.int .i64 l,.int .i64 m],zar v=true:=fun _ _ _ _ _ _ _ _ _ _=>zac rfl (zac rfl (zac rfl (zac rfl (zac rfl (zac rfl (zac rfl (zac rfl (zac rfl (zac rfl zal)))))))))
   refine zah fun bt g5 r5 e5 n5=>?_
   refine zaP r5 rfl (on10 _ _ _ _ _ _ _ _ _ _) rfl fun g6 r6 u6=>?_
   have hs4:=N4.2.1.1
   have hs5:=e5.1
   have hs6:=u6.1
   have lb1:=zau r1
   have nbt:g4.size≤bt:=n5
   have r16:g6[b1]? =some (.cells [X,Y,.int .i64 d.s.x.n,.int .i64 d.s.y.n,.int .i64 d.s.border].toArray 56 (0,0)):=u6.row (by omega) (e5.row r14)
   have E6:Ext g4 g6:=e5.upd nbt u6
   have c06:zag g6 ⟨b1,0,none⟩=some X:=zad r16
   -- the width
   refine zat (fun xs g=>xs=[]∧(∃w',g[bt]? =some (.cells [.int .i64 ((j*A+i:Nat):Int),.int .i64 ((i:Int)*d.w),.int .i64 ((j:Int)*d.h),.int .i64 w',.int .i64 d.h,.int .i64 0,.int .i64 0,.int .i64 0,.int .i64 0,.int .i64 top].toArray 58 (0,0)))∧Fr (fun c=>c=bt) g6 g) ?_ ?_
   ·simp only[go_sem,Nat.zero_add,c06,elx]
    refine zab (fun _=>?_) (fun _=>?_)
    ·refine zaA r6 (by simp) rfl fun g7 r7 u7=>⟨trivial,⟨_,r7⟩,u7.fr⟩
    ·exact⟨trivial,⟨_,r6⟩,Fr.refl _ _⟩
   rintro xs ρ7 g7 ⟨rfl,⟨w',r7⟩,f7⟩
   have hs7:=f7.1
   have r17:=f7.row r16 (show¬b1=bt by omega)
   have c17:zag g7 ⟨b1,1,none⟩=some Y:=zad r17
   -- the height
   have hH:(zaN d ((j*A+i:Nat):Int)).y=(j:Int)*d.h∧(zaN d ((j*A+i:Nat):Int)).h=min d.h (d.Y-(j:Int)*d.h):=by
    have q:((j*A+i:Nat):Int)/colsZ d=(j:Int):=by
     rw[←eA,←Int.natCast_ediv]
     congr 1
     rw[Nat.mul_comm,Nat.mul_add_div (by omega),Nat.div_eq_of_lt hi',Nat.add_zero]
    constructor
    ·show outY d _=_
     unfold outY;rw[q]
    ·show outH d _=_
     unfold outH outY;rw[q]
   refine zat (fun xs g=>xs=[]∧g[bt]? =some (.cells [.int .i64 ((j*A+i:Nat):Int),.int .i64 ((i:Int)*d.w),.int .i64 ((j:Int)*d.h),.int .i64 w',.int .i64 (zaN d ((j*A+i:Nat):Int)).h,.int .i64 0,.int .i64 0,.int .i64 0,.int .i64 0,.int .i64 top].toArray 58 (0,0))∧Fr (fun c=>c=bt) g7 g) ?_ ?_
   ·simp only[go_sem,Nat.zero_add,c17,ely]
    rw[w64 (n:=(j:Int)*d.h+d.h) (by omega) (by omega)]
    refine zab (fun g8=>?_) (fun g8=>?_)
    ·rw[w64 (n:=d.Y-(j:Int)*d.h) (by omega) (by omega)]
     refine zaA r7 (by simp) rfl fun g9 r9 u9=>⟨trivial,?_,u9.fr⟩
     rw[hH.2,show min d.h (d.Y-(j:Int)*d.h)=d.Y-(j:Int)*d.h by omega]
     exact r9
    ·refine⟨trivial,?_,Fr.refl _ _⟩
     rw[hH.2,show min d.h (d.Y-(j:Int)*d.h)=d.h by omega]
     exact r7
   rintro xs ρ8 g8 ⟨rfl,r8,f8⟩
   have hs8:=f8.1
   have F8:Fr (fun c=>c=bt) g6 g8:=f7.trans f8
   have E8:Ext g4 g8:=E6.then_fr F8 fun c hc=>by have hc:c=bt:=hc;omega
   have r18:=f8.row r17 (show¬b1=bt by omega)
   have c08:zag g8 ⟨b1,0,none⟩=some X:=zad r18
   have c38:zag g8 ⟨bt,3,none⟩=some (.int .i64 w'):=zad r8
   simp only[go_sem,Nat.zero_add,c08,c38]
   refine(zoe ((HX.ext e1).ext (N4.2.1.trans E8)) (by have e:d.X=d.s.x.lines.length:=rfl;omega) fun x hx=>few x (List.mem_append_left _ hx)).mono fun rr g9 ⟨⟨x1,y1,z1,er⟩,e9⟩=>?_
   subst er
   have x0:∀x y:Int,∀z,extV (.tuple #[.int .i64 x,.int .i64 y,.bool z]) 0=some (.int .i64 x):=fun _ _ _=>rfl
   have x1':∀x y:Int,∀z,extV (.tuple #[.int .i64 x,.int .i64 y,.bool z]) 1=some (.int .i64 y):=fun _ _ _=>rfl
   have x2':∀x y:Int,∀z,extV (.tuple #[.int .i64 x,.int .i64 y,.bool z]) 2=some (.bool z):=fun _ _ _=>rfl
   have r89:=e9.row r8
   have c19:zag g9 ⟨b1,1,none⟩=some Y:=zad (e9.row r18)
   have c49:zag g9 ⟨bt,4,none⟩=some (.int .i64 (zaN d ((j*A+i:Nat):Int)).h):=zad r89
   simp only[go_sem,Nat.zero_add,x0,x1',x2',c19,c49]
   refine(zoe ((HY.ext e1).ext (N4.2.1.trans (E8.trans e9))) (by have e:d.Y=d.s.y.lines.length:=rfl;omega) fun x hx=>few x (List.mem_append_right _ hx)).mono fun rr g10 ⟨⟨x3,y3,z3,er⟩,e10⟩=>?_
   subst er
   have hs9:=e9.1
   have hs10:=e10.1
   simp only[go_sem,Nat.zero_add,x0,x1',x2']
   refine zaA (e10.row r89) (by simp) rfl fun g11 r11 u11=>?_
   try simp only[go_sem,Nat.zero_add]
   refine zaA r11 (by simp) rfl fun g12 r12 u12=>?_
   try simp only[go_sem,Nat.zero_add]
   refine zaA r12 (by simp) rfl fun g13 r13 u13=>?_
   try simp only[go_sem,Nat.zero_add]
   refine zaA r13 (by simp) rfl fun g14 r14' u14=>?_
   have F14:Fr (fun c=>c=bt) g10 g14:=u11.fr.trans (u12.fr.trans (u13.fr.trans u14.fr))
   have E14:Ext g4 g14:=(E8.trans (e9.trans e10)).then_fr F14 fun c hc=>by have hc:c=bt:=hc;omega
   rw[zao (l:=[.int .i64 ((j*A+i:Nat):Int),.int .i64 ((i:Int)*d.w),.int .i64 ((j:Int)*d.h),.int .i64 w',.int .i64 (zaN d ((j*A+i:Nat):Int)).h,.int .i64 x1,.int .i64 x3,.int .i64 (IntKind.i64.wrap (y1-x1)),.int .i64 (IntKind.i64.wrap (y3-x3)),.int .i64 top]) r14' 10 rfl,zaa]
   have N14:=N4.ext E14
   refine Rp.push_ow (e:=rT14) (x:=((zaN d ((j*A+i:Nat):Int)).y,(zaN d ((j*A+i:Nat):Int)).h)) N14.1 ⟨_,_,_,_,_,_,_,_,by rw[hH.1]⟩ rfl rfl (by rw[hl2];omega) (by rw[hl2];omega) (fun _ h=>h.elim) fun v4 g15 o4 f4 n4=>?_
   have hs14:=N14.2.1.1
   have e3:(i:Int)*d.w+d.w=((i+1:Nat):Int)*d.w:=by rw[Int.natCast_add,Int.add_mul];simp
   try simp only[go_sem]
   rw[w64 (n:=(i:Int)*d.w+d.w) (by omega) (by omega),e3]
   refine Hag2 v4 g15 hi' ⟨?_,N14.2.1.then_fr f4 N14.2.2,fun c hc=>(n4 c hc).elim (N14.2.2 c) fun h=>by omega⟩
   rw[←Nat.add_assoc,zp1]
   exact o4
  ·have:i=A:=by
    have:=mt (hcol i).2 g3
    omega
   subst this
   have e3:(j:Int)*d.h+d.h=((j+1:Nat):Int)*d.h:=by rw[Int.natCast_add,Int.add_mul];simp
   rw[w64 (n:=(j:Int)*d.h+d.h) (by omega) (by omega),e3]
   refine Hag v2 g2 hj' ?_
   rw[Nat.add_mul,Nat.one_mul];exact N2
 ·have:j=D:=by
   have:=mt (hrow j).2 g1
   omega
  subst this
  rw[hAD]
  exact⟨NT.1,e1.trans NT.2.1,fun c hc=>Nat.le_trans e1.1 (NT.2.2 c hc)⟩
def zeT (E:WE):Option (TileD×Int×Int)→List (Int×Int)
 |none=>[]
 |some (t,y,e)=>zhC (E.d t) y e
def vOf (E:WE)(w:WD):VD:=⟨w.state,w.tiles,zeT E w.job⟩
def joP (C:C21)(x:Int):Option (TileD×Int×Int):=if 0≤x∧x<zcf C.d then some (jobOf C.d x)else none
def zco (C:C21)(N:Nat):List (List (Int×Int)):=(List.range N).map fun i:Nat=>zeT C.E (some (jobOf C.d i))
theorem zlF {d:JobD}{y e:Int}:zhC d y e=[]↔stepK d y e=0:=by
 rw[←left_pos,←moves_len]
 constructor
 ·intro h;rw[h];rfl
 ·exact List.eq_nil_of_length_eq_zero
theorem znX {E:WE}{jo:Option (TileD×Int×Int)}:zeT E (zba (some E) jo)=zeT E jo∧stJ (zba (some E) jo)=if zeT E jo=[]then 0 else 1:=by
 cases jo with
 |none=>exact⟨rfl,rfl⟩
 | some x=>
  obtain⟨t,y,e⟩:=x
  by_cases h:stepK (E.d t) y e=0
  ·have hs:zba (some E) (some (t,y,e))=none:=if_pos h
   have hl:zeT E (some (t,y,e))=[]:=zlF.2 h
   rw[hs,hl]
   exact⟨rfl,rfl⟩
  ·have hs:zba (some E) (some (t,y,e))=some (t,y,e):=if_neg h
   rw[hs,if_neg (show¬zeT E (some (t,y,e))=[]from fun hl=>h (zlF.1 hl))]
   exact⟨rfl,rfl⟩
theorem left_at {C:C21}{N:Nat}(hN:(N:Int)=zcf C.d)(x:Int):zdy (zco C N) x=zeT C.E (joP C x):=by
 unfold zdy joP
 by_cases h0:0≤x
 ·rw[if_pos h0]
  obtain⟨k,rfl⟩:∃k:Nat,x=(k:Int):=⟨x.toNat,by omega⟩
  rw[Int.toNat_natCast,List.getD_eq_getElem?_getD]
  by_cases h1:k<N
  ·rw[if_pos ⟨h0,by omega⟩]
   unfold zco
   rw[List.getElem?_map,List.getElem?_range h1];rfl
  ·rw[if_neg (by omega)]
   unfold zco
   rw[List.getElem?_eq_none (by simp;omega)];rfl
 ·rw[if_neg h0,if_neg (by omega)];rfl
theorem step_same {C:C21}{N:Nat}(hN:(N:Int)=zcf C.d){w:WD}{d:QD}(h1:(w.state=1∧zg0 (some C.E) w.job∧w.tiles≠[])∨((w.state=0∨w.state=2)∧w.job=none))(he:∀t y e,w.job=some (t,y,e)→e≤lnE C.d.s.y y):
  stepV (zco C N) (vOf C.E w) d=(vOf C.E (stepW (some C.E) (joP C (recvX d)) w d).1,(stepW (some C.E) (joP C (recvX d)) w d).2.1,(stepW (some C.E) (joP C (recvX d)) w d).2.2):=by
 have hrq:recvR d≠0→recvQ d=d:=by
  intro h
  unfold recvR at h
  split at h
  ·rename_i h2
   unfold recvQ
   rw[h2]
   cases d
   simp_all
  ·exact absurd rfl h
 obtain⟨st,tl,jo,wd⟩:=w
 rcases h1 with⟨h1,h2,h3⟩|⟨h1,h2⟩
 ·have h1:st=1:=h1
  subst h1
  cases jo with
  |none=>exact h2.elim
  |some x=>
   obtain⟨t,y,e⟩:=x
   have hk:stepK (C.E.d t) y e≠0:=h2
   have hm:=moves_step (d:=C.E.d t) hk (he t y e rfl)
   obtain⟨e1,e2⟩:=znX (E:=C.E) (jo:=some (t,stepY (C.E.d t) y e,stepE (C.E.d t) y e))
   have hm:zeT C.E (some (t,y,e))=(stepK (C.E.d t) y e,stepJ (C.E.d t) y e)::zhC (C.E.d t) (stepY (C.E.d t) y e) (stepE (C.E.d t) y e):=hm
   have a1:stepV (zco C N) (vOf C.E ⟨1,tl,some (t,y,e),wd⟩) d=(⟨if(zeT C.E (some (t,y,e))).tail=[]then 0 else 1,tl,(zeT C.E (some (t,y,e))).tail⟩,d,(2,tl.getLast?.getD 0,((zeT C.E (some (t,y,e))).headD (0,0)).1,((zeT C.E (some (t,y,e))).headD (0,0)).2)):=rfl
   have a2:stepW (some C.E) (joP C (recvX d)) ⟨1,tl,some (t,y,e),wd⟩ d=(⟨stJ (zba (some C.E) (some (t,stepY (C.E.d t) y e,stepE (C.E.d t) y e))),tl,zba (some C.E) (some (t,stepY (C.E.d t) y e,stepE (C.E.d t) y e)),wd⟩,d,(2,tl.getLast?.getD 0,stepK (C.E.d t) y e,stepJ (C.E.d t) y e)):=rfl
   rw[a1,a2,hm]
   unfold vOf
   simp only[List.tail_cons,List.headD_cons,e1,e2]
   rfl
 ·have h2:jo=none:=h2
  subst h2
  have h1:st=0∨st=2:=h1
  rcases h1 with rfl|rfl
  ·obtain⟨e1,e2⟩:=znX (E:=C.E) (jo:=joP C (recvX d))
   have hl:=left_at hN (recvX d)
   have a1:stepV (zco C N) (vOf C.E ⟨0,tl,none,wd⟩) d=if recvR d=1 then(vOf C.E ⟨0,tl,none,wd⟩,d,(0,0,0,0))else if recvR d=2 then(vOf C.E ⟨2,tl,none,wd⟩,d,(3,0,0,0))else(⟨if zdy (zco C N) (recvX d)=[]then 0 else 1,tl++[recvX d],zdy (zco C N) (recvX d)⟩,recvQ d,(1,recvX d,0,0)):=rfl
   have a2:stepW (some C.E) (joP C (recvX d)) ⟨0,tl,none,wd⟩ d=if recvR d=0 then(tookW (some C.E) ⟨0,tl,none,wd⟩ (recvX d) (joP C (recvX d)),recvQ d,(1,recvX d,0,0))else if recvR d=2 then(⟨2,tl,none,wd⟩,recvQ d,(3,0,0,0))else(⟨0,tl,none,wd⟩,recvQ d,(0,0,0,0)):=rfl
   rw[a1,a2]
   by_cases r0:recvR d=0
   ·rw[if_neg (by omega),if_neg (by omega),if_pos r0]
    unfold tookW vOf
    simp only[hl,e1,e2]
   ·rw [if_neg r0]
    by_cases r2:recvR d=2
    ·rw[if_neg (by omega),if_pos r2,if_pos r2,hrq r0]
    ·have r1:recvR d=1:=by
      have hh:recvR d=0∨recvR d=1∨recvR d=2:=by
       unfold recvR
       split
       ·split<;>simp
       ·simp
      omega
     rw[if_pos r1,if_neg r2,hrq r0]
  ·rfl
theorem c_planTileNo {Z:Nat→Prop}{h:Heap}{b:Nat}{d:PlanD}{p q:Value}(H:zil Z h b d p q)(W:d.Wf){i:Int}(h0:i<0∨zcf d≤i):FCall prog zbR #[ptr b,.int .i64 i] h fun r h'=>(∃cs:List Value,r=.tuple #[.agg cs.toArray,.bool false]∧cs.length=10∧∀v∈cs,zar v=true)∧Ext h h':=by
 apply zgI
 unfold zdT
 refine zah fun b1 h2 r1 e1 n1=>?_
 have fin:vK ((fillL #[(.int .i64 0),(.int .i64 0),(.int .i64 0),(.int .i64 0),(.int .i64 0),(.int .i64 0),(.int .i64 0),(.int .i64 0),(.int .i64 0),(.int .i64 0)] []).map .agg) fun v10=>stK 10 (ptr b1) v10 h2 fun v11 h12=>vK (ldsV 10 h12 (ptr b1)) fun v13=>(∃cs:List Value,Value.tuple #[v13,(.bool false)]=.tuple #[.agg cs.toArray,.bool false]∧cs.length=10∧∀v∈cs,zar v=true)∧Ext h h12:=by
  have on:∀v∈[Value.int .i64 0,.int .i64 0,.int .i64 0,.int .i64 0,.int .i64 0,.int .i64 0,.int .i64 0,.int .i64 0,.int .i64 0,.int .i64 0],zar v=true:=by decide
  rw[zcD,zav,zaa]
  refine zaP (l:=[Value.int .i64 0,.int .i64 0,.int .i64 0,.int .i64 0,.int .i64 0,.int .i64 0,.int .i64 0,.int .i64 0,.int .i64 0,.int .i64 0]) r1 rfl on rfl fun h3 r3 u3=>?_
  rw[zao (l:=[Value.int .i64 0,.int .i64 0,.int .i64 0,.int .i64 0,.int .i64 0,.int .i64 0,.int .i64 0,.int .i64 0,.int .i64 0,.int .i64 0]) r3 10 rfl,zaa]
  exact⟨⟨_,rfl,rfl,on⟩,e1.upd n1 u3⟩
 rw[zbJ,zaa]
 by_cases hi:i<0
 ·rw[decide_eq_true hi]
  simp only[go_sem]
  exact fin
 ·rw[decide_eq_false hi]
  simp only[go_sem]
  refine FCall.at (c_Count (H.ext e1) W) ?_
  simp only[go_sem]
  rw[decide_eq_true (show i≥zcf d by omega)]
  simp only[go_sem]
  exact fin
section
section
variable {C:C21}{Z:Nat→Prop}{g:Heap}{n:Pic}{x:Int}
theorem op_plays_no (O:C.Ok)(V:C.Env Z g n)(h0:x<0∨zcf C.d≤x):
  clK prog (.func (.func zaM) #[] #[ptr C.bp,ptr C.bm,ptr C.bn,ptr C.bs]) #[.int .i64 x] g fun r g2=>r=.pointer none∧Ext g g2:=by
 rw[clK_4]
 apply zdw
 unfold zck
 obtain⟨t4,m4⟩:=V.vp
 have c0:zag g ⟨C.bp,0,none⟩=some (ptr C.bl):=zad m4
 simp only[go_sem,c0]
 refine(c_planTileNo V.plan O.d h0).mono fun r h3 ⟨⟨cs,er,hl,on⟩,e3⟩=>?_
 subst er
 have x0:extV (.tuple #[.agg cs.toArray,.bool false]) 0=some (.agg cs.toArray):=rfl
 have x1:extV (.tuple #[.agg cs.toArray,.bool false]) 1=some (.bool false):=rfl
 simp only[go_sem,x0,x1]
 refine za0 (cs:=cs) (by rw[hl];rfl) on hl fun b h4 r4 e4 n4=>?_
 try simp only[go_sem]
 exact⟨trivial,e3.trans e4⟩
theorem op_playsP (O:C.Ok)(G:GlobB g)(V:C.Env Z g n)(S:C.suits n):
  clK prog (.func (.func zaM) #[] #[ptr C.bp,ptr C.bm,ptr C.bn,ptr C.bs]) #[.int .i64 x] g fun r g2=>∃Bj,(∀c,Bj c→g.size≤c∧c<g2.size)∧zdl Z Bj g2 (some C.E) n r (joP C x)∧Fr (fun _=>False) g g2∧True:=by
 unfold joP
 by_cases h:0≤x∧x<zcf C.d
 ·rw[if_pos h]
  refine zq0 (op_plays (T:=0) (k:=0) O G V S h.1 h.2) fun r g2 ⟨Bj,k1,k2,k3,_⟩=>⟨Bj,k1,k2,k3.mono (fun c _ hc=>by cases hc),trivial⟩
 ·rw[if_neg h]
  refine zq0 (op_plays_no O V (by omega)) fun r g2 ⟨er,e⟩=>⟨fun _=>False,fun c hc=>hc.elim,er,e.fr,trivial⟩
end
structure Duo (C:C21)(Z X:Nat→Prop)(h0:Heap)(h:Heap)(n:Pic)(ba bb:Nat)(wa wb:WD)(q:QD):Prop where
 ex:∃A B Q,IsW Z A h ba (some C.E) n wa∧IsW Z B h bb (some C.E) n wb∧IsQ Q h C.bq q∧(∀c,A c→¬B c∧¬Q c)∧(∀c,B c→¬Q c)∧(∀c,Q c→¬Z c∧outV (some C.E) c∧¬outB (some C.E) c)∧∀c,A c∨B c∨Q c→h0.size≤c∧¬X c
 env:C.Env Z h n
 sui:C.suits n
 ext:Ext h0 h
section
variable {C:C21}{Z X:Nat→Prop}{h0 h:Heap}{n:Pic}{ba bb:Nat}{wa wb:WD}{q:QD}
theorem Duo.swap (D:Duo C Z X h0 h n ba bb wa wb q):Duo C Z X h0 h n bb ba wb wa q:=by
 obtain⟨⟨A,B,Q,W1,W2,q0,k1,k2,k3,k4⟩,V,su,e⟩:=D
 exact⟨⟨B,A,Q,W2,W1,q0,fun c hc=>⟨fun ha=>(k1 c ha).1 hc,k2 c hc⟩,fun c hc=>(k1 c hc).2,k3,fun c hc=>k4 c (hc.elim (fun h=>.inr (.inl h)) fun h=>h.elim .inl fun h=>.inr (.inr h))⟩,V,su,e⟩
theorem Duo.other {h':Heap}{M X':Nat→Prop}(D:Duo C Z X h0 h n ba bb wa wb q)(f:Fr M h h')(hm:∀c,M c→c<h.size→h0.size≤c∧X c∧¬Z c∧outV (some C.E) c∧¬outB (some C.E) c)(hx:∀c,X' c→X c∨h.size≤c):Duo C Z X' h0 h' n ba bb wa wb q:=by
 obtain⟨⟨A,B,Q,W1,W2,q0,k1,k2,k3,k4⟩,V,su,e⟩:=D
 have f:Fr (fun c=>M c∧c<h.size) h h':=⟨f.1,fun i hi hn=>f.2 i hi fun h=>hn ⟨h,hi⟩⟩
 have hz:∀c,Z c→¬(M c∧c<h.size):=fun c hz hc=>(hm c hc.1 hc.2).2.2.1 hz
 have na:∀c,A c∨B c∨Q c→¬(M c∧c<h.size):=fun c hc hm'=>(k4 c hc).2 (hm c hm'.1 hm'.2).2.1
 have I:OutAt h' (some C.E) n:=W1.out.fr f fun c hc _=>(hm c hc.1 hc.2).2.2.2
 refine⟨⟨A,B,Q,W1.other f hz (fun c hc=>na c (.inl hc)) I (zbl.refl n),W2.other f hz (fun c hc=>na c (.inr (.inl hc))) I (zbl.refl n),q0.fr f fun c hc=>na c (.inr (.inr hc)),k1,k2,k3,fun c hc=>⟨(k4 c hc).1,fun hx'=>(hx c hx').elim (k4 c hc).2 fun h=>?_⟩⟩,V.chg f hz (I C.E rfl).1,su,e.then_fr f fun c hc=>(hm c hc.1 hc.2).1⟩
 rcases hc with hc|hc|hc
 ·have:=W1.bl c hc;omega
 ·have:=W2.bl c hc;omega
 ·have:=q0.ql c hc;omega
theorem c_duo (O:C.Ok)(G:GlobB h0)(D:Duo C Z X h0 h n ba bb wa wb q)(ht:wa.tiles.length≤1000000)(hb:∀c,outB (some C.E) c→h0.size≤c)(hX:∀c,X c→c<h.size∧¬outB (some C.E) c):
  FCall prog zaF #[ptr ba,ptr C.bq,.func (.func zaM) #[] #[ptr C.bp,ptr C.bm,ptr C.bn,ptr C.bs]] h fun r h'=>r=evV (stepW (some C.E) (joP C (recvX q)) wa q).2.2∧∃n',Duo C Z X h0 h' n' ba bb (stepW (some C.E) (joP C (recvX q)) wa q).1 wb (stepW (some C.E) (joP C (recvX q)) wa q).2.1∧Fr (fun c=>¬X c) h h':=by
 obtain⟨⟨A,B,Q,W1,W2,q0,k1,k2,k3,k4⟩,V,su,E0⟩:=D
 have hs0:=E0.1
 refine(c_wStep (jo:=joP C (recvX q)) (Qo:=fun _=>False) (P0:=fun _=>True) (P1:=fun _=>True) W1 q0 ht (fun tk=>.inr ⟨rfl,fun h1 f1 _=>?_⟩) (fun c hc=>(k1 c hc).2) k3 (fun c hc=>hc.elim) (fun _ _ _=>⟨id,id⟩) trivial).mono fun r h' ⟨er,⟨⟨n',A',Q',W',q',j1,j2,j3,Dr⟩,f⟩,_⟩=>?_
 ·have V1:=V.chg f1 (fun c hz hc=>hc.elim (fun h=>(W1.bz c h).1 hz) fun h=>(k3 c h).1 hz) ((W1.out C.E rfl).1.fr f1 (fun hc=>hc.elim (fun h=>(W1.bz _ h).2.1 rfl) fun h=>(k3 _ h).2.1 rfl) fun c hv hc=>hc.elim (fun h=>(W1.bz _ h).2.2 hv) fun h=>(k3 _ h).2.2 hv)
  exact op_playsP O (G.ext (E0.then_fr f1 fun c hc=>(k4 c (hc.elim .inl fun h=>.inr (.inr h))).1)) V1 su
 ·have I':=W'.out C.E rfl
  have hn:∀c,(outB (some C.E) c∨A c∨Q c∨False)→h0.size≤c∧¬X c:=fun c hc=>hc.elim (fun h=>⟨hb c h,fun hx=>(hX c hx).2 h⟩) fun hc=>hc.elim (fun h=>k4 c (.inl h)) fun hc=>hc.elim (fun h=>k4 c (.inr (.inr h))) fun h=>h.elim
  have hz:∀c,Z c→¬(outB (some C.E) c∨A c∨Q c∨False):=fun c hz hc=>hc.elim (fun h=>V.set.zz c hz h) fun hc=>hc.elim (fun h=>(W1.bz c h).1 hz) fun hc=>hc.elim (fun h=>(k3 c h).1 hz) fun h=>h
  have hB:∀c,B c→¬(outB (some C.E) c∨A c∨Q c∨False):=fun c hB hc=>hc.elim (fun h=>(W2.bz c hB).2.2 h) fun hc=>hc.elim (fun h=>(k1 c h).1 hB) fun hc=>hc.elim (k2 c hB) fun h=>h
  have hd:=Dr.1
  obtain⟨s1,s2,s3,s4,s5⟩:=su.2
  refine⟨er,n',⟨⟨A',B,Q',W',W2.other f hz hB W'.out hd,q',fun c hc=>⟨fun hB=>?_,j3 c hc⟩,fun c hc hq=>?_,fun c hc=>?_,fun c hc=>?_⟩,V.chg f hz I'.1,⟨I'.2,s1,by rw[hd.w];exact s2,by rw[hd.h];exact s3,by rw[hd.c];exact s4,by rw[hd.m];exact s5⟩,E0.then_fr f fun c hc=>(hn c hc).1⟩,f.mono fun c _ hc=>(hn c hc).2⟩
  ·rcases j1 c hc with h9|h9
   ·exact(k1 c h9).1 hB
   ·have:=W2.bl c hB;omega
  ·rcases j2 c hq with h9|h9
   ·exact k2 c hc h9
   ·have:=W2.bl c hc;omega
  ·rcases j2 c hc with h9|h9
   ·exact k3 c h9
   ·exact⟨fun hz=>by have:=W1.zl c hz;omega,W1.out.new h9⟩
  ·have nw:h.size≤c→h0.size≤c∧¬X c:=fun h=>⟨by omega,fun hx=>by have:=(hX c hx).1;omega⟩
   rcases hc with h|h|h
   ·exact(j1 c h).elim (fun h=>k4 c (.inl h)) nw
   ·exact k4 c (.inr (.inl h))
   ·exact(j2 c h).elim (fun h=>k4 c (.inr (.inr h))) nw
end
end
section
def varAt (g:Heap)(T:TypeId)(z:List Value)(p:Nat×Option (List Value)):Prop:=g[p.1]? =some (.cells (p.2.getD z).toArray T (0,0))
abbrev zA:List Value:=[.int .i64 0,.slice none 0 0,.slice none 0 0]
abbrev zB:List Value:=[.int .i64 0,.slice none 0 0,.bool false]
abbrev zC:List Value:=[.int .i64 0,.int .i64 0,.int .i64 0,.int .i64 0]
abbrev VO:=Option (Nat×Option (List Value))
structure StMk (Z:Nat→Prop)(h0:Heap)(v:VD)(d:QD)(R:Option (List Value×List Value))(a b c:VO)(g:Heap):Prop where
 ext:Ext h0 g
 res:∀p,R=some p→∃Zr:Nat→Prop,rVD.R Zr g p.1 v∧rQ.R Zr g p.2 d∧∀k,Zr k→(Z k∨h0.size≤k)∧k<g.size∧(∀q,a=some q→k≠q.1)∧(∀q,b=some q→k≠q.1)∧∀q,c=some q→k≠q.1
 va:∀q,a=some q→h0.size≤q.1∧varAt g 81 zA q
 vb:∀q,b=some q→h0.size≤q.1∧varAt g 75 zB q
 vc:∀q,c=some q→h0.size≤q.1∧varAt g 90 zC q
 ab:∀p q,a=some p→b=some q→p.1≠q.1
 ac:∀p q,a=some p→c=some q→p.1≠q.1
 bc:∀p q,b=some p→c=some q→p.1≠q.1
section
variable {Z:Nat→Prop}{h0 g:Heap}{v:VD}{d:QD}{R:Option (List Value×List Value)}{a b c:VO}{K:Value→Heap→Prop}
theorem StMk.start (Z:Nat→Prop)(h:Heap)(v:VD)(d:QD):StMk Z h v d none none none none h:=⟨Ext.refl _,by simp,by simp,by simp,by simp,by simp,by simp,by simp⟩
theorem varAt.lt {T:TypeId}{z:List Value}{p:Nat×Option (List Value)}(H:varAt g T z p):p.1<g.size:=zau H
theorem varAt.ext {g':Heap}{T:TypeId}{z:List Value}{p:Nat×Option (List Value)}(H:varAt g T z p)(e:Ext g g'):varAt g' T z p:=e.row H
theorem StMk.call {mv:Value}{M:List (List (Int×Int))}{cs ds:List Value}{v0:VD}{d0:QD}(S:StMk Z h0 (stepV M v0 d0).1 (stepV M v0 d0).2.1 none a b c g)(HV:rVD.R Z h0 cs v0)(HQ:rQ.R Z h0 ds d0)(HM:Rp.Sl rMvs Z h0 mv M)(zl:∀c,Z c→c<h0.size)(h1:v0.state=1→v0.tiles≠[]∧v0.left≠[])(ht:v0.tiles.length≤1000000)
  (H:∀cs' ds' g',StMk Z h0 (stepV M v0 d0).1 (stepV M v0 d0).2.1 (some (cs',ds')) a b c g'→K (.tuple #[.agg cs'.toArray,.agg ds'.toArray,evV (stepV M v0 d0).2.2]) g'):FCall prog zam #[.agg cs.toArray,.agg ds.toArray,mv] g K:=by
 have hs:=S.ext.1
 refine(c_r21Step (rVD.ext HV S.ext) (rQ.ext HQ S.ext) (HM.ext S.ext) (fun c hc=>Nat.lt_of_lt_of_le (zl c hc) hs) h1 ht).mono fun r g' ⟨cs',ds',er,R1,R2,e⟩=>?_
 subst er
 have lt:∀(T:TypeId) (z:List Value) (q:Nat×Option (List Value)),h0.size≤q.1→varAt g T z q→∀k,(Z k∨(g.size≤k∧k<g'.size))→k≠q.1:=fun T z q hq hv k hk he=>by
  have:=hv.lt
  rcases hk with hk|hk
  ·have:=zl k hk;omega
  ·omega
 refine H cs' ds' g' ⟨S.ext.trans e,fun p hp=>?_,fun q hq=>⟨(S.va q hq).1,(S.va q hq).2.ext e⟩,fun q hq=>⟨(S.vb q hq).1,(S.vb q hq).2.ext e⟩,fun q hq=>⟨(S.vc q hq).1,(S.vc q hq).2.ext e⟩,S.ab,S.ac,S.bc⟩
 cases hp
 refine⟨_,R1,R2,fun k hk=>⟨hk.imp id fun h=>by omega,?_,fun q hq=>lt _ _ q (S.va q hq).1 (S.va q hq).2 k hk,fun q hq=>lt _ _ q (S.vb q hq).1 (S.vb q hq).2 k hk,fun q hq=>lt _ _ q (S.vc q hq).1 (S.vc q hq).2 k hk⟩⟩
 rcases hk with hk|hk
 ·have:=zl k hk;have:=e.1;omega
 ·exact hk.2
theorem StMk.new_a (S:StMk Z h0 v d R none b c g)(H:∀x g',StMk Z h0 v d R (some (x,none)) b c g'→K (ptr x) g'):newK zA.toArray 81 g K:=by
 have hs:=S.ext.1
 refine zah fun x g' r e n=>H x g' ⟨S.ext.trans e,fun p hp=>?_,fun q hq=>?_,fun q hq=>⟨(S.vb q hq).1,(S.vb q hq).2.ext e⟩,fun q hq=>⟨(S.vc q hq).1,(S.vc q hq).2.ext e⟩,fun p q hp hq=>?_,fun p q hp hq=>?_,S.bc⟩
 ·obtain⟨Zr,r1,r2,hz⟩:=S.res p hp
  exact⟨Zr,rVD.ext r1 e,rQ.ext r2 e,fun k hk=>⟨(hz k hk).1,Nat.lt_of_lt_of_le (hz k hk).2.1 e.1,fun q hq=>by cases hq;have:=(hz k hk).2.1;show k≠x;omega,(hz k hk).2.2.2⟩⟩
 ·cases hq;exact⟨Nat.le_trans hs n,r⟩
 ·cases hp;have:=(S.vb q hq).2.lt;show x≠q.1;omega
 ·cases hp;have:=(S.vc q hq).2.lt;show x≠q.1;omega
theorem StMk.new_b (S:StMk Z h0 v d R a none c g)(H:∀x g',StMk Z h0 v d R a (some (x,none)) c g'→K (ptr x) g'):newK zB.toArray 75 g K:=by
 have hs:=S.ext.1
 refine zah fun x g' r e n=>H x g' ⟨S.ext.trans e,fun p hp=>?_,fun q hq=>⟨(S.va q hq).1,(S.va q hq).2.ext e⟩,fun q hq=>?_,fun q hq=>⟨(S.vc q hq).1,(S.vc q hq).2.ext e⟩,fun p q hp hq=>?_,S.ac,fun p q hp hq=>?_⟩
 ·obtain⟨Zr,r1,r2,hz⟩:=S.res p hp
  exact⟨Zr,rVD.ext r1 e,rQ.ext r2 e,fun k hk=>⟨(hz k hk).1,Nat.lt_of_lt_of_le (hz k hk).2.1 e.1,(hz k hk).2.2.1,fun q hq=>by cases hq;have:=(hz k hk).2.1;show k≠x;omega,(hz k hk).2.2.2.2⟩⟩
 ·cases hq;exact⟨Nat.le_trans hs n,r⟩
 ·cases hq;have:=(S.va p hp).2.lt;show p.1≠x;omega
 ·cases hp;have:=(S.vc q hq).2.lt;show x≠q.1;omega
theorem StMk.new_c (S:StMk Z h0 v d R a b none g)(H:∀x g',StMk Z h0 v d R a b (some (x,none)) g'→K (ptr x) g'):newK zC.toArray 90 g K:=by
 have hs:=S.ext.1
 refine zah fun x g' r e n=>H x g' ⟨S.ext.trans e,fun p hp=>?_,fun q hq=>⟨(S.va q hq).1,(S.va q hq).2.ext e⟩,fun q hq=>⟨(S.vb q hq).1,(S.vb q hq).2.ext e⟩,fun q hq=>?_,S.ab,fun p q hp hq=>?_,fun p q hp hq=>?_⟩
 ·obtain⟨Zr,r1,r2,hz⟩:=S.res p hp
  exact⟨Zr,rVD.ext r1 e,rQ.ext r2 e,fun k hk=>⟨(hz k hk).1,Nat.lt_of_lt_of_le (hz k hk).2.1 e.1,(hz k hk).2.2.1,(hz k hk).2.2.2.1,fun q hq=>by cases hq;have:=(hz k hk).2.1;show k≠x;omega⟩⟩
 ·cases hq;exact⟨Nat.le_trans hs n,r⟩
 ·cases hq;have:=(S.va p hp).2.lt;show p.1≠x;omega
 ·cases hq;have:=(S.vb p hp).2.lt;show p.1≠x;omega
theorem StMk.keep {x:Nat}{g':Heap}{R:List Value×List Value}{a' b' c':VO}(S:StMk Z h0 v d (some R) a b c g)(u:Upd x g g')(hx:h0.size≤x)(nr:(∃q,a=some q∧q.1=x)∨(∃q,b=some q∧q.1=x)∨(∃q,c=some q∧q.1=x))(ha:∀q,a'=some q→∃q',a=some q'∧q'.1=q.1)(hb:∀q,b'=some q→∃q',b=some q'∧q'.1=q.1)(hc:∀q,c'=some q→∃q',c=some q'∧q'.1=q.1)
  (va:∀q,a'=some q→varAt g' 81 zA q) (vb:∀q,b'=some q→varAt g' 75 zB q) (vc:∀q,c'=some q→varAt g' 90 zC q):StMk Z h0 v d (some R) a' b' c' g':=by
 have hs:=u.1
 refine⟨S.ext.upd hx u,fun p hp=>?_,fun q hq=>⟨?_,va q hq⟩,fun q hq=>⟨?_,vb q hq⟩,fun q hq=>⟨?_,vc q hq⟩,fun p q hp hq=>?_,fun p q hp hq=>?_,fun p q hp hq=>?_⟩
 ·obtain⟨Zr,r1,r2,hz⟩:=S.res p hp
  have hne:∀k,Zr k→¬k=x:=fun k hk he=>by
   rcases nr with⟨q,e1,e2⟩|⟨q,e1,e2⟩|⟨q,e1,e2⟩
   ·exact(hz k hk).2.2.1 q e1 (he.trans e2.symm)
   ·exact(hz k hk).2.2.2.1 q e1 (he.trans e2.symm)
   ·exact(hz k hk).2.2.2.2 q e1 (he.trans e2.symm)
  refine⟨Zr,rVD.fr r1 u.fr fun k _ hk=>hne k hk,rQ.fr r2 u.fr fun k _ hk=>hne k hk,fun k hk=>⟨(hz k hk).1,by rw[hs];exact(hz k hk).2.1,fun q hq=>?_,fun q hq=>?_,fun q hq=>?_⟩⟩
  ·obtain⟨q',e1,e2⟩:=ha q hq;rw[←e2];exact(hz k hk).2.2.1 q' e1
  ·obtain⟨q',e1,e2⟩:=hb q hq;rw[←e2];exact(hz k hk).2.2.2.1 q' e1
  ·obtain⟨q',e1,e2⟩:=hc q hq;rw[←e2];exact(hz k hk).2.2.2.2 q' e1
 ·obtain⟨q',e1,e2⟩:=ha q hq;rw[←e2];exact(S.va q' e1).1
 ·obtain⟨q',e1,e2⟩:=hb q hq;rw[←e2];exact(S.vb q' e1).1
 ·obtain⟨q',e1,e2⟩:=hc q hq;rw[←e2];exact(S.vc q' e1).1
 ·obtain⟨p',e1,e2⟩:=ha p hp;obtain⟨q',e3,e4⟩:=hb q hq;rw[←e2,←e4];exact S.ab p' q' e1 e3
 ·obtain⟨p',e1,e2⟩:=ha p hp;obtain⟨q',e3,e4⟩:=hc q hq;rw[←e2,←e4];exact S.ac p' q' e1 e3
 ·obtain⟨p',e1,e2⟩:=hb p hp;obtain⟨q',e3,e4⟩:=hc q hq;rw[←e2,←e4];exact S.bc p' q' e1 e3
theorem StMk.st_a {x y z:Nat}{cs ds:List Value}(S:StMk Z h0 v d (some (cs,ds)) (some (x,none)) (some (y,none)) (some (z,none)) g)(H:∀g',StMk Z h0 v d (some (cs,ds)) (some (x,some cs)) (some (y,none)) (some (z,none)) g'→K undef g'):stK 3 (ptr x) (.agg cs.toArray) g K:=by
 obtain⟨a1,a2⟩:=S.va _ rfl
 obtain⟨Zr,r1,r2,_⟩:=S.res _ rfl
 have d1:x≠y:=S.ab _ _ rfl rfl
 have d2:x≠z:=S.ac _ _ rfl rfl
 refine zaP (l:=cs) a2 (by rw[rVD.len r1];rfl) (rVD.one r1) (rVD.len r1) fun g' r u=>H g' (S.keep u a1 (.inl ⟨_,rfl,rfl⟩) (fun q hq=>by cases hq;exact⟨_,rfl,rfl⟩) (fun q hq=>⟨q,hq,rfl⟩) (fun q hq=>⟨q,hq,rfl⟩) (fun q hq=>by cases hq;exact r) (fun q hq=>by cases hq;exact u.row d1.symm (S.vb _ rfl).2) (fun q hq=>by cases hq;exact u.row d2.symm (S.vc _ rfl).2))
theorem StMk.st_b {x y z:Nat}{cs ds:List Value}(S:StMk Z h0 v d (some (cs,ds)) (some (x,some cs)) (some (y,none)) (some (z,none)) g)(H:∀g',StMk Z h0 v d (some (cs,ds)) (some (x,some cs)) (some (y,some ds)) (some (z,none)) g'→K undef g'):stK 3 (ptr y) (.agg ds.toArray) g K:=by
 obtain⟨a1,a2⟩:=S.vb _ rfl
 obtain⟨Zr,r1,r2,_⟩:=S.res _ rfl
 have d1:x≠y:=S.ab _ _ rfl rfl
 have d2:y≠z:=S.bc _ _ rfl rfl
 refine zaP (l:=ds) a2 (by rw[rQ.len r2];rfl) (rQ.one r2) (rQ.len r2) fun g' r u=>H g' (S.keep u a1 (.inr (.inl ⟨_,rfl,rfl⟩)) (fun q hq=>⟨q,hq,rfl⟩) (fun q hq=>by cases hq;exact⟨_,rfl,rfl⟩) (fun q hq=>⟨q,hq,rfl⟩) (fun q hq=>by cases hq;exact u.row d1 (S.va _ rfl).2) (fun q hq=>by cases hq;exact r) (fun q hq=>by cases hq;exact u.row d2.symm (S.vc _ rfl).2))
theorem StMk.st_c {x y z:Nat}{cs ds:List Value}{ev:EvD}(S:StMk Z h0 v d (some (cs,ds)) (some (x,some cs)) (some (y,some ds)) (some (z,none)) g)(H:∀g',StMk Z h0 v d (some (cs,ds)) (some (x,some cs)) (some (y,some ds)) (some (z,some [.int .i64 ev.1,.int .i64 ev.2.1,.int .i64 ev.2.2.1,.int .i64 ev.2.2.2])) g'→K undef g'):stK 4 (ptr z) (evV ev) g K:=by
 obtain⟨a1,a2⟩:=S.vc _ rfl
 have d1:x≠z:=S.ac _ _ rfl rfl
 have d2:y≠z:=S.bc _ _ rfl rfl
 refine zaP (l:=[.int .i64 ev.1,.int .i64 ev.2.1,.int .i64 ev.2.2.1,.int .i64 ev.2.2.2]) a2 rfl (zac rfl (zac rfl (zac rfl (zac rfl zal)))) rfl fun g' r u=>H g' (S.keep u a1 (.inr (.inr ⟨_,rfl,rfl⟩)) (fun q hq=>⟨q,hq,rfl⟩) (fun q hq=>⟨q,hq,rfl⟩) (fun q hq=>by cases hq;exact⟨_,rfl,rfl⟩) (fun q hq=>by cases hq;exact u.row d1 (S.va _ rfl).2) (fun q hq=>by cases hq;exact u.row d2 (S.vb _ rfl).2) (fun q hq=>by cases hq;exact r))
end
def zpO (fo fp fq mv:Value)(g:Heap)(a:List Value→Heap→Prop):Prop:=
 drawK g fun S=>
 vK (idxaV 2 3 fo fp) fun fr=>
 qK S (fun g=>ldsV 3 g fr) fun b=>
 qK S (fun g=>ldsV 3 g fq) fun c=>
 (FCall prog zam #[b,c,mv] g fun x k=>
 S k∧(vK (extV x 0) fun h=>
 vK (extV x 1) fun i=>
 vK (extV x 2) fun j=>
 (newK #[(.int .i64 0),(.slice none 0 0),(.slice none 0 0)] 81 k fun l y=>
 S y∧((newK #[(.int .i64 0),(.slice none 0 0),(.bool false)] 75 y fun a1 a2=>
 S a2∧(newK #[(.int .i64 0),(.int .i64 0),(.int .i64 0),(.int .i64 0)] 90 a2 fun a3 a4=>
 S a4∧(stK 3 l h a4 fun gs a5=>
 S a5∧(stK 3 a1 i a5 fun gt a6=>
 S a6∧(stK 4 a3 j a6 fun gu a7=>
 S a7∧(a [l,a1,a3] a7))))))∧(newK #[(.int .i64 0),(.int .i64 0),(.int .i64 0),(.int .i64 0)] 90 y fun a8 a9=>
 S a9∧(newK #[(.int .i64 0),(.slice none 0 0),(.bool false)] 75 a9 fun ba bb=>
 S bb∧(stK 3 l h bb fun gv bc=>
 S bc∧(stK 3 ba i bc fun gw bd=>
 S bd∧(stK 4 a8 j bd fun gx be=>
 S be∧(a [l,ba,a8] be))))))))∧((newK #[(.int .i64 0),(.slice none 0 0),(.bool false)] 75 k fun m z=>
 S z∧((newK #[(.int .i64 0),(.slice none 0 0),(.slice none 0 0)] 81 z fun bf bg=>
 S bg∧(newK #[(.int .i64 0),(.int .i64 0),(.int .i64 0),(.int .i64 0)] 90 bg fun bh bi=>
 S bi∧(stK 3 bf h bi fun gy bj=>
 S bj∧(stK 3 m i bj fun gz bk=>
 S bk∧(stK 4 bh j bk fun g0 bl=>
 S bl∧(a [bf,m,bh] bl))))))∧(newK #[(.int .i64 0),(.int .i64 0),(.int .i64 0),(.int .i64 0)] 90 z fun bm bn=>
 S bn∧(newK #[(.int .i64 0),(.slice none 0 0),(.slice none 0 0)] 81 bn fun bo bp=>
 S bp∧(stK 3 bo h bp fun g1 bq=>
 S bq∧(stK 3 m i bq fun g2 br=>
 S br∧(stK 4 bm j br fun g3 bs=>
 S bs∧(a [bo,m,bm] bs))))))))∧(newK #[(.int .i64 0),(.int .i64 0),(.int .i64 0),(.int .i64 0)] 90 k fun n aa=>
 S aa∧((newK #[(.int .i64 0),(.slice none 0 0),(.slice none 0 0)] 81 aa fun bt bu=>
 S bu∧(newK #[(.int .i64 0),(.slice none 0 0),(.bool false)] 75 bu fun bv bw=>
 S bw∧(stK 3 bt h bw fun g4 bx=>
 S bx∧(stK 3 bv i bx fun g5 bz=>
 S bz∧(stK 4 n j bz fun g6 b0=>
 S b0∧(a [bt,bv,n] b0))))))∧(newK #[(.int .i64 0),(.slice none 0 0),(.bool false)] 75 aa fun b1 b2=>
 S b2∧(newK #[(.int .i64 0),(.slice none 0 0),(.slice none 0 0)] 81 b2 fun b3 b4=>
 S b4∧(stK 3 b3 h b4 fun g7 b5=>
 S b5∧(stK 3 b1 i b5 fun g8 b6=>
 S b6∧(stK 4 n j b6 fun g9 b7=>
 S b7∧(a [b3,b1,n] b7)))))))))))∧((newK #[(.int .i64 0),(.slice none 0 0),(.slice none 0 0)] 81 g fun d o=>
 S o∧((FCall prog zam #[b,c,mv] o fun ab ac=>
 S ac∧(vK (extV ab 0) fun b8=>
 vK (extV ab 1) fun b9=>
 vK (extV ab 2) fun ca=>
 (newK #[(.int .i64 0),(.slice none 0 0),(.bool false)] 75 ac fun cb cc=>
 S cc∧(newK #[(.int .i64 0),(.int .i64 0),(.int .i64 0),(.int .i64 0)] 90 cc fun cd ce=>
 S ce∧(stK 3 d b8 ce fun ha cf=>
 S cf∧(stK 3 cb b9 cf fun hb cg=>
 S cg∧(stK 4 cd ca cg fun hc ch=>
 S ch∧(a [d,cb,cd] ch))))))∧(newK #[(.int .i64 0),(.int .i64 0),(.int .i64 0),(.int .i64 0)] 90 ac fun ci cj=>
 S cj∧(newK #[(.int .i64 0),(.slice none 0 0),(.bool false)] 75 cj fun ck cl=>
 S cl∧(stK 3 d b8 cl fun hd cm=>
 S cm∧(stK 3 ck b9 cm fun he cn=>
 S cn∧(stK 4 ci ca cn fun hf co=>
 S co∧(a [d,ck,ci] co))))))))∧((newK #[(.int .i64 0),(.slice none 0 0),(.bool false)] 75 o fun p ad=>
 S ad∧((FCall prog zam #[b,c,mv] ad fun ae cp=>
 S cp∧(vK (extV ae 0) fun fs=>
 vK (extV ae 1) fun ft=>
 vK (extV ae 2) fun fu=>
 newK #[(.int .i64 0),(.int .i64 0),(.int .i64 0),(.int .i64 0)] 90 cp fun cq cr=>
 S cr∧(stK 3 d fs cr fun hg cs=>
 S cs∧(stK 3 p ft cs fun hh ct=>
 S ct∧(stK 4 cq fu ct fun hi cu=>
 S cu∧(a [d,p,cq] cu))))))∧(newK #[(.int .i64 0),(.int .i64 0),(.int .i64 0),(.int .i64 0)] 90 ad fun cv cw=>
 S cw∧(FCall prog zam #[b,c,mv] cw fun af cx=>
 S cx∧(vK (extV af 0) fun fv=>
 vK (extV af 1) fun fw=>
 vK (extV af 2) fun fx=>
 stK 3 d fv cx fun hj cy=>
 S cy∧(stK 3 p fw cy fun hk cz=>
 S cz∧(stK 4 cv fx cz fun hl c0=>
 S c0∧(a [d,p,cv] c0))))))))∧(newK #[(.int .i64 0),(.int .i64 0),(.int .i64 0),(.int .i64 0)] 90 o fun q ag=>
 S ag∧((FCall prog zam #[b,c,mv] ag fun ah c1=>
 S c1∧(vK (extV ah 0) fun fy=>
 vK (extV ah 1) fun fz=>
 vK (extV ah 2) fun f0=>
 newK #[(.int .i64 0),(.slice none 0 0),(.bool false)] 75 c1 fun c2 c3=>
 S c3∧(stK 3 d fy c3 fun hm c4=>
 S c4∧(stK 3 c2 fz c4 fun hn c5=>
 S c5∧(stK 4 q f0 c5 fun ho c6=>
 S c6∧(a [d,c2,q] c6))))))∧(newK #[(.int .i64 0),(.slice none 0 0),(.bool false)] 75 ag fun c7 c8=>
 S c8∧(FCall prog zam #[b,c,mv] c8 fun ai c9=>
 S c9∧(vK (extV ai 0) fun f1=>
 vK (extV ai 1) fun f2=>
 vK (extV ai 2) fun f3=>
 stK 3 d f1 c9 fun hp da=>
 S da∧(stK 3 c7 f2 da fun hq db=>
 S db∧(stK 4 q f3 db fun hr dc=>
 S dc∧(a [d,c7,q] dc)))))))))))∧((newK #[(.int .i64 0),(.slice none 0 0),(.bool false)] 75 g fun e r=>
 S r∧((FCall prog zam #[b,c,mv] r fun aj ak=>
 S ak∧(vK (extV aj 0) fun dd=>
 vK (extV aj 1) fun de=>
 vK (extV aj 2) fun df=>
 (newK #[(.int .i64 0),(.slice none 0 0),(.slice none 0 0)] 81 ak fun dg dh=>
 S dh∧(newK #[(.int .i64 0),(.int .i64 0),(.int .i64 0),(.int .i64 0)] 90 dh fun di dj=>
 S dj∧(stK 3 dg dd dj fun hs dk=>
 S dk∧(stK 3 e de dk fun ht dl=>
 S dl∧(stK 4 di df dl fun hu dm=>
 S dm∧(a [dg,e,di] dm))))))∧(newK #[(.int .i64 0),(.int .i64 0),(.int .i64 0),(.int .i64 0)] 90 ak fun dn dp=>
 S dp∧(newK #[(.int .i64 0),(.slice none 0 0),(.slice none 0 0)] 81 dp fun dq dr=>
 S dr∧(stK 3 dq dd dr fun hv ds=>
 S ds∧(stK 3 e de ds fun hw dt=>
 S dt∧(stK 4 dn df dt fun hx du=>
 S du∧(a [dq,e,dn] du))))))))∧((newK #[(.int .i64 0),(.slice none 0 0),(.slice none 0 0)] 81 r fun s al=>
 S al∧((FCall prog zam #[b,c,mv] al fun am dv=>
 S dv∧(vK (extV am 0) fun f4=>
 vK (extV am 1) fun f5=>
 vK (extV am 2) fun f6=>
 newK #[(.int .i64 0),(.int .i64 0),(.int .i64 0),(.int .i64 0)] 90 dv fun dw dx=>
 S dx∧(stK 3 s f4 dx fun hy dy=>
 S dy∧(stK 3 e f5 dy fun hz dz=>
 S dz∧(stK 4 dw f6 dz fun h0 d0=>
 S d0∧(a [s,e,dw] d0))))))∧(newK #[(.int .i64 0),(.int .i64 0),(.int .i64 0),(.int .i64 0)] 90 al fun d1 d2=>
 S d2∧(FCall prog zam #[b,c,mv] d2 fun an d3=>
 S d3∧(vK (extV an 0) fun f7=>
 vK (extV an 1) fun f8=>
 vK (extV an 2) fun f9=>
 stK 3 s f7 d3 fun h1 d4=>
 S d4∧(stK 3 e f8 d4 fun h2 d5=>
 S d5∧(stK 4 d1 f9 d5 fun h3 d6=>
 S d6∧(a [s,e,d1] d6))))))))∧(newK #[(.int .i64 0),(.int .i64 0),(.int .i64 0),(.int .i64 0)] 90 r fun t ao=>
 S ao∧((FCall prog zam #[b,c,mv] ao fun ap d7=>
 S d7∧(vK (extV ap 0) fun ga=>
 vK (extV ap 1) fun gb=>
 vK (extV ap 2) fun gc=>
 newK #[(.int .i64 0),(.slice none 0 0),(.slice none 0 0)] 81 d7 fun d8 d9=>
 S d9∧(stK 3 d8 ga d9 fun h4 ea=>
 S ea∧(stK 3 e gb ea fun h5 eb=>
 S eb∧(stK 4 t gc eb fun h6 ec=>
 S ec∧(a [d8,e,t] ec))))))∧(newK #[(.int .i64 0),(.slice none 0 0),(.slice none 0 0)] 81 ao fun ed ee=>
 S ee∧(FCall prog zam #[b,c,mv] ee fun aq ef=>
 S ef∧(vK (extV aq 0) fun gd=>
 vK (extV aq 1) fun ge=>
 vK (extV aq 2) fun gf=>
 stK 3 ed gd ef fun h7 eg=>
 S eg∧(stK 3 e ge eg fun h8 eh=>
 S eh∧(stK 4 t gf eh fun h9 ei=>
 S ei∧(a [ed,e,t] ei)))))))))))∧(newK #[(.int .i64 0),(.int .i64 0),(.int .i64 0),(.int .i64 0)] 90 g fun f u=>
 S u∧((FCall prog zam #[b,c,mv] u fun ar au=>
 S au∧(vK (extV ar 0) fun ej=>
 vK (extV ar 1) fun ek=>
 vK (extV ar 2) fun el=>
 (newK #[(.int .i64 0),(.slice none 0 0),(.slice none 0 0)] 81 au fun em en=>
 S en∧(newK #[(.int .i64 0),(.slice none 0 0),(.bool false)] 75 en fun eo ep=>
 S ep∧(stK 3 em ej ep fun ia eq=>
 S eq∧(stK 3 eo ek eq fun ib er=>
 S er∧(stK 4 f el er fun ic es=>
 S es∧(a [em,eo,f] es))))))∧(newK #[(.int .i64 0),(.slice none 0 0),(.bool false)] 75 au fun et eu=>
 S eu∧(newK #[(.int .i64 0),(.slice none 0 0),(.slice none 0 0)] 81 eu fun ev ew=>
 S ew∧(stK 3 ev ej ew fun id ex=>
 S ex∧(stK 3 et ek ex fun ie ey=>
 S ey∧(stK 4 f el ey fun ig ez=>
 S ez∧(a [ev,et,f] ez))))))))∧((newK #[(.int .i64 0),(.slice none 0 0),(.slice none 0 0)] 81 u fun v av=>
 S av∧((FCall prog zam #[b,c,mv] av fun aw e0=>
 S e0∧(vK (extV aw 0) fun gg=>
 vK (extV aw 1) fun gh=>
 vK (extV aw 2) fun gi=>
 newK #[(.int .i64 0),(.slice none 0 0),(.bool false)] 75 e0 fun e1 e2=>
 S e2∧(stK 3 v gg e2 fun ih e3=>
 S e3∧(stK 3 e1 gh e3 fun ii e4=>
 S e4∧(stK 4 f gi e4 fun ij e5=>
 S e5∧(a [v,e1,f] e5))))))∧(newK #[(.int .i64 0),(.slice none 0 0),(.bool false)] 75 av fun e6 e7=>
 S e7∧(FCall prog zam #[b,c,mv] e7 fun ax e8=>
 S e8∧(vK (extV ax 0) fun gj=>
 vK (extV ax 1) fun gk=>
 vK (extV ax 2) fun gl=>
 stK 3 v gj e8 fun ik e9=>
 S e9∧(stK 3 e6 gk e9 fun il fa=>
 S fa∧(stK 4 f gl fa fun im fb=>
 S fb∧(a [v,e6,f] fb))))))))∧(newK #[(.int .i64 0),(.slice none 0 0),(.bool false)] 75 u fun w ay=>
 S ay∧((FCall prog zam #[b,c,mv] ay fun az fc=>
 S fc∧(vK (extV az 0) fun gm=>
 vK (extV az 1) fun gn=>
 vK (extV az 2) fun go=>
 newK #[(.int .i64 0),(.slice none 0 0),(.slice none 0 0)] 81 fc fun fd fe=>
 S fe∧(stK 3 fd gm fe fun io ff=>
 S ff∧(stK 3 w gn ff fun ip fg=>
 S fg∧(stK 4 f go fg fun iq fh=>
 S fh∧(a [fd,w,f] fh))))))∧(newK #[(.int .i64 0),(.slice none 0 0),(.slice none 0 0)] 81 ay fun fi fj=>
 S fj∧(FCall prog zam #[b,c,mv] fj fun a0 fk=>
 S fk∧(vK (extV a0 0) fun gp=>
 vK (extV a0 1) fun gq=>
 vK (extV a0 2) fun gr=>
 stK 3 fi gp fk fun ir fl=>
 S fl∧(stK 3 w gq fl fun it fm=>
 S fm∧(stK 4 f gr fm fun iu fn=>
 S fn∧(a [fi,w,f] fn)))))))))))))
theorem step_tree {Z:Nat→Prop}{g:Heap}{v212 v255 v199 mv pA:Value}{cs ds:List Value}{v:VD}{d:QD}{M:List (List (Int×Int))}{J:List Value→Heap→Prop}(q1:idxaV 2 3 v212 v255=some pA)(q2:∀g',Ext g g'→ldsV 3 g' pA=some (.agg cs.toArray))(q3:∀g',Ext g g'→ldsV 3 g' v199=some (.agg ds.toArray))
  (HV:rVD.R Z g cs v) (HQ:rQ.R Z g ds d) (HM:Rp.Sl rMvs Z g mv M) (zl:∀c,Z c→c<g.size) (h1:v.state=1→v.tiles≠[]∧v.left≠[]) (ht:v.tiles.length≤1000000)
  (HJ:∀x y z cs' ds' g',StMk Z g (stepV M v d).1 (stepV M v d).2.1 (some (cs',ds')) (some (x,some cs')) (some (y,some ds')) (some (z,some [.int .i64 (stepV M v d).2.2.1,.int .i64 (stepV M v d).2.2.2.1,.int .i64 (stepV M v d).2.2.2.2.1,.int .i64 (stepV M v d).2.2.2.2.2])) g'→J [ptr x,ptr y,ptr z] g'):zpO v212 v255 v199 mv g J:=by
 unfold zpO
 refine zap (Ext g) (Ext.refl _) ?_
 rw[q1,zaa]
 refine zaf (.agg cs.toArray) q2 ?_
 refine zaf (.agg ds.toArray) q3 ?_
 have M0:=StMk.start Z g (stepV M v d).1 (stepV M v d).2.1
 have x0:∀a b c:Value,extV (.tuple #[a,b,c]) 0=some a:=fun _ _ _=>rfl
 have x1:∀a b c:Value,extV (.tuple #[a,b,c]) 1=some b:=fun _ _ _=>rfl
 have x2:∀a b c:Value,extV (.tuple #[a,b,c]) 2=some c:=fun _ _ _=>rfl
 repeat' first
  |exact HJ _ _ _ _ _ _ ‹StMk _ _ _ _ _ _ _ _ _›
  |exact StMk.ext ‹StMk _ _ _ _ _ _ _ _ _›
  |refine And.intro ?_ ?_
  |refine StMk.call ‹StMk _ _ _ _ none _ _ _ _› HV HQ HM zl h1 ht fun cs' ds' g' S=>?_
  |refine StMk.new_a ‹StMk _ _ _ _ _ none _ _ _› fun x g' S=>?_
  |refine StMk.new_b ‹StMk _ _ _ _ _ _ none _ _› fun x g' S=>?_
  |refine StMk.new_c ‹StMk _ _ _ _ _ _ _ none _› fun x g' S=>?_
  |refine StMk.st_a ‹StMk _ _ _ _ _ _ _ _ _› fun g' S=>?_
  |refine StMk.st_b ‹StMk _ _ _ _ _ _ _ _ _› fun g' S=>?_
  |refine StMk.st_c ‹StMk _ _ _ _ _ _ _ _ _› fun g' S=>?_
  |simp only[x0,x1,x2,zaa]
end
end Go.Proofs.YtcoimlclclnlkaaGreatDoor
namespace Go.Crisp
open Go
open _root_.Go.Proofs.YtcoimlclclnlkaaGreatDoor
theorem NewR.push1 {α:Type}{e:Rp α}{z z' c:Value}{t t':TypeId}{bytes:Nat}{h h1:Heap}{v:Value}{l:List α}{x:α}{Y:Nat→Prop}{K:Value→Heap→Prop}(hw:e.w=1)(H:NewR e h h1 v l)
  (hx:e.R Y h1 [c] x) (hY:∀b,Y b→h.size≤b∧b<h1.size∧¬blk v b) (hz:z.cells.size=1) (hb:(l.length+1)*bytes≤140737488355328) (hn:l.length+1≤9223372036854775807)
  (HK:∀s' h',NewR e h h' s' (l++[x])→K s' h'):rowK #[z'] t 1 [(0,1,c)] h1 fun v2 h3=>appK z t' 1 bytes v v2 h3 K:=by
 obtain⟨Z,o,ex,n,zf⟩:=H
 have dz:∀b,blk v b→¬Z b:=by obtain⟨ds,_,d,_⟩:=o;exact d
 have o2:Rp.Ow e (fun b=>Z b∨Y b) h1 v l:=o.mono (fun b _ hb=>.inl hb) fun b hb hz=>by
  rcases hz with hz|hz
  ·exact dz b hb hz
  ·exact(hY b hz).2.2 hb
 refine Rp.push_ow1 hw o2 (e.mono hx fun b _ hb=>.inr hb) hz hb hn (fun b hb=>?_) fun s' h' o' f' n'=>HK s' h' ⟨fun b=>Z b∨Y b,o',ex.then_fr f' n,fun b hb=>?_,fun b hb=>?_⟩
 ·rcases hb with hb|hb
  ·exact(zf b hb).2
  ·exact(hY b hb).2.1
 ·rcases n' b hb with h2|h2
  ·exact n b h2
  ·exact Nat.le_trans ex.1 h2
 ·have hl:=f'.1
  rcases hb with hb|hb
  ·have:=zf b hb;omega
  ·have:=hY b hb;omega
end Go.Crisp
namespace Go.Proofs.YtcoimlclclnlkaaGreatDoor
open Go Go.Crisp
attribute [local irreducible] FCall rowK newK stK iteK vK qK drawK gK joinK loopK mkK appK cpyK zmY zkN bsK clK zgY zfx newmK
open _root_.Go.Proofs.Tryz
theorem movesL_succ (C:C21)(k:Nat):zco C (k+1)=zco C k++[zeT C.E (some (jobOf C.d k))]:=by simp[zco,List.range_succ]
theorem moves_all {C:C21}{Z:Nat→Prop}{h h0:Heap}{rv tv p5:Value}{ds:List Value}{N:Nat}{T:TypeId}{X:List Value→Heap→Prop}(O:C.Ok)(q4:idxV 5 rv (.int .i64 0)=some p5)(K:rStg.R Z h ds C.d.s)(rd5:∀g',Ext h g'→ldsV 5 g' p5=some (.agg ds.toArray))(NT:New rT14 h0 h tv (zcw C.d N))(hN:(N:Int)=zcf C.d)(hN2:N≤4096)
  (HX:∀v h',NewR rMvs h h' v (zco C N)→X [v,.int .i64 (N:Int)] h'):
  loopK [(.slice none 0 0),(.int .i64 0)] h fun x165 j166 h167 again168=>vK (binV .i .lss (ix x165 1) (.int .i64 (N:Int))) fun v169=>iteK v169 (
   vK (idxV 10 tv (ix x165 1)) fun v170=>vK (ldsV 10 h167 v170) fun v171=>
   newK #[(.int .i64 0),(.int .i64 0),(.int .i64 0),(.int .i64 0),(.int .i64 0),(.int .i64 0),(.int .i64 0),(.int .i64 0),(.int .i64 0),(.int .i64 0)] 58 h167 fun v172 h173=>stK 10 v172 v171 h173 fun v174 h175=>
   drawK h175 fun S=>vK (idxV 5 rv (.int .i64 0)) fun v176=>qK S (fun h175=>ldsV 5 h175 v176) fun v177=>vK (fldV 2 v172) fun v178=>qK S (fun h175=>ldV h175 v178) fun v179=>vK (fldV 4 v172) fun v180=>qK S (fun h175=>ldV h175 v180) fun v181=>
   FCall prog zeZ #[v177,v179,v181] h175 fun v182 h183=>rowK #[(.slice none 0 0)] T 1 [(0,1,v182)] h183 fun v184 h185=>appK (.slice none 0 0) T 1 24 (ix x165 0) v184 h185 fun v186 h187=>vK (binV .i .add (ix x165 1) (.int .i64 1)) fun v188=>again168 [v186,v188] h187) (X x165 h167):=by
 refine zaE (α:=Value) N 0 (fun i v=>[v,.int .i64 (i:Int)]) (fun i v g=>NewR rMvs h g v (zco C i)) (.slice none 0 0) rfl (Nat.zero_le _) (NewR.nil (Ext.refl _)) fun i v g again ρ _ hi NM Hag=>?_
 have E:=NM.exts
 simp only[ix_0,ix_1]
 rw[zbJ,zaa]
 refine zab (fun g1=>?_) (fun g1=>?_)
 ·have hi':i<N:=by omega
  have hl:(zcw C.d N).length=N:=by simp[zcw]
  obtain⟨pt,cs,a1,a2,a3⟩:=(NT.sl.ext E).atw (show 0<10 by omega) (k:=.i64) (i:=i) (by omega)
  have a1:idxV 10 tv (.int .i64 (i:Int))=some pt:=a1
  have a2:ldsV 10 g pt=some (.agg cs.toArray):=a2
  have e1:(zcw C.d N)[i]=((zaN C.d i).y,(zaN C.d i).h):=by simp[zcw]
  rw[e1]at a3
  obtain⟨f0,f1,f3,f5,f6,f7,f8,f9,ec⟩:=a3
  rw[a1,zaa,a2,zaa]
  have on:∀v∈cs,zar v=true:=by
   rw[ec]
   exact zac rfl (zac rfl (zac rfl (zac rfl (zac rfl (zac rfl (zac rfl (zac rfl (zac rfl (zac rfl zal)))))))))
  refine za0 (cs:=cs) (by rw[ec];rfl) on (by rw[ec];rfl) fun b5 g5 r5 e5 n5=>?_
  rw[ec]at r5
  have c2:zag g5 ⟨b5,2,none⟩=some (.int .i64 (zaN C.d i).y):=zad r5
  have c4:zag g5 ⟨b5,4,none⟩=some (.int .i64 (zaN C.d i).h):=zad r5
  refine zap (fun k=>k=g5) rfl ?_
  rw[q4,zaa]
  refine zaf (.agg ds.toArray) (fun k e=>by rw[e];exact rd5 g5 (E.trans e5)) ?_
  simp only[go_sem,Nat.zero_add]
  refine zaf (.int .i64 (zaN C.d i).y) (fun k e=>by rw[e];exact c2) ?_
  try simp only[go_sem,Nat.zero_add]
  refine zaf (.int .i64 (zaN C.d i).h) (fun k e=>by rw[e];exact c4) ?_
  have hw:=znc O.d (i:=(i:Int)) (by omega) (by omega)
  unfold zcV at hw
  have K5:=rStg.ext K (E.trans e5)
  refine(c_r17Steps (m:=C.m) (t:=zaN C.d i) K5 O.s hw.2.2.2.1 hw.2.1 (by omega)).mono fun sv g6 NS=>?_
  have N6:=NM.ext (e5.trans NS.2.1)
  have hml:(zco C i).length=i:=by simp[zco]
  have s5:=e5.1
  have sE:=E.1
  refine NewR.push1 (e:=rMvs) (x:=zeT C.E (some (jobOf C.d i))) (Y:=blk sv) rfl N6 ⟨sv,rfl,NS.sl,NS.1.slcap⟩ (fun b hb=>⟨?_,NS.1.lt hb,fun hv=>?_⟩) rfl (by rw[hml];omega) (by rw[hml];omega) fun v7 g7 N7=>?_
  ·have:=NS.2.2 b hb;omega
  ·have h1:=NS.2.2 b hb
   have h2:=NM.lt hv
   omega
  have hw':(i:Int)+1=((i+1:Nat):Int):=by omega
  try simp only[go_sem]
  rw[w64 (n:=(i:Int)+1) (by omega) (by omega),hw']
  exact Hag v7 g7 hi' (by rw[movesL_succ];exact N7)
 ·have:i=N:=by omega
  subst this
  exact HX v g NM
section
section
variable {C:C21}{Z X:Nat→Prop}{h0 h:Heap}{n:Pic}{ba bb:Nat}{wa wb:WD}{q:QD}
theorem Duo.queue {f:FuncId}{args:Array Value}{q':QD}{v:Value}(D:Duo C Z X h0 h n ba bb wa wb q)(hX:∀c,X c→c<h.size)
  (F:∀Q,IsQ Q h C.bq q→FCall prog f args h fun r h'=>r=v∧∃Q',(∀c,Q' c→Q c∨h.size≤c)∧IsQ Q' h' C.bq q'∧Fr Q h h'):
  FCall prog f args h fun r h'=>r=v∧Duo C Z X h0 h' n ba bb wa wb q'∧Fr (fun c=>¬X c) h h':=by
 obtain⟨⟨A,B,Q,W1,W2,q0,k1,k2,k3,k4⟩,V,su,e⟩:=D
 refine(F Q q0).mono fun r h' ⟨er,Q',hq,q1,f⟩=>?_
 have hz:∀c,Z c→¬Q c:=fun c hz hc=>(k3 c hc).1 hz
 have I:OutAt h' (some C.E) n:=W1.out.fr f fun c hc _=>(k3 c hc).2
 have s:=f.1
 refine⟨er,⟨⟨A,B,Q',W1.other f hz (fun c hc=>(k1 c hc).2) I (zbl.refl n),W2.other f hz k2 I (zbl.refl n),q1,fun c hc=>⟨(k1 c hc).1,fun h=>?_⟩,fun c hc h=>?_,fun c hc=>?_,fun c hc=>?_⟩,V.chg f hz (I C.E rfl).1,su,e.then_fr f fun c hc=>(k4 c (.inr (.inr hc))).1⟩,f.mono fun c _ hc=>(k4 c (.inr (.inr hc))).2⟩
 ·rcases hq c h with h|h
  ·exact(k1 c hc).2 h
  ·have:=W1.bl c hc;omega
 ·rcases hq c h with h|h
  ·exact k2 c hc h
  ·have:=W2.bl c hc;omega
 ·rcases hq c hc with h|h
  ·exact k3 c h
  ·exact⟨fun hz=>by have:=W1.zl c hz;omega,W1.out.new h⟩
 ·have nw:∀c,h.size≤c→h0.size≤c∧¬X c:=fun c hc=>⟨by have:=e.1;omega,fun hx=>by have:=hX c hx;omega⟩
  rcases hc with hc|hc|hc
  ·exact k4 c (.inl hc)
  ·exact k4 c (.inr (.inl hc))
  ·rcases hq c hc with hc|hc
   ·exact k4 c (.inr (.inr hc))
   ·exact nw c hc
theorem c_duoSend (D:Duo C Z X h0 h n ba bb wa wb q)(hX:∀c,X c→c<h.size){x:Int}:FCall prog zbU #[ptr C.bq,.int .i64 x] h fun r h'=>r=.int .i64 (sendR q)∧Duo C Z X h0 h' n ba bb wa wb (sendQ q x)∧Fr (fun c=>¬X c) h h':=
 D.queue hX fun Q H=>(c_qSend H).mono fun r h' ⟨er,H',f⟩=>⟨er,_,fun c hc=>hc.imp id And.left,H',f⟩
theorem c_duoClose (D:Duo C Z X h0 h n ba bb wa wb q)(hX:∀c,X c→c<h.size):FCall prog zbd #[ptr C.bq] h fun r h'=>r=.bool (!q.closed)∧Duo C Z X h0 h' n ba bb wa wb {q with closed:=true}∧Fr (fun c=>¬X c) h h':=
 D.queue hX fun Q H=>(c_qClose H).mono fun r h' ⟨er,H',f⟩=>⟨er,_,fun c hc=>.inl hc,H',f⟩
theorem Duo.wa_st (D:Duo C Z X h0 h n ba bb wa wb q):(wa.state=1∧zg0 (some C.E) wa.job∧wa.tiles≠[])∨((wa.state=0∨wa.state=2)∧wa.job=none):=by
 obtain⟨⟨A,B,Q,W1,_⟩,_⟩:=D;exact W1.st
theorem Duo.room (D:Duo C Z X h0 h n ba bb wa wb q):q.Wf:=by
 obtain⟨⟨A,B,Q,W1,W2,q0,_⟩,_⟩:=D;exact q0.wf
theorem c_duoRun (D:Duo C Z X h0 h n ba bb wa wb q):FCall prog zaG #[ptr ba,ptr C.bq] h fun r h'=>r=.bool (decide (wa.state=1∨(wa.state=0∧recvR q≠1)))∧h'=h:=by
 obtain⟨⟨A,B,Q,W1,W2,q0,_⟩,_⟩:=D;exact zlV W1 q0
theorem c_duoState (D:Duo C Z X h0 h n ba bb wa wb q):FCall prog za1 #[ptr ba] h fun r h'=>r=.int .i64 wa.state∧h'=h:=by
 obtain⟨⟨A,B,Q,W1,W2,q0,_⟩,_⟩:=D;exact c_State W1
theorem c_duoTiles (D:Duo C Z X h0 h n ba bb wa wb q)(ht:wa.tiles.length≤1000000):FCall prog zbi #[ptr ba] h fun r h'=>New (Rp.int .i64) h h' r wa.tiles:=by
 obtain⟨⟨A,B,Q,W1,W2,q0,_⟩,_⟩:=D;exact c_Tiles W1 ht
end
def rowV (a:Bool)(x y:List Value):List Value:=if a then y++x else x++y
structure zbS (a:Bool)(C:C21)(Z X Zd:Nat→Prop)(N:Nat)(h0:Heap)(mv:Value)(bQ bW bV:Nat)(TQ TW TV:TypeId)(n:Pic)(ba bb:Nat)(wa wb:WD)(q:QD)(h:Heap):Prop where
 duo:Duo C Z X h0 h n ba bb wa wb q
 docq:∃ds,h[bQ]? =some (.cells ds.toArray TQ (0,0))∧rQ.R Zd h ds q
 arr:h[bW]? =some (.cells (rowV a [ptr ba] [ptr bb]).toArray TW (0,0))
 docw:∃ca cb,h[bV]? =some (.cells (rowV a ca cb).toArray TV (0,0))∧rVD.R Zd h ca (vOf C.E wa)∧rVD.R Zd h cb (vOf C.E wb)
 mvs:Rp.Sl rMvs Zd h mv (zco C N)
 zx:∀c,Zd c→X c∧c≠bQ∧c≠bW∧c≠bV
 xl:∀c,X c→c<h.size∧h0.size≤c∧¬Z c∧outV (some C.E) c∧¬outB (some C.E) c
 bx:X bQ∧X bW∧X bV∧bQ≠bW∧bQ≠bV∧bW≠bV
section
variable {a:Bool}{C:C21}{Z X Zd:Nat→Prop}{N:Nat}{h0 h:Heap}{mv:Value}{bQ bW bV:Nat}{TQ TW TV:TypeId}{n:Pic}{ba bb:Nat}{wa wb:WD}{q:QD}
theorem zbS.zl (P:zbS a C Z X Zd N h0 mv bQ bW bV TQ TW TV n ba bb wa wb q h):∀c,Zd c→c<h.size:=fun c hc=>(P.xl c (P.zx c hc).1).1
theorem zbS.grow {h':Heap}(P:zbS a C Z X Zd N h0 mv bQ bW bV TQ TW TV n ba bb wa wb q h)(e:Ext h h'):
  zbS a C Z (fun c=>X c∨(h.size≤c∧c<h'.size)) (fun c=>Zd c∨(h.size≤c∧c<h'.size)) N h0 mv bQ bW bV TQ TW TV n ba bb wa wb q h':=by
 obtain⟨D,⟨ds,rq,hq⟩,ar,⟨ca,cb,rv,va,vb⟩,ms,zx,xl,b1,b2,b3,b4⟩:=P
 have hl:=e.1
 have n0:=D.ext.1
 have q1:=(xl _ b1).1
 have q2:=(xl _ b2).1
 have q3:=(xl _ b3).1
 have out:OutAt h (some C.E) n:=by obtain⟨⟨A,B,Q,W1,_⟩,_⟩:=D;exact W1.out
 have hz:∀c,Z c→c<h.size:=by obtain⟨⟨A,B,Q,W1,_⟩,_⟩:=D;exact W1.zl
 refine⟨D.other (M:=fun _=>False) e.fr (fun _ hc=>hc.elim) fun c hc=>hc.imp id And.left,⟨ds,e.row rq,rQ.mono (rQ.ext hq e) fun c _ hc=>.inl hc⟩,e.row ar,⟨ca,cb,e.row rv,rVD.mono (rVD.ext va e) fun c _ hc=>.inl hc,rVD.mono (rVD.ext vb e) fun c _ hc=>.inl hc⟩,(ms.ext e).mono fun c _ hc=>.inl hc,fun c hc=>?_,fun c hc=>?_,.inl b1,.inl b2,.inl b3,b4⟩
 ·rcases hc with hc|hc
  ·exact⟨.inl (zx c hc).1,(zx c hc).2⟩
  ·exact⟨.inr hc,by omega,by omega,by omega⟩
 ·rcases hc with hc|hc
  ·exact⟨by have:=(xl c hc).1;omega,(xl c hc).2⟩
  ·exact⟨hc.2,by omega,fun h=>by have:=hz c h;omega,out.new hc.1⟩
theorem zbS.flip (P:zbS a C Z X Zd N h0 mv bQ bW bV TQ TW TV n ba bb wa wb q h):zbS (!a) C Z X Zd N h0 mv bQ bW bV TQ TW TV n bb ba wb wa q h:=by
 obtain⟨D,dq,ar,⟨ca,cb,rv,va,vb⟩,ms,zx,xl,bx⟩:=P
 exact⟨D.swap,dq,by cases a<;>exact ar,⟨cb,ca,by cases a<;>exact rv,vb,va⟩,ms,zx,xl,bx⟩
theorem zbS.zfr (P:zbS a C Z X Zd N h0 mv bQ bW bV TQ TW TV n ba bb wa wb q h):∀c,Zd c→¬(c=bQ∨c=bV∨¬X c):=fun c hc h=>by
 obtain⟨h1,h2,_,h3⟩:=P.zx c hc
 exact h.elim h2 fun h=>h.elim h3 fun h=>h h1
theorem zbS.touch {h':Heap}(P:zbS a C Z X Zd N h0 mv bQ bW bV TQ TW TV n ba bb wa wb q h)(f:Fr (fun c=>c=bQ∨c=bV) h h'):Duo C Z X h0 h' n ba bb wa wb q:=
 P.duo.other f (fun c hc _=>by
  have k:X c:=hc.elim (fun e=>e▸P.bx.1) fun e=>e▸P.bx.2.2.1
  exact⟨(P.xl c k).2.1,k,(P.xl c k).2.2⟩) fun c hc=>.inl hc
theorem zbS.next {h':Heap}{n':Pic}{wa':WD}{q':QD}{ds ca cb:List Value}(P:zbS a C Z X Zd N h0 mv bQ bW bV TQ TW TV n ba bb wa wb q h)(D:Duo C Z X h0 h' n' ba bb wa' wb q')(f:Fr (fun c=>c=bQ∨c=bV∨¬X c) h h')
  (rq:h'[bQ]? =some (.cells ds.toArray TQ (0,0))) (hq:rQ.R Zd h' ds q') (rv:h'[bV]? =some (.cells (rowV a ca cb).toArray TV (0,0))) (va:rVD.R Zd h' ca (vOf C.E wa')) (vb:rVD.R Zd h' cb (vOf C.E wb)):zbS a C Z X Zd N h0 mv bQ bW bV TQ TW TV n' ba bb wa' wb q' h':=
 ⟨D,⟨ds,rq,hq⟩,f.row P.arr fun h=>by
  obtain⟨b1,b2,b3,b4,b5,b6⟩:=P.bx
  exact h.elim (fun h=>b4 h.symm) fun h=>h.elim b6 fun h=>h b2,⟨ca,cb,rv,va,vb⟩,P.mvs.fr f fun c _ hc=>P.zfr c hc,P.zx,fun c hc=>⟨Nat.lt_of_lt_of_le (P.xl c hc).1 f.1,(P.xl c hc).2⟩,P.bx⟩
theorem zbS.ext (P:zbS a C Z X Zd N h0 mv bQ bW bV TQ TW TV n ba bb wa wb q h){h':Heap}(e:Ext h h'):zbS a C Z X Zd N h0 mv bQ bW bV TQ TW TV n ba bb wa wb q h':=by
 obtain⟨ds,rq,hq⟩:=P.docq
 obtain⟨ca,cb,rv,va,vb⟩:=P.docw
 exact P.next (P.touch e.fr) e.fr (e.row rq) (rQ.ext hq e) (e.row rv) (rVD.ext va e) (rVD.ext vb e)
end
end
section
section
variable {a:Bool}{C:C21}{Z X Zd:Nat→Prop}{N:Nat}{h0 h:Heap}{mv:Value}{bQ bW bV:Nat}{TQ TW TV:TypeId}{n:Pic}{ba bb:Nat}{wa wb:WD}{q:QD}
theorem play_send (P:zbS a C Z X Zd N h0 mv bQ bW bV TQ TW TV n ba bb wa wb q h){x:Int}{R J:Heap→Prop}(HJ:∀X' Zd' h',zbS a C Z X' Zd' N h0 mv bQ bW bV TQ TW TV n ba bb wa wb (sendQ q x) h'→J h'):
  vK (ldsV 3 h (ptr bQ)) fun v231=>FCall prog zge #[v231,.int .i64 x] h fun v232 h233=>vK (extV v232 0) fun v234=>vK (extV v232 1) fun v235=>
  newK #[(.int .i64 0),(.slice none 0 0),(.bool false)] TQ h233 fun v236 h237=>stK 3 v236 v234 h237 fun v238 h239=>vK (ldsV 3 h239 v236) fun v240=>stK 3 (ptr bQ) v240 h239 fun v241 h242=>
  FCall prog zbU #[ptr C.bq,.int .i64 x] h242 fun v243 h244=>vK (binV .i .neq v243 v235) fun v245=>iteK v245 (R h244) (J h244):=by
 obtain⟨ds,rq,hq⟩:=P.docq
 have wf:=P.duo.room
 have hr:=wf.l
 have hr2:=wf.r2
 rw[zao rq 3 (rQ.len hq),zaa]
 refine(c_r18Send hq (by omega)).mono fun r g1 ⟨ds',er,hq1,e1⟩=>?_
 subst er
 have x0:∀a b:Value,extV (.tuple #[a,b]) 0=some a:=fun _ _=>rfl
 have x1:∀a b:Value,extV (.tuple #[a,b]) 1=some b:=fun _ _=>rfl
 simp only[x0,x1,zaa]
 have l3:=rQ.len hq1
 refine za0 l3 (rQ.one hq1) l3 fun b g2 r2 e2 n2=>?_
 rw[zao r2 3 l3,zaa]
 have P2:=(P.grow e1).grow e2
 obtain⟨ds0,rq2,hq2⟩:=P2.docq
 obtain⟨ca,cb,rv,va,vb⟩:=P2.docw
 refine zaP rq2 (by rw[l3,List.size_toArray,rQ.len hq2]) (rQ.one hq1) l3 fun g3 rq3 u=>?_
 have f1:Fr (fun c=>c=bQ∨c=bV) g2 g3:=u.fr.mono fun _ _ h=>.inl h
 refine(c_duoSend (P2.touch f1) fun c hc=>by rw[u.1];exact(P2.xl c hc).1).mono fun r g4 ⟨er,D4,f4⟩=>?_
 subst er
 simp only[go_sem]
 have hq3:rQ.R _ g4 ds' (sendQ q x):=rQ.fr (rQ.fr (rQ.mono (rQ.ext hq1 e2) fun c _ hc=>.inl hc) f1 fun c _ hc h=>P2.zfr c hc (h.imp id .inl)) f4 fun c _ hc h=>P2.zfr c hc (.inr (.inr h))
 have f5:=(f1.mono (M':=fun c=>c=bQ∨c=bV∨¬_) fun c _ h=>h.imp id .inl).after f4 fun c _ h=>.inr (.inr h)
 obtain⟨b1,b2,b3,b4,b5,b6⟩:=P2.bx
 exact HJ _ _ g4 (P2.next D4 f5 (f4.row rq3 fun h=>h b1) hq3 (f4.row (u.row (fun h=>b5 h.symm) rv) fun h=>h b3) (rVD.fr (rVD.fr va f1 fun c _ hc h=>P2.zfr c hc (h.imp id .inl)) f4 fun c _ hc h=>P2.zfr c hc (.inr (.inr h))) (rVD.fr (rVD.fr vb f1 fun c _ hc h=>P2.zfr c hc (h.imp id .inl)) f4 fun c _ hc h=>P2.zfr c hc (.inr (.inr h))))
theorem play_close (P:zbS a C Z X Zd N h0 mv bQ bW bV TQ TW TV n ba bb wa wb q h){J:Heap→Prop}(HJ:∀h',zbS a C Z X Zd N h0 mv bQ bW bV TQ TW TV n ba bb wa wb {q with closed:=true} h'→J h'):
  FCall prog zbd #[ptr C.bq] h fun v248 h249=>vK (fldV 2 (ptr bQ)) fun v250=>stK 1 v250 (.bool true) h249 fun v251 h252=>J h252:=by
 obtain⟨ds,rq,hq⟩:=P.docq
 obtain⟨ca,cb,rv,va,vb⟩:=P.docw
 obtain⟨lv,rfl,hl,hcap⟩:=hq
 obtain⟨b1,b2,b3,b4,b5,b6⟩:=P.bx
 refine(c_duoClose P.duo fun c hc=>(P.xl c hc).1).mono fun r g1 ⟨_,D1,f1⟩=>?_
 simp only[go_sem,Nat.zero_add]
 refine zaA (f1.row rq fun h=>h b1) (by simp) rfl fun g2 rq2 u=>?_
 have f2:Fr (fun c=>c=bQ∨c=bV) g1 g2:=u.fr.mono fun _ _ h=>.inl h
 have nz:∀c,Zd c→¬ ¬X c:=fun c hc h=>h (P.zx c hc).1
 have nq:∀c,Zd c→¬(c=bQ∨c=bV):=fun c hc h=>P.zfr c hc (h.imp id .inl)
 have D2:Duo C Z X h0 g2 n ba bb wa wb {q with closed:=true}:=D1.other f2 (fun c hc _=>by
  have k:X c:=hc.elim (fun e=>e▸b1) fun e=>e▸b3
  exact⟨(P.xl c k).2.1,k,(P.xl c k).2.2⟩) fun c hc=>.inl hc
 exact HJ g2 (P.next (ds:=[.int .i64 q.room,lv,.bool true]) D2 ((f1.mono (M':=fun c=>c=bQ∨c=bV∨¬X c) fun c _ h=>.inr (.inr h)).after f2 fun c _ h=>h.imp id .inl) rq2 ⟨lv,rfl,(hl.fr f1 fun c _=>nz c).fr f2 fun c _=>nq c,hcap⟩ (u.row (fun h=>b5 h.symm) (f1.row rv fun h=>h b3)) (rVD.fr (rVD.fr va f1 fun c _ hc=>nz c hc) f2 fun c _ hc=>nq c hc) (rVD.fr (rVD.fr vb f1 fun c _ hc=>nz c hc) f2 fun c _ hc=>nq c hc))
end
end
section
theorem could_step {E:Option WE}{jo:Option (TileD×Int×Int)}{w:WD}{d:QD}(h:(w.state=1∧zg0 E w.job∧w.tiles≠[])∨((w.state=0∨w.state=2)∧w.job=none)):
  decide (w.state=1∨(w.state=0∧recvR d≠1))=decide ((stepW E jo w d).2.2.1≠0):=by
 have hr:recvR d=0∨recvR d=1∨recvR d=2:=by
  unfold recvR
  split
  ·split<;>simp
  ·simp
 obtain⟨st,tl,j,wd⟩:=w
 rcases h with⟨h1,h2,h3⟩|⟨h1|h1,h2⟩
 ·have h1:st=1:=h1
  subst h1
  cases j with
  |none=>exact(show False from h2).elim
  |some x=>
   cases E with
   |none=>exact(show False from h2).elim
   |some E=>rfl
 ·have h1:st=0:=h1
  subst h1
  rcases hr with h|h|h<;>simp[stepW,h]
 ·have h1:st=2:=h1
  subst h1
  simp[stepW]
theorem left_goes {E:WE}{jo:Option (TileD×Int×Int)}(h:zg0 (some E) jo):zeT E jo≠[]:=by
 cases jo with
 |none=>exact(show False from h).elim
 |some x=>exact fun h1=>(show stepK (E.d x.1) x.2.1 x.2.2≠0 from h) (zlF.1 h1)
theorem IsW.job_e {Z B:Nat→Prop}{h:Heap}{bw:Nat}{E:WE}{n:Pic}{w:WD}(H:IsW Z B h bw (some E) n w):∀t y e,w.job=some (t,y,e)→e≤lnE E.s.y y:=by
 obtain⟨⟨tv,jv,Bj,r,o,J,_⟩,_,_,_,_,_,st⟩:=H
 intro t y e hj
 rw[hj]at J st
 obtain⟨E',hE,ok,hc,bj,rv,_,S⟩:=J
 cases hE
 obtain⟨⟨M,rs,_,_,k⟩,_⟩:=S
 rcases st with⟨_,h2,_⟩|⟨_,h⟩
 ·have h2:stepK (E.d t) y e≠0:=h2
  unfold stepK at h2
  split at h2
  ·exact absurd rfl h2
  ·exact(k (by omega)).2.2
 ·cases h
section
variable {a:Bool}{C:C21}{Z X Zd:Nat→Prop}{N:Nat}{h0 h:Heap}{mv:Value}{bQ bW bV:Nat}{TW TV:TypeId}{n:Pic}{ba bb:Nat}{wa wb:WD}{q:QD}
def aN (a:Bool):Nat:=if a then 1 else 0
theorem rowV_wr {a:Bool}{x y x':List Value}{k:Nat}(h:x.length=k)(hy:y.length=k)(h':x'.length=k):wrL (rowV a x y).toArray (aN a*k) x'=(rowV a x' y).toArray:=by
 apply Array.ext_getElem?
 intro i
 cases a
 ·simp only[rowV,aN,Nat.zero_mul,Bool.false_eq_true,if_false]
  rw[zpL _ _ _ _ (by simp;omega)]
  simp only[List.getElem?_toArray,List.getElem?_append,Nat.zero_add,Nat.sub_zero,Nat.zero_le,true_and]
  by_cases h1:i<x'.length
  ·rw[if_pos h1,if_pos h1]
  ·rw[if_neg h1,if_neg h1,if_neg (by omega),h,h']
 ·simp only[rowV,aN,Nat.one_mul,if_true]
  rw[zpL _ _ _ _ (by simp;omega)]
  simp only[List.getElem?_toArray,List.getElem?_append]
  by_cases h1:i<k
  ·rw[if_neg (by omega),if_pos (by omega),if_pos (by omega)]
  ·rw[if_neg (show¬i<y.length by omega),if_neg (show¬i<y.length by omega)]
   by_cases h2:i<k+k
   ·rw[if_pos (by omega),hy]
   ·rw[if_neg (by omega),List.getElem?_eq_none (by omega),List.getElem?_eq_none (by omega)]
theorem rowV_lds {g:Heap}{b k:Nat}{T:TypeId}{x y:List Value}(r:g[b]? =some (.cells (rowV a x y).toArray T (0,0)))(hx:x.length=k)(hy:y.length=k):ldsV k g (.pointer (some ⟨b,aN a*k,none⟩))=some (.agg x.toArray):=by
 refine lds_part r _ _ _ ?_ hx
 subst hx
 cases a
 ·simp[rowV,aN]
 ·simp only[rowV,aN,if_true,Nat.one_mul]
  rw[←hy,List.drop_left,hy,List.take_length]
theorem zpV {g:Heap}{b:Nat}{T:TypeId}{x y:Value}(r:g[b]? =some (.cells (rowV a [x] [y]).toArray T (0,0))):ldV g (.pointer (some ⟨b,aN a*1,none⟩))=some x:=by
 cases a<;>exact zad r
theorem zk5 (k b:Nat):idxaV 2 k (ptr b) (.int .i64 (aN a:Int))=some (.pointer (some ⟨b,aN a*k,none⟩)):=by
 have:∀m:Nat,m<2→idxaV 2 k (ptr b) (.int .i64 (m:Int))=some (.pointer (some ⟨b,m*k,none⟩)):=by
  intro m hm
  show(if(0:Int)≤(m:Int)∧(m:Int)<((2:Nat):Int)then some (Value.pointer (some ((⟨b,0,none⟩:Addr).add ((m:Int).toNat*k))))else none)=_
  rw[if_pos (by omega),zd1,Nat.zero_add,Int.toNat_natCast]
 exact this _ (by cases a<;>decide)
theorem play_step (O:C.Ok)(G:GlobB h0)(P:zbS a C Z X Zd N h0 mv bQ bW bV 75 TW TV n ba bb wa wb q h)(hN:(N:Int)=zcf C.d)(ht:wa.tiles.length≤1000000)(hb:∀c,outB (some C.E) c→h0.size≤c){TE:TypeId}{R J:Heap→Prop}
  (HJ:∀n' X' Zd' jo h',zbS a C Z X' Zd' N h0 mv bQ bW bV 75 TW TV n' ba bb (stepW (some C.E) jo wa q).1 wb (stepW (some C.E) jo wa q).2.1 h'→J h'):
  joinK (fun J256=>zpO (ptr bV) (.int .i64 (aN a:Int)) (ptr bQ) mv h J256) fun x257 j258 h259=>
  vK (idxaV 2 1 (ptr bW) (.int .i64 (aN a:Int))) fun v583=>vK (ldV h259 v583) fun v584=>
  FCall prog zaG #[v584,ptr C.bq] h259 fun v585 h586=>
  vK (idxaV 2 1 (ptr bW) (.int .i64 (aN a:Int))) fun v587=>vK (ldV h586 v587) fun v588=>
  FCall prog zaF #[v588,ptr C.bq,(.func (.func zaM) #[] #[ptr C.bp,ptr C.bm,ptr C.bn,ptr C.bs])] h586 fun v589 h590=>
  newK #[(.int .i64 0),(.int .i64 0),(.int .i64 0),(.int .i64 0)] TE h590 fun v591 h592=>stK 4 v591 v589 h592 fun v593 h594=>
  drawK h594 fun S=>qK S (fun h594=>ldsV 3 h594 (ix x257 0)) fun v595=>qK S (fun h594=>ldsV 3 h594 (ix x257 1)) fun v596=>
  vK (idxaV 2 3 (ptr bV) (.int .i64 (aN a:Int))) fun v597=>stK 3 v597 v595 h594 fun v598 h599=>S h599∧(stK 3 (ptr bQ) v596 h599 fun v600 h601=>
  vK (fldV 0 v591) fun v602=>vK (ldV h601 v602) fun v603=>vK (fldV 0 (ix x257 2)) fun v604=>vK (ldV h601 v604) fun v605=>vK (binV .i .neq v603 v605) fun v606=>
  vK (gV v606 false (fldV 1 v591)) fun v607=>vK (gV v606 false (ldV h601 v607)) fun v608=>vK (gV v606 false (fldV 1 (ix x257 2))) fun v609=>vK (gV v606 false (ldV h601 v609)) fun v610=>vK (gV v606 false (binV .i .neq v608 v610)) fun v611=>vK (pickV v606 (.bool true) v611) fun v612=>
  vK (gV v612 false (fldV 2 v591)) fun v613=>vK (gV v612 false (fldV 0 v613)) fun v614=>vK (gV v612 false (ldV h601 v614)) fun v615=>vK (gV v612 false (fldV 2 (ix x257 2))) fun v616=>vK (gV v612 false (fldV 0 v616)) fun v617=>vK (gV v612 false (ldV h601 v617)) fun v618=>vK (gV v612 false (binV .i .neq v615 v618)) fun v619=>vK (pickV v612 (.bool true) v619) fun v620=>
  vK (gV v620 false (fldV 2 v591)) fun v621=>vK (gV v620 false (fldV 1 v621)) fun v622=>vK (gV v620 false (ldV h601 v622)) fun v623=>vK (gV v620 false (fldV 2 (ix x257 2))) fun v624=>vK (gV v620 false (fldV 1 v624)) fun v625=>vK (gV v620 false (ldV h601 v625)) fun v626=>vK (gV v620 false (binV .i .neq v623 v626)) fun v627=>vK (pickV v620 (.bool true) v627) fun v628=>
  vK (gV v628 false (some v585)) fun v629=>vK (gV v628 false (fldV 0 (ix x257 2))) fun v630=>vK (gV v628 false (ldV h601 v630)) fun v631=>vK (gV v628 false (binV .i .neq v631 (.int .i64 0))) fun v632=>vK (gV v628 false (binV .b .neq v629 v632)) fun v633=>vK (pickV v628 (.bool true) v633) fun v634=>
  iteK v634 (R h601) (J h601)):=by
 obtain⟨ds,rq,hq⟩:=P.docq
 obtain⟨ca,cb,rv,va,vb⟩:=P.docw
 have la:=rVD.len va
 have lb:=rVD.len vb
 have st0:=P.duo.wa_st
 have hee:∀t y e,wa.job=some (t,y,e)→e≤lnE C.d.s.y y:=by
  obtain⟨⟨A,B,Q,W1,_⟩,_⟩:=P.duo
  exact W1.job_e
 have hs:=step_same (C:=C) hN (d:=q) st0 hee
 have hv1:(vOf C.E wa).state=1→(vOf C.E wa).tiles≠[]∧(vOf C.E wa).left≠[]:=by
  intro h1
  rcases st0 with⟨_,h2,h3⟩|⟨h2,_⟩
  ·exact⟨h3,left_goes h2⟩
  ·have h1:wa.state=1:=h1;omega
 refine zat (fun xs g=>∃x y z cs' ds',xs=[ptr x,ptr y,ptr z]∧StMk Zd h (stepV (zco C N) (vOf C.E wa) q).1 (stepV (zco C N) (vOf C.E wa) q).2.1 (some (cs',ds')) (some (x,some cs')) (some (y,some ds')) (some (z,some [.int .i64 (stepV (zco C N) (vOf C.E wa) q).2.2.1,.int .i64 (stepV (zco C N) (vOf C.E wa) q).2.2.2.1,.int .i64 (stepV (zco C N) (vOf C.E wa) q).2.2.2.2.1,.int .i64 (stepV (zco C N) (vOf C.E wa) q).2.2.2.2.2])) g) ?_ ?_
 ·exact step_tree (zk5 3 bV) (fun g' e=>rowV_lds (e.row rv) la lb) (fun g' e=>zao (e.row rq) 3 (rQ.len hq)) va hq P.mvs P.zl hv1 ht fun x y z cs' ds' g' S=>⟨x,y,z,cs',ds',rfl,S⟩
 rintro xs ρ g1 ⟨x,y,z,cs',ds',rfl,S⟩
 rw[hs]at S
 obtain⟨e1,res,vx,vy,vz,xy,xz,yz⟩:=S
 obtain⟨Zr,rx,ry,hzr⟩:=res _ rfl
 obtain⟨nx,gx⟩:=vx _ rfl
 obtain⟨ny,gy⟩:=vy _ rfl
 obtain⟨nz,gz⟩:=vz _ rfl
 have gx:g1[x]? =some (.cells cs'.toArray 81 (0,0)):=gx
 have gy:g1[y]? =some (.cells ds'.toArray 75 (0,0)):=gy
 have gz:g1[z]? =some (.cells #[.int .i64 (stepW (some C.E) (joP C (recvX q)) wa q).2.2.1,.int .i64 (stepW (some C.E) (joP C (recvX q)) wa q).2.2.2.1,.int .i64 (stepW (some C.E) (joP C (recvX q)) wa q).2.2.2.2.1,.int .i64 (stepW (some C.E) (joP C (recvX q)) wa q).2.2.2.2.2] 90 (0,0)):=gz
 have lx:=zau gx
 have ly:=zau gy
 have lz:=zau gz
 have P1:=P.grow e1
 have Xn:∀c,h.size≤c→c<g1.size→(X c∨(h.size≤c∧c<g1.size)):=fun c h1 h2=>.inr ⟨h1,h2⟩
 have i0:=zk5 (a:=a) 1 bW
 simp only[ix_0,ix_1,ix_2]
 rw[i0,zaa,zpV P1.arr,zaa]
 refine FCall.at (c_duoRun P1.duo) ?_
 rw[zaa,zpV P1.arr,zaa]
 refine(c_duo O G P1.duo ht hb fun c hc=>⟨(P1.xl c hc).1,(P1.xl c hc).2.2.2.2⟩).mono fun r g2 ⟨er,n',D2,f2⟩=>?_
 subst er
 have hc0:=could_step (jo:=joP C (recvX q)) (d:=q) st0
 refine za0 (cs:=[.int .i64 (stepW (some C.E) (joP C (recvX q)) wa q).2.2.1,.int .i64 (stepW (some C.E) (joP C (recvX q)) wa q).2.2.2.1,.int .i64 (stepW (some C.E) (joP C (recvX q)) wa q).2.2.2.2.1,.int .i64 (stepW (some C.E) (joP C (recvX q)) wa q).2.2.2.2.2]) rfl (zac rfl (zac rfl (zac rfl (zac rfl zal)))) rfl fun be g3 re e3 ne=>?_
 generalize hev:(stepW (some C.E) (joP C (recvX q)) wa q).2.2=ev at*
 obtain⟨ds1,rq1,hq1⟩:=P1.docq
 obtain⟨ca1,cb1,rv1,va1,vb1⟩:=P1.docw
 obtain⟨b1,b2,b3,b4,b5,b6⟩:=P1.bx
 have la1:ca1.length=3:=rVD.len va1
 have lb1:cb1.length=3:=rVD.len vb1
 have rx:rVD.R Zr g1 cs' (vOf C.E (stepW (some C.E) (joP C (recvX q)) wa q).1):=rx
 have ry:rQ.R Zr g1 ds' (stepW (some C.E) (joP C (recvX q)) wa q).2.1:=ry
 have lx3:cs'.length=3:=rVD.len rx
 have ly3:ds'.length=3:=rQ.len ry
 have hV:=P1.xl _ b3
 have hQ:=P1.xl _ b1
 have vl:=zau rv
 have ql:=zau rq
 have xV:x≠bV:=by omega
 have yV:y≠bV:=by omega
 have zV:z≠bV:=by omega
 have zQ:z≠bQ:=by omega
 have g12:=f2.1
 have eV:be≠bV:=by omega
 have eQ:be≠bQ:=by omega
 have gx3:=e3.row (f2.row gx fun h=>h (Xn x nx lx))
 have gy3:=e3.row (f2.row gy fun h=>h (Xn y ny ly))
 have gz3:=e3.row (f2.row gz fun h=>h (Xn z nz lz))
 have rq3:=e3.row (f2.row rq1 fun h=>h b1)
 have rv3:=e3.row (f2.row rv1 fun h=>h b3)
 refine zap (Upd bV g3) Upd.refl ?_
 refine zaf (.agg cs'.toArray) (fun k u=>zao (u.row xV gx3) 3 lx3) ?_
 refine zaf (.agg ds'.toArray) (fun k u=>zao (u.row yV gy3) 3 ly3) ?_
 rw[zk5 3 bV,zaa]
 have hsz:aN a*3+cs'.length≤(rowV a ca1 cb1).toArray.size:=by cases a<;>simp[aN,rowV]<;>omega
 refine stN rv3 hsz (rVD.one rx) lx3 ?_
 rw[rowV_wr la1 lb1 lx3]
 have rv4:=zdU (o':=.cells (rowV a cs' cb1).toArray TV (0,0)) rv3
 have u4:Upd bV g3 _:=Upd.set (h:=g3) (o:=.cells (rowV a cs' cb1).toArray TV (0,0))
 generalize zbv g3 bV (.cells (rowV a cs' cb1).toArray TV (0,0))=g4 at rv4 u4 ⊢
 refine⟨u4,?_⟩
 refine zaP (u4.row b5 rq3) (by rw[ly3,List.size_toArray,rQ.len hq1];rfl) (rQ.one ry) ly3 fun g5 rq5 u5=>?_
 have re5:=u5.row eQ (u4.row eV re)
 have gz5:=u5.row zQ (u4.row zV gz3)
 have k0:ldV g5 (ptr be)=some (.int .i64 ev.1):=zad re5
 have k1:ldV g5 (.pointer (some ⟨be,1,none⟩))=some (.int .i64 ev.2.1):=zad re5
 have k2:ldV g5 (.pointer (some ⟨be,2,none⟩))=some (.int .i64 ev.2.2.1):=zad re5
 have k3:ldV g5 (.pointer (some ⟨be,3,none⟩))=some (.int .i64 ev.2.2.2):=zad re5
 have z0:ldV g5 (ptr z)=some (.int .i64 ev.1):=zad gz5
 have z1:ldV g5 (.pointer (some ⟨z,1,none⟩))=some (.int .i64 ev.2.1):=zad gz5
 have z2:ldV g5 (.pointer (some ⟨z,2,none⟩))=some (.int .i64 ev.2.2.1):=zad gz5
 have z3:ldV g5 (.pointer (some ⟨z,3,none⟩))=some (.int .i64 ev.2.2.2):=zad gz5
 have nn:∀i:Int,binV .i .neq (.int .i64 i) (.int .i64 i)=some (.bool false):=fun i=>by simp only[go_sem]
 have nb:∀i:Bool,binV .b .neq (.bool i) (.bool i)=some (.bool false):=fun i=>by cases i<;>rfl
 have pk:pickV (.bool false) (.bool true) (.bool false)=some (.bool false):=rfl
 have gf:∀r,gV (.bool false) false r=r:=fun r=>rfl
 have f0:∀b:Nat,fldV 0 (ptr b)=some (ptr b):=fun b=>by rw[ziH]
 have ne0:binV .i .neq (.int .i64 ev.1) (.int .i64 0)=some (.bool (decide (ev.1≠0))):=by simp only[go_sem]
 simp only[f0,ziH,zaa,k0,k1,k2,k3,z0,z1,z2,z3,nn,nb,pk,gf,Nat.zero_add,Nat.reduceAdd,ne0,hc0,zbk]
 have hx:∀c,c=bQ∨c=bV→X c∨(h.size≤c∧c<g1.size):=fun c hc=>hc.elim (fun e=>e▸b1) fun e=>e▸b3
 have f25:Fr (fun c=>c=bQ∨c=bV) g2 g5:=((e3.fr (M:=fun c=>c=bQ∨c=bV)).after u4.fr fun c _ h=>.inr h).after u5.fr fun c _ h=>.inl h
 have D5:=D2.other (X':=fun c=>X c∨(h.size≤c∧c<g1.size)) f25 (fun c hc _=>⟨(P1.xl c (hx c hc)).2.1,hx c hc,(P1.xl c (hx c hc)).2.2⟩) fun c hc=>.inl hc
 have f15:Fr (fun c=>c=bQ∨c=bV∨¬(X c∨(h.size≤c∧c<g1.size))) g1 g5:=(f2.mono (M':=fun c=>c=bQ∨c=bV∨¬(X c∨(h.size≤c∧c<g1.size))) fun c _ h=>.inr (.inr h)).after f25 fun c _ h=>h.imp id .inl
 have hzz:∀c,c<g1.size→Zr c→Zd c∨(h.size≤c∧c<g1.size):=fun c hl hc=>(hzr c hc).1.imp id fun h=>⟨h,hl⟩
 exact HJ n' _ _ (joP C (recvX q)) g5 (P1.next (ds:=ds') (ca:=cs') (cb:=cb1) D5 f15 rq5 (rQ.fr (rQ.mono ry hzz) f15 fun c _ hc=>P1.zfr c hc) (u5.row (fun h=>b5 h.symm) rv4) (rVD.fr (rVD.mono rx hzz) f15 fun c _ hc=>P1.zfr c hc) (rVD.fr vb1 f15 fun c _ hc=>P1.zfr c hc))
end
end
theorem rowV_c {g:Heap}{b:Nat}{T:TypeId}{x y:List Value}(r:g[b]? =some (.cells (rowV true x y).toArray T (0,0)))(hy:y.length=3)(k:Nat)(hk:k<x.length):ldV g (.pointer (some ⟨b,3+k,none⟩))=some x[k]:=by
 show zag g ⟨b,3+k,none⟩=_
 rw[zad r]
 show(y++x).toArray[3+k]? =_
 rw[List.getElem?_toArray,List.getElem?_append_right (by omega),hy,Nat.add_sub_cancel_left,List.getElem?_eq_getElem hk]
theorem play_check {C:C21}{Z X Zd:Nat→Prop}{N:Nat}{h0 h:Heap}{mv:Value}{bQ bW bV:Nat}{TQ TW TV:TypeId}{n:Pic}{ba bb:Nat}{wa wb:WD}{q:QD}(P:zbS false C Z X Zd N h0 mv bQ bW bV TQ TW TV n ba bb wa wb q h)(ta:wa.tiles.length≤1000000)(tb:wb.tiles.length≤1000000){R K:Heap→Prop}(HK:∀h',zbS false C Z X Zd N h0 mv bQ bW bV TQ TW TV n ba bb wa wb q h'→K h'):
  loopK [(.int .i64 0)] h fun x635 j636 h637 again638=>vK (binV .i .lss (ix x635 0) (.int .i64 2)) fun v639=>iteK v639 (
  vK (idxaV 2 1 (ptr bW) (ix x635 0)) fun v640=>vK (ldV h637 v640) fun v641=>FCall prog zbi #[v641] h637 fun v642 h643=>
  drawK h643 fun S=>vK (idxaV 2 1 (ptr bW) (ix x635 0)) fun v644=>qK S (fun h643=>ldV h643 v644) fun v645=>vK (idxaV 2 3 (ptr bV) (ix x635 0)) fun v646=>vK (fldV 0 v646) fun v647=>qK S (fun h643=>ldV h643 v647) fun v648=>
  FCall prog za1 #[v645] h643 fun v649 h650=>S h650∧(vK (binV .i .neq v649 v648) fun v651=>vK (gV v651 false (some v642)) fun v652=>qK S (fun h650=>gV v651 false (zae v652)) fun v653=>vK (gV v651 false (some (ix x635 0))) fun v654=>vK (gV v651 false (idxaV 2 3 (ptr bV) v654)) fun v655=>vK (gV v651 false (fldV 1 v655)) fun v656=>
  qK S (fun h650=>gV v651 false (ldV h650 v656)) fun v657=>qK S (fun h650=>gV v651 false (zae v657)) fun v658=>vK (gV v651 false (binV .i .neq v653 v658)) fun v659=>vK (pickV v651 (.bool true) v659) fun v660=>iteK v660 (R h650) (
  vK (zae v642) fun v661=>loopK [(.int .i64 0)] h650 fun x662 j663 h664 again665=>vK (binV .i .lss (ix x662 0) v661) fun v666=>iteK v666 (
  vK (idxV 1 v642 (ix x662 0)) fun v667=>vK (ldV h664 v667) fun v668=>vK (idxaV 2 3 (ptr bV) (ix x635 0)) fun v669=>vK (fldV 1 v669) fun v670=>vK (ldV h664 v670) fun v671=>vK (idxV 1 v671 (ix x662 0)) fun v672=>vK (ldV h664 v672) fun v673=>vK (binV .i .neq v668 v673) fun v674=>iteK v674 (R h664) (
  vK (binV .i .add (ix x662 0) (.int .i64 1)) fun v675=>again665 [v675] h664)) (vK (binV .i .add (ix x635 0) (.int .i64 1)) fun v676=>again638 [v676] h664)))) (K h637):=by
 refine zaE (α:=Unit) 2 0 (fun i _=>[.int .i64 (i:Int)]) (fun i _ g=>zbS false C Z X Zd N h0 mv bQ bW bV TQ TW TV n ba bb wa wb q g) () rfl (Nat.zero_le _) P fun i _ g again ρ _ hi P Hag=>?_
 simp only[ix_0]
 rw[zbJ,zaa]
 refine zab (fun g1=>?_) (fun g1=>?_)
 ·have hi':i<2:=by omega
  obtain⟨a,ca,cb,cwa,cwb,hia,Pa,tca⟩:∃a ca cb cwa cwb,i=aN a∧zbS a C Z X Zd N h0 mv bQ bW bV TQ TW TV n ca cb cwa cwb q g∧cwa.tiles.length≤1000000:=by
   rcases(show i=0∨i=1 by omega)with h|h
   ·exact⟨false,ba,bb,wa,wb,h,P,ta⟩
   ·exact⟨true,bb,ba,wb,wa,h,P.flip,tb⟩
  subst hia
  have i1:=zk5 (a:=a) 1 bW
  have i3:=zk5 (a:=a) 3 bV
  rw[i1,zaa,zpV Pa.arr,zaa]
  refine(c_duoTiles Pa.duo tca).mono fun v g2 NT=>?_
  have E:=NT.2.1
  have Pb:=Pa.ext E
  obtain⟨x,y,rv,va,vb⟩:=Pb.docw
  have lx:x.length=3:=rVD.len va
  have ly:y.length=3:=rVD.len vb
  obtain⟨tv,lv,rfl,HT,HL,hcap⟩:=va
  have HT:Rp.Sl (Rp.int .i64) Zd g2 tv cwa.tiles:=HT
  have q0:ldV g2 (.pointer (some ⟨bV,aN a*3,none⟩))=some (.int .i64 cwa.state):=by cases a<;>first|exact zad rv|exact rowV_c rv ly 0 (by simp)
  have q1:ldV g2 (.pointer (some ⟨bV,aN a*3+1,none⟩))=some tv:=by cases a<;>first|exact zad rv|exact rowV_c rv ly 1 (by simp)
  refine zap (fun k=>k=g2) rfl ?_
  rw[zaa]
  refine zaf (ptr ca) (fun k e=>by rw[e];exact zpV Pb.arr) ?_
  rw[i3,zaa,ziH,zaa]
  refine zaf (.int .i64 cwa.state) (fun k e=>by rw[e];exact q0) ?_
  refine FCall.at (c_duoState Pb.duo) ⟨rfl,?_⟩
  obtain⟨a1,c1,ev⟩:=NT.1.sl.isSl
  obtain⟨a2,c2,et⟩:=HT.isSl
  have el1:zae v=some (.int .i64 (cwa.tiles.length:Int)):=by rw[ev];rfl
  have el2:zae tv=some (.int .i64 (cwa.tiles.length:Int)):=by rw[et];rfl
  have nn:∀i:Int,binV .i .neq (.int .i64 i) (.int .i64 i)=some (.bool false):=fun i=>by simp only[go_sem]
  have gf:∀r,gV (.bool false) false r=r:=fun r=>rfl
  have pk:pickV (.bool false) (.bool true) (.bool false)=some (.bool false):=rfl
  rw[nn,zaa,gf,zaa]
  refine zaf (.int .i64 (cwa.tiles.length:Int)) (fun k e=>by rw[gf];exact el1) ?_
  rw[gf,zaa,gf,i3,zaa,gf,ziH,zaa]
  refine zaf tv (fun k e=>by rw[gf,e];exact q1) ?_
  refine zaf (.int .i64 (cwa.tiles.length:Int)) (fun k e=>by rw[gf];exact el2) ?_
  rw[gf,nn,zaa,pk,zaa,zbk,el1,zaa]
  refine zaE (α:=Unit) cwa.tiles.length 0 (fun j _=>[.int .i64 (j:Int)]) (fun j _ g=>g=g2) () rfl (Nat.zero_le _) rfl fun j _ g3 again' ρ' _ hj eg Hag'=>?_
  subst eg
  simp only[ix_0]
  rw[zbJ,zaa]
  refine zab (fun g3=>?_) (fun g3=>?_)
  ·have hj':j<cwa.tiles.length:=by omega
   have hw':(j:Int)+1=((j+1:Nat):Int):=by omega
   obtain⟨p1,d1,d2⟩:=NT.1.sl.int_at (k':=.i64) hj'
   obtain⟨p2,d3,d4⟩:=HT.int_at (k':=.i64) hj'
   rw[d1,zaa,d2,zaa,zaa,ziH,zaa,q1,zaa,d3,zaa,d4,zaa,nn,zaa,zbk]
   simp only[go_sem]
   rw[w64 (n:=(j:Int)+1) (by omega) (by omega),hw']
   exact Hag' () _ hj' rfl
  ·have hw':((aN a:Nat):Int)+1=((aN a+1:Nat):Int):=by omega
   simp only[go_sem]
   rw[w64 (n:=((aN a:Nat):Int)+1) (by omega) (by omega),hw']
   exact Hag () _ hi' (P.ext E)
 ·exact HK g P
theorem znd {E:Option WE}{jo:Option (TileD×Int×Int)}{w:WD}{d:QD}:(stepW E jo w d).1.tiles.length≤w.tiles.length+1:=by
 obtain⟨st,tl,j,wd⟩:=w
 unfold stepW
 split
 ·split
  ·exact Nat.le_succ _
  ·exact Nat.le_succ _
 ·split
  ·exact Nat.le_succ _
  ·split
   ·simp[tookW]
   ·split<;>exact Nat.le_succ _
def PlayAt (C:C21)(Z:Nat→Prop)(N:Nat)(h0:Heap)(mv:Value)(bQ bW bV:Nat)(TQ TW TV:TypeId)(ba bb:Nat)(i:Nat)(h:Heap):Prop:=
 ∃X Zd n wa wb q,zbS false C Z X Zd N h0 mv bQ bW bV TQ TW TV n ba bb wa wb q h∧wa.tiles.length≤i∧wb.tiles.length≤i
theorem vK_at {o:Option Value}{v:Value}{K:Value→Prop}(h:o=some v)(H:K v):vK o K:=by rw[h,zaa];exact H
theorem u8mod {t m:Int}(h:B8 t)(hm:0<m∧m≤100){K:Value→Prop}(H:K (.int .i64 (1+t%m))):vK (binV .i .rem (.int .u8 t) (.int .u8 m)) fun a=>vK (cviV .i64 a) fun b=>vK (binV .i .add (.int .i64 1) b) fun c=>K c:=by
 have h13:0≤t%m∧t%m<m:=⟨Int.emod_nonneg _ (by omega),Int.emod_lt_of_pos _ (by omega)⟩
 rw[zaW _ _ _ _ (by omega),zaa,Int.tmod_eq_emod_of_nonneg h.1]
 simp only[go_sem]
 rw[w64 (n:=t%m) (by omega) (by omega),w64 (n:=1+t%m) (by omega) (by omega)]
 exact H
theorem zq3 {h:Heap}(G:GlobB h){cs os:List Value}{a:PicA}{o:OpD}{Z1 Z2 Z3:Nat→Prop}(H:rPicA.R Z1 h cs a)(WA:a.Wf)(HO:rOp.R Z2 h os o)(WO:OpsWf [o]){tw th room:Int}(hw:B8 tw)(hh:B8 th)(hr:B8 room){dv:Value}{l:List Int}(HD:Rp.Sl (Rp.int .u8) Z3 h dv l)(h8b:∀x∈l,B8 x)(hl:l.length≤1000000000000000):
  FCall prog zdf #[.agg cs.toArray,.agg os.toArray,.int .u8 tw,.int .u8 th,.int .u8 room,dv] h fun r h'=>r=.bool true∧Ext h h':=by
 apply zi0
 unfold zeQ
 simp only[zaJ]
 refine zah fun b1 h1 r1 e1 n1=>zah fun b3 h3 r3 e3 n3=>?_
 have E3:=e1.trans e3
 refine FCall.to (zpz (G.ext E3)) fun h6 e6=>?_
 have E6:=E3.trans e6
 obtain⟨av,cv,ev⟩:=HD.isSl
 have eld:zae dv=some (.int .i64 (l.length:Int)):=by rw[ev];rfl
 simp only[go_sem,eld]
 refine zab (fun g=>?_) (fun g=>?_)
 ·refine FCall.to (zpz (G.ext E6)) fun h7 e7=>?_
  exact⟨rfl,E6.trans e7⟩
 have hl2:l.length≤200:=by omega
 refine open21 (G.ext E6) ((e3.trans e6).row r1) (e6.row r3) (rPicA.ext H E6) WA (rOp.ext HO E6) WO hw hh (fun h' e=>⟨rfl,E6.trans e⟩) fun h7 Z bm bn bs bp bf vf bt vt p q rv bl pp pq B E7 V zn nbt nvt=>?_
 have mwf:=zlc a
 have OK:=B.stg
 have sui:=B.suits
 have nwf:=B.nwf
 have WP:(zpa a o tw th).Wf:=⟨OK.wf,by have:=hw;unfold B8 at this;show sideT (1+tw%13);unfold sideT;omega,by have:=hh;unfold B8 at this;show sideT (1+th%13);unfold sideT;omega⟩
 have GG:=G.ext E6
 have D0:=HD.ext E6
 obtain⟨C0,hC0⟩:∃C:C21,C=⟨bm,bn,bs,bp,bf,vf,bt,vt,p,q,rv,bl,pp,pq,drawA a,zpa a o tw th,0,0⟩:=⟨_,rfl⟩
 have CO0:C0.Ok:=by rw[hC0];exact⟨mwf,WP,OK⟩
 obtain⟨N,hN,N1,N2,hsum⟩:=bg_few (C:=C0) B hw.1 hh.1 (by rw[hC0])
 have VC:C0.Env Z h7 (bgN a o):=by rw[hC0];exact V
 clear V
 have su:C0.suits (bgN a o):=by rw[hC0];exact⟨nwf,sui⟩
 have eb:bp=C0.bp∧bm=C0.bm∧bn=C0.bn∧bs=C0.bs∧rv=C0.rv∧zpa a o tw th=C0.d:=by rw[hC0];exact⟨rfl,rfl,rfl,rfl,rfl,rfl⟩
 obtain⟨rfl,rfl,rfl,rfl,rfl,hd⟩:=eb
 have hout:∀c,outB (some C0.E) c→h6.size≤c:=by rw[hC0];exact nvt
 have hdw:C0.d.w=1+tw%13∧C0.d.h=1+th%13:=by rw[←hd];exact⟨rfl,rfl⟩
 clear hC0
 have V:=VC
 generalize bgN a o=n0 at*
 obtain⟨p5,ds,a1,a2,a3⟩:=V.ref.atw (show 0<5 by omega) (k:=.i64) (i:=0) (by simp)
 have a1:idxV 5 C0.rv (.int .i64 0)=some p5:=a1
 have a2:ldsV 5 h7 p5=some (.agg ds.toArray):=a2
 have a3:rStg.R Z h7 ds C0.d.s:=a3
 refine vK_at a1 (vK_at a2 ?_)
 have hr4:0≤room%4∧room%4<4:=⟨Int.emod_nonneg _ (by omega),Int.emod_lt_of_pos _ (by omega)⟩
 refine u8mod hw (by omega) ?_
 refine u8mod hh (by omega) ?_
 rw[←hdw.1,←hdw.2]
 have few:∀x∈C0.d.s.x.lines++C0.d.s.y.lines,x.2.length≤1073741824:=fun x hx=>by
  rcases List.mem_append.1 hx with h|h
  ·have:=(CO0.s.wf.x.taps x h).1;omega
  ·have:=(CO0.s.wf.y.taps x h).1;omega
 have hX:1≤C0.d.X:=by rw[←hd];show 1≤((bgS a o).x.lines.length:Int);have:=B.sx;omega
 have hY:1≤C0.d.Y:=by rw[←hd];show 1≤((bgS a o).y.lines.length:Int);have:=B.sy;omega
 refine(c_r14All a3 CO0.d few hN (by omega) hX hY).mono fun tv h8 NT=>?_
 have e8:=NT.2.1
 obtain⟨a8,c8,e8v⟩:=NT.1.sl.isSl
 have el8:zae tv=some (.int .i64 (N:Int)):=by rw[e8v];simp[zae,zcw]
 rw[el8,zaa]
 have a2':∀g',Ext h8 g'→ldsV 5 g' p5=some (.agg ds.toArray):=fun g' e=>(e8.trans e).lds a2
 refine moves_all CO0 a1 (rStg.ext a3 e8) a2' NT hN (by omega) fun mv h9 NM=>?_
 have nlt:∀c,blk mv c→c<h9.size:=fun c hc=>NM.lt hc
 obtain⟨Zm,NM,e9,nm,nz⟩:=NM
 simp only[ix_0]
 refine u8mod hr (by omega) ?_
 refine c_qNew.mono fun r h10 ⟨bq,er,Q10,e10,n10⟩=>?_
 subst er
 refine u8mod hr (by omega) ?_
 refine c_r18New.mono fun r h11 ⟨er,e11⟩=>?_
 subst er
 refine za0 (cs:=[.int .i64 (min (max 1 (1+room%4)) 4096),.slice none 0 0,.bool false]) rfl (zac rfl (zac rfl (zac rfl zal))) rfl fun bQ h12 r12 e12 n12=>?_
 refine zjM.mono fun r h13 ⟨ba,er,r13,e13,n13⟩=>?_
 subst er
 refine zjM.mono fun r h14 ⟨bb,er,r14,e14,n14⟩=>?_
 subst er
 have hf:(fillL #[(.pointer none),(.pointer none)] [(0,1,ptr ba),(1,1,ptr bb)]).map Value.agg=some (.agg [ptr ba,ptr bb].toArray):=rfl
 rw[hf,zaa]
 refine za0 (cs:=[ptr ba,ptr bb]) rfl (zac rfl (zac rfl zal)) rfl fun bW h15 r15 e15 n15=>?_
 refine zah fun bV h16 r16 e16 n16=>?_
 obtain⟨C,hC⟩:∃C:C21,C={C0 with bq:=bq}:=⟨_,rfl⟩
 have CO:C.Ok:=by rw[hC];exact⟨CO0.m,CO0.d,CO0.s⟩
 have VC:C.Env Z h7 n0:=by rw[hC];exact V
 have su':C.suits n0:=by rw[hC];exact su
 have eb:bq=C.bq∧C0.bp=C.bp∧C0.bm=C.bm∧C0.bn=C.bn∧C0.bs=C.bs∧zco C0 N=zco C N:=by rw[hC];exact⟨rfl,rfl,rfl,rfl,rfl,rfl⟩
 have hNC:(N:Int)=zcf C.d:=by rw[hC];exact hN
 have hout':∀c,outB (some C.E) c→h6.size≤c:=by rw[hC];exact hout
 obtain⟨rfl,eb1,eb2,eb3,eb4,eb5⟩:=eb
 rw[eb1,eb2,eb3,eb4]
 rw[eb5]at NM
 clear hC
 have zl:=VC.set.zl
 have I7:OutAt h7 (some C.E) n0:=fun E' hE=>by cases hE;exact⟨VC.set.out,su'.1⟩
 have s8:=e8.1
 have s9:=e9.1
 have s10:=e10.1
 have s11:=e11.1
 have s12:=e12.1
 have s13:=e13.1
 have s14:=e14.1
 have s15:=e15.1
 have s16:=e16.1
 have l10:=Q10.ql _ Q10.qb
 have l12:=zau r12
 have l13:=zau r13
 have l14:=zau r14
 have l15:=zau r15
 have l16:=zau r16
 have E716:Ext h7 h16:=e8.trans (e9.trans (e10.trans (e11.trans (e12.trans (e13.trans (e14.trans (e15.trans e16)))))))
 have hz:∀{c:Nat},h7.size≤c→¬Z c:=fun hc hz=>by have:=zl _ hz;omega
 have I16:=I7.ext E716
 have zl16:∀c,Z c→c<h16.size:=fun c hc=>by have:=zl c hc;omega
 have s7:=E7.1
 have P0:PlayAt C Z N h6 mv bQ bW bV 75 79 82 ba bb 0 h16:=by
  refine⟨fun c=>h7.size≤c∧c<h16.size∧c≠ba∧c≠bb∧c≠C.bq,fun c=>h7.size≤c∧c<h16.size∧c≠ba∧c≠bb∧c≠C.bq∧c≠bQ∧c≠bW∧c≠bV,n0,⟨0,[],none,0⟩,⟨0,[],none,0⟩,⟨min (max 1 (1+room%4)) 4096,[],false⟩,⟨⟨⟨fun c=>c=ba,fun c=>c=bb,fun c=>c=C.bq,?_,?_,?_,?_,?_,?_,?_⟩,VC.ext E716,su',E7.trans E716⟩,⟨_,(e13.trans (e14.trans (e15.trans e16))).row r12,rQ_new⟩,e16.row r15,⟨[.int .i64 0,.slice none 0 0,.slice none 0 0],[.int .i64 0,.slice none 0 0,.slice none 0 0],r16,?_,?_⟩,?_,?_,?_,?_⟩,Nat.le_refl _,Nat.le_refl _⟩
  ·exact IsW.new ((e14.trans (e15.trans e16)).row r13) (hz (by omega)) (I7.new (by omega)).1 (I7.new (by omega)).2 zl16 I16
  ·exact IsW.new ((e15.trans e16).row r14) (hz (by omega)) (I7.new (by omega)).1 (I7.new (by omega)).2 zl16 I16
  ·exact Q10.ext (e11.trans (e12.trans (e13.trans (e14.trans (e15.trans e16)))))
  ·intro c hc;have hc:c=ba:=hc;omega
  ·intro c hc;have hc:c=bb:=hc;omega
  ·intro c hc
   have hc:c=C.bq:=hc
   exact⟨hz (by omega),(I7.new (by omega)).1,(I7.new (by omega)).2⟩
  ·intro c hc
   have hc:c=ba∨c=bb∨c=C.bq:=hc
   exact⟨by omega,fun h=>by have h:h7.size≤c∧c<h16.size∧c≠ba∧c≠bb∧c≠C.bq:=h;omega⟩
  ·exact⟨_,_,rfl,Rp.Sl.nil,Rp.Sl.nil,_,_,_,rfl,Nat.le_refl _⟩
  ·exact⟨_,_,rfl,Rp.Sl.nil,Rp.Sl.nil,_,_,_,rfl,Nat.le_refl _⟩
  ·refine(NM.sl.ext (e10.trans (e11.trans (e12.trans (e13.trans (e14.trans (e15.trans e16))))))).mono fun c _ hc=>?_
   have hc:h8.size≤c∧c<h9.size:=hc.elim (fun h=>nz c h) fun h=>⟨nm c h,nlt c h⟩
   refine⟨?_,?_,?_,?_,?_,?_,?_,?_⟩<;>omega
  ·intro c hc
   have hc:h7.size≤c∧c<h16.size∧c≠ba∧c≠bb∧c≠C.bq∧c≠bQ∧c≠bW∧c≠bV:=hc
   exact⟨⟨hc.1,hc.2.1,hc.2.2.1,hc.2.2.2.1,hc.2.2.2.2.1⟩,hc.2.2.2.2.2⟩
  ·intro c hc
   have hc:h7.size≤c∧c<h16.size∧c≠ba∧c≠bb∧c≠C.bq:=hc
   exact⟨by omega,by omega,hz (by omega),(I7.new (by omega)).1,(I7.new (by omega)).2⟩
  ·refine⟨⟨?_,?_,?_,?_,?_⟩,⟨?_,?_,?_,?_,?_⟩,⟨?_,?_,?_,?_,?_⟩,?_,?_,?_⟩<;>omega
 obtain⟨am,cm,evm⟩:=NM.sl.isSl
 have elm:zae mv=some (.int .i64 (N:Int)):=by rw[evm];simp[zae,zco]
 have w8:∀j (hj:j<l.length),0≤l[j]∧l[j]<256:=fun j hj=>by have:=h8b _ (List.getElem_mem hj);unfold B8 at this;omega
 refine zaE (α:=Unit) l.length 0 (fun i _=>[.int .i64 (i:Int)]) (fun i _ g=>PlayAt C Z N h6 mv bQ bW bV 75 79 82 ba bb i g) () rfl (Nat.zero_le _) P0 fun i _ g again ρ _ hi HP Hag=>?_
 simp only[ix_0]
 rw[zbJ,zaa]
 refine zab (fun g1=>?_) (fun g1=>?_)
 ·have hi':i<l.length:=by omega
  have hw':(i:Int)+1=((i+1:Nat):Int):=by omega
  obtain⟨X,Zd,n,wa,wb,qd,P,ta,tb⟩:=HP
  have Eg:Ext h6 g:=P.duo.ext
  obtain⟨pd,d1,d2⟩:=(D0.ext Eg).int_at (k':=.i64) hi'
  have hd8:=w8 i hi'
  have dm:=Int.emod_nonneg l[i] (show(8:Int)≠0 by omega)
  have dn:=Int.emod_lt_of_pos l[i] (show(0:Int)<8 by omega)
  refine vK_at d1 (vK_at d2 ?_)
  rw[zaW _ _ _ _ (by omega),zaa,Int.tmod_eq_emod_of_nonneg hd8.1]
  refine zat (fun xs g'=>xs=[]∧PlayAt C Z N h6 mv bQ bW bV 75 79 82 ba bb (i+1) g') ?_ ?_
  ·rw [ziL,zaa]
   refine zab (fun k0=>?_) (fun k0=>?_)
   ·refine vK_at elm ?_
    simp only[za7,zaa]
    rw[w64 (n:=(N:Int)+1) (by omega) (by omega),zaW _ _ _ _ (by omega),zaa]
    exact play_send P fun X' Zd' h' P'=>⟨trivial,X',Zd',n,wa,wb,_,P',by omega,by omega⟩
   ·rw[ziL,zaa]
    refine zab (fun k1=>?_) (fun k1=>?_)
    ·rw[zlj,zaa]
     refine zab (fun k2=>?_) (fun k2=>?_)
     ·exact play_close P fun h' P'=>⟨rfl,X,Zd,n,wa,wb,_,P',by omega,by omega⟩
     ·exact⟨rfl,X,Zd,n,wa,wb,qd,P,by omega,by omega⟩
    ·rw[zb3,zaa]
     rw[wu8 (n:=l[i]%8-2) (by omega) (by omega),zld,zaa,w64 (n:=l[i]%8-2) (by omega) (by omega),zdA _ _ _ _ (by omega),zaa,Int.tdiv_eq_ediv_of_nonneg (by omega)]
     rw[w64 (by omega) (by omega)]
     rcases(show(l[i]%8-2)/3=0∨(l[i]%8-2)/3=1 by omega)with h|h
     ·rw[h]
      refine play_step (a:=false) CO GG P hNC (by omega) hout' fun n' X' Zd' jo h' P'=>⟨rfl,X',Zd',n',_,wb,_,P',?_,by omega⟩
      have:=znd (E:=some C.E) (jo:=jo) (w:=wa) (d:=qd);omega
     ·rw[h]
      refine play_step (a:=true) CO GG P.flip hNC (by omega) hout' fun n' X' Zd' jo h' P'=>⟨rfl,X',Zd',n',wa,_,_,P'.flip,by omega,?_⟩
      have:=znd (E:=some C.E) (jo:=jo) (w:=wb) (d:=qd);omega
  ·rintro xs ρ' g' ⟨rfl,X',Zd',n',wa',wb',q',P',ta',tb'⟩
   have tA:wa'.tiles.length≤1000000:=by omega
   have tB:wb'.tiles.length≤1000000:=by omega
   refine play_check P' tA tB fun g3 P3=>?_
   simp only[go_sem]
   rw[w64 (n:=(i:Int)+1) (by omega) (by omega),hw']
   exact Hag () g3 hi' ⟨X',Zd',n',wa',wb',q',P3,ta',tb'⟩
 ·obtain⟨X,Zd,n,wa,wb,qd,P,ta,tb⟩:=HP
  exact⟨trivial,E6.trans P.duo.ext⟩
end Go.Proofs.YtcoimlclclnlkaaGreatDoor
namespace Go.Proofs.YtcoimlclclnlkaaGreatDoor
open Go Go.Crisp
open _root_.Go.Proofs.Tryz
theorem slb_of_slc {h:Heap}{v:Value}{l:List Int}(H:SlC 1 h v l.length (l.map (Value.int .u8))):Rp.Sl (Rp.int .u8) (fun _=>True) h v l:=
 ⟨_,H,fun _ _ _=>trivial,fun i hi=>by
  show Rp.el 1 _ i=[.int .u8 l[i]]
  rw[Rp.el_one (by simpa using hi),List.getElem_map]⟩
theorem u8s_args {h:Heap}{ts:List TS}{l:List Value}(R:ziA (.sl (.int .u8) 1::ts) h l):∃v,∃k:List Int,∃r,l=v::r∧Rp.Sl (Rp.int .u8) (fun _=>True) h v k∧(∀x∈k,B8 x)∧k.length≤1000000000000000∧ziA ts h r:=by
 obtain⟨v,r,hr,⟨x,hx⟩,h0⟩:=R
 obtain⟨u,hu,h1,h2,h3⟩:=u8s_rd (l:=x) (show Rd (.sl (.int .u8) 1) h [v] x from hx)
 obtain rfl:v=u:=by simpa using hu
 have h3:List.length (α:=Int) x*1≤140737488351232:=h3
 exact⟨v,x,r,hr,slb_of_slc h1,h2,by omega,h0⟩
theorem r_WorkerPlays {L:List (String×DataW Unit)}(l:ListsB L)(h:Heap)(args:Array Value)(H:zmE prog L h)(R:ziA [.st tPic,.st tOp,.int .u8,.int .u8,.int .u8,.sl (.int .u8) 1] h args.toList):
  FCall prog zdf args h fun r h'=>r=.bool true∧Ext h h':=by
 obtain⟨cs,os,a,o,r0,e0,A,R⟩:=args17_rd R
 obtain⟨x,r1,e1,hx,R⟩:=u8_rd R
 obtain⟨y,r2,e2,hy,R⟩:=u8_rd R
 obtain⟨z,r3,e3,hz,R⟩:=u8_rd R
 obtain⟨v,k,r4,e4,S,h8,hk,R⟩:=u8s_args R
 obtain rfl:r4=[]:=R
 subst e4 e3 e2 e1
 obtain rfl:args=#[.agg cs.toArray,.agg os.toArray,.int .u8 x,.int .u8 y,.int .u8 z,v]:=by cases args;simp_all
 obtain⟨⟨_,h1⟩,h2,⟨_,h3⟩,h4⟩:=A
 exact zq3 (l.glob H) h1 h2 h3 h4 hx hy hz S h8 hk
end Go.Proofs.YtcoimlclclnlkaaGreatDoor
