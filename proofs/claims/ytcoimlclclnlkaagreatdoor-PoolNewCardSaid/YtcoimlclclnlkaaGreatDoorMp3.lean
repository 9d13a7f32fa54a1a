/- Several texts of this session, one behind the other, without what this claim does not need (put together by its program pack.py). Conditions: none. -/
import Derived.Test.YtcoimlclclnlkaaGreatDoorMp2
set_option linter.unusedVariables false
set_option linter.unusedSimpArgs false
set_option maxRecDepth 100000
namespace Go.Proofs.YtcoimlclclnlkaaGreatDoor
open Go Go.Crisp
attribute [local irreducible] FCall rowK newK stK iteK vK qK drawK gK joinK loopK mkK appK cpyK zoB zmd bsK clK
open _root_.Go.Proofs.Tryz
abbrev zeroI:Value:=.int .i64 0
structure Mk3 (n:Nat)(h0:Heap)(rows:List Value)(vr:Option (Nat×TypeId×Value))(h:Heap):Prop where
 ext:Ext h0 h
 own:∀r∈rows,Own 1 h r n (List.replicate n zeroI)∧∀b,blk r b→h0.size≤b
 dis:rows.Pairwise fun r s=>∀b,blk r b→¬blk s b
 var:∀p,vr=some p→h[p.1]? =some (.cells #[p.2.2] p.2.1 (0,0))∧h0.size≤p.1∧∀r∈rows,¬blk r p.1
theorem Mk3.start (n:Nat)(h:Heap):Mk3 n h [] none h:=⟨Ext.refl _,by simp,List.Pairwise.nil,by simp⟩
theorem Mk3.mkr {n:Nat}{h0 h:Heap}{rows:List Value}{vr:Option (Nat×TypeId×Value)}{t:TypeId}{K:Value→Heap→Prop}(M:Mk3 n h0 rows vr h)(hn:n≤1048576)
  (H:∀v h',Mk3 n h0 (rows++[v]) vr h'→K v h'):mkK zeroI t 1 8 (.int .i64 (n:Int)) (.int .i64 (n:Int)) h K:=by
 refine zha rfl (by omega) (by omega) fun v h' o e f=>H v h' ⟨M.ext.trans e,?_,?_,?_⟩
 ·intro r hr
  rcases List.mem_append.1 hr with hr|hr
  ·exact⟨(M.own r hr).1.fr (M:=fun _=>False) e.fr fun _ _=>id,(M.own r hr).2⟩
  ·rw[List.mem_singleton.1 hr]
   exact⟨o,fun b hb=>Nat.le_trans M.ext.1 (f b hb)⟩
 ·rw[List.pairwise_append]
  refine⟨M.dis,by simp,fun r hr s hs b hb hb2=>?_⟩
  rw[List.mem_singleton.1 hs]at hb2
  have h1:=(M.own r hr).1.lt hb
  have h2:=f b hb2
  omega
 ·intro p hp
  obtain⟨h1,h2,h3⟩:=M.var p hp
  refine⟨e.row h1,h2,fun r hr=>?_⟩
  rcases List.mem_append.1 hr with hr|hr
  ·exact h3 r hr
  ·rw[List.mem_singleton.1 hr]
   intro hb
   have:=f _ hb
   have:=zaz h1
   omega
theorem Mk3.nw {n:Nat}{h0 h:Heap}{rows:List Value}{t:TypeId}{c:Value}{K:Value→Heap→Prop}(M:Mk3 n h0 rows none h)
  (H:∀b h',Mk3 n h0 rows (some (b,t,c)) h'→K (.pointer (some ⟨b,0,none⟩)) h'):newK #[c] t h K:=by
 refine zag fun b h' r e f=>H b h' ⟨M.ext.trans e,fun s hs=>⟨(M.own s hs).1.fr (M:=fun _=>False) e.fr fun _ _=>id,(M.own s hs).2⟩,M.dis,?_⟩
 rintro p hp
 cases hp
 refine⟨r,Nat.le_trans M.ext.1 f,fun s hs hb=>?_⟩
 have:=(M.own s hs).1.lt hb
 simp only at this
 omega
theorem Mk3.st {n:Nat}{h0 h:Heap}{rows:List Value}{t:TypeId}{b:Nat}{c v:Value}{K:Value→Heap→Prop}(M:Mk3 n h0 rows (some (b,t,c)) h)(hv:v∈rows)
  (H:∀h',Mk3 n h0 rows (some (b,t,v)) h'→K undef h'):stK 1 (.pointer (some ⟨b,0,none⟩)) v h K:=by
 obtain⟨h1,h2,h3⟩:=M.var _ rfl
 simp only at h1 h2 h3
 obtain⟨a,cap,e⟩:=(M.own v hv).1.isSl
 refine zaH h1 (by simp) (by rw[e];rfl) fun h' r u=>H h' ⟨M.ext.upd h2 u,?_,M.dis,?_⟩
 ·intro s hs
  exact⟨(M.own s hs).1.fr u.fr fun k hk he=>h3 s hs (he▸hk),(M.own s hs).2⟩
 ·rintro p hp
  cases hp
  exact⟨by simpa using r,h2,h3⟩
def Made3 (n:Nat)(h0:Heap)(xs:List Value)(h:Heap):Prop:=
 ∃(x y z:Value) (b:Nat) (t:TypeId),xs=[x,y,.pointer (some ⟨b,0,none⟩)]∧Ext h0 h∧(Own 1 h x n (List.replicate n zeroI)∧∀b,blk x b→h0.size≤b)∧(Own 1 h y n (List.replicate n zeroI)∧∀b,blk y b→h0.size≤b)∧
  (Own 1 h z n (List.replicate n zeroI)∧∀b,blk z b→h0.size≤b)∧(∀b,blk x b→¬blk y b)∧(∀b,blk x b→¬blk z b)∧(∀b,blk y b→¬blk z b)∧
  h[b]? =some (.cells #[z] t (0,0))∧h0.size≤b∧¬blk x b∧¬blk y b∧¬blk z b
theorem Mk3.made {n:Nat}{h0 h:Heap}{rows:List Value}{t:TypeId}{b:Nat}{z:Value}(M:Mk3 n h0 rows (some (b,t,z)) h)(i j k:Nat){x y:Value}(hx:rows[i]? =some x)(hy:rows[j]? =some y)(hz:rows[k]? =some z)(h1:i≠j)(h2:i≠k)(h3:j≠k):
  Made3 n h0 [x,y,.pointer (some ⟨b,0,none⟩)] h:=by
 obtain⟨v1,v2,v3⟩:=M.var _ rfl
 simp only at v1 v2 v3
 have dis:∀(i j:Nat) (x y:Value),rows[i]? =some x→rows[j]? =some y→i≠j→∀b,blk x b→¬blk y b:=by
  intro i j x y hx hy hij b hb hb2
  obtain⟨li,ei⟩:=List.getElem?_eq_some_iff.1 hx
  obtain⟨lj,ej⟩:=List.getElem?_eq_some_iff.1 hy
  rcases Nat.lt_or_ge i j with h|h
  ·have:=List.pairwise_iff_getElem.1 M.dis i j li lj h b (by rw[ei];exact hb)
   rw[ej]at this
   exact this hb2
  ·have:=List.pairwise_iff_getElem.1 M.dis j i lj li (by omega) b (by rw[ej];exact hb2)
   rw[ei]at this
   exact this hb
 exact⟨x,y,z,b,t,rfl,M.ext,M.own x (List.mem_of_getElem? hx),M.own y (List.mem_of_getElem? hy),M.own z (List.mem_of_getElem? hz),dis i j x y hx hy h1,dis i k x z hx hz h2,dis j k y z hy hz h3,v1,v2,v3 x (List.mem_of_getElem? hx),v3 y (List.mem_of_getElem? hy),v3 z (List.mem_of_getElem? hz)⟩
theorem Own.at_map {h:Heap}{v:Value}{n:Nat}{g:Nat→Int}(H:Own 1 h v n ((List.range n).map fun i=>Value.int .i64 (g i))){k:IntKind}{i:Nat}(hi:i<n):
  ∃p,idxV 1 v (.int k (i:Int))=some p∧ldV h p=some (.int .i64 (g i))∧∀(x:Int) (K:Value→Heap→Prop),
   (∀h',Own 1 h' v n ((List.range n).map fun j=>Value.int .i64 (if j=i then x else g j))→Fr (blk v) h h'→K undef h')→stK 1 p (.int .i64 x) h K:=by
 obtain⟨p,h1,h2,h3⟩:=Own.at1 H (k:=k) hi
 refine⟨p,h1,by rw[h2];simp,fun x K HK=>h3 _ _ rfl fun h' o f _=>HK h' ?_ f⟩
 rw[zl7 _ _ _ _ hi]at o
 have e:(fun j=>if j=i then Value.int .i64 x else Value.int .i64 (g j))=fun j=>Value.int .i64 (if j=i then x else g j):=by
  funext j;split<;>rfl
 rw[e]at o
 exact o
theorem zrM (n:Nat):List.replicate n zeroI=(List.range n).map fun i=>Value.int .i64 ((fun _=>0:Nat→Int) i):=by
 apply List.ext_getElem<;>simp
theorem c_compare {h:Heap}{a b:Int}:FCall prog zdz #[.int .i64 a,.int .i64 b] h fun r h'=>(∃c:Int,r=.int .i64 c∧(c<0↔a<b))∧h'=h:=by
 have nan:∀{x:Int} {h:Heap},FCall prog zda #[.int .i64 x] h fun r h'=>r=.bool false∧h'=h:=by
  intro x h
  apply zmy
  unfold zgN
  try simp only[go_sem]
  exact⟨by simp,by simp⟩
 apply zki
 unfold zfq
 refine nan.mono fun v1 h1 ⟨e1,w1⟩=>?_
 subst e1 w1
 refine nan.mono fun v1 h1 ⟨e1,w1⟩=>?_
 subst e1 w1
 try simp only[go_sem]
 refine zac (fun h0=>⟨⟨-1,rfl,by omega⟩,by first|rfl|trivial⟩) (fun h0=>?_)
 refine zac (fun h0=>⟨⟨1,rfl,by omega⟩,by first|rfl|trivial⟩) (fun h0=>⟨⟨0,rfl,by omega⟩,by first|rfl|trivial⟩)
def RestP (b:Nat)(t:TypeId)(z:Value)(n:Nat)(r:Nat→Int)(h:Heap):Prop:=h[b]? =some (.cells #[z] t (0,0))∧Own 1 h z n ((List.range n).map fun i=>Value.int .i64 (r i))
theorem cmp_rest {v z:Value}{b n:Nat}{t:TypeId}{r:Nat→Int}(h1:¬blk v b)(h2:∀b,blk v b→¬blk z b):CmpOK v (.func (.func zdw) #[] #[.pointer (some ⟨b,0,none⟩)]) (RestP b t z n r) r n where
 call:=fun{h a c K} ⟨p1,p2⟩ ha hc H=>by
  rw[clK_2]
  apply zka
  unfold zfi
  obtain⟨p,e1,e2,_⟩:=Own.at_map p2 (k:=.i64) ha
  obtain⟨q,e3,e4,_⟩:=Own.at_map p2 (k:=.i64) hc
  have ez:ldV h (.pointer (some ⟨b,0,none⟩))=some z:=by rw[znk,zab p1];rfl
  refine zaj (fun h'=>h'=h) rfl ?_
  refine zae z (fun h' e=>by rw[e];exact ez) ?_
  simp only[go_sem,e3]
  refine zae _ (fun h' e=>by rw[e];exact e4) ?_
  refine zae z (fun h' e=>by rw[e];exact ez) ?_
  simp only[go_sem,e1]
  refine zae _ (fun h' e=>by rw[e];exact e2) ?_
  refine c_compare.mono fun w h' ⟨⟨m,e,hm⟩,hh⟩=>?_
  subst e hh
  exact H m hm
 fr:=fun{h h'} ⟨p1,p2⟩ f=>⟨f.row p1 h1,p2.fr f fun k hk hb=>h2 k hb hk⟩
theorem rank_at {l:List Int}{S:List Nat}(hp:S.Perm (List.range l.length))(hs:S.Pairwise (lead (restT l))){k i:Nat}(hk:k<S.length)(hi:i<l.length):(if(rank (restT l) l.length i:Int)<((k+1:Nat):Int)then(1:Int)else 0)=if i=S[k]then(if(rank (restT l) l.length i:Int)<(k:Int)then(1:Int)else 0)+1 else if(rank (restT l) l.length i:Int)<(k:Int)then 1 else 0:=by
 have hr:=zo4 hp hs hk
 have hkl:S[k]<l.length:=by have:=hp.mem_iff.1 (List.getElem_mem hk);simpa using this
 by_cases he:i=S[k]
 ·rw[if_pos he,he,hr,if_pos (by omega),if_neg (by omega)];rfl
 ·rw[if_neg he]
  have:rank (restT l) l.length i≠k:=fun e=>he (zoA hi hkl (e.trans hr.symm))
  by_cases h:rank (restT l) l.length i<k
  ·rw[if_pos (by omega),if_pos (by omega)]
  ·rw[if_neg (by omega),if_neg (by omega)]
theorem zlf {Z:Nat→Prop}{h:Heap}{v:Value}{l:List Int}(H:SlI Z h v l)(h64:∀x∈l,I64 x)(hl:l.length<4611686018427387904):
  FCall prog zcD #[v] h fun r h'=>∃u,r=.tuple #[u,.int .i64 (za0 l)]∧New (Rp.int .i64) h h' u (zaG l):=by
 apply zm3
 unfold zhq
 refine(c_tapsCheck H h64 hl).mono fun v1 h1 ⟨e1,w1⟩=>?_
 subst e1 w1
 obtain⟨a,cap,e⟩:=H.isSl
 have e2:zaf v=some (.int .i64 (l.length:Int)):=by rw[e];rfl
 simp only[zh8,zaa]
 unfold zaG
 by_cases hc:¬za0 l=0
 ·have q:(za0 l=0)=False:=eq_false hc
  rw[if_neg hc]
  simp only[go_sem,q]
  exact⟨_,rfl,New.nil (Ext.refl _)⟩
 have hc:za0 l=0:=Decidable.of_not_not hc
 have G:=goodW h64 hc
 have q:(za0 l=0)=True:=eq_true hc
 rw[if_pos hc]
 simp only[go_sem,q]
 refine(c_tapsSum H h64 hl).mono fun v1 h1 ⟨e1,w1⟩=>?_
 subst e1 w1
 have hn:=G.len
 refine zar (Made3 l.length h1) ?_ ?_
 ·refine zaj (Ext h1) (Ext.refl _) ?_
  refine zae _ (fun h' _=>e2) ?_
  refine zae _ (fun h' _=>e2) ?_
  refine zae _ (fun h' _=>e2) ?_
  have M0:=Mk3.start l.length h1
  repeat' first
   |exact Mk3.ext ‹Mk3 _ _ _ _ _›
   |exact Mk3.made ‹Mk3 _ _ _ _ _› 0 1 2 rfl rfl rfl (by decide) (by decide) (by decide)
   |exact Mk3.made ‹Mk3 _ _ _ _ _› 0 2 1 rfl rfl rfl (by decide) (by decide) (by decide)
   |exact Mk3.made ‹Mk3 _ _ _ _ _› 1 0 2 rfl rfl rfl (by decide) (by decide) (by decide)
   |exact Mk3.made ‹Mk3 _ _ _ _ _› 1 2 0 rfl rfl rfl (by decide) (by decide) (by decide)
   |exact Mk3.made ‹Mk3 _ _ _ _ _› 2 0 1 rfl rfl rfl (by decide) (by decide) (by decide)
   |exact Mk3.made ‹Mk3 _ _ _ _ _› 2 1 0 rfl rfl rfl (by decide) (by decide) (by decide)
   |refine And.intro ?_ ?_
   |refine Mk3.mkr ‹Mk3 _ _ _ _ _› hn fun v' h' M=>?_
   |refine Mk3.nw ‹Mk3 _ _ _ _ _› fun b' h' M=>?_
   |refine Mk3.st ‹Mk3 _ _ _ _ _› (by simp) fun h' M=>?_
 rintro xs ρj h2 ⟨x,y,z,b,t,rfl,E2,⟨ox,fx⟩,⟨oy,fy⟩,⟨oz,fz⟩,dxy,dxz,dyz,hb,hb0,nx,ny,nz⟩
 simp only[ix_0,ix_1,ix_2,e2,zaa]
 have s1:=G.sum
 have s64:=sumZ_I64 l
 -- quotients and rests
 refine zaF l.length 0 (fun k (_:Unit)=>[.int .i64 (leftK l k),.int .i64 (k:Int)]) (fun k _ h'=>Ext h1 h'∧Own 1 h' x l.length ((List.range l.length).map fun i=>Value.int .i64 (if i<k then baseT l i else 0))∧
   Own 1 h' y l.length ((List.range l.length).map fun i=>Value.int .i64 (if i<k then(i:Int)else 0))∧Own 1 h' z l.length ((List.range l.length).map fun i=>Value.int .i64 (if i<k then restT l i else 0))∧h'[b]? =some (.cells #[z] t (0,0))) () rfl (Nat.zero_le _)
  ⟨E2,by rw[zrM]at ox;simpa using ox,by rw[zrM]at oy;simpa using oy,by rw[zrM]at oz;simpa using oz,hb⟩ fun k _ h3 again ρj2 _ hk ⟨E3,o1,o2,o3,hb3⟩ Hag=>?_
 try simp only[go_sem]
 refine zac (fun h0=>?_) (fun h0=>?_)
 ·have hk':k<l.length:=by omega
  have H3:=H.ext E3
  obtain⟨p,e3,e4⟩:=H3.int_at (k':=.i64) hk'
  simp only[go_sem,e3,e4]
  have eg:l.getD k 0=l[k]:=by simp[List.getD_eq_getElem?_getD,hk']
  have hx:=G.small k
  rw[eg]at hx
  refine zaj (fun h'=>h'[b]? =some (.cells #[z] t (0,0))) hb3 ?_
  refine zae z (fun h' e=>by rw[zab e];rfl) ?_
  rw[w64 (n:=l[k]*16384) (by omega) (by omega)]
  refine(zsT (by unfold I64;omega) s64).mono fun v1 h4 ⟨e5,w5⟩=>?_
  subst e5 w5
  refine⟨hb3,?_⟩
  rw[zfK (by unfold I64;omega) (by omega)]
  refine(c_Mod (by unfold I64;omega) s64 (by omega)).mono fun v1 h4 ⟨e5,w5⟩=>?_
  subst e5 w5
  refine⟨hb3,?_⟩
  have eb:l[k]*16384/sumZ l=baseT l k:=by unfold baseT;rw[eg]
  have er:l[k]*16384%sumZ l=restT l k:=by unfold restT;rw[eg]
  rw[eb,er]
  obtain⟨px,x1,x2,x3⟩:=Own.at_map o1 (k:=.i64) hk'
  simp only[go_sem,x1]
  refine x3 _ _ fun h5 o1a f5=>?_
  have o3a:=o3.fr f5 fun c hc hx=>dxz c hx hc
  have o2a:=o2.fr f5 fun c hc hx=>dxy c hx hc
  have hb5:=f5.row hb3 nx
  refine⟨hb5,?_⟩
  obtain⟨pz,z1,z2,z3⟩:=Own.at_map o3a (k:=.i64) hk'
  simp only[go_sem,z1]
  refine z3 _ _ fun h6 o3b f6=>?_
  have o2b:=o2a.fr f6 fun c hc hz=>dyz c hc hz
  have o1b:=o1a.fr f6 fun c hc hz=>dxz c hc hz
  have hb6:=f6.row hb5 nz
  obtain⟨py,y1,y2,y3⟩:=Own.at_map o2b (k:=.i64) hk'
  simp only[go_sem,y1]
  refine y3 _ _ fun h7 o2c f7=>?_
  have o1c:=o1b.fr f7 fun c hc hy=>dxy c hc hy
  have o3c:=o3b.fr f7 fun c hc hy=>dyz c hy hc
  have hb7:=f7.row hb6 ny
  obtain⟨px2,x1',x2',_⟩:=Own.at_map o1c (k:=.i64) hk'
  rw[x1]at x1'
  cases x1'
  simp only[if_true]at x2'
  have hbt:=zj0 G k
  have hlk:=zsC G k
  simp only[go_sem,x1,x2']
  rw[w64 (n:=leftK l k-baseT l k) (by omega) (by omega),w64 (n:=(k:Int)+1) (by omega) (by omega)]
  have E7:Ext h1 h7:=((E3.then_fr f5 fx).then_fr f6 fz).then_fr f7 fy
  refine Hag () h7 hk' ⟨E7,?_,?_,?_,hb7⟩
  ·have e:(List.range l.length).map (fun j=>Value.int .i64 (if j=k then baseT l k else if j<k then baseT l j else 0))=(List.range l.length).map fun i=>Value.int .i64 (if i<k+1 then baseT l i else 0):=zax fun i _=>by
    congr 1
    by_cases h1:i=k
    ·subst h1;simp
    ·rw[if_neg h1]
     by_cases h2:i<k
     ·rw[if_pos h2,if_pos (by omega)]
     ·rw[if_neg h2,if_neg (by omega)]
   rw[←e];exact o1c
  ·have e:(List.range l.length).map (fun j=>Value.int .i64 (if j=k then(k:Int)else if j<k then(j:Int)else 0))=(List.range l.length).map fun i=>Value.int .i64 (if i<k+1 then(i:Int)else 0):=zax fun i _=>by
    congr 1
    by_cases h1:i=k
    ·subst h1;simp
    ·rw[if_neg h1]
     by_cases h2:i<k
     ·rw[if_pos h2,if_pos (by omega)]
     ·rw[if_neg h2,if_neg (by omega)]
   rw[←e];exact o2c
  ·have e:(List.range l.length).map (fun j=>Value.int .i64 (if j=k then restT l k else if j<k then restT l j else 0))=(List.range l.length).map fun i=>Value.int .i64 (if i<k+1 then restT l i else 0):=zax fun i _=>by
    congr 1
    by_cases h1:i=k
    ·subst h1;simp
    ·rw[if_neg h1]
     by_cases h2:i<k
     ·rw[if_pos h2,if_pos (by omega)]
     ·rw[if_neg h2,if_neg (by omega)]
   rw[←e];exact o3c
 ·have hkn:k=l.length:=by omega
  subst hkn
  have o1:Own 1 h3 x l.length ((List.range l.length).map fun i=>Value.int .i64 (baseT l i)):=by
   rw[←zax (g:=fun i=>Value.int .i64 (if i<l.length then baseT l i else 0)) (fun i hi=>by rw[if_pos hi])];exact o1
  have o3:Own 1 h3 z l.length ((List.range l.length).map fun i=>Value.int .i64 (restT l i)):=by
   rw[←zax (g:=fun i=>Value.int .i64 (if i<l.length then restT l i else 0)) (fun i hi=>by rw[if_pos hi])];exact o3
  have o2:Own 1 h3 y (List.range' 0 l.length).length ((List.range' 0 l.length).map iv):=by
   rw[List.length_range',←List.range_eq_range',←zax (g:=fun i=>Value.int .i64 (if i<l.length then(i:Int)else 0)) (fun i hi=>by rw[if_pos hi])];exact o2
  have IX:IxRow y (RestP b t z l.length (restT l)) l.length h3 (List.range' 0 l.length):=⟨o2,⟨hb3,o3⟩,by simpa using hl,fun i hi=>by simpa using hi⟩
  refine(c_sortStable (cmp_rest ny dyz) IX hn).mono fun w h4 ⟨S,hp,hs,IX2,f4⟩=>?_
  obtain⟨L0,L1⟩:=left_bd G
  obtain⟨m,hm⟩:∃m:Nat,leftT l=(m:Int):=⟨(leftT l).toNat,by omega⟩
  have hSl:S.length=l.length:=by rw[hp.length_eq];simp
  obtain⟨v',q1,q2,q3⟩:=slc_front 1 IX2.own (k:=.i64) (hi:=m) (by omega)
  have o1:=o1.fr f4 fun c hc hy=>dxy c hc hy
  have hlm:leftK l l.length=(m:Int):=hm
  rw[hlm,q1,zaa]
  obtain⟨a',cap',e'⟩:=q2.isSl
  have e'2:zaf v'=some (.int .i64 (m:Int)):=by rw[e'];rfl
  rw[e'2,zaa]
  refine zaF m 0 (fun k (_:Unit)=>[.int .i64 (k:Int)]) (fun k _ h'=>Ext h1 h'∧Own 1 h' x l.length ((List.range l.length).map fun i=>Value.int .i64 (baseT l i+(if(rank (restT l) l.length i:Int)<(k:Int)then 1 else 0)))∧Fr (blk x) h4 h') () rfl (Nat.zero_le _)
   ⟨E3.then_fr f4 fy,by
    rw[zax (f:=fun i=>Value.int .i64 (baseT l i)) (fun i hi=>by rw[if_neg (by omega),Int.add_zero])];exact o1,Fr.refl _ _⟩ fun k _ h5 again5 ρj5 _ hk ⟨E5,o5,f5⟩ Hag5=>?_
  try simp only[go_sem]
  refine zac (fun h6=>?_) (fun h6=>?_)
  ·have hk':k<m:=by omega
   have q5:=q2.fr f5 fun c _ hc hx=>dxy c hx (q3 c hc)
   obtain⟨p,p1,p2⟩:=q5.at1 (k:=.i64) hk'
   have hkS:k<S.length:=by omega
   have p2:ldV h5 p=some (iv S[k]):=by
    rw[p2];simp
   have hSk:S[k]<l.length:=by have:=hp.mem_iff.1 (List.getElem_mem hkS);simpa using this
   obtain⟨px,x1,x2,x3⟩:=Own.at_map o5 (k:=.i64) hSk
   simp only[go_sem,p1,p2,x1,x2]
   have hbt:=zj0 G S[k]
   rw[w64 (n:=baseT l S[k]+(if(rank (restT l) l.length S[k]:Int)<(k:Int)then 1 else 0)+1) (by split<;>omega) (by split<;>omega)]
   refine x3 _ _ fun h7 o7 f7=>?_
   rw[w64 (n:=(k:Int)+1) (by omega) (by omega)]
   refine Hag5 () h7 hk' ⟨E5.then_fr f7 fx,?_,f5.trans f7⟩
   rw[zax (f:=fun j=>Value.int .i64 (if j=S[k]then baseT l S[k]+(if(rank (restT l) l.length S[k]:Int)<(k:Int)then 1 else 0)+1 else baseT l j+if(rank (restT l) l.length j:Int)<(k:Int)then 1 else 0)) (fun i hi=>by
    rw[rank_at hp hs hkS hi]
    congr 1
    by_cases he:i=S[k]
    ·rw[if_pos he,if_pos he,←he];omega
    ·rw[if_neg he,if_neg he])]
   exact o7
  ·have:k=m:=by omega
   subst this
   refine⟨x,by rw[hc],⟨(zfN l).map fun n=>Value.int .i64 n,?_,fun c _=>id,fun i hi=>?_⟩,E5,fx⟩
   ·rw[zfI]
    unfold zfN
    rw[List.map_map]
    simp only[←hm]at o5
    exact o5
   ·have e:Rp.el (Rp.int .i64).w ((zfN l).map fun n=>Value.int .i64 n) i=[Value.int .i64 (zfN l)[i]]:=by
     have:=Rp.el_one (ds:=(zfN l).map fun n=>Value.int .i64 n) (i:=i) (by simpa using hi)
     rw[List.getElem_map]at this
     exact this
    exact e
theorem c_bitsMul {h:Heap}{x y:Nat}(hx:x<18446744073709551616)(hy:y<18446744073709551616):
  FCall prog zgs #[.int .u64 (x:Int),.int .u64 (y:Int)] h fun r h'=>r=.tuple #[.int .u64 ((x*y/18446744073709551616:Nat):Int),.int .u64 ((x*y%18446744073709551616:Nat):Int)]∧h'=h:=by
 apply zov
 unfold ziJ
 rw[zbo]
 refine(c_Mul64 hx hy).mono fun v h1 ⟨e,w⟩=>?_
 subst e w
 try simp only[go_sem]
 exact⟨by simp,by simp⟩
theorem rep_ints (n:Nat)(x:Int):List.replicate n (Value.int .i64 x)=(List.replicate n x).map fun n=>Value.int .i64 n:=by simp
theorem ow_ints {k:IntKind}{h:Heap}{v:Value}{l:List Int}(H:Own 1 h v l.length (l.map fun n=>Value.int k n)):Rp.Ow (Rp.int k) (fun _=>False) h v l:=
 ⟨l.map fun n=>Value.int k n,H,fun c _=>id,fun i hi=>by
  have:=Rp.el_one (ds:=l.map fun n=>Value.int k n) (i:=i) (by simpa using hi)
  rw[List.getElem_map]at this
  exact this⟩
theorem c_Repeat1 {Z:Nat→Prop}{h:Heap}{v:Value}{x:Int}{n:Nat}(H:SlI Z h v [x])(hn:1≤n)(hn2:n≤4096):
  FCall prog zbj #[v,.int .i64 (n:Int)] h fun r h'=>New (Rp.int .i64) h h' r (List.replicate n x):=by
 apply zed
 unfold zcg
 have hneg:((n:Int)<0)=False:=eq_false (by omega)
 simp only[go_sem,hneg]
 refine zar (fun _ h'=>h'=h) rfl fun xs ρj h' e=>?_
 subst e
 obtain⟨ds,hs,hz,he⟩:=H
 have hdl:=hs.1
 have hd:ds=[Value.int .i64 x]:=by
  have h1:=he 0 (by simp)
  have hl1:ds.length=1:=by simpa[Rp.int]using hdl
  obtain⟨d,rfl⟩:=List.length_eq_one_iff.1 hl1
  exact h1
 subst hd
 obtain⟨a,cap,ev⟩:=hs.isSl
 have e2:zaf v=some (.int .i64 ((1:Nat):Int)):=by rw[ev];rfl
 simp only[go_sem,e2]
 rw[zb7 (by omega),zb7 (m:=n) (by omega)]
 refine(c_bitsMul (x:=1) (y:=n) (by omega) (by omega)).mono fun w h1 ⟨e,hh⟩=>?_
 subst e hh
 try simp only[go_sem]
 rw[show 1*n/18446744073709551616=0 by omega,show 1*n%18446744073709551616=n by omega]
 refine zar (fun _ h'=>h'=h1) ?_ fun xs ρj2 h2 e=>?_
 ·refine zac (fun h0=>absurd h0 (by omega)) (fun _=>rfl)
 subst e
 try simp only[go_sem]
 rw[w64 (n:=(n:Int)) (by omega) (by omega)]
 refine zha rfl (by omega) (by omega) fun u h3 o e f=>?_
 have hs3:SlC 1 h3 v 1 [Value.int .i64 x]:=hs.ext e
 refine zoJ o hs3 (by simp[zam]) fun h4 o4 f4 z4=>?_
 have E4:Ext h2 h4:=e.then_fr f4 f
 have hmin:Nat.min 1 n=1:=Nat.min_eq_left hn
 rw[hmin]
 obtain⟨a2,cap2,eu⟩:=o4.isSl
 have e3:zaf u=some (.int .i64 (n:Int)):=by rw[eu];rfl
 have st:Own 1 h4 u n (List.replicate 1 (Value.int .i64 x)++List.replicate (n-1) (.int .i64 0)):=by
  have e:[Value.int .i64 x].take n++(List.replicate n (Value.int .i64 0)).drop 1=List.replicate 1 (Value.int .i64 x)++List.replicate (n-1) (.int .i64 0):=by
   rw[List.take_of_length_le (by simpa using hn),List.drop_replicate];rfl
  rw[←e];exact o4
 refine za1 (fun d xs h'=>∃m:Nat,d=n-m∧xs=[.int .i64 (m:Int)]∧1≤m∧m≤n∧Ext h2 h'∧Own 1 h' u n (List.replicate m (Value.int .i64 x)++List.replicate (n-m) (.int .i64 0))) (n-1) ⟨1,rfl,rfl,Nat.le_refl _,hn,E4,st⟩ ?_
 rintro d xs ρj3 h5 again ⟨m,rfl,rfl,h1m,hmn,E5,o5⟩ Hag
 simp only[ix_0,e3,zaa,zbp]
 refine zac (fun h0=>?_) (fun h0=>?_)
 ·refine zaj (fun h'=>h'=h5) rfl ?_
  obtain⟨w,w1,w2,w3⟩:=slc_front 1 o5 (k:=.i64) (hi:=m) hmn
  have w2:SlC 1 h5 w m (List.replicate m (Value.int .i64 x)):=by
   have e:(List.replicate m (Value.int .i64 x)++List.replicate (n-m) (Value.int .i64 0)).take (m*1)=List.replicate m (Value.int .i64 x):=by
    rw[Nat.mul_one,List.take_append_of_le_length (by simp),List.take_of_length_le (by simp)]
   rw[e]at w2;exact w2
  obtain⟨d,d1,d2⟩:=cpy_tail o5 (show m<n by omega) w2 (fun y hy=>by rw[(List.mem_replicate.1 hy).2];rfl) (kk:=.i64)
  rw[d1,zaa,w1,zaa]
  refine d2 _ fun h6 o6 f6=>?_
  have hmin2:Nat.min m (n-m)=min m (n-m):=rfl
  rw[hmin2,za6,zaa,w64 (by omega) (by omega),show(m:Int)+((min m (n-m):Nat):Int)=((m+min m (n-m):Nat):Int)by omega]
  refine Hag _ h6 (n-(m+min m (n-m))) (by omega) ⟨m+min m (n-m),rfl,rfl,by omega,by omega,E5.then_fr f6 f,?_⟩
  have e:(List.replicate m (Value.int .i64 x)++List.replicate (n-m) (Value.int .i64 0)).take m++(List.replicate m (Value.int .i64 x)).take (n-m)++(List.replicate m (Value.int .i64 x)++List.replicate (n-m) (Value.int .i64 0)).drop (m+m)
    =List.replicate (m+min m (n-m)) (Value.int .i64 x)++List.replicate (n-(m+min m (n-m))) (.int .i64 0):=by
   rw[List.take_append_of_le_length (by simp),List.take_of_length_le (by simp),List.take_replicate,List.drop_append,List.drop_eq_nil_of_le (by simp),List.nil_append,List.drop_replicate,List.length_replicate,List.replicate_append_replicate,Nat.min_comm]
   congr 2;omega
  rw[←e];exact o6
 ·have:m=n:=by omega
  subst this
  refine⟨ow_ints ?_,E5,f⟩
  rw[List.length_replicate,←rep_ints]
  simpa using o5
def zjA (r:Int):Prop:=r<0∨511<r
instance (r:Int):Decidable (zjA r):=by unfold zjA;infer_instance
def blurC (r:Int):Int:=if zjA r then 7 else userC (List.replicate (2*r+1).toNat 1)
def blurW (r:Int):List Int:=if zjA r then[]else userW (List.replicate (2*r+1).toNat 1)
theorem blurW_I64 (r:Int):∀x∈blurW r,I64 x:=by
 unfold blurW
 split
 ·simp
 ·exact zoO _
theorem c_Blur {h:Heap}{r:Int}(hr:I64 r):FCall prog zlg #[.int .i64 r] h fun w h'=>∃u,w=.tuple #[u,.int .i64 (blurC r)]∧New (Rp.int .i64) h h' u (blurW r):=by
 apply ok_taps_Blur
 unfold znN
 try simp only[go_sem]
 unfold blurC blurW
 refine zac (fun h0=>?_) (fun h0=>?_)
 ·have:zjA r:=h0
  rw[if_pos this,if_pos this]
  exact⟨_,rfl,New.nil (Ext.refl _)⟩
 ·have hn:¬zjA r:=h0
  rw[if_neg hn,if_neg hn]
  refine zbn (Rp.fill_one rfl) fun b h1 r1 e1 n1=>?_
  rw[w64 (n:=2*r) (by omega) (by omega)]
  try simp only[go_sem]
  rw[w64 (n:=2*r+1) (by omega) (by omega)]
  have hs:SlI (fun _=>True) h1 (.slice (some ⟨b,0,none⟩) 1 1) [1]:=⟨[Value.int .i64 1],Rp.SlC.single (cs:=[Value.int .i64 1]) r1,fun _ _ _=>trivial,fun i hi=>by
   have:i=0:=by simpa using hi
   subst this
   rfl⟩
  obtain⟨N,hN⟩:∃N:Nat,N=(2*r+1).toNat:=⟨_,rfl⟩
  rw[←hN,show 2*r+1=(N:Int)by omega]
  refine(c_Repeat1 hs (n:=N) (by omega) (by omega)).mono fun v h2 H2=>?_
  refine(znu H2.sl (fun x hx=>by rw[(List.mem_replicate.1 hx).2];unfold I64;omega) (by rw[List.length_replicate];omega)).mono fun w h3 ⟨u,e,H3⟩=>?_
  subst e
  try simp only[go_sem]
  exact⟨u,rfl,H3.before (e1.trans H2.2.1)⟩
end Go.Proofs.YtcoimlclclnlkaaGreatDoor
namespace Go.Crisp
open Go
theorem zcV (c:Array Value):fillL c []=some c:=rfl
theorem zpL {a b x y:Value}(ha:zam a=true)(hb:zam b=true):fillL #[x,y] [(0,1,a),(1,1,b)]=some #[a,b]:=by
 simp only[fillL,zaK ha,zaK hb]
 rfl
theorem fill_41 {a x y z w:Value}(ha:zam a=true):fillL #[x,y,z,w] [(0,1,a)]=some #[a,y,z,w]:=by
 simp only[fillL,zaK ha]
 rfl
def mostL (ls:List (Int×List Int)):Int:=ls.foldl (fun m x=>max m (x.2.length:Int)) 0
def sizeL (ls:List (Int×List Int)):Int:=ls.foldl (fun m x=>max m (zfP x.2)) 0
theorem mostL_snoc (ls:List (Int×List Int))(x:Int×List Int):mostL (ls++[x])=max (mostL ls) (x.2.length:Int):=by unfold mostL;rw[List.foldl_append];rfl
theorem sizeL_snoc (ls:List (Int×List Int))(x:Int×List Int):sizeL (ls++[x])=max (sizeL ls) (zfP x.2):=by unfold sizeL;rw[List.foldl_append];rfl
def rLine:Rp (Int×List Int) where
 w:=2
 R:=fun Z h cs x=>∃v,cs=[.int .i64 x.1,v]∧Rp.Sl (Rp.int .i64) Z h v x.2
 len:=by rintro _ _ _ _ ⟨v,rfl,_⟩;rfl
 one:=by
  rintro _ _ _ _ ⟨v,rfl,H⟩ u hu
  rcases List.mem_cons.1 hu with rfl|hu
  ·rfl
  ·rw[List.mem_singleton.1 hu];exact H.one
 fr:=by rintro _ _ _ _ _ _ ⟨v,rfl,H⟩ f q;exact⟨v,rfl,H.fr f q⟩
 mono:=by rintro _ _ _ _ _ ⟨v,rfl,H⟩ q;exact⟨v,rfl,H.mono q⟩
def CapOk (v:Value):Prop:=∃a n c,v=.slice a n c∧n≤c
theorem Rp.Ow.cap {α:Type}{e:Rp α}{Z:Nat→Prop}{h:Heap}{v:Value}{l:List α}(H:Rp.Ow e Z h v l):CapOk v:=by
 obtain⟨ds,o,_⟩:=H
 rcases o with⟨rfl,_,_⟩|⟨b,cap,r,e,rfl,hc,_⟩
 ·exact⟨_,_,_,rfl,Nat.le_refl _⟩
 ·exact⟨_,_,_,rfl,hc⟩
structure Tbl where
 n:Int
 lines:List (Int×List Int)
def rTbl:Rp Tbl where
 w:=4
 R:=fun Z h cs t=>∃lv,cs=[.int .i64 t.n,lv,.int .i64 (mostL t.lines),.int .i64 (sizeL t.lines)]∧Rp.Sl rLine Z h lv t.lines∧CapOk lv
 len:=by rintro _ _ _ _ ⟨v,rfl,_⟩;rfl
 one:=by
  rintro _ _ _ _ ⟨v,rfl,H,_⟩
  exact zad rfl (zad H.one (zad rfl (zad rfl zaq)))
 fr:=by rintro _ _ _ _ _ _ ⟨v,rfl,H,c⟩ f q;exact⟨v,rfl,H.fr f q,c⟩
 mono:=by rintro _ _ _ _ _ ⟨v,rfl,H,c⟩ q;exact⟨v,rfl,H.mono q,c⟩
abbrev IsTbl (Z:Nat→Prop)(h:Heap)(p:Value)(t:Tbl):Prop:=Rp.Pt rTbl Z h p t
theorem IsTbl.open {Z:Nat→Prop}{h:Heap}{p:Value}{t:Tbl}(H:IsTbl Z h p t):∃b lv,p=.pointer (some ⟨b,0,none⟩)∧zah h ⟨b,0,none⟩=some (.int .i64 t.n)∧zah h ⟨b,1,none⟩=some lv∧zah h ⟨b,2,none⟩=some (.int .i64 (mostL t.lines))∧
  zah h ⟨b,3,none⟩=some (.int .i64 (sizeL t.lines))∧Rp.Sl rLine Z h lv t.lines∧Z b∧b<h.size∧CapOk lv:=by
 obtain⟨b,ds,ty,rfl,r,hz,lv,rfl,hl,hc⟩:=H
 exact⟨b,lv,rfl,zab r,zab r,zab r,zab r,hl,hz,zaz r,hc⟩
structure TblAt (h0:Heap)(Z:Nat→Prop)(h:Heap)(b:Nat)(ty:TypeId)(lv:Value)(n:Int)(ls:List (Int×List Int)):Prop where
 ext:Ext h0 h
 row:h[b]? =some (.cells #[.int .i64 n,lv,.int .i64 (mostL ls),.int .i64 (sizeL ls)] ty (0,0))
 ow:Rp.Ow rLine Z h lv ls
 nb:h0.size≤b
 nl:∀c,blk lv c→h0.size≤c
 zb:¬Z b
 lb:¬blk lv b
 zf:∀c,Z c→h0.size≤c∧c<h.size
theorem TblAt.more {h0 h:Heap}{Z Z':Nat→Prop}{b:Nat}{ty:TypeId}{lv:Value}{n:Int}{ls:List (Int×List Int)}{h':Heap}(T:TblAt h0 Z h b ty lv n ls)(e:Ext h h')(q:∀c,Z c→Z' c)(q1:∀c,Z' c→¬Z c→h.size≤c∧c<h'.size):TblAt h0 Z' h' b ty lv n ls where
 ext:=T.ext.trans e
 row:=e.row T.row
 ow:=(T.ow.ext e).mono (fun c _ hz=>q c hz) fun c hc hz=>by
  by_cases h1:Z c
  ·obtain⟨ds,_,h2,_⟩:=T.ow
   exact h2 c hc h1
  ·have:=q1 c hz h1
   have:=T.ow.lt hc
   omega
 nb:=T.nb
 nl:=T.nl
 zb:=fun hz=>by
  by_cases h1:Z b
  ·exact T.zb h1
  ·have:=q1 b hz h1
   have:=zaz T.row
   omega
 lb:=T.lb
 zf:=fun c hz=>by
  by_cases h1:Z c
  ·have:=T.zf c h1
   have:=e.1
   omega
  ·have:=q1 c hz h1
   have:=T.ext.1
   omega
theorem TblAt.done {h0 h:Heap}{Z:Nat→Prop}{b:Nat}{ty:TypeId}{lv:Value}{n:Int}{ls:List (Int×List Int)}(T:TblAt h0 Z h b ty lv n ls):IsTbl (fun c=>h0.size≤c∧c<h.size) h (.pointer (some ⟨b,0,none⟩)) ⟨n,ls⟩:=
 ⟨b,[_,_,_,_],ty,rfl,T.row,⟨T.nb,zaz T.row⟩,lv,rfl,T.ow.sl.mono fun c _ hc=>by
  rcases hc with hc|hc
  ·exact T.zf c hc
  ·exact⟨T.nl c hc,T.ow.lt hc⟩,T.ow.cap⟩
end Go.Crisp
namespace Go.Proofs.YtcoimlclclnlkaaGreatDoor
open Go Go.Crisp
attribute [local irreducible] FCall rowK newK stK iteK vK qK drawK gK joinK loopK mkK appK cpyK zoB zmd bsK clK
open _root_.Go.Proofs.Tryz
theorem zld {h:Heap}{n:Int}:FCall prog zeZ #[.int .i64 n] h fun r h'=>r=.bool (decide (1≤n∧n≤65536))∧h'=h:=by
 apply zrW
 unfold zlC
 try simp only[go_sem]
 exact⟨by simp,by simp⟩
theorem zrd {h0 h:Heap}{Z:Nat→Prop}{b:Nat}{ty:TypeId}{lv u:Value}{n first:Int}{ls:List (Int×List Int)}{l:List Int}(T:TblAt h0 Z h b ty lv n ls)(H:SlI Z h u l)(h64:∀x∈l,I64 x)(hl:l.length<1048577)(hls:ls.length≤65536):
  FCall prog zc6 #[.pointer (some ⟨b,0,none⟩),.int .i64 first,u] h fun _ h'=>∃lv',TblAt h0 Z h' b ty lv' n (ls++[(first,l)])∧Fr (fun c=>c=b∨blk lv c) h h':=by
 apply zml
 unfold zgA
 have c1:zah h ⟨b,1,none⟩=some lv:=zab T.row
 obtain⟨au,cu,eu⟩:=H.isSl
 have eu2:zaf u=some (.int .i64 (l.length:Int)):=by rw[eu];rfl
 simp only[go_sem,c1,zpL (a:=.int .i64 first) (b:=u) rfl H.one,Option.map_some]
 refine Rp.push_ow (e:=rLine) (cs:=[.int .i64 first,u]) (x:=(first,l)) T.ow ⟨u,rfl,H⟩ rfl rfl (by omega) (by omega) (fun c hc=>(T.zf c hc).2) fun lv' h1 o1 f1 n1=>?_
 have r1:=f1.row T.row T.lb
 have lb1:¬blk lv' b:=fun hb=>by
  rcases n1 b hb with h2|h2
  ·exact T.lb h2
  ·have:=zaz T.row;omega
 obtain⟨al,cl,el⟩:=o1.isSl
 try simp only[go_sem]
 refine zaH r1 (by simp) (by rw[el];rfl) fun h2 r2 u2=>?_
 have c2:zah h2 ⟨b,2,none⟩=some (.int .i64 (mostL ls)):=zab r2
 simp only[go_sem,c2,eu2]
 refine zaH r2 (by simp) rfl fun h3 r3 u3=>?_
 have c3:zah h3 ⟨b,3,none⟩=some (.int .i64 (sizeL ls)):=zab r3
 refine zaj (fun h'=>h'=h3) rfl ?_
 try simp only[go_sem]
 refine zae _ (fun h' e=>by rw[e];exact c3) ?_
 have F3:Fr (fun c=>c=b∨blk lv c) h h3:=((f1.mono fun c _ hc=>.inr hc).trans (u2.fr.mono fun c _ hc=>.inl hc)).trans (u3.fr.mono fun c _ hc=>.inl hc)
 have H3:SlI Z h3 u l:=H.fr F3 fun c hc hz hm=>by
  rcases hm with rfl|hm
  ·exact T.zb hz
  ·obtain⟨ds,_,h2,_⟩:=T.ow
   exact h2 c hm hz
 refine(zpR H3 h64 (by omega)).mono fun w h4 ⟨e4,w4⟩=>?_
 subst e4 w4
 refine⟨rfl,?_⟩
 refine zae _ (fun h' _=>zsu _ _ _) ?_
 refine zaH r3 (by simp) rfl fun h5 r5 u5=>?_
 have F5:=F3.trans (u5.fr.mono (M':=fun c=>c=b∨blk lv c) fun c _ hc=>.inl hc)
 refine⟨lv',⟨?_,?_,?_,T.nb,?_,T.zb,lb1,?_⟩,F5⟩
 ·exact T.ext.then_fr F5 fun c hc=>by
   rcases hc with rfl|hc
   ·exact T.nb
   ·exact T.nl c hc
 ·rw[mostL_snoc,sizeL_snoc]
  simpa using r5
 ·have g:Fr (fun c=>c=b) h1 h5:=(u2.fr.trans u3.fr).trans u5.fr
  exact o1.fr g (fun c _ hz he=>T.zb (he▸hz)) fun c hc he=>lb1 (he▸hc)
 ·intro c hc
  rcases n1 c hc with h2|h2
  ·exact T.nl c h2
  ·exact Nat.le_trans T.ext.1 h2
 ·intro c hz
  have:=T.zf c hz
  have:=F5.1
  omega
end Go.Proofs.YtcoimlclclnlkaaGreatDoor
namespace Go.Proofs.YtcoimlclclnlkaaGreatDoor
open Go Go.Crisp
attribute [local irreducible] FCall rowK newK stK iteK vK qK drawK gK joinK loopK mkK appK cpyK zoB zmd bsK
open _root_.Go.Proofs.Tryz
abbrev Two (h:Heap)(b:Nat)(t:TypeId)(x y:Value):Prop:=h[b]? =some (.cells #[x,y] t (0,0))
theorem Two.a {h:Heap}{b:Nat}{t:TypeId}{x y:Value}(r:Two h b t x y):zah h ⟨b,0,none⟩=some x:=zab r
theorem Two.b {h:Heap}{b:Nat}{t:TypeId}{x y:Value}(r:Two h b t x y):zah h ⟨b,1,none⟩=some y:=zab r
theorem Two.all {h:Heap}{b:Nat}{t:TypeId}{x y:Value}(r:Two h b t x y):ldsV 2 h (.pointer (some ⟨b,0,none⟩))=some (.agg #[x,y]):=zap (l:=[x,y]) r 2 rfl
abbrev Big (h:Heap)(b:Nat)(t:TypeId)(n:Nat):Prop:=Two h b t (.int .u64 ((n/18446744073709551616:Nat):Int)) (.int .u64 ((n%18446744073709551616:Nat):Int))
theorem Big.all {h:Heap}{b:Nat}{t:TypeId}{n:Nat}(r:Big h b t n):ldsV 2 h (.pointer (some ⟨b,0,none⟩))=some (bigV n):=Two.all r
theorem zcj (n:Nat):Value.cells (bigV n)=#[.int .u64 ((n/18446744073709551616:Nat):Int),.int .u64 ((n%18446744073709551616:Nat):Int)]:=rfl
theorem zm2 {n:Nat}(h:n<18446744073709551616):bigV n=.agg #[.int .u64 0,.int .u64 (n:Int)]:=by
 unfold bigV
 rw[Nat.div_eq_of_lt h,Nat.mod_eq_of_lt h];rfl
theorem zlq:bigV 0=.agg #[.int .u64 0,.int .u64 0]:=rfl
theorem zjV:bigV 1=.agg #[.int .u64 0,.int .u64 1]:=rfl
theorem zdj {t:TypeId}{b:Nat}{h:Heap}{x y:Value}{n:Nat}{K:Value→Heap→Prop}(r:Two h b t x y)(hK:∀h',Big h' b t n→Upd b h h'→K undef h'):stK 2 (.pointer (some ⟨b,0,none⟩)) (bigV n) h K:=
 zbA (l:=[.int .u64 ((n/18446744073709551616:Nat):Int),.int .u64 ((n%18446744073709551616:Nat):Int)]) r rfl (zad rfl (zad rfl zaq)) rfl hK
theorem zdQ {t:TypeId}{h:Heap}{n:Nat}{K:Value→Heap→Prop}(H:∀b h',Big h' b t n→Ext h h'→h.size≤b→K (.pointer (some ⟨b,0,none⟩)) h'):newK #[.int .u64 0,.int .u64 0] t h fun v h2=>stK 2 v (bigV n) h2 fun _ h3=>K v h3:=
 zbh (cs:=[.int .u64 ((n/18446744073709551616:Nat):Int),.int .u64 ((n%18446744073709551616:Nat):Int)]) rfl (zad rfl (zad rfl zaq)) rfl H
theorem zdS {a b x y:Int}:fillL #[(.int .u64 x),(.int .u64 y)] [(0,1,(.int .u64 a)),(1,1,(.int .u64 b))]=some #[.int .u64 a,.int .u64 b]:=zpL rfl rfl
theorem fill_2l {b x y:Int}:fillL #[(.int .u64 x),(.int .u64 y)] [(1,1,(.int .u64 b))]=some #[.int .u64 x,.int .u64 b]:=by
 simp only[fillL,zaK (v:=.int .u64 b) rfl]
 rfl
theorem zaA (c:Array Value):(some c).map Value.agg=some (.agg c):=rfl
theorem zp1 {n:Nat}{x y:Int}(hx:x=((n/18446744073709551616:Nat):Int))(hy:y=((n%18446744073709551616:Nat):Int)):(Value.agg #[.int .u64 x,.int .u64 y])=bigV n:=by rw[hx,hy];rfl
theorem zeU {h:Heap}{n bit:Nat}(hb:bit≤1)(hn:2*n+bit<340282366920938463463374607431768211456):
  FCall prog zbf #[bigV n,.int .u64 (bit:Int)] h fun r h'=>r=bigV (2*n+bit)∧Ext h h':=by
 apply zqe
 unfold zkq
 rw[zcj]
 refine zag fun b1 h1 r1 e1 n1=>?_
 refine zag fun b2 h2 r2 e2 n2=>?_
 have r1:=e2.row r1
 simp only[go_sem,Two.a r1,Two.b r1]
 rw[show(1:Int)=((1:Nat):Int)from rfl,show(63:Int)=((63:Nat):Int)from rfl,ziY _ (by omega),zaa,ze3 _ (by omega),zaa,za6,zaa,ziY _ (by omega),zaa,za6,zaa,zdS,zaA,zaa]
 rw[zp1 (n:=2*n+bit) (by rw[zbC];omega) (by rw[zbC];omega)]
 refine zdj r2 fun h3 r3 u3=>?_
 rw[r3.all,zaa]
 exact⟨rfl,(e1.trans e2).upd (Nat.le_trans e1.1 n2) u3⟩
theorem zmM {h:Heap}{m n:Nat}(hn:m+n<340282366920938463463374607431768211456):
  FCall prog zcs #[bigV m,bigV n] h fun r h'=>r=bigV (m+n)∧Ext h h':=by
 apply zr9
 unfold zlP
 rw[zcj,zcj]
 refine zag fun b1 h1 r1 e1 n1=>?_
 refine zag fun b2 h2 r2 e2 n2=>?_
 refine zag fun b3 h3 r3 e3 n3=>?_
 have r1:=(e2.trans e3).row r1
 have r2:=e3.row r2
 have l3:=zaz r3
 simp only[go_sem,Two.a r1,Two.b r1,Two.a r2,Two.b r2]
 rw[zdS,zaA,zaa]
 refine zag fun b4 h4 r4 e4 n4=>?_
 refine zbA (l:=[_,_]) r4 rfl (zad rfl (zad rfl zaq)) rfl fun h5 r5 u5=>?_
 have e5:=e4.upd n4 u5
 have r1:=e5.row r1
 have r3:=e5.row r3
 simp only[zbC]at r5
 simp only[go_sem,Two.a r5,Two.b r5,Two.b r1,zbC]
 have e0:=e1.trans (e2.trans (e3.trans e5))
 have k3:h.size≤b3:=Nat.le_trans (e1.trans e2).1 n3
 have k4:h.size≤b4:=Nat.le_trans (e1.trans (e2.trans e3)).1 n4
 have k34:b3≠b4:=by omega
 refine zac (fun hc=>?_) (fun hc=>?_)
 ·refine zaH r5 (by simp) rfl fun h6 r6 u6=>?_
  have r3:=u6.row k34 r3
  have r6:Two h6 b4 _ (.int .u64 _) (.int .u64 _):=r6
  rw[Two.all r6,zaa]
  rw[zp1 (n:=m+n) (by omega) (by omega)]
  refine zdj r3 fun h7 r7 u7=>?_
  rw[r7.all,zaa]
  exact⟨rfl,(e0.upd k4 u6).upd k3 u7⟩
 ·rw[Two.all r5,zaa]
  rw[zp1 (n:=m+n) (by omega) (by omega)]
  refine zdj r3 fun h7 r7 u7=>?_
  rw[r7.all,zaa]
  exact⟨rfl,e0.upd k3 u7⟩
theorem c_r1Minus {h:Heap}{m n:Nat}(hm:m<340282366920938463463374607431768211456)(hn:n≤m):
  FCall prog zfz #[bigV m,bigV n] h fun r h'=>r=bigV (m-n)∧Ext h h':=by
 apply zqh
 unfold zkt
 rw[zcj,zcj]
 refine zag fun b1 h1 r1 e1 n1=>?_
 refine zag fun b2 h2 r2 e2 n2=>?_
 refine zag fun b3 h3 r3 e3 n3=>?_
 have r1:=(e2.trans e3).row r1
 have r2:=e3.row r2
 have l3:=zaz r3
 simp only[go_sem,Two.a r1,Two.b r1,Two.a r2,Two.b r2]
 rw[zdS,zaA,zaa]
 refine zag fun b4 h4 r4 e4 n4=>?_
 refine zbA (l:=[_,_]) r4 rfl (zad rfl (zad rfl zaq)) rfl fun h5 r5 u5=>?_
 have e5:=e4.upd n4 u5
 have r1:=e5.row r1
 have r2:=e5.row r2
 have r3:=e5.row r3
 simp only[zbC]at r5
 simp only[go_sem,Two.a r5,Two.b r5,Two.b r1,Two.b r2,zbC]
 have e0:=e1.trans (e2.trans (e3.trans e5))
 have k3:h.size≤b3:=Nat.le_trans (e1.trans e2).1 n3
 have k4:h.size≤b4:=Nat.le_trans (e1.trans (e2.trans e3)).1 n4
 have k34:b3≠b4:=by omega
 refine zac (fun hc=>?_) (fun hc=>?_)
 ·refine zaH r5 (by simp) rfl fun h6 r6 u6=>?_
  have r3:=u6.row k34 r3
  have r6:Two h6 b4 _ (.int .u64 _) (.int .u64 _):=r6
  rw[Two.all r6,zaa]
  rw[zp1 (n:=m-n) (by omega) (by omega)]
  refine zdj r3 fun h7 r7 u7=>?_
  rw[r7.all,zaa]
  exact⟨rfl,(e0.upd k4 u6).upd k3 u7⟩
 ·rw[Two.all r5,zaa]
  rw[zp1 (n:=m-n) (by omega) (by omega)]
  refine zdj r3 fun h7 r7 u7=>?_
  rw[r7.all,zaa]
  exact⟨rfl,e0.upd k3 u7⟩
theorem zmN {h:Heap}{m n:Nat}:FCall prog zcZ #[bigV m,bigV n] h fun r h'=>r=.bool (decide (m<n))∧Ext h h':=by
 apply zsb
 unfold zlR
 rw[zcj,zcj]
 refine zag fun b1 h1 r1 e1 n1=>?_
 refine zag fun b2 h2 r2 e2 n2=>?_
 have r1:=e2.row r1
 simp only[go_sem,Two.a r1,Two.b r1,Two.a r2,Two.b r2]
 refine zac (fun hc=>?_) (fun hc=>?_)
 ·exact⟨by congr 1;exact decide_eq_decide.2 (by omega),e1.trans e2⟩
 ·exact⟨by congr 1;exact decide_eq_decide.2 (by omega),e1.trans e2⟩
theorem zp3 {a:Nat}(ha:a<18446744073709551616):binV .i .and (.int .u64 (a:Int)) (.int .u64 1)=some (.int .u64 ((a%2:Nat):Int)):=by
 have:=and_u64 ha (b:=1) (by omega)
 rw[Nat.and_one_is_mod]at this
 exact this
theorem znw {h:Heap}{m i:Nat}(hm:m<340282366920938463463374607431768211456)(hi:i<128):FCall prog zcy #[bigV m,.int .i64 (i:Int)] h fun r h'=>r=.int .u64 ((m/2^i%2:Nat):Int)∧Ext h h':=by
 apply ok_ref01_Bit
 unfold znV
 rw[zcj]
 refine zag fun b1 h1 r1 e1 n1=>?_
 simp only[go_sem,Two.a r1,Two.b r1]
 refine zac (fun hc=>?_) (fun hc=>?_)
 ·rw[w64 (n:=(i:Int)-64) (by omega) (by omega),show(i:Int)-64=((i-64:Nat):Int)by omega,ze3 _ (by omega),zaa]
  rw[zp3 (Nat.lt_of_le_of_lt (Nat.div_le_self _ _) (by omega)),zaa]
  refine⟨?_,e1⟩
  have e:m/2^i=m/18446744073709551616/2^(i-64):=by
   rw[Nat.div_div_eq_div_mul,show(18446744073709551616:Nat)=2^64 from rfl,←Nat.pow_add,show 64+(i-64)=i by omega]
  rw[e]
 ·rw [ze3 _ (by omega),zaa]
  rw[zp3 (Nat.lt_of_le_of_lt (Nat.div_le_self _ _) (Nat.mod_lt _ (by omega))),zaa]
  refine⟨?_,e1⟩
  have hp:(0:Nat)<2^i:=Nat.pow_pos (by omega)
  have hp64:(18446744073709551616:Nat)=2^i*(2*2^(63-i)):=by rw[←Nat.pow_succ',←Nat.pow_add,show i+(63-i+1)=64 by omega]
  have e1:m/2^i=m/18446744073709551616*(2*2^(63-i))+m%18446744073709551616/2^i:=by
   have e:=Nat.div_add_mod m 18446744073709551616
   have e2:m=m%18446744073709551616+2^i*(m/18446744073709551616*(2*2^(63-i))):=by
    have:2^i*(m/18446744073709551616*(2*2^(63-i)))=18446744073709551616*(m/18446744073709551616):=by
     conv=>rhs;rw[hp64]
     rw[Nat.mul_left_comm,Nat.mul_comm,←hp64]
    rw[this];omega
   conv=>lhs;rw[e2]
   rw[Nat.add_mul_div_left _ _ hp,Nat.add_comm]
  rw[e1,Nat.mul_left_comm,Nat.mul_add_mod]
theorem zgY {h:Heap}{x:Int}(hx:I64 x):FCall prog zbG #[.int .i64 x] h fun r h'=>r=.int .u64 (x.natAbs:Int)∧h'=h:=by
 apply zr8
 unfold zlO
 simp only[go_sem,zbC,zdh]
 unfold I64 at hx
 refine zac (fun h0=>?_) (fun h0=>?_)
 ·exact⟨by congr 1;omega,trivial⟩
 ·exact⟨by congr 1;omega,trivial⟩
theorem zfv {h:Heap}{m:Nat}{b:Bool}(hm:m<340282366920938463463374607431768211456):FCall prog za3 #[bigV m,.bool b] h fun r h'=>r=.int .i64 (holdZ m b)∧Ext h h':=by
 apply zsc
 unfold zlS
 rw[zcj]
 refine zag fun b1 h1 r1 e1 n1=>?_
 unfold holdZ
 cases b
 ·simp only[go_sem,Two.a r1,Two.b r1,Bool.false_eq_true,if_false]
  refine zac (fun h0=>?_) (fun h0=>?_)
  ·rw[if_pos (by omega)];exact⟨rfl,e1⟩
  ·rw[if_neg (by omega),w64 (by omega) (by omega)];exact⟨by congr 1;omega,e1⟩
 ·simp only[go_sem,Two.a r1,Two.b r1,if_true]
  refine zac (fun h0=>?_) (fun h0=>?_)
  ·rw[if_pos (by omega)];exact⟨rfl,e1⟩
  ·rw[w64 (n:=((m%18446744073709551616:Nat):Int)) (by omega) (by omega),w64 (by omega) (by omega)]
   refine⟨?_,e1⟩
   congr 1
   split<;>omega
theorem zoD {a b:Nat}(ha:a<18446744073709551616)(hb:b<18446744073709551616):a*b<340282366920938463463374607431768211456:=by
 have:=Nat.mul_lt_mul'' ha hb
 exact this
theorem c_r1Times {h:Heap}{a b:Nat}(ha:a<18446744073709551616)(hb:b<18446744073709551616):
  FCall prog zfy #[.int .u64 (a:Int),.int .u64 (b:Int)] h fun r h'=>r=bigV (a*b)∧Ext h h':=by
 apply zqf
 unfold zkr
 refine zag fun b1 h1 r1 e1 n1=>?_
 have l1:=zaz r1
 rw[fillL,zaA,zaa,←zlq]
 refine zdQ (n:=0) fun b2 h2 r2 e2 n2=>?_
 refine zaF (α:=Unit) 64 0 (fun i _=>[.int .i64 (63-(i:Int))]) (fun i _ h'=>Big h' b2 293 (a*(b/2^(64-i)))∧Ext h1 h') () rfl (by omega) ⟨by rw[Nat.div_eq_of_lt hb];exact r2,e2⟩ fun i _ h3 again ρj _ hi ⟨r3,e3⟩ H=>?_
 simp only[go_sem]
 have hbb:b/2^(64-i)≤b:=Nat.div_le_self _ _
 have hm:=zoD ha (Nat.lt_of_le_of_lt hbb hb)
 refine zac (fun h0=>?_) (fun h0=>?_)
 ·have hi:i<64:=by omega
  have hv:=halve b (63-i)
  rw[show 63-i+1=64-i by omega]at hv
  have hmm:a*(b/2^(63-i))=2*(a*(b/2^(64-i)))+a*(b/2^(63-i)%2):=by
   conv=>lhs;rw[hv]
   rw[Nat.mul_add,Nat.mul_left_comm]
  have hlt:=zoD ha (Nat.lt_of_le_of_lt (Nat.div_le_self b (2^(63-i))) hb)
  have H:=fun h'=>H () h' hi
  rw[show 64-(i+1)=63-i by omega,hmm]at H
  rw[hmm]at hlt
  generalize a*(b/2^(64-i))=p at*
  rw[r3.all,zaa]
  refine(zeU (n:=p) (bit:=0) (by omega) (by omega)).mono fun v h4 ⟨e,e4⟩=>?_
  subst e
  have r3:=e4.row r3
  refine zdj r3 fun h5 r5 u5=>?_
  have e5:Ext h1 h5:=(e3.trans e4).upd n2 u5
  rw[show(63:Int)-(i:Int)=((63-i:Nat):Int)by omega,ze3 _ (by omega),zaa]
  rw[zp3 (Nat.lt_of_le_of_lt (Nat.div_le_self _ _) hb),zaa,zeB,zaa]
  refine zac (fun h6=>?_) (fun h6=>?_)
  ·have h6:b/2^(63-i)%2=1:=by omega
   rw[h6,Nat.mul_one]at hlt H
   rw[r5.all,zaa,zdS,zaA,zaa,←zm2 ha]
   refine(zmM (m:=2*p+0) (n:=a) (by omega)).mono fun v h6 ⟨e,e6⟩=>?_
   subst e
   refine zdj (e6.row r5) fun h7 r7 u7=>?_
   rw[w64 (by omega) (by omega)]
   have:=H h7 ⟨r7,(e5.trans e6).upd n2 u7⟩
   rw[show(63:Int)-((i+1:Nat):Int)=((63-i:Nat):Int)-1 by omega]at this
   exact this
  ·have h6:b/2^(63-i)%2=0:=by omega
   rw[h6,Nat.mul_zero]at H
   rw[w64 (by omega) (by omega)]
   have:=H h5 ⟨r5,e5⟩
   rw[show(63:Int)-((i+1:Nat):Int)=((63-i:Nat):Int)-1 by omega]at this
   exact this
 ·have:i=64:=by omega
  subst this
  rw[show b/2^(64-64)=b by simp]at r3
  rw[r3.all,zaa]
  refine zdj (e3.row r1) fun h4 r4 u4=>?_
  rw[r4.all,zaa]
  exact⟨rfl,(e1.trans e3).upd n1 u4⟩
theorem c_r1Over {h:Heap}{m d:Nat}(hm:m<340282366920938463463374607431768211456)(hd:d<18446744073709551616)(hd0:0<d):
  FCall prog zg5 #[bigV m,.int .u64 (d:Int)] h fun r h'=>r=.tuple #[bigV (m/d),.int .u64 ((m%d:Nat):Int)]∧Ext h h':=by
 apply zsa
 unfold zlQ
 rw[zcj]
 refine zag fun b1 h1 r1 e1 n1=>?_
 refine zag fun b2 h2 r2 e2 n2=>?_
 have r1:=e2.row r1
 have l1:=zaz r1
 have l2:=zaz r2
 rw[fillL,zaA,zaa,←zlq]
 refine zdQ (n:=0) fun b3 h3 r3 e3 n3=>?_
 have l3:=zaz r3
 rw[zaa]
 refine zdQ (n:=0) fun b4 h4 r4 e4 n4=>?_
 rw[zeB,zaa,show decide ((d:Int)=0)=false from decide_eq_false (by omega),zbo]
 have e04:Ext h h4:=e1.trans (e2.trans (e3.trans e4))
 have k2:h.size≤b2:=Nat.le_trans e1.1 n2
 have k3:h.size≤b3:=Nat.le_trans (e1.trans e2).1 n3
 have k4:h.size≤b4:=Nat.le_trans (e1.trans (e2.trans e3)).1 n4
 refine zaF (α:=Unit) 128 0 (fun i _=>[.int .i64 (127-(i:Int))]) (fun i _ h'=>Big h' b1 293 m∧Two h' b2 293 (.int .u64 0) (.int .u64 0)∧Big h' b3 293 (m/2^(128-i)/d)∧Big h' b4 293 (m/2^(128-i)%d)∧Ext h h')
  () rfl (by omega) ?_ fun i _ h5 again ρj _ hi ⟨r1,r2,r3,r4,e5⟩ H=>?_
 ·have q:m/2^(128-0)=0:=Nat.div_eq_of_lt (Nat.lt_of_lt_of_le hm (by decide))
  rw[q,Nat.zero_div,Nat.zero_mod]
  exact⟨(e3.trans e4).row r1,(e3.trans e4).row r2,e4.row r3,r4,e04⟩
 simp only[go_sem]
 have hr:m/2^(128-i)%d<d:=Nat.mod_lt _ hd0
 refine zac (fun h0=>?_) (fun h0=>?_)
 ·have hi:i<128:=by omega
  have H:=fun h'=>H () h' hi
  have hv:=halve m (127-i)
  rw[show 127-i+1=128-i by omega]at hv
  rw[show 128-(i+1)=127-i by omega]at H
  have hb:m/2^(127-i)%2≤1:=by omega
  have hs:=over_step (n:=m/2^(128-i)) hd0 rfl rfl hb
  rw[←hv]at hs
  rw[hs.1,hs.2]at H
  have hq:2*(m/2^(128-i)/d)+(if d≤2*(m/2^(128-i)%d)+m/2^(127-i)%2 then 1 else 0)<340282366920938463463374607431768211456:=by
   rw[←hs.1]
   exact Nat.lt_of_le_of_lt (Nat.le_trans (Nat.div_le_self _ _) (Nat.div_le_self _ _)) hm
  rw[show(127:Int)-((i+1:Nat):Int)=((127-i:Nat):Int)-1 by omega]at H
  rw[show(127:Int)-(i:Int)=((127-i:Nat):Int)by omega]
  have hbit:∀h',FCall prog zcy #[bigV m,.int .i64 ((127-i:Nat):Int)] h' fun r h''=>r=.int .u64 ((m/2^(127-i)%2:Nat):Int)∧Ext h' h'':=fun h'=>znw hm (by omega)
  generalize m/2^(127-i)%2=bit at*
  generalize m/2^(128-i)/d=q at*
  generalize m/2^(128-i)%d=r at*
  refine zaj (Ext h5) (Ext.refl _) ?_
  refine zae _ (fun h' e=>Big.all (e.row r4)) ?_
  refine zae _ (fun h' e=>Big.all (e.row r1)) ?_
  refine(hbit h5).mono fun v h6 ⟨e,e6⟩=>?_
  subst e
  refine⟨e6,?_⟩
  refine(zeU (n:=r) (bit:=bit) hb (by omega)).mono fun v h7 ⟨e,e7⟩=>?_
  subst e
  have e67:=e6.trans e7
  refine zdj (e67.row r4) fun h8 r4 u8=>?_
  have r1:=u8.row (by omega) (e67.row r1)
  have r2:=u8.row (by omega) (e67.row r2)
  have r3:=u8.row (by omega) (e67.row r3)
  have e8:=(e5.trans e67).upd k4 u8
  rw[Big.all r3,zaa]
  refine(zeU (n:=q) (bit:=0) (by omega) (by omega)).mono fun v h9 ⟨e,e9⟩=>?_
  subst e
  refine zdj (e9.row r3) fun h10 r3 u10=>?_
  have r1:=u10.row (by omega) (e9.row r1)
  have r2:=u10.row (by omega) (e9.row r2)
  have r4:=u10.row (by omega) (e9.row r4)
  have e10:=(e8.trans e9).upd k3 u10
  rw[Big.all r4,zaa,zdS,zaA,zaa,←zm2 hd]
  refine zmN.mono fun v h11 ⟨e,e11⟩=>?_
  subst e
  have r1:=e11.row r1
  have r2:=e11.row r2
  have r3:=e11.row r3
  have r4:=e11.row r4
  have e12:=e10.trans e11
  rw[unV_not,zaa,dec_not]
  refine zac (fun hc=>?_) (fun hc=>?_)
  ·rw[if_pos (by omega),if_pos (by omega)]at H
   rw[if_pos (by omega)]at hq
   rw[Big.all r4,zaa,zaa]
   refine(c_r1Minus (m:=2*r+bit) (n:=d) (by omega) (by omega)).mono fun v h13 ⟨e,e13⟩=>?_
   subst e
   refine zdj (e13.row r4) fun h14 r4 u14=>?_
   have r1:=u14.row (by omega) (e13.row r1)
   have r2:=u14.row (by omega) (e13.row r2)
   have r3:=u14.row (by omega) (e13.row r3)
   have e14:=(e12.trans e13).upd k4 u14
   simp only[go_sem,Two.b r3]
   refine zaH r3 (by simp) rfl fun h15 r3 u15=>?_
   have r3:Two h15 b3 _ (.int .u64 _) (.int .u64 _):=r3
   have r1:=u15.row (by omega) r1
   have r2:=u15.row (by omega) r2
   have r4:=u15.row (by omega) r4
   rw[w64 (by omega) (by omega)]
   refine H h15 ⟨r1,r2,?_,r4,e14.upd k3 u15⟩
   have a1:(((2*q+0)/18446744073709551616:Nat):Int)=(((2*q+1)/18446744073709551616:Nat):Int):=by omega
   have a2:IntKind.u64.wrap ((((2*q+0)%18446744073709551616:Nat):Int)+1)=(((2*q+1)%18446744073709551616:Nat):Int):=by rw[zbC];omega
   rw[a1,a2]at r3
   exact r3
  ·rw[if_neg (by omega),if_neg (by omega)]at H
   rw[w64 (by omega) (by omega)]
   exact H h11 ⟨r1,r2,r3,r4,e12⟩
 ·have:i=128:=by omega
  subst this
  rw[show m/2^(128-128)=m by simp]at r3 r4 hr
  refine zaj (fun h'=>Two h' b4 293 (.int .u64 ((m%d/18446744073709551616:Nat):Int)) (.int .u64 ((m%d%18446744073709551616:Nat):Int))∧(Big h' b3 293 (m/d))) ⟨r4,r3⟩ ?_
  refine zae _ (fun h' e=>Big.all e.2) ?_
  simp only[go_sem]
  refine zae _ (fun h' e=>Two.b e.1) ?_
  refine zdj r2 fun h6 r6 u6=>?_
  refine⟨⟨u6.row (by omega) r4,u6.row (by omega) r3⟩,?_⟩
  rw[r6.all,zaa]
  refine⟨?_,e5.upd k2 u6⟩
  rw[Nat.mod_eq_of_lt (Nat.lt_trans hr hd)]
end Go.Proofs.YtcoimlclclnlkaaGreatDoor
namespace Go.Crisp
def upS (m n:Nat)(below:Bool):Bool:=if below then decide (2^(n-1)<m%2^n)else decide (2^(n-1)≤m%2^n)
theorem shift_ref {x:Int}{n:Nat}(hx:I64 x)(h1:1≤n)(h2:n≤64):
  holdZ (x.natAbs/2^n+(if upS x.natAbs n (decide (x<0))then 1 else 0)) (decide (x<0))=zgv x n:=by
 obtain⟨b1,b2⟩:=hx
 have hp0:(0:Nat)<2^(n-1):=Nat.pow_pos (by omega)
 have hp:2^n=2*2^(n-1):=by
  obtain⟨j,rfl⟩:∃j,n=j+1:=⟨n-1,by omega⟩
  rw[Nat.add_sub_cancel,Nat.pow_succ,Nat.mul_comm]
 have hpi:(2:Int)^n=2*((2^(n-1):Nat):Int):=by
  rw[show(2:Int)^n=((2^n:Nat):Int)by simp,hp];simp
 have hpi1:(2:Int)^(n-1)=((2^(n-1):Nat):Int):=by simp
 have hbig:64≤n→9223372036854775808≤2^(n-1):=fun h=>by rw[show n=64 by omega];decide
 have hq:x.natAbs/2^n≤4611686018427387904:=by
  rw[hp]
  refine Nat.le_trans (Nat.div_le_div_left (c:=2) (by omega) (by omega)) ?_
  omega
 have hs:zgv x n=if(64:Int)≤n then 0 else x/2^n+x/2^(n-1)%2:=by
  unfold zgv
  rw[if_neg (by omega),Int.toNat_natCast]
 rw[hs,hpi,hpi1]
 unfold upS
 have hm:=Nat.div_add_mod x.natAbs (2^n)
 have hr:=Nat.mod_lt x.natAbs (show 0<2^n by omega)
 rw[hp]at hm hr hq ⊢
 generalize hq':x.natAbs/(2*2^(n-1))=q at*
 generalize hr':x.natAbs%(2*2^(n-1))=r at*
 generalize 2^(n-1)=p at*
 have hpq:(2*p)*q=2*(p*q):=Nat.mul_assoc _ _ _
 rw[hpq]at hm
 have ci:((p*q:Nat):Int)=(p:Int)*q:=Int.natCast_mul _ _
 by_cases hneg:x<0
 ·rw [decide_eq_true hneg]
  simp only[if_true,decide_eq_true_eq]
  unfold holdZ
  try simp only[if_true]
  by_cases h64:(64:Int)≤n
  ·rw[if_pos h64]
   have:=hbig (by omega)
   have hq0:q=0:=by
    rcases Nat.eq_zero_or_pos q with h|h
    ·exact h
    ·have:=Nat.le_mul_of_pos_right p h;omega
   subst hq0
   rw[if_neg (show¬p<r by omega),if_neg (by omega)];rfl
  ·rw [if_neg h64,if_neg (by split<;>omega)]
   by_cases hr0:r=0
   ·have e:x=0+2*(p:Int)*(-(q:Int)):=by rw[Int.mul_assoc,Int.mul_neg];omega
    have e2:x=0+(p:Int)*(-(2*(q:Int))):=by rw[Int.mul_neg,Int.mul_left_comm];omega
    have d1:x/(2*(p:Int))= -(q:Int):=by
     conv=>lhs;rw[e]
     rw[Int.add_mul_ediv_left _ _ (by omega)];simp
    have d2:x/(p:Int)= -(2*(q:Int)):=by
     conv=>lhs;rw[e2]
     rw[Int.add_mul_ediv_left _ _ (by omega)];simp
    rw[d1,d2]
    rw[if_neg (by omega)];omega
   ·have e:x=(2*p-r:Int)+2*(p:Int)*(-(q:Int)-1):=by rw[Int.mul_assoc,Int.mul_sub,Int.mul_neg];omega
    have d1:x/(2*(p:Int))= -(q:Int)-1:=by
     conv=>lhs;rw[e]
     rw[Int.add_mul_ediv_left _ _ (by omega),Int.ediv_eq_zero_of_lt (by omega) (by omega)];simp
    by_cases hrp:p<r
    ·have e2:x=(2*p-r:Int)+(p:Int)*(2*(-(q:Int)-1)):=by rw[Int.mul_left_comm,Int.mul_sub,Int.mul_neg];omega
     have d2:x/(p:Int)=2*(-(q:Int)-1):=by
      conv=>lhs;rw[e2]
      rw[Int.add_mul_ediv_left _ _ (by omega),Int.ediv_eq_zero_of_lt (by omega) (by omega)];simp
     rw[d1,d2,if_pos hrp];omega
    ·have e2:x=(p-r:Int)+(p:Int)*(2*(-(q:Int)-1)+1):=by rw[Int.mul_add,Int.mul_left_comm,Int.mul_sub,Int.mul_neg];omega
     have d2:x/(p:Int)=2*(-(q:Int)-1)+1:=by
      conv=>lhs;rw[e2]
      rw[Int.add_mul_ediv_left _ _ (by omega),Int.ediv_eq_zero_of_lt (by omega) (by omega)];simp
     rw[d1,d2,if_neg hrp];omega
 ·rw [decide_eq_false hneg]
  simp only[Bool.false_eq_true,if_false,decide_eq_true_eq]
  unfold holdZ
  try simp only[Bool.false_eq_true,if_false]
  rw[if_neg (by split<;>omega)]
  by_cases h64:(64:Int)≤n
  ·rw[if_pos h64]
   have:=hbig (by omega)
   have hq0:q=0:=by
    rcases Nat.eq_zero_or_pos q with h|h
    ·exact h
    ·have:=Nat.le_mul_of_pos_right p h;omega
   subst hq0
   rw[if_neg (by omega)];rfl
  ·rw[if_neg h64]
   have e:x=(r:Int)+2*(p:Int)*(q:Int):=by rw[Int.mul_assoc];omega
   have d1:x/(2*(p:Int))=(q:Int):=by
    conv=>lhs;rw[e]
    rw[Int.add_mul_ediv_left _ _ (by omega),Int.ediv_eq_zero_of_lt (by omega) (by omega)];simp
   by_cases hrp:p≤r
   ·have e2:x=(r-p:Int)+(p:Int)*(2*(q:Int)+1):=by rw[Int.mul_add,Int.mul_left_comm];omega
    have d2:x/(p:Int)=2*(q:Int)+1:=by
     conv=>lhs;rw[e2]
     rw[Int.add_mul_ediv_left _ _ (by omega),Int.ediv_eq_zero_of_lt (by omega) (by omega)];simp
    rw[d1,d2,if_pos hrp];omega
   ·have e2:x=(r:Int)+(p:Int)*(2*(q:Int)):=by rw[Int.mul_left_comm];omega
    have d2:x/(p:Int)=2*(q:Int):=by
     conv=>lhs;rw[e2]
     rw[Int.add_mul_ediv_left _ _ (by omega),Int.ediv_eq_zero_of_lt (by omega) (by omega)];simp
    rw[d1,d2,if_neg hrp];omega
theorem rest_step (m n i:Nat):m%2^n+m/2^i*2^i=m%2^n+m/2^(i+1)*2^(i+1)+m/2^i%2*2^i:=by
 have:=halve m i
 conv=>lhs;rw[this]
 rw[Nat.add_mul,Nat.pow_succ,Nat.mul_assoc 2,Nat.mul_left_comm 2,Nat.mul_comm 2]
 omega
theorem mod_step (m i:Nat):m%2^(i+1)=m%2^i+m/2^i%2*2^i:=by
 rw[Nat.pow_succ,Nat.mod_mul,Nat.mul_comm]
end Go.Crisp
namespace Go.Proofs.YtcoimlclclnlkaaGreatDoor
open Go Go.Crisp
attribute [local irreducible] FCall rowK newK stK iteK vK qK drawK gK joinK loopK mkK appK cpyK zoB zmd bsK
open _root_.Go.Proofs.Tryz
theorem c_r1Nearest {h:Heap}{m d:Nat}{bl:Bool}(hm:m<340282366920938463463374607431768211456)(hd:d<18446744073709551616)(hd0:0<d):
  FCall prog zgo #[bigV m,.int .u64 (d:Int),.bool bl] h fun r h'=>r=.int .i64 (holdZ (nearN m d bl) bl)∧Ext h h':=by
 apply zos
 unfold ziG
 rw[zcj]
 refine zag fun b1 h1 r1 e1 n1=>?_
 rw[Big.all r1,zaa]
 refine(c_r1Over hm hd hd0).mono fun v h2 ⟨e,e2⟩=>?_
 subst e
 simp only[go_sem]
 refine zdQ (n:=m/d) fun b2 h3 r3 e3 n3=>?_
 have hr:m%d<d:=Nat.mod_lt _ hd0
 rw[zdS,zaA,zaa,←zm2 (n:=m%d) (by omega)]
 refine(zeU (n:=m%d) (bit:=0) (by omega) (by omega)).mono fun v h4 ⟨e,e4⟩=>?_
 subst e
 refine zdQ (n:=2*(m%d)+0) fun b3 h5 r5 e5 n5=>?_
 rw[Big.all r5,zaa,zdS,zaA,zaa,←zm2 hd]
 refine zmN.mono fun v h6 ⟨e,e6⟩=>?_
 subst e
 have e06:Ext h h6:=e1.trans (e2.trans (e3.trans (e4.trans (e5.trans e6))))
 have r2:=(e4.trans (e5.trans e6)).row r3
 have r3:=e6.row r5
 have k2:h.size≤b2:=Nat.le_trans (e1.trans e2).1 n3
 simp only[go_sem]
 have hq:m/d≤m:=Nat.div_le_self _ _
 have hq1:d≤2*(m%d)→m/d+1<340282366920938463463374607431768211456:=fun hh=>by
  have:=Nat.div_le_div_left (a:=m) (c:=2) (b:=d) (by omega) (by omega)
  omega
 refine zar (fun xs h'=>xs=[.bool (if bl then decide (d<2*(m%d))else decide (d≤2*(m%d)))]∧Ext h h'∧Big h' b2 293 (m/d)) ?_ ?_
 ·cases bl
  ·rw[zbo]
   refine⟨?_,e06,r2⟩
   congr 2
   simp only[Bool.false_eq_true,if_false]
   exact decide_eq_decide.2 (by omega)
  ·rw[zcU]
   rw[Big.all r3]
   simp only[go_sem]
   refine zmN.mono fun v h7 ⟨e,e7⟩=>?_
   subst e
   exact⟨by simp only[if_true,Nat.add_zero],e06.trans e7,e7.row r2⟩
 ·rintro xs ρj h7 ⟨rfl,e7,r7⟩
  simp only[go_sem]
  refine zc3 (fun hc=>?_) (fun hc=>?_)
  ·have hn:nearN m d bl=m/d+1:=by
    unfold nearN
    cases bl
    ·simp only[Bool.false_eq_true,if_false,decide_eq_true_eq]at hc ⊢
     rw[if_pos hc]
    ·simp only[if_true,decide_eq_true_eq]at hc ⊢
     rw[if_pos hc]
   have hq1:=hq1 (by
    cases bl
    ·simp only[Bool.false_eq_true,if_false,decide_eq_true_eq]at hc;exact hc
    ·simp only[if_true,decide_eq_true_eq]at hc;omega)
   rw[Big.all r7,zaa,zdS,zaA,zaa,←zjV]
   refine(zmM (m:=m/d) (n:=1) hq1).mono fun v h8 ⟨e,e8⟩=>?_
   subst e
   refine zdj (e8.row r7) fun h9 r9 u9=>?_
   rw[r9.all,zaa]
   refine(zfv (m:=m/d+1) (b:=bl) hq1).mono fun v h10 ⟨e,e10⟩=>?_
   exact⟨by rw[e,hn],((e7.trans e8).upd k2 u9).trans e10⟩
  ·have hn:nearN m d bl=m/d:=by
    unfold nearN
    cases bl
    ·simp only[Bool.false_eq_true,if_false,decide_eq_false_iff_not]at hc ⊢
     rw[if_neg hc];rfl
    ·simp only[if_true,decide_eq_false_iff_not]at hc ⊢
     rw[if_neg hc];rfl
   rw[Big.all r7,zaa]
   refine(zfv (m:=m/d) (b:=bl) (by omega)).mono fun v h10 ⟨e,e10⟩=>?_
   exact⟨by rw[e,hn],e7.trans e10⟩
theorem bne_lt (a b:Int):(!(decide (a<0)==decide (b<0)))=diffS a b:=rfl
theorem c_r1Floor {h:Heap}{a b:Int}(ha:I64 a)(hb:I64 b):FCall prog zfA #[.int .i64 a,.int .i64 b] h fun r h'=>r=.int .i64 (zq8 a b)∧Ext h h':=by
 apply zqi
 unfold zku
 simp only[go_sem]
 unfold zq8
 refine zac (fun h0=>?_) (fun h0=>?_)
 ·rw[if_pos h0];exact⟨rfl,Ext.refl _⟩
 rw[if_neg h0]
 have ha1:=zf7 ha
 have hb1:=zf7 hb
 refine(zgY ha).mono fun v1 h1 ⟨e1,w1⟩=>?_
 subst e1 w1
 rw[zdS,zaA,zaa,←zm2 (n:=a.natAbs) (by omega)]
 refine(zgY hb).mono fun v1 h1 ⟨e1,w1⟩=>?_
 subst e1 w1
 refine(c_r1Over (m:=a.natAbs) (d:=b.natAbs) (by omega) (by omega) (by omega)).mono fun v h2 ⟨e,e2⟩=>?_
 subst e
 simp only[go_sem]
 refine zdQ (n:=a.natAbs/b.natAbs) fun b2 h3 r3 e3 n3=>?_
 have hq:a.natAbs/b.natAbs≤a.natAbs:=Nat.div_le_self _ _
 simp only[go_sem,bne_lt]
 have e03:=e2.trans e3
 have k2:=Nat.le_trans e2.1 n3
 by_cases hd:diffS a b=true∧0<a.natAbs%b.natAbs
 ·have q:(diffS a b&&decide ((0:Int)<((a.natAbs%b.natAbs:Nat):Int)))=true:=by rw[hd.1,decide_eq_true (by omega)];rfl
  rw[q,zcU]
  unfold zpJ
  rw[if_pos ⟨hd.1,by omega⟩]
  rw[Big.all r3,zaa,zdS,zaA,zaa,←zjV]
  refine(zmM (m:=a.natAbs/b.natAbs) (n:=1) (by omega)).mono fun v h8 ⟨e,e8⟩=>?_
  subst e
  refine zdj (e8.row r3) fun h9 r9 u9=>?_
  rw[r9.all,zaa]
  refine(zfv (m:=a.natAbs/b.natAbs+1) (b:=diffS a b) (by omega)).mono fun v h10 ⟨e,e10⟩=>?_
  exact⟨e,((e03.trans e8).upd k2 u9).trans e10⟩
 ·have q:(diffS a b&&decide ((0:Int)<((a.natAbs%b.natAbs:Nat):Int)))=false:=by
   rw[←Bool.not_eq_true,Bool.and_eq_true,decide_eq_true_eq];rintro⟨x,y⟩;exact hd ⟨x,by omega⟩
  rw[q,zbo]
  unfold zpJ
  rw[if_neg (by rintro⟨x,y⟩;exact hd ⟨x,by omega⟩)]
  rw[Big.all r3,zaa]
  refine(zfv (m:=a.natAbs/b.natAbs) (b:=diffS a b) (by omega)).mono fun v h10 ⟨e,e10⟩=>?_
  exact⟨e,e03.trans e10⟩
theorem zcF {h:Heap}{a b d:Int}(ha:I64 a)(hb:I64 b)(hd:I64 d):FCall prog zaP #[.int .i64 a,.int .i64 b,.int .i64 d] h fun r h'=>r=.int .i64 (zaQ a b d)∧Ext h h':=by
 apply zpl
 unfold zi9
 simp only[go_sem]
 unfold zaQ
 refine zac (fun h0=>?_) (fun h0=>?_)
 ·rw[if_pos h0];exact⟨rfl,Ext.refl _⟩
 rw[if_neg h0]
 have ha1:=zcT ha
 have hb1:=zcT hb
 have hd1:=zcT hd
 refine(zgY ha).mono fun v1 h1 ⟨e1,w1⟩=>?_
 subst e1 w1
 refine(zgY hb).mono fun v1 h1 ⟨e1,w1⟩=>?_
 subst e1 w1
 refine(c_r1Times ha1 hb1).mono fun v h2 ⟨e,e2⟩=>?_
 subst e
 refine zdQ (n:=a.natAbs*b.natAbs) fun b2 h3 r3 e3 n3=>?_
 simp only[go_sem,bne_lt]
 refine zaj (Ext h3) (Ext.refl _) ?_
 refine zae _ (fun h' e=>Big.all (e.row r3)) ?_
 refine(zgY hd).mono fun v1 h4 ⟨e4,w4⟩=>?_
 subst e4 w4
 refine⟨Ext.refl _,?_⟩
 refine(c_r1Nearest (bl:= !(diffS a b==decide (d<0))) (zoD ha1 hb1) hd1 (by omega)).mono fun v h10 ⟨e,e10⟩=>?_
 refine⟨?_,e2.trans (e3.trans e10)⟩
 rw[e];rfl
theorem zqH {i:Nat}(h:i<128):2^i<340282366920938463463374607431768211456:=by
 have:=Nat.pow_lt_pow_right (a:=2) (by omega) h
 exact this
theorem zpT {h:Heap}{x n:Int}(hx:I64 x)(hn:I64 n):FCall prog zdY #[.int .i64 x,.int .i64 n] h fun r h'=>r=.int .i64 (zgv x n)∧Ext h h':=by
 apply zqg
 unfold zks
 simp only[go_sem]
 refine zac (fun h0=>?_) (fun h0=>?_)
 ·unfold zgv;rw[if_pos (by omega)];exact⟨rfl,Ext.refl _⟩
 refine zac (fun h1=>?_) (fun h1=>?_)
 ·unfold zgv;rw[if_neg (by omega),if_pos (by omega)];exact⟨rfl,Ext.refl _⟩
 obtain⟨k,rfl⟩:∃k:Nat,n=(k:Int):=⟨n.toNat,by omega⟩
 rw[w64 (n:=(k:Int)-1) (by omega) (by omega)]
 rw[zdS,zaA,zaa,←zjV]
 refine zdQ (n:=1) fun b1 h1 r1 e1 n1=>?_
 -- half
 refine zaF (α:=Unit) (k-1) 0 (fun i _=>[.int .i64 (i:Int)]) (fun i _ h'=>Big h' b1 293 (2^i)∧Ext h h') () rfl (by omega) ⟨r1,e1⟩ fun i _ h2 again ρj _ hi ⟨r2,e2⟩ H=>?_
 simp only[go_sem]
 refine zac (fun hc=>?_) (fun hc=>?_)
 ·rw[Big.all r2,zaa]
  have hp:=zqH (i:=i+1) (by omega)
  have hp2:2^(i+1)=2*2^i:=Nat.pow_succ'
  refine(zeU (n:=2^i) (bit:=0) (by omega) (by omega)).mono fun v h3 ⟨e,e3⟩=>?_
  subst e
  refine zdj (e3.row r2) fun h4 r4 u4=>?_
  rw[w64 (by omega) (by omega)]
  rw[Nat.add_zero,←hp2]at r4
  exact H () h4 (by omega) ⟨r4,(e2.trans e3).upd n1 u4⟩
 have:i=k-1:=by omega
 subst this
 have e12:=e2
 refine(zgY hx).mono fun v1 h3 ⟨e3,w3⟩=>?_
 subst e3 w3
 have hm1:=zcT hx
 rw[zdS,zaA,zaa,←zm2 hm1]
 refine zdQ (n:=x.natAbs) fun b2 h4 r4 e4 n4=>?_
 try simp only[go_sem]
 rw[zcV,zaA,zaa,←zlq]
 refine zdQ (n:=0) fun b3 h5 r5 e5 n5=>?_
 have l1:=zaz r2
 have l2:=zaz r4
 have k2:h.size≤b2:=Nat.le_trans e12.1 n4
 have k3:h.size≤b3:=Nat.le_trans (e12.trans e4).1 n5
 have hmW:x.natAbs<340282366920938463463374607431768211456:=by omega
 have hshift:=shift_ref hx (n:=k) (by omega) (by omega)
 have hmb:x.natAbs≤9223372036854775808:=zf7 hx
 generalize hmm:x.natAbs=m at*
 -- the quotient
 refine zaF (α:=Unit) (128-k) 0 (fun i _=>[.int .i64 (127-(i:Int))])
  (fun i _ h'=>Big h' b1 293 (2^(k-1))∧Big h' b2 293 m∧Big h' b3 293 (m/2^(128-i))∧Ext h h')
  () rfl (by omega) ⟨(e4.trans e5).row r2,e5.row r4,by rw[show m/2^(128-0)=0 from Nat.div_eq_of_lt (by simpa using hmW)];exact r5,e12.trans (e4.trans e5)⟩ fun i _ h6 again ρj _ hi ⟨q1,q2,q3,e6⟩ H=>?_
 simp only[go_sem]
 refine zac (fun hc=>?_) (fun hc=>?_)
 ·have H:=fun h'=>H () h' (by omega)
  have hv:=halve m (127-i)
  rw[show 127-i+1=128-i by omega]at hv
  rw[show 128-(i+1)=127-i by omega,show(127:Int)-((i+1:Nat):Int)=((127-i:Nat):Int)-1 by omega]at H
  have hle:m/2^(127-i)≤m:=Nat.div_le_self _ _
  have hb:m/2^(127-i)%2≤1:=by omega
  rw[show(127:Int)-(i:Int)=((127-i:Nat):Int)by omega]
  refine zaj (Ext h6) (Ext.refl _) ?_
  refine zae _ (fun h' e=>Big.all (e.row q3)) ?_
  refine zae _ (fun h' e=>Big.all (e.row q2)) ?_
  refine(znw hmW (i:=127-i) (by omega)).mono fun v h7 ⟨e,e7⟩=>?_
  subst e
  refine⟨e7,?_⟩
  refine(zeU (n:=m/2^(128-i)) (bit:=m/2^(127-i)%2) hb (by omega)).mono fun v h8 ⟨e,e8⟩=>?_
  subst e
  have e78:=e7.trans e8
  refine zdj (e78.row q3) fun h9 r9 u9=>?_
  rw[w64 (by omega) (by omega)]
  rw[←hv]at r9
  exact H h9 ⟨u9.row (by omega) (e78.row q1),u9.row (by omega) (e78.row q2),r9,(e6.trans e78).upd k3 u9⟩
 have hik:i=128-k:=by omega
 subst hik
 rw[show 128-(128-k)=k by omega]at q3
 rw[Big.all q2,zaa]
 refine zdQ (n:=m) fun b4 h7 r7 e7 n7=>?_
 have l3:=zaz q3
 have l1:=zaz q1
 have l2:=zaz q2
 have k4:h.size≤b4:=Nat.le_trans e6.1 n7
 -- the rest
 refine zaF (α:=Unit) 128 k (fun i _=>[.int .i64 (i:Int)])
  (fun i _ h'=>Big h' b1 293 (2^(k-1))∧Big h' b2 293 m∧Big h' b3 293 (m/2^k)∧Big h' b4 293 (m%2^k+m/2^i*2^i)∧Ext h h')
  () rfl (by omega) ⟨e7.row q1,e7.row q2,e7.row q3,by rw[show m%2^k+m/2^k*2^k=m by rw[Nat.mul_comm];exact Nat.mod_add_div _ _];exact r7,e6.trans e7⟩ fun i _ h8 again ρj hik hi ⟨q1,q2,q3,q4,e8⟩ H=>?_
 simp only[go_sem]
 refine zac (fun hc=>?_) (fun hc=>?_)
 ·have H:=fun h'=>H () h' (by omega)
  rw[Big.all q2,zaa]
  have hrs:=rest_step m k i
  have hle:m%2^k+m/2^i*2^i≤2*m:=by
   have a1:=Nat.mod_le m (2^k)
   have a2:=Nat.div_mul_le_self m (2^i)
   omega
  refine(znw hmW (i:=i) (by omega)).mono fun v h9 ⟨e,e9⟩=>?_
  subst e
  simp only[go_sem]
  have q1:=e9.row q1
  have q2:=e9.row q2
  have q3:=e9.row q3
  have q4:=e9.row q4
  have e9:=e8.trans e9
  have l4:=zaz q4
  refine zac (fun hd=>?_) (fun hd=>?_)
  ·have hd:m/2^i%2=1:=by omega
   rw[hd,Nat.one_mul]at hrs
   try rw[zdS,zaA,zaa,←zjV]
   refine zdQ (n:=1) fun b5 h10 r10 e10 n10=>?_
   have k5:h.size≤b5:=Nat.le_trans e9.1 n10
   refine zaF (α:=Unit) i 0 (fun j _=>[.int .i64 (j:Int)]) (fun j _ h'=>Big h' b1 293 (2^(k-1))∧Big h' b2 293 m∧Big h' b3 293 (m/2^k)∧Big h' b4 293 (m%2^k+m/2^i*2^i)∧Big h' b5 293 (2^j)∧Ext h h')
    () rfl (by omega) ⟨e10.row q1,e10.row q2,e10.row q3,e10.row q4,r10,e9.trans e10⟩ fun j _ h11 again2 ρj2 _ hj ⟨q1,q2,q3,q4,q5,e11⟩ H2=>?_
   simp only[go_sem]
   refine zac (fun hc2=>?_) (fun hc2=>?_)
   ·rw[Big.all q5,zaa]
    have hp:=zqH (i:=j+1) (by omega)
    have hp2:2^(j+1)=2*2^j:=Nat.pow_succ'
    refine(zeU (n:=2^j) (bit:=0) (by omega) (by omega)).mono fun v h12 ⟨e,e12⟩=>?_
    subst e
    refine zdj (e12.row q5) fun h13 r13 u13=>?_
    rw[w64 (by omega) (by omega)]
    rw[Nat.add_zero,←hp2]at r13
    exact H2 () h13 (by omega) ⟨u13.row (by omega) (e12.row q1),u13.row (by omega) (e12.row q2),u13.row (by omega) (e12.row q3),u13.row (by omega) (e12.row q4),r13,(e11.trans e12).upd k5 u13⟩
   ·have:j=i:=by omega
    subst this
    rw[Big.all q4,zaa,Big.all q5,zaa]
    refine(c_r1Minus (m:=m%2^k+m/2^j*2^j) (n:=2^j) (by omega) (by omega)).mono fun v h12 ⟨e,e12⟩=>?_
    subst e
    refine zdj (e12.row q4) fun h13 r13 u13=>?_
    rw[w64 (by omega) (by omega)]
    rw[hrs,Nat.add_sub_cancel]at r13
    exact H h13 ⟨u13.row (by omega) (e12.row q1),u13.row (by omega) (e12.row q2),u13.row (by omega) (e12.row q3),r13,(e11.trans e12).upd k4 u13⟩
  ·have hd:m/2^i%2=0:=by omega
   rw[hd,Nat.zero_mul,Nat.add_zero]at hrs
   rw[w64 (by omega) (by omega)]
   exact H h9 ⟨q1,q2,q3,by rw[←hrs];exact q4,e9⟩
 have:i=128:=by omega
 subst this
 rw[show m%2^k+m/2^128*2^128=m%2^k by rw[Nat.div_eq_of_lt (a:=m) (b:=2^128) (by simpa using hmW)];simp]at q4
 rw[Big.all q4,zaa,Big.all q1,zaa]
 refine zmN.mono fun v h9 ⟨e,e9⟩=>?_
 subst e
 have q1:=e9.row q1
 have q3:=e9.row q3
 have q4:=e9.row q4
 have e9:=e8.trans e9
 have k1:=n1
 simp only[go_sem]
 refine zar (fun xs h'=>xs=[.bool (upS m k (decide (x<0)))]∧Ext h h'∧Big h' b3 293 (m/2^k)) ?_ ?_
 ·unfold upS
  refine zac (fun hc=>?_) (fun hc=>?_)
  ·rw[Big.all q1,zaa,Big.all q4,zaa]
   refine zmN.mono fun v h10 ⟨e,e10⟩=>?_
   subst e
   rw[decide_eq_true hc]
   exact⟨by simp only[if_true],e9.trans e10,e10.row q3⟩
  ·rw[decide_eq_false hc]
   refine⟨?_,e9,q3⟩
   simp only[Bool.false_eq_true,if_false]
   congr 2
   exact decide_eq_decide.2 (by omega)
 ·rintro xs ρj h10 ⟨rfl,e10,q3⟩
  simp only[go_sem]
  have hle:m/2^k≤m:=Nat.div_le_self _ _
  refine zc3 (fun hc=>?_) (fun hc=>?_)
  ·rw[hc,if_pos rfl]at hshift
   rw[Big.all q3,zaa]
   try rw[zdS,zaA,zaa,←zjV]
   try rw[zaa]
   refine(zmM (m:=m/2^k) (n:=1) (by omega)).mono fun v h11 ⟨e,e11⟩=>?_
   subst e
   refine zdj (e11.row q3) fun h12 r12 u12=>?_
   rw[r12.all,zaa]
   refine(zfv (m:=m/2^k+1) (b:=decide (x<0)) (by omega)).mono fun v h13 ⟨e,e13⟩=>?_
   exact⟨by rw[e,hshift],((e10.trans e11).upd k3 u12).trans e13⟩
  ·rw[hc]at hshift
   simp only[Bool.false_eq_true,if_false,Nat.add_zero]at hshift
   rw[Big.all q3,zaa]
   refine(zfv (m:=m/2^k) (b:=decide (x<0)) (by omega)).mono fun v h13 ⟨e,e13⟩=>?_
   exact⟨by rw[e,hshift],e10.trans e13⟩
theorem c_r2MulShift {h:Heap}{a b n:Int}(ha:I64 a)(hb:I64 b)(hn:I64 n):FCall prog zfb #[.int .i64 a,.int .i64 b,.int .i64 n] h fun r h'=>r=.int .i64 (zf9 a b n)∧Ext h h':=by
 apply zm9
 unfold zhw
 simp only[go_sem]
 have ha1:=zcT ha
 have hb1:=zcT hb
 refine zar (fun xs h'=>xs=[.int .i64 (n.toNat:Int)]∧h'=h) ?_ ?_
 ·refine zac (fun hc=>?_) (fun hc=>?_)
  ·exact⟨by rw[Int.toNat_of_nonpos (by omega)];rfl,rfl⟩
  ·exact⟨by rw[Int.toNat_of_nonneg (by omega)],rfl⟩
 rintro xs ρj h1 ⟨rfl,hh⟩
 have hh:=hh.symm
 subst hh
 simp only[go_sem,bne_lt]
 unfold zf9
 refine zac (fun h0=>?_) (fun h0=>?_)
 ·rw[if_pos (by omega)];exact⟨rfl,Ext.refl _⟩
 rw[if_neg (by omega)]
 generalize n.toNat=k at*
 refine(zgY ha).mono fun v1 h1 ⟨e1,w1⟩=>?_
 have w1:=w1.symm
 subst e1 w1
 refine(zgY hb).mono fun v1 h1 ⟨e1,w1⟩=>?_
 have w1:=w1.symm
 subst e1 w1
 refine(c_r1Times ha1 hb1).mono fun v h2 ⟨e,e2⟩=>?_
 subst e
 have hmW:=zoD ha1 hb1
 generalize diffS a b=bl at*
 generalize a.natAbs*b.natAbs=m at*
 refine zdQ (n:=m) fun b2 h3 r3 e3 n3=>?_
 have e03:=e2.trans e3
 try simp only[go_sem]
 refine zac (fun hk=>?_) (fun hk=>?_)
 ·obtain rfl:k=0:=by omega
  rw[Big.all r3,zaa]
  refine(zfv (m:=m) (b:=bl) hmW).mono fun v h4 ⟨e,e4⟩=>?_
  exact⟨by rw[e];rfl,e03.trans e4⟩
 rw[zcV,zaA,zaa,←zlq]
 refine zdQ (n:=0) fun b3 h5 r5 e5 n5=>?_
 have l2:=zaz r3
 have k2:h.size≤b2:=Nat.le_trans e2.1 n3
 have k3:h.size≤b3:=Nat.le_trans e03.1 n5
 refine zaF (α:=Unit) (128-k) 0 (fun i _=>[.int .i64 (127-(i:Int))])
  (fun i _ h'=>Big h' b2 293 m∧Big h' b3 293 (m/2^(128-i))∧Ext h h')
  () rfl (by omega) ⟨e5.row r3,by rw[show m/2^(128-0)=0 from Nat.div_eq_of_lt (by simpa using hmW)];exact r5,e03.trans e5⟩ fun i _ h6 again ρj _ hi ⟨q2,q3,e6⟩ H=>?_
 simp only[go_sem]
 refine zac (fun hc=>?_) (fun hc=>?_)
 ·have H:=fun h'=>H () h' (by omega)
  have hv:=halve m (127-i)
  rw[show 127-i+1=128-i by omega]at hv
  rw[show 128-(i+1)=127-i by omega,show(127:Int)-((i+1:Nat):Int)=((127-i:Nat):Int)-1 by omega]at H
  have hle:m/2^(127-i)≤m:=Nat.div_le_self _ _
  have hb:m/2^(127-i)%2≤1:=by omega
  rw[show(127:Int)-(i:Int)=((127-i:Nat):Int)by omega]
  refine zaj (Ext h6) (Ext.refl _) ?_
  refine zae _ (fun h' e=>Big.all (e.row q3)) ?_
  refine zae _ (fun h' e=>Big.all (e.row q2)) ?_
  refine(znw hmW (i:=127-i) (by omega)).mono fun v h7 ⟨e,e7⟩=>?_
  subst e
  refine⟨e7,?_⟩
  refine(zeU (n:=m/2^(128-i)) (bit:=m/2^(127-i)%2) hb (by omega)).mono fun v h8 ⟨e,e8⟩=>?_
  subst e
  have e78:=e7.trans e8
  refine zdj (e78.row q3) fun h9 r9 u9=>?_
  rw[w64 (by omega) (by omega)]
  rw[←hv]at r9
  exact H h9 ⟨u9.row (by omega) (e78.row q2),r9,(e6.trans e78).upd k3 u9⟩
 have hik:i=128-k:=by omega
 subst hik
 rw[show 128-(128-k)=k by omega]at q3
 rw[w64 (n:=(k:Int)-1) (by omega) (by omega)]
 refine zaF (α:=Unit) (k-1) 0 (fun i _=>[.bool (decide (m%2^i≠0)),.int .i64 (i:Int)])
  (fun i _ h'=>Big h' b2 293 m∧Big h' b3 293 (m/2^k)∧Ext h h')
  () (by simp[Nat.mod_one]) (by omega) ⟨q2,q3,e6⟩ fun i _ h7 again ρj _ hi ⟨q2,q3,e7⟩ H=>?_
 simp only[go_sem]
 refine zac (fun hc=>?_) (fun hc=>?_)
 ·have H:=fun h'=>H () h' (by omega)
  have hms:=mod_step m i
  have hp:0<2^i:=Nat.pow_pos (by omega)
  rw[Big.all q2]
  by_cases hz:m%2^i=0
  ·have q:decide (m%2^i≠0)=false:=decide_eq_false (by omega)
   rw[q]
   simp only[go_sem]
   refine(znw hmW (i:=i) (by omega)).mono fun v h8 ⟨e,e8⟩=>?_
   subst e
   simp only[go_sem]
   rw[w64 (by omega) (by omega)]
   have qq:decide (m%2^(i+1)≠0)=decide (((m/2^i%2:Nat):Int)=1):=decide_eq_decide.2 (by
    rw[hms,hz]
    rcases Nat.mod_two_eq_zero_or_one (m/2^i)with hh|hh
    ·rw[hh];simp
    ·rw[hh];simp)
   have H:=H h8 ⟨e8.row q2,e8.row q3,e7.trans e8⟩
   rw[qq]at H
   exact H
  ·have q:decide (m%2^i≠0)=true:=decide_eq_true hz
   rw[q]
   simp only[go_sem]
   rw[w64 (by omega) (by omega)]
   have H:=H h7 ⟨q2,q3,e7⟩
   rw[show decide (m%2^(i+1)≠0)=true from decide_eq_true (by rw[hms];omega)]at H
   exact H
 have:i=k-1:=by omega
 subst this
 rw[Big.all q2,zaa,show(k:Int)-1=((k-1:Nat):Int)by omega]
 refine(znw hmW (i:=k-1) (by omega)).mono fun v h8 ⟨e,e8⟩=>?_
 subst e
 have q3:=e8.row q3
 have e8:=e7.trans e8
 have hle:m/2^k≤m/2:=by
  refine Nat.div_le_div_left ?_ (by omega)
  have:=Nat.pow_le_pow_right (n:=2) (by omega) (show 1≤k by omega)
  omega
 have hfin:∀c:Bool,(c=true↔(m/2^(k-1)%2=1∧¬(bl=true∧m%2^(k-1)=0)))→iteK (.bool c)
   (FCall prog zcs #[bigV (m/2^k),bigV 1] h8 fun v70 h71=>stK 2 (.pointer (some ⟨b3,0,none⟩)) v70 h71 fun v72 h73=>vK (ldsV 2 h73 (.pointer (some ⟨b3,0,none⟩))) fun v74=>
    FCall prog za3 #[v74,.bool bl] h73 fun v75 h76=>v75=.int .i64 (holdZ (shiftN m k bl) bl)∧Ext h h76)
   (FCall prog za3 #[bigV (m/2^k),.bool bl] h8 fun v78 h79=>v78=.int .i64 (holdZ (shiftN m k bl) bl)∧Ext h h79):=by
  intro c hcc
  unfold shiftN
  rw[if_neg (by omega)]
  refine zc3 (fun hc=>?_) (fun hc=>?_)
  ·rw[if_pos (hcc.1 hc)]
   refine(zmM (m:=m/2^k) (n:=1) (by omega)).mono fun v h11 ⟨e,e11⟩=>?_
   subst e
   refine zdj (e11.row q3) fun h12 r12 u12=>?_
   rw[r12.all,zaa]
   refine(zfv (m:=m/2^k+1) (b:=bl) (by omega)).mono fun v h13 ⟨e,e13⟩=>?_
   exact⟨e,((e8.trans e11).upd k3 u12).trans e13⟩
  ·rw[if_neg (fun hh=>by rw[hcc.2 hh]at hc;cases hc)]
   refine(zfv (m:=m/2^k) (b:=bl) (by omega)).mono fun v h13 ⟨e,e13⟩=>?_
   exact⟨e,e8.trans e13⟩
 simp only[go_sem,Big.all q3]
 rw[fill_2l,zaA,zaa,←zjV]
 refine hfin _ ?_
 rw[Bool.and_eq_true,Bool.or_eq_true,decide_eq_true_eq,decide_eq_true_eq]
 constructor
 ·rintro⟨h1,h2⟩
  refine⟨by omega,?_⟩
  rintro⟨h3,h4⟩
  rcases h2 with h2|h2
  ·exact h2 h4
  ·rw[h3]at h2;cases h2
 ·rintro⟨h1,h2⟩
  refine⟨by omega,?_⟩
  by_cases h3:bl=true
  ·exact .inl fun h4=>h2 ⟨h3,h4⟩
  ·exact .inr (by simpa using h3)
theorem sum_less (p m t:Int):IntKind.i64.wrap (p-IntKind.i64.wrap (m+t))=IntKind.i64.wrap (IntKind.i64.wrap (p-m)-t):=by
 rw[zmR,zjR];congr 1;omega
theorem sum_more (p m t:Int):IntKind.i64.wrap (IntKind.i64.wrap (p+t)-m)=IntKind.i64.wrap (IntKind.i64.wrap (p-m)+t):=by
 rw[zjR,zhk];congr 1;omega
theorem c_r3Exp {h:Heap}{t:Int}(ht:I64 t):FCall prog zll #[.int .i64 t] h fun r h'=>r=.int .i64 (expZ t)∧Ext h h':=by
 apply ok_ref03_Exp
 unfold znU
 try simp only[go_sem]
 unfold expZ
 have ht1:0≤max 0 t∧max 0 t≤9223372036854775807:=by unfold I64 at ht;omega
 refine zar (fun xs h'=>xs=[.int .i64 (max 0 t)]∧h'=h) ?_ ?_
 ·refine zac (fun hc=>?_) (fun hc=>?_)
  ·exact⟨by rw[show max 0 t=0 by omega],rfl⟩
  ·exact⟨by rw[show max 0 t=t by omega],rfl⟩
 rintro xs ρj h1 ⟨rfl,hh⟩
 have hh:=hh.symm
 subst hh
 generalize max 0 t=T at*
 try simp only[go_sem]
 refine(c_r1Floor (by unfold I64;omega) (by unfold I64;omega)).mono fun v1 h1 ⟨e,e1⟩=>?_
 subst e
 rw[zfK (by unfold I64;omega) (by omega)]
 simp only[go_sem]
 rw[w64 (n:=T/762123384786*762123384786) (by omega) (by omega),w64 (n:=T-T/762123384786*762123384786) (by omega) (by omega)]
 rw[show T-T/762123384786*762123384786=T%762123384786 by omega]
 have hr:0≤T%762123384786∧T%762123384786<762123384786:=by omega
 generalize hrr:T%762123384786=r at*
 refine zaF (α:=Int×Int) 16 0 (fun i a=>[.int .i64 a.1,.int .i64 a.2,.int .i64 (zbP r i).2,.int .i64 ((i:Int)+1)]) (fun i a h'=>IntKind.i64.wrap (a.1-a.2)=(zbP r i).1∧Ext h h') (1099511627776,0) rfl (by omega) ⟨show IntKind.i64.wrap (1099511627776-0)=1099511627776 from w64 (by omega) (by omega),e1⟩ fun i a h2 again ρj _ hi ⟨s0,e2⟩ H=>?_
 obtain⟨P,M⟩:=a
 simp only[go_sem]
 obtain⟨s1,s2⟩:=zlc r i
 refine zac (fun h0=>?_) (fun h0=>?_)
 ·rw[w64 (n:=((i:Int)+1)*1099511627776) (by omega) (by omega)]
  refine(zcF s2 (by unfold I64;omega) (by unfold I64;omega)).mono fun v1 h3 ⟨e,e3⟩=>?_
  subst e
  rw[zbd _ _ _ _ (by omega),zaa,Int.tmod_eq_emod_of_nonneg (by omega)]
  simp only[go_sem]
  have hst:(zbP r (i+1)).1=IntKind.i64.wrap (if i%2=0 then(zbP r i).1-(zbP r (i+1)).2 else(zbP r i).1+(zbP r (i+1)).2):=rfl
  have hs2:(zbP r (i+1)).2=zaQ (zbP r i).2 r (((i:Int)+1)*1099511627776):=rfl
  rw[←hs2]
  rw[w64 (n:=(i:Int)+1+1) (by omega) (by omega),show(i:Int)+1+1=((i+1:Nat):Int)+1 by omega]
  refine zac (fun h4=>?_) (fun h4=>?_)
  ·refine H (P,_) h3 (by omega) ⟨?_,e2.trans e3⟩
   rw[hst,if_pos (by omega),←s0]
   exact sum_less _ _ _
  ·refine H (_,M) h3 (by omega) ⟨?_,e2.trans e3⟩
   rw[hst,if_neg (by omega),←s0]
   exact sum_more _ _ _
 ·have:i=16:=by omega
  subst this
  rw[s0]
  refine(zpT s1 (by unfold I64;omega)).mono fun v1 h3 ⟨e,e3⟩=>?_
  exact⟨e,e2.trans e3⟩
theorem c_r3Ratio {h:Heap}{d s:Int}(hd:I64 d)(hs:I64 s):FCall prog zig #[.int .i64 d,.int .i64 s] h fun r h'=>r=.int .i64 (zo3 d s)∧Ext h h':=by
 apply zqc
 unfold zko
 simp only[go_sem]
 unfold zo3
 refine zac (fun h0=>?_) (fun h0=>?_)
 ·rw[if_pos (by omega)];exact⟨rfl,Ext.refl _⟩
 ·rw[if_neg (by omega)]
  have h1:=sq_le (d:=d) (B:=16384) (by omega) (by omega)
  have h2:=sq_le (d:=s) (B:=4194304) (by omega) (by omega)
  rw[w64 (n:=d*d) (by omega) (by omega),w64 (n:=d*d*2147483648) (by omega) (by omega),w64 (n:=s*s) (by omega) (by omega)]
  exact zcF (by unfold I64;omega) (by unfold I64;omega) (by unfold I64;omega)
theorem c_r3Gauss {h:Heap}{d s:Int}(hd:I64 d)(hs:I64 s):FCall prog zih #[.int .i64 d,.int .i64 s] h fun r h'=>r=.int .i64 (zoa d s)∧Ext h h':=by
 apply zqd
 unfold zkp
 refine(c_r3Ratio hd hs).mono fun v1 h1 ⟨e,e1⟩=>?_
 subst e
 refine(c_r3Exp (zqV _ _)).mono fun v1 h2 ⟨e,e2⟩=>?_
 subst e
 refine(zpT (zsM _) (by unfold I64;omega)).mono fun v1 h3 ⟨e,e3⟩=>?_
 exact⟨e,e1.trans (e2.trans e3)⟩
theorem c_r4May {h:Heap}{p q:Int}(hp:I64 p)(hq:I64 q):FCall prog zlk #[.int .i64 p,.int .i64 q] h fun r h'=>r=.bool (decide (mayZ p q))∧h'=h:=by
 apply ok_ref04_May
 unfold znT
 simp only[go_sem]
 unfold I64 at*
 refine zac (fun h0=>?_) (fun h0=>?_)
 ·exact⟨by rw[decide_eq_false];unfold mayZ;omega,trivial⟩
 ·refine⟨?_,trivial⟩
  congr 1
  rw[decide_eq_decide,w64 (n:= -4*q) (by omega) (by omega),w64 (n:=4*q) (by omega) (by omega)]
  unfold mayZ
  omega
theorem zrh {h:Heap}{p q:Int}(hp:I64 p)(h0:p≠ -9223372036854775808)(hq:I64 q):FCall prog zeH #[.int .i64 p,.int .i64 q] h fun r h'=>r=.int .i64 (zkW p q)∧Ext h h':=by
 apply zpk
 unfold zi8
 unfold zkW
 simp only[go_sem]
 unfold I64 at hp
 refine zar (fun xs h'=>xs=[.int .i64 (max p (-p))]∧h'=h) ?_ ?_
 ·refine zac (fun hc=>?_) (fun hc=>?_)
  ·rw[w64 (by omega) (by omega)]
   exact⟨by rw[show max p (-p)=0-p by omega],rfl⟩
  ·exact⟨by rw[show max p (-p)=p by omega],rfl⟩
 rintro xs ρj h1 ⟨rfl,hh⟩
 have hh:=hh.symm
 subst hh
 have hm:I64 (max p (-p)):=by unfold I64 at*;omega
 simp only[go_sem]
 refine(zcF (by unfold I64;omega) hm hq).mono fun v1 h1 ⟨e,e1⟩=>?_
 subst e
 refine(zcF (zbO _ _ _) hm hq).mono fun v1 h2 ⟨e,e2⟩=>?_
 subst e
 have hu:=zbO (zaQ 10851744800547 (max p (-p)) q) (max p (-p)) q
 generalize zaQ (zaQ 10851744800547 (max p (-p)) q) (max p (-p)) q=u at*
 refine zaF (α:=Int×Int) 30 0 (fun i a=>[.int .i64 a.1,.int .i64 a.2,.int .i64 (zaE u i).2,.int .i64 ((i:Int)+1)]) (fun i a h'=>IntKind.i64.wrap (a.1-a.2)=(zaE u i).1∧Ext h h') (1099511627776,0) rfl (by omega) ⟨show IntKind.i64.wrap (1099511627776-0)=1099511627776 from w64 (by omega) (by omega),e1.trans e2⟩ fun i a h3 again ρj _ hi ⟨s0,e3⟩ H=>?_
 obtain⟨P,M⟩:=a
 simp only[go_sem]
 obtain⟨s1,s2⟩:=ziX u i
 refine zac (fun h0=>?_) (fun h0=>?_)
 ·have hsq:=sq_le (d:=(i:Int)+1) (B:=30) (by omega) (by omega)
  have he:=twice_sq ((i:Int)+1)
  rw[w64 (n:=2*((i:Int)+1)) (by omega) (by omega),w64 (n:=2*((i:Int)+1)+1) (by omega) (by omega),w64 (n:=2*((i:Int)+1)*(2*((i:Int)+1)+1)) (by omega) (by omega),
   w64 (n:=2*((i:Int)+1)*(2*((i:Int)+1)+1)*1099511627776) (by omega) (by omega)]
  refine(zcF s2 hu (by unfold I64;omega)).mono fun v1 h4 ⟨e,e4⟩=>?_
  subst e
  rw[zbd _ _ _ _ (by omega),zaa,Int.tmod_eq_emod_of_nonneg (by omega)]
  simp only[go_sem]
  have hst:(zaE u (i+1)).1=IntKind.i64.wrap (if i%2=0 then(zaE u i).1-(zaE u (i+1)).2 else(zaE u i).1+(zaE u (i+1)).2):=rfl
  have hs2:(zaE u (i+1)).2=zaQ (zaE u i).2 u (2*((i:Int)+1)*(2*((i:Int)+1)+1)*1099511627776):=rfl
  rw[←hs2]
  rw[w64 (n:=(i:Int)+1+1) (by omega) (by omega),show(i:Int)+1+1=((i+1:Nat):Int)+1 by omega]
  refine zac (fun h5=>?_) (fun h5=>?_)
  ·refine H (P,_) h4 (by omega) ⟨?_,e3.trans e4⟩
   rw[hst,if_pos (by omega),←s0]
   exact sum_less _ _ _
  ·refine H (_,M) h4 (by omega) ⟨?_,e3.trans e4⟩
   rw[hst,if_neg (by omega),←s0]
   exact sum_more _ _ _
 ·have:i=30:=by omega
  subst this
  exact⟨by rw[s0],e3⟩
theorem c_r4Lanczos {h:Heap}{p q:Int}(hp:I64 p)(hq:I64 q):FCall prog zgn #[.int .i64 p,.int .i64 q] h fun r h'=>r=.int .i64 (zh3 p q)∧Ext h h':=by
 apply zor
 unfold ziF
 unfold zh3
 refine(c_r4May hp hq).mono fun v1 h1 ⟨e1,w1⟩=>?_
 have w1:=w1.symm
 subst e1 w1
 by_cases hm:mayZ p q
 ·have hm':=hm
  unfold mayZ at hm'
  simp only[go_sem,hm]
  rw[w64 (n:=3*q) (by omega) (by omega),w64 (n:= -3*q) (by omega) (by omega)]
  refine zac (fun h0=>?_) (fun h0=>?_)
  ·rw[if_pos (by omega)]
   exact⟨rfl,Ext.refl _⟩
  ·rw[if_neg (by omega)]
   refine(zrh hp (by omega) hq).mono fun v1 h1 ⟨e,e1⟩=>?_
   subst e
   refine(zrh hp (by omega) (by unfold I64;omega)).mono fun v1 h2 ⟨e,e2⟩=>?_
   subst e
   refine(c_r2MulShift (zhV _ _) (zhV _ _) (by unfold I64;omega)).mono fun v1 h3 ⟨e,e3⟩=>?_
   subst e
   refine(zpT (zh0 _ _ _) (by unfold I64;omega)).mono fun v1 h4 ⟨e,e4⟩=>?_
   exact⟨e,e1.trans (e2.trans (e3.trans e4))⟩
 ·simp only[go_sem,hm]
  rw[if_pos trivial]
  exact⟨rfl,Ext.refl _⟩
end Go.Proofs.YtcoimlclclnlkaaGreatDoor
namespace Go.Crisp
def inW (f n m i j:Int):Prop:=if f=0 then i*n<(j+1)*m∧j*m<(i+1)*n else
 2*m*j-(2*i+1)*n+m<zaZ f*(2*max n m)∧ -(zaZ f*(2*max n m))<2*m*j-(2*i+1)*n+m
instance (f n m i j:Int):Decidable (inW f n m i j):=by unfold inW;infer_instance
theorem inW_iff {f n m i j:Int}(h:mayR f n m i):inW f n m i j↔lowW f n m i≤j∧j<highW f n m i:=by
 obtain⟨f0,f1,n0,n1,m0,m1,i0,i1⟩:=h
 unfold inW lowW highW ceilD
 split
 ·have a1:= @Int.ediv_lt_iff_lt_mul (i*n) (j+1) m (by omega)
  have a2:= @Int.ediv_lt_iff_lt_mul (-((i+1)*n)) (-j) m (by omega)
  rw[Int.neg_mul]at a2
  constructor
  ·rintro⟨h1,h2⟩
   have:=a1.2 h1
   have:=a2.2 (by omega)
   omega
  ·rintro⟨h1,h2⟩
   have:=a1.1 (by omega)
   have:=a2.1 (by omega)
   omega
 ·have a1:= @Int.ediv_lt_iff_lt_mul ((2*i+1)*n-m-zaZ f*2*max n m) j (2*m) (by omega)
  have a2:= @Int.ediv_lt_iff_lt_mul (-((2*i+1)*n-m+zaZ f*2*max n m)) (-j) (2*m) (by omega)
  rw[Int.neg_mul]at a2
  rw[Int.mul_comm j]at a1 a2
  rw[Int.mul_assoc (zaZ f)]at a1 a2
  rw[Int.mul_assoc (zaZ f)]
  constructor
  ·rintro⟨h1,h2⟩
   have:=a1.2 (by omega)
   have:=a2.2 (by omega)
   omega
  ·rintro⟨h1,h2⟩
   have:=a1.1 (by omega)
   have:=a2.1 (by omega)
   omega
theorem start_in {f n m i:Int}(h:mayR f n m i):lowW f n m i≤i*n/m∧i*n/m<highW f n m i:=by
 rw[←inW_iff h]
 obtain⟨f0,f1,n0,n1,m0,m1,i0,i1⟩:=h
 have hq:=Int.mul_ediv_add_emod (i*n) m
 have hr:=Int.emod_nonneg (i*n) (show m≠0 by omega)
 have hr2:=Int.emod_lt_of_pos (i*n) (show 0<m by omega)
 generalize i*n/m=j at*
 generalize i*n%m=r at*
 unfold inW
 have e1:(j+1)*m=m*j+m:=by rw[Int.add_mul,Int.one_mul,Int.mul_comm]
 have e2:(i+1)*n=i*n+n:=by rw[Int.add_mul,Int.one_mul]
 have e3:(2*i+1)*n=2*(i*n)+n:=by rw[Int.add_mul,Int.one_mul,Int.mul_assoc]
 have e4:2*m*j=2*(m*j):=Int.mul_assoc _ _ _
 have e5:j*m=m*j:=Int.mul_comm _ _
 split
 ·rw[e1,e2,e5];omega
 ·rw[e3,e4]
  have hre:zaZ f=2∨zaZ f=3:=by unfold zaZ;rename_i hf;rw[if_neg hf];split<;>omega
  rcases hre with hre|hre<;>rw[hre]<;>omega
end Go.Crisp
namespace Go.Proofs.YtcoimlclclnlkaaGreatDoor
open Go Go.Crisp
attribute [local irreducible] FCall rowK newK stK iteK vK qK drawK gK joinK loopK mkK appK cpyK zoB zmd bsK
open _root_.Go.Proofs.Tryz
theorem c_r5May {h:Heap}{f n m i:Int}:FCall prog zlj #[.int .i64 f,.int .i64 n,.int .i64 m,.int .i64 i] h fun r h'=>r=.bool (decide (mayR f n m i))∧h'=h:=by
 apply ok_ref05_May
 unfold znS
 simp only[go_sem]
 refine⟨?_,trivial⟩
 congr 1
 rw[decide_eq_decide]
 unfold mayR
 omega
abbrev jB (j:Int):Prop:= -137438953472≤j∧j≤137438953472
theorem zoe {h:Heap}{f n m i j:Int}(hm:mayR f n m i)(hj:jB j):FCall prog zdp #[.int .i64 n,.int .i64 m,.int .i64 i,.int .i64 j] h fun r h'=>
  r=.tuple #[.int .i64 (2*m*j-(2*i+1)*n+m),.int .i64 (2*max n m)]∧h'=h:=by
 apply zm8
 unfold zhv
 simp only[go_sem]
 have hb:=mayB hm
 obtain⟨b1,b2,b3,b4,b5⟩:=hb
 obtain⟨f0,f1,n0,n1,m0,m1,i0,i1⟩:=hm
 have hjm:=zsr (a:=j) (A:=137438953472) (b:=m) (B:=65536) (by omega) (by omega) (by omega) (by omega)
 have hj2:2*m*j=2*(j*m):=by rw[Int.mul_assoc,Int.mul_comm m j]
 rw[w64 (n:=2*m) (by omega) (by omega),w64 (n:=2*n) (by omega) (by omega),w64 (n:=2*m*j) (by omega) (by omega),w64 (n:=2*i) (by omega) (by omega),w64 (n:=2*i+1) (by omega) (by omega),w64 (n:=(2*i+1)*n) (by omega) (by omega),
  w64 (n:=2*m*j-(2*i+1)*n) (by omega) (by omega),w64 (n:=2*m*j-(2*i+1)*n+m) (by omega) (by omega)]
 refine zar (fun xs h'=>xs=[.int .i64 (2*max n m)]∧h'=h) ?_ ?_
 ·refine zac (fun hc=>?_) (fun hc=>?_)
  ·exact⟨by rw[show max n m=m by omega],rfl⟩
  ·exact⟨by rw[show max n m=n by omega],rfl⟩
 rintro xs ρj h1 ⟨rfl,hh⟩
 exact⟨rfl,hh⟩
theorem c_r5In0 {h:Heap}{f n m i j:Int}(hm:mayR f n m i)(hj:jB j):FCall prog zfM #[.int .i64 f,.int .i64 n,.int .i64 m,.int .i64 i,.int .i64 j] h fun r h'=>
  r=.bool (decide (inW f n m i j))∧h'=h:=by
 apply ok_ref05_In
 unfold zoT
 simp only[go_sem]
 have hm0:=hm
 have hb:=mayB hm
 obtain⟨b1,b2,b3,b4,b5⟩:=hb
 obtain⟨f0,f1,n0,n1,m0,m1,i0,i1⟩:=hm
 have hjm:=zsr (a:=j) (A:=137438953472) (b:=m) (B:=65536) (by omega) (by omega) (by omega) (by omega)
 have hj1:(j+1)*m=j*m+m:=by rw[Int.add_mul,Int.one_mul]
 refine zac (fun hf=>?_) (fun hf=>?_)
 ·rw[w64 (n:=i+1) (by omega) (by omega),w64 (n:=(i+1)*n) (by omega) (by omega),w64 (n:=j+1) (by omega) (by omega),w64 (n:=(j+1)*m) (by omega) (by omega),w64 (n:=i*n) (by omega) (by omega),w64 (n:=j*m) (by omega) (by omega)]
  refine⟨?_,trivial⟩
  congr 1
  rw[decide_eq_decide]
  unfold inW
  rw[if_pos hf]
 ·refine(zoe hm0 hj).mono fun v1 h1 ⟨e1,w1⟩=>?_
  have w1:=w1.symm
  subst e1 w1
  simp only[go_sem]
  rw[w64 (n:=2*(2*max n m)) (by omega) (by omega),w64 (n:=3*(2*max n m)) (by omega) (by omega),w64 (n:=0-2*(2*max n m)) (by omega) (by omega),w64 (n:=0-3*(2*max n m)) (by omega) (by omega)]
  refine zac (fun hc=>?_) (fun hc=>?_)
  ·refine⟨?_,trivial⟩
   congr 1
   rw[decide_eq_decide]
   unfold inW zaZ
   rw[if_neg hf,if_neg hf,if_neg (by omega)]
   omega
  ·refine⟨?_,trivial⟩
   congr 1
   rw[decide_eq_decide]
   unfold inW zaZ
   rw[if_neg hf,if_neg hf,if_pos (by omega)]
   omega
theorem c_r5In {h:Heap}{f n m i j:Int}(hm:mayR f n m i)(hj:jB j):FCall prog zfM #[.int .i64 f,.int .i64 n,.int .i64 m,.int .i64 i,.int .i64 j] h fun r h'=>
  r=.bool (decide (lowW f n m i≤j∧j<highW f n m i))∧h'=h:=
 (c_r5In0 hm hj).mono fun v h1 ⟨e,w⟩=>⟨by rw[e];congr 1;exact decide_eq_decide.2 (inW_iff hm),w⟩
theorem c_r5Keys {h:Heap}{p q:Int}(hp: -4611686018427387904≤p∧p≤4611686018427387904)(hq:I64 q):FCall prog zjG #[.int .i64 p,.int .i64 q] h fun r h'=>r=.int .i64 (keysZ p q)∧Ext h h':=by
 apply zr7
 unfold zlN
 try simp only[go_sem]
 unfold keysZ
 refine zac (fun h0=>?_) (fun h0=>?_)
 ·rw[if_pos (by omega)];exact⟨rfl,Ext.refl _⟩
 rw[w64 (n:=2*q) (by omega) (by omega),w64 (n:= -2*q) (by omega) (by omega)]
 refine zac (fun h1=>?_) (fun h1=>?_)
 ·rw[if_pos (by omega)];exact⟨rfl,Ext.refl _⟩
 rw[if_neg (by omega)]
 refine zar (fun xs h'=>xs=[.int .i64 (max p (-p))]∧h'=h) ?_ ?_
 ·refine zac (fun hc=>?_) (fun hc=>?_)
  ·rw[w64 (by omega) (by omega)]
   exact⟨by rw[show max p (-p)=0-p by omega],rfl⟩
  ·exact⟨by rw[show max p (-p)=p by omega],rfl⟩
 rintro xs ρj h2 ⟨rfl,hh⟩
 have hh:=hh.symm
 subst hh
 generalize max p (-p)=a
 try simp only[go_sem]
 simp only[zjS,zmS,zhk,zfG,zjR,zmR]
 unfold cubicZ
 refine zac (fun h1=>?_) (fun h1=>?_)
 ·rw[if_neg (by omega)]
  have e3:3*(a*a*a)-5*(a*a)*q+2*(q*q*q)=3*(a*a*a)-5*(a*a*q)+2*(q*q*q):=by grind
  rw[e3]
  exact zcF (zdn _) (by unfold I64;omega) (zdn _)
 ·rw[if_pos (by omega)]
  have e3:5*(a*a)*q-a*a*a-8*a*(q*q)+4*(q*q*q)=4*(q*q*q)+5*(a*a*q)-a*a*a-8*(a*q*q):=by grind
  rw[e3]
  exact zcF (zdn _) (by unfold I64;omega) (zdn _)
theorem c_r5Weight {h:Heap}{f n m i j:Int}(hm:mayR f n m i)(hj:jB j):FCall prog zhf #[.int .i64 f,.int .i64 n,.int .i64 m,.int .i64 i,.int .i64 j] h fun r h'=>
  r=.int .i64 (zlr f n m i j)∧Ext h h':=by
 apply zpj
 unfold zi7
 try simp only[go_sem]
 have hm0:=hm
 have hb:=mayB hm
 obtain⟨b1,b2,b3,b4,b5⟩:=hb
 obtain⟨f0,f1,n0,n1,m0,m1,i0,i1⟩:=hm
 unfold zlr
 have hjm:=zsr (a:=j) (A:=137438953472) (b:=m) (B:=65536) (by omega) (by omega) (by omega) (by omega)
 have hj1:(j+1)*m=j*m+m:=by rw[Int.add_mul,Int.one_mul]
 have hj2:2*m*j=2*(j*m):=by rw[Int.mul_assoc,Int.mul_comm m j]
 refine zac (fun hf=>?_) (fun hf=>?_)
 ·rw[if_pos hf]
  rw[w64 (n:=i+1) (by omega) (by omega),w64 (n:=(i+1)*n) (by omega) (by omega),w64 (n:=j+1) (by omega) (by omega),w64 (n:=(j+1)*m) (by omega) (by omega),w64 (n:=i*n) (by omega) (by omega),w64 (n:=j*m) (by omega) (by omega)]
  refine zar (fun xs h'=>xs=[.int .i64 (max (i*n) (j*m))]∧h'=h) ?_ ?_
  ·refine zac (fun hc=>?_) (fun hc=>?_)
   ·exact⟨by rw[show max (i*n) (j*m)=j*m by omega],rfl⟩
   ·exact⟨by rw[show max (i*n) (j*m)=i*n by omega],rfl⟩
  rintro xs ρj h2 ⟨rfl,hh⟩
  have hh:=hh.symm
  subst hh
  simp only[go_sem]
  refine zac (fun hc=>?_) (fun hc=>?_)
  ·rw[w64 (by omega) (by omega),show min ((i+1)*n) ((j+1)*m)=(j+1)*m by omega]
   exact zcF (by unfold I64;omega) (by unfold I64;omega) (by unfold I64;omega)
  ·rw[w64 (by omega) (by omega),show min ((i+1)*n) ((j+1)*m)=(i+1)*n by omega]
   exact zcF (by unfold I64;omega) (by unfold I64;omega) (by unfold I64;omega)
 rw[if_neg hf]
 refine(zoe hm0 hj).mono fun v1 h1 ⟨e1,w1⟩=>?_
 have w1:=w1.symm
 subst e1 w1
 simp only[go_sem]
 refine zac (fun hf1=>?_) (fun hf1=>?_)
 ·rw[if_pos hf1]
  exact c_r5Keys (by omega) (by unfold I64;omega)
 ·rw[if_neg hf1]
  exact c_r4Lanczos (by unfold I64;omega) (by unfold I64;omega)
theorem c_r5Row {h:Heap}{f n m i:Int}:FCall prog zif #[.int .i64 f,.int .i64 n,.int .i64 m,.int .i64 i] h fun r h'=>
  ∃v,r=.tuple #[.int .i64 (zbD f n m i),v]∧New (Rp.int .i64) h h' v (zbb f n m i):=by
 apply ok_ref05_Row
 unfold znR
 refine c_r5May.mono fun v1 h1 ⟨e1,w1⟩=>?_
 have w1:=w1.symm
 subst e1 w1
 unfold zbD zbb
 by_cases hm:mayR f n m i
 ·rw[if_pos hm,if_pos hm]
  simp only[go_sem,hm]
  have hlb:=low_bd hm
  have hst:=start_in hm
  have hbb:=mayB hm
  obtain⟨b1,b2,b3,b4,b5⟩:=hbb
  have hm':=hm
  obtain⟨f0,f1,n0,n1,m0,m1,i0,i1⟩:=hm'
  have hdb:=zgX (a:=i*n) (b:=m) (L:=0) (U:=4294967296) (by omega) (by omega) (by omega) (by omega) (by omega)
  rw[w64 (n:=i*n) (by omega) (by omega),zez _ _ _ _ (by omega),zaa,Int.tdiv_eq_ediv_of_nonneg b1.1,w64 (by omega) (by omega)]
  generalize hlo:lowW f n m i=lo at*
  generalize hhi:highW f n m i=hi at*
  generalize i*n/m=j0 at*
  refine zeh (fun k=>[.int .i64 (j0-(k:Int))]) (j0-lo).toNat 0 (by simp) (Nat.zero_le _) fun k again ρj _ hk H=>?_
  simp only[go_sem]
  rw[w64 (n:=j0-(k:Int)-1) (by omega) (by omega)]
  refine(c_r5In hm (by omega)).mono fun v1 h1 ⟨e1,w1⟩=>?_
  have w1:=w1.symm
  subst e1 w1
  rw[hlo,hhi]
  refine zac (fun hc=>?_) (fun hc=>?_)
  ·have H:=H (by omega)
   rw[show j0-((k+1:Nat):Int)=j0-(k:Int)-1 by omega]at H
   exact H
  have hk:j0-(k:Int)=lo:=by omega
  rw[hk]
  refine zeh (fun k=>[.int .i64 lo]) 0 0 rfl (Nat.le_refl _) fun k2 again2 ρj2 _ hk2 _=>?_
  simp only[go_sem]
  refine(c_r5In hm (by omega)).mono fun v1 h1 ⟨e1,w1⟩=>?_
  have w1:=w1.symm
  subst e1 w1
  rw[hlo,hhi,decide_eq_true (by omega)]
  simp only[go_sem]
  refine zaF (hi-lo).toNat 0 (fun k v=>[.int .i64 (lo+(k:Int)),v]) (fun k v h'=>New (Rp.int .i64) h h' v ((rowW f n m i).take k)) (.slice none 0 0) (by simp) (Nat.zero_le _) (New.nil (Ext.refl _)) fun k v h2 again ρj _ hk hI H=>?_
  simp only[go_sem]
  have hl:(rowW f n m i).length=(hi-lo).toNat:=by unfold rowW;rw[List.length_map,List.length_range,hlo,hhi]
  refine(c_r5In hm (by omega)).mono fun v1 h3 ⟨e1,w1⟩=>?_
  have w1:=w1.symm
  subst e1 w1
  rw[hlo,hhi]
  refine zac (fun h0=>?_) (fun h0=>?_)
  ·refine(c_r5Weight hm (by omega)).mono fun v2 h3 ⟨e2,w2⟩=>?_
   subst e2
   have hlen:((rowW f n m i).take k).length=k:=by rw[List.length_take];omega
   refine(hI.ext w2).push_int rfl (by rw[hlen];omega) (by rw[hlen];omega) fun s' h' H'=>?_
   try simp only[go_sem]
   rw[w64 (by omega) (by omega)]
   have:=H s' h' (by omega) (by
    have e:=zey (fun k:Nat=>zlr f n m i (lowW f n m i+k)) (highW f n m i-lowW f n m i).toNat k (by omega)
    unfold rowW at H' ⊢
    rw[e,hlo]
    rw[hlo]at H'
    exact H')
   rw[show lo+((k+1:Nat):Int)=lo+(k:Int)+1 by omega]at this
   exact this
  ·rw[List.take_of_length_le (by omega)]at hI
   exact⟨v,rfl,hI⟩
 ·rw[if_neg hm,if_neg hm]
  simp only[go_sem,hm]
  exact⟨_,rfl,New.nil (Ext.refl _)⟩
end Go.Proofs.YtcoimlclclnlkaaGreatDoor
namespace Go.Proofs.YtcoimlclclnlkaaGreatDoor
open Go Go.Crisp
attribute [local irreducible] FCall rowK newK stK iteK vK qK drawK gK joinK loopK mkK appK cpyK zoB zmd bsK clK
open _root_.Go.Proofs.Tryz
theorem c_r6plus {h:Heap}{a b:Int}(ha:I64 a)(hb:I64 b):FCall prog zg2 #[.int .i64 a,.int .i64 b] h fun r h'=>r=.int .i64 (addZ a b)∧h'=h:=by
 apply zr2
 unfold zlI
 simp only[go_sem,zdh]
 unfold addZ I64 at*
 refine zac (fun h0=>?_) (fun h0=>?_)
 ·exact⟨by congr 1;omega,trivial⟩
 refine zac (fun h1=>?_) (fun h1=>?_)
 ·exact⟨by congr 1;omega,trivial⟩
 ·exact⟨by congr 1;omega,trivial⟩
theorem c_r6Size {h:Heap}{x:Int}(hx:I64 x):FCall prog zg3 #[.int .i64 x] h fun r h'=>r=.int .i64 (sizeZ x)∧h'=h:=by
 apply zr4
 unfold zlK
 rw[zoz hx]
 simp only[go_sem,zdh]
 unfold I64 at*
 refine zac (fun h0=>?_) (fun h0=>?_)
 ·exact⟨by congr 1;omega,trivial⟩
 refine zac (fun h1=>?_) (fun h1=>?_)
 ·exact⟨by congr 1;omega,trivial⟩
 ·exact⟨by congr 1;omega,trivial⟩
theorem c_r6Sum {Z:Nat→Prop}{h:Heap}{v:Value}{l:List Int}(H:SlI Z h v l)(h64:∀x∈l,I64 x)(hl:l.length<4611686018427387904):FCall prog zli #[v] h fun r h'=>r=.int .i64 (sumZ l)∧h'=h:=by
 apply ok_ref06_Sum
 unfold znQ
 obtain⟨a,cap,e⟩:=H.isSl
 have e2:zaf v=some (.int .i64 (l.length:Int)):=by rw[e];rfl
 rw[e2,zaa]
 refine zeh (fun i=>[.int .i64 ((l.take i).foldl addZ 0),.int .i64 (i:Int)]) l.length 0 rfl (Nat.zero_le _) fun i again ρj _ hi Hag=>?_
 simp only[go_sem]
 refine zac (fun h0=>?_) (fun h0=>?_)
 ·have hi':i<l.length:=by omega
  obtain⟨p,e3,e4⟩:=H.int_at (k':=.i64) hi'
  simp only[go_sem,e3,e4]
  refine(c_r6plus (zge zj2 _ _ zj3) (h64 _ (List.getElem_mem _))).mono fun v1 h1 ⟨e1,w1⟩=>?_
  subst e1 w1
  rw[w64 (by omega) (by omega)]
  have:=Hag hi'
  rw[zls hi']at this
  exact this
 ·rw[List.take_of_length_le (by omega)]
  exact⟨rfl,trivial⟩
theorem c_r6Sizes {Z:Nat→Prop}{h:Heap}{v:Value}{l:List Int}(H:SlI Z h v l)(h64:∀x∈l,I64 x)(hl:l.length<4611686018427387904):FCall prog zie #[v] h fun r h'=>r=.int .i64 (zfP l)∧h'=h:=by
 apply zqb
 unfold zkn
 obtain⟨a,cap,e⟩:=H.isSl
 have e2:zaf v=some (.int .i64 (l.length:Int)):=by rw[e];rfl
 rw[e2,zaa]
 refine zeh (fun i=>[.int .i64 ((l.take i).foldl (fun s x=>addZ s (sizeZ x)) 0),.int .i64 (i:Int)]) l.length 0 rfl (Nat.zero_le _) fun i again ρj _ hi Hag=>?_
 simp only[go_sem]
 refine zac (fun h0=>?_) (fun h0=>?_)
 ·have hi':i<l.length:=by omega
  obtain⟨p,e3,e4⟩:=H.int_at (k':=.i64) hi'
  simp only[go_sem,e3,e4]
  have hx:=h64 _ (List.getElem_mem hi')
  refine(c_r6Size hx).mono fun v1 h1 ⟨e1,w1⟩=>?_
  subst e1 w1
  refine(c_r6plus (zge (fun a b=>zj2 a (sizeZ b)) _ _ zj3) (sizeZ_I64 hx)).mono fun v1 h1 ⟨e1,w1⟩=>?_
  subst e1 w1
  try simp only[go_sem]
  rw[w64 (by omega) (by omega)]
  have:=Hag hi'
  rw[zls hi']at this
  exact this
 ·rw[List.take_of_length_le (by omega)]
  exact⟨rfl,trivial⟩
theorem zrF (l:List Int):0≤zfP l∨¬ ∀x∈l,I64 x:=by
 by_cases h:∀x∈l,I64 x
 ·left
  unfold zfP
  have:∀(l:List Int) (s:Int),(∀x∈l,I64 x)→0≤s→0≤l.foldl (fun s x=>addZ s (sizeZ x)) s:=by
   intro l
   induction l with
   |nil=>intro s _ hs;exact hs
   |cons x l ih=>
    intro s h hs
    refine ih _ (fun y hy=>h y (by simp[hy])) ?_
    have h2:=zoz (h x (by simp))
    show 0≤addZ s (sizeZ x)
    rw[h2]
    unfold addZ
    omega
  exact this l 0 h (Int.le_refl _)
 ·exact .inr h
theorem zsQ {Z:Nat→Prop}{h:Heap}{v:Value}{l:List Int}(H:SlI Z h v l)(h64:∀x∈l,I64 x)(hl:l.length<4611686018427387904):
  FCall prog ze1 #[v] h fun r h'=>∃u,r=.tuple #[u,.int .i64 (userC l)]∧New (Rp.int .i64) h h' u (userW l):=by
 apply zr3
 unfold zlJ
 refine(c_r6Sizes H h64 hl).mono fun v1 h1 ⟨e1,w1⟩=>?_
 have w1:=w1.symm
 subst e1 w1
 obtain⟨a,cap,e⟩:=H.isSl
 have e2:zaf v=some (.int .i64 (l.length:Int)):=by rw[e];rfl
 simp only[go_sem,e2]
 rw[zbd _ _ _ _ (by omega),zaa,Int.tmod_eq_emod_of_nonneg (by omega)]
 simp only[go_sem,e2]
 unfold userC userW
 have hs:=zqK l
 have hs0:0≤zfP l:=(zrF l).resolve_right fun hh=>hh h64
 refine zac (fun h0=>?_) (fun h0=>?_)
 ·have:zds l:=by unfold zds;omega
  rw[if_pos this,if_pos this]
  exact⟨_,rfl,New.nil (Ext.refl _)⟩
 ·have hn:¬zds l:=by unfold zds;omega
  rw[if_neg hn,if_neg hn]
  refine zaF l.length 0 (fun k u=>[u,.int .i64 (k:Int)]) (fun k u h'=>New (Rp.int .i64) h h' u ((l.map fun x=>zaQ x 1073741824 (zfP l)).take k)) (.slice none 0 0) rfl (Nat.zero_le _) (New.nil (Ext.refl _)) fun k u h2 again ρj _ hk hI Hag=>?_
  simp only[go_sem]
  refine zac (fun h0=>?_) (fun h0=>?_)
  ·have hk':k<l.length:=by omega
   obtain⟨p,e3,e4⟩:=(H.ext hI.2.1).int_at (k':=.i64) hk'
   simp only[go_sem,e3,e4]
   refine(zcF (h64 _ (List.getElem_mem _)) (by unfold I64;omega) hs).mono fun v2 h3 ⟨e5,w5⟩=>?_
   subst e5
   have hlen:((l.map fun x=>zaQ x 1073741824 (zfP l)).take k).length=k:=by rw[List.length_take,List.length_map];omega
   unfold zds at hn
   refine(hI.ext w5).push_int rfl (by rw[hlen];omega) (by rw[hlen];omega) fun s' h' H'=>?_
   try rw[za6,zaa]
   rw[w64 (by omega) (by omega)]
   have:=Hag s' h' hk' (by rw[zmB _ _ hk'];exact H')
   exact this
  ·rw[List.take_of_length_le (by rw[List.length_map];omega)]at hI
   exact⟨u,rfl,hI⟩
theorem c_r6Gaussian {h:Heap}{s:Int}(hs:I64 s):FCall prog zfa #[.int .i64 s] h fun r h'=>∃u,r=.tuple #[u,.int .i64 (zpI s)]∧New (Rp.int .i64) h h' u (zhJ s):=by
 apply zm7
 unfold zhu
 simp only[go_sem]
 unfold zpI zhJ
 refine zac (fun h0=>?_) (fun h0=>?_)
 ·have:zfu s:=h0
  rw[if_pos this,if_pos this]
  exact⟨_,rfl,New.nil (Ext.refl _)⟩
 ·have hn:¬zfu s:=h0
  rw[if_neg hn,if_neg hn]
  have hr:0≤zcw s∧zcw s≤193∧65536*zcw s≥3*s∧65536*(zcw s-1)<3*s:=by unfold zcw;omega
  generalize zcw s=q at*
  refine zeh (fun k=>[.int .i64 (k:Int)]) q.toNat 0 rfl (Nat.zero_le _) fun k again ρj _ hk Hag=>?_
  simp only[go_sem]
  rw[w64 (n:=(k:Int)*65536) (by omega) (by omega),w64 (n:=3*s) (by omega) (by omega)]
  refine zac (fun h1=>?_) (fun h1=>?_)
  ·rw[w64 (by omega) (by omega)]
   exact Hag (by omega)
  have hkq:(k:Int)=q:=by omega
  rw[hkq,w64 (n:=0-q) (by omega) (by omega)]
  obtain⟨N,hN⟩:∃N,N=(2*q+1).toNat:=⟨_,rfl⟩
  rw[←hN]
  refine zaF N 0 (fun k u=>[u,.int .i64 ((k:Int)-q)]) (fun k u h'=>New (Rp.int .i64) h h' u (((List.range N).map fun k:Nat=>zoa ((k:Int)-q) s).take k)) (.slice none 0 0) rfl (Nat.zero_le _) (New.nil (Ext.refl _)) fun k u h2 again ρj _ hk hI Hag=>?_
  simp only[go_sem]
  refine zac (fun h3=>?_) (fun h3=>?_)
  ·have hk':k<N:=by omega
   refine(c_r3Gauss (by unfold I64;omega) hs).mono fun v2 h3 ⟨e5,w5⟩=>?_
   subst e5
   have hlen:(((List.range N).map fun k:Nat=>zoa ((k:Int)-q) s).take k).length=k:=by rw[List.length_take,List.length_map,List.length_range];omega
   refine(hI.ext w5).push_int rfl (by rw[hlen];omega) (by rw[hlen];omega) fun s' h' H'=>?_
   try rw[za6,zaa]
   rw[w64 (by omega) (by omega)]
   have:=Hag s' h' hk' (by rw[zey _ _ _ hk'];exact H')
   rw[show((k+1:Nat):Int)-q=(k:Int)-q+1 by omega]at this
   exact this
  ·rw[List.take_of_length_le (by rw[List.length_map,List.length_range];omega)]at hI
   exact⟨u,rfl,hI⟩
theorem c_r6Blur {h:Heap}{r:Int}(hr:I64 r):FCall prog zjF #[.int .i64 r] h fun w h'=>∃u,w=.tuple #[u,.int .i64 (blurC r)]∧New (Rp.int .i64) h h' u (blurW r):=by
 apply zr6
 unfold zlM
 try simp only[go_sem]
 unfold blurC blurW
 refine zac (fun h0=>?_) (fun h0=>?_)
 ·have:zjA r:=h0
  rw[if_pos this,if_pos this]
  exact⟨_,rfl,New.nil (Ext.refl _)⟩
 ·have hn:¬zjA r:=h0
  rw[if_neg hn,if_neg hn]
  rw[w64 (n:=2*r) (by omega) (by omega)]
  try simp only[go_sem]
  rw[w64 (n:=2*r+1) (by omega) (by omega)]
  obtain⟨N,hN⟩:∃N:Nat,N=(2*r+1).toNat:=⟨_,rfl⟩
  rw[←hN,show 2*r+1=(N:Int)by omega]
  refine zaF N 0 (fun k u=>[u,.int .i64 (k:Int)]) (fun k u h'=>New (Rp.int .i64) h h' u (List.replicate k 1)) (.slice none 0 0) rfl (Nat.zero_le _) (New.nil (Ext.refl _)) fun k u h2 again ρj _ hk hI Hag=>?_
  simp only[go_sem]
  refine zac (fun h3=>?_) (fun h3=>?_)
  ·refine hI.push_int rfl (by rw[List.length_replicate];omega) (by rw[List.length_replicate];omega) fun s' h' H'=>?_
   try rw[za6,zaa]
   rw[w64 (by omega) (by omega)]
   rw[←List.replicate_succ']at H'
   exact Hag s' h' (by omega) H'
  ·have:k=N:=by omega
   subst this
   refine(zsQ hI.sl (fun x hx=>by rw[(List.mem_replicate.1 hx).2];unfold I64;omega) (by rw[List.length_replicate];omega)).mono fun w h3 ⟨u,e,H3⟩=>?_
   subst e
   try simp only[go_sem]
   exact⟨u,rfl,H3.before hI.2.1⟩
theorem ow_own {k:IntKind}{Z:Nat→Prop}{h:Heap}{v:Value}{l:List Int}(H:Rp.Ow (Rp.int k) Z h v l):Own 1 h v l.length (l.map fun n=>Value.int k n):=by
 obtain⟨ds,hs,_,he⟩:=H
 have hl:ds.length=l.length*1:=hs.sl.1
 have e:ds=l.map fun n=>Value.int k n:=by
  apply List.ext_getElem
  ·simp;omega
  ·intro i h1 h2
   have h3:=he i (by omega)
   have h4:Rp.el 1 ds i=[Value.int k (l[i]'(by omega))]:=h3
   rw[Rp.el_one h1]at h4
   simpa using h4
 rw[←e]
 exact hs
structure Two2 (h0 h:Heap)(x y:Value)(l m:List Int):Prop where
 ext:Ext h0 h
 ox:Rp.Ow (Rp.int .i64) (fun _=>False) h x l
 oy:Rp.Ow (Rp.int .i64) (fun _=>False) h y m
 nx:∀b,blk x b→h0.size≤b
 ny:∀b,blk y b→h0.size≤b
 dis:∀b,blk x b→¬blk y b
theorem Two2.more {h0 h h':Heap}{x y:Value}{l m:List Int}(T:Two2 h0 h x y l m)(e:Ext h h'):Two2 h0 h' x y l m:=⟨T.ext.trans e,T.ox.ext e,T.oy.ext e,T.nx,T.ny,T.dis⟩
theorem Two2.push_x {h0 h:Heap}{x y:Value}{l m:List Int}{n:Int}{t t':TypeId}{bytes:Nat}{K:Value→Heap→Prop}(T:Two2 h0 h x y l m)(hb:(l.length+1)*bytes≤140737488355328)(hn:l.length+1≤9223372036854775807)
  (H:∀x' h',Two2 h0 h' x' y (l++[n]) m→K x' h'):rowK #[.int .i64 0] t 1 [(0,1,.int .i64 n)] h fun v2 h3=>appK (.int .i64 0) t' 1 bytes x v2 h3 K:=by
 refine Rp.push_ow1 (e:=Rp.int .i64) rfl T.ox (x:=n) rfl rfl hb hn (fun b hb=>hb.elim) fun s' h' o' f' n'=>H s' h' ⟨T.ext.then_fr f' T.nx,o',T.oy.fr f' (fun _ _=>False.elim) fun b hb hx=>T.dis b hx hb,fun b hb=>?_,T.ny,fun b hb hy=>?_⟩
 ·rcases n' b hb with h1|h1
  ·exact T.nx b h1
  ·exact Nat.le_trans T.ext.1 h1
 ·rcases n' b hb with h1|h1
  ·exact T.dis b h1 hy
  ·have:=T.oy.lt hy;omega
theorem Two2.swap {h0 h:Heap}{x y:Value}{l m:List Int}(T:Two2 h0 h x y l m):Two2 h0 h y x m l:=⟨T.ext,T.oy,T.ox,T.ny,T.nx,fun b hy hx=>T.dis b hx hy⟩
theorem zfO {β:Type}(g:Nat→β)(n k:Nat)(h:k<n):(List.range (k+1)).map g=(List.range k).map g++[g k]:=by
 rw[List.range_succ,List.map_append];rfl
theorem zmL {Z:Nat→Prop}{h:Heap}{v:Value}{l:List Int}(H:SlI Z h v l)(h64:∀x∈l,I64 x)(hl:l.length<4611686018427387904):
  FCall prog zcl #[v] h fun r h'=>∃u,r=.tuple #[u,.int .i64 (za0 l)]∧New (Rp.int .i64) h h' u (zaG l):=by
 apply zmq
 unfold zgF
 obtain⟨a,cap,e⟩:=H.isSl
 have e2:zaf v=some (.int .i64 (l.length:Int)):=by rw[e];rfl
 simp only[go_sem,e2]
 refine zac (fun h0=>?_) (fun h0=>?_)
 ·have hB:badW l:=by unfold badW;rcases h0 with h2|h2;exact .inl (by omega);exact .inr (.inl (by omega))
  have hc:za0 l=7:=by unfold za0;rw[if_pos hB]
  unfold zaG
  rw[hc,if_neg (by omega)]
  exact⟨_,rfl,New.nil (Ext.refl _)⟩
 refine zaF (α:=Unit) l.length 0 (fun i _=>[.int .i64 (i:Int)]) (fun i _ h'=>(∀j (hj:j<l.length),j<i→¬1099511627776<sizeZ l[j])∧h'=h) () rfl (Nat.zero_le _) ⟨fun j _ hj=>absurd hj (by omega),rfl⟩ fun i _ h1 again ρj _ hi ⟨hs,eh⟩ Hag=>?_
 have eh:=eh.symm
 subst eh
 simp only[go_sem]
 refine zac (fun h2=>?_) (fun h2=>?_)
 ·have hi':i<l.length:=by omega
  obtain⟨p,e3,e4⟩:=H.int_at (k':=.i64) hi'
  simp only[go_sem,e3,e4]
  have hx:=h64 _ (List.getElem_mem hi')
  refine(c_r6Size hx).mono fun v1 h1 ⟨e1,w1⟩=>?_
  have w1:=w1.symm
  subst e1 w1
  simp only[go_sem]
  refine zac (fun h3=>?_) (fun h3=>?_)
  ·have hB:badW l:=.inr (.inr ⟨_,List.getElem_mem hi',h3⟩)
   have hc:za0 l=7:=by unfold za0;rw[if_pos hB]
   unfold zaG
   rw[hc,if_neg (by omega)]
   exact⟨_,rfl,New.nil (Ext.refl _)⟩
  ·rw[w64 (by omega) (by omega)]
   refine Hag () h hi' ⟨fun j hj hji=>?_,rfl⟩
   by_cases hje:j=i
   ·subst hje;exact h3
   ·exact hs j hj (by omega)
 have hin:i=l.length:=by omega
 subst hin
 have hB:¬badW l:=by
  unfold badW
  rintro(h3|h3|⟨x,hx,h3⟩)
  ·omega
  ·omega
  ·obtain⟨j,hj,rfl⟩:=List.getElem_of_mem hx
   exact hs j hj hj h3
 refine(c_r6Sum H h64 hl).mono fun v1 h1 ⟨e1,w1⟩=>?_
 have w1:=w1.symm
 subst e1 w1
 simp only[go_sem]
 refine zac (fun h3=>?_) (fun h3=>?_)
 ·have hc:za0 l=8:=by unfold za0;rw[if_neg hB,if_pos h3]
  unfold zaG
  rw[hc,if_neg (by omega)]
  exact⟨_,rfl,New.nil (Ext.refl _)⟩
 have hc:za0 l=0:=zpO.2 ⟨hB,by omega⟩
 have G:=goodW h64 hc
 have s1:=G.sum
 have s64:=sumZ_I64 l
 have hn:=G.len
 have hn0:=G.pos
 unfold zaG
 rw[if_pos hc,hc]
 refine zaF (α:=Value×Value) l.length 0 (fun k a=>[a.1,a.2,.int .i64 (leftK l k),.int .i64 (k:Int)]) (fun k a h'=>Two2 h h' a.1 a.2 ((List.range k).map (baseT l)) ((List.range k).map (restT l))) (.slice none 0 0,.slice none 0 0) rfl (Nat.zero_le _)
  ⟨Ext.refl _,Rp.Ow.nil,Rp.Ow.nil,fun b hb=>hb.elim,fun b hb=>hb.elim,fun b hb=>hb.elim⟩ fun k a h1 again ρj _ hk T Hag=>?_
 obtain⟨x,y⟩:=a
 have T:Two2 h h1 x y ((List.range k).map (baseT l)) ((List.range k).map (restT l)):=T
 simp only[go_sem]
 refine zac (fun h4=>?_) (fun h4=>?_)
 ·have hk':k<l.length:=by omega
  obtain⟨p,e3,e4⟩:=(H.ext T.ext).int_at (k':=.i64) hk'
  simp only[go_sem,e3,e4]
  have eg:l.getD k 0=l[k]:=by simp[List.getD_eq_getElem?_getD,hk']
  have hx:=G.small k
  rw[eg]at hx
  rw[w64 (n:=l[k]*16384) (by omega) (by omega)]
  refine(c_r1Floor (by unfold I64;omega) s64).mono fun v1 h4 ⟨e5,w5⟩=>?_
  subst e5
  rw[zfK (by unfold I64;omega) (by omega)]
  have eb:l[k]*16384/sumZ l=baseT l k:=by unfold baseT;rw[eg]
  have er:restT l k=l[k]*16384-baseT l k*sumZ l:=by unfold restT;rw[←eb,eg,Int.emod_def,Int.mul_comm (sumZ l)]
  rw[eb]
  have hbt:=zj0 G k
  have hlk:=zsC G k
  have hrb:=zrL G k
  refine(T.more w5).push_x (by rw[List.length_map,List.length_range];omega) (by rw[List.length_map,List.length_range];omega) fun x' h5 T=>?_
  try simp only[go_sem]
  have hbs:baseT l k*sumZ l=l[k]*16384-restT l k:=by rw[er];omega
  have hrs:restT l k<sumZ l:=hrb.2
  have hsm:sumZ l≤1152921504606846976:=by
   have h6:=psum_bd G l.length
   rw[←sumZ_psum G]at h6
   have:(l.length:Int)*1099511627776≤1048576*1099511627776:=by omega
   omega
  rw[w64 (n:=baseT l k*sumZ l) (by omega) (by omega),←er,w64 (n:=restT l k) (by omega) (by omega)]
  refine T.swap.push_x (by rw[List.length_map,List.length_range];omega) (by rw[List.length_map,List.length_range];omega) fun y' h6 T=>?_
  try simp only[go_sem]
  rw[w64 (n:=leftK l k-baseT l k) (by omega) (by omega),w64 (n:=(k:Int)+1) (by omega) (by omega)]
  refine Hag (x',y') h6 hk' ?_
  rw[zfO _ (k+1) k (by omega),zfO _ (k+1) k (by omega)]
  exact T.swap
 have hkn:k=l.length:=by omega
 subst hkn
 obtain⟨L0,L1⟩:=left_bd G
 obtain⟨m,hm⟩:∃m:Nat,leftT l=(m:Int):=⟨(leftT l).toNat,by omega⟩
 have hlm:leftK l l.length=(m:Int):=hm
 rw[hlm]
 have o1:=ow_own T.ox
 have o2:=ow_own T.oy
 rw[List.length_map,List.length_range,List.map_map]at o1 o2
 have dxy:=T.dis
 have nx:=T.nx
 have ny:=T.ny
 have E1:=T.ext
 obtain⟨ya,ycap,ey⟩:=o2.isSl
 have ey:y=.slice ya l.length ycap:=ey
 have ey2:zaf y=some (.int .i64 (l.length:Int)):=by rw[ey];rfl
 refine zaF (α:=Unit) m 0 (fun k _=>[.int .i64 ((m:Int)-(k:Int))])
  (fun k _ h'=>Ext h h'∧Own 1 h' x l.length ((List.range l.length).map fun i=>Value.int .i64 (baseT l i+(if(rank (restT l) l.length i:Int)<(k:Int)then 1 else 0)))∧Own 1 h' y l.length ((List.range l.length).map fun i=>Value.int .i64 (zdP (restT l) l.length k i)))
  () (by simp) (Nat.zero_le _) ⟨E1,by
   rw[zax (f:=fun i=>Value.int .i64 (baseT l i)) (fun i hi=>by rw[if_neg (by omega),Int.add_zero])];exact o1,by rw[picked_zero];exact o2⟩ fun k _ h2 again2 ρj2 _ hk ⟨E2,q1,q2⟩ Hag2=>?_
 simp only[go_sem]
 refine zac (fun h5=>?_) (fun h5=>?_)
 ·have hkm:k<m:=by omega
  rw[ey2,zaa]
  have hr0:∀i,i<l.length→0≤restT l i:=fun i _=>(zrL G i).1
  refine zaF (α:=Nat) l.length 0 (fun j b=>[.int .i64 (b:Int),.int .i64 (j:Int)])
   (fun j b h'=>h'=h2∧b<l.length∧(∀i,i<j→zdP (restT l) l.length k i≤zdP (restT l) l.length k b)∧(∀i,i<b→zdP (restT l) l.length k i<zdP (restT l) l.length k b)∧b≤j) 0 rfl (Nat.zero_le _)
   ⟨rfl,hn0,fun i hi=>absurd hi (by omega),fun i hi=>absurd hi (by omega),Nat.le_refl _⟩ fun j b h3 again3 ρj3 _ hj ⟨eh,hb,p1,p2,hbj⟩ Hag3=>?_
  have eh:=eh.symm
  subst eh
  simp only[go_sem]
  refine zac (fun h6=>?_) (fun h6=>?_)
  ·have hj':j<l.length:=by omega
   obtain⟨pj,j1,j2,_⟩:=Own.at_map q2 (k:=.i64) hj'
   obtain⟨pb,b1,b2,_⟩:=Own.at_map q2 (k:=.i64) hb
   simp only[go_sem,j1,j2,b1,b2]
   rw[w64 (n:=(j:Int)+1) (by omega) (by omega)]
   refine zac (fun h7=>?_) (fun h7=>?_)
   ·refine Hag3 j h2 hj' ⟨rfl,hj',fun i hi=>?_,fun i hi=>?_,by omega⟩
    ·by_cases hij:i=j
     ·rw[hij];exact Int.le_refl _
     ·have:=p1 i (by omega);omega
    ·have:=p1 i hi;omega
   ·refine Hag3 b h2 hj' ⟨rfl,hb,fun i hi=>?_,p2,by omega⟩
    by_cases hij:i=j
    ·rw[hij];omega
    ·exact p1 i (by omega)
  have hjn:j=l.length:=by omega
  subst hjn
  have hrk:=best_rank hr0 (k:=k) (by omega) hb p1 p2
  obtain⟨px,x1,x2,x3⟩:=Own.at_map q1 (k:=.i64) hb
  simp only[go_sem,x1,x2]
  have hbt:=zj0 G b
  rw[w64 (n:=baseT l b+(if(rank (restT l) l.length b:Int)<(k:Int)then 1 else 0)+1) (by split<;>omega) (by split<;>omega)]
  refine x3 _ _ fun h3 o1a f3=>?_
  have o2a:=q2.fr f3 fun c hc hx=>dxy c hx hc
  obtain⟨py,y1,y2,y3⟩:=Own.at_map o2a (k:=.i64) hb
  simp only[go_sem,y1]
  refine y3 _ _ fun h4 o2b f4=>?_
  have o1b:=o1a.fr f4 fun c hc hy=>dxy c hc hy
  rw[w64 (by omega) (by omega),show(m:Int)-(k:Int)-1=(m:Int)-((k+1:Nat):Int)by omega]
  refine Hag2 () h4 hkm ⟨(E2.then_fr f3 nx).then_fr f4 ny,?_,?_⟩
  ·rw[zax (f:=fun j=>Value.int .i64 (if j=b then baseT l b+(if(rank (restT l) l.length b:Int)<(k:Int)then 1 else 0)+1 else baseT l j+if(rank (restT l) l.length j:Int)<(k:Int)then 1 else 0)) (fun i hi=>by
    congr 1
    by_cases he:i=b
    ·rw[if_pos he,he,if_pos (by omega),if_neg (by omega)];omega
    ·rw[if_neg he]
     have hne:rank (restT l) l.length i≠k:=fun e=>he (zoA hi hb (e.trans hrk.symm))
     by_cases h8:rank (restT l) l.length i<k
     ·rw[if_pos (by omega),if_pos (by omega)]
     ·rw[if_neg (by omega),if_neg (by omega)])]
   exact o1b
  ·rw[zax (f:=fun j=>Value.int .i64 (if j=b then-1 else zdP (restT l) l.length k j)) (fun i hi=>by rw[picked_succ hb hrk hi])]
   exact o2b
 ·have:k=m:=by omega
  subst this
  refine⟨x,rfl,⟨(zfN l).map fun n=>Value.int .i64 n,?_,fun c _=>id,fun i hi=>?_⟩,E2,nx⟩
  ·rw[zfI]
   unfold zfN
   rw[List.map_map]
   simp only[←hm]at q1
   exact q1
  ·have e:Rp.el (Rp.int .i64).w ((zfN l).map fun n=>Value.int .i64 n) i=[Value.int .i64 (zfN l)[i]]:=by
    have:=Rp.el_one (ds:=(zfN l).map fun n=>Value.int .i64 n) (i:=i) (by simpa using hi)
    rw[List.getElem_map]at this
    exact this
   exact e
end Go.Proofs.YtcoimlclclnlkaaGreatDoor
namespace Go.Proofs.YtcoimlclclnlkaaGreatDoor
open Go Go.Crisp
attribute [local irreducible] FCall rowK newK stK iteK vK qK drawK gK joinK loopK mkK appK cpyK zoB zmd bsK
open _root_.Go.Proofs.Tryz
theorem binSl_nil (a:Option Addr)(n c:Nat):binV .sl .eql (.slice a n c) (.slice none 0 0)=some (.bool a.isNone):=by cases a<;>rfl
theorem c_Clone64 {h:Heap}{Z:Nat→Prop}{v:Value}{l:List Int}(H:Rp.Sl rI Z h v l)(hl:l.length≤1000000000):
  FCall prog zaJ #[v] h fun r h'=>Rp.Sl rI (fun b=>h.size≤b) h' r l∧Ext h h':=by
 apply zcq
 unfold zbi
 obtain⟨ds,⟨hl1,a,cap,rfl,hs⟩,hz,he⟩:=H
 rw[binSl_nil,zaa]
 cases a with
 | none=>
  have:l=[]:=by
   rcases hs with hs|⟨b,o,h0,_⟩
   ·subst hs
    have h2:([]:List Value).length=l.length*1:=hl1
    exact List.eq_nil_of_length_eq_zero (by simpa using h2.symm)
   ·cases h0
  subst this
  simp only[Option.isNone_none,go_sem]
  exact⟨Rp.Sl.nil,Ext.refl _⟩
 | some a=>
  simp only[Option.isNone_some,go_sem]
  refine zbn (c':=#[]) rfl fun b h1 r1 e1 n1=>?_
  have O:Rp.Ow rI (fun _=>False) h1 (.slice (some ⟨b,0,none⟩) 0 0) []:=⟨[],.inr ⟨b,0,[],_,rfl,Nat.le_refl _,rfl,rfl,r1⟩,fun b hb hb'=>hb',fun i hi=>absurd hi (by simp)⟩
  have S1:SlC 1 h1 (.slice (some a) l.length cap) l.length ds:=SlC.ext ⟨hl1,some a,cap,rfl,hs⟩ e1
  refine Rp.app_ow (e:=rI) (l:=[]) (l2:=l) O S1 (fun i hi=>he i hi) rfl (by simp;omega) (by simp;omega) (fun b hb=>hb.elim) fun v2 h2 O2 f2 n2=>?_
  rw[List.nil_append]at O2
  have nb:∀k,blk (.slice (some ⟨b,0,none⟩) 0 0) k→h.size≤k:=fun k hk=>by have:k=b:=hk;omega
  refine⟨O2.sl.mono fun k hk hz=>?_,e1.then_fr f2 nb⟩
  rcases hz with hz|hz
  ·exact hz.elim
  ·rcases n2 k hz with h3|h3
   ·exact nb k h3
   ·exact Nat.le_trans e1.1 h3
end Go.Proofs.YtcoimlclclnlkaaGreatDoor
namespace Go.Crisp
open Go
def za8 (g:Nat→Int):Nat→Int
 |0=>0
 |k+1=>if za8 g k≠0 then za8 g k else g k
theorem zmG {g:Nat→Int} {k n:Nat} (h:za8 g k≠0) (hk:k≤n):za8 g n=za8 g k:=by
  induction n with
  | zero => have:k=0:=by omega
            rw[this]
  | succ n ih=>
    rcases Nat.lt_or_ge n k with h1|h1
    · have:k=n+1:=by omega
      rw[this]
    · have:=ih h1
      show(if za8 g n≠0 then za8 g n else g n)=_
      rw[this,if_pos h]
end Go.Crisp
namespace Go.Proofs.YtcoimlclclnlkaaGreatDoor
open Go Go.Crisp
attribute [local irreducible] FCall rowK newK stK iteK vK qK drawK gK joinK loopK mkK appK cpyK zoB zmd bsK clK
open _root_.Go.Proofs.Tryz
def zav (n:Int):Prop:=1≤n∧n≤65536
instance (n:Int):Decidable (zav n):=by unfold zav;infer_instance
theorem fNameNil (f:Int):fName f=[]↔ ¬(0≤f∧f<3):=by
 unfold fName
 split
 ·constructor
  ·intro h;cases h
  ·intro h;omega
 split
 ·constructor
  ·intro h;cases h
  ·intro h;omega
 split
 ·constructor
  ·intro h;cases h
  ·intro h;omega
 ·constructor
  ·intro _;omega
  ·intro _;rfl
def zbE (f n m:Int):Int:=if¬(0≤f∧f<3)∨¬zav n∨¬zav m then 6 else za8 (fun i=>za0 (zbb f n m i)) m.toNat
def zb8 (f n m:Int):Tbl:=⟨n,(List.range m.toNat).map fun i:Nat=>(zbD f n m i,zaG (zbb f n m i))⟩
theorem zhH (f n m i:Int):∀x∈zbb f n m i,I64 x:=by
 unfold zbb
 split
 ·intro x hx
  unfold rowW at hx
  obtain⟨k,_,rfl⟩:=List.mem_map.1 hx
  exact weighZ_I64 _ _ _ _ _
 ·simp
theorem zqS (f n m i:Int):(zbb f n m i).length<4611686018427387904:=by
 unfold zbb
 split
 ·rename_i h
  unfold rowW
  rw[List.length_map,List.length_range]
  have:=low_bd h
  omega
 ·simp
theorem zfL {l:List Int}(h64:∀x∈l,I64 x):(zaG l).length≤1048576∧∀x∈zaG l, -67108864≤x∧x≤67108865:=by
 unfold zaG
 split
 ·rename_i h
  have G:=goodW h64 h
  exact⟨by rw[zfI];exact G.len,tapsOf_bd G⟩
 ·simp
theorem zp2 {l:List Int}(h64:∀x∈l,I64 x):∀x∈zaG l,I64 x:=fun x hx=>by
 have:=(zfL h64).2 x hx
 unfold I64;omega
def TblOut (h:Heap)(code:Int)(t:Tbl)(r:Value)(h':Heap):Prop:=∃p,r=.tuple #[p,.int .i64 code]∧Ext h h'∧(code≠0→p=.pointer none)∧(code=0→IsTbl (fun c=>h.size≤c∧c<h'.size) h' p t)
theorem zsS {h:Heap}(G:GlobB h){f n m:Int}(hf:I64 f)(hn:I64 n)(hm:I64 m):FCall prog zdm #[.int .i64 f,.int .i64 n,.int .i64 m] h (TblOut h (zbE f n m) (zb8 f n m)):=by
 apply zpe
 unfold zi2
 refine(c_rawName G).mono fun v1 h1 ⟨e1,w1⟩=>?_
 subst e1 w1
 rw[S_nil,zsY,zaa]
 unfold zbE
 have hnm:=fNameNil f
 have bad:(¬(0≤f∧f<3)∨¬zav n∨¬zav m)→TblOut h1 (if¬(0≤f∧f<3)∨¬zav n∨¬zav m then 6 else za8 (fun i=>za0 (zbb f n m i)) m.toNat) (zb8 f n m) (.tuple #[.pointer none,.int .i64 6]) h1:=by
  intro hb
  rw[if_pos hb]
  exact⟨_,rfl,Ext.refl _,fun _=>rfl,fun h=>by cases h⟩
 by_cases h0:fName f=[]
 ·have hbad:=bad (.inl (hnm.1 h0))
  simp only[go_sem,h0]
  exact hbad
 have hf3:0≤f∧f<3:=Decidable.of_not_not fun h=>h0 (hnm.2 h)
 simp only[go_sem,h0]
 refine zld.mono fun v1 h2 ⟨e1,w1⟩=>?_
 subst e1 w1
 by_cases hsn:¬zav n
 ·have hbad:=bad (.inr (.inl hsn))
  have q:(1≤n∧n≤65536)=False:=eq_false hsn
  simp only[go_sem,q]
  exact hbad
 have hsn:zav n:=Decidable.of_not_not hsn
 have q:(1≤n∧n≤65536)=True:=eq_true hsn
 simp only[go_sem,q]
 refine zld.mono fun v1 h3 ⟨e1,w1⟩=>?_
 subst e1 w1
 by_cases hsm:¬zav m
 ·have hbad:=bad (.inr (.inr hsm))
  have q:(1≤m∧m≤65536)=False:=eq_false hsm
  simp only[go_sem,q]
  exact hbad
 have hsm:zav m:=Decidable.of_not_not hsm
 have q:(1≤m∧m≤65536)=True:=eq_true hsm
 simp only[go_sem,q,fill_41 (a:=.int .i64 n) rfl,Option.map_some]
 rw[if_neg (by rintro(h|h|h);exact h hf3;exact h hsn;exact h hsm)]
 clear bad q
 refine zag fun b h4 r4 e4 n4=>?_
 have hsn':=hsn
 have hsm':=hsm
 unfold zav at hsn' hsm'
 have lines_len:∀k:Nat,((List.range k).map fun i:Nat=>(zbD f n m i,zaG (zbb f n m i))).length=k:=fun k=>by simp
 refine zaF m.toNat 0 (fun k (_:Unit)=>[.int .i64 (k:Int)]) (fun k _ h'=>za8 (fun i=>za0 (zbb f n m i)) k=0∧∃Z lv,TblAt h3 Z h' b 154 lv n ((List.range k).map fun i:Nat=>(zbD f n m i,zaG (zbb f n m i)))) () rfl (Nat.zero_le _)
  ⟨rfl,fun _=>False,_,e4,r4,Rp.Ow.nil,n4,fun c hc=>hc.elim,id,id,fun c hc=>hc.elim⟩ fun k _ h5 again ρj _ hk ⟨hg,Z,lv,T⟩ Hag=>?_
 try simp only[go_sem]
 refine zac (fun h6=>?_) (fun h6=>?_)
 ·have hk':k<m.toNat:=by omega
  have G5:=G.ext T.ext
  refine(c_rawRow G5).mono fun w h7 ⟨v,e,Nw⟩=>?_
  subst e
  try simp only[go_sem]
  refine(zlf Nw.sl (zhH _ _ _ _) (zqS _ _ _ _)).mono fun w h8 ⟨u,e,Nu⟩=>?_
  subst e
  try simp only[go_sem]
  refine zac (fun h9=>?_) (fun h9=>?_)
  ·have hc:za8 (fun i=>za0 (zbb f n m i)) (k+1)=za0 (zbb f n m k):=by
    show(if za8 (fun i=>za0 (zbb f n m i)) k≠0 then _ else _)=_
    rw[if_neg (by rw[hg];simp)]
   have hs:=zmG (g:=fun i=>za0 (zbb f n m i)) (k:=k+1) (n:=m.toNat) (by rw[hc];exact h9) hk'
   rw[hs,hc]
   exact⟨_,rfl,(T.ext.trans Nw.2.1).trans Nu.2.1,fun _=>rfl,fun h=>absurd h h9⟩
  ·have h9:za0 (zbb f n m k)=0:=Decidable.of_not_not h9
   have bd:=zfL (zhH f n m k)
   have T2:TblAt h3 (fun c=>Z c∨blk u c) h8 b 154 lv n _:=T.more (Z':=fun c=>Z c∨blk u c) (Nw.2.1.trans Nu.2.1) (fun c=>.inl) fun c hc hz=>by
    rcases hc with hc|hc
    ·exact absurd hc hz
    ·exact⟨Nat.le_trans Nw.2.1.1 (Nu.2.2 c hc),Nu.1.lt hc⟩
   refine(zrd T2 (Nu.sl.mono fun c _ hc=>.inr hc) (zp2 (zhH _ _ _ _)) (by omega) (by rw[lines_len];omega)).mono fun w h10 ⟨lv',T3,_⟩=>?_
   rw[w64 (by omega) (by omega)]
   refine Hag () h10 hk' ⟨?_,fun c=>Z c∨blk u c,lv',?_⟩
   ·show(if za8 (fun i=>za0 (zbb f n m i)) k≠0 then _ else _)=_
    rw[if_neg (by rw[hg];simp)]
    exact h9
   ·rw[List.range_succ,List.map_append]
    exact T3
 ·have:k=m.toNat:=by omega
  subst this
  exact⟨_,by rw[hg],T.ext,fun h=>absurd hg h,fun _=>T.done⟩
def zdR (l:List Int)(n:Int):Int:=if¬zav n then 6 else if l.length%2=0 then 7 else za0 l
def zej (l:List Int)(n:Int):Tbl:=⟨n,(List.range n.toNat).map fun i:Nat=>((i:Int)-(l.length/2:Nat),zaG l)⟩
theorem c_Filter {h:Heap}{Z:Nat→Prop}{v:Value}{l:List Int}{n:Int}(H:SlI Z h v l)(h64:∀x∈l,I64 x)(hl:l.length<4611686018427387904)(hn:I64 n):FCall prog zeE #[v,.int .i64 n] h (TblOut h (zdR l n) (zej l n)):=by
 apply zpf
 unfold zi3
 refine zld.mono fun v1 h1 ⟨e1,w1⟩=>?_
 subst e1 w1
 unfold zdR
 obtain⟨a,cap,e⟩:=H.isSl
 have e2:zaf v=some (.int .i64 (l.length:Int)):=by rw[e];rfl
 by_cases hsn:¬zav n
 ·rw[if_pos hsn]
  have q:(1≤n∧n≤65536)=False:=eq_false hsn
  simp only[go_sem,q]
  exact⟨_,rfl,Ext.refl _,fun _=>rfl,fun h=>by cases h⟩
 rw[if_neg hsn]
 have hsn:zav n:=Decidable.of_not_not hsn
 have q:(1≤n∧n≤65536)=True:=eq_true hsn
 have hsn':=hsn
 unfold zav at hsn'
 simp only[go_sem,q,e2]
 rw[zbd _ _ _ _ (by omega),zaa,Int.tmod_eq_emod_of_nonneg (by omega)]
 simp only[go_sem]
 refine zac (fun h0=>?_) (fun h0=>?_)
 ·rw[if_pos (by omega)]
  exact⟨_,rfl,Ext.refl _,fun _=>rfl,fun h=>by cases h⟩
 rw[if_neg (by omega)]
 refine(zlf H h64 hl).mono fun w h2 ⟨u,e,Nu⟩=>?_
 subst e
 simp only[go_sem]
 refine zac (fun h9=>?_) (fun h9=>?_)
 ·exact⟨_,rfl,Nu.2.1,fun _=>rfl,fun h=>absurd h h9⟩
 have h9:za0 l=0:=Decidable.of_not_not h9
 have hal:(zaG l).length=l.length:=by unfold zaG;rw[if_pos h9,zfI]
 have bd:=zfL h64
 simp only[fill_41 (a:=.int .i64 n) rfl,Option.map_some,zaa,zaB]
 refine zag fun b h4 r4 e4 n4=>?_
 have lines_len:∀k:Nat,((List.range k).map fun i:Nat=>((i:Int)-(l.length/2:Nat),zaG l)).length=k:=fun k=>by simp
 refine zaF n.toNat 0 (fun k (_:Unit)=>[.int .i64 (k:Int)]) (fun k _ h'=>∃lv,TblAt h1 (blk u) h' b 154 lv n ((List.range k).map fun i:Nat=>((i:Int)-(l.length/2:Nat),zaG l))∧SlI (blk u) h' u (zaG l)) () rfl (Nat.zero_le _)
  ⟨_,⟨Nu.2.1.trans e4,r4,Rp.Ow.nil,Nat.le_trans Nu.2.1.1 n4,fun c hc=>hc.elim,fun hc=>by have:=Nu.1.lt hc;omega,id,fun c hc=>⟨Nu.2.2 c hc,by have:=Nu.1.lt hc;have:=e4.1;omega⟩⟩,Nu.sl.ext e4⟩ fun k _ h5 again ρj _ hk ⟨lv,T,Hu⟩ Hag=>?_
 try simp only[go_sem]
 refine zac (fun h6=>?_) (fun h6=>?_)
 ·have hk':k<n.toNat:=by omega
  obtain⟨au,cu,eu⟩:=Hu.isSl
  have eu2:zaf u=some (.int .i64 (l.length:Int)):=by rw[eu,hal];rfl
  simp only[go_sem,eu2]
  rw[zez _ _ _ _ (by omega),zaa,Int.tdiv_eq_ediv_of_nonneg (by omega),w64 (n:=(l.length:Int)/2) (by omega) (by omega)]
  simp only[go_sem]
  rw[w64 (n:=(k:Int)-(l.length:Int)/2) (by omega) (by omega),show(k:Int)-(l.length:Int)/2=(k:Int)-(l.length/2:Nat)by omega]
  refine(zrd T Hu (zp2 h64) (by omega) (by rw[lines_len];omega)).mono fun w h10 ⟨lv',T3,F3⟩=>?_
  try simp only[go_sem]
  rw[w64 (by omega) (by omega)]
  have hd:∀c,blk u c→¬(c=b∨blk lv c):=fun c hc hm=>by
   rcases hm with rfl|hm
   ·exact T.zb hc
   ·obtain⟨ds,_,h2,_⟩:=T.ow
    exact h2 c hm hc
  refine Hag () h10 hk' ⟨lv',?_,Hu.fr F3 fun c _ hc=>hd c hc⟩
  rw[List.range_succ,List.map_append]
  exact T3
 ·have:k=n.toNat:=by omega
  subst this
  exact⟨_,by rw[h9],T.ext,fun h=>absurd h9 h,fun _=>T.done⟩
theorem c_From {Z:Nat→Prop}{h:Heap}{p:Value}{t:Tbl}(H:IsTbl Z h p t):FCall prog zbr #[p] h fun r h'=>r=.int .i64 t.n∧h'=h:=by
 apply zk2
 unfold zfU
 obtain⟨b,lv,rfl,c0,c1,c2,c3,hl,_⟩:=H.open
 simp only[go_sem,c0]
 exact⟨by simp,by simp⟩
theorem c_To {Z:Nat→Prop}{h:Heap}{p:Value}{t:Tbl}(H:IsTbl Z h p t):FCall prog zas #[p] h fun r h'=>r=.int .i64 (t.lines.length:Int)∧h'=h:=by
 apply zm4
 unfold zhr
 obtain⟨b,lv,rfl,c0,c1,c2,c3,hl,_⟩:=H.open
 obtain⟨a,cap,e⟩:=hl.isSl
 have e2:zaf lv=some (.int .i64 (t.lines.length:Int)):=by rw[e];rfl
 simp only[go_sem,c1,e2]
 exact⟨by simp,by simp⟩
theorem c_Most {Z:Nat→Prop}{h:Heap}{p:Value}{t:Tbl}(H:IsTbl Z h p t):FCall prog zbq #[p] h fun r h'=>r=.int .i64 (mostL t.lines)∧h'=h:=by
 apply zk0
 unfold zfS
 obtain⟨b,lv,rfl,c0,c1,c2,c3,hl,_⟩:=H.open
 simp only[go_sem,c2]
 exact⟨by simp,by simp⟩
structure _root_.Go.Crisp.Tbl.Wf (t:Tbl):Prop where
 len:t.lines.length≤65536
 taps:∀x∈t.lines,x.2.length≤1048576∧ -70368744177664≤x.1∧x.1≤70368744177664
def lineT (t:Tbl)(i:Int):Int×List Int:=if 0≤i then t.lines.getD i.toNat (0,[])else(0,[])
theorem zog {Z:Nat→Prop}{h:Heap}{p:Value}{t:Tbl}(H:IsTbl Z h p t)(W:t.Wf){i:Int}:FCall prog zai #[p,.int .i64 i] h fun r h'=>∃u,r=.agg #[.int .i64 (lineT t i).1,u]∧SlI (fun b=>h.size≤b∧b<h'.size) h' u (lineT t i).2∧Ext h h':=by
 apply zk1
 unfold zfT
 refine zag fun bv h1 r1 e1 n1=>?_
 obtain⟨b,lv,rfl,c0,c1,c2,c3,hl,_⟩:=IsTbl.open (H.ext e1)
 obtain⟨a,cap,e⟩:=hl.isSl
 have e2:zaf lv=some (.int .i64 (t.lines.length:Int)):=by rw[e];rfl
 simp only[go_sem,c1,e2]
 unfold lineT
 refine zac (fun h0=>?_) (fun h0=>?_)
 ·have e3:(if 0≤i then t.lines.getD i.toNat (0,[])else((0,[]):Int×List Int))=(0,[]):=by
   split
   ·rw[List.getD_eq_getElem?_getD,List.getElem?_eq_none (by omega)];rfl
   ·rfl
  rw[e3,zcV,Option.map_some,zaa]
  refine zbA (l:=[.int .i64 0,.slice none 0 0]) r1 rfl (zad rfl (zad rfl zaq)) rfl fun h2 r2 u2=>?_
  rw[zap r2 2 rfl,zaa]
  exact⟨_,rfl,Rp.Sl.nil,e1.upd n1 u2⟩
 ·obtain⟨k,rfl⟩:∃k:Nat,i=(k:Int):=⟨i.toNat,by omega⟩
  have hk:k<t.lines.length:=by omega
  have e3:(if(0:Int)≤(k:Int)then t.lines.getD (k:Int).toNat (0,[])else((0,[]):Int×List Int))=t.lines[k]:=by
   rw[if_pos (by omega),Int.toNat_natCast,List.getD_eq_getElem?_getD,List.getElem?_eq_getElem hk];rfl
  rw[e3]
  obtain⟨b2,o2,cs,i1,i2,i3,⟨u,rfl,hu⟩,hz⟩:=Rp.Sl.atp (e:=rLine) hl (show 0<2 by omega) (k:=.i64) hk
  have i1:idxV 2 lv (.int .i64 (k:Int))=some (.pointer (some ⟨b2,o2,none⟩)):=i1
  have j0:=i3 0 (by simp)
  have j1:=i3 1 (by simp)
  simp only[List.getElem_cons_zero,List.getElem_cons_succ]at j0 j1
  refine zaj (fun h'=>Ext h1 h') (Ext.refl _) ?_
  refine zae lv (fun h' e=>e.cell c1) ?_
  rw[i1]
  simp only[go_sem]
  refine zae _ (fun h' e=>e.cell j0) ?_
  refine zae lv (fun h' e=>e.cell c1) ?_
  rw[i1]
  simp only[go_sem]
  refine zae _ (fun h' e=>e.cell j1) ?_
  have hlen:=(W.taps _ (List.getElem_mem hk)).1
  refine(c_Clone64 hu (by omega)).mono fun w h3 ⟨hw,e4⟩=>?_
  refine⟨e4,?_⟩
  have one:=hw.one
  rw[zpL (a:=.int .i64 t.lines[k].1) rfl one,Option.map_some,zaa]
  refine zbA (l:=[.int .i64 t.lines[k].1,w]) (e4.row r1) rfl (zad rfl (zad one zaq)) rfl fun h5 r5 u5=>?_
  rw[zap r5 2 rfl,zaa]
  have hb:=zaz r1
  refine⟨w,rfl,?_,(e1.trans e4).upd n1 u5⟩
  obtain⟨ds,hs,hz,he⟩:=hw.fr (M:=fun c=>c=bv) u5.fr fun c hc hz he=>by have:=he▸hz;omega
  refine⟨ds,hs,fun h0 c hc=>⟨?_,?_⟩,fun i hi=>he i hi⟩
  ·have:=hz h0 c hc
   have:=e1.1
   omega
  ·exact hs.lt h0 hc
def zo2 (ls:List (Int×List Int))(x0:Int):Int:=ls.foldl (fun m x=>min m x.1) x0
def zqU (ls:List (Int×List Int))(x0:Int):Int:=ls.foldl (fun m x=>max m (x.1+(x.2.length:Int))) x0
def segT (t:Tbl)(i k:Nat):List (Int×List Int):=(t.lines.drop i).take (k-i)
def zkQ (t:Tbl)(i k:Int):Int×Int:=
 if(min k (t.lines.length:Int))≤max i 0 then(0,0)
 else let i':=(max i 0).toNat;let k':=(min k (t.lines.length:Int)).toNat;let x0:=(t.lines.getD i' (0,[])).1
  (zo2 (segT t i' k') x0,zqU (segT t i' k') x0-zo2 (segT t i' k') x0)
theorem zkR {β γ:Type}(f:γ→β→γ)(l:List β){k:Nat}(h:k<l.length)(s:γ):(l.take (k+1)).foldl f s=f ((l.take k).foldl f s) l[k]:=by
 rw[List.take_succ_eq_append_getElem h,List.foldl_append];rfl
theorem reach_bd {ls:List (Int×List Int)}{x0:Int}(h0: -70368744177664≤x0∧x0≤70368744177664)(h:∀x∈ls,x.2.length≤1048576∧ -70368744177664≤x.1∧x.1≤70368744177664):
  (-70368744177664≤zo2 ls x0∧zo2 ls x0≤70368744177664)∧ -70368744177664≤zqU ls x0∧zqU ls x0≤70369000000000:=by
 unfold zo2 zqU
 have k1:∀(ls:List (Int×List Int)) (m:Int),(∀x∈ls,x.2.length≤1048576∧ -70368744177664≤x.1∧x.1≤70368744177664)→ -70368744177664≤m∧m≤70368744177664→ -70368744177664≤ls.foldl (fun m x=>min m x.1) m∧ls.foldl (fun m x=>min m x.1) m≤70368744177664:=by
  intro ls
  induction ls with
  |nil=>intro m _ h;exact h
  |cons x ls ih=>intro m h hm;have:=h x (by simp);exact ih _ (fun y hy=>h y (by simp[hy])) (by dsimp only;omega)
 have k2:∀(ls:List (Int×List Int)) (m:Int),(∀x∈ls,x.2.length≤1048576∧ -70368744177664≤x.1∧x.1≤70368744177664)→ -70368744177664≤m∧m≤70369000000000→ -70368744177664≤ls.foldl (fun m x=>max m (x.1+(x.2.length:Int))) m∧ls.foldl (fun m x=>max m (x.1+(x.2.length:Int))) m≤70369000000000:=by
  intro ls
  induction ls with
  |nil=>intro m _ h;exact h
  |cons x ls ih=>intro m h hm;have:=h x (by simp);exact ih _ (fun y hy=>h y (by simp[hy])) (by dsimp only;omega)
 exact⟨k1 ls x0 h h0,k2 ls x0 h (by omega)⟩
theorem c_Reach {Z:Nat→Prop}{h:Heap}{p:Value}{t:Tbl}(H:IsTbl Z h p t)(W:t.Wf){i k:Int}(hi:I64 i)(hk:I64 k):FCall prog zbR #[p,.int .i64 i,.int .i64 k] h fun r h'=>r=.tuple #[.int .i64 (zkQ t i k).1,.int .i64 (zkQ t i k).2]∧Ext h h':=by
 apply zkb
 unfold zfj
 obtain⟨b,lv,rfl,c0,c1,c2,c3,hl,_,_,⟨la,ln,lc,el,hlc⟩⟩:=H.open
 have e2:zaf lv=some (.int .i64 (t.lines.length:Int)):=by
  obtain⟨a,cap,e⟩:=hl.isSl
  rw[e];rfl
 simp only[go_sem,c1,e2]
 unfold zkQ
 refine zac (fun h0=>?_) (fun h0=>?_)
 ·rw[if_pos h0];exact⟨rfl,Ext.refl _⟩
 rw[if_neg h0]
 obtain⟨i',hi'⟩:∃i':Nat,max i 0=(i':Int):=⟨(max i 0).toNat,by omega⟩
 obtain⟨k',hk'⟩:∃k':Nat,min k (t.lines.length:Int)=(k':Int):=⟨(min k (t.lines.length:Int)).toNat,by omega⟩
 simp only[hi',hk',Int.toNat_natCast]at h0 ⊢
 have hik:i'<k':=by omega
 have hkl:k'≤t.lines.length:=by omega
 have hil:i'<t.lines.length:=by omega
 have eg:t.lines.getD i' (0,[])=t.lines[i']:=by rw[List.getD_eq_getElem?_getD,List.getElem?_eq_getElem hil];rfl
 rw[eg]
 obtain⟨b2,o2,cs,q1,q2,q3,⟨u,rfl,hu⟩,hz⟩:=Rp.Sl.atp (e:=rLine) hl (show 0<2 by omega) (k:=.i64) hil
 have q1:idxV 2 lv (.int .i64 (i':Int))=some (.pointer (some ⟨b2,o2,none⟩)):=q1
 have j0:=q3 0 (by simp)
 simp only[List.getElem_cons_zero]at j0
 obtain⟨lv',s1,s2⟩:=hl.part (show i'≤k' by omega) hkl el hlc (k:=.i64) (k':=.i64)
 have s1:slcV 2 lv (some (.int .i64 (i':Int))) (some (.int .i64 (k':Int)))=some lv':=s1
 simp only[go_sem,q1,j0,c1,s1]
 have hseg:(t.lines.drop i').take (k'-i')=segT t i' k':=rfl
 rw[hseg]at s2
 have hsl:(segT t i' k').length=k'-i':=by unfold segT;rw[List.length_take,List.length_drop];omega
 have hmem:∀x∈segT t i' k',x∈t.lines:=fun x hx=>List.mem_of_mem_drop (List.mem_of_mem_take hx)
 obtain⟨a3,c3',e3⟩:=s2.isSl
 have e4:zaf lv'=some (.int .i64 ((segT t i' k').length:Int)):=by rw[e3];rfl
 rw[e4,zaa]
 generalize hx0:t.lines[i'].1=x0
 have hw0:=W.taps _ (List.getElem_mem hil)
 rw[hx0]at hw0
 generalize hsg:segT t i' k'=sg at*
 refine zaF sg.length 0 (fun k (_:Unit)=>[.int .i64 (zo2 (sg.take k) x0),.int .i64 (zqU (sg.take k) x0),.int .i64 (k:Int)]) (fun k _ h'=>Ext h h') () rfl (Nat.zero_le _) (Ext.refl _) fun k _ h2 again ρj _ hk E2 Hag=>?_
 simp only[go_sem]
 refine zac (fun h3=>?_) (fun h3=>?_)
 ·have hk2:k<sg.length:=by omega
  obtain⟨p2,cs2,z1,z2,⟨u2,rfl,hu2⟩⟩:=Rp.Sl.atw (e:=rLine) (s2.ext E2) (show 0<2 by omega) (k:=.i64) hk2
  have z1:idxV 2 lv' (.int .i64 (k:Int))=some p2:=z1
  have z2:ldsV 2 h2 p2=some (.agg #[.int .i64 sg[k].1,u2]):=z2
  rw[z1,zaa,z2,zaa]
  refine zbh (cs:=[.int .i64 sg[k].1,u2]) rfl (zad rfl (zad hu2.one zaq)) rfl fun bv h4 r4 e5 n5=>?_
  obtain⟨au,cu,eu⟩:=hu2.isSl
  have eu2:zaf u2=some (.int .i64 (sg[k].2.length:Int)):=by rw[eu];rfl
  have d0:zah h4 ⟨bv,0,none⟩=some (.int .i64 sg[k].1):=zab r4
  have d1:zah h4 ⟨bv,1,none⟩=some u2:=zab r4
  have hw:=W.taps _ (hmem _ (List.getElem_mem hk2))
  simp only[go_sem,d0,d1,eu2]
  rw[w64 (n:=sg[k].1+(sg[k].2.length:Int)) (by omega) (by omega),w64 (n:=(k:Int)+1) (by have:=W.len;omega) (by have:=W.len;omega)]
  have:=Hag () h4 hk2 (E2.trans e5)
  unfold zo2 zqU at this ⊢
  rw[zkR _ _ hk2,zkR _ _ hk2]at this
  exact this
 ·rw[List.take_of_length_le (by omega)]
  have:=reach_bd (ls:=sg) (x0:=x0) hw0.2 (fun x hx=>W.taps x (hmem x hx))
  rw[w64 (by omega) (by omega)]
  exact⟨rfl,E2⟩
theorem bNameNil (b:Int):bName b=[]↔ ¬(0≤b∧b<3):=by
 unfold bName
 split
 ·constructor
  ·intro h;cases h
  ·intro h;omega
 split
 ·constructor
  ·intro h;cases h
  ·intro h;omega
 split
 ·constructor
  ·intro h;cases h
  ·intro h;omega
 ·constructor
  ·intro _;omega
  ·intro _;rfl
def opMay (o:OpD):Prop:=(0≤o.kind∧o.kind<4)∧(0≤o.border∧o.border<3)∧(o.kind=3→zav o.w∧zav o.hh∧0≤o.filter∧o.filter<3)
instance (o:OpD):Decidable (opMay o):=by unfold opMay;infer_instance
theorem zoK {h:Heap}{n:Int}:FCall prog zhP #[.int .i64 n] h fun r h'=>r=.bool (decide (zav n))∧h'=h:=by
 apply ok_op_side
 unfold zqN
 simp only[go_sem]
 exact⟨rfl,by first|rfl|trivial⟩
theorem c_opMay {Z:Nat→Prop}{h:Heap}(G:GlobB h){cs:List Value}{o:OpD}(H:rOp.R Z h cs o):FCall prog zsZ #[.agg cs.toArray] h fun r h'=>r=.bool (decide (opMay o))∧Ext h h':=by
 apply ok_op_may
 unfold sh_op_may
 obtain⟨s,t,rfl,Hx,Hy⟩:=H
 simp only[zaB]
 refine zag fun b h1 r1 e1 n1=>?_
 have G1:=G.ext e1
 simp only[go_sem,zab r1]
 have hbn:=bNameNil o.border
 by_cases hk:o.kind<0∨4≤o.kind
 ·have q:opMay o=False:=eq_false (by unfold opMay;omega)
  simp only[go_sem,hk,q]
  exact⟨by simp,e1⟩
 simp only[go_sem,hk]
 refine(zof G1).mono fun v h2 ⟨e,w⟩=>?_
 subst e w
 try rw[S_nil]
 rw[zsY,zaa]
 by_cases hb:bName o.border=[]
 ·have q:opMay o=False:=eq_false (by unfold opMay;exact fun h=>hbn.1 hb h.2.1)
  simp only[go_sem,hb,q]
  exact⟨by simp,e1⟩
 have hb3:0≤o.border∧o.border<3:=Decidable.of_not_not fun h=>hb (hbn.2 h)
 simp only[go_sem,hb,zab r1]
 by_cases hk3:¬o.kind=3
 ·have q:opMay o=True:=eq_true ⟨by omega,hb3,fun h=>absurd h hk3⟩
  simp only[go_sem,hk3,q]
  exact⟨by simp,e1⟩
 have hk3:o.kind=3:=Decidable.of_not_not hk3
 simp only[go_sem,hk3,zab r1]
 refine zoK.mono fun v h3 ⟨e,w⟩=>?_
 subst e w
 by_cases hw:¬zav o.w
 ·have q:opMay o=False:=eq_false (fun h=>hw (h.2.2 hk3).1)
  simp only[go_sem,hw,q]
  exact⟨by simp,e1⟩
 have hw:zav o.w:=Decidable.of_not_not hw
 simp only[go_sem,hw,zab r1]
 refine zoK.mono fun v h4 ⟨e,w⟩=>?_
 subst e w
 by_cases hh:¬zav o.hh
 ·have q:opMay o=False:=eq_false (fun h=>hh (h.2.2 hk3).2.1)
  simp only[go_sem,hh,q]
  exact⟨by simp,e1⟩
 have hh:zav o.hh:=Decidable.of_not_not hh
 simp only[go_sem,hh,zab r1]
 refine(c_rawName G1).mono fun v h5 ⟨e,w⟩=>?_
 subst e w
 try rw[S_nil]
 rw[zsX,zaa]
 have hfn:=fNameNil o.filter
 simp only[go_sem]
 refine⟨?_,e1⟩
 congr 1
 rw[decide_eq_decide]
 unfold opMay
 constructor
 ·intro hf
  exact⟨by omega,hb3,fun _=>⟨hw,hh,Decidable.of_not_not fun h=>hf (hfn.2 h)⟩⟩
 ·intro hf he
  exact hfn.1 he (hf.2.2 hk3).2.2
def zcv (o:OpD):Int:=if o.kind=0 then zpI o.sigma else if o.kind=1 then blurC o.radius else if userC o.x≠0 then userC o.x else userC o.y
def zbc (o:OpD):List Int:=if o.kind=0 then zhJ o.sigma else if o.kind=1 then blurW o.radius else userW o.x
def zbm (o:OpD):List Int:=if o.kind=0 then zhJ o.sigma else if o.kind=1 then blurW o.radius else userW o.y
theorem ziU (o:OpD):∀x∈zbc o,I64 x:=by
 unfold zbc
 split
 ·exact zq7 _
 split
 ·exact blurW_I64 _
 ·exact zoO _
theorem ziT (o:OpD):∀x∈zbm o,I64 x:=by
 unfold zbm
 split
 ·exact zq7 _
 split
 ·exact blurW_I64 _
 ·exact zoO _
theorem ziV (l:List Int):(userW l).length≤1024:=by
 unfold userW
 split
 ·simp
 ·rename_i h
  unfold zds at h
  rw[List.length_map];omega
theorem znq (s:Int):(zhJ s).length≤1024:=by
 unfold zhJ
 split
 ·simp
 ·rename_i h
  unfold zfu at h
  rw[List.length_map,List.length_range]
  unfold zcw;omega
theorem zp0 (r:Int):(blurW r).length≤1024:=by
 unfold blurW
 split
 ·simp
 ·exact ziV _
theorem znI (o:OpD):(zbc o).length<4611686018427387904:=by
 unfold zbc
 split
 ·have:=znq o.sigma;omega
 split
 ·have:=zp0 o.radius;omega
 ·have:=ziV o.x;omega
theorem znH (o:OpD):(zbm o).length<4611686018427387904:=by
 unfold zbm
 split
 ·have:=znq o.sigma;omega
 split
 ·have:=zp0 o.radius;omega
 ·have:=ziV o.y;omega
abbrev Since (h h':Heap)(c:Nat):Prop:=h.size≤c∧c<h'.size
theorem _root_.Go.Crisp.New.since {α:Type}{e:Rp α}{h0 h h':Heap}{v:Value}{l:List α}(H:New e h h' v l)(k:Ext h0 h):Rp.Sl e (Since h0 h') h' v l:=H.sl.mono fun b hb hz=>⟨Nat.le_trans k.1 (H.2.2 b hz),hb⟩
theorem c_weights {Z:Nat→Prop}{h:Heap}{cs:List Value}{o:OpD}(H:rOp.R Z h cs o)(W:o.Wf)(lx:o.x.length<4611686018427387904)(ly:o.y.length<4611686018427387904):
  FCall prog zjI #[.agg cs.toArray] h fun r h'=>∃u v,r=.tuple #[u,v,.int .i64 (zcv o)]∧Ext h h'∧(zcv o=0→SlI (Since h h') h' u (zbc o)∧SlI (Since h h') h' v (zbm o)):=by
 apply zsg
 unfold zlW
 obtain⟨s,t,rfl,Hx,Hy⟩:=H
 simp only[zaB]
 refine zag fun b h1 r1 e1 n1=>?_
 simp only[go_sem,zab r1]
 unfold zcv zbc zbm
 refine zac (fun hk=>?_) (fun hk=>?_)
 ·rw[if_pos hk,if_pos hk,if_pos hk]
  refine(zro W.sigma).mono fun w h2 ⟨u,e,N⟩=>?_
  subst e
  simp only[go_sem]
  exact⟨u,u,rfl,e1.trans N.2.1,fun _=>⟨N.since e1,N.since e1⟩⟩
 rw[if_neg hk,if_neg hk,if_neg hk]
 refine zac (fun hk1=>?_) (fun hk1=>?_)
 ·rw[if_pos hk1,if_pos hk1,if_pos hk1]
  refine(c_Blur W.radius).mono fun w h2 ⟨u,e,N⟩=>?_
  subst e
  simp only[go_sem]
  exact⟨u,u,rfl,e1.trans N.2.1,fun _=>⟨N.since e1,N.since e1⟩⟩
 rw[if_neg hk1,if_neg hk1,if_neg hk1]
 refine(znu (Hx.ext e1) W.x lx).mono fun w h2 ⟨u,e,N⟩=>?_
 subst e
 simp only[go_sem]
 refine zac (fun hu=>?_) (fun hu=>?_)
 ·rw[if_pos hu]
  exact⟨_,_,rfl,e1.trans N.2.1,fun h=>absurd h hu⟩
 rw[if_neg hu]
 simp only[go_sem,zab (N.2.1.row r1)]
 refine(znu ((Hy.ext e1).ext N.2.1) W.y ly).mono fun w h3 ⟨v,e,M⟩=>?_
 subst e
 simp only[go_sem]
 refine⟨u,v,rfl,(e1.trans N.2.1).trans M.2.1,fun _=>⟨?_,M.since (e1.trans N.2.1)⟩⟩
 exact((N.since e1).ext M.2.1).mono fun c hc hz=>⟨hz.1,hc⟩
def zec (o:OpD)(w h:Int):Int:=
 if o.kind=3 then(if zbE o.filter w o.w≠0 then zbE o.filter w o.w else zbE o.filter h o.hh)
 else if zcv o≠0 then zcv o else if zdR (zbc o) w≠0 then zdR (zbc o) w else zdR (zbm o) h
def zd4 (o:OpD)(w:Int):Tbl:=if o.kind=3 then zb8 o.filter w o.w else zej (zbc o) w
def zdc (o:OpD)(h:Int):Tbl:=if o.kind=3 then zb8 o.filter h o.hh else zej (zbm o) h
theorem c_tables {Z:Nat→Prop}{h:Heap}(G:GlobB h){cs:List Value}{o:OpD}(H:rOp.R Z h cs o)(W:o.Wf)(lx:o.x.length<4611686018427387904)(ly:o.y.length<4611686018427387904){w hh:Int}(hw:I64 w)(hhh:I64 hh):
  FCall prog zln #[.agg cs.toArray,.int .i64 w,.int .i64 hh] h fun r h'=>∃p q,r=.tuple #[p,q,.int .i64 (zec o w hh)]∧Ext h h'∧(zec o w hh=0→IsTbl (Since h h') h' p (zd4 o w)∧IsTbl (Since h h') h' q (zdc o hh)):=by
 apply ok_op_tables
 unfold zn1
 have H0:=H
 obtain⟨s,t,rfl,Hx,Hy⟩:=H
 simp only[zaB]
 refine zag fun b h1 r1 e1 n1=>?_
 have G1:=G.ext e1
 simp only[go_sem,zab r1]
 unfold zec zd4 zdc
 refine zac (fun hk=>?_) (fun hk=>?_)
 ·rw[if_pos hk,if_pos hk,if_pos hk]
  refine(zsS G1 W.filter hw W.w).mono fun r h2 ⟨p,e,e2,p0,p1⟩=>?_
  subst e
  simp only[go_sem]
  refine zac (fun hc=>?_) (fun hc=>?_)
  ·rw[if_neg (by simpa using hc)]
   simp only[go_sem,zab (e2.row r1)]
   refine(zsS (G1.ext e2) W.filter hhh W.hh).mono fun r h3 ⟨q,e,e3,q0,q1⟩=>?_
   subst e
   simp only[go_sem]
   refine⟨p,q,rfl,(e1.trans e2).trans e3,fun h0=>⟨?_,?_⟩⟩
   ·exact((p1 hc).ext e3).mono fun c hc hz=>⟨Nat.le_trans e1.1 hz.1,hc⟩
   ·exact(q1 h0).mono fun c hc hz=>⟨Nat.le_trans (e1.trans e2).1 hz.1,hz.2⟩
  ·rw[if_pos (by simpa using hc)]
   exact⟨p,_,rfl,e1.trans e2,fun h0=>absurd h0 hc⟩
 rw[if_neg hk,if_neg hk,if_neg hk]
 rw[zap r1 9 rfl,zaa]
 refine(c_weights (rOp.ext H0 e1) W lx ly).mono fun r h2 ⟨u,v,e,e2,hu⟩=>?_
 subst e
 simp only[go_sem]
 refine zac (fun hc=>?_) (fun hc=>?_)
 ·rw[if_pos hc]
  exact⟨_,_,rfl,e1.trans e2,fun h0=>absurd h0 hc⟩
 have hc0:zcv o=0:=Decidable.of_not_not hc
 rw[if_neg hc]
 obtain⟨Hu,Hv⟩:=hu hc0
 refine(c_Filter Hu (ziU o) (znI o) hw).mono fun r h3 ⟨p,e,e3,p0,p1⟩=>?_
 subst e
 simp only[go_sem]
 refine zac (fun hc=>?_) (fun hc=>?_)
 ·rw[if_neg (by simpa using hc)]
  refine(c_Filter (Hv.ext e3) (ziT o) (znH o) hhh).mono fun r h4 ⟨q,e,e4,q0,q1⟩=>?_
  subst e
  simp only[go_sem]
  refine⟨p,q,rfl,((e1.trans e2).trans e3).trans e4,fun h0=>⟨?_,?_⟩⟩
  ·exact((p1 hc).ext e4).mono fun c hc hz=>⟨Nat.le_trans (e1.trans e2).1 hz.1,hc⟩
  ·exact(q1 h0).mono fun c hc hz=>⟨Nat.le_trans ((e1.trans e2).trans e3).1 hz.1,hz.2⟩
 ·rw[if_pos (by simpa using hc)]
  exact⟨p,_,rfl,(e1.trans e2).trans e3,fun h0=>absurd h0 hc⟩
structure Stg where
 x:Tbl
 y:Tbl
 border:Int
def IsStg (Z:Nat→Prop)(h:Heap)(v:Value)(s:Stg):Prop:=∃p q,v=.agg #[p,q,.int .i64 s.border]∧IsTbl Z h p s.x∧IsTbl Z h q s.y
theorem IsStg.mono {Z Z':Nat→Prop}{h:Heap}{v:Value}{s:Stg}(H:IsStg Z h v s)(q:∀b,b<h.size→Z b→Z' b):IsStg Z' h v s:=by
 obtain⟨p,r,rfl,h1,h2⟩:=H
 exact⟨p,r,rfl,h1.mono q,h2.mono q⟩
theorem IsStg.ext {Z:Nat→Prop}{h h':Heap}{v:Value}{s:Stg}(H:IsStg Z h v s)(e:Ext h h'):IsStg Z h' v s:=by
 obtain⟨p,r,rfl,h1,h2⟩:=H
 exact⟨p,r,rfl,h1.ext e,h2.ext e⟩
theorem ze5 {α:Type}{e:Rp α}{Z:Nat→Prop}{h:Heap}{v:Value}{x:α}(H:Rp.Pt e Z h v x):zam v=true:=by
 obtain⟨b,ds,t,rfl,_⟩:=H
 rfl
theorem fill_3 {a b c x y z:Value}(ha:zam a=true)(hb:zam b=true)(hc:zam c=true):fillL #[x,y,z] [(0,1,a),(1,1,b),(2,1,c)]=some #[a,b,c]:=by
 simp only[fillL,zaK ha,zaK hb,zaK hc]
 rfl
abbrev noStg:Value:=.agg #[.pointer none,.pointer none,.int .i64 0]
def makeC (o:OpD)(w h:Int):Int:=if¬opMay o∨¬zav w∨¬zav h then 6 else zec o w h
def makeS (o:OpD)(w h:Int):Stg:=⟨zd4 o w,zdc o h,o.border⟩
def StgOut (h:Heap)(code:Int)(s:Stg)(r:Value)(h':Heap):Prop:=∃v,r=.tuple #[v,.int .i64 code]∧Ext h h'∧(code≠0→v=noStg)∧(code=0→IsStg (Since h h') h' v s)
theorem zrn {Z:Nat→Prop}{h:Heap}(G:GlobB h){cs:List Value}{o:OpD}(H:rOp.R Z h cs o)(W:o.Wf)(lx:o.x.length<4611686018427387904)(ly:o.y.length<4611686018427387904){w hh:Int}(hw:I64 w)(hhh:I64 hh):
  FCall prog ze2 #[.agg cs.toArray,.int .i64 w,.int .i64 hh] h (StgOut h (makeC o w hh) (makeS o w hh)):=by
 apply ok_op_Make
 unfold zqP
 have H0:=H
 obtain⟨s,t,rfl,Hx,Hy⟩:=H
 simp only[zaB]
 refine zag fun b h1 r1 e1 n1=>?_
 have l1:=zaz r1
 refine zag fun b2 h2 r2 e2 n2=>?_
 have r1:=e2.row r1
 have e12:=e1.trans e2
 have l2:=zaz r2
 have hb:b≠b2:=by omega
 rw[zap r1 9 rfl,zaa]
 refine(c_opMay (G.ext e12) (rOp.ext H0 e12)).mono fun v h3 ⟨e,e3⟩=>?_
 subst e
 have bad:∀(code:Int) (h4:Heap),makeC o w hh=code→code≠0→Ext h2 h4→stK 3 (.pointer (some ⟨b2,0,none⟩)) (.agg #[.pointer none,.pointer none,.int .i64 0]) h4 fun _ h21=>vK (ldsV 3 h21 (.pointer (some ⟨b2,0,none⟩))) fun v22=>StgOut h (makeC o w hh) (makeS o w hh) (.tuple #[v22,.int .i64 code]) h21:=by
  intro code h4 hmc hc e4
  rw[hmc]
  refine zbA (l:=[.pointer none,.pointer none,.int .i64 0]) (e4.row r2) rfl (zad rfl (zad rfl (zad rfl zaq))) rfl fun h5 r5 u5=>?_
  rw[zap r5 3 rfl,zaa]
  exact⟨_,rfl,(e12.trans e4).upd (Nat.le_trans e1.1 n2) u5,fun _=>rfl,fun h=>absurd h hc⟩
 by_cases hm:¬opMay o
 ·have hmc:makeC o w hh=6:=if_pos (.inl hm)
  simp only[go_sem,hm,zcV,Option.map_some]
  exact bad 6 h3 hmc (by omega) e3
 have hm:opMay o:=Decidable.of_not_not hm
 simp only[go_sem,hm]
 refine zoK.mono fun v h4 ⟨e,w⟩=>?_
 subst e w
 by_cases hsw:¬zav w
 ·have hmc:makeC o w hh=6:=if_pos (.inr (.inl hsw))
  simp only[go_sem,hsw,zcV,Option.map_some]
  exact bad 6 _ hmc (by omega) e3
 have hsw:zav w:=Decidable.of_not_not hsw
 simp only[go_sem,hsw]
 refine zoK.mono fun v h5 ⟨e,w⟩=>?_
 subst e w
 by_cases hsh:¬zav hh
 ·have hmc:makeC o w hh=6:=if_pos (.inr (.inr hsh))
  simp only[go_sem,hsh,zcV,Option.map_some]
  exact bad 6 _ hmc (by omega) e3
 have hsh:zav hh:=Decidable.of_not_not hsh
 have hmc:makeC o w hh=zec o w hh:=if_neg (by rintro(h|h|h);exact h hm;exact h hsw;exact h hsh)
 simp only[go_sem,hsh]
 rw[zap (e3.row r1) 9 rfl,zaa]
 refine(c_tables ((G.ext e12).ext e3) (rOp.ext (rOp.ext H0 e12) e3) W lx ly hw hhh).mono fun r h6 ⟨p,q,e,e6,hp⟩=>?_
 subst e
 simp only[go_sem]
 refine zac (fun hc=>?_) (fun hc=>?_)
 ·simp only[zcV,Option.map_some,zaa]
  exact bad _ _ hmc hc (e3.trans e6)
 have hc0:zec o w hh=0:=Decidable.of_not_not hc
 obtain⟨hp1,hp2⟩:=hp hc0
 have c1:zah h6 ⟨b,1,none⟩=some (.int .i64 o.border):=zab (e6.row (e3.row r1))
 simp only[go_sem,c1]
 rw[fill_3 (ze5 hp1) (ze5 hp2) rfl,Option.map_some,zaa]
 refine zbA (l:=[p,q,.int .i64 o.border]) (e6.row (e3.row r2)) rfl (zad (ze5 hp1) (zad (ze5 hp2) (zad rfl zaq))) rfl fun h7 r7 u7=>?_
 rw[zap r7 3 rfl,zaa]
 have hz:∀c,c<h6.size→Since h5 h6 c→¬c=b2:=fun c _ hz he=>by
  have:=hz.1
  have:=(e3.1)
  subst he
  omega
 have E:Ext h h6:=(e12.trans e3).trans e6
 have fin:∀{t:Tbl} {p:Value},IsTbl (Since h5 h6) h6 p t→IsTbl (Since h h7) h7 p t:=fun H=>by
  have:=Rp.Pt.fr H u7.fr hz
  refine this.mono fun c hc hz=>⟨?_,hc⟩
  exact Nat.le_trans (e12.trans e3).1 hz.1
 rw[hmc]
 exact⟨.agg #[p,q,.int .i64 o.border],by rw[hc0],E.upd (Nat.le_trans e1.1 n2) u7,fun h=>absurd hc0 h,fun _=>⟨p,q,rfl,fin hp1,fin hp2⟩⟩
def NewR {α:Type}(e:Rp α)(h h':Heap)(v:Value)(l:List α):Prop:=∃Z,Rp.Ow e Z h' v l∧Ext h h'∧(∀b,blk v b→h.size≤b)∧∀c,Z c→h.size≤c∧c<h'.size
theorem NewR.nil {α:Type}{e:Rp α}{h h':Heap}(k:Ext h h'):NewR e h h' (.slice none 0 0) []:=⟨fun _=>False,Rp.Ow.nil,k,fun b hb=>hb.elim,fun c hc=>hc.elim⟩
theorem NewR.ext {α:Type}{e:Rp α}{h h' h2:Heap}{v:Value}{l:List α}(H:NewR e h h' v l)(k:Ext h' h2):NewR e h h2 v l:=by
 obtain⟨Z,o,x,n,z⟩:=H
 exact⟨Z,o.ext k,x.trans k,n,fun c hc=>⟨(z c hc).1,Nat.lt_of_lt_of_le (z c hc).2 k.1⟩⟩
theorem NewR.exts {α:Type}{e:Rp α}{h h':Heap}{v:Value}{l:List α}(H:NewR e h h' v l):Ext h h':=by obtain⟨Z,o,x,n,z⟩:=H;exact x
theorem NewR.sl {α:Type}{e:Rp α}{h h':Heap}{v:Value}{l:List α}(H:NewR e h h' v l):Rp.Sl e (Since h h') h' v l:=by
 obtain⟨Z,o,x,n,z⟩:=H
 exact o.sl.mono fun c hc hz=>by
  rcases hz with hz|hz
  ·exact z c hz
  ·exact⟨n c hz,hc⟩
theorem NewR.isSl {α:Type}{e:Rp α}{h h':Heap}{v:Value}{l:List α}(H:NewR e h h' v l):∃a cap,v=.slice a l.length cap:=by obtain⟨Z,o,x,n,z⟩:=H;exact o.isSl
theorem NewR.push {α:Type}{e:Rp α}{z:Value}{c:Array Value}{t t':TypeId}{bytes:Nat}{h h1:Heap}{v:Value}{l:List α}{cs:List Value}{x:α}{Y:Nat→Prop}{K:Value→Heap→Prop}(H:NewR e h h1 v l)
  (hx:e.R Y h1 cs x) (hY:∀b,Y b→h.size≤b∧b<h1.size∧¬blk v b) (hc:c.size=e.w) (hz:z.cells.size=e.w) (hb:(l.length+1)*bytes≤140737488355328) (hn:l.length+1≤9223372036854775807)
  (HK:∀s' h',NewR e h h' s' (l++[x])→Fr (blk v) h1 h'→(∀b,blk s' b→blk v b∨h1.size≤b)→K s' h'):rowK c t 1 [(0,e.w,.agg cs.toArray)] h1 fun v2 h3=>appK z t' e.w bytes v v2 h3 K:=by
 obtain⟨Z,o,ex,n,zf⟩:=H
 have dz:∀b,blk v b→¬Z b:=by obtain⟨ds,_,d,_⟩:=o;exact d
 have o2:Rp.Ow e (fun b=>Z b∨Y b) h1 v l:=o.mono (fun b _ hb=>.inl hb) fun b hb hz=>by
  rcases hz with hz|hz
  ·exact dz b hb hz
  ·exact(hY b hz).2.2 hb
 refine Rp.push_ow o2 (e.mono hx fun b _ hb=>.inr hb) hc hz hb hn (fun b hb=>?_) fun s' h' o' f' n'=>HK s' h' ⟨fun b=>Z b∨Y b,o',ex.then_fr f' n,fun b hb=>?_,fun b hb=>?_⟩ f' n'
 ·rcases hb with hb|hb
  ·exact(zf b hb).2
  ·exact(hY b hb).2.1
 ·rcases n' b hb with h2|h2
  ·exact n b h2
  ·exact Nat.le_trans ex.1 h2
 ·have hl:=f'.1
  rcases hb with hb|hb
  ·have:=zf b hb;omega
  ·have:=hY b hb;omega
theorem NewR.lt {α:Type}{e:Rp α}{h h':Heap}{v:Value}{l:List α}(H:NewR e h h' v l){b:Nat}(hb:blk v b):b<h'.size:=by obtain⟨Z,o,x,n,z⟩:=H;exact o.lt hb
theorem _root_.Go.Crisp.New.lt {α:Type}{e:Rp α}{h h':Heap}{v:Value}{l:List α}(H:New e h h' v l){b:Nat}(hb:blk v b):b<h'.size:=H.1.lt hb
theorem zsP {h:Heap}{n:Int}:FCall prog ze0 #[.int .i64 n] h fun r h'=>r=.bool (decide (zav n))∧h'=h:=by
 apply zr1
 unfold zlH
 simp only[go_sem]
 exact⟨rfl,trivial⟩
def LnOut (h:Heap)(code:Int)(ls:List (Int×List Int))(r:Value)(h':Heap):Prop:=∃v,r=.tuple #[v,.int .i64 code]∧Ext h h'∧(code≠0→v=.slice none 0 0)∧(code=0→NewR rLine h h' v ls)
theorem zrf {h:Heap}{f n m:Int}(hf:I64 f)(hn:I64 n)(hm:I64 m):FCall prog zeF #[.int .i64 f,.int .i64 n,.int .i64 m] h (LnOut h (zbE f n m) (zb8 f n m).lines):=by
 apply zph
 unfold zi5
 have rc:zbE f n m=if¬(0≤f∧f<3)∨¬zav n∨¬zav m then 6 else za8 (fun i=>za0 (zbb f n m i)) m.toNat:=rfl
 have bad:∀b:Bool,(b=true↔(¬(0≤f∧f<3)∨¬zav n∨¬zav m))→∀X:Prop,((0≤f∧f<3)→zav n→zav m→X)→iteK (.bool b)
   (LnOut h (zbE f n m) (zb8 f n m).lines (.tuple #[.slice none 0 0,.int .i64 6]) h) X:=by
  intro b hb X hX
  refine zc3 (fun hc=>?_) (fun hc=>?_)
  ·rw[rc,if_pos (hb.1 hc)]
   exact⟨_,rfl,Ext.refl _,fun _=>rfl,fun h=>by cases h⟩
  ·have hnb:¬(¬(0≤f∧f<3)∨¬zav n∨¬zav m):=fun hh=>by rw[hb.2 hh]at hc;cases hc
   exact hX (Decidable.of_not_not fun hh=>hnb (.inl hh)) (Decidable.of_not_not fun hh=>hnb (.inr (.inl hh))) (Decidable.of_not_not fun hh=>hnb (.inr (.inr hh)))
 have rest:(0≤f∧f<3)→zav n→zav m→loopK [.slice none 0 0,.int .i64 0] h fun x15 j16 h17 again18=>
   vK (binV .i .lss (ix x15 1) (.int .i64 m)) fun v19=>iteK v19 (
    FCall prog zif #[.int .i64 f,.int .i64 n,.int .i64 m,(ix x15 1)] h17 fun v20 h21=>
    vK (extV v20 0) fun v22=>vK (extV v20 1) fun v23=>
    FCall prog zcl #[v23] h21 fun v24 h25=>
    vK (extV v24 0) fun v26=>vK (extV v24 1) fun v27=>
    vK (binV .i .neq v27 (.int .i64 0)) fun v28=>iteK v28 (
     LnOut h (zbE f n m) (zb8 f n m).lines (.tuple #[(.slice none 0 0),v27]) h25) (
     vK ((fillL #[(.int .i64 0),(.slice none 0 0)] [(0,1,v22),(1,1,v26)]).map .agg) fun v29=>
     rowK #[(.int .i64 0),(.slice none 0 0)] 161 1 [(0,2,v29)] h25 fun v30 h31=>
     appK (.agg #[.int .i64 0,.slice none 0 0]) 161 2 32 (ix x15 0) v30 h31 fun v32 h33=>
     vK (binV .i .add (ix x15 1) (.int .i64 1)) fun v34=>again18 [v32,v34] h33)) (
    LnOut h (zbE f n m) (zb8 f n m).lines (.tuple #[(ix x15 0),(.int .i64 0)]) h17):=by
  intro hf3 hsn hsm
  rw[if_neg (by rintro(h|h|h);exact h hf3;exact h hsn;exact h hsm)]at rc
  rw[rc]
  have hsm':=hsm
  unfold zav at hsm'
  refine zaF m.toNat 0 (fun k v=>[v,.int .i64 (k:Int)]) (fun k v h'=>za8 (fun i=>za0 (zbb f n m i)) k=0∧NewR rLine h h' v ((List.range k).map fun i:Nat=>(zbD f n m i,zaG (zbb f n m i)))) (.slice none 0 0) rfl (Nat.zero_le _)
   ⟨rfl,NewR.nil (Ext.refl _)⟩ fun k v h5 again ρj _ hk ⟨hg,T⟩ Hag=>?_
  simp only[go_sem]
  refine zac (fun h6=>?_) (fun h6=>?_)
  ·have hk':k<m.toNat:=by omega
   refine c_r5Row.mono fun w h7 ⟨u,e,Nw⟩=>?_
   subst e
   try simp only[go_sem]
   refine(zmL Nw.sl (zhH _ _ _ _) (zqS _ _ _ _)).mono fun w h8 ⟨u,e,Nu⟩=>?_
   subst e
   try simp only[go_sem]
   refine zac (fun h9=>?_) (fun h9=>?_)
   ·have hc:za8 (fun i=>za0 (zbb f n m i)) (k+1)=za0 (zbb f n m k):=by
     show(if za8 (fun i=>za0 (zbb f n m i)) k≠0 then _ else _)=_
     rw[if_neg (by rw[hg];simp)]
    have hs:=zmG (g:=fun i=>za0 (zbb f n m i)) (k:=k+1) (n:=m.toNat) (by rw[hc];exact h9) hk'
    rw[hs,hc]
    exact⟨_,rfl,(T.exts.trans Nw.2.1).trans Nu.2.1,fun _=>rfl,fun h=>absurd h h9⟩
   ·have h9:za0 (zbb f n m k)=0:=Decidable.of_not_not h9
    rw[zpL (a:=.int .i64 (zbD f n m k)) (b:=u) rfl Nu.sl.one,Option.map_some,zaa]
    have T2:=T.ext (Nw.2.1.trans Nu.2.1)
    refine NewR.push (e:=rLine) (cs:=[.int .i64 (zbD f n m k),u]) (x:=(zbD f n m k,zaG (zbb f n m k))) (Y:=blk u) T2 ⟨u,rfl,Nu.sl⟩ (fun b hb=>⟨Nat.le_trans (T.exts.trans Nw.2.1).1 (Nu.2.2 b hb),Nu.lt hb,fun hv=>?_⟩) rfl rfl (by simp;omega) (by simp;omega) fun s' h' N' _ _=>?_
    ·have h10:=T.lt hv
     have h11:=Nu.2.2 b hb
     have h12:=Nw.2.1.1
     omega
    ·try simp only[go_sem]
     rw[w64 (by omega) (by omega)]
     refine Hag s' h' hk' ⟨?_,?_⟩
     ·show(if za8 (fun i=>za0 (zbb f n m i)) k≠0 then _ else _)=_
      rw[if_neg (by rw[hg];simp)]
      exact h9
     ·rw[List.range_succ,List.map_append]
      exact N'
  ·have:k=m.toNat:=by omega
   subst this
   exact⟨_,by rw[hg],T.exts,fun h=>absurd hg h,fun _=>T⟩
 by_cases hf3:0≤f∧f<3
 ·have q1:(f<0)=False:=eq_false (by omega)
  have q2:(2<f)=False:=eq_false (by omega)
  simp only[go_sem,q1,q2]
  refine zsP.mono fun v1 h2 ⟨e1,w1⟩=>?_
  have w1:=w1.symm
  subst e1 w1
  by_cases hsn:zav n
  ·simp only[go_sem,hsn]
   refine zsP.mono fun v1 h2 ⟨e1,w1⟩=>?_
   have w1:=w1.symm
   subst e1 w1
   simp only[go_sem]
   refine bad _ ?_ _ rest
   rw[decide_eq_true_eq]
   constructor
   ·exact fun hh=>.inr (.inr hh)
   ·rintro(hh|hh|hh)
    ·exact absurd hf3 hh
    ·exact absurd hsn hh
    ·exact hh
  ·simp only[go_sem,hsn]
   exact(zcU _ _).mp (bad true ⟨fun _=>.inr (.inl hsn),fun _=>rfl⟩ True fun _ _ _=>trivial)
 ·have q1:(f<0∨2<f)=True:=eq_true (by omega)
  simp only[go_sem,q1]
  exact(zcU _ _).mp (bad true ⟨fun _=>.inl hf3,fun _=>rfl⟩ True fun _ _ _=>trivial)
theorem zrg {h:Heap}{Z:Nat→Prop}{v:Value}{l:List Int}{n:Int}(H:SlI Z h v l)(h64:∀x∈l,I64 x)(hl:l.length<4611686018427387904)(hn:I64 n):FCall prog zeG #[v,.int .i64 n] h (LnOut h (zdR l n) (zej l n).lines):=by
 apply zpi
 unfold zi6
 refine zsP.mono fun v1 h1 ⟨e1,w1⟩=>?_
 have w1:=w1.symm
 subst e1 w1
 unfold zdR zej
 obtain⟨a,cap,e⟩:=H.isSl
 have e2:zaf v=some (.int .i64 (l.length:Int)):=by rw[e];rfl
 by_cases hsn:¬zav n
 ·rw[if_pos hsn]
  simp only[go_sem,hsn]
  exact⟨_,rfl,Ext.refl _,fun _=>rfl,fun h=>by cases h⟩
 rw[if_neg hsn]
 have hsn:zav n:=Decidable.of_not_not hsn
 have hsn':=hsn
 unfold zav at hsn'
 simp only[go_sem,hsn,e2]
 rw[zbd _ _ _ _ (by omega),zaa,Int.tmod_eq_emod_of_nonneg (by omega)]
 simp only[go_sem]
 refine zac (fun h0=>?_) (fun h0=>?_)
 ·rw[if_pos (by omega)]
  exact⟨_,rfl,Ext.refl _,fun _=>rfl,fun h=>by cases h⟩
 rw[if_neg (by omega)]
 refine(zmL H h64 hl).mono fun w h2 ⟨u,e,Nu⟩=>?_
 subst e
 simp only[go_sem]
 refine zac (fun h9=>?_) (fun h9=>?_)
 ·exact⟨_,rfl,Nu.2.1,fun _=>rfl,fun h=>absurd h h9⟩
 have h9:za0 l=0:=Decidable.of_not_not h9
 have hal:(zaG l).length=l.length:=by unfold zaG;rw[if_pos h9,zfI]
 have bd:=zfL h64
 refine zaF n.toNat 0 (fun k v=>[v,.int .i64 (k:Int)]) (fun k v h'=>NewR rLine h h' v ((List.range k).map fun i:Nat=>((i:Int)-(l.length/2:Nat),zaG l))∧SlI (blk u) h' u (zaG l)∧Ext h2 h'∧(∀b,blk v b→h2.size≤b)∧∀b,blk u b→¬blk v b) (.slice none 0 0) rfl (Nat.zero_le _)
  ⟨NewR.nil Nu.2.1,Nu.sl,Ext.refl _,fun b hb=>hb.elim,fun b _ hb=>hb⟩ fun k v h5 again ρj _ hk ⟨T,Hu,E,NV,D⟩ Hag=>?_
 try simp only[go_sem]
 refine zac (fun h6=>?_) (fun h6=>?_)
 ·have hk':k<n.toNat:=by omega
  try simp only[go_sem,e2]
  rw[zez _ _ _ _ (by omega),zaa,Int.tdiv_eq_ediv_of_nonneg (by omega),w64 (n:=(l.length:Int)/2) (by omega) (by omega)]
  try simp only[go_sem]
  rw[w64 (n:=(k:Int)-(l.length:Int)/2) (by omega) (by omega),show(k:Int)-(l.length:Int)/2=(k:Int)-(l.length/2:Nat)by omega]
  rw[zpL (a:=.int .i64 ((k:Int)-(l.length/2:Nat))) (b:=u) rfl Hu.one,Option.map_some,zaa]
  refine NewR.push (e:=rLine) (cs:=[.int .i64 ((k:Int)-(l.length/2:Nat)),u]) (x:=((k:Int)-(l.length/2:Nat),zaG l)) (Y:=blk u) T ⟨u,rfl,Hu⟩ (fun b hb=>⟨Nu.2.2 b hb,Nat.lt_of_lt_of_le (Nu.lt hb) E.1,D b hb⟩) rfl rfl (by simp;omega) (by simp;omega) fun s' h' N' F' n'=>?_
  try simp only[go_sem]
  rw[w64 (by omega) (by omega)]
  refine Hag s' h' hk' ⟨?_,Hu.fr F' fun b _ hb=>D b hb,?_,?_,fun b hb hs=>?_⟩
  ·rw[List.range_succ,List.map_append]
   exact N'
  ·exact E.then_fr F' NV
  ·intro b hb
   rcases n' b hb with h10|h10
   ·exact NV b h10
   ·exact Nat.le_trans E.1 h10
  ·rcases n' b hs with h10|h10
   ·exact D b hb h10
   ·have:=Nu.lt hb
    have:=E.1
    omega
 ·have:k=n.toNat:=by omega
  subst this
  exact⟨_,by rw[h9],T.exts,fun h=>absurd h9 h,fun _=>T⟩
def zhR (side:Int)(o:OpD):Prop:=40<o.x.length∨40<o.y.length∨(262144<o.sigma∧o.sigma≤4194304)∨(20<o.radius∧o.radius<512)∨(side<o.w∧o.w≤65536)∨(side<o.hh∧o.hh≤65536)
instance (side:Int)(o:OpD):Decidable (zhR side o):=by unfold zhR;infer_instance
def zgc (side:Int)(l:List OpD):Prop:=∀o∈l,¬zhR side o
instance (side:Int)(l:List OpD):Decidable (zgc side l):=by unfold zgc;infer_instance
theorem c_Little {Z:Nat→Prop}{h:Heap}{v:Value}{l:List OpD}{side:Int}(H:Rp.Sl rOp Z h v l)(hl:l.length<4611686018427387904):
  FCall prog zhi #[v,.int .i64 side] h fun r h'=>r=.bool (decide (zgc side l))∧Ext h h':=by
 apply zpp
 unfold zjd
 obtain⟨a,cap,e⟩:=H.isSl
 have e2:zaf v=some (.int .i64 (l.length:Int)):=by rw[e];rfl
 rw[e2,zaa]
 refine zaF l.length 0 (fun k (_:Unit)=>[.int .i64 (k:Int)]) (fun k _ h'=>Ext h h'∧∀o∈l.take k,¬zhR side o) () rfl (Nat.zero_le _) ⟨Ext.refl _,by simp⟩ fun k _ h1 again ρj _ hk ⟨E1,hI⟩ Hag=>?_
 simp only[go_sem]
 refine zac (fun h0=>?_) (fun h0=>?_)
 ·have hk':k<l.length:=by omega
  obtain⟨p,cs,q1,q2,Ho⟩:=Rp.Sl.atw (e:=rOp) (H.ext E1) (show 0<9 by omega) (k:=.i64) hk'
  have q1:idxV 9 v (.int .i64 (k:Int))=some p:=q1
  have q2:ldsV 9 h1 p=some (.agg cs.toArray):=q2
  rw[q1,zaa,q2,zaa]
  have Ho0:=Ho
  have ho1:=rOp.one Ho
  obtain⟨s,t,rfl,Hx,Hy⟩:=Ho
  refine zbh (cs:=[.int .i64 l[k].kind,.int .i64 l[k].border,.int .i64 l[k].sigma,.int .i64 l[k].radius,s,t,.int .i64 l[k].filter,.int .i64 l[k].w,.int .i64 l[k].hh]) rfl ho1 rfl fun b h2 r2 e3 n3=>?_
  obtain⟨ax,cx,ex⟩:=Hx.isSl
  have ex2:zaf s=some (.int .i64 (l[k].x.length:Int)):=by rw[ex];rfl
  obtain⟨ay,cy,ey⟩:=Hy.isSl
  have ey2:zaf t=some (.int .i64 (l[k].y.length:Int)):=by rw[ey];rfl
  simp only[go_sem,zab r2,ex2,ey2]
  refine zac (fun h3=>?_) (fun h3=>?_)
  ·refine⟨?_,E1.trans e3⟩
   congr 1
   rw[Eq.comm,decide_eq_false_iff_not]
   intro hh
   refine hh _ (List.getElem_mem hk') ?_
   unfold zhR
   omega
  ·rw[w64 (by omega) (by omega)]
   refine Hag () h2 hk' ⟨E1.trans e3,fun o ho=>?_⟩
   rw[List.take_succ_eq_append_getElem hk']at ho
   rcases List.mem_append.1 ho with ho|ho
   ·exact hI o ho
   ·rw[List.mem_singleton.1 ho]
    unfold zhR
    omega
 ·rw[List.take_of_length_le (by omega)]at hI
  refine⟨?_,E1⟩
  congr 1
  rw[Eq.comm,decide_eq_true_eq]
  exact hI
theorem c_opSize {Z:Nat→Prop}{h:Heap}{cs:List Value}{o:OpD}(H:rOp.R Z h cs o){w hh:Int}:FCall prog zp5 #[.agg cs.toArray,.int .i64 w,.int .i64 hh] h fun r h'=>
  r=.tuple #[.int .i64 (if o.kind=3 then o.w else w),.int .i64 (if o.kind=3 then o.hh else hh)]∧Ext h h':=by
 apply ok_op_Size
 unfold zqO
 obtain⟨s,t,rfl,Hx,Hy⟩:=H
 simp only[zaB]
 refine zag fun b h1 r1 e1 n1=>?_
 simp only[go_sem,zab r1]
 refine zac (fun hk=>?_) (fun hk=>?_)
 ·rw[if_pos hk,if_pos hk]
  simp only[go_sem,zab r1]
  exact⟨by simp,e1⟩
 ·rw[if_neg hk,if_neg hk]
  exact⟨rfl,e1⟩
def rStg:Rp Stg where
 w:=5
 R:=fun Z h cs s=>∃x y,cs=[x,y,.int .i64 s.x.n,.int .i64 s.y.n,.int .i64 s.border]∧Rp.Sl rLine Z h x s.x.lines∧Rp.Sl rLine Z h y s.y.lines
 len:=by rintro _ _ _ _ ⟨x,y,rfl,_⟩;rfl
 one:=by
  rintro _ _ _ _ ⟨x,y,rfl,H,K⟩
  exact zad H.one (zad K.one (zad rfl (zad rfl (zad rfl zaq))))
 fr:=by rintro _ _ _ _ _ _ ⟨x,y,rfl,H,K⟩ f q;exact⟨x,y,rfl,H.fr f q,K.fr f q⟩
 mono:=by rintro _ _ _ _ _ ⟨x,y,rfl,H,K⟩ q;exact⟨x,y,rfl,H.mono q,K.mono q⟩
abbrev noR12:List Value:=[.slice none 0 0,.slice none 0 0,.int .i64 0,.int .i64 0,.int .i64 0]
def RStgOut (h:Heap)(code:Int)(s:Stg)(r:Value)(h':Heap):Prop:=∃cs,r=.tuple #[.agg cs.toArray,.int .i64 code]∧Ext h h'∧(code≠0→cs=noR12)∧(code=0→rStg.R (Since h h') h' cs s)
theorem zmO {h:Heap}{n:Int}:FCall prog zdH #[.int .i64 n] h fun r h'=>r=.bool (decide (zav n))∧h'=h:=by
 apply zrX
 unfold zlD
 simp only[go_sem]
 exact⟨rfl,trivial⟩
theorem fill_235 {a b c v w x y z:Value}(ha:zam a=true)(hb:zam b=true)(hc:zam c=true):fillL #[v,w,x,y,z] [(2,1,a),(3,1,b),(4,1,c)]=some #[v,w,a,b,c]:=by
 simp only[fillL,zaK ha,zaK hb,zaK hc]
 rfl
theorem c_r12Make {Z:Nat→Prop}{h:Heap}{cs:List Value}{o:OpD}(H:rOp.R Z h cs o)(W:o.Wf)(lx:o.x.length<4611686018427387904)(ly:o.y.length<4611686018427387904){w hh:Int}(hw:I64 w)(hhh:I64 hh):
  FCall prog zjE #[.agg cs.toArray,.int .i64 w,.int .i64 hh] h (RStgOut h (makeC o w hh) (makeS o w hh)):=by
 apply zrZ
 unfold zlF
 have H0:=H
 obtain⟨s,t,rfl,Hx,Hy⟩:=H
 simp only[zaB]
 refine zag fun b h1 r1 e1 n1=>?_
 have l1:=zaz r1
 refine zag fun b2 h2 r2 e2 n2=>?_
 have r1:=e2.row r1
 have e12:=e1.trans e2
 have l2:=zaz r2
 have hb:b≠b2:=by omega
 have k2:h.size≤b2:=Nat.le_trans e1.1 n2
 have bad:∀(code:Int) (h4:Heap),makeC o w hh=code→code≠0→Ext h2 h4→stK 5 (.pointer (some ⟨b2,0,none⟩)) (.agg #[.slice none 0 0,.slice none 0 0,.int .i64 0,.int .i64 0,.int .i64 0]) h4 fun _ h21=>vK (ldsV 5 h21 (.pointer (some ⟨b2,0,none⟩))) fun v22=>RStgOut h (makeC o w hh) (makeS o w hh) (.tuple #[v22,.int .i64 code]) h21:=by
  intro code h4 hmc hc e4
  rw[hmc]
  refine zbA (l:=noR12) (e4.row r2) rfl (zad rfl (zad rfl (zad rfl (zad rfl (zad rfl zaq))))) rfl fun h5 r5 u5=>?_
  rw[zap r5 5 rfl,zaa]
  exact⟨noR12,rfl,(e12.trans e4).upd k2 u5,fun _=>rfl,fun h=>absurd h hc⟩
 have m6:(¬opMay o∨¬zav w∨¬zav hh)→makeC o w hh=6:=fun hc=>if_pos hc
 by_cases hm:((o.kind<0∨3<o.kind)∨o.border<0)∨2<o.border
 ·have hmc:=m6 (.inl (by unfold opMay;omega))
  simp only[go_sem,zab r1,hm]
  simp only[zcV,Option.map_some,zaa]
  exact bad 6 h2 hmc (by omega) (Ext.refl _)
 have hk0:0≤o.kind∧o.kind<4:=by omega
 have hb0:0≤o.border∧o.border<3:=by omega
 simp only[go_sem,zab r1,hm]
 refine zmO.mono fun v h4 ⟨e,wq⟩=>?_
 have wq:=wq.symm
 subst e wq
 by_cases hsw:¬zav w
 ·have hmc:=m6 (.inr (.inl hsw))
  simp only[go_sem,hsw,zcV,Option.map_some]
  exact bad 6 _ hmc (by omega) (Ext.refl _)
 have hsw:zav w:=Decidable.of_not_not hsw
 simp only[go_sem,hsw]
 refine zmO.mono fun v h5 ⟨e,wq⟩=>?_
 have wq:=wq.symm
 subst e wq
 by_cases hsh:¬zav hh
 ·have hmc:=m6 (.inr (.inr hsh))
  simp only[go_sem,hsh,zcV,Option.map_some]
  exact bad 6 _ hmc (by omega) (Ext.refl _)
 have hsh:zav hh:=Decidable.of_not_not hsh
 have mt:opMay o→makeC o w hh=zec o w hh:=fun hm=>if_neg (by rintro(h|h|h);exact h hm;exact h hsw;exact h hsh)
 simp only[go_sem,hsh,zab r1]
 rw[fill_235 rfl rfl rfl,Option.map_some,zaa]
 refine zbh (cs:=[.slice none 0 0,.slice none 0 0,.int .i64 w,.int .i64 hh,.int .i64 o.border]) rfl (zad rfl (zad rfl (zad rfl (zad rfl (zad rfl zaq))))) rfl fun b3 h3 r3 e3 n3=>?_
 have r1:=e3.row r1
 have r2:=e3.row r2
 have e03:=e12.trans e3
 have l3:=zaz r3
 have k3:h.size≤b3:=Nat.le_trans e12.1 n3
 have hb3:b3≠b:=by have:=e2.1;omega
 have hb32:b3≠b2:=by omega
 -- a row of lines is stored
 have put0:∀{h4:Heap} {u:Value} {a c:Value} {K:Value→Heap→Prop},zam u=true→h4[b3]? =some (.cells #[a,c,.int .i64 w,.int .i64 hh,.int .i64 o.border] 56 (0,0))→
   (∀h5,h5[b3]? =some (.cells #[u,c,.int .i64 w,.int .i64 hh,.int .i64 o.border] 56 (0,0))→Upd b3 h4 h5→K undef h5)→stK 1 (.pointer (some ⟨b3,0,none⟩)) u h4 K:=by
  intro h4 u a c K hu r HK
  exact zaH r (by simp) hu fun h5 r5 u5=>HK h5 r5 u5
 have put1:∀{h4:Heap} {u:Value} {a c:Value} {K:Value→Heap→Prop},zam u=true→h4[b3]? =some (.cells #[a,c,.int .i64 w,.int .i64 hh,.int .i64 o.border] 56 (0,0))→
   (∀h5,h5[b3]? =some (.cells #[a,u,.int .i64 w,.int .i64 hh,.int .i64 o.border] 56 (0,0))→Upd b3 h4 h5→K undef h5)→stK 1 (.pointer (some ⟨b3,1,none⟩)) u h4 K:=by
  intro h4 u a c K hu r HK
  exact zaH r (by simp) hu fun h5 r5 u5=>HK h5 r5 u5
 -- the end
 have fin:∀{h6:Heap} {x y:Value},Ext h h6→h6[b2]? =some (.cells #[.slice none 0 0,.slice none 0 0,.int .i64 0,.int .i64 0,.int .i64 0] 56 (0,0))→h6[b3]? =some (.cells #[x,y,.int .i64 w,.int .i64 hh,.int .i64 o.border] 56 (0,0))→
   Rp.Sl rLine (Since h3 h6) h6 x (zd4 o w).lines→Rp.Sl rLine (Since h3 h6) h6 y (zdc o hh).lines→(zd4 o w).n=w→(zdc o hh).n=hh→makeC o w hh=0→
   vK (ldsV 5 h6 (.pointer (some ⟨b3,0,none⟩))) fun v99=>stK 5 (.pointer (some ⟨b2,0,none⟩)) v99 h6 fun _ h101=>vK (ldsV 5 h101 (.pointer (some ⟨b2,0,none⟩))) fun v102=>RStgOut h (makeC o w hh) (makeS o w hh) (.tuple #[v102,.int .i64 0]) h101:=by
  intro h6 x y E q2 q3 Hx Hy nx ny hmc
  rw[zap (l:=[x,y,.int .i64 w,.int .i64 hh,.int .i64 o.border]) q3 5 rfl,zaa]
  have ones:∀v∈[x,y,.int .i64 w,.int .i64 hh,.int .i64 o.border],zam v=true:=zad Hx.one (zad Hy.one (zad rfl (zad rfl (zad rfl zaq))))
  refine zbA (l:=[x,y,.int .i64 w,.int .i64 hh,.int .i64 o.border]) q2 rfl ones rfl fun h7 r7 u7=>?_
  rw[zap r7 5 rfl,zaa]
  have hz:∀c,c<h6.size→Since h3 h6 c→¬c=b2:=fun c _ hz he=>by
   have:=hz.1
   have:=zaz r2
   omega
  refine⟨_,by rw[hmc],E.upd k2 u7,fun h=>absurd hmc h,fun _=>⟨x,y,?_,?_,?_⟩⟩
  ·show _=[x,y,.int .i64 (zd4 o w).n,.int .i64 (zdc o hh).n,.int .i64 o.border]
   rw[nx,ny]
  ·exact(Hx.fr u7.fr hz).mono fun c hc hz=>⟨Nat.le_trans e03.1 hz.1,hc⟩
  ·exact(Hy.fr u7.fr hz).mono fun c hc hz=>⟨Nat.le_trans e03.1 hz.1,hc⟩
 have nX:(zd4 o w).n=w:=by unfold zd4;split<;>rfl
 have nY:(zdc o hh).n=hh:=by unfold zdc;split<;>rfl
 simp only[go_sem,zab r1]
 refine zac (fun hk=>?_) (fun hk=>?_)
 ·refine zmO.mono fun v h5 ⟨e,wq⟩=>?_
  have wq:=wq.symm
  subst e wq
  by_cases hrw:¬zav o.w
  ·have hmc:=m6 (.inl (by unfold opMay;rintro⟨_,_,hx⟩;exact hrw (hx hk).1))
   simp only[go_sem,hrw,zcV,Option.map_some]
   exact bad 6 _ hmc (by omega) e3
  have hrw:zav o.w:=Decidable.of_not_not hrw
  simp only[go_sem,hrw,zab r1]
  refine zmO.mono fun v h5 ⟨e,wq⟩=>?_
  have wq:=wq.symm
  subst e wq
  by_cases hrh:¬zav o.hh
  ·have hmc:=m6 (.inl (by unfold opMay;rintro⟨_,_,hx⟩;exact hrh (hx hk).2.1))
   simp only[go_sem,hrh,zcV,Option.map_some]
   exact bad 6 _ hmc (by omega) e3
  have hrh:zav o.hh:=Decidable.of_not_not hrh
  simp only[go_sem,hrh,zab r1]
  refine zac (fun hfl=>?_) (fun hfl=>?_)
  ·have hmc:=m6 (.inl (by unfold opMay;rintro⟨_,_,hx⟩;have:=(hx hk).2.2;omega))
   simp only[zcV,Option.map_some,zaa]
   exact bad 6 _ hmc (by omega) e3
  have hom:opMay o:=⟨hk0,hb0,fun _=>⟨hrw,hrh,by omega,by omega⟩⟩
  have hmt:=mt hom
  unfold zec at hmt
  rw[if_pos hk]at hmt
  have tX:(zd4 o w).lines=(zb8 o.filter w o.w).lines:=by unfold zd4;rw[if_pos hk]
  have tY:(zdc o hh).lines=(zb8 o.filter hh o.hh).lines:=by unfold zdc;rw[if_pos hk]
  refine(zrf W.filter hw W.w).mono fun r h4 ⟨p,e,e4,p0,p1⟩=>?_
  subst e
  simp only[go_sem]
  have po:zam p=true:=by
   by_cases hc:zbE o.filter w o.w=0
   ·obtain⟨_,_,e⟩:=(p1 hc).isSl;rw[e];rfl
   ·rw[p0 hc];rfl
  refine put0 po (e4.row r3) fun h5 r5 u5=>?_
  have E5:=(e03.trans e4).upd k3 u5
  have E25:=(e3.trans e4).upd n3 u5
  refine zac (fun hc=>?_) (fun hc=>?_)
  ·rw[if_pos hc]at hmt
   simp only[zcV,Option.map_some,zaa]
   exact bad _ _ hmt hc E25
  have hc:zbE o.filter w o.w=0:=Decidable.of_not_not hc
  rw[if_neg (by simpa using hc)]at hmt
  have r1':=u5.row (Ne.symm hb3) (e4.row r1)
  simp only[go_sem,zab r1']
  refine(zrf W.filter hhh W.hh).mono fun r h6 ⟨q,e,e6,q0,q1⟩=>?_
  subst e
  simp only[go_sem]
  have qo:zam q=true:=by
   by_cases hc:zbE o.filter hh o.hh=0
   ·obtain⟨_,_,e⟩:=(q1 hc).isSl;rw[e];rfl
   ·rw[q0 hc];rfl
  refine put1 qo (e6.row r5) fun h7 r7 u7=>?_
  have E7:=(E5.trans e6).upd k3 u7
  have E27:=(E25.trans e6).upd n3 u7
  refine zac (fun hc2=>?_) (fun hc2=>?_)
  ·simp only[zcV,Option.map_some,zaa]
   exact bad _ _ hmt hc2 E27
  have hc2:zbE o.filter hh o.hh=0:=Decidable.of_not_not hc2
  have zz:∀{a d:Heap},h3.size≤a.size→∀c,c<d.size→Since a d c→¬c=b3:=fun ha c _ hz he=>by
   have:=hz.1
   omega
  refine fin E7 (u7.row (Ne.symm hb32) (e6.row (u5.row (Ne.symm hb32) (e4.row r2)))) r7 ?_ ?_ nX nY (by rw[hmt,hc2])
  ·rw[tX]
   have a1:=(p1 hc).sl.fr u5.fr (zz (Nat.le_refl _))
   have a2:=(a1.ext e6).mono (Z':=Since h3 h6) fun c _ hz=>⟨hz.1,by have:=hz.2;have:=u5.1;have:=e6.1;omega⟩
   exact(a2.fr u7.fr (zz (Nat.le_refl _))).mono fun c hc hz=>⟨hz.1,hc⟩
  ·rw[tY]
   have b1:h3.size≤h5.size:=by have:=e4.1;have:=u5.1;omega
   exact((q1 hc2).sl.fr u7.fr (zz b1)).mono fun c hc hz=>⟨Nat.le_trans b1 hz.1,hc⟩
 have hom:opMay o:=⟨hk0,hb0,fun h=>absurd h hk⟩
 have hmt:=mt hom
 unfold zec at hmt
 rw[if_neg hk]at hmt
 have tX:(zd4 o w).lines=(zej (zbc o) w).lines:=by unfold zd4;rw[if_neg hk]
 have tY:(zdc o hh).lines=(zej (zbm o) hh).lines:=by unfold zdc;rw[if_neg hk]
 refine zar (fun xs h4=>∃u v,xs=[.int .i64 (zcv o),u,v]∧Ext h3 h4∧(zcv o=0→SlI (Since h3 h4) h4 u (zbc o)∧SlI (Since h3 h4) h4 v (zbm o))) ?_ ?_
 ·refine zac (fun k0=>?_) (fun k0=>?_)
  ·refine(c_r6Gaussian W.sigma).mono fun r h4 ⟨u,e,N⟩=>?_
   subst e
   simp only[go_sem]
   have c1:zcv o=zpI o.sigma:=by unfold zcv;rw[if_pos k0]
   have c2:zbc o=zhJ o.sigma:=by unfold zbc;rw[if_pos k0]
   have c3:zbm o=zhJ o.sigma:=by unfold zbm;rw[if_pos k0]
   rw[c1,c2,c3]
   exact⟨u,u,rfl,N.2.1,fun _=>⟨N.since (Ext.refl _),N.since (Ext.refl _)⟩⟩
  refine zac (fun k1=>?_) (fun k1=>?_)
  ·simp only[go_sem,zab r1]
   refine(c_r6Blur W.radius).mono fun r h4 ⟨u,e,N⟩=>?_
   subst e
   simp only[go_sem]
   have c1:zcv o=blurC o.radius:=by unfold zcv;rw[if_neg k0,if_pos k1]
   have c2:zbc o=blurW o.radius:=by unfold zbc;rw[if_neg k0,if_pos k1]
   have c3:zbm o=blurW o.radius:=by unfold zbm;rw[if_neg k0,if_pos k1]
   rw[c1,c2,c3]
   exact⟨u,u,rfl,N.2.1,fun _=>⟨N.since (Ext.refl _),N.since (Ext.refl _)⟩⟩
  have k2:(o.kind=2)=True:=eq_true (by omega)
  simp only[go_sem,zab r1,k2]
  have c1:zcv o=if userC o.x≠0 then userC o.x else userC o.y:=by unfold zcv;rw[if_neg k0,if_neg k1]
  have c2:zbc o=userW o.x:=by unfold zbc;rw[if_neg k0,if_neg k1]
  have c3:zbm o=userW o.y:=by unfold zbm;rw[if_neg k0,if_neg k1]
  refine(zsQ (Hx.ext e03) W.x lx).mono fun r h4 ⟨u,e,N⟩=>?_
  subst e
  simp only[go_sem,zab (N.2.1.row r1)]
  refine(zsQ (Hy.ext (e03.trans N.2.1)) W.y ly).mono fun r h5 ⟨v,e,M⟩=>?_
  subst e
  simp only[go_sem]
  have s1:SlI (Since h3 h5) h5 u (userW o.x):=((N.since (Ext.refl _)).ext M.2.1).mono fun c hc hz=>⟨hz.1,Nat.lt_of_lt_of_le hz.2 M.2.1.1⟩
  have s2:SlI (Since h3 h5) h5 v (userW o.y):=M.since N.2.1
  rw[c1,c2,c3]
  refine zac (fun hc=>?_) (fun hc=>?_)
  ·rw[if_neg (by simpa using hc)]
   exact⟨u,v,rfl,N.2.1.trans M.2.1,fun _=>⟨s1,s2⟩⟩
  ·rw[if_pos hc]
   exact⟨u,v,rfl,N.2.1.trans M.2.1,fun _=>⟨s1,s2⟩⟩
 rintro xs ρj h4 ⟨u,v,rfl,e4,hu⟩
 have e34:=e4
 simp only[go_sem]
 refine zac (fun hc=>?_) (fun hc=>?_)
 ·rw[if_pos hc]at hmt
  simp only[zcV,Option.map_some,zaa]
  exact bad _ _ hmt hc (e3.trans e4)
 have hc0:zcv o=0:=Decidable.of_not_not hc
 rw[if_neg hc]at hmt
 obtain⟨Hu,Hv⟩:=hu hc0
 refine(zrg Hu (ziU o) (znI o) hw).mono fun r h5 ⟨p,e,e5,p0,p1⟩=>?_
 subst e
 simp only[go_sem]
 have po:zam p=true:=by
  by_cases hc:zdR (zbc o) w=0
  ·obtain⟨_,_,e⟩:=(p1 hc).isSl;rw[e];rfl
  ·rw[p0 hc];rfl
 refine put0 po ((e4.trans e5).row r3) fun h6 r6 u6=>?_
 have E6:=(e03.trans (e4.trans e5)).upd k3 u6
 have E26:=(e3.trans (e4.trans e5)).upd n3 u6
 refine zac (fun hc=>?_) (fun hc=>?_)
 ·rw[if_pos hc]at hmt
  simp only[zcV,Option.map_some,zaa]
  exact bad _ _ hmt hc E26
 have hc:zdR (zbc o) w=0:=Decidable.of_not_not hc
 rw[if_neg (by simpa using hc)]at hmt
 have zz:∀{a d:Heap},h3.size≤a.size→∀c,c<d.size→Since a d c→¬c=b3:=fun ha c _ hz he=>by
  have:=hz.1
  omega
 refine(zrg ((Hv.ext e5).fr u6.fr fun c _ hz he=>by have:=hz.1;omega) (ziT o) (znH o) hhh).mono fun r h7 ⟨q,e,e7,q0,q1⟩=>?_
 subst e
 simp only[go_sem]
 have qo:zam q=true:=by
  by_cases hc:zdR (zbm o) hh=0
  ·obtain⟨_,_,e⟩:=(q1 hc).isSl;rw[e];rfl
  ·rw[q0 hc];rfl
 refine put1 qo (e7.row r6) fun h8 r8 u8=>?_
 have E8:=(E6.trans e7).upd k3 u8
 have E28:=(E26.trans e7).upd n3 u8
 refine zac (fun hc2=>?_) (fun hc2=>?_)
 ·simp only[zcV,Option.map_some,zaa]
  exact bad _ _ hmt hc2 E28
 have hc2:zdR (zbm o) hh=0:=Decidable.of_not_not hc2
 refine fin E8 (u8.row (Ne.symm hb32) (e7.row (u6.row (Ne.symm hb32) ((e4.trans e5).row r2)))) r8 ?_ ?_ nX nY (by rw[hmt,hc2])
 ·rw[tX]
  have a1:=(p1 hc).sl.fr u6.fr (zz e4.1)
  have a2:=(a1.ext e7).mono (Z':=Since h3 h7) fun c _ hz=>⟨Nat.le_trans e4.1 hz.1,by have:=hz.2;have:=u6.1;have:=e7.1;omega⟩
  exact(a2.fr u8.fr (zz (Nat.le_refl _))).mono fun c hc hz=>⟨hz.1,hc⟩
 ·rw[tY]
  have b1:h3.size≤h6.size:=by have:=e4.1;have:=e5.1;have:=u6.1;omega
  exact((q1 hc2).sl.fr u8.fr (zz b1)).mono fun c hc hz=>⟨Nat.le_trans b1 hz.1,hc⟩
theorem c_r12Size {Z:Nat→Prop}{h:Heap}{cs:List Value}{o:OpD}(H:rOp.R Z h cs o){w hh:Int}:FCall prog zjD #[.agg cs.toArray,.int .i64 w,.int .i64 hh] h fun r h'=>
  r=.tuple #[.int .i64 (if o.kind=3 then o.w else w),.int .i64 (if o.kind=3 then o.hh else hh)]∧Ext h h':=by
 apply zrY
 unfold zlE
 obtain⟨s,t,rfl,Hx,Hy⟩:=H
 simp only[zaB]
 refine zag fun b h1 r1 e1 n1=>?_
 simp only[go_sem,zab r1]
 refine zac (fun hk=>?_) (fun hk=>?_)
 ·rw[if_pos hk,if_pos hk];exact⟨rfl,e1⟩
 ·rw[if_neg hk,if_neg hk];exact⟨rfl,e1⟩
end Go.Proofs.YtcoimlclclnlkaaGreatDoor
namespace Go.Proofs.YtcoimlclclnlkaaGreatDoor
open Go Go.Crisp
attribute [local irreducible] FCall rowK newK stK iteK vK qK drawK gK joinK loopK mkK appK cpyK zoB zmd bsK
open _root_.Go.Proofs.Tryz
theorem rI_cell {Z:Nat→Prop}{h:Heap}{v:Value}{l:List Int}(H:Rp.Sl rI Z h v l){i:Nat}(hi:i<l.length):
  ∃p,idxV 1 v (.int .i64 (i:Int))=some p∧ldV h p=some (.int .i64 l[i]):=by
 obtain⟨p,c,hp,hc,hR⟩:=H.at1 rfl (k:=.i64) hi
 have hR:[c]=[.int .i64 l[i]]:=hR
 obtain rfl:c=.int .i64 l[i]:=by simpa using hR
 exact⟨p,hp,hc⟩
theorem c_Same06 {h:Heap}{Z Z':Nat→Prop}{v u:Value}{l:List Int}(H:Rp.Sl rI Z h v l)(K:Rp.Sl rI Z' h u l)(hl:l.length≤4398046511104):
  FCall prog zg4 #[v,u] h fun r h'=>r=.bool true∧h'=h:=by
 apply zr5
 unfold zlL
 have H0:=H
 have K0:=K
 obtain⟨a,c,rfl⟩:=H.isSl
 obtain⟨a',c',rfl⟩:=K.isSl
 simp only[go_sem]
 refine znj l.length (fun i h2=>i≤l.length∧h2=h) ⟨by omega,rfl⟩ ?_
 rintro i _ again ρj ⟨hi,rfl⟩ hag
 simp only[go_sem]
 refine zac (fun h1=>?_) (fun h1=>?_)
 ·have hi':i<l.length:=by omega
  obtain⟨p,hp,hc⟩:=rI_cell H0 hi'
  obtain⟨q,hq,hd⟩:=rI_cell K0 hi'
  simp only[go_sem,hp,hc,hq,hd]
  rw[w64 (by omega) (by omega)]
  exact hag _ hi' ⟨by omega,rfl⟩
 ·exact⟨trivial,trivial⟩
theorem c_Ref {h:Heap}{Z:Nat→Prop}{cs:List Value}{o:OpD}(H:rOp.R Z h cs o):
  FCall prog zlo #[.agg cs.toArray] h fun r h'=>r=.agg cs.toArray∧rOp.R Z h' cs o∧Ext h h':=by
 apply ok_law12_Ref
 unfold zn2
 have H0:=H
 obtain⟨s,t,rfl,Hx,Hy⟩:=H
 have os:=Hx.one
 have ot:=Hy.one
 simp only[zaB]
 refine zag fun b1 h1 r1 e1 n1=>zag fun b2 h2 r2 e2 n2=>?_
 have r1:=e2.row r1
 have e:=e1.trans e2
 have s1:=e1.1
 simp only[go_sem,zab r1]
 have hf:fillL #[(.int .i64 0),(.int .i64 0),(.int .i64 0),(.int .i64 0),(.slice none 0 0),(.slice none 0 0),(.int .i64 0),(.int .i64 0),(.int .i64 0)]
   [(0,1,(.int .i64 o.kind)),(1,1,(.int .i64 o.border)),(2,1,(.int .i64 o.sigma)),(3,1,(.int .i64 o.radius)),(4,1,s),(5,1,t),(6,1,(.int .i64 o.filter)),(7,1,(.int .i64 o.w)),(8,1,(.int .i64 o.hh))]=
   some #[.int .i64 o.kind,.int .i64 o.border,.int .i64 o.sigma,.int .i64 o.radius,s,t,.int .i64 o.filter,.int .i64 o.w,.int .i64 o.hh]:=by
  simp[fillL,zaK os,zaK ot,zaK (show zam (.int _ _)=true from rfl)]
 rw[hf,Option.map_some,zaa]
 refine zbA (l:=[.int .i64 o.kind,.int .i64 o.border,.int .i64 o.sigma,.int .i64 o.radius,s,t,.int .i64 o.filter,.int .i64 o.w,.int .i64 o.hh]) r2 rfl (rOp.one H0) rfl fun h3 r3 u3=>?_
 rw[zap r3 9 rfl,zaa]
 exact⟨rfl,rOp.ext H0 (e.upd (by omega) u3),e.upd (by omega) u3⟩
end Go.Proofs.YtcoimlclclnlkaaGreatDoor
namespace Go.Proofs.YtcoimlclclnlkaaGreatDoor
open Go Go.Crisp
attribute [local irreducible] FCall rowK newK stK iteK vK qK drawK gK joinK loopK mkK appK cpyK zoB zmd bsK clK
open _root_.Go.Proofs.Tryz
def fitsZ (w h c:Int):Prop:=1≤w∧w≤65536∧1≤h∧h≤65536∧(c=1∨c=3)∧w*h*c≤268435456
instance (w h c:Int):Decidable (fitsZ w h c):=by unfold fitsZ;infer_instance
theorem c_Fits {h:Heap}{x y c:Int}:FCall prog zdZ #[.int .i64 x,.int .i64 y,.int .i64 c] h fun r h'=>r=.bool (decide (fitsZ x y c))∧h'=h:=by
 apply zqj
 unfold zkv
 simp only[go_sem]
 refine⟨?_,trivial⟩
 congr 1
 rw[decide_eq_decide]
 unfold fitsZ
 by_cases h1:1≤x∧x≤65536∧1≤y∧y≤65536∧(c=1∨c=3)
 ·have hm:=zf8 (a:=x) (A:=65536) (b:=y) (B:=65536) (by omega) (by omega) (by omega) (by omega)
  rw[w64 (n:=x*y) (by omega) (by omega),w64 (n:=x*y*c) (by rcases h1.2.2.2.2 with h|h<;>subst h<;>omega) (by rcases h1.2.2.2.2 with h|h<;>subst h<;>omega)]
  omega
 ·omega
theorem c_r9Fits {h:Heap}{x y c:Int}:FCall prog zg1 #[.int .i64 x,.int .i64 y,.int .i64 c] h fun r h'=>r=.bool (decide (fitsZ x y c))∧h'=h:=by
 apply zr0
 unfold zlG
 simp only[go_sem]
 refine zac (fun h0=>?_) (fun h0=>?_)
 ·refine⟨?_,trivial⟩
  rw[decide_eq_false]
  unfold fitsZ;omega
 refine zac (fun h1=>?_) (fun h1=>?_)
 ·refine⟨?_,trivial⟩
  rw[decide_eq_false]
  unfold fitsZ;omega
 have hm:=zf8 (a:=x) (A:=65536) (b:=y) (B:=65536) (by omega) (by omega) (by omega) (by omega)
 rw[w64 (n:=x*y) (by omega) (by omega),zez _ _ _ _ (by omega),zaa]
 simp only[go_sem]
 refine⟨?_,trivial⟩
 congr 1
 rw[decide_eq_decide]
 unfold fitsZ
 have hc:c=1∨c=3:=by omega
 rcases hc with hc|hc<;>subst hc
 ·rw[show Int.tdiv 268435456 1=268435456 from by decide,w64 (by omega) (by omega)];omega
 ·rw[show Int.tdiv 268435456 3=89478485 from by decide,w64 (by omega) (by omega)];omega
def sizeW (o:OpD)(w:Int):Int:=if o.kind=3 then o.w else w
def sizeH (o:OpD)(h:Int):Int:=if o.kind=3 then o.hh else h
def allC (c:Int):List OpD→Int→Int→Int
 | [],_,_=>0
 |o::l,w,h=>if makeC o w h≠0 then makeC o w h else if¬fitsZ (sizeW o w) (sizeH o h) c then 5 else allC c l (sizeW o w) (sizeH o h)
def allS:List OpD→Int→Int→List Stg
 | [],_,_=>[]
 |o::l,w,h=>makeS o w h::allS l (sizeW o w) (sizeH o h)
def opsC (l:List OpD)(w h c:Int):Int:=if 16<l.length then 6 else if¬fitsZ w h c then 5 else allC c l w h
def rStgP:Rp Stg where
 w:=3
 R:=fun Z h cs s=>∃p q,cs=[p,q,.int .i64 s.border]∧IsTbl Z h p s.x∧IsTbl Z h q s.y
 len:=by rintro _ _ _ _ ⟨x,y,rfl,_⟩;rfl
 one:=by
  rintro _ _ _ _ ⟨x,y,rfl,H,K⟩
  exact zad (ze5 H) (zad (ze5 K) (zad rfl zaq))
 fr:=by rintro _ _ _ _ _ _ ⟨x,y,rfl,H,K⟩ f q;exact⟨x,y,rfl,Rp.Pt.fr H f q,Rp.Pt.fr K f q⟩
 mono:=by rintro _ _ _ _ _ ⟨x,y,rfl,H,K⟩ q;exact⟨x,y,rfl,Rp.Pt.mono H q,Rp.Pt.mono K q⟩
def AllOut (e:Rp Stg)(h:Heap)(code:Int)(l:List Stg)(r:Value)(h':Heap):Prop:=∃v,r=.tuple #[v,.int .i64 code]∧Ext h h'∧(code≠0→v=.slice none 0 0)∧(code=0→NewR e h h' v l)
structure OpsWf (l:List OpD):Prop where
 wf:∀o∈l,o.Wf
 len:∀o∈l,o.x.length≤17592186044416∧o.y.length≤17592186044416
 few:l.length≤4398046511104
theorem size_I64 {o:OpD}(W:o.Wf){w h:Int}(hw:I64 w)(hh:I64 h):I64 (sizeW o w)∧I64 (sizeH o h):=by
 unfold sizeW sizeH
 constructor
 ·split;exact W.w;exact hw
 ·split;exact W.hh;exact hh
theorem drop_cons {α:Type}{l:List α}{k:Nat}(h:k<l.length):l.drop k=l[k]::l.drop (k+1):=List.drop_eq_getElem_cons h
theorem c_opAll {Z:Nat→Prop}{h:Heap}(G:GlobB h){v:Value}{l:List OpD}(H:Rp.Sl rOp Z h v l)(W:OpsWf l){w hh c:Int}(hw:I64 w)(hhh:I64 hh):
  FCall prog zs0 #[v,.int .i64 w,.int .i64 hh,.int .i64 c] h (AllOut rStgP h (opsC l w hh c) (allS l w hh)):=by
 apply ok_op_All
 unfold sh_op_All
 obtain⟨a,cap,e⟩:=H.isSl
 have e2:zaf v=some (.int .i64 (l.length:Int)):=by rw[e];rfl
 rw[e2,zaa]
 have few:=W.few
 have ro:opsC l w hh c=if 16<l.length then 6 else if¬fitsZ w hh c then 5 else allC c l w hh:=rfl
 simp only[go_sem]
 refine zac (fun h0=>?_) (fun h0=>?_)
 ·rw[if_pos (by omega)]at ro
  rw[ro]
  exact⟨_,rfl,Ext.refl _,fun _=>rfl,fun h=>by cases h⟩
 rw[if_neg (by omega)]at ro
 refine c_Fits.mono fun r h1 ⟨e,wq⟩=>?_
 have wq:=wq.symm
 subst e wq
 simp only[go_sem]
 refine zac (fun h1=>?_) (fun h1=>?_)
 ·rw[if_pos h1]at ro
  rw[ro]
  exact⟨_,rfl,Ext.refl _,fun _=>rfl,fun h=>by cases h⟩
 rw[if_neg h1]at ro
 try rw[e2,zaa]
 refine zaF (α:=Int×Int×Value) l.length 0 (fun k a=>[.int .i64 a.1,.int .i64 a.2.1,a.2.2,.int .i64 (k:Int)])
  (fun k a h'=>I64 a.1∧I64 a.2.1∧opsC l w hh c=allC c (l.drop k) a.1 a.2.1∧∃done,done.length=k∧allS l w hh=done++allS (l.drop k) a.1 a.2.1∧NewR rStgP h h' a.2.2 done) (w,hh,.slice none 0 0) rfl (Nat.zero_le _)
  ⟨hw,hhh,ro,[],rfl,rfl,NewR.nil (Ext.refl _)⟩ fun k a h2 again ρj _ hk ⟨iw,ih,hc,done,dl,hd,N⟩ Hag=>?_
 obtain⟨w1,hh1,out⟩:=a
 simp only[go_sem]
 have N:NewR rStgP h h2 out done:=N
 have iw:I64 w1:=iw
 have ih:I64 hh1:=ih
 refine zac (fun h3=>?_) (fun h3=>?_)
 ·have hk':k<l.length:=by omega
  have hc:opsC l w hh c=allC c (l.drop k) w1 hh1:=hc
  have hd:allS l w hh=done++allS (l.drop k) w1 hh1:=hd
  rw[drop_cons hk']at hc hd
  have hm:=List.getElem_mem hk'
  have Wo:=W.wf _ hm
  have Lo:=W.len _ hm
  obtain⟨p,cs,q1,q2,Ho⟩:=Rp.Sl.atw (e:=rOp) (H.ext N.exts) (show 0<9 by omega) (k:=.i64) hk'
  have q1:idxV 9 v (.int .i64 (k:Int))=some p:=q1
  have q2:ldsV 9 h2 p=some (.agg cs.toArray):=q2
  rw[q1,zaa,q2,zaa]
  have hlen:cs.length=9:=rOp.len Ho
  refine zbh (cs:=cs) hlen (rOp.one Ho) hlen fun b h4 r4 e4 n4=>?_
  rw[zap r4 9 hlen,zaa]
  have G4:=G.ext (N.exts.trans e4)
  have Ho4:=rOp.ext Ho e4
  generalize l[k]=o at*
  refine(zrn G4 Ho4 Wo (by omega) (by omega) iw ih).mono fun r h5 ⟨sv,e,e5,s0,s1⟩=>?_
  subst e
  simp only[go_sem]
  have so:∃ds:List Value,sv=.agg ds.toArray∧ds.length=3∧(∀x∈ds,zam x=true)∧(makeC o w1 hh1=0→rStgP.R (Since h4 h5) h5 ds (makeS o w1 hh1)):=by
   by_cases hm:makeC o w1 hh1=0
   ·obtain⟨p,q,e,t1,t2⟩:=s1 hm
    exact⟨[p,q,.int .i64 (makeS o w1 hh1).border],e,rfl,zad (ze5 t1) (zad (ze5 t2) (zad rfl zaq)),fun _=>⟨p,q,rfl,t1,t2⟩⟩
   ·exact⟨[.pointer none,.pointer none,.int .i64 0],s0 hm,rfl,zad rfl (zad rfl (zad rfl zaq)),fun h=>absurd h hm⟩
  obtain⟨ds,rfl,dl3,d1,dR⟩:=so
  refine zbh (cs:=ds) dl3 d1 dl3 fun b2 h6 r6 e6 n6=>?_
  have E26:Ext h2 h6:=e4.trans (e5.trans e6)
  refine zac (fun hc1=>?_) (fun hc1=>?_)
  ·unfold allC at hc
   rw[if_pos hc1]at hc
   rw[hc]
   exact⟨_,rfl,N.exts.trans E26,fun _=>rfl,fun h=>absurd h hc1⟩
  have hc1:makeC o w1 hh1=0:=Decidable.of_not_not hc1
  unfold allC at hc
  rw[if_neg (by simpa using hc1)]at hc
  have r4':=(e5.trans e6).row r4
  rw[zap r4' 9 hlen,zaa]
  refine(c_opSize (rOp.ext Ho4 (e5.trans e6))).mono fun r h7 ⟨e,e7⟩=>?_
  subst e
  simp only[go_sem]
  refine c_Fits.mono fun r h8 ⟨e,wq⟩=>?_
  have wq:=wq.symm
  subst e wq
  simp only[go_sem]
  refine zac (fun h8=>?_) (fun h8=>?_)
  ·have h8:¬fitsZ (sizeW o w1) (sizeH o hh1) c:=h8
   rw[if_pos h8]at hc
   rw[hc]
   exact⟨_,rfl,N.exts.trans (E26.trans e7),fun _=>rfl,fun h=>by cases h⟩
  have h8:¬ ¬fitsZ (sizeW o w1) (sizeH o hh1) c:=h8
  rw[if_neg h8]at hc
  rw[zap (e7.row r6) 3 dl3,zaa]
  have E27:=E26.trans e7
  have N7:=N.ext E27
  have R7:=rStgP.ext (dR hc1) (e6.trans e7)
  refine NewR.push (e:=rStgP) (Y:=Since h4 h5) N7 R7 (fun b hb=>⟨Nat.le_trans (N.exts.trans e4).1 hb.1,?_,fun hv=>?_⟩) rfl rfl (by rw[dl];omega) (by rw[dl];omega) fun s' h' N' _ _=>?_
  ·have:=hb.2
   have:=e6.1
   have:=e7.1
   omega
  ·have h9:=N.lt hv
   have h10:=hb.1
   have h11:=e4.1
   omega
  ·try simp only[go_sem]
   rw[w64 (by omega) (by omega)]
   have hs:=size_I64 Wo iw ih
   refine Hag (sizeW o w1,sizeH o hh1,s') h' hk' ⟨hs.1,hs.2,hc,done++[makeS o w1 hh1],by simp[dl],?_,N'⟩
   rw[List.append_assoc]
   exact hd
 ·have hkn:k=l.length:=by omega
  subst hkn
  have hc:opsC l w hh c=allC c (l.drop l.length) w1 hh1:=hc
  have hd:allS l w hh=done++allS (l.drop l.length) w1 hh1:=hd
  rw[List.drop_length]at hc hd
  have hc:opsC l w hh c=0:=hc
  rw[hc,hd]
  refine⟨_,rfl,N.exts,fun h=>absurd rfl h,fun _=>?_⟩
  rw[show allS [] w1 hh1=[]from rfl,List.append_nil]
  exact N
theorem c_r12All {Z:Nat→Prop}{h:Heap}{v:Value}{l:List OpD}(H:Rp.Sl rOp Z h v l)(W:OpsWf l){w hh c:Int}(hw:I64 w)(hhh:I64 hh):
  FCall prog zlh #[v,.int .i64 w,.int .i64 hh,.int .i64 c] h (AllOut rStg h (opsC l w hh c) (allS l w hh)):=by
 apply ok_ref12_All
 unfold znP
 obtain⟨a,cap,e⟩:=H.isSl
 have e2:zaf v=some (.int .i64 (l.length:Int)):=by rw[e];rfl
 rw[e2,zaa]
 have few:=W.few
 have ro:opsC l w hh c=if 16<l.length then 6 else if¬fitsZ w hh c then 5 else allC c l w hh:=rfl
 simp only[go_sem]
 refine zac (fun h0=>?_) (fun h0=>?_)
 ·rw[if_pos (by omega)]at ro
  rw[ro]
  exact⟨_,rfl,Ext.refl _,fun _=>rfl,fun h=>by cases h⟩
 rw[if_neg (by omega)]at ro
 refine c_r9Fits.mono fun r h1 ⟨e,wq⟩=>?_
 have wq:=wq.symm
 subst e wq
 simp only[go_sem]
 refine zac (fun h1=>?_) (fun h1=>?_)
 ·rw[if_pos h1]at ro
  rw[ro]
  exact⟨_,rfl,Ext.refl _,fun _=>rfl,fun h=>by cases h⟩
 rw[if_neg h1]at ro
 try rw[e2,zaa]
 refine zaF (α:=Int×Int×Value) l.length 0 (fun k a=>[.int .i64 a.1,.int .i64 a.2.1,a.2.2,.int .i64 (k:Int)])
  (fun k a h'=>I64 a.1∧I64 a.2.1∧opsC l w hh c=allC c (l.drop k) a.1 a.2.1∧∃done,done.length=k∧allS l w hh=done++allS (l.drop k) a.1 a.2.1∧NewR rStg h h' a.2.2 done) (w,hh,.slice none 0 0) rfl (Nat.zero_le _)
  ⟨hw,hhh,ro,[],rfl,rfl,NewR.nil (Ext.refl _)⟩ fun k a h2 again ρj _ hk ⟨iw,ih,hc,done,dl,hd,N⟩ Hag=>?_
 obtain⟨w1,hh1,out⟩:=a
 simp only[go_sem]
 have N:NewR rStg h h2 out done:=N
 have iw:I64 w1:=iw
 have ih:I64 hh1:=ih
 refine zac (fun h3=>?_) (fun h3=>?_)
 ·have hk':k<l.length:=by omega
  have hc:opsC l w hh c=allC c (l.drop k) w1 hh1:=hc
  have hd:allS l w hh=done++allS (l.drop k) w1 hh1:=hd
  rw[drop_cons hk']at hc hd
  have hm:=List.getElem_mem hk'
  have Wo:=W.wf _ hm
  have Lo:=W.len _ hm
  obtain⟨p,cs,q1,q2,Ho⟩:=Rp.Sl.atw (e:=rOp) (H.ext N.exts) (show 0<9 by omega) (k:=.i64) hk'
  have q1:idxV 9 v (.int .i64 (k:Int))=some p:=q1
  have q2:ldsV 9 h2 p=some (.agg cs.toArray):=q2
  rw[q1,zaa,q2,zaa]
  have hlen:cs.length=9:=rOp.len Ho
  refine zbh (cs:=cs) hlen (rOp.one Ho) hlen fun b h4 r4 e4 n4=>?_
  rw[zap r4 9 hlen,zaa]
  have Ho4:=rOp.ext Ho e4
  generalize l[k]=o at*
  refine(c_r12Make Ho4 Wo (by omega) (by omega) iw ih).mono fun r h5 ⟨ds,e,e5,s0,dR⟩=>?_
  subst e
  simp only[go_sem]
  have so:ds.length=5∧(∀x∈ds,zam x=true):=by
   by_cases hm:makeC o w1 hh1=0
   ·exact⟨rStg.len (dR hm),rStg.one (dR hm)⟩
   ·rw[s0 hm];exact⟨rfl,zad rfl (zad rfl (zad rfl (zad rfl (zad rfl zaq))))⟩
  obtain⟨dl3,d1⟩:=so
  refine zbh (cs:=ds) dl3 d1 dl3 fun b2 h6 r6 e6 n6=>?_
  have E26:Ext h2 h6:=e4.trans (e5.trans e6)
  refine zac (fun hc1=>?_) (fun hc1=>?_)
  ·unfold allC at hc
   rw[if_pos hc1]at hc
   rw[hc]
   exact⟨_,rfl,N.exts.trans E26,fun _=>rfl,fun h=>absurd h hc1⟩
  have hc1:makeC o w1 hh1=0:=Decidable.of_not_not hc1
  unfold allC at hc
  rw[if_neg (by simpa using hc1)]at hc
  have r4':=(e5.trans e6).row r4
  rw[zap r4' 9 hlen,zaa]
  refine(c_r12Size (rOp.ext Ho4 (e5.trans e6))).mono fun r h7 ⟨e,e7⟩=>?_
  subst e
  simp only[go_sem]
  refine c_r9Fits.mono fun r h8 ⟨e,wq⟩=>?_
  have wq:=wq.symm
  subst e wq
  simp only[go_sem]
  refine zac (fun h8=>?_) (fun h8=>?_)
  ·have h8:¬fitsZ (sizeW o w1) (sizeH o hh1) c:=h8
   rw[if_pos h8]at hc
   rw[hc]
   exact⟨_,rfl,N.exts.trans (E26.trans e7),fun _=>rfl,fun h=>by cases h⟩
  have h8:¬ ¬fitsZ (sizeW o w1) (sizeH o hh1) c:=h8
  rw[if_neg h8]at hc
  rw[zap (e7.row r6) 5 dl3,zaa]
  have E27:=E26.trans e7
  have N7:=N.ext E27
  have R7:=rStg.ext (dR hc1) (e6.trans e7)
  refine NewR.push (e:=rStg) (Y:=Since h4 h5) N7 R7 (fun b hb=>⟨Nat.le_trans (N.exts.trans e4).1 hb.1,?_,fun hv=>?_⟩) rfl rfl (by rw[dl];omega) (by rw[dl];omega) fun s' h' N' _ _=>?_
  ·have:=hb.2
   have:=e6.1
   have:=e7.1
   omega
  ·have h9:=N.lt hv
   have h10:=hb.1
   have h11:=e4.1
   omega
  ·try simp only[go_sem]
   rw[w64 (by omega) (by omega)]
   have hs:=size_I64 Wo iw ih
   refine Hag (sizeW o w1,sizeH o hh1,s') h' hk' ⟨hs.1,hs.2,hc,done++[makeS o w1 hh1],by simp[dl],?_,N'⟩
   rw[List.append_assoc]
   exact hd
 ·have hkn:k=l.length:=by omega
  subst hkn
  have hc:opsC l w hh c=allC c (l.drop l.length) w1 hh1:=hc
  have hd:allS l w hh=done++allS (l.drop l.length) w1 hh1:=hd
  rw[List.drop_length]at hc hd
  have hc:opsC l w hh c=0:=hc
  rw[hc,hd]
  refine⟨_,rfl,N.exts,fun h=>absurd rfl h,fun _=>?_⟩
  rw[show allS [] w1 hh1=[]from rfl,List.append_nil]
  exact N
theorem c_Refs {Z:Nat→Prop}{h:Heap}{v:Value}{l:List OpD}(H:Rp.Sl rOp Z h v l)(few:l.length≤4398046):
  FCall prog zjK #[v] h fun r h'=>Rp.Sl rOp (fun _=>True) h' r l∧Ext h h':=by
 apply zsi
 unfold zlY
 obtain⟨a,cap,e⟩:=H.isSl
 have e2:zaf v=some (.int .i64 (l.length:Int)):=by rw[e];rfl
 rw[e2,zaa]
 have H:=H.mono (Z':=fun c=>c<h.size) fun c hc _=>hc
 refine zaF (α:=Value) l.length 0 (fun k a=>[a,.int .i64 (k:Int)])
  (fun k a h'=>Rp.Ow rOp (fun c=>c<h.size) h' a (l.take k)∧Ext h h'∧∀b,blk a b→h.size≤b) (.slice none 0 0) rfl (Nat.zero_le _)
  ⟨Rp.Ow.nil,Ext.refl _,fun b hb=>hb.elim⟩ fun k out h2 again ρj _ hk ⟨N,E,nb⟩ Hag=>?_
 simp only[go_sem]
 refine zac (fun h3=>?_) (fun h3=>?_)
 ·have hk':k<l.length:=by omega
  obtain⟨p,cs,q1,q2,Ho⟩:=Rp.Sl.atw (e:=rOp) (H.ext E) (show 0<9 by omega) (k:=.i64) hk'
  have q1:idxV 9 v (.int .i64 (k:Int))=some p:=q1
  have q2:ldsV 9 h2 p=some (.agg cs.toArray):=q2
  rw[q1,zaa,q2,zaa]
  have hlen:cs.length=9:=rOp.len Ho
  refine zbh (cs:=cs) hlen (rOp.one Ho) hlen fun b h4 r4 e4 n4=>?_
  rw[zap r4 9 hlen,zaa]
  refine(c_Ref (rOp.ext Ho e4)).mono fun r h5 ⟨e,Ho5,e5⟩=>?_
  subst e
  have E5:=(E.trans e4).trans e5
  have hlt:(l.take k).length=k:=by rw[List.length_take];omega
  refine Rp.push_ow (e:=rOp) (N.ext (e4.trans e5)) Ho5 rfl rfl (by rw[hlt];omega) (by rw[hlt];omega) (fun c hc=>Nat.lt_of_lt_of_le hc E5.1) fun s' h' o' f' n'=>?_
  try simp only[go_sem]
  rw[w64 (by omega) (by omega)]
  rw[←List.take_succ_eq_append_getElem hk']at o'
  refine Hag s' h' hk' ⟨o',E5.then_fr f' nb,fun c hc=>?_⟩
  rcases n' c hc with h6|h6
  ·exact nb c h6
  ·exact Nat.le_trans E5.1 h6
 ·rw[List.take_of_length_le (by omega)]at N
  exact⟨N.sl.mono fun _ _ _=>trivial,E⟩
abbrev rU:Rp Int:=Rp.int .u16
abbrev u16s (l:List Int):List Value:=l.map fun n=>Value.int .u16 n
structure Pic where
 w:Int
 h:Int
 c:Int
 most:Int
 l:List Int
structure Pic.Wf (m:Pic):Prop where
 fits:fitsZ m.w m.h m.c
 m1:1≤m.most
 m2:m.most≤65535
 len:(m.l.length:Int)=m.w*m.h*m.c
 smp:∀x∈m.l,0≤x∧x≤m.most
def inP (m:Pic)(x y c:Int):Prop:=0≤x∧x<m.w∧0≤y∧y<m.h∧0≤c∧c<m.c
instance (m:Pic)(x y c:Int):Decidable (inP m x y c):=by unfold inP;infer_instance
def posP (m:Pic)(x y c:Int):Int:=(y*m.w+x)*m.c+c
def atP (m:Pic)(x y c:Int):Int:=if inP m x y c then m.l.getD (posP m x y c).toNat 0 else 0
def setP (m:Pic)(x y c v:Int):Pic:={m with l:=m.l.set (posP m x y c).toNat v}
theorem zbv {w h c:Int}(f:fitsZ w h c):1≤w∧w≤65536∧1≤h∧h≤65536∧1≤c∧c≤3∧0≤w*h∧w*h≤4294967296∧0≤w*h*c∧w*h*c≤268435456:=by
 obtain⟨h1,h2,h3,h4,h5,h6⟩:=f
 have hm:=zf8 (a:=w) (A:=65536) (b:=h) (B:=65536) (by omega) (by omega) (by omega) (by omega)
 refine⟨h1,h2,h3,h4,by omega,by omega,hm.1,hm.2,Int.mul_nonneg hm.1 (by omega),h6⟩
theorem pos_bd {m:Pic}(W:m.Wf){x y c:Int}(h:inP m x y c):0≤y*m.w∧y*m.w+x≤4294967296∧0≤posP m x y c∧posP m x y c<m.l.length:=by
 obtain⟨h1,h2,h3,h4,h5,h6,h7,h8,h9,h10⟩:=zbv W.fits
 obtain⟨x0,x1,y0,y1,c0,c1⟩:=h
 have a0:0≤y*m.w:=Int.mul_nonneg y0 (by omega)
 have a1:y*m.w≤(m.h-1)*m.w:=Int.mul_le_mul_of_nonneg_right (by omega) (by omega)
 rw[Int.sub_mul,Int.one_mul,Int.mul_comm m.h]at a1
 have b0:0≤(y*m.w+x)*m.c:=Int.mul_nonneg (by omega) (by omega)
 have b1:(y*m.w+x)*m.c≤(m.w*m.h-1)*m.c:=Int.mul_le_mul_of_nonneg_right (by omega) (by omega)
 rw[Int.sub_mul,Int.one_mul]at b1
 have:=W.len
 unfold posP
 refine⟨a0,by omega,by omega,by omega⟩
structure IsImg (h:Heap)(b:Nat)(v:Value)(m:Pic):Prop where
 row:h[b]? =some (.cells #[.int .i64 m.w,.int .i64 m.h,.int .i64 m.c,.int .i64 m.most,v] 151 (0,0))
 own:Own 1 h v m.l.length (u16s m.l)
 ap:¬blk v b
abbrev ptr (b:Nat):Value:=.pointer (some ⟨b,0,none⟩)
theorem IsImg.fr {M:Nat→Prop}{h h':Heap}{b:Nat}{v:Value}{m:Pic}(H:IsImg h b v m)(f:Fr M h h')(hb:¬M b)(q:∀c,blk v c→¬M c):IsImg h' b v m:=⟨f.row H.row hb,H.own.fr f q,H.ap⟩
theorem IsImg.ext {h h':Heap}{b:Nat}{v:Value}{m:Pic}(H:IsImg h b v m)(e:Ext h h'):IsImg h' b v m:=H.fr (M:=fun _=>False) e.fr id fun _ _=>id
theorem IsImg.lt {h:Heap}{b:Nat}{v:Value}{m:Pic}(H:IsImg h b v m):b<h.size:=zaz H.row
theorem IsImg.ltv {h:Heap}{b:Nat}{v:Value}{m:Pic}(H:IsImg h b v m){c:Nat}(hc:blk v c):c<h.size:=H.own.lt hc
theorem zh7 {h:Heap}{b:Nat}{v:Value}{m:Pic}(H:IsImg h b v m):FCall prog zau #[ptr b] h fun r h'=>r=.int .i64 m.w∧h'=h:=by
 apply zjo
 unfold zeN
 simp only[go_sem,zab H.row]
 exact⟨by simp,by simp⟩
theorem zgZ {h:Heap}{b:Nat}{v:Value}{m:Pic}(H:IsImg h b v m):FCall prog zaw #[ptr b] h fun r h'=>r=.int .i64 m.h∧h'=h:=by
 apply ziQ
 unfold zd6
 simp only[go_sem,zab H.row]
 exact⟨by simp,by simp⟩
theorem zbH {h:Heap}{b:Nat}{v:Value}{m:Pic}(H:IsImg h b v m):FCall prog zak #[ptr b] h fun r h'=>r=.int .i64 m.c∧h'=h:=by
 apply zhI
 unfold zdB
 simp only[go_sem,zab H.row]
 exact⟨by simp,by simp⟩
theorem zhL {h:Heap}{b:Nat}{v:Value}{m:Pic}(H:IsImg h b v m):FCall prog zaO #[ptr b] h fun r h'=>r=.int .i64 m.most∧h'=h:=by
 apply zkc
 unfold zfk
 simp only[go_sem,zab H.row]
 exact⟨by simp,by simp⟩
theorem c_place {h:Heap}{b:Nat}{v:Value}{m:Pic}(H:IsImg h b v m)(W:m.Wf){x y c:Int}:FCall prog zcc #[ptr b,.int .i64 x,.int .i64 y,.int .i64 c] h fun r h'=>
  r=.int .i64 (if inP m x y c then posP m x y c else-1)∧h'=h:=by
 apply zjn
 unfold zeM
 have q0:zah h ⟨b,0,none⟩=some (.int .i64 m.w):=zab H.row
 have q1:zah h ⟨b,1,none⟩=some (.int .i64 m.h):=zab H.row
 have q2:zah h ⟨b,2,none⟩=some (.int .i64 m.c):=zab H.row
 simp only[go_sem,Nat.zero_add,q0,q1,q2]
 refine zac (fun h0=>?_) (fun h0=>?_)
 ·rw[if_neg (by unfold inP;omega)];exact⟨rfl,trivial⟩
 ·have hi:inP m x y c:=by unfold inP;omega
  have hp:=pos_bd W hi
  have hf:=zbv W.fits
  have hl:=W.len
  rw[if_pos hi]
  have e:(y*m.w+x)*m.c+c=posP m x y c:=rfl
  have hi2:=hi
  unfold inP at hi2
  rw[w64 (n:=y*m.w) (by omega) (by omega),w64 (n:=y*m.w+x) (by omega) (by omega),w64 (n:=(y*m.w+x)*m.c) (by omega) (by omega),w64 (by omega) (by omega)]
  exact⟨rfl,trivial⟩
theorem c_At {h:Heap}{b:Nat}{v:Value}{m:Pic}(H:IsImg h b v m)(W:m.Wf){x y c:Int}:FCall prog zbJ #[ptr b,.int .i64 x,.int .i64 y,.int .i64 c] h fun r h'=>
  r=.int .u16 (atP m x y c)∧h'=h:=by
 apply zmr
 unfold zgG
 refine(c_place H W).mono fun r h1 ⟨e,wq⟩=>?_
 have wq:=wq.symm
 subst e wq
 unfold atP
 have q4:zah h ⟨b,4,none⟩=some v:=zab H.row
 by_cases hi:inP m x y c
 ·have hp:=pos_bd W hi
  rw[if_pos hi,if_pos hi]
  simp only[go_sem,Nat.zero_add,q4]
  rw[decide_eq_true hp.2.2.1,zcU]
  obtain⟨i,hi2⟩:∃i:Nat,posP m x y c=(i:Int):=⟨(posP m x y c).toNat,by omega⟩
  rw[hi2,Int.toNat_natCast]
  have hil:i<m.l.length:=by omega
  obtain⟨p,p1,p2,_⟩:=H.own.at1 (k:=.i64) hil
  rw[p1,zaa,p2,zaa]
  refine⟨?_,trivial⟩
  rw[List.getElem_map]
  simp[List.getD_eq_getElem?_getD,hil]
 ·rw[if_neg hi,if_neg hi]
  simp only[go_sem]
  rw[show decide ((0:Int)≤ -1)=false from rfl,zbo]
  exact⟨by simp,by simp⟩
theorem c_Set {h:Heap}{b:Nat}{v:Value}{m:Pic}(H:IsImg h b v m)(W:m.Wf){x y c n:Int}(n0:0≤n)(n1:n≤65535):FCall prog zbs #[ptr b,.int .i64 x,.int .i64 y,.int .i64 c,.int .u16 n] h fun r h'=>
  r=.bool (decide (inP m x y c∧n≤m.most))∧IsImg h' b v (if inP m x y c∧n≤m.most then setP m x y c n else m)∧Fr (blk v) h h'∧h'.size=h.size:=by
 apply zk3
 unfold zfV
 refine(c_place H W).mono fun r h1 ⟨e,wq⟩=>?_
 have wq:=wq.symm
 subst e wq
 have q3:zah h ⟨b,3,none⟩=some (.int .i64 m.most):=zab H.row
 have q4:zah h ⟨b,4,none⟩=some v:=zab H.row
 simp only[go_sem,Nat.zero_add,q3,q4]
 rw[w64 (by omega) (by omega)]
 by_cases hi:inP m x y c
 ·have hp:=pos_bd W hi
  rw[if_pos hi]
  refine zac (fun h0=>?_) (fun h0=>?_)
  ·have hn:¬(inP m x y c∧n≤m.most):=by rintro⟨_,_⟩;omega
   rw[if_neg hn,decide_eq_false hn]
   exact⟨rfl,H,Fr.refl _ _,trivial⟩
  ·have hy:inP m x y c∧n≤m.most:=⟨hi,by omega⟩
   rw[if_pos hy,decide_eq_true hy]
   obtain⟨i,hi2⟩:∃i:Nat,posP m x y c=(i:Int):=⟨(posP m x y c).toNat,by omega⟩
   have hs:setP m x y c n={m with l:=m.l.set i n}:=by unfold setP;rw[hi2,Int.toNat_natCast]
   rw[hi2,hs]
   have hil:i<m.l.length:=by omega
   obtain⟨p,p1,p2,p3⟩:=H.own.at1 (k:=.i64) hil
   rw[p1,zaa]
   refine p3 _ _ rfl fun h2 o2 f2 s2=>⟨rfl,⟨f2.row H.row H.ap,?_,H.ap⟩,f2,s2⟩
   show Own 1 h2 v (m.l.set i n).length (u16s (m.l.set i n))
   rw[List.length_set,u16s,List.map_set]
   exact o2
 ·have hn:¬(inP m x y c∧n≤m.most):=fun hh=>hi hh.1
  rw[if_neg hi,if_neg hn,decide_eq_false hn]
  rw[show decide ((-1:Int)<0∨m.most<n)=true from decide_eq_true (by omega),zcU]
  exact⟨rfl,H,Fr.refl _ _,trivial⟩
theorem setP_Wf {m:Pic}(W:m.Wf){x y c n:Int}(n0:0≤n)(n1:n≤m.most):(setP m x y c n).Wf:=by
 refine⟨W.fits,W.m1,W.m2,?_,fun z hz=>?_⟩
 ·show((m.l.set _ n).length:Int)=_
  rw[List.length_set]
  exact W.len
 ·rcases List.mem_or_eq_of_mem_set hz with h|h
  ·exact W.smp z h
  ·rw[h];exact⟨n0,n1⟩
theorem zqX {k:IntKind}{h:Heap}{v:Value}{l:List Int}(H:Own 1 h v l.length (l.map fun n=>Value.int k n)):Rp.Sl (Rp.int k) (blk v) h v l:=
 (ow_ints H).sl.mono fun b _ hb=>hb.elim False.elim id
theorem c_CloneU {h:Heap}{Z:Nat→Prop}{v:Value}{l:List Int}(H:Rp.Sl rU Z h v l)(hl:l.length≤1000000000):
  FCall prog zaR #[v] h fun r h'=>New rU h h' r l:=by
 apply zd3
 unfold zca
 obtain⟨ds,⟨hl1,a,cap,rfl,hs⟩,hz,he⟩:=H
 rw[binSl_nil,zaa]
 cases a with
 | none=>
  have:l=[]:=by
   rcases hs with hs|⟨b,o,h0,_⟩
   ·subst hs
    have h2:([]:List Value).length=l.length*1:=hl1
    exact List.eq_nil_of_length_eq_zero (by simpa using h2.symm)
   ·cases h0
  subst this
  simp only[Option.isNone_none,go_sem]
  exact New.nil (Ext.refl _)
 |some a=>
  simp only[Option.isNone_some,go_sem]
  refine zbn (c':=#[]) rfl fun b h1 r1 e1 n1=>?_
  have O:Rp.Ow rU (fun _=>False) h1 (.slice (some ⟨b,0,none⟩) 0 0) []:=⟨[],.inr ⟨b,0,[],_,rfl,Nat.le_refl _,rfl,rfl,r1⟩,fun b hb hb'=>hb',fun i hi=>absurd hi (by simp)⟩
  have S1:SlC 1 h1 (.slice (some a) l.length cap) l.length ds:=SlC.ext ⟨hl1,some a,cap,rfl,hs⟩ e1
  refine Rp.app_ow (e:=rU) (l:=[]) (l2:=l) O S1 (fun i hi=>he i hi) rfl (by simp;omega) (by simp;omega) (fun b hb=>hb.elim) fun v2 h2 O2 f2 n2=>?_
  rw[List.nil_append]at O2
  have nb:∀k,blk (.slice (some ⟨b,0,none⟩) 0 0) k→h.size≤k:=fun k hk=>by have:k=b:=hk;omega
  refine⟨O2,e1.then_fr f2 nb,fun k hk=>?_⟩
  rcases n2 k hk with h3|h3
  ·exact nb k h3
  ·exact Nat.le_trans e1.1 h3
theorem c_Samples {h:Heap}{b:Nat}{v:Value}{m:Pic}(H:IsImg h b v m)(W:m.Wf):FCall prog zcG #[ptr b] h fun r h'=>New rU h h' r m.l:=by
 apply zhY
 unfold zdN
 have q4:zah h ⟨b,4,none⟩=some v:=zab H.row
 simp only[go_sem,Nat.zero_add,q4]
 have hf:=zbv W.fits
 have:=W.len
 exact c_CloneU (zqX H.own) (by omega)
theorem fill_5 {a b c d e v w x y z:Value}(ha:zam a=true)(hb:zam b=true)(hc:zam c=true)(hd:zam d=true)(he:zam e=true):fillL #[v,w,x,y,z] [(0,1,a),(1,1,b),(2,1,c),(3,1,d),(4,1,e)]=some #[a,b,c,d,e]:=by
 simp only[fillL,zaK ha,zaK hb,zaK hc,zaK hd,zaK he]
 rfl
def imgC (w h c most:Int):Int:=if most<1∨65535<most∨(c≠1∧c≠3)then 2 else if¬fitsZ w h c then 5 else 0
def imgN (w h c most:Int):Pic:=⟨w,h,c,most,List.replicate (w*h*c).toNat 0⟩
def ziN (h h':Heap)(p:Value)(m:Pic):Prop:=∃b v,p=ptr b∧IsImg h' b v m∧h.size≤b∧(∀c,blk v c→h.size≤c)∧Ext h h'
theorem zjx {w h c most:Int}:imgC w h c most=0↔fitsZ w h c∧1≤most∧most≤65535:=by
 unfold imgC
 split
 ·constructor
  ·intro h;cases h
  ·rintro⟨⟨_,_,_,_,_,_⟩,_,_⟩;omega
 ·split
  ·constructor
   ·intro h;cases h
   ·rintro⟨h,_⟩;contradiction
  ·rename_i h1 h2
   exact⟨fun _=>⟨Decidable.of_not_not h2,by omega,by omega⟩,fun _=>rfl⟩
theorem znn {w h c most:Int}(H:imgC w h c most=0):(imgN w h c most).Wf:=by
 obtain⟨h1,h2,h3⟩:=zjx.1 H
 have hf:=zbv h1
 refine⟨h1,h2,h3,?_,fun x hx=>?_⟩
 ·show((List.replicate (w*h*c).toNat (0:Int)).length:Int)=w*h*c
  rw[List.length_replicate];omega
 ·have:x=0:=(List.mem_replicate.1 hx).2
  subst this
  show 0≤(0:Int)∧(0:Int)≤most
  omega
theorem zjY {h:Heap}{w hh c most:Int}:FCall prog zct #[.int .i64 w,.int .i64 hh,.int .i64 c,.int .i64 most] h fun r h'=>
  ∃p,r=.tuple #[p,.int .i64 (imgC w hh c most)]∧Ext h h'∧(imgC w hh c most≠0→p=.pointer none)∧(imgC w hh c most=0→ziN h h' p (imgN w hh c most)):=by
 apply zse
 unfold zlU
 simp only[go_sem]
 have rc:imgC w hh c most=if most<1∨65535<most∨(c≠1∧c≠3)then 2 else if¬fitsZ w hh c then 5 else 0:=rfl
 refine zac (fun h0=>?_) (fun h0=>?_)
 ·rw[if_pos (by omega)]at rc
  rw[rc]
  exact⟨_,rfl,Ext.refl _,fun _=>rfl,fun h=>by cases h⟩
 rw[if_neg (by omega)]at rc
 refine c_Fits.mono fun r h1 ⟨e,wq⟩=>?_
 have wq:=wq.symm
 subst e wq
 simp only[go_sem]
 refine zac (fun h1=>?_) (fun h1=>?_)
 ·rw[if_pos h1]at rc
  rw[rc]
  exact⟨_,rfl,Ext.refl _,fun _=>rfl,fun h=>by cases h⟩
 rw[if_neg h1]at rc
 have hf:=zbv (Decidable.of_not_not h1)
 rw[w64 (n:=w*hh) (by omega) (by omega),w64 (n:=w*hh*c) (by omega) (by omega)]
 obtain⟨n,hn⟩:∃n:Nat,w*hh*c=(n:Int):=⟨(w*hh*c).toNat,by omega⟩
 rw[hn]
 refine zha rfl (by omega) (by omega) fun v h2 o2 e2 n2=>?_
 obtain⟨av,cv,ev⟩:=o2.isSl
 rw[fill_5 rfl rfl rfl rfl (by rw[ev];rfl),Option.map_some,zaa]
 refine zag (c:=#[.int .i64 w,.int .i64 hh,.int .i64 c,.int .i64 most,v]) fun b h3 r3 e3 n3=>?_
 rw[rc]
 refine⟨_,rfl,e2.trans e3,fun h=>absurd rfl h,fun _=>⟨b,v,rfl,⟨r3,?_,fun hb=>?_⟩,Nat.le_trans e2.1 n3,n2,e2.trans e3⟩⟩
 ·show Own 1 h3 v (List.replicate (w*hh*c).toNat (0:Int)).length (u16s (List.replicate (w*hh*c).toNat 0))
  rw[hn,Int.toNat_natCast,List.length_replicate,u16s,List.map_replicate]
  exact o2.fr (M:=fun _=>False) e3.fr fun _ _=>id
 ·have:=o2.lt hb;omega
theorem list_eq_take {l m:List Int}(h:l.length=m.length)(H:∀i (h1:i<l.length) (h2:i<m.length),l[i]=m[i]):l=m:=List.ext_getElem h fun i h1 h2=>H i h1 h2
theorem New.img {h h0:Heap}{u:Value}{m:Pic}{b:Nat}{h':Heap}(N:New rU h h0 u m.l)(r:h'[b]? =some (.cells #[.int .i64 m.w,.int .i64 m.h,.int .i64 m.c,.int .i64 m.most,u] 151 (0,0)))(e:Ext h0 h')(n:h0.size≤b):ziN h h' (ptr b) m:=
 ⟨b,u,rfl,⟨r,(ow_own N.1).fr (M:=fun _=>False) e.fr fun _ _=>id,fun hb=>by have:=N.1.lt hb;omega⟩,Nat.le_trans N.2.1.1 n,N.2.2,N.2.1.trans e⟩
theorem c_Copy {h:Heap}{b:Nat}{v:Value}{m:Pic}(H:IsImg h b v m)(W:m.Wf):FCall prog zdx #[ptr b] h fun r h'=>ziN h h' r m:=by
 apply zkd
 unfold zfl
 simp only[go_sem,Nat.zero_add]
 have q:∀h',Ext h h'→_:=fun h' e=>e.row H.row
 refine zaj (Ext h) (Ext.refl _) ?_
 refine zae (.int .i64 m.w) (fun h' e=>zab (q h' e)) ?_
 refine zae (.int .i64 m.h) (fun h' e=>zab (q h' e)) ?_
 refine zae (.int .i64 m.c) (fun h' e=>zab (q h' e)) ?_
 refine zae (.int .i64 m.most) (fun h' e=>zab (q h' e)) ?_
 refine zae v (fun h' e=>zab (q h' e)) ?_
 have hf:=zbv W.fits
 have:=W.len
 refine(c_CloneU (zqX H.own) (by omega)).mono fun u h1 N=>⟨N.2.1,?_⟩
 obtain⟨av,cv,ev⟩:=N.isSl
 rw[fill_5 rfl rfl rfl rfl (by rw[ev];rfl),Option.map_some,zaa]
 refine zag (c:=#[.int .i64 m.w,.int .i64 m.h,.int .i64 m.c,.int .i64 m.most,u]) fun b3 h3 r3 e3 n3=>?_
 exact New.img N r3 e3 n3
theorem c_MaxU {h:Heap}{Z:Nat→Prop}{v:Value}{l:List Int}(H:Rp.Sl rU Z h v l)(h0:0<l.length)(hl:l.length≤1000000000):
  FCall prog zby #[v] h fun r h'=>(∃x∈l,r=.int .u16 x)∧h'=h:=by
 apply zeT
 unfold zcp
 obtain⟨a,c,e⟩:=H.isSl
 have e2:zaf v=some (.int .i64 (l.length:Int)):=by rw[e];rfl
 refine zar (fun xs h'=>h'=h) ?_ ?_
 ·simp only[go_sem,e2]
  rw[decide_eq_false (by omega),zbo]
  trivial
 rintro xs ρj h1 hh
 have hh:=hh.symm
 subst hh
 obtain⟨p,p1,p2⟩:=H.int_at (k':=.i64) h0
 have p1:idxV 1 v (.int .i64 0)=some p:=p1
 rw[p1,zaa,p2,zaa]
 refine zaF (α:=Int) l.length 1 (fun i x=>[.int .u16 x,.int .i64 (i:Int)]) (fun i x h'=>x∈l∧h'=h) l[0] rfl (by omega) ⟨List.getElem_mem _,rfl⟩ fun i x h1 again ρj h1i hi ⟨hx,eh⟩ Hag=>?_
 have eh:=eh.symm
 subst eh
 simp only[go_sem,e2]
 refine zac (fun h2=>?_) (fun h2=>?_)
 ·have hi':i<l.length:=by omega
  obtain⟨q,q1,q2⟩:=H.int_at (k':=.i64) hi'
  simp only[go_sem,q1,q2]
  rw[w64 (by omega) (by omega)]
  refine Hag _ h hi' ⟨?_,rfl⟩
  rcases Int.le_total x l[i]with h3|h3
  ·rw[Int.max_eq_right h3];exact List.getElem_mem _
  ·rw[Int.max_eq_left h3];exact hx
 ·exact⟨⟨x,hx,rfl⟩,trivial⟩
theorem c_imgOf {h:Heap}{Z:Nat→Prop}{v:Value}{l:List Int}{w hh c most:Int}(H:Rp.Sl rU Z h v l)(hc:imgC w hh c most=0)(hl:(l.length:Int)=w*hh*c)(hs:∀x∈l,0≤x∧x≤most):
  FCall prog zgp #[.int .i64 w,.int .i64 hh,.int .i64 c,.int .i64 most,v] h fun r h'=>∃p,r=.tuple #[p,.int .i64 0]∧ziN h h' p ⟨w,hh,c,most,l⟩:=by
 apply ok_raster_Of
 unfold znX
 refine zjY.mono fun r h1 ⟨p,e,e1,_,s1⟩=>?_
 subst e
 obtain⟨b,u,rfl,I,nb,nu,_⟩:=s1 hc
 obtain⟨f1,f2,f3⟩:=zjx.1 hc
 have hf:=zbv f1
 have W:=znn hc
 obtain⟨a,ca,e⟩:=H.isSl
 have e2:zaf v=some (.int .i64 (l.length:Int)):=by rw[e];rfl
 obtain⟨au,cu,eu⟩:=I.own.isSl
 have il:((imgN w hh c most).l.length:Int)=w*hh*c:=W.len
 have eu2:zaf u=some (.int .i64 (l.length:Int)):=by rw[eu,hl,←il];rfl
 have q4:zah h1 ⟨b,4,none⟩=some u:=zab I.row
 simp only[go_sem,hc,e2,Nat.zero_add,q4,eu2]
 have h0:0<l.length:=by
  have a1:1≤w*hh:=by
   have:=Int.mul_le_mul (show(1:Int)≤w by omega) (show(1:Int)≤hh by omega) (by omega) (by omega)
   omega
  have:=Int.mul_le_mul a1 (show(1:Int)≤c by omega) (by omega) (by omega)
  omega
 refine(c_MaxU (H.ext e1) h0 (by omega)).mono fun r h2 ⟨⟨x,hx,e⟩,wq⟩=>?_
 have wq:=wq.symm
 subst e wq
 have hxs:=hs x hx
 simp only[go_sem]
 rw[w64 (by omega) (by omega),decide_eq_false (by omega),zbo]
 simp only[go_sem,Nat.zero_add,q4]
 have hn:(imgN w hh c most).l.length=l.length:=by omega
 have Iown:=I.own
 rw[hn]at Iown
 obtain⟨ds,S,_,he⟩:=H.ext e1
 have hds:ds=u16s l:=by
  have hdl:ds.length=l.length*1:=S.1
  apply List.ext_getElem
  ·simp;omega
  ·intro i h3 h4
   have h5:=he i (by simpa using h4)
   have h6:Rp.el 1 ds i=[Value.int .u16 (l[i]'(by simpa using h4))]:=h5
   rw[Rp.el_one h3]at h6
   simpa using h6
 subst hds
 refine zoJ Iown S (fun y hy=>by obtain⟨z,_,rfl⟩:=List.mem_map.1 hy;rfl) fun h3 o3 f3 s3=>?_
 refine⟨_,rfl,b,u,rfl,⟨f3.row I.row I.ap,?_,I.ap⟩,nb,nu,e1.then_fr f3 nu⟩
 show Own 1 h3 u l.length (u16s l)
 have e5:(u16s l).take l.length++(u16s (imgN w hh c most).l).drop l.length=u16s l:=by
  rw[List.take_of_length_le (by simp),List.drop_eq_nil_of_le (by simp;omega),List.append_nil]
 rw[←e5]
 exact o3
def drawP (w h c most:Int)(l:List Int):Pic:=
 ⟨1+w%20,1+h%20,1+2*(c%2),1+most%65535,(List.range ((1+w%20)*(1+h%20)*(1+2*(c%2))).toNat).map fun i=>if 0<l.length then(l.getD (i%l.length) 0+((i/l.length:Nat):Int))%(1+most%65535+1)else 0⟩
theorem drawP_bd (w h c:Int):1≤(1+w%20)*(1+h%20)*(1+2*(c%2))∧(1+w%20)*(1+h%20)*(1+2*(c%2))≤1200:=by
 have h1:=zf8 (a:=1+w%20) (A:=20) (b:=1+h%20) (B:=20) (by omega) (by omega) (by omega) (by omega)
 have h3:=Int.mul_le_mul (show(1:Int)≤1+w%20 by omega) (show(1:Int)≤1+h%20 by omega) (by omega) (by omega)
 generalize(1+w%20)*(1+h%20)=a at*
 have:c%2=0∨c%2=1:=by omega
 rcases this with h|h<;>rw[h]<;>omega
theorem drawP_Wf (w h c most:Int)(l:List Int):(drawP w h c most l).Wf:=by
 have hb:=drawP_bd w h c
 refine⟨⟨?_,?_,?_,?_,?_,?_⟩,?_,?_,?_,fun x hx=>?_⟩
 ·show 1≤1+w%20;omega
 ·show 1+w%20≤65536;omega
 ·show 1≤1+h%20;omega
 ·show 1+h%20≤65536;omega
 ·show 1+2*(c%2)=1∨1+2*(c%2)=3;omega
 ·show(1+w%20)*(1+h%20)*(1+2*(c%2))≤268435456;omega
 ·show 1≤1+most%65535;omega
 ·show 1+most%65535≤65535;omega
 ·show((List.map _ (List.range _)).length:Int)=(1+w%20)*(1+h%20)*(1+2*(c%2))
  rw[List.length_map,List.length_range];omega
 ·obtain⟨i,_,rfl⟩:=List.mem_map.1 hx
  show 0≤_∧_≤1+most%65535
  split
  ·have:=Int.emod_nonneg (l.getD (i%l.length) 0+((i/l.length:Nat):Int)) (show 1+most%65535+1≠0 by omega)
   have:=Int.emod_lt_of_pos (l.getD (i%l.length) 0+((i/l.length:Nat):Int)) (show 0<1+most%65535+1 by omega)
   omega
  ·omega
theorem Own.at_mapU {h:Heap}{v:Value}{n:Nat}{g:Nat→Int}(H:Own 1 h v n ((List.range n).map fun i=>Value.int .u16 (g i))){k:IntKind}{i:Nat}(hi:i<n):
  ∃p,idxV 1 v (.int k (i:Int))=some p∧∀(x:Int) (K:Value→Heap→Prop),
   (∀h',Own 1 h' v n ((List.range n).map fun j=>Value.int .u16 (if j=i then x else g j))→Fr (blk v) h h'→K undef h')→stK 1 p (.int .u16 x) h K:=by
 obtain⟨p,h1,h2,h3⟩:=Own.at1 H (k:=k) hi
 refine⟨p,h1,fun x K HK=>h3 _ _ rfl fun h' o f _=>HK h' ?_ f⟩
 rw[zl7 _ _ _ _ hi]at o
 have e:(fun j=>if j=i then Value.int .u16 x else Value.int .u16 (g j))=fun j=>Value.int .u16 (if j=i then x else g j):=by
  funext j;split<;>rfl
 rw[e]at o
 exact o
abbrev U16 (n:Int):Prop:=0≤n∧n≤65535
theorem c_l9Draw {h:Heap}{Z:Nat→Prop}{v:Value}{l:List Int}{w hh c most:Int}(H:Rp.Sl rU Z h v l)(hw:U16 w)(hhh:U16 hh)(hc:U16 c)(hm:U16 most)(h16:∀x∈l,U16 x)(hl:l.length≤4611686018427387904):
  FCall prog zjL #[.int .u16 w,.int .u16 hh,.int .u16 c,.int .u16 most,v] h fun r h'=>ziN h h' r (drawP w hh c most l):=by
 apply zsj
 unfold zlZ
 rw[zbd _ _ _ _ (by omega),zaa,zbd _ _ _ _ (by omega)]
 simp only[go_sem]
 rw[zbd _ _ _ _ (by omega)]
 simp only[go_sem]
 rw[Int.tmod_eq_emod_of_nonneg hw.1,Int.tmod_eq_emod_of_nonneg hhh.1,Int.tmod_eq_emod_of_nonneg hc.1]
 rw[w64 (n:=w%20) (by omega) (by omega),w64 (n:=hh%20) (by omega) (by omega),w64 (n:=c%2) (by omega) (by omega),w64 (n:=2*(c%2)) (by omega) (by omega),w64 (n:=1+2*(c%2)) (by omega) (by omega),w64 (n:=most) (by omega) (by omega),
  w64 (n:=1+w%20) (by omega) (by omega),w64 (n:=1+hh%20) (by omega) (by omega)]
 rw[zbd _ _ _ _ (by omega),zaa,Int.tmod_eq_emod_of_nonneg hm.1]
 simp only[go_sem]
 have hb:=drawP_bd w hh c
 have h1:=zf8 (a:=1+w%20) (A:=20) (b:=1+hh%20) (B:=20) (by omega) (by omega) (by omega) (by omega)
 rw[w64 (n:=1+most%65535) (by omega) (by omega),w64 (n:=(1+w%20)*(1+hh%20)) (by omega) (by omega),w64 (n:=(1+w%20)*(1+hh%20)*(1+2*(c%2))) (by omega) (by omega)]
 have PW:=drawP_Wf w hh c most l
 obtain⟨n,hn⟩:∃n:Nat,(1+w%20)*(1+hh%20)*(1+2*(c%2))=(n:Int):=⟨((1+w%20)*(1+hh%20)*(1+2*(c%2))).toNat,by omega⟩
 have hpl:(drawP w hh c most l).l=(List.range n).map fun i=>if 0<l.length then(l.getD (i%l.length) 0+((i/l.length:Nat):Int))%(1+most%65535+1)else 0:=by unfold drawP;rw[hn];rfl
 rw[hn]
 obtain⟨top,htop⟩:∃top,1+most%65535=top:=⟨_,rfl⟩
 rw[htop]at hpl ⊢
 have htb:1≤top∧top≤65535:=by omega
 refine zha rfl (by omega) (by omega) fun u h2 o2 e2 n2=>?_
 obtain⟨au,cu,eu⟩:=o2.isSl
 have eu2:zaf u=some (.int .i64 (n:Int)):=by rw[eu];rfl
 obtain⟨al,cl,el⟩:=H.isSl
 have el2:zaf v=some (.int .i64 (l.length:Int)):=by rw[el];rfl
 rw[eu2,zaa]
 have H:=H.mono (Z':=fun c=>c<h.size) fun c hc _=>hc
 generalize hg:(fun i:Nat=>if 0<l.length then(l.getD (i%l.length) 0+((i/l.length:Nat):Int))%(top+1)else 0)=g at*
 have hgx:∀i,g i=if 0<l.length then(l.getD (i%l.length) 0+((i/l.length:Nat):Int))%(top+1)else 0:=fun i=>by rw[←hg]
 refine zaF (α:=Unit) n 0 (fun i _=>[.int .i64 (i:Int)]) (fun i _ h'=>Ext h h'∧Own 1 h' u n ((List.range n).map fun j=>Value.int .u16 (if j<i then g j else 0))) () rfl (Nat.zero_le _)
  ⟨e2,by
   have e:List.replicate n (Value.int .u16 0)=(List.range n).map fun j=>Value.int .u16 (if j<0 then g j else 0):=by apply List.ext_getElem<;>simp
   rw[←e];exact o2⟩ fun i _ h3 again ρj _ hi ⟨E3,o3⟩ Hag=>?_
 simp only[go_sem]
 have stp:∀j,(if j=i then g i else if j<i then g j else 0)=if j<i+1 then g j else 0:=fun j=>by
  by_cases h1:j=i
  ·subst h1;simp
  ·rw[if_neg h1]
   by_cases h2:j<i
   ·rw[if_pos h2,if_pos (by omega)]
   ·rw[if_neg h2,if_neg (by omega)]
 refine zac (fun h4=>?_) (fun h4=>?_)
 ·have hi':i<n:=by omega
  rw[el2,zaa]
  simp only[go_sem]
  refine zac (fun h5=>?_) (fun h5=>?_)
  ·have hl0:0<l.length:=by omega
   refine zaj (fun h'=>h'=h3) rfl ?_
   refine zae (.int .i64 (l.length:Int)) (fun h' e=>by first|exact el2|rfl) ?_
   rw[zbd _ _ _ _ (by omega),zaa,Int.tmod_eq_emod_of_nonneg (by omega),show(i:Int)%(l.length:Int)=((i%l.length:Nat):Int)by omega]
   have hil:i%l.length<l.length:=Nat.mod_lt _ hl0
   obtain⟨p,p1,p2⟩:=(H.ext E3).int_at (k':=.i64) hil
   rw[p1,zaa]
   refine zae _ (fun h' e=>by rw[e];exact p2) ?_
   have hx:=h16 _ (List.getElem_mem hil)
   simp only[go_sem]
   refine zae (.int .i64 (l.length:Int)) (fun h' e=>by first|exact el2|rfl) ?_
   have hdl:i/l.length≤i:=Nat.div_le_self _ _
   have hgi0:=hgx i
   rw[zez _ _ _ _ (by omega),zaa,Int.tdiv_eq_ediv_of_nonneg (by omega),show(i:Int)/(l.length:Int)=((i/l.length:Nat):Int)by omega]
   generalize i/l.length=dq at hdl hgi0 ⊢
   rw[w64 (n:=(dq:Int)) (by omega) (by omega)]
   simp only[go_sem]
   rw[w64 (n:=l[i%l.length]) (by omega) (by omega),w64 (n:=l[i%l.length]+(dq:Int)) (by omega) (by omega),w64 (n:=top+1) (by omega) (by omega)]
   rw[zbd _ _ _ _ (by omega),zaa,Int.tmod_eq_emod_of_nonneg (by omega)]
   simp only[go_sem]
   have m1:=Int.emod_nonneg (l[i%l.length]+(dq:Int)) (show top+1≠0 by omega)
   have m2:=Int.emod_lt_of_pos (l[i%l.length]+(dq:Int)) (show 0<top+1 by omega)
   rw[wu16 m1 (by omega)]
   have hgi:(l[i%l.length]+(dq:Int))%(top+1)=g i:=by
    rw[hgi0,if_pos hl0]
    simp[List.getD_eq_getElem?_getD,hil]
   rw[hgi]
   obtain⟨q,q1,q2⟩:=Own.at_mapU o3 (k:=.i64) hi'
   rw[q1,zaa]
   refine q2 _ _ fun h6 o6 f6=>?_
   rw[w64 (by omega) (by omega)]
   refine Hag () h6 hi' ⟨E3.then_fr f6 n2,?_⟩
   simp only[stp]at o6
   exact o6
  ·rw[w64 (by omega) (by omega)]
   refine Hag () h3 hi' ⟨E3,?_⟩
   have hg0:g i=0:=by rw[hgx,if_neg (by omega)]
   rw[←zax (g:=fun j=>Value.int .u16 (if j<i then g j else 0)) fun j _=>by
    congr 1
    rw[←stp j,hg0]
    by_cases h1:j=i
    ·rw[if_pos h1,if_neg (by omega)]
    ·rw[if_neg h1]]
   exact o3
 ·have hin:i=n:=by omega
  subst hin
  have o4:Own 1 h3 u (drawP w hh c most l).l.length (u16s (drawP w hh c most l).l):=by
   rw[hpl,List.length_map,List.length_range,u16s,List.map_map]
   rw[←zax (g:=fun j=>Value.int .u16 (if j<i then g j else 0)) fun j hj=>by rw[if_pos hj];rfl]
   exact o3
  have hcode:imgC (1+w%20) (1+hh%20) (1+2*(c%2)) top=0:=zjx.2 ⟨PW.fits,htb.1,htb.2⟩
  have hlen:=PW.len
  refine(c_imgOf (zqX o4) hcode hlen fun x hx=>by have:=PW.smp x hx;rw[show(drawP w hh c most l).most=top from htop]at this;exact this).mono fun r h5 ⟨p,e,N⟩=>?_
  subst e
  simp only[go_sem]
  have N2:ziN h3 h5 p (drawP w hh c most l):=by
   have:drawP w hh c most l=⟨1+w%20,1+hh%20,1+2*(c%2),top,(drawP w hh c most l).l⟩:=by rw[←htop];rfl
   rw[this];exact N
  obtain⟨b,x,e1,e2',e3',e4',e5'⟩:=N2
  exact⟨b,x,e1,e2',Nat.le_trans E3.1 e3',fun c hc=>Nat.le_trans E3.1 (e4' c hc),E3.trans e5'⟩
theorem zma {k:IntKind}{h:Heap}{b:Nat}{t:TypeId}{l:List Int}{n:Nat}(hn:l.length=n)(hb:h[b]? =some (.cells (l.map fun n=>Value.int k n).toArray t (0,0))):Rp.Sl (Rp.int k) (fun k=>k=b) h (.slice (some ⟨b,0,none⟩) n n) l:=by
 subst hn
 refine⟨l.map (Value.int k),⟨by simp[Rp.int],_,_,rfl,.inr ⟨b,0,rfl,fun j hj=>?_⟩⟩,fun _ k hk=>hk,fun i hi=>?_⟩
 ·rw[Nat.zero_add,zab hb]
  simp at hj
  simp[hj]
 ·show Rp.el 1 _ i=[.int k l[i]]
  rw[Rp.el_one (by simpa using hi),List.getElem_map]
theorem c_l5Lives {h:Heap}(G:GlobB h):FCall prog zit #[] h fun r h'=>r=.bool true∧Ext h h':=by
 apply zqv
 unfold zkH
 refine(c_rawRow G).mono fun w h1 ⟨u,e,N⟩=>?_
 subst e
 have e1:zbD 0 4 2 1=2:=by decide+kernel
 have e2:zbb 0 4 2 1=[536870912,536870912]:=by decide+kernel
 rw[e1]
 rw[e2]at N
 obtain⟨a,c,eu⟩:=N.isSl
 have e3:zaf u=some (.int .i64 2):=by rw[eu];rfl
 obtain⟨p,p1,p2⟩:=N.sl.int_at (k':=.i64) (i:=0) (by simp)
 obtain⟨q,q1,q2⟩:=N.sl.int_at (k':=.i64) (i:=1) (by simp)
 have p1:idxV 1 u (.int .i64 0)=some p:=p1
 have q1:idxV 1 u (.int .i64 1)=some q:=q1
 have p2:ldV h1 p=some (.int .i64 536870912):=p2
 have q2:ldV h1 q=some (.int .i64 536870912):=q2
 simp only[go_sem,e3,p1,p2,q1,q2,eq_self,decide_true]
 refine(c_Keys (by omega) (by unfold I64;omega)).mono fun w h2 ⟨e,wq⟩=>?_
 have wq:=wq.symm
 subst e wq
 have k1:keysZ 0 1=1073741824:=by decide+kernel
 have k2:keysZ 1 2=603979776:=by decide+kernel
 rw[k1]
 simp only[go_sem,eq_self,decide_true]
 refine(c_Keys (by omega) (by unfold I64;omega)).mono fun w h2 ⟨e,wq⟩=>?_
 have wq:=wq.symm
 subst e wq
 rw[k2]
 simp only[go_sem,eq_self,decide_true]
 exact⟨by simp,N.2.1⟩
theorem c_l6Lives {h:Heap}:FCall prog zis #[] h fun r h'=>r=.bool true∧Ext h h':=by
 apply zqu
 unfold zkG
 refine zbn (c':=#[.int .i64 536870912,.int .i64 536870912,.int .i64 536870912]) rfl fun b1 h1 r1 e1 n1=>?_
 have S1:=zma (k:=.i64) (l:=[536870912,536870912,536870912]) (n:=3) rfl r1
 have w1:∀x∈[(536870912:Int),536870912,536870912],I64 x:=by simp[I64]
 refine(zlf S1 w1 (by simp)).mono fun w h2 ⟨u,e,N⟩=>?_
 subst e
 have a1:za0 [536870912,536870912,536870912]=0:=by decide+kernel
 have a2:zaG [536870912,536870912,536870912]=[5462,5461,5461]:=by decide+kernel
 rw[a1]
 rw[a2]at N
 simp only[go_sem]
 refine(zro (by unfold I64;omega)).mono fun w h3 ⟨x,e,M⟩=>?_
 subst e
 have b1':zpI 65536=0:=by decide+kernel
 have b2':(zhJ 65536).length=7:=by decide+kernel
 rw[b1']
 obtain⟨ax,cx,ex⟩:=M.isSl
 have ex2:zaf x=some (.int .i64 7):=by rw[ex,b2'];rfl
 simp only[go_sem,eq_self,decide_true]
 refine zbn (c':=#[.int .i64 5462,.int .i64 5461,.int .i64 5461]) rfl fun b4 h4 r4 e4 n4=>?_
 have S4:=zma (k:=.i64) (l:=[5462,5461,5461]) (n:=3) rfl r4
 refine(c_Same06 (N.sl.ext (M.2.1.trans e4)) S4 (by simp)).mono fun w h5 ⟨e,wq⟩=>?_
 have wq:=wq.symm
 subst e wq
 simp only[go_sem,eq_self,decide_true,ex2]
 exact⟨by simp,e1.trans (N.2.1.trans (M.2.1.trans e4))⟩
theorem livesT_eq:zb8 0 4 2=⟨4,[(0,[8192,8192]),(2,[8192,8192])]⟩:=by
 have e:(zb8 0 4 2).lines=[(0,[8192,8192]),(2,[8192,8192])]:=by decide+kernel
 show(⟨4,(zb8 0 4 2).lines⟩:Tbl)=_
 rw[e]
theorem zpy:(⟨4,[(0,[8192,8192]),(2,[8192,8192])]⟩:Tbl).Wf:=by
 constructor<;>simp
theorem c_l8Lives {h:Heap}(G:GlobB h):FCall prog zir #[] h fun r h'=>r=.bool true∧Ext h h':=by
 apply zqt
 unfold zkF
 refine(c_l5Lives G).mono fun w h1 ⟨e,e1⟩=>?_
 subst e
 simp only[go_sem]
 refine c_l6Lives.mono fun w h2 ⟨e,e2⟩=>?_
 subst e
 simp only[go_sem]
 refine(zsS (G.ext (e1.trans e2)) (by unfold I64;omega) (by unfold I64;omega) (by unfold I64;omega)).mono fun w h3 ⟨p,e,e3,_,s1⟩=>?_
 subst e
 have a1:zbE 0 4 2=0:=by decide+kernel
 have T:=s1 a1
 rw[livesT_eq]at T
 rw[a1]
 obtain⟨pb,_,_,hp,_⟩:=T
 have T:=s1 a1
 rw[livesT_eq]at T
 have np:binV .p .eql p (.pointer none)=some (.bool false):=by rw[hp];rfl
 simp only[go_sem,eq_self,decide_true,np]
 refine(zog T zpy).mono fun w h4 ⟨u,e,U,e4⟩=>?_
 subst e
 have l1:lineT ⟨4,[(0,[8192,8192]),(2,[8192,8192])]⟩ 1=(2,[8192,8192]):=by rfl
 rw[l1]at U ⊢
 refine zbh (cs:=[.int .i64 2,u]) rfl (zad rfl (zad U.one zaq)) rfl fun b5 h5 r5 e5 n5=>?_
 refine(c_Reach (T.ext (e4.trans e5)) zpy (by unfold I64;omega) (by unfold I64;omega)).mono fun w h6 ⟨e,e6⟩=>?_
 subst e
 have l2:zkQ ⟨4,[(0,[8192,8192]),(2,[8192,8192])]⟩ 0 2=(0,4):=by decide+kernel
 rw[l2]
 simp only[go_sem]
 refine(zog (T.ext (e4.trans (e5.trans e6))) zpy).mono fun w h7 ⟨u2,e,U2,e7⟩=>?_
 subst e
 have l0:lineT ⟨4,[(0,[8192,8192]),(2,[8192,8192])]⟩ 0=(0,[8192,8192]):=by rfl
 rw[l0]
 have pv:partV false 1 0 (.agg #[.int .i64 0,u2])=some (.int .i64 0):=rfl
 have r5':=(e6.trans e7).row r5
 simp only[go_sem,pv,eq_self,decide_true,zab r5']
 refine zbn (c':=#[.int .i64 8192,.int .i64 8192]) rfl fun b8 h8 r8 e8 n8=>?_
 have S8:=zma (k:=.i64) (l:=[8192,8192]) (n:=2) rfl r8
 refine(c_Same06 (U.ext (e5.trans (e6.trans (e7.trans e8)))) S8 (by simp)).mono fun w h9 ⟨e,wq⟩=>?_
 have wq:=wq.symm
 subst e wq
 simp only[go_sem,eq_self,decide_true]
 exact⟨by simp,e1.trans (e2.trans (e3.trans (e4.trans (e5.trans (e6.trans (e7.trans e8))))))⟩
theorem zmg {Z:Nat→Prop}{h:Heap}{k b s r f w hh:Int}:rOp.R Z h [.int .i64 k,.int .i64 b,.int .i64 s,.int .i64 r,.slice none 0 0,.slice none 0 0,.int .i64 f,.int .i64 w,.int .i64 hh] ⟨k,b,s,r,[],[],f,w,hh⟩:=⟨_,_,rfl,Rp.Sl.nil,Rp.Sl.nil⟩
theorem zmf {k b s r f w hh:Int}(h:∀x∈[k,b,s,r,f,w,hh],I64 x):OpD.Wf ⟨k,b,s,r,[],[],f,w,hh⟩:=by
 constructor<;>first|exact h _ (by simp)|simp
theorem zrj {h:Heap}(G:GlobB h):FCall prog zfC #[] h fun r h'=>r=.bool true∧Ext h h':=by
 apply zqr
 unfold zkD
 have hf:(fillL #[(.int .i64 0),(.int .i64 0),(.int .i64 0),(.int .i64 0),(.slice none 0 0),(.slice none 0 0),(.int .i64 0),(.int .i64 0),(.int .i64 0)] [(0,1,(.int .i64 3)),(7,1,(.int .i64 2)),(8,1,(.int .i64 1)),(6,1,(.int .i64 0))])=some #[.int .i64 3,.int .i64 0,.int .i64 0,.int .i64 0,.slice none 0 0,.slice none 0 0,.int .i64 0,.int .i64 2,.int .i64 1]:=rfl
 rw[hf,zaA,zaa]
 have wf:OpD.Wf ⟨3,0,0,0,[],[],0,2,1⟩:=zmf (by simp[I64])
 refine(zrn (Z:=fun _=>True) G zmg wf (by simp) (by simp) (by unfold I64;omega) (by unfold I64;omega)).mono fun w h1 ⟨sv,e,e1,_,s1⟩=>?_
 subst e
 have a1:makeC ⟨3,0,0,0,[],[],0,2,1⟩ 4 3=0:=by decide+kernel
 obtain⟨p,q,rfl,tp,tq⟩:=s1 a1
 rw[a1]
 simp only[go_sem]
 refine zbh (cs:=[p,q,.int .i64 _]) rfl (zad (ze5 tp) (zad (ze5 tq) (zad rfl zaq))) rfl fun b2 h2 r2 e2 n2=>?_
 refine(c_l8Lives (G.ext (e1.trans e2))).mono fun w h3 ⟨e,e3⟩=>?_
 subst e
 have r2':=e3.row r2
 have tp3:=tp.ext (e2.trans e3)
 have tq3:=tq.ext (e2.trans e3)
 have np:binV .p .neq p (.pointer none)=some (.bool true):=by obtain⟨_,_,_,hp,_⟩:=tp;rw[hp];rfl
 have nq:binV .p .neq q (.pointer none)=some (.bool true):=by obtain⟨_,_,_,hp,_⟩:=tq;rw[hp];rfl
 simp only[go_sem,eq_self,decide_true,zab r2',np,nq]
 refine(c_From tp3).mono fun w h4 ⟨e,wq⟩=>?_
 have wq:=wq.symm
 subst e wq
 have t1:(makeS ⟨3,0,0,0,[],[],0,2,1⟩ 4 3).x.n=4:=rfl
 have t2:((makeS ⟨3,0,0,0,[],[],0,2,1⟩ 4 3).x.lines.length:Int)=2:=by decide+kernel
 have t3:(makeS ⟨3,0,0,0,[],[],0,2,1⟩ 4 3).y.n=3:=rfl
 have t4:((makeS ⟨3,0,0,0,[],[],0,2,1⟩ 4 3).y.lines.length:Int)=1:=by decide+kernel
 rw[t1]
 simp only[go_sem,eq_self,decide_true,zab r2',np,nq]
 refine(c_To tp3).mono fun w h4 ⟨e,wq⟩=>?_
 have wq:=wq.symm
 subst e wq
 rw[t2]
 simp only[go_sem,eq_self,decide_true,zab r2',np,nq]
 refine(c_From tq3).mono fun w h4 ⟨e,wq⟩=>?_
 have wq:=wq.symm
 subst e wq
 rw[t3]
 simp only[go_sem,eq_self,decide_true,zab r2',np,nq]
 refine(c_To tq3).mono fun w h4 ⟨e,wq⟩=>?_
 have wq:=wq.symm
 subst e wq
 rw[t4]
 simp only[go_sem,eq_self,decide_true]
 exact⟨by simp,e1.trans (e2.trans e3)⟩
theorem c_l9Lives {h:Heap}:FCall prog ziq #[] h fun r h'=>r=.bool true∧Ext h h':=by
 apply zqs
 unfold zkE
 refine zjY.mono fun w h1 ⟨p,e,e1,_,s1⟩=>?_
 subst e
 have a1:imgC 2 1 3 255=0:=by decide+kernel
 obtain⟨b,v,rfl,I,nb,nv,_⟩:=s1 a1
 have W:=znn a1
 rw[a1]
 have np:binV .p .neq (ptr b) (.pointer none)=some (.bool true):=rfl
 simp only[go_sem,eq_self,decide_true,np]
 refine(c_Samples I W).mono fun u h2 N=>?_
 obtain⟨au,cu,eu⟩:=N.isSl
 have eu2:zaf u=some (.int .i64 6):=by rw[eu];rfl
 simp only[go_sem,eq_self,decide_true,eu2]
 refine(c_Set (I.ext N.2.1) W (by omega) (by omega)).mono fun r h3 ⟨e,I3,f3,s3⟩=>?_
 subst e
 have a2:¬(inP (imgN 2 1 3 255) 1 0 2∧(256:Int)≤(imgN 2 1 3 255).most):=by decide+kernel
 rw[if_neg a2]at I3
 rw[decide_eq_false a2]
 simp only[go_sem]
 refine(c_Set I3 W (by omega) (by omega)).mono fun r h4 ⟨e,I4,f4,s4⟩=>?_
 subst e
 have a3:inP (imgN 2 1 3 255) 1 0 2∧(255:Int)≤(imgN 2 1 3 255).most:=by decide+kernel
 rw[decide_eq_true a3]
 simp only[go_sem]
 exact⟨by simp,((e1.trans N.2.1).then_fr f3 nv).then_fr f4 nv⟩
def atZ (p j n:Int):Int:=if n<1∨65536<n then 0 else if p=0 then max 0 (min j (n-1))else if p=1 then min (j%(2*n)) (2*n-1-j%(2*n))else if p=2 then j%n else 0
theorem atZ_in {p j n:Int}(h1:1≤n)(h2:n≤65536):0≤atZ p j n∧atZ p j n<n:=by
 unfold atZ
 rw[if_neg (by omega)]
 have a1:=Int.emod_nonneg j (show 2*n≠0 by omega)
 have a2:=Int.emod_lt_of_pos j (show 0<2*n by omega)
 have a3:=Int.emod_nonneg j (show n≠0 by omega)
 have a4:=Int.emod_lt_of_pos j (show 0<n by omega)
 split
 ·omega
 ·split
  ·omega
  ·split<;>omega
theorem zhM {h:Heap}{p j n:Int}(hj:I64 j):FCall prog zdA #[.int .i64 p,.int .i64 j,.int .i64 n] h fun r h'=>r=.int .i64 (atZ p j n)∧h'=h:=by
 apply ok_border_At
 unfold zn7 atZ
 simp only[go_sem]
 refine zac (fun h0=>?_) (fun h0=>?_)
 ·rw[if_pos h0];exact⟨rfl,trivial⟩
 rw[if_neg h0]
 have a1:=Int.emod_nonneg j (show 2*n≠0 by omega)
 have a2:=Int.emod_lt_of_pos j (show 0<2*n by omega)
 refine zac (fun h1=>?_) (fun h1=>?_)
 ·rw[if_pos h1,w64 (by omega) (by omega)]
  exact c_Clamp
 rw[if_neg h1]
 refine zac (fun h2=>?_) (fun h2=>?_)
 ·rw[if_pos h2,w64 (n:=2*n) (by omega) (by omega)]
  refine(c_Mod hj (by unfold I64;omega) (by omega)).mono fun v h' ⟨e,w⟩=>?_
  subst e
  simp only[go_sem]
  rw[w64 (n:=2*n-1) (by omega) (by omega),w64 (by omega) (by omega)]
  exact⟨rfl,w⟩
 rw[if_neg h2]
 refine zac (fun h3=>?_) (fun h3=>?_)
 ·rw[if_pos h3]
  exact c_Mod hj (by unfold I64;omega) (by omega)
 ·rw[if_neg h3];exact⟨rfl,trivial⟩
end Go.Proofs.YtcoimlclclnlkaaGreatDoor
namespace Go.Crisp
open Go
def sumN (f:Nat→Int):Nat→Int
 |0=>0
 |n+1=>sumN f n+f n
theorem wrap_step (A a v:Int):IntKind.i64.wrap (IntKind.i64.wrap A+IntKind.i64.wrap (a*v))=IntKind.i64.wrap (A+a*v):=by rw[zhk,zfG]
theorem wrap_step3 (A a b v:Int):IntKind.i64.wrap (IntKind.i64.wrap A+IntKind.i64.wrap (IntKind.i64.wrap (a*b)*v))=IntKind.i64.wrap (A+b*(a*v)):=by
 rw[zjS,zhk,zfG]
 congr 1
 rw[Int.mul_comm a b,Int.mul_assoc]
def zmc (s most:Int):Int:=max 0 (min (zgv s 28) (max 0 (min most 65535)))
theorem roundZ_bd (s:Int){most:Int}(h:0≤most):0≤zmc s most∧zmc s most≤65535∧zmc s most≤most:=by unfold zmc;omega
end Go.Crisp
namespace Go.Proofs.YtcoimlclclnlkaaGreatDoor
open Go Go.Crisp
attribute [local irreducible] FCall rowK newK stK iteK vK qK drawK gK joinK loopK mkK appK cpyK zoB zmd bsK clK
open _root_.Go.Proofs.Tryz
def zh9 (m:Pic)(s:Stg)(x row c:Int):Int:=sumN (fun i=>(lineT s.x x).2.getD i 0*atP m (atZ s.border ((lineT s.x x).1+i) m.w) row c) (lineT s.x x).2.length
def totZ (m:Pic)(s:Stg)(x y c:Int):Int:=sumN (fun k=>(lineT s.y y).2.getD k 0*zh9 m s x (atZ s.border ((lineT s.y y).1+k) m.h) c) (lineT s.y y).2.length
def pixZ (m:Pic)(s:Stg)(x y c:Int):Int:=zmc (IntKind.i64.wrap (totZ m s x y c)) m.most
structure Stg.Wf (s:Stg):Prop where
 x:s.x.Wf
 y:s.y.Wf
def zhp (m:Pic)(s:Stg):Prop:=s.x.n=m.w∧s.y.n=m.h∧0≤s.border∧s.border<3
instance (m:Pic)(s:Stg):Decidable (zhp m s):=by unfold zhp;infer_instance
theorem c_Round {h:Heap}{n most:Int}(hn:I64 n):FCall prog zeJ #[.int .i64 n,.int .i64 most] h fun r h'=>r=.int .u16 (zmc n most)∧h'=h:=by
 apply zpq
 unfold zje
 refine(zsR hn (by unfold I64;omega)).mono fun r h1 ⟨e,wq⟩=>?_
 have wq:=wq.symm
 subst e wq
 simp only[go_sem]
 refine c_Clamp.mono fun r h1 ⟨e,wq⟩=>?_
 have wq:=wq.symm
 subst e wq
 simp only[go_sem]
 rw[wu16 (by omega) (by omega)]
 exact⟨rfl,trivial⟩
theorem zcM {Z:Nat→Prop}{h:Heap}{sv:Value}{s:Stg}(H:IsStg Z h sv s):∃p q,sv=.agg #[p,q,.int .i64 s.border]∧IsTbl Z h p s.x∧IsTbl Z h q s.y∧(∀v∈[p,q,Value.int .i64 s.border],zam v=true):=by
 obtain⟨p,q,e,hp,hq⟩:=H
 exact⟨p,q,e,hp,hq,zad (ze5 hp) (zad (ze5 hq) (zad rfl zaq))⟩
theorem zqJ {Z:Nat→Prop}{h:Heap}{p:Value}{t:Tbl}(H:IsTbl Z h p t):binV .p .neq p (.pointer none)=some (.bool true)∧binV .p .eql p (.pointer none)=some (.bool false):=by
 obtain⟨_,_,_,hp,_⟩:=H
 rw[hp]
 exact⟨rfl,rfl⟩
theorem zpX {h:Heap}(G:GlobB h){Z:Nat→Prop}{b:Nat}{v sv:Value}{m:Pic}{s:Stg}(H:IsImg h b v m)(HS:IsStg Z h sv s):FCall prog zbg #[ptr b,sv] h fun r h'=>r=.bool (decide (zhp m s))∧Ext h h':=by
 apply zjt
 unfold zfZ
 obtain⟨p,q,rfl,hp,hq,ones⟩:=zcM HS
 simp only[zaB]
 refine zag fun b1 h1 r1 e1 n1=>?_
 have np:=(zqJ hp).1
 have nq:=(zqJ hq).1
 have hp:=hp.ext e1
 have hq:=hq.ext e1
 have H:=H.ext e1
 have q0:zah h1 ⟨b1,0,none⟩=some p:=zab r1
 have q1:zah h1 ⟨b1,1,none⟩=some q:=zab r1
 have q2:zah h1 ⟨b1,2,none⟩=some (.int .i64 s.border):=zab r1
 simp only[go_sem,Nat.zero_add,q0,q1,q2,np,nq]
 refine(c_From hp).mono fun r h2 ⟨e,wq⟩=>?_
 have wq:=wq.symm
 subst e wq
 refine(zh7 H).mono fun r h2 ⟨e,wq⟩=>?_
 have wq:=wq.symm
 subst e wq
 simp only[go_sem]
 by_cases h1':s.x.n=m.w
 ·simp only[go_sem,h1',q1,q2]
  refine(c_From hq).mono fun r h2 ⟨e,wq⟩=>?_
  have wq:=wq.symm
  subst e wq
  refine(zgZ H).mono fun r h2 ⟨e,wq⟩=>?_
  have wq:=wq.symm
  subst e wq
  simp only[go_sem]
  by_cases h2':s.y.n=m.h
  ·simp only[go_sem,h2',q2]
   refine(zof (G.ext e1)).mono fun r h2 ⟨e,wq⟩=>?_
   have wq:=wq.symm
   subst e wq
   try rw[S_nil,zsX]
   simp only[go_sem]
   refine⟨?_,e1⟩
   congr 1
   have hb:=bNameNil s.border
   by_cases hbn:bName s.border=[]
   ·rw[decide_eq_false (by simpa using hbn),decide_eq_false]
    unfold zhp
    have:=hb.1 hbn
    rintro⟨_,_,a,b⟩
    exact this ⟨a,b⟩
   ·rw[decide_eq_true (by simpa using hbn),decide_eq_true]
    have:=Decidable.of_not_not fun hh=>hbn (hb.2 hh)
    exact⟨h1',h2',this.1,this.2⟩
  ·simp only[go_sem,h2']
   refine⟨?_,e1⟩
   rw[decide_eq_false]
   rintro⟨_,a,_⟩
   exact h2' a
 ·simp only[go_sem,h1']
  refine⟨?_,e1⟩
  rw[decide_eq_false]
  rintro⟨a,_⟩
  exact h1' a
end Go.Proofs.YtcoimlclclnlkaaGreatDoor
