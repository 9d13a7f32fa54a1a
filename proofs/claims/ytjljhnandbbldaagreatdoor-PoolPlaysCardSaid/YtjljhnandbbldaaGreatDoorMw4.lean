/- Several texts of this session, one behind the other, without what this claim does not need (put together by its program pack.py). Conditions: none. -/
import Derived.Test.YtjljhnandbbldaaGreatDoorMw3
set_option linter.unusedVariables false
set_option linter.unusedSimpArgs false
set_option maxRecDepth 100000
namespace Go.Crisp
open Go
def S5 (v:Value):Prop:=∀a n c,v=.slice a n c→c≤9223372036854775807
theorem zdp {z:Value}{e:TypeId}{w bytes:Nat}{s x:Value}{h:ai}{K U:Value→ai→Prop}(H:cR z e w bytes s x h K)(L:S5 s)(m:∀I h',K I h'→S5 I→U I h'):cR z e w bytes s x h U:=by
 unfold cR at H ⊢;split at H
 ·rename_i D A F n _;split at H
  ·rename_i h0;rw[aB h0]
   revert H
   cases xQ w h n x with
   |none=>exact λH=>H
   | some G=>
    cases D with
    |none=>exact λH=>m _ _ H λa n c e=>by cases e;exact L _ _ _ rfl
    |some a=>
     dsimp only;cases kM h (a.add (A*w)) 0 G with
     |none=>exact λH=>H
     |some h'=>exact λH=>m _ _ H λa n c e=>by cases e;exact L _ _ _ rfl
  ·rename_i h0;rw[aA h0];refine⟨H.1,H.2.1,?_⟩;have H:=H.2.2
   revert H
   cases xQ w h A (.slice D A F)<;>cases xQ w h n x
   ·exact λH=>H
   ·exact λH=>H
   ·exact λH=>H
   ·exact λH c h1 W=>m _ _ (H c h1 W) λa n c' e=>by cases e;omega
 ·exact H
theorem SlC.isSl_one {w:Nat}{h:ai}{v:Value}{n:Nat}{cs:List Value}(H:SlC w h v n cs):aV v=true:=by obtain⟨a,c,e⟩:=H.isSl;rw[e];rfl
def Rp.SlCap (v:Value):Prop:=∃a n c,v=.slice a n c∧n≤c
theorem za5:S5 (.slice none 0 0):=λa n c e=>by cases e;omega
end Go.Crisp
namespace Go.Proofs.YtjljhnandbbldaaGreatDoor
open Go Go.Crisp
attribute [local irreducible] ag cO aT stK aG vK qK bL gK eM bC mkK HA JA Ep bsK clK vu pP Zb
open _root_.Go.Proofs.Tryz
section
theorem Tj {α:Type}[Inhabited α](enc:α→Value)(off:Nat)(d:Array α)(c:Array Value)(i:Nat):(Go.Sort.putCells enc off d c)[i]? =c[i]?.map λx=>if off≤i∧i<off+d.size then enc d[i-off]! else x:=by
 unfold Go.Sort.putCells;rw[Array.getElem?_mapIdx]
theorem zdg {h:ai}{v:Value}{x:Int}{l:List Int}(H:Own 1 h v (l.length+1) ((x::l).map λn=>af n))(hc:S5 v):
  ag prog mo #[v,aj,aJ] h λr h'=>Own 1 h' r l.length (l.map λn=>af n)∧S5 r∧Fr (blk v) h h'∧(∀b,blk r b→blk v b):=by
 refine ag.ofCalls (by kernel_rfl) λw hh=>?_
 subst hh;rcases H with⟨_,h0,_⟩|⟨b,cap,r,e,rfl,L,hl,hr,D⟩
 ·cases h0
 have I:=hc _ _ _ rfl;have G:∀j,(A:j<(x::l).length)→w.heap[b]? =some (.cells ((x::l).map (λn=>af n)++r).toArray e (0,0))→aE w.heap ⟨b,0+j,none⟩=some (af (x::l)[j]):=λj A D=>by
  rw[ao D,aO];simp only[yX];rw[pR (by simpa using A),vH,gN A];rfl
 have hH:Go.Sort.Holds (Value.int .i64) w b 0 (x::l).toArray:=λj A=>by
  have W:j<(x::l).length:=by simpa using A
  refine⟨?_,?_⟩
  ·rw[getElem!_pos (x::l).toArray j A];exact G j W D
  ·show xq w.heap ⟨b,0+j,none⟩=false;unfold xq;simp[D]
 have:=Any.slices_Delete_int X6 b 0 cap 0 1 (x::l) w hH L I ae (by simp);refine this.mono λe' w' ⟨h1,q,h2⟩=>⟨_,h1,?_⟩
 subst h2;have aa:b<w.heap.size:=(mT.1 D).1;have F:(Go.Sort.putRow (Value.int .i64) (Go.Sort.ahead w q) b 0 ((x::l).take 0++(x::l).drop 1++List.replicate (1-0) 0).toArray).heap[b]? =some (.cells (l.map (λn=>af n)++(af 0::r)).toArray e (0,0)):=by
  show(w.heap.modify b (Go.Sort.onCells _))[b]? =_;rw[Nm,aB rfl,D];show some (Obj.cells (Go.Sort.putCells _ 0 _ _) e (0,0))=_
  congr 2
  apply Array.ext_getElem?;intro i;rw[Tj];simp only[M8,eZ,List.drop_succ_cons,Ni,AN,List.replicate_one,bZ,EC,aO,Uz,cF,ZB,yX];by_cases U:i<l.length+1
  ·rw[pR (by simpa using U),vH,gN (show i<(x::l).length by simpa using U),cU,cU,aB U,getElem!_pos _ i (by simpa using U)];by_cases h4:i<l.length
   ·rw[pR (by simpa using h4),vH,gN h4];simp[ZA,h4]
   ·have:i=l.length:=ae;subst this;rw[mP (by simp)];simp
  ·have e1:((x::l).map (λn=>af n)++r)[i]? =r[i-(l.length+1)]? :=by
    rw[mP (by simp;omega)];simp
   have e2:(l.map (λn=>af n)++af 0::r)[i]? =r[i-(l.length+1)]? :=by
    rw[mP (by simp;omega),da,show i-l.length=(i-(l.length+1))+1 by omega,yB]
   rw[e1,e2];cases r[i-(l.length+1)]? <;>simp[U]
 refine⟨⟨rfl,rfl,rfl⟩,?_,λa n c e=>?_,⟨?_,λk hk hm=>?_⟩,λk hk=>hk⟩
 ·refine .inr ⟨b,cap,af 0::r,e,?_,ae,by simp,?_,F⟩
  ·simp
  ·simp at hr ⊢;omega
 ·cases e;exact I
 ·show w.heap.size≤(w.heap.modify b _).size;simp
 ·show(w.heap.modify b _)[k]? =_;rw[Nm,aA (λh=>hm h.symm)]
structure QD where
 room:Int
 l:List Int
 closed:Bool
structure QD.Wf (d:QD):Prop where
 r1:1≤d.room
 r2:d.room≤4096
 l:(d.l.length:Int)≤d.room
structure IsQ (Q:Nat→Prop)(h:ai)(b:Nat)(d:QD):Prop where
 at_:∃v,h[b]? =some (.cells #[.int .i64 d.room,v,.bool d.closed] 215 (0,0))∧Own 1 h v d.l.length (d.l.map λn=>Value.int .i64 n)∧S5 v∧¬blk v b∧∀c,blk v c→Q c
 qb:Q b
 ql:∀c,Q c→c<h.size
 wf:d.Wf
theorem IsQ.fr {Q M:Nat→Prop}{h h':ai}{b:Nat}{d:QD}(H:IsQ Q h b d)(f:Fr M h h')(q:∀c,Q c→¬M c):IsQ Q h' b d:=by
 obtain⟨⟨v,r,o,c,n,s⟩,qb,ql,w⟩:=H;exact⟨⟨v,f.row r (q b qb),o.fr f λk A=>q k (s k A),c,n,s⟩,qb,λk A=>ce (ql k A) f.1,w⟩
theorem IsQ.ext {Q:Nat→Prop}{h h':ai}{b:Nat}{d:QD}(H:IsQ Q h b d)(e:Ext h h'):IsQ Q h' b d:=H.fr (M:=λ_=>False) e.fr λ_ _=>id
def iL (d:QD)(x:Int):QD:=if d.closed then d else if d.room≤d.l.length then d else{d with l:=d.l++[x]}
def kO (d:QD):Int:=if d.closed then 2 else if d.room≤d.l.length then 1 else 0
def iM (d:QD):QD:={d with l:=d.l.tail}
def bi (d:QD):Int:=d.l.headD 0
def bX (d:QD):Int:=if d.l=[]then(if d.closed then 2 else 1)else 0
theorem Nr {B:Nat→Prop}{h h':ai}(D:∀c,B c→c<h.size)(A:h.size≤h'.size):∀c,rV B h h' c→c<h'.size:=λc hc=>hc.elim (λh=>ce (D c h) A) λh=>h.2
section
variable {Q:Nat→Prop}{h:ai}{b:Nat}{d:QD}
theorem zc2 {h:ai}{n:Int}:ag prog oW #[af n] h λr h'=>∃b,r=ptr b∧IsQ (λc=>c=b) h' b ⟨min (max 1 n) 4096,[],false⟩∧Ext h h'∧h.size≤b:=by
 apply TJ;unfold IK;have D:∀v:Int,aR #[aj,(.slice none 0 0),(.bool false)] [(0,1,af v)]=some #[af v,.slice none 0 0,.bool false]:=λ_=>rfl
 simp only[go_sem,D,bH];refine aI λb h1 r1 A F=>?_
 exact⟨b,rfl,⟨⟨_,r1,.inl ⟨rfl,rfl,rfl⟩,za5,id,λc hc=>hc.elim⟩,rfl,λc hc=>by rw[hc];exact aW r1,⟨by show 1≤min (max 1 n) 4096;omega,by show min (max 1 n) 4096≤4096;omega,by show(0:Int)≤min (max 1 n) 4096;omega⟩⟩,A,F⟩
theorem SM (H:IsQ Q h b d):ag prog jw #[ptr b] h λr h'=>r=.bool d.closed∧h'=h:=by
 apply Cc;unfold qW;obtain⟨⟨v,r,o,c,n,s⟩,qb,ql,w⟩:=H;have A:aE h ⟨b,2,none⟩=some (.bool d.closed):=ao r;simp only[go_sem,A];exact⟨trivial,trivial⟩
theorem SV (H:IsQ Q h b d):ag prog ja #[ptr b] h λr h'=>r=.bool (decide (kO d≠1))∧h'=h:=by
 apply AE;unfold pF kO;obtain⟨⟨v,r,o,c,n,s⟩,qb,ql,w⟩:=H;have D:aE h ⟨b,0,none⟩=some (af d.room):=ao r;have F:aE h ⟨b,1,none⟩=some v:=ao r;have A:aE h ⟨b,2,none⟩=some (.bool d.closed):=ao r;obtain⟨a,L,e⟩:=o.isSl;have I:aD v=some (af (d.l.length:Int)):=by rw[e];rfl
 cases hc:d.closed with
 |true=>
  rw[hc]at A;simp only[go_sem,D,F,A,I];exact⟨by simp,trivial⟩
 |false=>
  rw[hc]at A;simp only[go_sem,D,F,A,I,aO];refine⟨?_,trivial⟩
  congr 1
  rw[iB];by_cases G:d.room≤d.l.length
  ·simp[G]
  ·simp[G];omega
theorem U5 (H:IsQ Q h b d):ag prog jH #[ptr b] h λr h'=>r=.bool (decide (bX d≠1))∧h'=h:=by
 apply xN;unfold mK bX;obtain⟨⟨v,r,o,c,n,s⟩,qb,ql,w⟩:=H;have D:aE h ⟨b,1,none⟩=some v:=ao r;have A:aE h ⟨b,2,none⟩=some (.bool d.closed):=ao r;obtain⟨a,G,e⟩:=o.isSl;have F:aD v=some (af (d.l.length:Int)):=by rw[e];rfl
 cases hc:d.closed with
 |true=>
  rw[hc]at A;simp only[go_sem,D,A,F];refine⟨?_,trivial⟩;cases d.l<;>simp
 |false=>
  rw[hc]at A;simp only[go_sem,D,A,F,aO];refine⟨?_,trivial⟩;cases d.l<;>simp
theorem zew (H:IsQ Q h b d){x:Int}:ag prog oJ #[ptr b,af x] h λr h'=>r=af (kO d)∧IsQ (rV Q h h') h' b (iL d x)∧Fr Q h h':=by
 apply Fh;unfold uT;have H0:=H;obtain⟨⟨v,r,o,c,n,s⟩,qb,ql,w⟩:=H;have c1:aE h ⟨b,1,none⟩=some v:=ao r;have I:aE h ⟨b,2,none⟩=some (.bool d.closed):=ao r;cases hc:d.closed with
 |true=>
  rw[hc]at I;simp only[go_sem,I];unfold kO iL;rw[aB hc,aB hc,EO];exact⟨rfl,H0,Fr.refl _ _⟩
 | false=>
  have A:¬d.closed=true:=by rw[hc];simp
  rw[hc]at I;simp only[go_sem,I];refine ag.at (SV H0) ?_;by_cases L:d.room≤d.l.length
  ·have hs:kO d=1:=by unfold kO;rw[aA A,aB L]
   have hq:iL d x=d:=by unfold iL;rw[aA A,aB L]
   rw[hs,hq,EO,b9 (by decide)];simp only[go_sem];exact⟨trivial,H0,Fr.refl _ _⟩
  ·have hs:kO d=0:=by unfold kO;rw[aA A,aA L]
   have hq:iL d x={d with l:=d.l++[x]}:=by unfold iL;rw[aA A,aA L]
   rw[hs,hq,cH (by decide)];simp only[go_sem,c1];have w1:=w.r2;refine cT (Rp.fill_one rfl) λb1 h1 r1 F n1=>?_
   refine zdp (ui (o.fr (M:=λ_=>False) F.fr λ_ _=>id) (Rp.SlC.single (cs:=[af x]) r1) (az rfl aU) rfl ae ae λs' h2 o2 f2 U=>(⟨o2,f2,U⟩:Own 1 h2 s' (d.l.length+1) (d.l.map (λn=>af n)++[af x])∧Fr (blk v) h1 h2∧∀b,blk s' b→blk v b∨h1.size≤b)) c λv2 h2 ⟨o2,f2,U⟩ aa=>?_
   have rb:=f2.row (F.row r) n;have an:=aW (F.row r);have G:¬blk v2 b:=λhv=>(U b hv).elim n λhh=>ae
   try simp only[go_sem]
   refine bG rb (by simp) o2.sl.isSl_one λh3 r3 W=>?_
   have ad:=F.1;have al:=f2.1;have am:=W.1;refine⟨trivial,⟨⟨v2,r3,?_,aa,G,λk D=>?_⟩,.inl qb,Nr ql ae,⟨w.r1,w.r2,by show((d.l++[x]).length:Int)≤d.room;simp;omega⟩⟩,?_⟩
   ·show Own 1 h3 v2 (d.l++[x]).length ((d.l++[x]).map λn=>af n);rw[cF,jW];exact o2.fr W.fr λk D he=>G (he▸D)
   ·rcases U k D with h5|h5
    ·exact .inl (s k h5)
    ·have:=o2.lt D;exact .inr ⟨ae,ae⟩
   ·exact((F.fr (M:=Q)).after f2 λk _ D=>s k D).after W.fr λk _ D=>D▸qb
theorem Yx (H:IsQ Q h b d):ag prog ll #[ptr b] h λr h'=>r=.tuple #[af (bi d),af (bX d)]∧IsQ (rV Q h h') h' b (iM d)∧Fr Q h h':=by
 apply AD;unfold pE;have H0:=H;obtain⟨⟨v,r,o,c,n,s⟩,qb,ql,w⟩:=H;have c1:aE h ⟨b,1,none⟩=some v:=ao r;have c2:aE h ⟨b,2,none⟩=some (.bool d.closed):=ao r;obtain⟨a,cp,e⟩:=o.isSl;have G:aD v=some (af (d.l.length:Int)):=by rw[e];rfl
 cases A:d.l with
 |nil=>
  have W:bi d=0:=by unfold bi;rw[A];rfl
  have hq:iM d=d:=by unfold iM;rw[A];cases d;simp_all
  rw[W,hq];rw[A]at G;have L:¬(0:Int)<((0:Nat):Int):=ae;simp only[go_sem,c1,G,lX,b9 L,c2];have U:bX d=if d.closed then 2 else 1:=by unfold bX;rw[aB A]
  rw[U];cases d.closed with
  |true=>rw[fK];exact⟨rfl,by rw[EO];exact H0,Fr.refl _ _⟩
  |false=>rw[cg];exact⟨rfl,by rw[EO];exact H0,Fr.refl _ _⟩
 |cons x t=>
  have W:bi d=x:=by unfold bi;rw[A];rfl
  have hq:iM d={d with l:=t}:=by unfold iM;rw[A];rfl
  have U:bX d=0:=by unfold bX;rw[aA (by rw[A];simp)]
  rw[W,hq,U];rw[A]at G o;have o':Own 1 h v (t.length+1) ((x::t).map λn=>af n):=o;have zp:(0:Int)<(((x::t).length:Nat):Int):=by simp
  obtain⟨pp,p1,p2⟩:=(GI (k:=.i64) (l:=x::t) o).int_at (k':=.i64) (i:=0) (by simp);have p1:bh 1 v aj=some pp:=p1;simp only[go_sem,c1,G,cH zp,p1,p2];refine(zdg o' c).mono λv2 h2 ⟨o2,aa,f2,n2⟩=>?_
  have rb:=f2.row r n;have F:¬blk v2 b:=λhv=>n (n2 b hv)
  try simp only[go_sem]
  refine bG rb (by simp) o2.sl.isSl_one λh3 r3 I=>?_
  have ad:=f2.1;have al:=I.1;have wl:=w.l;rw[A]at wl;refine⟨rfl,⟨⟨v2,r3,o2.fr I.fr λk D he=>F (he▸D),aa,F,λk D=>.inl (s k (n2 k D))⟩,.inl qb,Nr ql ae,⟨w.r1,w.r2,by show(t.length:Int)≤d.room;simp at wl;omega⟩⟩,?_⟩;exact(f2.mono λk _ D=>s k D).trans (I.fr.mono λk _ D=>D▸qb)
theorem W9 (H:IsQ Q h b d):ag prog jP #[ptr b] h λr h'=>r=.bool (!d.closed)∧IsQ Q h' b {d with closed:=true}∧Fr Q h h':=by
 apply Dg;unfold tD;obtain⟨⟨v,r,o,c,n,s⟩,qb,ql,w⟩:=H;have F:aE h ⟨b,2,none⟩=some (.bool d.closed):=ao r;simp only[go_sem,F];refine bG r (by simp) rfl λL G A=>?_
 try simp only[go_sem]
 exact⟨trivial,⟨⟨v,G,o.fr A.fr λk D I=>n (I▸D),c,n,s⟩,qb,λc hc=>by rw[A.1];exact ql c hc,⟨w.r1,w.r2,w.l⟩⟩,A.fr.mono λk _ D=>D▸qb⟩
end
def rQ:Rp QD where
 w:=3
 R:=λZ h cs d=>∃v,cs=[.int .i64 d.room,v,.bool d.closed]∧Rp.Sl (Rp.int .i64) Z h v d.l∧Go.Crisp.Rp.SlCap v
 len:=by rintro _ _ _ _ ⟨x,rfl,_⟩;rfl
 one:=by
  rintro _ _ _ _ ⟨x,rfl,H,_⟩;exact az rfl (az H.one (az rfl aU))
 fr:=by rintro _ _ _ _ _ _ ⟨x,rfl,H,c⟩ f q;exact⟨x,rfl,H.fr f q,c⟩
 mono:=by rintro _ _ _ _ _ ⟨x,rfl,H,c⟩ q;exact⟨x,rfl,H.mono q,c⟩
end
end Go.Proofs.YtjljhnandbbldaaGreatDoor
namespace Go.Crisp
open Go
theorem Rp.Sl.tl {α:Type}{e:Rp α}{Z:Nat→Prop}{h:ai}{v:Value}{x:α}{l:List α}(H:Rp.Sl e Z h v (x::l))(hc:Rp.SlCap v){k:IntKind}:
  ∃A,ni e.w v (some (.int k 1)) none=some A∧Rp.Sl e Z h A l∧Rp.SlCap A:=by
 obtain⟨a,n,cap,rfl,D⟩:=hc;obtain⟨W,F,U⟩:=H.isSl;cases U;obtain⟨A,h1,I⟩:=H.part (lo:=1) (hi:=(x::l).length) (by simp) (ck _) rfl D (k:=k) (k':=.i64);have G:ni e.w (.slice a (x::l).length cap) (some (.int k 1)) (some (af (((x::l).length:Nat):Int)))=ni e.w (.slice a (x::l).length cap) (some (.int k 1)) none:=by
  unfold ni;simp only[yC .i64 (x::l).length (x::l).length cap D];simp only[bdV]
 rw[show(((1:Nat):Int))=1 from rfl,G]at h1;refine⟨A,h1,?_,?_⟩
 ·simpa using I
 ·have L:bdV (some (Value.int k 1)) 0 (x::l).length=some 1:=yC k 1 0 _ (by simp);simp only[ni,bdV,L]at h1;rw[aB (by simp;omega)]at h1;cases h1;exact⟨_,_,_,rfl,ae⟩
theorem Rp.Ow.slcap {α:Type}{e:Rp α}{Z:Nat→Prop}{h:ai}{v:Value}{l:List α}(H:Rp.Ow e Z h v l):Rp.SlCap v:=by
 obtain⟨ds,o,_⟩:=H;rcases o with⟨rfl,_,_⟩|⟨b,cap,r,e,rfl,hc,_⟩
 ·exact⟨_,_,_,rfl,ck _⟩
 ·exact⟨_,_,_,rfl,hc⟩
end Go.Crisp
namespace Go.Proofs.YtjljhnandbbldaaGreatDoor
open Go Go.Crisp
attribute [local irreducible] ag cO aT stK aG vK qK bL gK eM bC mkK cR HA JA Ep bsK clK vu pP Zb
open _root_.Go.Proofs.Tryz
section
theorem zc0 {h:ai}{n:Int}:ag prog ms #[af n] h λr h'=>r=.agg #[af (min (max 1 n) 4096),.slice none 0 0,.bool false]∧Ext h h':=by
 apply Ty;unfold Iz;have A:∀v:Int,aR #[aj,(.slice none 0 0),(.bool false)] [(0,1,af v)]=some #[af v,.slice none 0 0,.bool false]:=λ_=>rfl
 refine aI λF h1 r1 G H=>?_
 have fin:∀v:Int,v=min (max 1 n) 4096→stK 3 (ptr F) (.agg #[af v,.slice none 0 0,.bool false]) h1 λW D=>vK (aM 3 D (ptr F)) λL=>L=.agg #[af (min (max 1 n) 4096),.slice none 0 0,.bool false]∧Ext h D:=by
  intro v U;subst U;refine bI (l:=[af (min (max 1 n) 4096),.slice none 0 0,.bool false]) r1 rfl (az rfl (az rfl (az rfl aU))) rfl λh2 r2 I=>?_
  rw[aL (l:=[af (min (max 1 n) 4096),.slice none 0 0,.bool false]) r2 3 rfl,ah];exact⟨rfl,G.upd H I⟩
 simp only[go_sem];refine aq (λg1=>?_) (λg1=>?_)
 ·rw[b9 (by decide)];simp only[go_sem,A,bH];exact fin 1 ae
 ·refine aq (λg2=>?_) (λg2=>?_)
  ·simp only[go_sem,A,bH];exact fin 4096 ae
  ·simp only[go_sem,A,bH];exact fin n ae
theorem SB {h h1:ai}{Z:Nat→Prop}{b:Nat}{v:Value}{l:List Int}{x:Int}{t:TypeId}{K:Value→ai→Prop}(H:Rp.Sl (Rp.int .i64) Z h v l)(hl:l.length≤1000000000)(r1:h1[b]? =some (.cells #[] t (0,0)))(D:Ext h h1)(U:h.size≤b)
  (HK:∀u h',New (Rp.int .i64) h h' u (l++[x])→K u h'):
  cR aj t 1 8 (.slice (some ⟨b,0,none⟩) 0 0) v h1 λA G=>cO #[aj] t 1 [(0,1,af x)] G λI L=>cR aj t 1 8 A I L K:=by
 have o0:Rp.Ow (Rp.int .i64) (λ_=>False) h1 (.slice (some ⟨b,0,none⟩) 0 0) []:=⟨[],.inr ⟨b,0,[],t,rfl,ck _,rfl,rfl,r1⟩,λ_ _ h=>h,λi hi=>absurd hi (by simp)⟩
 obtain⟨ds,hs,hz,he⟩:=H.ext D;refine Rp.app_ow (e:=Rp.int .i64) (l2:=l) o0 hs (λi hi=>he i hi) rfl (by simp;omega) (by simp;omega) (λb hb=>hb.elim) λs' h2 o2 f2 n2=>?_
 have E2:Ext h h2:=D.then_fr f2 λc hc=>by rw[show c=b from hc];exact U
 refine New.push_int (h:=h) (x:=x) ⟨o2,E2,λc hc=>?_⟩ rfl (by simp;omega) (by simp;omega) λW h3 N3=>HK W h3 N3
 rcases n2 c hc with F|F
 ·rw[show c=b from F];exact U
 ·exact bA D.1 F
section
variable {Z:Nat→Prop}{h:ai}{cs:List Value}{d:QD}
theorem zbf (H:rQ.R Z h cs d)(hl:d.l.length≤1000000000){x:Int}:ag prog Bd #[.agg cs.toArray,af x] h λr h'=>∃ds,r=.tuple #[.agg ds.toArray,af (kO d)]∧rQ.R (λc=>Z c∨(h.size≤c∧c<h'.size)) h' ds (iL d x)∧Ext h h':=by
 apply QZ;unfold FH;have H0:=H;obtain⟨v,rfl,Hv,an⟩:=H;simp only[bF];refine aI λF h1 r1 e1 n1=>aI λI U r2 e2 n2=>?_
 have E2:=e1.trans e2;have ar:=aW r1;have r1:=e2.row r1;have c0:aE U ⟨F,0,none⟩=some (af d.room):=ao r1;have c1:aE U ⟨F,1,none⟩=some v:=ao r1;have c2:aE U ⟨F,2,none⟩=some (.bool d.closed):=ao r1;have on:=Hv.one;obtain⟨a,cp,e⟩:=Hv.isSl;have el:aD v=some (af (d.l.length:Int)):=by rw[e];rfl
 have W:h.size≤I:=bA e1.1 n2;have D:∀k:Int,∀(hq:iL d x=d) (hr:kO d=k),vK (aM 3 U (ptr F)) λv7=>stK 3 (ptr I) v7 U λv8 h9=>vK (aM 3 h9 (ptr I)) λad=>
   ∃ds:List Value,Value.tuple #[ad,af k]=.tuple #[.agg ds.toArray,af (kO d)]∧rQ.R (λc=>Z c∨(h.size≤c∧c<h9.size)) h9 ds (iL d x)∧Ext h h9:=by
  intro k hq hr;rw[aL (l:=[af d.room,v,.bool d.closed]) r1 3 rfl,ah];refine bI (l:=[af d.room,v,.bool d.closed]) r2 rfl (az rfl (az on (az rfl aU))) rfl λh3 r3 u3=>?_
  rw[aL (l:=[af d.room,v,.bool d.closed]) r3 3 rfl,ah,hq,hr];have E3:=E2.upd W u3;exact⟨_,rfl,rQ.mono (rQ.ext H0 E3) λc _ hc=>.inl hc,E3⟩
 cases hc:d.closed with
 |true=>
  rw[hc]at c2;simp only[go_sem,aO,c2];exact D 2 (by unfold iL;rw[aB hc]) (by unfold kO;rw[aB hc])
 | false=>
  have A:¬d.closed=true:=by rw[hc];simp
  rw[hc]at c2;simp only[go_sem,aO,c0,c1,c2,el];refine aq (λg=>?_) (λg=>?_)
  ·exact D 1 (by unfold iL;rw[aA A,aB g]) (by unfold kO;rw[aA A,aB g])
  ·have hs:kO d=0:=by unfold kO;rw[aA A,aA g]
   have hq:iL d x={d with l:=d.l++[x]}:=by unfold iL;rw[aA A,aA g]
   rw[hs,hq];refine cT (c':=#[]) rfl λb3 h3 r3 e3 n3=>?_
   have c1:aE h3 ⟨F,1,none⟩=some v:=ao (e3.row r1);simp only[go_sem,aO,c1];refine SB (Hv.ext E2) hl r3 e3 n3 λu h4 G=>?_
   have al:=G.2.1.row r1;have hs:=G.2.1.1;refine bG al (by simp) G.sl.one λh5 r5 u5=>?_
   have r5:h5[F]? =some (.cells #[af d.room,u,.bool d.closed] 43 (0,0)):=r5;have l1:=aW r1;have am:∀c,blk u c→¬c=F:=λc hc he=>by have:=G.2.2 c hc;omega
   have N5:=(G.before E2).fr u5.fr (λc hc=>by rw[hc];exact n1) am;have l2:=aW r2;have aa:¬I=F:=ae;rw[aL (l:=[af d.room,u,.bool d.closed]) r5 3 rfl,ah];refine bI (l:=[af d.room,u,.bool d.closed]) (u5.row aa (G.2.1.row r2)) rfl (az rfl (az N5.sl.one (az rfl aU))) rfl λh6 r6 u6=>?_
   rw[aL (l:=[af d.room,u,.bool d.closed]) r6 3 rfl,ah];have L:∀c,blk u c→¬c=I:=λc hc he=>by have:=G.2.2 c hc;omega
   have N6:=N5.fr u6.fr (λc hc=>by rw[hc];exact W) L;exact⟨_,rfl,⟨u,rfl,N6.sl.mono λc hc hu=>.inr ⟨N6.2.2 c hu,hc⟩,N6.1.slcap⟩,N6.2.1⟩
theorem UR (H:rQ.R Z h cs d):ag prog uH #[.agg cs.toArray] h λr h'=>∃ds,r=.tuple #[.agg ds.toArray,af (bi d),af (bX d)]∧rQ.R Z h' ds (iM d)∧Ext h h':=by
 apply KZ;unfold zP;have H0:=H;obtain⟨v,rfl,L,G⟩:=H;simp only[bF];refine aI λb1 h1 r1 e1 n1=>aI λb2 h2 r2 e2 n2=>?_
 have E2:=e1.trans e2;have an:=aW r1;have r1:=e2.row r1;have c1:aE h2 ⟨b1,1,none⟩=some v:=ao r1;have I:aE h2 ⟨b1,2,none⟩=some (.bool d.closed):=ao r1;have on:=L.one;obtain⟨a,cp,e⟩:=L.isSl;have el:aD v=some (af (d.l.length:Int)):=by rw[e];rfl
 have W:h.size≤b2:=bA e1.1 n2;simp only[go_sem,aO,c1,el];refine aq (λg=>?_) (λg=>?_)
 ·have A:d.l=[]:=lg ae;have hx:bi d=0:=by unfold bi;rw[A];rfl
  have hq:iM d=d:=by unfold iM;rw[A];cases d;simp_all
  have hr:bX d=if d.closed then 2 else 1:=by unfold bX;rw[aB A]
  rw[hx,hq,hr];have F:∀k:Int,vK (aM 3 h2 (ptr b1)) λv7=>stK 3 (ptr b2) v7 h2 λv8 h9=>vK (aM 3 h9 (ptr b2)) λal=>
    ∃ds:List Value,Value.tuple #[al,aj,af k]=.tuple #[.agg ds.toArray,aj,af k]∧rQ.R Z h9 ds d∧Ext h h9:=by
   intro k;rw[aL (l:=[af d.room,v,.bool d.closed]) r1 3 rfl,ah];refine bI (l:=[af d.room,v,.bool d.closed]) r2 rfl (az rfl (az on (az rfl aU))) rfl λh3 r3 u3=>?_
   rw[aL (l:=[af d.room,v,.bool d.closed]) r3 3 rfl,ah];have E3:=E2.upd W u3;exact⟨_,rfl,rQ.ext H0 E3,E3⟩
  have I:=I;cases hc:d.closed with
  |true=>
   rw[hc]at I;simp only[go_sem,aO,I];exact F 2
  |false=>
   rw[hc]at I;simp only[go_sem,aO,I];exact F 1
 ·cases A:d.l with
  |nil=>rw[A]at g;exact absurd rfl g
  |cons x t=>
   have hx:bi d=x:=by unfold bi;rw[A];rfl
   have hq:iM d={d with l:=t}:=by unfold iM;rw[A];rfl
   have hr:bX d=0:=by unfold bX;rw[aA (by rw[A];simp)]
   rw[hx,hq,hr];rw[A]at L;obtain⟨pp,p1,p2⟩:=(L.ext E2).int_at (k':=.i64) (i:=0) (by simp);have p1:bh 1 v aj=some pp:=p1;obtain⟨U,s1,s2,s3⟩:=Rp.Sl.tl (L.ext E2) G (k:=.i64);have s1:ni 1 v (some aJ) none=some U:=s1;simp only[go_sem,aO,c1,p1,p2,s1];refine bG r1 (by simp) s2.one λh5 r5 u5=>?_
   have r5:h5[b1]? =some (.cells #[af d.room,U,.bool d.closed] 43 (0,0)):=r5;have aa:¬b2=b1:=ae;have E5:Ext h h5:=E2.upd n1 u5;rw[aL (l:=[af d.room,U,.bool d.closed]) r5 3 rfl,ah];refine bI (l:=[af d.room,U,.bool d.closed]) (u5.row aa r2) rfl (az rfl (az s2.one (az rfl aU))) rfl λh6 r6 u6=>?_
   rw[aL (l:=[af d.room,U,.bool d.closed]) r6 3 rfl,ah];have E6:Ext h h6:=E5.upd W u6;obtain⟨am,D,ad,ar⟩:=Rp.Sl.tl (L.ext E6) G (k:=.i64);have D:ni 1 v (some aJ) none=some am:=D;rw[s1]at D;cases D;exact⟨_,rfl,⟨U,rfl,ad,s3⟩,E6⟩
end
end
section
structure WE where
 bf:Nat
 vf:Value
 bt:Nat
 vt:Value
 p:Value
 q:Value
 m:Pic
 s:Stg
structure WE.Ok (E:WE):Prop where
 m:E.m.Wf
 s:DQ E.s
abbrev WE.d (E:WE)(t:dc):fS:=⟨E.m,E.s,t⟩
def ke (Z B:Nat→Prop)(h:ai)(E:Option WE)(n:Pic)(jv:Value):Option (dc×Int×Int)→Prop
 |none=>jv=.pointer none
 |some (t,y,e)=>∃E',E=some E'∧E'.Ok∧pg E'.m n E'.s t=0∧∃bj rv,jv=ptr bj∧lJ Z B h bj E'.bf E'.vf E'.bt E'.vt E'.p E'.q rv (E'.d t) y e n (kn (bT E'.s.y.lines)) (gH (t.w*E'.m.c))
def eB (E:Option WE):Nat→Prop:=match E with|none=>λ_=>False|some E=>blk E.vt
def Az (E:Option WE)(b:Nat):Prop:=match E with|none=>True|some E=>b≠E.bt
theorem ke.one {Z B:Nat→Prop}{h:ai}{E:Option WE}{n:Pic}{A:Value}{jo:Option (dc×Int×Int)}(H:ke Z B h E n A jo):aV A=true:=by
 cases jo with
 |none=>rw[show A=_ from H];rfl
 |some x=>obtain⟨t,y,e⟩:=x;obtain⟨_,_,_,_,bj,rv,rfl,_⟩:=H;rfl
def jM (h:ai)(E:Option WE)(n:Pic):Prop:=∀E',E=some E'→du h E'.bt E'.vt n∧n.Wf
theorem ke.other {Z B Q:Nat→Prop}{h h':ai}{E:Option WE}{n n':Pic}{F:Value}{jo:Option (dc×Int×Int)}(H:ke Z B h E n F jo)(f:Fr Q h h')(L:∀c,Z c→¬Q c)(qb:∀c,B c→¬Q c)(I:jM h' E n')(D:fj n n'):ke Z B h' E n' F jo:=by
 cases jo with
 |none=>exact H
 |some x=>
  obtain⟨t,y,e⟩:=x;obtain⟨A,rfl,ok,hc,bj,rv,rfl,S⟩:=H;obtain⟨G,U⟩:=I A rfl;exact⟨A,rfl,ok,D.newC hc,bj,rv,rfl,S.other f L qb G (ZJ U (D.newC hc))⟩
structure WD where
 state:Int
 tiles:List Int
 job:Option (dc×Int×Int)
 words:Int
def pV (E:Option WE)(jo:Option (dc×Int×Int)):Prop:=match jo,E with|some (t,y,e),some E=>bP (E.d t) y e≠0|_,_=>False
structure IsW (Z B:Nat→Prop)(h:ai)(bw:Nat)(E:Option WE)(n:Pic)(w:WD):Prop where
 at_:∃tv jv Bj,h[bw]? =some (.cells #[.int .i64 w.state,tv,jv,.int .i64 w.words] 182 (0,0))∧Own 1 h tv w.tiles.length (w.tiles.map λn=>Value.int .i64 n)∧ke Z Bj h E n jv w.job∧
  (∀c,blk tv c→B c∧¬Bj c∧c≠bw)∧(∀c,Bj c→B c)∧¬Bj bw
 bw0:B bw
 bl:∀c,B c→c<h.size
 bz:∀c,B c→¬Z c∧Az E c∧¬eB E c
 zl:∀c,Z c→c<h.size
 out:jM h E n
 st:(w.state=1∧pV E w.job∧w.tiles≠[])∨((w.state=0∨w.state=2)∧w.job=none)
theorem IsW.other {Z B Q:Nat→Prop}{h h':ai}{bw:Nat}{E:Option WE}{n n':Pic}{w:WD}(H:IsW Z B h bw E n w)(f:Fr Q h h')(G:∀c,Z c→¬Q c)(qb:∀c,B c→¬Q c)(I:jM h' E n')(D:fj n n'):IsW Z B h' bw E n' w:=by
 obtain⟨⟨tv,jv,U,r,o,J,a1,a2,a3⟩,A,F,W,bz,b4,L⟩:=H;exact⟨⟨tv,jv,U,f.row r (qb _ A),o.fr f λc hc=>qb c (a1 c hc).1,J.other f G (λc hc=>qb c (a2 c hc)) I D,a1,a2,a3⟩,A,λc hc=>ce (F c hc) f.1,W,λc hc=>ce (bz c hc) f.1,I,L⟩
theorem IsW.ext {Z B:Nat→Prop}{h h':ai}{bw:Nat}{E:Option WE}{n:Pic}{w:WD}(H:IsW Z B h bw E n w)(e:Ext h h'):IsW Z B h' bw E n w:=
 H.other (Q:=λ_=>False) e.fr (λ_ _ h=>h) (λ_ _ h=>h) (λA D=>⟨(H.out A D).1.ext e,(H.out A D).2⟩) (fj.refl n)
section
variable {Z B:Nat→Prop}{h:ai}{bw:Nat}{E:Option WE}{n:Pic}{w:WD}
theorem Mf {h:ai}:ag prog p9 #[] h λr h'=>∃b,r=ptr b∧h'[b]? =some (.cells #[aj,.slice none 0 0,.pointer none,aj] 182 (0,0))∧Ext h h'∧h.size≤b:=by
 apply QL;unfold Fs;have D:aR #[aj,(.slice none 0 0),(.pointer none),aj] []=some #[aj,.slice none 0 0,.pointer none,aj]:=rfl;simp only[go_sem,D,bH];refine aI λb h1 r1 A F=>?_
 exact⟨b,rfl,r1,A,F⟩
theorem IsW.new {h:ai}{b:Nat}(r:h[b]? =some (.cells #[aj,.slice none 0 0,.pointer none,aj] 182 (0,0)))(D:¬Z b)(h1:Az E b)(A:¬eB E b)(zl:∀c,Z c→c<h.size)(I:jM h E n):IsW Z (λc=>c=b) h b E n ⟨0,[],none,0⟩:=
 ⟨⟨_,_,λ_=>False,r,.inl ⟨rfl,rfl,rfl⟩,rfl,λc hc=>hc.elim,λc hc=>hc.elim,id⟩,rfl,λc hc=>by rw[hc];exact aW r,λc hc=>by rw[hc];exact⟨D,h1,A⟩,zl,I,.inr ⟨.inl rfl,rfl⟩⟩
theorem zeG (H:IsW Z B h bw E n w):ag prog lk #[ptr bw] h λr h'=>r=af w.state∧h'=h:=by
 apply AB;unfold pC;obtain⟨⟨tv,F,D,r,_⟩,_⟩:=H;have A:aE h ⟨bw,0,none⟩=some (af w.state):=ao r;simp only[go_sem,A];exact⟨trivial,trivial⟩
theorem HU {Q:Nat→Prop}{bq:Nat}{d:QD}(H:IsW Z B h bw E n w)(A:IsQ Q h bq d):ag prog fm #[ptr bw,ptr bq] h λr h'=>r=.bool (decide (w.state=1∨(w.state=0∧bX d≠1)))∧h'=h:=by
 apply xM;unfold mJ;have F:=H.st;obtain⟨⟨tv,I,G,r,_⟩,_⟩:=H;have D:aE h ⟨bw,0,none⟩=some (af w.state):=ao r;simp only[go_sem,D];refine aq (λg=>?_) (λg=>?_)
 ·refine ag.at (U5 A) ?_;refine⟨?_,rfl⟩
  congr 1
  rw[iB];constructor
  ·exact λhh=>.inr ⟨g,hh⟩
  ·rintro(hh|hh)
   ·omega
   ·exact hh.2
 ·refine aq (λg1=>?_) (λg1=>?_)
  ·exact⟨by rw[cH (.inl g1)],trivial⟩
  ·exact⟨by rw[b9];omega,trivial⟩
def cE (E:Option WE)(jo:Option (dc×Int×Int)):Option (dc×Int×Int):=match jo,E with|some (t,y,e),some E=>if bP (E.d t) y e=0 then none else some (t,y,e)|_,_=>none
theorem KJ (E:Option WE)(jo:Option (dc×Int×Int)):(cE E jo≠none∧pV E (cE E jo)∧cE E jo=jo)∨cE E jo=none:=by
 unfold cE pV;cases jo with
 |none=>exact .inr rfl
 | some x=>
  obtain⟨t,y,e⟩:=x;cases E with
  |none=>exact .inr rfl
  |some E=>
   dsimp only;by_cases A:bP (E.d t) y e=0
   ·rw[aB A];exact .inr rfl
   ·rw[aA A];exact .inl ⟨by simp,A,rfl⟩
end
end
section
theorem jM.fr {Q:Nat→Prop}{h h':ai}{E:Option WE}{n:Pic}(I:jM h E n)(f:Fr Q h h')(hq:∀c,Q c→c<h.size→Az E c∧¬eB E c):jM h' E n:=λD G=>by
 subst G;have A:=(I D rfl).1;exact⟨A.fr f (λhc=>(hq _ hc A.lt).1 rfl) (λc F hc=>(hq c hc (A.ltv F)).2 F),(I D rfl).2⟩
theorem jM.ext {h h':ai}{E:Option WE}{n:Pic}(I:jM h E n)(e:Ext h h'):jM h' E n:=I.fr (Q:=λ_=>False) e.fr λ_ h=>h.elim
theorem jM.new {h:ai}{E:Option WE}{n:Pic}(I:jM h E n){c:Nat}(hc:h.size≤c):Az E c∧¬eB E c:=by
 cases E with
 |none=>exact⟨trivial,id⟩
 |some E=>exact⟨λA=>by have:=(I E rfl).1.lt;rw[A]at hc;omega,λD=>by have:=(I E rfl).1.ltv D;omega⟩
def stJ:Option (dc×Int×Int)→Int
 |none=>0
 |some _=>1
theorem ke.upd {Z B:Nat→Prop}{h h':ai}{bw:Nat}{E:Option WE}{n:Pic}{D:Value}{jo:Option (dc×Int×Int)}(H:ke Z B h E n D jo)(u:Upd bw h h')(F:¬Z bw)(L:¬B bw)(h1:Az E bw)(G:¬eB E bw)(I:jM h E n):ke Z B h' E n D jo:=
 H.other u.fr (λc hc A=>F (A▸hc)) (λc hc A=>L (A▸hc)) (I.fr u.fr λc hc _=>by rw[show c=bw from hc];exact⟨h1,G⟩) (fj.refl n)
section
variable {Z B:Nat→Prop}{h:ai}{bw:Nat}{E:Option WE}{n:Pic}{w:WD}
theorem WT {Bj:Nat→Prop}{st W:Int}{tv L:Value}{jo:Option (dc×Int×Int)}(r:h[bw]? =some (.cells #[af st,tv,L,af W] 182 (0,0)))(J:ke Z Bj h E n L jo)(hz:¬Z bw)(hb:¬Bj bw)(H:Az E bw)(F:¬eB E bw)(I:jM h E n):
  ag prog dY #[ptr bw] h λr h'=>∃A,h'[bw]? =some (.cells #[af (stJ (cE E jo)),tv,A,af W] 182 (0,0))∧ke Z Bj h' E n A (cE E jo)∧Fr (λc=>c=bw) h h':=by
 apply z7;unfold oO;simp only[go_sem];refine bG r (by simp) rfl λh1 r1 U=>?_
 have r1:h1[bw]? =some (.cells #[aJ,tv,L,af W] 182 (0,0)):=r1;have J1:=J.upd U hz hb H F I;have I1:=I.fr U.fr λc hc _=>by rw[show c=bw from hc];exact⟨H,F⟩
 have c2:aE h1 ⟨bw,2,none⟩=some L:=ao r1;simp only[go_sem,aO,c2]
 -- it goes
 have gone:∀{h2:ai},Ext h1 h2→cE E jo=none→stK 1 (.pointer (some ⟨bw,0,none⟩)) aj h2 λad aa=>stK 1 (.pointer (some ⟨bw,2,none⟩)) (.pointer none) aa λ_ h'=>∃A,h'[bw]? =some (.cells #[af (stJ (cE E jo)),tv,A,af W] 182 (0,0))∧ke Z Bj h' E n A (cE E jo)∧Fr (λc=>c=bw) h h':=by
  intro h2 D hs;refine bG (D.row r1) (by simp) rfl λh3 r3 u3=>?_
  refine bG r3 (by simp) rfl λh4 r4 u4=>?_
  rw[hs];exact⟨_,r4,rfl,((U.fr.ext_r D).trans u3.fr).trans u4.fr⟩
 cases jo with
 |none=>
  have hj:L=.pointer none:=J;subst hj;simp only[go_sem,c2,zfn];exact gone (Ext.refl _) rfl
 | some x=>
  obtain⟨t,y,e⟩:=x;obtain⟨G,rfl,ok,hc,bj,rv,rfl,S⟩:=J1;simp only[go_sem,c2,XP];refine ag.to (Qh S (PA ok.m ok.s.wf hc)) λh2 D=>?_
  have hp:rh false 1 0 (Dq (bP (G.d t) y e) (eT (G.d t) y e))=some (af (bP (G.d t) y e)):=rfl;simp only[go_sem,hp];refine aq (λhk=>?_) (λhk=>?_)
  ·exact gone D (aB hk)
  ·have hs:cE (some G) (some (t,y,e))=some (t,y,e):=aA hk;rw[hs];exact⟨_,D.row r1,⟨G,rfl,ok,hc,bj,rv,rfl,S.ext D⟩,U.fr.ext_r D⟩
def zbH (E:Option WE)(jo:Option (dc×Int×Int))(k:Int):Int:=match jo,E with|some (t,_,_),some E=>max k ((kn (bT E.s.y.lines):Int)*(gH (t.w*E.m.c):Int))|_,_=>k
def BA (E:Option WE)(w:WD)(x:Int)(jo:Option (dc×Int×Int)):WD:=⟨stJ (cE E jo),w.tiles++[x],cE E jo,zbH E jo w.words⟩
def zfa (Z:Nat→Prop)(E:Option WE)(n:Pic)(ov:Value)(x:Int)(jo:Option (dc×Int×Int))(Qo M:Nat→Prop)(P0 P1:ai→Prop)(h:ai):Prop:=
 (ov=.nilFunc∧jo=none∧∀g,P0 g→P1 g)∨(ak .f .neq ov .nilFunc=some (.bool true)∧∀h1,Fr M h h1→P0 h1→clK prog ov #[.int .i64 x] h1 λr h2=>∃Bj,(∀c,Bj c→h1.size≤c∧c<h2.size)∧ke Z Bj h2 E n r jo∧Fr Qo h1 h2∧P1 h2)
abbrev Yf (k t mk mr:Int):Value:=.agg #[.int .i64 k,.int .i64 t,.int .i64 mk,.int .i64 mr]
theorem zcO {v:Value}{args:Array Value}{h:ai}{K A:Value→ai→Prop}(H:clK prog v args h K)(k:∀r h',K r h'→A r h'):clK prog v args h A:=by
 unfold clK at H ⊢;split at H
 ·exact H.mono k
 ·exact H.elim
theorem C1 {E:Option WE}{jo:Option (dc×Int×Int)}:(stJ (cE E jo)=1∧pV E (cE E jo))∨((stJ (cE E jo)=0∨stJ (cE E jo)=2)∧cE E jo=none):=by
 rcases KJ E jo with⟨h1,A,D⟩|h
 ·left;refine⟨?_,A⟩
  revert h1
  cases cE E jo with
  |none=>exact λh=>absurd rfl h
  |some x=>exact λ_=>rfl
 ·rw[h];exact .inr ⟨.inl rfl,rfl⟩
theorem zfN {x:Int}{ov:Value}{jo:Option (dc×Int×Int)}{Qo:Nat→Prop}{P0 P1:ai→Prop}(H:IsW Z B h bw E n w)(hw:w.state=0)(ht:w.tiles.length≤1000000)(HO:zfa Z E n ov x jo Qo B P0 P1 h)
  (qo:∀c,Qo c→c<h.size∧¬B c∧¬Z c∧Az E c∧¬eB E c) (hP:∀g g',Fr (λc=>B c∨h.size≤c) g g'→(P0 g→P0 g')∧(P1 g→P1 g')) (p0:P0 h):
  ag prog ml #[ptr bw,af x,ov] h λr h'=>r=Yf 1 x 0 0∧IsW Z (rV B h h') h' bw E n (BA E w x jo)∧Fr (λc=>B c∨Qo c) h h'∧P1 h':=by
 apply B5;unfold qS;have H0:=H;obtain⟨⟨tv,jv,U,r,o,J,a1,a2,a3⟩,w0,bl,bz,zl,I,st⟩:=H;have a9:w.job=none:=by
  rcases st with h|h
  ·omega
  ·exact h.2
 rw[a9]at J;have hj:jv=.pointer none:=J;subst hj;refine aI λb1 h1 r1 e1 n1=>?_
 have c1:aE h1 ⟨bw,1,none⟩=some tv:=ao (e1.row r);simp only[go_sem,aO,c1];refine cT (Rp.fill_one rfl) λb2 h2 r2 e2 n2=>?_
 have E2:=e1.trans e2;refine ui (m:=1) (o.fr (M:=λ_=>False) E2.fr λ_ _=>id) (Rp.SlC.single (cs:=[af x]) r2) (az rfl aU) rfl ae ae λv3 h3 o3 f3 n3=>?_
 have b5:=aW r;have b4:=E2.1;have ca:=f3.1;have r3:=f3.row (E2.row r) λhc=>(a1 _ hc).2.2 rfl
 have al:∀c,blk v3 c→(B c∧c≠bw)∨h.size≤c:=λc hc=>(n3 c hc).imp (λh=>⟨(a1 c h).1,(a1 c h).2.2⟩) λh=>ae
 have D:¬blk v3 bw:=λhc=>(al _ hc).elim (λh=>h.2 rfl) λh=>ae
 try simp only[go_sem]
 refine bG r3 (by simp) o3.sl.isSl_one λh4 r4 u4=>?_
 have r4:h4[bw]? =some (.cells #[af w.state,v3,.pointer none,af w.words] 182 (0,0)):=r4;have o4:=o3.fr u4.fr λc hc W=>D (W▸hc)
 have cb:=u4.1;have F4:Fr B h h4:=(E2.fr.after f3 λc _ hc=>(a1 c hc).1).after u4.fr λc _ hc=>hc▸w0
 have I4:jM h4 E n:=I.fr F4 λc hc _=>(bz c hc).2
 have an:P0 h4:=(hP h h4 (F4.mono λc _ hc=>.inl hc)).1 p0;have b6:=e1.1;have b3:=e2.1;have cc:=aW r1;have au:h.size≤b1:=n1;have e4:h4[b1]? =some (.cells #[aj,aj,aj,aj] 148 (0,0)):=u4.row ae (f3.row (e2.row r1) λhc=>by have:=bl _ (a1 _ hc).1;omega)
 -- with a job, or with none
 refine bB (λxs A=>∃jv U,A[bw]? =some (.cells #[af w.state,v3,jv,af w.words] 182 (0,0))∧ke Z U A E n jv jo∧(∀c,U c→h4.size≤c)∧(∀c,U c→c<A.size)∧Fr (λc=>B c∨Qo c) h A∧h4.size≤A.size∧Own 1 A v3 (w.tiles.length+1) (w.tiles.map (λn=>af n)++[af x])∧P1 A∧A[b1]? =some (.cells #[aj,aj,aj,aj] 148 (0,0))) ?_ ?_
 ·rcases HO with⟨rfl,rfl,hp⟩|⟨be,a7⟩
  ·have e0:ak .f .neq Value.nilFunc Value.nilFunc=some (.bool false):=rfl;simp only[go_sem,e0];exact⟨_,λ_=>False,r4,rfl,λc hc=>hc.elim,λc hc=>hc.elim,F4.mono λc _ hc=>.inl hc,ck _,o4,hp _ an,e4⟩
  ·simp only[go_sem,be];refine zcO (a7 h4 F4 an) λv5 A ⟨U,k1,k2,k3,k4⟩=>?_
   have r5:=k3.row r4 λhc=>(qo _ hc).2.1 w0
   have o5:=o4.fr k3 λc hc hq=>(al c hc).elim (λh=>(qo c hq).2.1 h.1) λh=>by have:=(qo c hq).1;omega
   have bv:=k3.1
   try simp only[go_sem]
   refine bG r5 (by simp) k2.one λG r6 L=>?_
   have ar:=L.1;have ad:¬U bw:=λhc=>by have:=(k1 _ hc).1;omega
   have I5:jM A E n:=I4.fr k3 λc hc _=>(qo c hc).2.2.2
   refine⟨v5,U,r6,k2.upd L (bz _ w0).1 ad (bz _ w0).2.1 (bz _ w0).2.2 I5,λc hc=>(k1 c hc).1,λc hc=>by rw[ar];exact(k1 c hc).2,?_,ae,o5.fr L.fr λc hc W=>D (W▸hc),?_⟩
   ·exact((F4.mono λc _ hc=>.inl hc).after k3 λc _ hc=>.inr hc).after L.fr λc _ hc=>.inl (hc▸w0)
   ·exact⟨(hP A G (L.fr.mono λc _ hc=>.inl (hc▸w0))).2 k4,L.row ae (k3.row e4 λhc=>by have:=(qo _ hc).1;omega)⟩
 ·rintro xs ρ A ⟨jv,U,r5,J5,k1,k2,F5,bv,o5,p5,e5⟩;have ad:¬U bw:=λhc=>by have:=k1 _ hc;omega
  have I5:jM A E n:=I.fr F5 λc hc _=>hc.elim (λh=>(bz c h).2) λh=>(qo c h).2.2.2
  have c2:aE A ⟨bw,2,none⟩=some jv:=ao r5;have c3:aE A ⟨bw,3,none⟩=some (af w.words):=ao r5
  -- the end: settled, and told
  have fin:∀{G:ai},G[bw]? =some (.cells #[af w.state,v3,jv,af (zbH E jo w.words)] 182 (0,0))→ke Z U G E n jv jo→Fr (λc=>B c∨Qo c) h G→A.size≤G.size→jM G E n→P1 G→
    Own 1 G v3 (w.tiles.length+1) (w.tiles.map (λn=>af n)++[af x])→G[b1]? =some (.cells #[aj,aj,aj,aj] 148 (0,0))→
    ag prog dY #[ptr bw] G λb8 bd=>vK ((aR #[aj,aj,aj,aj] [(0,1,aJ),(1,1,af x)]).map .agg) λbo=>stK 4 (ptr b1) bo bd λci aa=>vK (aM 4 aa (ptr b1)) λbk=>
     bk=Yf 1 x 0 0∧IsW Z (rV B h aa) aa bw E n (BA E w x jo)∧Fr (λc=>B c∨Qo c) h aa∧P1 aa:=by
   intro G r6 J6 F6 ar I6 p6 o6 e6;refine(WT r6 J6 (bz _ w0).1 ad (bz _ w0).2.1 (bz _ w0).2.2 I6).mono λ_ h7 ⟨ax,r7,J7,f7⟩=>?_
   have hf:∀z:Int,aR #[aj,aj,aj,aj] [(0,1,aJ),(1,1,af z)]=some #[aJ,af z,aj,aj]:=λ_=>rfl
   have b7:=f7.1;simp only[go_sem,hf,bH];refine bI (l:=[aJ,af x,aj,aj]) (f7.row e6 λhc=>ae) rfl (az rfl (az rfl (az rfl (az rfl aU)))) rfl λh8 r8 u8=>?_
   rw[aL (l:=[aJ,af x,aj,aj]) r8 4 rfl,ah];have cp:=u8.1;have I7:jM h7 E n:=I6.fr f7 λc hc _=>by rw[show c=bw from hc];exact(bz _ w0).2
   have F7:Fr (λc=>B c∨Qo c) h h7:=F6.after f7 λc _ hc=>.inl (hc▸w0)
   have F8:Fr (λc=>B c∨Qo c) h h8:=F7.upd_new u8 au;have am:=I.new au;have a8:¬Z b1:=λhz=>by have:=zl _ hz;omega
   have b0:¬U b1:=λhc=>by have:=k1 _ hc;omega
   have o8:=(o6.fr f7 λc hc W=>D (W▸hc)).fr u8.fr λc hc W=>by
    have W:c=b1:=W;rcases n3 c hc with F|F
    ·have:=bl _ (a1 c F).1;omega
    ·omega
   have ho:jM h8 E n:=I7.fr u8.fr λc hc _=>by rw[show c=b1 from hc];exact am
   refine⟨rfl,⟨⟨v3,ax,U,u8.row ae r7,?_,J7.upd u8 a8 b0 am.1 am.2 I7,λc hc=>⟨?_,λhj=>?_,λW=>D (W▸hc)⟩,λc hc=>.inr ⟨?_,?_⟩,ad⟩,.inl w0,Nr bl ae,λc hc=>?_,λc hc=>ce (zl c hc) F8.1,ho,?_⟩,F8,?_⟩
   ·show Own 1 h8 v3 (w.tiles++[x]).length ((w.tiles++[x]).map λn=>af n);rw[cF,jW];exact o8
   ·rcases al c hc with F|F
    ·exact .inl F.1
    ·exact .inr ⟨F,o8.lt hc⟩
   ·have:=k1 c hj;rcases n3 c hc with F|F
    ·have:=bl _ (a1 c F).1;omega
    ·have:=o3.lt hc;omega
   ·have:=k1 c hc;omega
   ·have:=k2 c hc;omega
   ·rcases hc with F|F
    ·exact bz c F
    ·exact⟨λhz=>by have:=zl c hz;omega,I.new F.1⟩
   ·rcases C1 (E:=E) (jo:=jo)with⟨F,bg⟩|F
    ·exact .inl ⟨F,bg,by simp[BA]⟩
    ·exact .inr F
   ·exact(hP h7 h8 (u8.fr.mono λc _ hc=>.inr (by have hc:c=b1:=hc;omega))).2 ((hP G h7 (f7.mono λc _ hc=>.inl (hc▸w0))).2 p6)
  cases jo with
  |none=>
   have hj:jv=.pointer none:=J5;subst hj;simp only[go_sem,c2,zfm];exact fin r5 rfl F5 (ck _) I5 p5 o5 e5
  | some y=>
   obtain⟨t,yy,e⟩:=y;have ay:=J5;obtain⟨E',rfl,ok,hc,bj,rv,rfl,S⟩:=J5;simp only[go_sem,c2,XO];refine aQ (λg=>g=A) rfl ?_;refine aF (af w.words) (λg e=>by rw[e];exact c3) ?_
   try simp only[go_sem]
   refine aF (ptr bj) (λg e=>by rw[e];exact c2) ?_;refine ag.at (Qg S) ⟨rfl,?_⟩;refine aF (af (max w.words ((kn (bT E'.s.y.lines):Int)*(gH (t.w*E'.m.c):Int)))) (λ_ _=>Pk _ _ _) ?_
   try simp only[go_sem]
   refine bG r5 (by simp) rfl λG r6 L=>?_
   exact fin r6 (ay.upd L (bz _ w0).1 ad (bz _ w0).2.1 (bz _ w0).2.2 I5) (F5.after L.fr λc _ hc=>.inl (hc▸w0)) (by rw[L.1];exact ck _) (I5.fr L.fr λc hc _=>by rw[show c=bw from hc];exact(bz _ w0).2) ((hP A G (L.fr.mono λc _ hc=>.inl (hc▸w0))).2 p5)
    (o5.fr L.fr λc hc W=>D (W▸hc)) (L.row ae e5)
abbrev EvD:=Int×Int×Int×Int
abbrev evV (e:EvD):Value:=Yf e.1 e.2.1 e.2.2.1 e.2.2.2
def cD (E:Option WE)(jo:Option (dc×Int×Int))(w:WD)(d:QD):WD×QD×EvD:=
 if w.state=1 then
  match w.job,E with
  |some (t,y,e),some E'=>
   let j:=cE E (some (t,eJ (E'.d t) y e,fV (E'.d t) y e))
   (⟨stJ j,w.tiles,j,w.words⟩,d,(2,w.tiles.getLast?.getD 0,bP (E'.d t) y e,eT (E'.d t) y e))
  |_,_=>(w,d,(0,0,0,0))
 else if w.state=2 then(w,d,(0,0,0,0))
 else if bX d=0 then(BA E w (bi d) jo,iM d,(1,bi d,0,0))
 else if bX d=2 then({w with state:=2},iM d,(3,0,0,0))
 else(w,iM d,(0,0,0,0))
def tg (w:WD)(d:QD):Prop:=w.state=0∧bX d=0
def Ef (E:Option WE)(w:WD)(n n':Pic):Prop:=
 fj n n'∧match w.job,E with
  |some (t,y,e),some E=>KC (E.d t) n∧KC (E.d t) n'∧(bP (E.d t) y e≠2→n'=n)∧(bP (E.d t) y e=2→∀x' y' c',inP n x' y' c'→atP n' x' y' c'=if zF (E.d t) y (gH (t.w*E.m.c)) x' y' c' then yQ E.m E.s x' y' c' else atP n x' y' c')
  |_,_=>n'=n
theorem Ef.same {E:Option WE}{w:WD}{n:Pic}(h:w.job=none):Ef E w n n:=⟨fj.refl n,by rw[h]⟩
structure zak (Z B Q Qo:Nat→Prop)(h h':ai)(bw bq:Nat)(E:Option WE)(n:Pic)(w w':WD)(d':QD):Prop where
 ex:∃n' B' Q',IsW Z B' h' bw E n' w'∧IsQ Q' h' bq d'∧(∀c,B' c→B c∨h.size≤c)∧(∀c,Q' c→Q c∨h.size≤c)∧(∀c,B' c→¬Q' c)∧Ef E w n n'
 fr:Fr (λc=>eB E c∨B c∨Q c∨Qo c) h h'
theorem ZW {Q:Nat→Prop}{bq:Nat}{d:QD}{ov:Value}{jo:Option (dc×Int×Int)}{Qo:Nat→Prop}{P0 P1:ai→Prop}(H:IsW Z B h bw E n w)(HQ:IsQ Q h bq d)(ht:w.tiles.length≤1000000)
  (HO:tg w d→zfa Z E n ov (bi d) jo Qo (λc=>B c∨Q c) P0 P1 h) (aa:∀c,B c→¬Q c) (qz:∀c,Q c→¬Z c∧Az E c∧¬eB E c) (qo:∀c,Qo c→c<h.size∧¬B c∧¬Q c∧¬Z c∧Az E c∧¬eB E c)
  (hP:∀g g',Fr (λc=>eB E c∨B c∨Q c∨h.size≤c) g g'→(P0 g→P0 g')∧(P1 g→P1 g')) (p0:P0 h):
  ag prog dd #[ptr bw,ptr bq,ov] h λr h'=>r=evV (cD E jo w d).2.2∧zak Z B Q Qo h h' bw bq E n w (cD E jo w d).1 (cD E jo w d).2.1∧(tg w d→P1 h')∧(¬tg w d→P0 h'):=by
 apply B9;unfold qT;have H0:=H;obtain⟨⟨tv,jv,Bj,r,o,J,a1,a2,a3⟩,w0,bl,bz,zl,I,st⟩:=H;refine aI λb1 h1 r1 e1 n1=>?_
 have b8:=e1.1;have c8:=aW r1;have a9:h.size≤b1:=n1;have c4:=aW r;have r':=e1.row r;have H1:=H0.ext e1;have a8:=HQ.ext e1;have I1:=I.ext e1;have bd:=I.new a9;have am:∀c,Q c→c<h.size:=HQ.ql;have c0:aE h1 ⟨bw,0,none⟩=some (af w.state):=ao r';simp only[go_sem,aO,c0];have L:∀{F:ai} {ev:EvD} {w':WD} {d':QD} {n':Pic} {B' Q':Nat→Prop},F[b1]? =some (.cells #[aj,aj,aj,aj] 148 (0,0))→Fr (λc=>eB E c∨B c∨Q c∨Qo c) h F→IsW Z B' F bw E n' w'→IsQ Q' F bq d'→(∀c,B' c→(B c∨h.size≤c)∧c≠b1)→(∀c,Q' c→(Q c∨h.size≤c)∧c≠b1)→(∀c,B' c→¬Q' c)→Ef E w n n'→
   (tg w d→P1 F)→(¬tg w d→P0 F)→cD E jo w d=(w',d',ev)→
   stK 4 (ptr b1) (evV ev) F λ_ U=>vK (aM 4 U (ptr b1)) λv=>v=evV (cD E jo w d).2.2∧zak Z B Q Qo h U bw bq E n w (cD E jo w d).1 (cD E jo w d).2.1∧(tg w d→P1 U)∧(¬tg w d→P0 U):=by
  intro F ev w' d' n' B' Q' e2 F2 W2 Q2 k1 k2 k3 D p1 p0 he;refine bI (l:=[af ev.1,af ev.2.1,af ev.2.2.1,af ev.2.2.2]) e2 rfl (az rfl (az rfl (az rfl (az rfl aU)))) rfl λU r3 u3=>?_
  rw[aL (l:=[af ev.1,af ev.2.1,af ev.2.2.1,af ev.2.2.2]) r3 4 rfl,ah,he];have b5:∀c,Z c→¬c=b1:=λc hz he=>by have:=zl _ hz;omega
  have hp:=hP F U (u3.fr.mono λc _ hc=>.inr (.inr (.inr (by have hc:c=b1:=hc;omega))));refine⟨rfl,⟨⟨n',B',Q',W2.other u3.fr b5 (λc hc=>(k1 c hc).2) (W2.out.fr u3.fr λc hc _=>by rw[show c=b1 from hc];exact bd) (fj.refl n'),Q2.fr u3.fr λc hc=>(k2 c hc).2,λc hc=>(k1 c hc).1,λc hc=>(k2 c hc).1,k3,D⟩,F2.upd_new u3 a9⟩,λh=>hp.2 (p1 h),λh=>hp.1 (p0 h)⟩
 have fE:aR #[aj,aj,aj,aj] []=some #[aj,aj,aj,aj]:=rfl;have fL:aR #[aj,aj,aj,aj] [(0,1,af 3)]=some #[af 3,aj,aj,aj]:=rfl;have ad:∀c,B c→(B c∨h.size≤c)∧c≠b1:=λc hc=>⟨.inl hc,λhe=>by have:=bl c hc;omega⟩
 have ax:∀c,Q c→(Q c∨h.size≤c)∧c≠b1:=λc hc=>⟨.inl hc,λhe=>by have:=am c hc;omega⟩
 by_cases s1:w.state=1
 ·-- a job goes on
  have al:¬tg w d:=λh=>by have:=h.1;omega
  obtain⟨hg,be⟩:pV E w.job∧w.tiles≠[]:=by
   rcases st with h|h
   ·exact h.2
   ·have:=h.1;omega
  cases ar:w.job with
  |none=>rw[ar]at hg;exact hg.elim
  | some q=>
   obtain⟨t,y,e⟩:=q;rw[ar]at J hg;obtain⟨A,rfl,ok,hc,bj,rv,rfl,S⟩:=J;have hg:bP (A.d t) y e≠0:=hg;have b2:=PA ok.m ok.s.wf hc;have c2:aE h1 ⟨bw,2,none⟩=some (ptr bj):=ao r';simp only[go_sem,cH s1,c2];refine(UX (S.ext e1) b2 (ok.s.room ok.m hc)).mono λrm F ⟨er,n',S2,f2,ca,b7⟩=>?_
   subst er;have b4:=f2.1;refine cX (cs:=[af (bP (A.d t) y e),af (eT (A.d t) y e)]) rfl (az rfl (az rfl aU)) rfl λb3 U r3 e3 n3=>?_
   have S3:=S2.ext e3;have an:=e3.1;have OO:=S3.out;have D:fj n n':=⟨by rw[OO.w,S.out.w],by rw[OO.h,S.out.h],by rw[OO.c,S.out.c],by rw[OO.m,S.out.m]⟩
   have fq:∀c,(blk A.vt c∨Bj c)→eB (some A) c∨B c:=λc hc=>hc.imp id λh=>a2 c h
   have nw:¬(blk A.vt bw∨Bj bw):=λhc=>hc.elim (bz _ w0).2.2 a3
   have cc:=e3.row (f2.row r' nw);have I3:jM U (some A) n':=λE2 hE=>by cases hE;exact⟨S3.img,OO.wf⟩
   have bk:¬rV Bj h1 F bw:=λhc=>hc.elim a3 λh=>ae
   have J3:ke Z (rV Bj h1 F) U (some A) n' (ptr bj) (some (t,eJ (A.d t) y e,fV (A.d t) y e)):=⟨A,rfl,ok,D.newC hc,bj,rv,rfl,S3⟩
   refine(WT cc J3 (bz _ w0).1 bk (bz _ w0).2.1 (bz _ w0).2.2 I3).mono λ_ h4 ⟨b0,r4,J4,f4⟩=>?_
   have c7:=f4.1;have I4:jM h4 (some A) n':=I3.fr f4 λc hc _=>by rw[show c=bw from hc];exact(bz _ w0).2
   have cr:∀c,blk tv c→¬(blk A.vt c∨Bj c):=λc hc h=>h.elim (bz c (a1 c hc).1).2.2 (a1 c hc).2.1
   have o4:=(((o.fr (M:=λ_=>False) e1.fr λ_ _=>id).fr f2 cr).fr (M:=λ_=>False) e3.fr λ_ _=>id).fr f4 λc hc he=>(a1 c hc).2.2 he
   have c6:=aW r3;have cb:¬(blk A.vt b1∨Bj b1):=λhc=>hc.elim bd.2 λh=>by have:=bl _ (a2 _ h);omega
   have e4:=f4.row (e3.row (f2.row r1 cb)) λhc=>ae
   have cz:=f4.row r3 λhc=>ae
   have c1:aE h4 ⟨bw,1,none⟩=some tv:=ao r4;obtain⟨a,cp,et⟩:=o4.isSl;have el:aD tv=some (af (w.tiles.length:Int)):=by rw[et];rfl
   have c5:0<w.tiles.length:=vE.2 be;obtain⟨pp,p1,p2⟩:=(GI (k:=.i64) (l:=w.tiles) o4).int_at (k':=.i64) (i:=w.tiles.length-1) ae;have p1:bh 1 tv (af ((w.tiles.length:Int)-1))=some pp:=by rw[show(w.tiles.length:Int)-1=((w.tiles.length-1:Nat):Int)by omega];exact p1
   refine aQ (λg=>g=h4) rfl ?_
   try simp only[go_sem,aO]
   refine aF tv (λg e=>by rw[e];exact c1) ?_
   try simp only[go_sem]
   refine aF tv (λg e=>by rw[e];exact c1) ?_;refine aF (af (w.tiles.length:Int)) (λ_ _=>el) ?_;simp only[go_sem];rw[w64 (n:=(w.tiles.length:Int)-1) ae ae,p1,ah];refine aF (af (w.tiles.getLast?.getD 0)) (λg e=>by rw[e,p2,Zh,gN];rfl) ?_;refine aF (Dq (bP (A.d t) y e) (eT (A.d t) y e)) (λg e=>by rw[e];exact aL (l:=[_,_]) cz 2 rfl) ?_;have hf:∀z a b:Int,aR #[aj,aj,aj,aj] [(0,1,af 2),(1,1,af z),(2,2,Dq a b)]=some #[af 2,af z,af a,af b]:=λ_ _ _=>rfl
   simp only[go_sem,hf,bH];have F4:Fr (λc=>eB (some A) c∨B c) h h4:=((e1.fr.trans (f2.mono λc _ hc=>fq c hc)).ext_r e3).trans (f4.mono λc _ hc=>.inr (hc▸w0));have hp:=(hP h h4 (F4.mono λc _ hc=>hc.imp id .inl)).1 p0;have nq:∀c,Q c→¬(eB (some A) c∨B c):=λc hc h=>h.elim (qz c hc).2.2 λh=>aa c h hc
   refine L (ev:=(2,w.tiles.getLast?.getD 0,bP (A.d t) y e,eT (A.d t) y e)) (w':=⟨stJ (cE (some A) (some (t,eJ (A.d t) y e,fV (A.d t) y e))),w.tiles,cE (some A) (some (t,eJ (A.d t) y e,fV (A.d t) y e)),w.words⟩) (B':=rV B h1 h4) (Q':=Q) e4 (F4.mono λc _ hc=>hc.imp id .inl)
    ⟨⟨tv,b0,rV Bj h1 F,r4,o4,J4,λc hc=>⟨.inl (a1 c hc).1,λG=>?_,(a1 c hc).2.2⟩,λc hc=>hc.imp (a2 c) λh=>⟨h.1,ae⟩,bk⟩,.inl w0,Nr (λc hc=>ce (bl c hc) b8) ae,λc hc=>?_,λc hc=>ce (zl c hc) F4.1,I4,?_⟩
    (HQ.fr F4 nq) (λc hc=>⟨?_,λhe=>?_⟩) ax (λc hc hq=>?_) ⟨D,?_⟩ (λh=>absurd h al) (λ_=>hp) ?_
   ·rcases G with G|G
    ·exact(a1 c hc).2.1 G
    ·have:=bl c (a1 c hc).1;omega
   ·rcases hc with G|G
    ·exact bz c G
    ·exact⟨λhz=>by have:=zl c hz;omega,I.new ae⟩
   ·rcases C1 (E:=some A) (jo:=some (t,eJ (A.d t) y e,fV (A.d t) y e))with⟨G,ci⟩|G
    ·exact .inl ⟨G,ci,be⟩
    ·exact .inr G
   ·exact hc.imp id λh=>ae
   ·rcases hc with G|G
    ·exact(ad c G).2 he
    ·omega
   ·rcases hc with G|G
    ·exact aa c G hq
    ·have:=am c hq;omega
   ·rw[ar];exact⟨S.out,OO,ca,b7⟩
   ·unfold cD;rw[aB s1,ar]
 ·have W:w.job=none:=by
   rcases st with h|h
   ·exact absurd h.1 s1
   ·exact h.2
  simp only[go_sem,b9 s1];refine aq (λs2=>?_) (λs2=>?_)
  ·-- it is gone
   simp only[go_sem,fE,bH];have al:¬tg w d:=λh=>by have:=h.1;omega
   exact L (ev:=(0,0,0,0)) (r1) e1.fr H1 a8 ad ax aa (Ef.same W) (λh=>absurd h al) (λ_=>(hP h h1 e1.fr).1 p0) (by unfold cD;rw[aA s1,aB s2])
  ·have s0:w.state=0:=by
    rcases st with h|h
    ·exact absurd h.1 s1
    ·exact h.1.resolve_right s2
   refine(Yx a8).mono λrr F ⟨er,Q2,f2⟩=>?_
   subst er;have b4:=f2.1;have x0:aP (.tuple #[af (bi d),af (bX d)]) 0=some (af (bi d)):=rfl;have x1:aP (.tuple #[af (bi d),af (bX d)]) 1=some (af (bX d)):=rfl;have H2:IsW Z B F bw E n w:=H1.other f2 (λc hz hq=>(qz c hq).1 hz) aa (I1.fr f2 λc hc _=>(qz c hc).2) (fj.refl n);have e2:=f2.row r1 λhc=>by have:=am _ hc;omega
   have F2:Fr (λc=>eB E c∨B c∨Q c∨h.size≤c) h F:=e1.fr.trans (f2.mono λc _ hc=>.inr (.inr (.inl hc)));have au:Fr (λc=>eB E c∨B c∨Q c∨Qo c) h F:=e1.fr.trans (f2.mono λc _ hc=>.inr (.inr (.inl hc)));have ay:∀c,rV Q h1 F c→(Q c∨h.size≤c)∧c≠b1:=λc hc=>hc.elim (λh=>ax c h) λh=>⟨.inr ae,ae⟩
   have bg:∀c,B c→¬rV Q h1 F c:=λc hc hq=>hq.elim (aa c hc) λh=>by have:=bl c hc;omega
   simp only[go_sem,x0,x1];refine aq (λg0=>?_) (λg0=>?_)
   ·have bo:tg w d:=⟨s0,g0⟩
    refine(zfN H2 s0 ht (jo:=jo) (Qo:=Qo) (P0:=P0) (P1:=P1) ?_ ?_ ?_ ((hP h F F2).1 p0)).mono λrr U ⟨er,W3,f3,p3⟩=>?_
    ·rcases HO bo with ho|⟨cw,cu⟩
     ·exact .inl ho
     ·refine .inr ⟨cw,λU f3 p3=>cu U ?_ p3⟩;exact(e1.fr.trans (f2.mono λc _ hc=>.inr hc)).after f3 λc _ hc=>.inl hc
    ·exact λc hc=>by have:=qo c hc;exact⟨ae,this.2.1,this.2.2.2⟩
    ·exact λg g' f=>hP g g' (f.mono λc _ hc=>hc.elim (λh=>.inr (.inl h)) λh=>.inr (.inr (.inr ae)))
    ·subst er;have an:=f3.1;have q3:∀c,rV Q h1 F c→¬(B c∨Qo c):=λc hc hb=>hc.elim (λh=>hb.elim (λhb=>aa c hb h) λhb=>(qo c hb).2.2.1 h) λh=>hb.elim (λhb=>by have:=bl c hb;omega) λhb=>by have:=(qo c hb).1;omega
     refine L (ev:=(1,bi d,0,0)) (f3.row e2 λhc=>hc.elim (λh=>(ad _ h).2 rfl) λh=>by have:=(qo _ h).1;omega) (au.trans (f3.mono λc _ hc=>hc.elim (λh=>.inr (.inl h)) λh=>.inr (.inr (.inr h)))) W3 (Q2.fr f3 q3)
      (λc hc=>hc.elim (λh=>ad c h) λh=>⟨.inr ae,ae⟩) ay (λc hc hq=>?_) (Ef.same W) (λ_=>p3) (λh=>absurd bo h) (by unfold cD;rw[aA s1,aA s2,aB g0])
     rcases hc with G|G
     ·exact bg c G hq
     ·rcases hq with h8|h8
      ·have:=am c h8;omega
      ·omega
   ·have al:¬tg w d:=λh=>g0 h.2
    refine aq (λg2=>?_) (λg2=>?_)
    ·obtain⟨⟨a7,b6,bv,r2,o2,J2,k1,k2,k3⟩,_,l2,z2,c3,I2,_⟩:=H2;rw[W]at J2;have ct:b6=.pointer none:=J2;subst ct
     try simp only[go_sem]
     refine bG r2 (by simp) rfl λU r3 u3=>?_
     have r3:U[bw]? =some (.cells #[af 2,a7,.pointer none,af w.words] 182 (0,0)):=r3;have an:=u3.1;simp only[go_sem,fL,bH];refine L (ev:=(3,0,0,0)) (w':={w with state:=2}) (B':=B) (u3.row ae e2) (au.after u3.fr λc _ hc=>.inr (.inl (hc▸w0))) ⟨⟨a7,.pointer none,bv,r3,o2.fr u3.fr λc hc he=>(k1 c hc).2.2 he,?_,k1,k2,k3⟩,w0,λc hc=>by rw[an];exact l2 c hc,bz,λc hc=>by rw[an];exact c3 c hc,I2.fr u3.fr λc hc _=>by rw[show c=bw from hc];exact(bz _ w0).2,.inr ⟨.inr rfl,W⟩⟩
      (Q2.fr u3.fr λc hc he=>bg bw w0 (he▸hc)) ad ay bg (Ef.same W) (λh=>absurd h al) (λ_=>(hP F U (u3.fr.mono λc _ hc=>.inr (.inl (hc▸w0)))).1 ((hP h F F2).1 p0)) (by unfold cD;rw[aA s1,aA s2,aA g0,aB g2])
     show ke Z bv U E n (.pointer none) w.job;rw[W];rfl
    ·simp only[go_sem,fE,bH];exact L (ev:=(0,0,0,0)) e2 au H2 Q2 ad ay bg (Ef.same W) (λh=>absurd h al) (λ_=>(hP h F F2).1 p0) (by unfold cD;rw[aA s1,aA s2,aA g0,aA g2])
theorem zdh {h:ai}{Z:Nat→Prop}{v:Value}{l:List Int}(H:Rp.Sl (Rp.int .i64) Z h v l)(hl:l.length≤1000000000):
  ag prog je #[v] h λr h'=>New (Rp.int .i64) h h' r l:=by
 apply xa;unfold lS;obtain⟨ds,⟨A,a,cap,rfl,D⟩,hz,he⟩:=H;rw[Lu,ah];cases a with
 | none=>
  have:l=[]:=by
   rcases D with D|⟨b,o,h0,_⟩
   ·subst D;have U:([]:List Value).length=l.length*1:=A;exact lg (by simpa using U.symm)
   ·cases h0
  subst this;simp only[Ud,go_sem];exact New.nil (Ext.refl _)
 |some a=>
  simp only[Uc,go_sem];refine cT (c':=#[]) rfl λb h1 r1 F n1=>?_
  have O:Rp.Ow (Rp.int .i64) (λ_=>False) h1 (.slice (some ⟨b,0,none⟩) 0 0) []:=⟨[],.inr ⟨b,0,[],_,rfl,ck _,rfl,rfl,r1⟩,λb W I=>I,λi hi=>absurd hi (by simp)⟩
  have S1:SlC 1 h1 (.slice (some a) l.length cap) l.length ds:=SlC.ext ⟨A,some a,cap,rfl,D⟩ F;refine Rp.app_ow (e:=(Rp.int .i64)) (l:=[]) (l2:=l) O S1 (λi hi=>he i hi) rfl (by simp;omega) (by simp;omega) (λb W=>W.elim) λv2 U O2 f2 n2=>?_
  rw[eZ]at O2;have nb:∀k,blk (.slice (some ⟨b,0,none⟩) 0 0) k→h.size≤k:=λk G=>by have:k=b:=G;omega
  refine⟨O2,F.then_fr f2 nb,λk G=>?_⟩;rcases n2 k G with L|L
  ·exact nb k L
  ·exact bA F.1 L
theorem zeE (H:IsW Z B h bw E n w)(F:w.tiles.length≤1000000):ag prog lh #[ptr bw] h λr h'=>New (Rp.int .i64) h h' r w.tiles:=by
 apply AA;unfold pB;obtain⟨⟨tv,G,D,r,o,J,a1,a2,a3⟩,w0,bl,bz,zl,I,st⟩:=H;have A:aE h ⟨bw,1,none⟩=some tv:=ao r;simp only[go_sem,A];exact zdh (GI (k:=.i64) (l:=w.tiles) o) ae
end
end
section
theorem ev_ne (a b:EvD):ak (.st [(0,1,.i),(1,1,.i),(2,2,(.st [(0,1,.i),(1,1,.i)]))]) .neq (evV a) (evV b)=some (.bool (decide (a≠b))):=by
 obtain⟨a1,a2,a3,a4⟩:=a;obtain⟨F,D,G,A⟩:=b;have W:(a1==F)=decide (a1=F):=rfl;have e2:(a2==D)=decide (a2=D):=rfl;have I:(a3==G)=decide (a3=G):=rfl;have e4:(a4==A)=decide (a4=A):=rfl;simp only[ak,eqV,IZ,NX,NY,rh,cond_false,cond_true,List.getElem?_toArray,List.getElem?_cons_zero,List.getElem?_cons_succ,if_true,W,e2,Prod.mk.injEq,ne_eq];by_cases h1:a1=F<;>by_cases L:a2=D<;>by_cases U:a3=G<;>by_cases H:a4=A<;>simp[h1,L,U,H,I,e4]
theorem ze4 (a b:EvD):ak (.st [(0,1,.i),(1,1,.i),(2,2,(.st [(0,1,.i),(1,1,.i)]))]) .eql (evV a) (evV b)=some (.bool (decide (a=b))):=by
 obtain⟨a1,a2,a3,a4⟩:=a;obtain⟨F,D,G,A⟩:=b;have W:(a1==F)=decide (a1=F):=rfl;have e2:(a2==D)=decide (a2=D):=rfl;have I:(a3==G)=decide (a3=G):=rfl;have e4:(a4==A)=decide (a4=A):=rfl;simp only[ak,eqV,IZ,NX,NY,rh,cond_false,cond_true,List.getElem?_toArray,List.getElem?_cons_zero,List.getElem?_cons_succ,if_true,W,e2,Prod.mk.injEq,ne_eq];by_cases h1:a1=F<;>by_cases L:a2=D<;>by_cases U:a3=G<;>by_cases H:a4=A<;>simp[h1,L,U,H,I,e4]
abbrev zcc:Pic:=⟨0,0,0,0,[]⟩
abbrev noZ:Nat→Prop:=λ_=>False
theorem Ef.none {w:WD}{n n':Pic}(D:Ef none w n n'):n'=n:=by
 have:=D.2;cases h:w.job<;>simp only[h]at this<;>exact this
def StepN (B Q:Nat→Prop)(M:Nat→Prop)(h h':ai)(bw bq:Nat)(w:WD)(d:QD):Prop:=
 ∃B' Q',IsW noZ B' h' bw none zcc w∧IsQ Q' h' bq d∧(∀c,B' c→B c∨h.size≤c)∧(∀c,Q' c→Q c∨h.size≤c)∧(∀c,B' c→¬Q' c)∧Fr (λc=>B c∨Q c∨M c) h h'
section
variable {B Q:Nat→Prop}{h:ai}{bw bq:Nat}{w:WD}{d:QD}
theorem Lk (H:IsW noZ B h bw none zcc w)(F:IsQ Q h bq d)(U:w.tiles.length≤1000000)(A:∀c,B c→¬Q c):
  ag prog dd #[ptr bw,ptr bq,.nilFunc] h λr h'=>r=evV (cD none none w d).2.2∧StepN B Q noZ h h' bw bq (cD none none w d).1 (cD none none w d).2.1:=
 (ZW (Z:=noZ) (ov:=.nilFunc) (jo:=none) (Qo:=noZ) (P0:=λ_=>True) (P1:=λ_=>True) H F U (λ_=>.inl ⟨rfl,rfl,λ_ h=>h⟩) A (λ_ _=>⟨id,trivial,id⟩) (λ_ h=>h.elim) (λ_ _ _=>⟨id,id⟩) trivial).mono
  λr h' ⟨e,⟨⟨n',B',Q',W,q,L,I,G,D⟩,f⟩,_⟩=>by
   have:=D.none;subst this;exact⟨e,B',Q',W,q,L,I,G,f.mono λc _ hc=>hc.elim (λh=>h.elim) id⟩
end
theorem YB {h:ai}(G:fC h):ag prog zg #[] h λr h'=>r=.bool true∧Ext h h':=by
 apply ON;unfold CH;refine Mf.mono λr h1 ⟨bw,A,r1,U,n1⟩=>?_
 subst A;refine zc2.mono λr h2 ⟨bq,A,Q2,e2,n2⟩=>?_
 subst A;have E2:=U.trans e2;refine ag.to (YC (G.ext E2)) λh3 L=>?_
 have I:=E2.trans L;have lw:=aW r1;have W3:IsW noZ (λc=>c=bw) h3 bw none zcc ⟨0,[],none,0⟩:=IsW.new ((e2.trans L).row r1) id trivial id (λ_ h=>h.elim) λ_ h=>by cases h
 have Q3:=Q2.ext L;simp only[go_sem,XP];refine(Lk W3 Q3 (by simp) λc hc hq=>by have hq:c=bq:=hq;have hc:c=bw:=hc;omega).mono λr h4 ⟨A,B4,q4,H,W,k1,k2,k3,f4⟩=>?_
 subst A;have s1:cD none none ⟨0,[],none,0⟩ ⟨min (max 1 1) 4096,[],false⟩=(⟨0,[],none,0⟩,⟨1,[],false⟩,(0,0,0,0)):=rfl;rw[s1]at H W ⊢;have E4:Ext h h4:=I.then_fr f4 λc hc=>by
  rcases hc with hc|hc|hc
  ·rw[show c=bw from hc];exact n1
  ·rw[show c=bq from hc];exact bA U.1 n2
  ·exact hc.elim
 have F:∀c,B4 c→h.size≤c:=λc hc=>(k1 c hc).elim (λh=>by rw[h];exact n1) λh=>bA I.1 h
 have D:∀c,q4 c→h.size≤c:=λc hc=>(k2 c hc).elim (λh=>by rw[h];exact bA U.1 n2) λh=>bA I.1 h
 have f0:aR #[aj,aj,aj,aj] []=some #[aj,aj,aj,aj]:=rfl;have f3:aR #[aj,aj,aj,aj] [(0,1,af 3)]=some #[af 3,aj,aj,aj]:=rfl;have n0:=ev_ne (0,0,0,0) (0,0,0,0);have q0:=ze4 (0,0,0,0) (0,0,0,0);have q3:=ze4 (3,0,0,0) (3,0,0,0);simp only[go_sem,f0,bH,n0,ne_eq,not_true,Nd];refine ag.at (HU H W) ?_;have d1:decide ((0:Int)=1∨((0:Int)=0∧bX ⟨1,[],false⟩≠1))=false:=rfl;rw[d1];simp only[go_sem];refine(W9 W).mono λ_ h5 ⟨_,Q5,f5⟩=>?_
 have W5:=H.other f5 (λc h=>h.elim) k3 (λ_ h=>by cases h) (fj.refl _);have E5:=E4.then_fr f5 D;refine ag.at (HU W5 Q5) ?_;have d2:decide ((0:Int)=1∨((0:Int)=0∧bX ⟨1,[],true⟩≠1))=true:=rfl;rw[d2];simp only[go_sem];refine(Lk W5 Q5 (by simp) k3).mono λr h6 ⟨A,B6,q6,W6,Q6,l1,l2,l3,f6⟩=>?_
 subst A;have s2:cD none none ⟨0,[],none,0⟩ ⟨1,[],true⟩=(⟨2,[],none,0⟩,⟨1,[],true⟩,(3,0,0,0)):=rfl;rw[s2]at W6 Q6 ⊢;have E6:Ext h h6:=E5.then_fr f6 λc hc=>hc.elim (F c) λhc=>hc.elim (D c) λhc=>hc.elim
 simp only[go_sem,f3,bH,q3,gM];refine(Lk W6 Q6 (by simp) l3).mono λr h7 ⟨A,B7,q7,W7,Q7,m1,m2,m3,f7⟩=>?_
 subst A;have s3:cD none none ⟨2,[],none,0⟩ ⟨1,[],true⟩=(⟨2,[],none,0⟩,⟨1,[],true⟩,(0,0,0,0)):=rfl;rw[s3]at W7 Q7 ⊢;have E7:Ext h h7:=E6.then_fr f7 λc hc=>by
  have hs:=E5.1;rcases hc with hc|hc|hc
  ·exact(l1 c hc).elim (F c) λh=>ae
  ·exact(l2 c hc).elim (D c) λh=>ae
  ·exact hc.elim
 simp only[go_sem,f0,bH,q0,gM];refine ag.at (zeG W7) ?_;simp only[go_sem];exact⟨trivial,E7⟩
end
end Go.Proofs.YtjljhnandbbldaaGreatDoor
namespace Go.Proofs.YtjljhnandbbldaaGreatDoor
open Go Go.Crisp
attribute [local irreducible] ag cO aT stK aG vK qK bL gK eM bC mkK cR HA JA Ep bsK clK vu pP Zb
structure zgb (h0:ai)(T:TypeId)(N:Pic)(im:Option (Nat×Value))(va:Option (Nat×Bool))(g:ai):Prop where
 ext:Ext h0 g
 mi:∀p,im=some p→du g p.1 p.2 N∧h0.size≤p.1∧∀c,blk p.2 c→h0.size≤c
 av:∀q,va=some q→h0.size≤q.1∧g[q.1]? =some (.cells #[if q.2 then(match im with|some p=>ptr p.1|none=>.pointer none)else .pointer none] T (0,0))
 dis:∀p q,im=some p→va=some q→p.1≠q.1∧¬blk p.2 q.1
theorem zgb.st {h0 g:ai}{T:TypeId}{N:Pic}{b bt:Nat}{vt:Value}{K:Value→ai→Prop}(M:zgb h0 T N (some (bt,vt)) (some (b,false)) g)(H:∀A,zgb h0 T N (some (bt,vt)) (some (b,true)) A→K undef A):stK 1 (ptr b) (ptr bt) g K:=by
 obtain⟨a1,a2⟩:=M.av _ rfl;obtain⟨d1,d2⟩:=M.dis _ _ rfl rfl;refine bG a2 (by simp) rfl λA r u=>H A ⟨M.ext.upd a1 u,λp D=>?_,λq hq=>?_,λp q D hq=>?_⟩
 ·cases D;obtain⟨F,G⟩:=M.mi _ rfl;exact⟨F.fr u.fr d1 λc L I=>d2 (I▸L),G⟩
 ·cases hq;exact⟨a1,r⟩
 ·cases D;cases hq;exact⟨d1,d2⟩
theorem zdC {Z:Nat→Prop}{h:ai}{sv:Value}{s:Stg}(H:Rp.Sl Gp Z h sv [s]):∃p q b o,bh 3 sv aj=some (.pointer (some ⟨b,o,none⟩))∧aE h ⟨b,o,none⟩=some p∧aE h ⟨b,o+1,none⟩=some q∧SlC 3 h sv 1 [p,q,af s.border]∧(∀c,blk sv c→Z c)∧gd Z h p s.x∧gd Z h q s.y:=by
 obtain⟨ds,⟨D,a,cap,rfl,A⟩,I,L⟩:=H;have D:ds.length=3:=D;have F:Gp.R Z h (Rp.el 3 ds 0) s:=L 0 (by simp);rw[Rp.el_self D]at F;obtain⟨p,q,rfl,G,hq⟩:=F;rcases A with h0|⟨b,o,rfl,A⟩
 ·cases h0
 ·exact⟨p,q,b,o,rfl,A 0 (by simp),A 1 (by simp),⟨rfl,_,cap,rfl,.inr ⟨b,o,rfl,A⟩⟩,λc hc=>I (by simp) c hc,G,hq⟩
abbrev Tm (a:uj)(o:OpD)(tw th:Int):dC:=⟨bgS a o,1+tw%13,1+th%13⟩
section
theorem iF {d:dC}(W:d.Wf){i:Int}(h0:0≤i)(h1:i<bN d):eI d.s (aS d i).x (aS d i).y (aS d i).w (aS d i).h:=by
 have D:=ND W h0 h1;have A:=W.w;have hh:=W.h;unfold fW at A hh;unfold dC.X dC.Y at D;show 1≤vh d i∧1≤xL d i∧0≤kw d i∧0≤kQ d i∧kw d i<_∧kQ d i<_∧vh d i≤d.s.x.lines.length-kw d i∧xL d i≤d.s.y.lines.length-kQ d i;unfold vh xL dC.X dC.Y;omega
def Ma (d:dC)(i:Int):dc×Int×Int:=(aS d i,(aS d i).y,lnF d.s.y (aS d i).y)
structure C21 where
 bm:Nat
 bn:Nat
 bs:Nat
 bp:Nat
 bf:Nat
 vf:Value
 bt:Nat
 vt:Value
 p:Value
 q:Value
 rv:Value
 bl:Nat
 pp:Value
 pq:Value
 m:Pic
 d:dC
 bw:Nat
 bq:Nat
abbrev C21.E (C:C21):WE:=⟨C.bf,C.vf,C.bt,C.vt,C.p,C.q,C.m,C.d.s⟩
structure C21.Ok (C:C21):Prop where
 m:C.m.Wf
 d:C.d.Wf
 s:DQ C.d.s
abbrev C21.jo (C:C21)(i:Int):Option (dc×Int×Int):=some (Ma C.d i)
abbrev C21.suits (C:C21)(n:Pic):Prop:=n.Wf∧mz C.m n C.d.s
theorem C21.newC {C:C21}(O:C.Ok){n:Pic}(S:C.suits n){i:Int}(h0:0≤i)(h1:i<bN C.d):pg C.m n C.d.s (aS C.d i)=0:=rC.2 ⟨S.2,iF O.d h0 h1⟩
section
variable {C:C21}{Z:Nat→Prop}{g:ai}{n:Pic}{x:Int}
theorem YN.has {h':ai}{r:Value}(O:C.Ok)(S:C.suits n)(h0:0≤x)(h1:x<bN C.d)(H:YN Z g C.bf C.vf C.bt C.vt C.p C.q C.m n C.d.s (aS C.d x) r h'):
  ∃bj rv,r=.tuple #[ptr bj,aj]∧Ext g h'∧ke Z (rV (λ_=>False) g h') h' (some C.E) n (ptr bj) (C.jo x)∧lJ Z (rV (λ_=>False) g h') h' bj C.bf C.vf C.bt C.vt C.p C.q rv ⟨C.m,C.d.s,aS C.d x⟩ (aS C.d x).y (lnF C.d.s.y (aS C.d x).y) n (kn (bT C.d.s.y.lines)) (gH ((aS C.d x).w*C.m.c)):=by
 have hc:=C21.newC O S h0 h1;obtain⟨bj,rv,A,e,J⟩:=H.go hc;exact⟨bj,rv,A,e,⟨C.E,rfl,⟨O.m,O.s⟩,hc,bj,rv,rfl,J⟩,J⟩
end
end
def muJ (E:WE):Option (dc×Int×Int)→Nat
 |none=>0
 |some (t,y,e)=>rj (E.d t) y e
def lR (C:C21)(i:Int):Nat:=rj (C.E.d (aS C.d i)) (aS C.d i).y (lnF C.d.s.y (aS C.d i).y)
theorem Se {E:WE}{t:dc}{y e:Int}:muJ E (cE (some E) (some (t,y,e)))=rj (E.d t) y e:=by
 show muJ E (if bP (E.d t) y e=0 then none else some (t,y,e))=_;split
 ·rename_i h;rw[Wq.2 h];rfl
 ·rfl
theorem Vb {o:OpD}(h:¬nH 12 o):(cW o).length≤41:=by
 unfold nH at h;have hu:∀l:List Int,(te l).length≤l.length:=λl=>by unfold te;split<;>simp
 unfold cW;split
 ·unfold pW;split
  ·simp
  ·rename_i A;unfold nC at A;rw[da,fF];unfold ir;omega
 split
 ·unfold Ai;split
  ·simp
  ·rename_i A;unfold vQ at A;have:=hu (List.replicate (2*o.radius+1).toNat 1);rw[xc]at this;omega
 ·have:=hu o.y;omega
theorem zaN {o:OpD}{w h:Int}(hc:fJ o w h=0)(G:¬nH 12 o)(H:h≤12):bT (cB o w h).y.lines≤80:=by
 have A:jf o w h=0:=by
  unfold fJ at hc;split at hc
  ·cases hc
  ·exact hc
 show bT (fQ o h).lines≤_;unfold jf at A;unfold fQ;split
 ·rename_i D;rw[aB D]at A;by_cases h1:dK o.filter w o.w=0
  ·rw[aA (by simpa using h1)]at A;have:=Je A;omega
  ·rw[aB h1]at A;exact absurd A h1
 ·rename_i D;rw[aA D]at A;have I:=Vb G;have F:jm (cW o) h=0:=by
   split at A
   ·exact absurd A (by assumption)
   ·split at A
    ·exact absurd A (by assumption)
    ·exact A
  have:=Kr _ _ F;omega
theorem Sm {d:fS}{M:Nat}(A:bT d.s.y.lines≤M):∀(k:Nat) (y e:Int),lnF d.s.y y≤e→nB d k y e≤k*(M+1)
 |0,_,_,_=>by unfold nB;omega
 |k+1,y,e,he=>by
  have h1:=Sm A k (y+1) (max (lnE d.s.y y) (lnF d.s.y (y+1))) ae;have D:=Lc d.s.y y;rw[fb,uv];unfold nB;unfold lnE lnF at*;omega
def gI (C:C21):Nat→Nat→Nat
 |0,_=>0
 |j+1,i=>lR C i+gI C j (i+1)
theorem Vk {C:C21}{H M:Nat}(A:bT C.d.s.y.lines≤M)(hh:∀i:Nat,(aS C.d i).h≤H):∀j i,gI C j i≤j*(H*(M+1))
 |0,_=>by simp[gI]
 | j+1,i=>by
  have h1:=Vk A hh j (i+1);have D:lR C i≤H*(M+1):=by
   unfold lR rj;refine bA (Sm (d:=C.E.d (aS C.d i)) A _ _ _ (gj _)) (gO _ ?_);have:=hh i;show((aS C.d i).y+(aS C.d i).h-(aS C.d i).y).toNat≤H;omega
  unfold gI;rw[fb,uv];omega
theorem Sc {n size:Int}(I:1≤n∧n≤12)(F:1≤size∧size≤13):1≤dX n size∧dX n size≤12∧dX n size*min size n≤24:=by
 unfold dX;have h1:=xd (n+size-1) size;have G:=kD (n+size-1) (show size≠0 by omega);have H:=iP (n+size-1) (show 0<size by omega);generalize(n+size-1)/size=k at*;generalize(n+size-1)%size=r at*;rcases oA n size with h|h
 ·have:k=1:=by
   have a1:k<2:=by
    refine T0 λA=>?_
    have:size*2≤size*k:=sH A ae;omega
   have a2:0<k:=by
    refine T0 λA=>?_
    have:size*k≤size*0:=sH A ae;omega
   omega
  subst this;omega
 ·have D:k*min size n=size*k:=by rw[show min size n=size by omega,gv]
  rw[D];have a2:0<k:=by
   refine T0 λA=>?_
   have:size*k≤size*0:=sH A ae;omega
  have a3:1*k≤size*k:=uu F.1 ae;refine⟨ae,?_,ae⟩;refine Int.le_of_not_gt λA=>?_
  have:size*13≤size*k:=sH ae ae;omega
theorem zf9 {a:uj}{o:OpD}(B:MQ a o){tw th:Int}(hw:0≤tw)(hh:0≤th){C:C21}(W:C.d=Tm a o tw th):∃N:Nat,(N:Int)=bN C.d∧1≤N∧N≤144∧gI C N 0≤23328:=by
 have am:=B.sx;have al:=B.sy;have aa:0≤tw%13∧tw%13<13:=⟨kD _ ae,iP _ ae⟩
 have ad:0≤th%13∧th%13<13:=⟨kD _ ae,iP _ ae⟩
 have px:=Sc (n:=(bgS a o).x.lines.length) (size:=1+tw%13) ae ae;have L:=Sc (n:=(bgS a o).y.lines.length) (size:=1+th%13) ae ae;have hc:bN C.d=dX (bgS a o).x.lines.length (1+tw%13)*dX (bgS a o).y.lines.length (1+th%13):=by rw[W];rfl
 have hm:bT C.d.s.y.lines≤((80:Nat):Int):=by
  rw[W];exact zaN B.made B.little (by have:=DE a;omega)
 obtain⟨H,I⟩:∃H:Nat,(H:Int)=min (1+th%13) (bgS a o).y.lines.length:=⟨(min (1+th%13) (bgS a o).y.lines.length).toNat,ae⟩
 have hH:∀i:Nat,(aS C.d i).h≤H:=by
  intro i;rw[I,W];show min (1+th%13) ((bgS a o).y.lines.length-kQ _ _)≤_;have:0≤kQ (Tm a o tw th) i:=by
   unfold kQ;refine mR (AI ae ?_) (by show 0≤1+th%13;omega);show 0≤dX (bgS a o).x.lines.length (1+tw%13);omega
  omega
 have U:=Vk (C:=C) hm hH;rw[hc]
 revert U px L I
 generalize dX (bgS a o).x.lines.length (1+tw%13)=A;generalize dX (bgS a o).y.lines.length (1+th%13)=D;intro px L I U;obtain⟨G,rfl⟩:∃G:Nat,(G:Int)=A:=⟨A.toNat,ae⟩
 obtain⟨F,rfl⟩:∃F:Nat,(F:Int)=D:=⟨D.toNat,ae⟩
 have e1:G*F≤12*12:=AP ae ae;have e2:1*1≤G*F:=AP ae ae;have e3:F*H≤24:=by
  have:((F*H:Nat):Int)≤24:=by rw[mQ,I];exact L.2.2
  omega
 refine⟨G*F,by rw[mQ],ae,e1,bA (U _ _) ?_⟩;have e4:G*F*(H*81)=G*(F*H)*81:=by rw[vC,←vC F H 81,←vC]
 have e5:G*(F*H)≤12*24:=AP ae e3;show G*F*(H*81)≤_;omega
end Go.Proofs.YtjljhnandbbldaaGreatDoor
namespace Go.Proofs.YtjljhnandbbldaaGreatDoor
open Go Go.Crisp
attribute [local irreducible] ag cO aT stK aG vK qK bL gK eM bC mkK cR HA JA Ep bsK clK vu pP Zb
open _root_.Go.Proofs.Tryz
def zbY:Rp dc where
 w:=10
 R:=λ_ _ cs t=>cs=dO t
 len:=by rintro _ _ _ _ rfl;rfl
 one:=by rintro _ _ _ _ rfl;exact kT _
 fr:=by rintro _ _ _ _ _ _ rfl _ _;rfl
 mono:=by rintro _ _ _ _ _ rfl _;rfl
def dA (d:dC)(N:Nat):List dc:=(List.range N).map λi:Nat=>aS d i
theorem zbk {Z:Nat→Prop}{h:ai}{b:Nat}{d:dC}{p q:Value}(H:uD Z h b d p q)(W:d.Wf){N:Nat}(hN:(N:Int)=bN d)(aa:N≤4096):ag prog uK #[ptr b] h λr h'=>New zbY h h' r (dA d N):=by
 apply K6;unfold zT;refine ag.at (ET H W) ?_;rw[←hN];refine bO (α:=Value) N 0 (λi v=>[v,af (i:Int)]) (λi v g=>New zbY h g v (dA d i)) (.slice none 0 0) rfl (bZ _) (New.nil (Ext.refl _)) λi v g again ρ _ hi F G=>?_
 simp only[iq,vN];rw[cI,ah];refine aq (λg1=>?_) (λg1=>?_)
 ·have D:i<N:=ae;refine ag.to (xt (H.ext F.2.1) W (i:=i) ae ae) λg2 e2=>?_
  have x0:aP (.tuple #[.agg (dO (aS d i)).toArray,.bool true]) 0=some (.agg (dO (aS d i)).toArray):=rfl;have x1:aP (.tuple #[.agg (dO (aS d i)).toArray,.bool true]) 1=some (.bool true):=rfl;simp only[go_sem,x0,x1];refine cX (cs:=dO (aS d i)) rfl (kT _) rfl λb3 g3 r3 e3 n3=>?_
  rw[aL r3 10 rfl,ah];have A:=F.ext (e2.trans e3);have L:(dA d i).length=i:=by simp[dA]
  refine Rp.push_ow (e:=zbY) (x:=aS d i) A.1 rfl rfl rfl (by rw[L];omega) (by rw[L];omega) (λ_ h=>h.elim) λv4 U o4 f4 n4=>?_
  have I:(i:Int)+1=((i+1:Nat):Int):=ae
  try simp only[go_sem]
  rw[w64 (n:=(i:Int)+1) ae ae,I];have e1:dA d (i+1)=dA d i++[aS d i]:=by simp[dA,rK]
  have ad:=A.2.1.1;refine G v4 U D ⟨by rw[e1];exact o4,A.2.1.then_fr f4 A.2.2,λc hc=>(n4 c hc).elim (A.2.2 c) λh=>ae⟩
 ·have:i=N:=ae;subst this;exact F
def PE (t:dc)(x y:Int):Prop:=t.x≤x∧x<t.x+t.w∧t.y≤y∧y<t.y+t.h
theorem Xx {d:dC}(W:d.Wf){x y:Int}(x0:0≤x)(I:x<d.X)(y0:0≤y)(y1:y<d.Y):∃i:Nat,(i:Int)<bN d∧PE (aS d i) x y:=by
 have G:=W.w;have hh:=W.h;unfold fW at G hh;have a1:=xd x d.w;have a2:=kD x (show d.w≠0 by omega);have a3:=iP x (show 0<d.w by omega);have U:=xd y d.h;have L:=kD y (show d.h≠0 by omega);have b3:=iP y (show 0<d.h by omega);have D:0≤x/d.w:=AI x0 ae;have H:0≤y/d.h:=AI y0 ae;have F:x/d.w<dQ d:=by
  unfold dQ dX;apply Zg;rw[vD ae,jX,kZ,gv];omega
 have r1:y/d.h<dX d.Y d.h:=by
  unfold dX;apply Zg;rw[vD ae,jX,kZ,gv];omega
 have hc:(y/d.h+1)*dQ d≤dX d.Y d.h*dQ d:=uu ae ae;rw[jX,kZ]at hc;have A:0≤y/d.h*dQ d+x/d.w:=by
  have:=mR H (show 0≤dQ d by omega);omega
 refine⟨(y/d.h*dQ d+x/d.w).toNat,?_,?_⟩
 ·rw[AK A];unfold bN;rw[gv (dQ d)];omega
 ·rw[AK A];have m1:(y/d.h*dQ d+x/d.w)%dQ d=x/d.w:=by
   rw[Int.add_comm,Int.add_mul_emod_self_right,zd2 D F]
  have m2:(y/d.h*dQ d+x/d.w)/dQ d=y/d.h:=by
   rw[Int.add_comm,Ua _ _ ae,sG D F,Int.zero_add]
  show kw d _≤x∧x<kw d _+vh d _∧kQ d _≤y∧y<kQ d _+xL d _;unfold vh xL kw kQ;rw[m1,m2,gv (x/d.w),gv (y/d.h)];omega
def zeW (C:C21)(k:Nat)(jo:Option (dc×Int×Int))(n:Pic):Prop:=
 ∀x y c,inP n x y c→∀i:Nat,i<k→PE (aS C.d i) x y→(∀t yy e,jo=some (t,yy,e)→i+1=k→y<yy)→atP n x y c=yQ C.m C.d.s x y c
theorem VJ {C:C21}(O:C.Ok){N:Nat}{n:Pic}(hN:(N:Int)=bN C.d)(P:zeW C N none n)(su:C.suits n):n.l=(DP C.m C.d.s).l:=by
 obtain⟨s1,F,A,W,s5⟩:=su.2;have hf:=dB O.m.fits;refine zb7 su.1 ?_ ⟨F.symm,A.symm,W.symm,s5.symm⟩ λx y c hi=>?_
 ·show(((List.range (C.d.s.y.lines.length*C.d.s.x.lines.length*C.m.c.toNat)).map _).length:Int)=(C.d.s.x.lines.length:Int)*(C.d.s.y.lines.length:Int)*C.m.c;rw[da,fF,mQ,mQ,AK ae,gv (C.d.s.y.lines.length:Int)]
 ·obtain⟨h1,H,I,D,U,L⟩:=hi;obtain⟨i,aa,G⟩:=Xx O.d h1 (by show x<(C.d.s.x.lines.length:Int);rw[←F];exact H) I (by show y<(C.d.s.y.lines.length:Int);rw[←A];exact D);rw[P x y c ⟨h1,H,I,D,U,L⟩ i ae G λ_ _ _ h=>by cases h];rw[zbE];exact⟨h1,by show x<(C.d.s.x.lines.length:Int);rw[←F];exact H,I,by show y<(C.d.s.y.lines.length:Int);rw[←A];exact D,U,by show c<C.m.c;rw[←W];exact L⟩
section
theorem Mj {h:ai}{Z:Nat→Prop}{v:Value}{l:List (Int×List Int)}(H:Rp.Sl ns Z h v l)(hl:l.length≤1000000000)(hb:∀x∈l,x.2.length≤1073741824){a b:Int}:ag prog sQ #[v,af a,af b] h λr h'=>(∃x y c,r=.tuple #[af x,af y,.bool c])∧Ext h h':=by
 apply Oz;unfold Cs;obtain⟨av,cv,ev⟩:=H.isSl;have el:aD v=some (af (l.length:Int)):=by rw[ev];rfl
 rw[el,ah];refine bO (α:=Int×Int×Bool) l.length 0 (λi s=>[af s.1,af s.2.1,.bool s.2.2,af (i:Int)]) (λi s g=>Ext h g) (0,0,false) rfl (bZ _) (Ext.refl _) λi s g again ρ _ hi E L=>?_
 simp only[iq,vN,zck,zfp];rw[cI,ah];refine aq (λg1=>?_) (λg1=>?_)
 ·have D:i<l.length:=ae;have U:(i:Int)+1=((i+1:Nat):Int):=ae;obtain⟨pt,cs,q1,q2,u,q3,q4⟩:=(H.ext E).atw (show 0<2 by omega) (k:=.i64) (i:=i) D;have q1:bh 2 v (af (i:Int))=some pt:=q1;have q2:aM 2 g pt=some (.agg cs.toArray):=q2;subst q3;rw[q1,ah,q2,ah];refine cX (cs:=[af l[i].1,u]) rfl (az rfl (az q4.one aU)) rfl λb5 g5 r5 e5 n5=>?_
  have c0:aE g5 ⟨b5,0,none⟩=some (af l[i].1):=ao r5;have c1:aE g5 ⟨b5,1,none⟩=some u:=ao r5;obtain⟨au,cu,eu⟩:=q4.isSl;have aa:aD u=some (af (l[i].2.length:Int)):=by rw[eu];rfl
  simp only[go_sem,aO,c1,aa];refine aq (λg2=>?_) (λg2=>?_)
  ·rw[w64 (n:=(i:Int)+1) ae ae,U];exact L s g5 D (E.trans e5)
  ·have ad:=hb l[i] (cQ D);refine bO (α:=Int×Int×Bool) l[i].2.length 0 (λj s=>[af s.1,af s.2.1,.bool s.2.2,af (j:Int)]) (λj s g'=>g'=g5) s rfl (bZ _) rfl λj s' g' W ρ' _ hj eg A=>?_
   subst eg;simp only[iq,vN,zck,zfp];rw[cI,ah];refine aq (λg3=>?_) (λg3=>?_)
   ·have F:j<l[i].2.length:=ae;have G:(j:Int)+1=((j+1:Nat):Int):=ae;simp only[go_sem,aO,c0];refine bB (λxs I=>(∃n,xs=[af n])∧I=g') ?_ ?_
    ·obtain⟨s1,s2,s3⟩:=s';cases s3<;>simp only[go_sem]
     ·exact⟨⟨_,rfl⟩,trivial⟩
     ·refine aq (λ_=>?_) (λ_=>?_)
      ·exact⟨⟨_,rfl⟩,trivial⟩
      ·exact⟨⟨_,rfl⟩,trivial⟩
    ·rintro xs ρ'' I ⟨⟨n,rfl⟩,rfl⟩;obtain⟨s1,s2,s3⟩:=s';simp only[iq];cases s3<;>simp only[go_sem]
     ·rw[w64 (n:=(j:Int)+1) ae ae,G];exact A (n,_,true) _ F rfl
     ·refine aq (λ_=>?_) (λ_=>?_)
      ·rw[w64 (n:=(j:Int)+1) ae ae,G];exact A (n,_,true) _ F rfl
      ·rw[w64 (n:=(j:Int)+1) ae ae,G];exact A (n,s2,true) _ F rfl
   ·rw[w64 (n:=(i:Int)+1) ae ae,U];exact L s' _ D (E.trans e5)
 ·exact⟨⟨_,_,_,rfl⟩,E⟩
theorem VI {n size:Int}(A:1≤size)(j:Int):j*size<n↔j<dX n size:=by
 unfold dX;rw[show(j<(n+size-1)/size)↔(j+1≤(n+size-1)/size)from Iff.rfl,vD ae,jX,kZ];omega
structure VD where
 state:Int
 tiles:List Int
 left:List (Int×Int)
def rVD:Rp VD where
 w:=3
 R:=λZ h cs v=>∃t l,cs=[.int .i64 v.state,t,l]∧Rp.Sl (Rp.int .i64) Z h t v.tiles∧Rp.Sl w8 Z h l v.left∧Rp.SlCap l
 len:=by rintro _ _ _ _ ⟨_,_,rfl,_⟩;rfl
 one:=by
  rintro _ _ _ _ ⟨_,_,rfl,H,K,_⟩;exact az rfl (az H.one (az K.one aU))
 fr:=by rintro _ _ _ _ _ _ ⟨t,l,rfl,H,K,c⟩ f q;exact⟨t,l,rfl,H.fr f q,K.fr f q,c⟩
 mono:=by rintro _ _ _ _ _ ⟨t,l,rfl,H,K,c⟩ q;exact⟨t,l,rfl,H.mono q,K.mono q,c⟩
def XK:Rp (List (Int×Int)) where
 w:=1
 R:=λZ h cs l=>∃v,cs=[v]∧Rp.Sl w8 Z h v l∧Rp.SlCap v
 len:=by rintro _ _ _ _ ⟨_,rfl,_⟩;rfl
 one:=by
  rintro _ _ _ _ ⟨_,rfl,H,_⟩;exact az H.one aU
 fr:=by rintro _ _ _ _ _ _ ⟨v,rfl,H,c⟩ f q;exact⟨v,rfl,H.fr f q,c⟩
 mono:=by rintro _ _ _ _ _ ⟨v,rfl,H,c⟩ q;exact⟨v,rfl,H.mono q,c⟩
def kE (M:List (List (Int×Int)))(x:Int):List (Int×Int):=if 0≤x then M.getD x.toNat []else[]
def jI (M:List (List (Int×Int)))(v:VD)(d:QD):VD×QD×EvD:=
 if v.state=2 then(v,d,(0,0,0,0))
 else if v.state=1 then(⟨if v.left.tail=[]then 0 else 1,v.tiles,v.left.tail⟩,d,(2,v.tiles.getLast?.getD 0,(v.left.headD (0,0)).1,(v.left.headD (0,0)).2))
 else if bX d=1 then(v,d,(0,0,0,0))
 else if bX d=2 then({v with state:=2},d,(3,0,0,0))
 else(⟨if kE M (bi d)=[]then v.state else 1,v.tiles++[bi d],kE M (bi d)⟩,iM d,(1,bi d,0,0))
section
variable {Z:Nat→Prop}{h:ai}{cs ds:List Value}{v:VD}{d:QD}{mv:Value}{M:List (List (Int×Int))}
theorem zbe (H:rVD.R Z h cs v)(HQ:rQ.R Z h ds d)(HM:Rp.Sl XK Z h mv M)(zl:∀c,Z c→c<h.size)(h1:v.state=1→v.tiles≠[]∧v.left≠[])(ht:v.tiles.length≤1000000):
  ag prog gb #[.agg cs.toArray,.agg ds.toArray,mv] h λr h'=>∃L A,r=.tuple #[.agg L.toArray,.agg A.toArray,evV (jI M v d).2.2]∧rVD.R (λc=>Z c∨(h.size≤c∧c<h'.size)) h' L (jI M v d).1∧rQ.R (λc=>Z c∨(h.size≤c∧c<h'.size)) h' A (jI M v d).2.1∧Ext h h':=by
 apply QX;unfold FE;obtain⟨tv,lv,rfl,HT,HL,ay⟩:=H;have b0:=HQ;have oq:=rQ.one HQ;have lq:=rQ.len HQ;simp only[bF];refine aI λD g1 r1 e1 n1=>aI λb2 g2 r2 e2 n2=>aI λb3 g3 r3 e3 n3=>aI λb4 g4 r4 e4 n4=>aI λb5 g5 r5 e5 n5=>?_
 have k1:=aW r1;have k2:=aW r2;have k3:=aW r3;have k4:=aW r4;have k5:=aW r5;have s1:=e1.1;have s2:=e2.1;have s3:=e3.1;have s4:=e4.1;have s5:=e5.1;have E5:Ext h g5:=e1.trans (e2.trans (e3.trans (e4.trans e5)));have r1:=(e2.trans (e3.trans (e4.trans e5))).row r1;have r2:=(e3.trans (e4.trans e5)).row r2;have r3:=(e4.trans e5).row r3;have r4:=e5.row r4;have c0:aE g5 ⟨D,0,none⟩=some (af v.state):=ao r1
 -- what is told
 have ar:∀{g:ai} {Zi:Nat→Prop} {L A:List Value} {v':VD} {d':QD} {ev:EvD},g[b3]? =some (.cells L.toArray 69 (0,0))→g[b4]? =some (.cells A.toArray 43 (0,0))→g[b5]? =some (.cells #[aj,aj,aj,aj] 200 (0,0))→Ext h g→rVD.R Zi g L v'→rQ.R Zi g A d'→
   (∀c,Zi c→(Z c∨h.size≤c)∧c≠b5)→jI M v d=(v',d',ev)→
   stK 4 (ptr b5) (evV ev) g λ_ g3=>vK (aM 3 g3 (ptr b3)) λgf=>vK (aM 3 g3 (ptr b4)) λfa=>vK (aM 4 g3 (ptr b5)) λe9=>∃L A:List Value,Value.tuple #[gf,fa,e9]=.tuple #[.agg L.toArray,.agg A.toArray,evV (jI M v d).2.2]∧rVD.R (λc=>Z c∨(h.size≤c∧c<g3.size)) g3 L (jI M v d).1∧rQ.R (λc=>Z c∨(h.size≤c∧c<g3.size)) g3 A (jI M v d).2.1∧Ext h g3:=by
  intro g Zi L A v' d' ev q3 q4 q5 E R1 R2 hz he;refine bI (l:=[af ev.1,af ev.2.1,af ev.2.2.1,af ev.2.2.2]) q5 rfl (az rfl (az rfl (az rfl (az rfl aU)))) rfl λg3 q u=>?_
  rw[aL (u.row ae q3) 3 (rVD.len R1),ah,aL (u.row ae q4) 3 (rQ.len R2),ah,aL (l:=[af ev.1,af ev.2.1,af ev.2.2.1,af ev.2.2.2]) q 4 rfl,ah,he];exact⟨L,A,rfl,rVD.mono (rVD.fr R1 u.fr λc _ hc=>(hz c hc).2) λc hc hi=>(hz c hi).1.imp id λh=>⟨h,hc⟩,rQ.mono (rQ.fr R2 u.fr λc _ hc=>(hz c hc).2) λc hc hi=>(hz c hi).1.imp id λh=>⟨h,hc⟩,E.upd ae u⟩
 have c4:rVD.R Z h [af v.state,tv,lv] v:=⟨tv,lv,rfl,HT,HL,ay⟩
 have c9:=rVD.one c4;have zn:∀c,Z c→(Z c∨h.size≤c)∧c≠b5:=λc hc=>⟨.inl hc,λhe=>by have:=zl c hc;omega⟩
 have fE:aR #[aj,aj,aj,aj] []=some #[aj,aj,aj,aj]:=rfl;have fL:aR #[aj,aj,aj,aj] [(0,1,af 3)]=some #[af 3,aj,aj,aj]:=rfl;have aa:ds.length=3:=lq;simp only[go_sem,aO,c0];refine aq (λbd=>?_) (λbd=>?_)
 ·refine aQ (Fr (λc=>c=b3) g5) (Fr.refl _ _) ?_;refine aF (.agg [af v.state,tv,lv].toArray) (λg f=>aL (l:=[af v.state,tv,lv]) (f.row r1 ae) 3 rfl) ?_;refine aF (.agg ds.toArray) (λg f=>aL (f.row r2 ae) 3 lq) ?_;simp only[fE,bH,ah];refine bI (l:=[af v.state,tv,lv]) r3 rfl c9 rfl λg6 q6 u6=>⟨u6.fr,?_⟩
  refine bI (l:=ds) (u6.row ae r4) (by rw[aa];rfl) oq aa λg7 q7 u7=>?_
  have E7:Ext h g7:=(E5.upd ae u6).upd ae u7;exact ar (ev:=(0,0,0,0)) (u7.row ae q6) q7 (u7.row ae (u6.row ae r5)) E7 (rVD.ext c4 E7) (rQ.ext b0 E7) zn (by unfold jI;rw[aB bd])
 try simp only[go_sem,aO,c0]
 have c1:aE g5 ⟨D,1,none⟩=some tv:=ao r1;have c2:aE g5 ⟨D,2,none⟩=some lv:=ao r1;refine aq (λau=>?_) (λau=>?_)
 ·obtain⟨gz,fi⟩:=h1 au;obtain⟨at_,ct,et⟩:=HT.isSl;have hg:aD tv=some (af (v.tiles.length:Int)):=by rw[et];rfl
  have hn:0<v.tiles.length:=vE.2 gz;cases c7:v.left with
  |nil=>exact absurd c7 fi
  | cons x xs=>
   rw[c7]at HL;obtain⟨pl,cl,q1,q2,q3⟩:=(HL.ext E5).atw (show 0<2 by omega) (k:=.i64) (i:=0) (by simp);have q1:bh 2 lv aj=some pl:=q1;have q2:aM 2 g5 pl=some (.agg cl.toArray):=q2;have q3:cl=[af x.1,af x.2]:=q3;subst q3;obtain⟨pt,p1,p2⟩:=(HT.ext E5).int_at (k':=.i64) (i:=v.tiles.length-1) ae;have p1:bh 1 tv (af ((v.tiles.length:Int)-1))=some pt:=by rw[show(v.tiles.length:Int)-1=((v.tiles.length-1:Nat):Int)by omega];exact p1
   obtain⟨U,w1,w2,w3⟩:=Rp.Sl.tl HL ay (k:=.i64);have w1:ni 2 lv (some aJ) none=some U:=w1;have gr:∀g,Ext g5 g→aM 2 g pl=some (.agg [af x.1,af x.2].toArray):=λg e=>by
    obtain⟨p',c',a1,a2,a3⟩:=(HL.ext (E5.trans e)).atw (show 0<2 by omega) (k:=.i64) (i:=0) (by simp);have a1:bh 2 lv aj=some p':=a1;rw[q1]at a1;cases a1;have a3:c'=[af x.1,af x.2]:=a3;subst a3;exact a2
   have fc:∀g,Ext g5 g→ldV g pt=some (af (v.tiles.getLast?.getD 0)):=λg e=>by
    obtain⟨p',a1,a2⟩:=(HT.ext (E5.trans e)).int_at (k':=.i64) (i:=v.tiles.length-1) ae;have a1:bh 1 tv (af ((v.tiles.length:Int)-1))=some p':=by rw[show(v.tiles.length:Int)-1=((v.tiles.length-1:Nat):Int)by omega];exact a1
    rw[p1]at a1;cases a1;rw[a2,Zh,gN];rfl
   refine aQ (Ext g5) (Ext.refl _) ?_
   try simp only[go_sem,aO]
   refine aF tv (λg e=>e.cell c1) ?_
   try simp only[go_sem,aO]
   refine aF tv (λg e=>e.cell c1) ?_;refine aF (af (v.tiles.length:Int)) (λ_ _=>hg) ?_;simp only[go_sem];rw[w64 (n:=(v.tiles.length:Int)-1) ae ae,p1,ah];refine aF (af (v.tiles.getLast?.getD 0)) fc ?_
   try simp only[go_sem,aO]
   refine aF lv (λg e=>e.cell c2) ?_;rw[q1,ah];refine aF (.agg [af x.1,af x.2].toArray) gr ?_;have hf:∀z a b:Int,aR #[aj,aj,aj,aj] [(0,1,af 2),(1,1,af z),(2,2,.agg [af a,af b].toArray)]=some #[af 2,af z,af a,af b]:=λ_ _ _=>rfl
   rw[hf,bH,ah];refine aI λb6 g6 r6 e6 n6=>⟨e6,?_⟩
   have s6:=e6.1;refine bI (l:=[af 2,af (v.tiles.getLast?.getD 0),af x.1,af x.2]) r6 rfl (az rfl (az rfl (az rfl (az rfl aU)))) rfl λg7 q7 u7=>?_
   have c8:g7[D]? =some (.cells [af v.state,tv,lv].toArray 69 (0,0)):=u7.row ae (e6.row r1);have ek:aE g7 ⟨D,2,none⟩=some lv:=ao c8;simp only[go_sem,aO,ek,w1];refine bG c8 (by simp) w2.one λg8 q8 u8=>?_
   have q8:g8[D]? =some (.cells [af v.state,tv,U].toArray 69 (0,0)):=q8;obtain⟨al,hl,ei⟩:=w2.isSl;have c6:aD U=some (af (xs.length:Int)):=by rw[ei];rfl
   have gl:aE g8 ⟨D,2,none⟩=some U:=ao q8;have s7:=u7.1;have s8:=u8.1;have fp:g5.size≤b6:=n6;refine bB (λys g=>ys=[]∧g[D]? =some (.cells [af (if xs=[]then 0 else 1),tv,U].toArray 69 (0,0))∧Fr (λc=>c=D) g8 g) ?_ ?_
   ·simp only[go_sem,aO,gl,c6];refine aq (λg0=>?_) (λg0=>?_)
    ·refine bG q8 (by simp) rfl λg9 q9 u9=>⟨trivial,?_,u9.fr⟩
     rw[aB (lg ae)];exact q9
    ·refine⟨trivial,?_,Fr.refl _ _⟩;rw[aA (λh0=>by rw[h0]at g0;exact g0 rfl),←au];exact q8
   ·rintro ys ρ g9 ⟨rfl,q9,f9⟩;have s9:=f9.1;have G:∀{b:Nat} {o:Obj},b≠D→b≠b6→g5[b]? =some o→g9[b]? =some o:=λh1 h6 r=>f9.row (u8.row h1 (u7.row h6 (e6.row r))) h1
    have ey:=G (show b2≠D by omega) (show b2≠b6 by omega) r2;have es:=G (show b3≠D by omega) (show b3≠b6 by omega) r3;have fw:=G (show b4≠D by omega) (show b4≠b6 by omega) r4;have fv:=G (show b5≠D by omega) (show b5≠b6 by omega) r5;have ep:=f9.row (u8.row (show b6≠D by omega) q7) (show¬b6=D by omega);have E9:Ext h g9:=(((E5.trans e6).upd ae u7).upd ae u8).then_fr f9 λc hc=>by rw[show c=D from hc];omega
    refine aQ (Fr (λc=>c=b3∨c=b4) g9) (Fr.refl _ _) ?_;refine aF (.agg [af (if xs=[]then 0 else 1),tv,U].toArray) (λg f=>aL (l:=[af (if xs=[]then 0 else 1),tv,U]) (f.row q9 ae) 3 rfl) ?_;refine aF (.agg ds.toArray) (λg f=>aL (f.row ey ae) 3 lq) ?_;refine aF (evV (2,v.tiles.getLast?.getD 0,x.1,x.2)) (λg f=>aL (l:=[af 2,af (v.tiles.getLast?.getD 0),af x.1,af x.2]) (f.row ep ae) 4 rfl) ?_;refine bI (l:=[af (if xs=[]then 0 else 1),tv,U]) es rfl (az rfl (az HT.one (az w2.one aU))) rfl λbv a9 I=>⟨I.fr.mono λc _ hc=>.inl hc,?_⟩
    refine bI (l:=ds) (I.row ae fw) (by rw[aa];rfl) oq aa λW a8 ad=>⟨(I.fr.mono λc _ hc=>.inl hc).trans (ad.fr.mono λc _ hc=>.inr hc),?_⟩
    have ax:Ext h W:=(E9.upd ae I).upd ae ad;obtain⟨F,z1,z2,z3⟩:=Rp.Sl.tl (HL.ext ax) ay (k:=.i64);have z1:ni 2 lv (some aJ) none=some F:=z1;rw[w1]at z1;cases z1;exact ar (ev:=(2,v.tiles.getLast?.getD 0,x.1,x.2)) (ad.row ae a9) a8 (ad.row ae (I.row ae fv)) ax (⟨tv,U,rfl,HT.ext ax,z2,z3⟩:rVD.R Z W _ ⟨if xs=[]then 0 else 1,v.tiles,xs⟩) (rQ.ext b0 ax) zn (by unfold jI;rw[aA ae,aB au,c7];rfl)
 ·rw [aL r2 3 lq,ah];refine(UR (rQ.ext HQ E5)).mono λrr g6 ⟨A,er,R6,e6⟩=>?_
  subst er;have x0:aP (.tuple #[.agg A.toArray,af (bi d),af (bX d)]) 0=some (.agg A.toArray):=rfl;have x1:aP (.tuple #[.agg A.toArray,af (bi d),af (bX d)]) 1=some (af (bi d)):=rfl;have x2:aP (.tuple #[.agg A.toArray,af (bi d),af (bX d)]) 2=some (af (bX d)):=rfl;simp only[go_sem,x0,x1,x2];have ee:=rQ.one R6;have bg:A.length=3:=rQ.len R6;refine cX (cs:=A) (by rw[bg];rfl) ee bg λb6 g7 r7 e7 n7=>?_
  have a7:=e6.trans e7;have E7:Ext h g7:=E5.trans a7;have s6:=e6.1;have s7:=e7.1;have fp:g5.size≤b6:=ae;have ca:=a7.row r1;have dq:=a7.row r2;have cu:=a7.row r3;have ci:=a7.row r4;have cz:=a7.row r5;refine aq (λq1=>?_) (λq1=>?_)
  ·refine aQ (Fr (λc=>c=b3) g7) (Fr.refl _ _) ?_;refine aF (.agg [af v.state,tv,lv].toArray) (λg f=>aL (l:=[af v.state,tv,lv]) (f.row ca ae) 3 rfl) ?_;refine aF (.agg ds.toArray) (λg f=>aL (f.row dq ae) 3 lq) ?_;simp only[fE,bH,ah];refine bI (l:=[af v.state,tv,lv]) cu rfl c9 rfl λg8 q8 u8=>⟨u8.fr,?_⟩
   refine bI (l:=ds) (u8.row ae ci) (by rw[aa];rfl) oq aa λg9 q9 u9=>?_
   have E9:Ext h g9:=(E7.upd ae u8).upd ae u9;exact ar (ev:=(0,0,0,0)) (u9.row ae q8) q9 (u9.row ae (u8.row ae cz)) E9 (rVD.ext c4 E9) (rQ.ext b0 E9) zn (by unfold jI;rw[aA bd,aA au,aB q1])
  try simp only[go_sem]
  refine aq (λq2=>?_) (λq2=>?_)
  ·try simp only[go_sem,aO]
   refine bG ca (by simp) rfl λg8 q8 u8=>?_
   have q8:g8[D]? =some (.cells [af 2,tv,lv].toArray 69 (0,0)):=q8;have s8:=u8.1;refine aQ (Fr (λc=>c=b3) g8) (Fr.refl _ _) ?_;refine aF (.agg [af 2,tv,lv].toArray) (λg f=>aL (l:=[af 2,tv,lv]) (f.row q8 ae) 3 rfl) ?_;refine aF (.agg ds.toArray) (λg f=>aL (f.row (u8.row ae dq) ae) 3 lq) ?_;simp only[fL,bH,ah];refine bI (l:=[af 2,tv,lv]) (u8.row ae cu) rfl (az rfl (az HT.one (az HL.one aU))) rfl λg9 q9 u9=>⟨u9.fr,?_⟩
   refine bI (l:=ds) (u9.row ae (u8.row ae ci)) (by rw[aa];rfl) oq aa λbv a9 I=>?_
   have b8:Ext h bv:=((E7.upd ae u8).upd ae u9).upd ae I;exact ar (ev:=(3,0,0,0)) (I.row ae q9) a9 (I.row ae (u9.row ae (u8.row ae cz))) b8 (⟨tv,lv,rfl,HT.ext b8,HL.ext b8,ay⟩:rVD.R Z bv _ {v with state:=2}) (rQ.ext b0 b8) zn (by unfold jI;rw[aA bd,aA au,aA q1,aB q2])
  refine cT (c':=#[]) rfl λb7 g8 r8 e8 n8=>?_
  have s8:=e8.1;have gg:aE g8 ⟨D,1,none⟩=some tv:=ao (e8.row ca);simp only[go_sem,aO,gg];refine SB (HT.ext E7) ae r8 e8 n8 λu g9 N9=>?_
  have s9:=N9.2.1.1;have fq:=N9.2.1.row ca;refine bG fq (by simp) N9.sl.one λbv a9 I=>?_
  have hv:=I.1;refine bG a9 (by simp) rfl λW a8 ad=>?_
  have a8:W[D]? =some (.cells [af v.state,u,.slice none 0 0].toArray 69 (0,0)):=a8;have hr:=ad.1;have ax:Ext h W:=((E7.trans N9.2.1).upd ae I).upd ae ad;have c3:Fr (λc=>c=D) g9 W:=I.fr.trans ad.fr;have nu:∀c,blk u c→g7.size≤c:=N9.2.2;have fe:Rp.Sl (Rp.int .i64) (blk u) W u (v.tiles++[bi d]):=N9.sl.fr c3 λc _ hc he=>by have:=nu c hc;have he:c=D:=he;omega
  have hm:bX d=0:=by
   have hh:bX d=0∨bX d=1∨bX d=2:=by
    unfold bX;split
    ·split<;>simp
    ·simp
   omega
  have c5:∀{b:Nat},b<h.size→¬b=D:=λhb he=>ae
  obtain⟨am,cm,em⟩:=HM.isSl;have fs:aD mv=some (af (M.length:Int)):=by rw[em];rfl
  refine bB (λys g=>ys=[]∧∃F,g[D]? =some (.cells [af v.state,u,F].toArray 69 (0,0))∧Rp.Sl w8 Z g F (kE M (bi d))∧Rp.SlCap F∧Fr (λc=>c=D) W g) ?_ ?_
  ·simp only[go_sem,fs];refine aq (λg0=>?_) (λg0=>?_)
   ·obtain⟨k,hk⟩:∃k:Nat,(k:Int)=bi d:=⟨(bi d).toNat,ae⟩
    have ea:k<M.length:=ae;obtain⟨pm,cc,a1,a2,F,a3,a4,a5⟩:=(HM.ext ax).at1 rfl (k:=.i64) ea;cases a3;rw[←hk,a1,ah,a2,ah]
    try simp only[go_sem,aO]
    refine bG a8 (by simp) a4.one λcw be ec=>⟨trivial,_,be,?_,a5,ec.fr⟩
    have e0:kE M (k:Int)=M[k]:=by unfold kE;rw[aB ae,dJ,dr,gN ea];rfl
    rw[e0];exact a4.fr ec.fr λc _ hz=>c5 (zl c hz)
   ·refine⟨trivial,.slice none 0 0,a8,?_,⟨_,_,_,rfl,ck _⟩,Fr.refl _ _⟩;have e0:kE M (bi d)=[]:=by
     unfold kE;split
     ·rw[dr,AJ ae];rfl
     ·rfl
    rw[e0];exact Rp.Sl.nil
  ·rintro ys ρ cw ⟨rfl,F,be,ef,cp,f12⟩;have hs:=f12.1;obtain⟨a2,hj,ew⟩:=ef.isSl;have c6:aD F=some (af ((kE M (bi d)).length:Int)):=by rw[ew];rfl
   have eb:aE cw ⟨D,2,none⟩=some F:=ao be;refine bB (λys g=>ys=[]∧g[D]? =some (.cells [af (if kE M (bi d)=[]then v.state else 1),u,F].toArray 69 (0,0))∧Fr (λc=>c=D) cw g) ?_ ?_
   ·simp only[go_sem,aO,eb,c6];refine aq (λg0=>?_) (λg0=>?_)
    ·refine bG be (by simp) rfl λan cr ha=>⟨trivial,?_,ha.fr⟩
     rw[aA (λh0=>by rw[h0]at g0;exact absurd g0 (by simp))];exact cr
    ·refine⟨trivial,?_,Fr.refl _ _⟩;rw[aB (lg ae)];exact be
   ·rintro ys ρ an ⟨rfl,cr,f13⟩;have ho:=f13.1;have ff:Fr (λc=>c=D) W an:=f12.trans f13;have G:∀{b:Nat} {o:Obj},b≠D→g7[b]? =some o→an[b]? =some o:=λh1 r=>ff.row (c3.row (N9.2.1.row r) h1) h1
    have gp:Ext h an:=ax.then_fr ff λc hc=>by rw[show c=D from hc];omega
    have dl:Rp.Sl (Rp.int .i64) (blk u) an u (v.tiles++[bi d]):=fe.fr ff λc _ hc he=>by have:=nu c hc;have he:c=D:=he;omega
    have dz:Rp.Sl w8 Z an F (kE M (bi d)):=ef.fr f13 λc _ hz=>c5 (zl c hz)
    have fz:=G (show b6≠D by omega) r7;have ez:=G (show b3≠D by omega) cu;have eh:=G (show b4≠D by omega) ci;have eg:=G (show b5≠D by omega) cz;refine aQ (Fr (λc=>c=b3) an) (Fr.refl _ _) ?_;refine aF (.agg [af (if kE M (bi d)=[]then v.state else 1),u,F].toArray) (λg f=>aL (l:=[af (if kE M (bi d)=[]then v.state else 1),u,F]) (f.row cr ae) 3 rfl) ?_;refine aF (.agg A.toArray) (λg f=>aL (f.row fz ae) 3 bg) ?_;have hf:∀z:Int,aR #[aj,aj,aj,aj] [(0,1,aJ),(1,1,af z)]=some #[aJ,af z,aj,aj]:=λ_=>rfl
    rw[hf,bH,ah];refine bI (l:=[af (if kE M (bi d)=[]then v.state else 1),u,F]) ez rfl (az rfl (az dl.one (az dz.one aU))) rfl λhp ej bk=>⟨bk.fr,?_⟩
    refine bI (l:=A) (bk.row ae eh) (by rw[bg];rfl) ee bg λbo gs cb=>?_
    have eu:Ext h bo:=(gp.upd ae bk).upd ae cb;have ap:∀{c b:Nat},(Z c∨blk u c)→h.size≤b→b<g7.size→¬c=b:=λhc h1 h2 he=>hc.elim (λh=>by have:=zl _ h;omega) λh=>by have:=nu _ h;omega
    have FF:Fr (λc=>c=b3∨c=b4) an bo:=(bk.fr.mono λc _ hc=>.inl hc).trans (cb.fr.mono λc _ hc=>.inr hc);have ap2:∀c,(Z c∨blk u c)→¬(c=b3∨c=b4):=λc hc h=>h.elim (ap hc ae ae) (ap hc ae ae)
    have RQ:rQ.R (λc=>Z c∨blk u c) bo A (iM d):=(rQ.mono (rQ.fr (rQ.fr (rQ.ext (rQ.ext R6 e7) N9.2.1) (c3.trans ff) λc _ hz=>c5 (zl c hz)) FF λc _ hz=>ap2 c (.inl hz)) λc _ hz=>.inl hz)
    exact ar (Zi:=λc=>Z c∨blk u c) (ev:=(1,bi d,0,0)) (cb.row ae ej) gs (cb.row ae (bk.row ae eg)) eu
     (⟨u,F,rfl,(dl.fr FF λc _ hc=>ap2 c (.inr hc)).mono λc _ hc=>.inr hc,(dz.fr FF λc _ hc=>ap2 c (.inl hc)).mono λc _ hc=>.inl hc,cp⟩:rVD.R _ bo _ ⟨if kE M (bi d)=[]then v.state else 1,v.tiles++[bi d],kE M (bi d)⟩) RQ
     (λc hc=>⟨hc.imp id λh=>by have:=nu c h;omega,ap hc ae ae⟩) (by unfold jI;rw[aA bd,aA au,aA q1,aA q2])
end
end
theorem zbg {h:ai}{Z:Nat→Prop}{v:Value}{l:List (Int×List Int)}(H:Rp.Sl ns Z h v l)(hl:l.length≤1000000000):ag prog Be #[v] h λr h'=>r=af (bT l)∧Ext h h':=by
 apply Q0;unfold FI;obtain⟨av,cv,ev⟩:=H.isSl;have el:aD v=some (af (l.length:Int)):=by rw[ev];rfl
 rw[el,ah];refine bO (α:=Int) l.length 0 (λi s=>[af s,af (i:Int)]) (λi s g=>s=bT (l.take i)∧Ext h g) 0 rfl (bZ _) ⟨rfl,Ext.refl _⟩ λi s g again ρ _ hi E D=>?_
 obtain⟨es,E⟩:=E;simp only[iq,vN];rw[cI,ah];refine aq (λg1=>?_) (λg1=>?_)
 ·have A:i<l.length:=ae;have hm:bT (l.take (i+1))=max s (l[i].2.length:Int):=by rw[jE A,Hh,es]
  have F:(i:Int)+1=((i+1:Nat):Int):=ae;obtain⟨pt,cs,L,I,u,q3,W⟩:=(H.ext E).atw (show 0<2 by omega) (k:=.i64) (i:=i) A;have L:bh 2 v (af (i:Int))=some pt:=L;have I:aM 2 g pt=some (.agg cs.toArray):=I;subst q3;rw[L,ah,I,ah];refine cX (cs:=[af l[i].1,u]) rfl (az rfl (az W.one aU)) rfl λb5 U r5 e5 n5=>?_
  have c1:aE U ⟨b5,1,none⟩=some u:=ao r5;obtain⟨au,cu,eu⟩:=W.isSl;have G:aD u=some (af (l[i].2.length:Int)):=by rw[eu];rfl
  simp only[go_sem,aO,c1,G];refine aq (λg2=>?_) (λg2=>?_)
  ·rw[w64 (n:=(i:Int)+1) ae ae,F];exact D _ U A ⟨by rw[hm];omega,E.trans e5⟩
  ·rw[w64 (n:=(i:Int)+1) ae ae,F];exact D s U A ⟨by rw[hm];omega,E.trans e5⟩
 ·have:i=l.length:=ae;rw[es,this,JF];exact⟨rfl,E⟩
theorem zcC (a b c d e f:Int):aR #[aj,aj,aj,aj,aj,aj,aj,aj,aj,aj] [(0,1,af a),(1,1,af b),(2,1,af c),(3,1,af d),(4,1,af e),(9,1,af f)]=
  some [af a,af b,af c,af d,af e,aj,aj,aj,aj,af f].toArray:=by
 refine(cn (n:=1) (l:=[af a]) rfl rfl (by simp)).trans ?_;refine(cn (n:=1) (l:=[af b]) rfl rfl (by simp[cN])).trans ?_;refine(cn (n:=1) (l:=[af c]) rfl rfl (by simp[cN])).trans ?_;refine(cn (n:=1) (l:=[af d]) rfl rfl (by simp[cN])).trans ?_;refine(cn (n:=1) (l:=[af e]) rfl rfl (by simp[cN])).trans ?_;refine(cn (n:=1) (l:=[af f]) rfl rfl (by simp[cN])).trans ?_;rw[ii];simp[wrL]
def Gn:Rp dc where
 w:=10
 R:=λ_ _ cs t=>∃a b c d,cs=[.int .i64 t.number,.int .i64 t.x,.int .i64 t.y,.int .i64 t.w,.int .i64 t.h,.int .i64 a,.int .i64 b,.int .i64 c,.int .i64 d,.int .i64 t.ring]
 len:=by rintro _ _ _ _ ⟨_,_,_,_,rfl⟩;rfl
 one:=by
  rintro _ _ _ _ ⟨_,_,_,_,rfl⟩;exact az rfl (az rfl (az rfl (az rfl (az rfl (az rfl (az rfl (az rfl (az rfl (az rfl aU)))))))))
 fr:=by rintro _ _ _ _ _ _ h _ _;exact h
 mono:=by rintro _ _ _ _ _ h _;exact h
theorem Ve (d:dC)(k:Nat):dA d (k+1)=dA d k++[aS d k]:=by simp[dA,rK]
theorem zbh {h:ai}{Z:Nat→Prop}{cs:List Value}{d:dC}(K:yP.R Z h cs d.s)(W:d.Wf)(few:∀x∈d.s.x.lines++d.s.y.lines,x.2.length≤1073741824){N:Nat}(hN:(N:Int)=bN d)(ec:N≤4096)(hX:1≤d.X)(hY:1≤d.Y):
  ag prog mu #[.agg cs.toArray,af d.w,af d.h] h λr h'=>New Gn h h' r (dA d N):=by
 apply Tz;unfold IA;obtain⟨X,Y,rfl,HX,HY⟩:=K;have ek:=dC.bd W;have hw:=W.w;have hh:=W.h;unfold fW at hw hh;have pc:=pJ (n:=d.X) (size:=d.w) ae W.w;have pr:=pJ (n:=d.Y) (size:=d.h) ae W.h;obtain⟨A,eA⟩:∃A:Nat,(A:Int)=dQ d:=⟨(dQ d).toNat,by have:=pc.1;unfold dQ;omega⟩
 obtain⟨D,eD⟩:∃D:Nat,(D:Int)=dX d.Y d.h:=⟨(dX d.Y d.h).toNat,by have:=pr.1;omega⟩
 have ea:1≤A:=by have:=pc.2.2 hX;have e:dQ d=dX d.X d.w:=rfl;omega
 have ar:N=D*A:=by
  have:(N:Int)=((D*A:Nat):Int):=by rw[hN,mQ,eA,eD,gv];rfl
  omega
 simp only[bF];refine aI λG h1 r1 e1 n1=>?_
 obtain⟨ax,cx,ex⟩:=HX.isSl;obtain⟨ay,cy,ey⟩:=HY.isSl;have a7:aD X=some (af d.X):=by rw[ex];rfl
 have an:aD Y=some (af d.Y):=by rw[ey];rfl
 have L:∀i:Nat,(i:Int)*d.w<d.X↔i<A:=λi=>by rw[VI hw.1];show(i:Int)<dQ d↔_;omega
 have U:∀j:Nat,(j:Int)*d.h<d.Y↔j<D:=λj=>by rw[VI hh.1];omega
 refine bO (α:=Value) D 0 (λj v=>[v,af ((j:Int)*d.h)]) (λj v g=>New Gn h1 g v (dA d (j*A))) (.slice none 0 0) (by rw[show((0:Nat):Int)*d.h=0 by omega]) (bZ _) (by rw[AR];exact New.nil (Ext.refl _)) λj v g again ρ _ hj NT b6=>?_
 have c1:aE g ⟨G,1,none⟩=some Y:=ao (NT.2.1.row r1);simp only[iq,vN,go_sem,aO,c1,an];refine aq (λg1=>?_) (λg1=>?_)
 ·have bk:j<D:=(U j).1 g1;have b5:(j+1)*A≤N:=by rw[ar];exact gO _ bk
  rw[fb,uv]at b5;have ee:0≤(j:Int)*d.h:=mR ae ae;refine bO (α:=Value) A 0 (λi v=>[v,af ((i:Int)*d.w)]) (λi v g=>New Gn h1 g v (dA d (j*A+i))) v (by rw[show((0:Nat):Int)*d.w=0 by omega]) (bZ _) NT λi v2 g2 b3 ρ2 _ hi N2 au=>?_
  have c0:aE g2 ⟨G,0,none⟩=some X:=ao (N2.2.1.row r1);simp only[iq,vN,go_sem,aO,c0,a7];refine aq (λg3=>?_) (λg3=>?_)
  ·have al:i<A:=(L i).1 g3;have ep:0≤(i:Int)*d.w:=mR ae ae;obtain⟨a2,ej,e2⟩:=N2.sl.isSl;have aa:(dA d (j*A+i)).length=j*A+i:=by simp[dA]
   have ci:aD v2=some (af ((j*A+i:Nat):Int)):=by rw[e2,aa];rfl
   have c4:aE g2 ⟨G,1,none⟩=some Y:=ao (N2.2.1.row r1);simp only[ci,ah,go_sem,aO,c4];refine(zbg (HY.ext (e1.trans N2.2.1)) (by have e:d.Y=d.s.y.lines.length:=rfl;omega)).mono λrr g4 ⟨er,e4⟩=>?_
   subst er;have N4:=N2.ext e4;have c8:=N4.2.1.row r1;rw[zcC,bH,ah];have b0:∀a b c d' e f g k l m:Int,∀v∈[af a,af b,af c,af d',af e,af f,af g,af k,af l,af m],aV v=true:=λ_ _ _ _ _ _ _ _ _ _=>az rfl (az rfl (az rfl (az rfl (az rfl (az rfl (az rfl (az rfl (az rfl (az rfl aU)))))))))
   refine aI λbt g5 r5 e5 n5=>?_
   refine bI r5 rfl (b0 _ _ _ _ _ _ _ _ _ _) rfl λg6 r6 u6=>?_
   have eh:=N4.2.1.1;have eu:=e5.1;have eb:=u6.1;have ei:=aW r1;have cp:g4.size≤bt:=n5;have a8:g6[G]? =some (.cells [X,Y,af d.s.x.n,af d.s.y.n,af d.s.border].toArray 38 (0,0)):=u6.row ae (e5.row c8);have E6:Ext g4 g6:=e5.upd cp u6;have c7:aE g6 ⟨G,0,none⟩=some X:=ao a8
   -- the width
   have hH:(aS d ((j*A+i:Nat):Int)).y=(j:Int)*d.h∧(aS d ((j*A+i:Nat):Int)).h=min d.h (d.Y-(j:Int)*d.h):=by
    have q:((j*A+i:Nat):Int)/dQ d=(j:Int):=by
     rw[←eA,←Int.natCast_ediv]
     congr 1
     rw[fG,T5 ae,uw al,ic]
    constructor
    ·show kQ d _=_;unfold kQ;rw[q]
    ·show xL d _=_;unfold xL kQ;rw[q]
   have hq:((j*A+i:Nat):Int)%dQ d=(i:Int):=by
    rw[←eA,←Int.natCast_emod]
    congr 1
    rw[fG,MZ,xf al]
   have c2:(aS d ((j*A+i:Nat):Int)).x=(i:Int)*d.w:=by
    show kw d _=_;unfold kw;rw[hq]
   have I:(aS d ((j*A+i:Nat):Int)).w=min d.w (d.X-(i:Int)*d.w):=by
    show vh d _=_;unfold vh kw;rw[hq]
   refine bB (λxs g=>xs=[]∧g[bt]? =some (.cells [af ((j*A+i:Nat):Int),af ((i:Int)*d.w),af ((j:Int)*d.h),af (aS d ((j*A+i:Nat):Int)).w,af d.h,aj,aj,aj,aj,af (bT d.s.y.lines)].toArray 59 (0,0))∧Fr (λc=>c=bt) g6 g) ?_ ?_
   ·simp only[go_sem,aO,c7,a7];rw[w64 (n:=(i:Int)*d.w+d.w) ae ae];refine aq (λH=>?_) (λH=>?_)
    ·rw[w64 (n:=d.X-(i:Int)*d.w) ae ae];refine bG r6 (by simp) rfl λg7 r7 u7=>⟨trivial,?_,u7.fr⟩
     rw[I,show min d.w (d.X-(i:Int)*d.w)=d.X-(i:Int)*d.w by omega];exact r7
    ·refine⟨trivial,?_,Fr.refl _ _⟩;rw[I,show min d.w (d.X-(i:Int)*d.w)=d.w by omega];exact r6
   rintro xs ρ7 g7 ⟨rfl,r7,f7⟩;have ef:=f7.1;have bo:=f7.row a8 (show¬G=bt by omega);have dl:aE g7 ⟨G,1,none⟩=some Y:=ao bo
   -- the height
   refine bB (λxs g=>xs=[]∧g[bt]? =some (.cells [af ((j*A+i:Nat):Int),af ((i:Int)*d.w),af ((j:Int)*d.h),af (aS d ((j*A+i:Nat):Int)).w,af (aS d ((j*A+i:Nat):Int)).h,aj,aj,aj,aj,af (bT d.s.y.lines)].toArray 59 (0,0))∧Fr (λc=>c=bt) g7 g) ?_ ?_
   ·simp only[go_sem,aO,dl,an];rw[w64 (n:=(j:Int)*d.h+d.h) ae ae];refine aq (λH=>?_) (λH=>?_)
    ·rw[w64 (n:=d.Y-(j:Int)*d.h) ae ae];refine bG r7 (by simp) rfl λg9 r9 u9=>⟨trivial,?_,u9.fr⟩
     rw[hH.2,show min d.h (d.Y-(j:Int)*d.h)=d.Y-(j:Int)*d.h by omega];exact r9
    ·refine⟨trivial,?_,Fr.refl _ _⟩;rw[hH.2,show min d.h (d.Y-(j:Int)*d.h)=d.h by omega];exact r7
   rintro xs ρ8 H ⟨rfl,r8,f8⟩;have es:=f8.1;have F8:Fr (λc=>c=bt) g6 H:=f7.trans f8;have E8:Ext g4 H:=E6.then_fr F8 λc hc=>by have hc:c=bt:=hc;omega
   have be:=f8.row bo (show¬G=bt by omega);have cc:aE H ⟨G,0,none⟩=some X:=ao be;have ca:aE H ⟨bt,3,none⟩=some (af (aS d ((j*A+i:Nat):Int)).w):=ao r8;simp only[go_sem,aO,cc,ca];refine(Mj ((HX.ext e1).ext (N4.2.1.trans E8)) (by have e:d.X=d.s.x.lines.length:=rfl;omega) λx hx=>few x (MX _ hx)).mono λrr g9 ⟨⟨x1,y1,z1,er⟩,e9⟩=>?_
   subst er;have x0:∀x y:Int,∀z,aP (.tuple #[af x,af y,.bool z]) 0=some (af x):=λ_ _ _=>rfl
   have b2:∀x y:Int,∀z,aP (.tuple #[af x,af y,.bool z]) 1=some (af y):=λ_ _ _=>rfl
   have bv:∀x y:Int,∀z,aP (.tuple #[af x,af y,.bool z]) 2=some (.bool z):=λ_ _ _=>rfl
   have bg:=e9.row r8;have b4:aE g9 ⟨G,1,none⟩=some Y:=ao (e9.row be);have c6:aE g9 ⟨bt,4,none⟩=some (af (aS d ((j*A+i:Nat):Int)).h):=ao bg;simp only[go_sem,aO,x0,b2,bv,b4,c6];refine(Mj ((HY.ext e1).ext (N4.2.1.trans (E8.trans e9))) (by have e:d.Y=d.s.y.lines.length:=rfl;omega) λx hx=>few x (List.mem_append_right _ hx)).mono λrr cb ⟨⟨x3,y3,z3,er⟩,ad⟩=>?_
   subst er;have ew:=e9.1;have dq:=ad.1;simp only[go_sem,aO,x0,b2,bv];refine bG (ad.row bg) (by simp) rfl λem c3 cu=>?_
   try simp only[go_sem,aO]
   refine bG c3 (by simp) rfl λeg b8 cz=>?_
   try simp only[go_sem,aO]
   refine bG b8 (by simp) rfl λet ct c9=>?_
   try simp only[go_sem,aO]
   refine bG ct (by simp) rfl λa9 am c5=>?_
   have cw:Fr (λc=>c=bt) cb a9:=cu.fr.trans (cz.fr.trans (c9.fr.trans c5.fr));have cr:Ext g4 a9:=(E8.trans (e9.trans ad)).then_fr cw λc hc=>by have hc:c=bt:=hc;omega
   rw[aL (l:=[af ((j*A+i:Nat):Int),af ((i:Int)*d.w),af ((j:Int)*d.h),af (aS d ((j*A+i:Nat):Int)).w,af (aS d ((j*A+i:Nat):Int)).h,af x1,af x3,af (IntKind.i64.wrap (y1-x1)),af (IntKind.i64.wrap (y3-x3)),af (bT d.s.y.lines)]) am 10 rfl,ah];have F:=N4.ext cr;refine Rp.push_ow (e:=Gn) (x:=aS d ((j*A+i:Nat):Int)) F.1 ⟨_,_,_,_,by rw[hH.1,c2];rfl⟩ rfl rfl (by rw[aa];omega) (by rw[aa];omega) (λ_ h=>h.elim) λv4 b7 o4 f4 n4=>?_
   have dz:=F.2.1.1;have e3:(i:Int)*d.w+d.w=((i+1:Nat):Int)*d.w:=by rw[MW,jX];simp
   try simp only[go_sem]
   rw[w64 (n:=(i:Int)*d.w+d.w) ae ae,e3];refine au v4 b7 al ⟨?_,F.2.1.then_fr f4 F.2.2,λc hc=>(n4 c hc).elim (F.2.2 c) λh=>ae⟩;rw[←vG,Ve];exact o4
  ·have:i=A:=by
    have:=mt (L i).2 g3;omega
   subst this;have e3:(j:Int)*d.h+d.h=((j+1:Nat):Int)*d.h:=by rw[MW,jX];simp
   rw[w64 (n:=(j:Int)*d.h+d.h) ae ae,e3];refine b6 v2 g2 bk ?_;rw[fb,uv];exact N2
 ·have:j=D:=by
   have:=mt (U j).2 g1;omega
  subst this;rw[ar];exact⟨NT.1,e1.trans NT.2.1,λc hc=>bA e1.1 (NT.2.2 c hc)⟩
end Go.Proofs.YtjljhnandbbldaaGreatDoor
namespace Go.Proofs.YtjljhnandbbldaaGreatDoor
open Go Go.Crisp
attribute [local irreducible] ag cO aT stK aG vK qK bL gK eM bC mkK cR HA JA Ep bsK clK vu pP Zb
def lY (E:WE):Option (dc×Int×Int)→List (Int×Int)
 |none=>[]
 |some (t,y,e)=>ut (E.d t) y e
def vOf (E:WE)(w:WD):VD:=⟨w.state,w.tiles,lY E w.job⟩
def joP (C:C21)(x:Int):Option (dc×Int×Int):=if 0≤x∧x<bN C.d then some (Ma C.d x)else none
def fR (C:C21)(N:Nat):List (List (Int×Int)):=(List.range N).map λi:Nat=>lY C.E (some (Ma C.d i))
theorem Hd {d:fS}{y e:Int}:ut d y e=[]↔bP d y e=0:=by
 rw[←Wq,←Sf];constructor
 ·intro h;rw[h];rfl
 ·exact lg
theorem L6 {E:WE}{jo:Option (dc×Int×Int)}:lY E (cE (some E) jo)=lY E jo∧stJ (cE (some E) jo)=if lY E jo=[]then 0 else 1:=by
 cases jo with
 |none=>exact⟨rfl,rfl⟩
 | some x=>
  obtain⟨t,y,e⟩:=x;by_cases h:bP (E.d t) y e=0
  ·have D:cE (some E) (some (t,y,e))=none:=aB h;have A:lY E (some (t,y,e))=[]:=Hd.2 h;rw[D,A];exact⟨rfl,rfl⟩
  ·have D:cE (some E) (some (t,y,e))=some (t,y,e):=aA h;rw[D,aA (show¬lY E (some (t,y,e))=[]from λA=>h (Hd.1 A))];exact⟨rfl,rfl⟩
theorem zd4 {C:C21}{N:Nat}(A:(N:Int)=bN C.d)(x:Int):kE (fR C N) x=lY C.E (joP C x):=by
 unfold kE joP;by_cases h0:0≤x
 ·rw[aB h0];obtain⟨k,rfl⟩:∃k:Nat,x=(k:Int):=⟨x.toNat,ae⟩
  rw[dJ,dr];by_cases h1:k<N
  ·rw[aB ⟨h0,ae⟩];unfold fR;rw[vH,T4 h1];rfl
  ·rw[aA ae];unfold fR;rw[AJ (by simp;omega)];rfl
 ·rw[aA h0,aA ae];rfl
theorem zau {C:C21}{N:Nat}(U:(N:Int)=bN C.d){w:WD}{d:QD}(h1:(w.state=1∧pV (some C.E) w.job∧w.tiles≠[])∨((w.state=0∨w.state=2)∧w.job=none))(he:∀t y e,w.job=some (t,y,e)→e≤lnE C.d.s.y y):
  jI (fR C N) (vOf C.E w) d=(vOf C.E (cD (some C.E) (joP C (bi d)) w d).1,(cD (some C.E) (joP C (bi d)) w d).2.1,(cD (some C.E) (joP C (bi d)) w d).2.2):=by
 have F:bX d≠0→iM d=d:=by
  intro h;unfold bX at h;split at h
  ·rename_i D;unfold iM;rw[D];cases d
   simp_all
  ·exact absurd rfl h
 obtain⟨st,tl,jo,A⟩:=w;rcases h1 with⟨h1,D,h3⟩|⟨h1,D⟩
 ·have h1:st=1:=h1;subst h1;cases jo with
  |none=>exact D.elim
  |some x=>
   obtain⟨t,y,e⟩:=x;have W:bP (C.E.d t) y e≠0:=D;have L:=XZ (d:=C.E.d t) W (he t y e rfl);obtain⟨H,I⟩:=L6 (E:=C.E) (jo:=some (t,eJ (C.E.d t) y e,fV (C.E.d t) y e));have L:lY C.E (some (t,y,e))=(bP (C.E.d t) y e,eT (C.E.d t) y e)::ut (C.E.d t) (eJ (C.E.d t) y e) (fV (C.E.d t) y e):=L;have a1:jI (fR C N) (vOf C.E ⟨1,tl,some (t,y,e),A⟩) d=(⟨if(lY C.E (some (t,y,e))).tail=[]then 0 else 1,tl,(lY C.E (some (t,y,e))).tail⟩,d,(2,tl.getLast?.getD 0,((lY C.E (some (t,y,e))).headD (0,0)).1,((lY C.E (some (t,y,e))).headD (0,0)).2)):=rfl;have a2:cD (some C.E) (joP C (bi d)) ⟨1,tl,some (t,y,e),A⟩ d=(⟨stJ (cE (some C.E) (some (t,eJ (C.E.d t) y e,fV (C.E.d t) y e))),tl,cE (some C.E) (some (t,eJ (C.E.d t) y e,fV (C.E.d t) y e)),A⟩,d,(2,tl.getLast?.getD 0,bP (C.E.d t) y e,eT (C.E.d t) y e)):=rfl;rw[a1,a2,L];unfold vOf;simp only[List.tail_cons,List.headD_cons,H,I];rfl
 ·have D:jo=none:=D;subst D;have h1:st=0∨st=2:=h1;rcases h1 with rfl|rfl
  ·obtain⟨H,I⟩:=L6 (E:=C.E) (jo:=joP C (bi d));have hl:=zd4 U (bi d);have a1:jI (fR C N) (vOf C.E ⟨0,tl,none,A⟩) d=if bX d=1 then(vOf C.E ⟨0,tl,none,A⟩,d,(0,0,0,0))else if bX d=2 then(vOf C.E ⟨2,tl,none,A⟩,d,(3,0,0,0))else(⟨if kE (fR C N) (bi d)=[]then 0 else 1,tl++[bi d],kE (fR C N) (bi d)⟩,iM d,(1,bi d,0,0)):=rfl;have a2:cD (some C.E) (joP C (bi d)) ⟨0,tl,none,A⟩ d=if bX d=0 then(BA (some C.E) ⟨0,tl,none,A⟩ (bi d) (joP C (bi d)),iM d,(1,bi d,0,0))else if bX d=2 then(⟨2,tl,none,A⟩,iM d,(3,0,0,0))else(⟨0,tl,none,A⟩,iM d,(0,0,0,0)):=rfl;rw[a1,a2];by_cases G:bX d=0
   ·rw[aA ae,aA ae,aB G];unfold BA vOf;simp only[hl,H,I]
   ·rw [aA G];by_cases r2:bX d=2
    ·rw[aA ae,aB r2,aB r2,F G]
    ·have r1:bX d=1:=by
      have hh:bX d=0∨bX d=1∨bX d=2:=by
       unfold bX;split
       ·split<;>simp
       ·simp
      omega
     rw[aB r1,aA r2,F G]
  ·rfl
end Go.Proofs.YtjljhnandbbldaaGreatDoor
namespace Go.Proofs.YtjljhnandbbldaaGreatDoor
open Go Go.Crisp
attribute [local irreducible] ag cO aT stK aG vK qK bL gK eM bC mkK cR HA JA Ep bsK clK vu pP Zb
open _root_.Go.Proofs.Tryz
section
def By (g:ai)(T:TypeId)(z:List Value)(p:Nat×Option (List Value)):Prop:=g[p.1]? =some (.cells (p.2.getD z).toArray T (0,0))
abbrev zA:List Value:=[.int .i64 0,.slice none 0 0,.slice none 0 0]
abbrev zB:List Value:=[.int .i64 0,.slice none 0 0,.bool false]
abbrev zC:List Value:=[.int .i64 0,.int .i64 0,.int .i64 0,.int .i64 0]
abbrev VO:=Option (Nat×Option (List Value))
structure jd (Z:Nat→Prop)(h0:ai)(v:VD)(d:QD)(R:Option (List Value×List Value))(a b c:VO)(g:ai):Prop where
 ext:Ext h0 g
 res:∀p,R=some p→∃Zr:Nat→Prop,rVD.R Zr g p.1 v∧rQ.R Zr g p.2 d∧∀k,Zr k→(Z k∨h0.size≤k)∧k<g.size∧(∀q,a=some q→k≠q.1)∧(∀q,b=some q→k≠q.1)∧∀q,c=some q→k≠q.1
 va:∀q,a=some q→h0.size≤q.1∧By g 69 zA q
 vb:∀q,b=some q→h0.size≤q.1∧By g 43 zB q
 vc:∀q,c=some q→h0.size≤q.1∧By g 200 zC q
 ab:∀p q,a=some p→b=some q→p.1≠q.1
 ac:∀p q,a=some p→c=some q→p.1≠q.1
 bc:∀p q,b=some p→c=some q→p.1≠q.1
section
variable {Z:Nat→Prop}{h0 g:ai}{v:VD}{d:QD}{R:Option (List Value×List Value)}{a b c:VO}{K:Value→ai→Prop}
theorem jd.start (Z:Nat→Prop)(h:ai)(v:VD)(d:QD):jd Z h v d none none none none h:=⟨Ext.refl _,by simp,by simp,by simp,by simp,by simp,by simp,by simp⟩
theorem By.lt {T:TypeId}{z:List Value}{p:Nat×Option (List Value)}(H:By g T z p):p.1<g.size:=aW H
theorem By.ext {A:ai}{T:TypeId}{z:List Value}{p:Nat×Option (List Value)}(H:By g T z p)(e:Ext g A):By A T z p:=e.row H
theorem jd.call {mv:Value}{M:List (List (Int×Int))}{cs ds:List Value}{D:VD}{d0:QD}(S:jd Z h0 (jI M D d0).1 (jI M D d0).2.1 none a b c g)(HV:rVD.R Z h0 cs D)(L:rQ.R Z h0 ds d0)(U:Rp.Sl XK Z h0 mv M)(zl:∀c,Z c→c<h0.size)(h1:D.state=1→D.tiles≠[]∧D.left≠[])(ht:D.tiles.length≤1000000)
  (H:∀F G I,jd Z h0 (jI M D d0).1 (jI M D d0).2.1 (some (F,G)) a b c I→K (.tuple #[.agg F.toArray,.agg G.toArray,evV (jI M D d0).2.2]) I):ag prog gb #[.agg cs.toArray,.agg ds.toArray,mv] g K:=by
 have hs:=S.ext.1;refine(zbe (rVD.ext HV S.ext) (rQ.ext L S.ext) (U.ext S.ext) (λc hc=>ce (zl c hc) hs) h1 ht).mono λr I ⟨F,G,er,R1,R2,e⟩=>?_
 subst er;have lt:∀(T:TypeId) (z:List Value) (q:Nat×Option (List Value)),h0.size≤q.1→By g T z q→∀k,(Z k∨(g.size≤k∧k<I.size))→k≠q.1:=λT z q hq hv k A he=>by
  have:=hv.lt;rcases A with A|A
  ·have:=zl k A;omega
  ·omega
 refine H F G I ⟨S.ext.trans e,λp W=>?_,λq hq=>⟨(S.va q hq).1,(S.va q hq).2.ext e⟩,λq hq=>⟨(S.vb q hq).1,(S.vb q hq).2.ext e⟩,λq hq=>⟨(S.vc q hq).1,(S.vc q hq).2.ext e⟩,S.ab,S.ac,S.bc⟩;cases W;refine⟨_,R1,R2,λk A=>⟨A.imp id λh=>ae,?_,λq hq=>lt _ _ q (S.va q hq).1 (S.va q hq).2 k A,λq hq=>lt _ _ q (S.vb q hq).1 (S.vb q hq).2 k A,λq hq=>lt _ _ q (S.vc q hq).1 (S.vc q hq).2 k A⟩⟩;rcases A with A|A
 ·have:=zl k A;have:=e.1;omega
 ·exact A.2
theorem jd.new_a (S:jd Z h0 v d R none b c g)(H:∀x D,jd Z h0 v d R (some (x,none)) b c D→K (ptr x) D):aT zA.toArray 69 g K:=by
 have L:=S.ext.1;refine aI λx D r e n=>H x D ⟨S.ext.trans e,λp A=>?_,λq hq=>?_,λq hq=>⟨(S.vb q hq).1,(S.vb q hq).2.ext e⟩,λq hq=>⟨(S.vc q hq).1,(S.vc q hq).2.ext e⟩,λp q A hq=>?_,λp q A hq=>?_,S.bc⟩
 ·obtain⟨I,r1,r2,F⟩:=S.res p A;exact⟨I,rVD.ext r1 e,rQ.ext r2 e,λk G=>⟨(F k G).1,ce (F k G).2.1 e.1,λq hq=>by cases hq;have:=(F k G).2.1;show k≠x;omega,(F k G).2.2.2⟩⟩
 ·cases hq;exact⟨bA L n,r⟩
 ·cases A;have:=(S.vb q hq).2.lt;show x≠q.1;omega
 ·cases A;have:=(S.vc q hq).2.lt;show x≠q.1;omega
theorem jd.new_b (S:jd Z h0 v d R a none c g)(H:∀x G,jd Z h0 v d R a (some (x,none)) c G→K (ptr x) G):aT zB.toArray 43 g K:=by
 have L:=S.ext.1;refine aI λx G r e n=>H x G ⟨S.ext.trans e,λp A=>?_,λq hq=>⟨(S.va q hq).1,(S.va q hq).2.ext e⟩,λq hq=>?_,λq hq=>⟨(S.vc q hq).1,(S.vc q hq).2.ext e⟩,λp q A hq=>?_,S.ac,λp q A hq=>?_⟩
 ·obtain⟨I,r1,r2,D⟩:=S.res p A;exact⟨I,rVD.ext r1 e,rQ.ext r2 e,λk F=>⟨(D k F).1,ce (D k F).2.1 e.1,(D k F).2.2.1,λq hq=>by cases hq;have:=(D k F).2.1;show k≠x;omega,(D k F).2.2.2.2⟩⟩
 ·cases hq;exact⟨bA L n,r⟩
 ·cases hq;have:=(S.va p A).2.lt;show p.1≠x;omega
 ·cases A;have:=(S.vc q hq).2.lt;show x≠q.1;omega
theorem jd.new_c (S:jd Z h0 v d R a b none g)(H:∀x G,jd Z h0 v d R a b (some (x,none)) G→K (ptr x) G):aT zC.toArray 200 g K:=by
 have L:=S.ext.1;refine aI λx G r e n=>H x G ⟨S.ext.trans e,λp A=>?_,λq hq=>⟨(S.va q hq).1,(S.va q hq).2.ext e⟩,λq hq=>⟨(S.vb q hq).1,(S.vb q hq).2.ext e⟩,λq hq=>?_,S.ab,λp q A hq=>?_,λp q A hq=>?_⟩
 ·obtain⟨I,r1,r2,D⟩:=S.res p A;exact⟨I,rVD.ext r1 e,rQ.ext r2 e,λk F=>⟨(D k F).1,ce (D k F).2.1 e.1,(D k F).2.2.1,(D k F).2.2.2.1,λq hq=>by cases hq;have:=(D k F).2.1;show k≠x;omega⟩⟩
 ·cases hq;exact⟨bA L n,r⟩
 ·cases hq;have:=(S.va p A).2.lt;show p.1≠x;omega
 ·cases hq;have:=(S.vb p A).2.lt;show p.1≠x;omega
theorem jd.keep {x:Nat}{L:ai}{R:List Value×List Value}{a' b' c':VO}(S:jd Z h0 v d (some R) a b c g)(u:Upd x g L)(hx:h0.size≤x)(nr:(∃q,a=some q∧q.1=x)∨(∃q,b=some q∧q.1=x)∨(∃q,c=some q∧q.1=x))(ha:∀q,a'=some q→∃A,a=some A∧A.1=q.1)(hb:∀q,b'=some q→∃A,b=some A∧A.1=q.1)(hc:∀q,c'=some q→∃A,c=some A∧A.1=q.1)
  (va:∀q,a'=some q→By L 69 zA q) (vb:∀q,b'=some q→By L 43 zB q) (vc:∀q,c'=some q→By L 200 zC q):jd Z h0 v d (some R) a' b' c' L:=by
 have hs:=u.1;refine⟨S.ext.upd hx u,λp I=>?_,λq hq=>⟨?_,va q hq⟩,λq hq=>⟨?_,vb q hq⟩,λq hq=>⟨?_,vc q hq⟩,λp q I hq=>?_,λp q I hq=>?_,λp q I hq=>?_⟩
 ·obtain⟨Zr,r1,r2,H⟩:=S.res p I;have aa:∀k,Zr k→¬k=x:=λk G he=>by
   rcases nr with⟨q,D,F⟩|⟨q,D,F⟩|⟨q,D,F⟩
   ·exact(H k G).2.2.1 q D (he.trans F.symm)
   ·exact(H k G).2.2.2.1 q D (he.trans F.symm)
   ·exact(H k G).2.2.2.2 q D (he.trans F.symm)
  refine⟨Zr,rVD.fr r1 u.fr λk _ G=>aa k G,rQ.fr r2 u.fr λk _ G=>aa k G,λk G=>⟨(H k G).1,by rw[hs];exact(H k G).2.1,λq hq=>?_,λq hq=>?_,λq hq=>?_⟩⟩
  ·obtain⟨A,D,F⟩:=ha q hq;rw[←F];exact(H k G).2.2.1 A D
  ·obtain⟨A,D,F⟩:=hb q hq;rw[←F];exact(H k G).2.2.2.1 A D
  ·obtain⟨A,D,F⟩:=hc q hq;rw[←F];exact(H k G).2.2.2.2 A D
 ·obtain⟨A,D,F⟩:=ha q hq;rw[←F];exact(S.va A D).1
 ·obtain⟨A,D,F⟩:=hb q hq;rw[←F];exact(S.vb A D).1
 ·obtain⟨A,D,F⟩:=hc q hq;rw[←F];exact(S.vc A D).1
 ·obtain⟨U,D,F⟩:=ha p I;obtain⟨A,e3,W⟩:=hb q hq;rw[←F,←W];exact S.ab U A D e3
 ·obtain⟨U,D,F⟩:=ha p I;obtain⟨A,e3,W⟩:=hc q hq;rw[←F,←W];exact S.ac U A D e3
 ·obtain⟨U,D,F⟩:=hb p I;obtain⟨A,e3,W⟩:=hc q hq;rw[←F,←W];exact S.bc U A D e3
theorem jd.st_a {x y z:Nat}{cs ds:List Value}(S:jd Z h0 v d (some (cs,ds)) (some (x,none)) (some (y,none)) (some (z,none)) g)(H:∀A,jd Z h0 v d (some (cs,ds)) (some (x,some cs)) (some (y,none)) (some (z,none)) A→K undef A):stK 3 (ptr x) (.agg cs.toArray) g K:=by
 obtain⟨a1,a2⟩:=S.va _ rfl;obtain⟨D,r1,r2,_⟩:=S.res _ rfl;have d1:x≠y:=S.ab _ _ rfl rfl;have d2:x≠z:=S.ac _ _ rfl rfl;refine bI (l:=cs) a2 (by rw[rVD.len r1];rfl) (rVD.one r1) (rVD.len r1) λA r u=>H A (S.keep u a1 (.inl ⟨_,rfl,rfl⟩) (λq hq=>by cases hq;exact⟨_,rfl,rfl⟩) (λq hq=>⟨q,hq,rfl⟩) (λq hq=>⟨q,hq,rfl⟩) (λq hq=>by cases hq;exact r) (λq hq=>by cases hq;exact u.row d1.symm (S.vb _ rfl).2) (λq hq=>by cases hq;exact u.row d2.symm (S.vc _ rfl).2))
theorem jd.st_b {x y z:Nat}{cs ds:List Value}(S:jd Z h0 v d (some (cs,ds)) (some (x,some cs)) (some (y,none)) (some (z,none)) g)(H:∀A,jd Z h0 v d (some (cs,ds)) (some (x,some cs)) (some (y,some ds)) (some (z,none)) A→K undef A):stK 3 (ptr y) (.agg ds.toArray) g K:=by
 obtain⟨a1,a2⟩:=S.vb _ rfl;obtain⟨D,r1,r2,_⟩:=S.res _ rfl;have d1:x≠y:=S.ab _ _ rfl rfl;have d2:y≠z:=S.bc _ _ rfl rfl;refine bI (l:=ds) a2 (by rw[rQ.len r2];rfl) (rQ.one r2) (rQ.len r2) λA r u=>H A (S.keep u a1 (.inr (.inl ⟨_,rfl,rfl⟩)) (λq hq=>⟨q,hq,rfl⟩) (λq hq=>by cases hq;exact⟨_,rfl,rfl⟩) (λq hq=>⟨q,hq,rfl⟩) (λq hq=>by cases hq;exact u.row d1 (S.va _ rfl).2) (λq hq=>by cases hq;exact r) (λq hq=>by cases hq;exact u.row d2.symm (S.vc _ rfl).2))
theorem jd.st_c {x y z:Nat}{cs ds:List Value}{ev:EvD}(S:jd Z h0 v d (some (cs,ds)) (some (x,some cs)) (some (y,some ds)) (some (z,none)) g)(H:∀A,jd Z h0 v d (some (cs,ds)) (some (x,some cs)) (some (y,some ds)) (some (z,some [af ev.1,af ev.2.1,af ev.2.2.1,af ev.2.2.2])) A→K undef A):stK 4 (ptr z) (evV ev) g K:=by
 obtain⟨a1,a2⟩:=S.vc _ rfl;have d1:x≠z:=S.ac _ _ rfl rfl;have d2:y≠z:=S.bc _ _ rfl rfl;refine bI (l:=[af ev.1,af ev.2.1,af ev.2.2.1,af ev.2.2.2]) a2 rfl (az rfl (az rfl (az rfl (az rfl aU)))) rfl λA r u=>H A (S.keep u a1 (.inr (.inr ⟨_,rfl,rfl⟩)) (λq hq=>⟨q,hq,rfl⟩) (λq hq=>⟨q,hq,rfl⟩) (λq hq=>by cases hq;exact⟨_,rfl,rfl⟩) (λq hq=>by cases hq;exact u.row d1 (S.va _ rfl).2) (λq hq=>by cases hq;exact u.row d2 (S.vb _ rfl).2) (λq hq=>by cases hq;exact r))
end
end
end Go.Proofs.YtjljhnandbbldaaGreatDoor
namespace Go.Crisp
open Go
open _root_.Go.Proofs.YtjljhnandbbldaaGreatDoor
theorem kc.push1 {α:Type}{e:Rp α}{z z' c:Value}{t t':TypeId}{bytes:Nat}{h h1:ai}{v:Value}{l:List α}{x:α}{Y:Nat→Prop}{K:Value→ai→Prop}(W:e.w=1)(H:kc e h h1 v l)
  (hx:e.R Y h1 [c] x) (hY:∀b,Y b→h.size≤b∧b<h1.size∧¬blk v b) (D:z.cells.size=1) (A:(l.length+1)*bytes≤140737488355328) (hn:l.length+1≤9223372036854775807)
  (HK:∀F h',kc e h h' F (l++[x])→K F h'):cO #[z'] t 1 [(0,1,c)] h1 λU h3=>cR z t' 1 bytes v U h3 K:=by
 obtain⟨Z,o,ex,n,zf⟩:=H;have L:∀b,blk v b→¬Z b:=by obtain⟨ds,_,d,_⟩:=o;exact d
 have o2:Rp.Ow e (λb=>Z b∨Y b) h1 v l:=o.mono (λb _ A=>.inl A) λb A D=>by
  rcases D with D|D
  ·exact L b A D
  ·exact(hY b D).2.2 A
 refine Rp.push_ow1 W o2 (e.mono hx λb _ A=>.inr A) D A hn (λb A=>?_) λF h' o' I n'=>HK F h' ⟨λb=>Z b∨Y b,o',ex.then_fr I n,λb A=>?_,λb A=>?_⟩
 ·rcases A with A|A
  ·exact(zf b A).2
  ·exact(hY b A).2.1
 ·rcases n' b A with G|G
  ·exact n b G
  ·exact bA ex.1 G
 ·have hl:=I.1;rcases A with A|A
  ·have:=zf b A;omega
  ·have:=hY b A;omega
end Go.Crisp
namespace Go.Proofs.YtjljhnandbbldaaGreatDoor
open Go Go.Crisp
attribute [local irreducible] ag cO aT stK aG vK qK bL gK eM bC mkK cR HA JA Ep bsK clK vu pP Zb
theorem V7 (C:C21)(k:Nat):fR C (k+1)=fR C k++[lY C.E (some (Ma C.d k))]:=by simp[fR,rK]
theorem Cj (C:C21):∀a b i:Nat,gI C (a+b) i=gI C a i+gI C b (i+a)
 |0,b,i=>by rw[aO,ic];show _=0+_;omega
 |a+1,b,i=>by
  have h:=Cj C a b (i+1);rw[show a+1+b=(a+b)+1 by omega];show lR C i+gI C (a+b) (i+1)=lR C i+gI C a (i+1)+_;rw[h,show i+1+a=i+(a+1)by omega];omega
section
theorem zaR {E:WE}{jo:Option (dc×Int×Int)}(h:pV (some E) jo):lY E jo≠[]:=by
 cases jo with
 |none=>exact(show False from h).elim
 |some x=>exact λh1=>(show bP (E.d x.1) x.2.1 x.2.2≠0 from h) (Hd.1 h1)
theorem IsW.job_e {Z B:Nat→Prop}{h:ai}{bw:Nat}{E:WE}{n:Pic}{w:WD}(H:IsW Z B h bw (some E) n w):∀t y e,w.job=some (t,y,e)→e≤lnE E.s.y y:=by
 obtain⟨⟨tv,L,I,r,o,J,_⟩,_,_,_,_,_,st⟩:=H;intro t y e F;rw[F]at J st;obtain⟨G,D,ok,hc,bj,rv,_,S⟩:=J;cases D;obtain⟨⟨M,rs,_,_,k⟩,_⟩:=S;rcases st with⟨_,A,_⟩|⟨_,h⟩
 ·have A:bP (E.d t) y e≠0:=A;unfold bP at A;split at A
  ·exact absurd rfl A
  ·exact(k ae).2.2
 ·cases h
section
variable {a:Bool}{C:C21}{Z X Zd:Nat→Prop}{N:Nat}{h0 h:ai}{mv:Value}{bQ bW bV:Nat}{TW TV:TypeId}{n:Pic}{ba bb:Nat}{wa wb:WD}{q:QD}
end
end
theorem Vm {E:Option WE}{jo:Option (dc×Int×Int)}{w:WD}{d:QD}:(cD E jo w d).1.tiles.length≤w.tiles.length+1:=by
 obtain⟨st,tl,j,A⟩:=w;unfold cD;split
 ·split
  ·exact MV _
  ·exact MV _
 ·split
  ·exact MV _
  ·split
   ·simp[BA]
   ·split<;>exact MV _
theorem YT {t m:Int}(h:B8 t)(D:0<m∧m≤100){K:Value→Prop}(H:K (af (1+t%m))):vK (ak .i .rem (.int .u8 t) (.int .u8 m)) λa=>vK (gS .i64 a) λb=>vK (ak .i .add aJ b) λc=>K c:=by
 have A:0≤t%m∧t%m<m:=⟨kD _ ae,iP _ ae⟩
 rw[dS _ _ _ _ ae,ah,jY h.1];simp only[go_sem];rw[w64 (n:=t%m) ae ae,w64 (n:=1+t%m) ae ae];exact H
end Go.Proofs.YtjljhnandbbldaaGreatDoor
namespace Go.Proofs.YtjljhnandbbldaaGreatDoor
open Go Go.Crisp
theorem XA {h:ai}{v:Value}{l:List Int}(H:SlC 1 h v l.length (l.map (Value.int .u8))):Rp.Sl (Rp.int .u8) (λ_=>True) h v l:=
 ⟨_,H,λ_ _ _=>trivial,λi hi=>by
  show Rp.el 1 _ i=[.int .u8 l[i]];rw[Rp.el_one (by simpa using hi),eE]⟩
theorem zbJ {h:ai}{ts:List TS}{l:List Value}(R:xJ (.sl (.int .u8) 1::ts) h l):∃v,∃k:List Int,∃r,l=v::r∧Rp.Sl (Rp.int .u8) (λ_=>True) h v k∧(∀x∈k,B8 x)∧k.length≤1000000000000000∧xJ ts h r:=by
 obtain⟨v,r,F,⟨x,G⟩,h0⟩:=R;obtain⟨u,hu,h1,D,A⟩:=zfe (l:=x) (show Rd (.sl (.int .u8) 1) h [v] x from G);obtain rfl:v=u:=by simpa using hu
 have A:List.length (α:=Int) x*1≤140737488351232:=A;exact⟨v,x,r,F,XA h1,D,ae,h0⟩
end Go.Proofs.YtjljhnandbbldaaGreatDoor
namespace Go.Proofs.YtjljhnandbbldaaGreatDoor
open Go Go.Crisp
attribute [local irreducible] ag cO aT stK aG vK qK bL gK eM bC mkK cR HA
open _root_.Go.Proofs.Tryz
def RG (a:Int):Nat:=(min (max 1 a) 512).toNat
def pe (n:Nat)(j:Nat):List Int:=(List.range n).map λm=>if m=j then 1 else 0
theorem Pl (n:Nat)(f g:Nat→Value)(h:∀k,k<n→f k=g k):(List.range n).map f=(List.range n).map g:=
 EL λk A=>h k (uA.1 A)
theorem c_New {h:ai}(a:Int):ag prog pd #[af a] h λr h'=>∃M,ga M h' r (RG a) (pe (RG a))∧Ext h h'∧∀b,M b→h.size≤b:=by
 apply TT;unfold IU;have bo:min (max 1 a) 512=((RG a:Nat):Int):=by unfold RG;omega
 have a7:1≤RG a∧RG a≤512:=by unfold RG;omega
 simp only[go_sem,bo];generalize RG a=n at a7;refine pN rfl ae ae λs h1 o1 e1 n1=>?_
 have bv:=o1.sl;obtain⟨_,U,H,rfl,_⟩:=bv;rw[KF _ #[.slice U n H] (by kernel_rfl)];refine aI (c:=#[.slice U n H]) λbc W au e2 n2=>?_
 obtain⟨t0,r2⟩:∃t,W[bc]? =some (.cells #[.slice U n H] t (0,0)):=⟨_,au⟩
 clear au
 simp only[go_sem,ao r2];have an:¬blk (.slice U n H) bc:=λA=>by have:=o1.lt A;omega
 refine Hk n (λk h'=>k≤n∧Ext h h'∧∃sv:Nat→Value,h'[bc]? =some (.cells #[.slice U n H] t0 (0,0))∧Own 1 h' (.slice U n H) n ((List.range n).map λj=>if j<k then sv j else .slice none 0 0)∧
   (∀j,j<k→jG h' (sv j) (pe n j))∧(∀j,j<k→∀b,blk (sv j) b→h.size≤b∧b≠bc∧¬blk (.slice U n H) b)∧∀i j,i<k→j<k→i≠j→∀b,blk (sv i) b→¬blk (sv j) b)
  ⟨bZ _,e1.trans e2,λ_=>.nilFunc,r2,?_,λj F=>ae,λj F=>ae,λi j hi=>ae⟩ ?_
 ·have:=o1.fr (M:=λ_=>False) e2.fr λ_ _=>id
  rw[show List.replicate n (Value.slice none 0 0)=(List.range n).map λj=>if j<0 then Value.nilFunc else .slice none 0 0 by
   apply pU<;>simp]at this
  exact this
 rintro k h3 again ρj ⟨b3,e3,sv,r3,o3,I,L,bd⟩ b2;simp only[go_sem];refine aq (λhk=>?_) (λhk=>?_)
 ·have hk:k<n:=ae;refine SA ?_;refine aF (.slice U n H) (λh' e=>by rw[ao (e.row r3)];rfl) ?_;refine pN rfl ae ae λs4 h4 o4 e4 n4=>?_
  refine⟨e4,?_⟩;obtain⟨p,hp,hq,b1⟩:=(o3.fr (M:=λ_=>False) e4.fr λ_ _=>id).at1 (k:=.i64) hk;simp only[go_sem,hp];have ax:jG h4 s4 (List.replicate n 0):=by
   unfold jG;rw[xc,Ub];exact o4
  refine b1 _ _ (Er ax) λh5 o5 f5 _=>?_
  rw[NQ]at o5;have al:∀b,blk s4 b→¬blk (.slice U n H) b:=λb A D=>by have:=n4 b A;have:=o3.lt D;omega
  have o6:jG h5 s4 (List.replicate n 0):=ax.fr f5 λb A=>al b A
  have r5:h5[bc]? =some (.cells #[.slice U n H] t0 (0,0)):=f5.row (e4.row r3) an;obtain⟨p6,ar,ay⟩:=o5.sl.at1 (k:=.i64) hk;rw[hp]at ar;cases ar;rw[eE,yY,aB rfl]at ay;obtain⟨p7,bk,b4,a9⟩:=Own.at1 o6 (k:=.i64) (i:=k) (by simpa using hk);simp only[go_sem,ao r5,hp,ay,bk];refine a9 _ _ rfl λh8 o8 f8 _=>?_
  rw[w64 ae ae];have f58:Fr (blk s4) h5 h8:=f8;have G:∀b,blk s4 b→h3.size≤b:=n4;have be:Ext h h8:=((e3.trans e4).then_fr f5 n1).then_fr f58 λb A=>bA e3.1 (G b A)
  have a8:∀b,blk s4 b→h.size≤b∧b≠bc∧¬blk (.slice U n H) b:=λb A=>
   ⟨bA e3.1 (G b A),λb5=>by
    have h1:=G b A;have W:=(mT.1 r3).1;omega,al b A⟩
  have aa:∀j,j<k→∀b,blk (sv j) b→¬blk s4 b:=λj F b A D=>by
   have h1:=G b D;have W:=(I j F).lt A;omega
  refine b2 h8 hk ⟨hk,be,λj=>if j=k then s4 else sv j,?_,?_,?_,?_,?_⟩
  ·exact f58.row r5 λA=>(a8 _ A).2.1 rfl
  ·have:=o5.fr f58 λb A D=>al b D A
   rw[Pl n _ (λj=>if j<k+1 then(if j=k then s4 else sv j)else .slice none 0 0) ?_]at this
   ·exact this
   ·intro j F;by_cases h1:j=k
    ·subst h1;simp
    ·by_cases W:j<k
     ·simp[h1,W,zd0 W]
     ·simp[h1,W,show¬j<k+1 by omega]
  ·intro j F;by_cases h1:j=k
   ·subst h1;simp only[cV];have o9:Own 1 h8 s4 (pe n j).length ((pe n j).map vi):=by
     refine(congr (congrArg (Own 1 h8 s4) ?_) ?_).mp o8
     ·simp[pe]
     ·apply pU
      ·simp[pe]
      ·intro m h1 W;rw[AL];simp only[pe,eE,ZH,yY,vi, @eq_comm _ m j];split<;>rfl
    exact o9
   ·simp only[h1,cS];have am:j<k:=ae;have h9:=((I j am).fr (M:=λ_=>False) e4.fr λ_ _=>id)
    have bg:jG h5 (sv j) (pe n j):=h9.fr f5 λb A=>(L j am b A).2.2
    exact bg.fr f58 λb A=>aa j am b A
  ·intro j F b A;by_cases h1:j=k
   ·simp only[h1,cV]at A;exact a8 b A
   ·simp only[h1,cS]at A;exact L j ae b A
  ·intro i j hi F ad b A D;by_cases h1:i=k
   ·simp only[h1,cV]at A;have W:j≠k:=λh=>ad (h1.trans h.symm)
    simp only[W,cS]at D;exact aa j ae b D A
   ·simp only[h1,cS]at A;by_cases W:j=k
    ·simp only[W,cV]at D;exact aa i ae b A D
    ·simp only[W,cS]at D;exact bd i j ae ae ad b A D
 ·obtain rfl:k=n:=ae;have b0:Own 1 h3 (.slice U k H) k ((List.range k).map sv):=by
   rw[Pl k _ sv (λj F=>by simp[F])]at o3;exact o3
  refine⟨λb=>b=bc∨blk (.slice U k H) b∨∃j,j<k∧blk (sv j) b,⟨bc,.slice U k H,sv,t0,rfl,?_⟩,e3,?_⟩
  ·exact{
    var:=r3,arr:=b0,row:=I,len:=λi hi=>by simp[pe],pos:=a7
    inM:=⟨.inl rfl,λb A=>.inr (.inl A),λi hi b A=>.inr (.inr ⟨i,hi,A⟩)⟩
    ap1:=an,ap2:=λi hi b A=>(L i hi b A).2,ap3:=λi j hi F ad b=>bd i j hi F ad b
    lt:=λb A=>by
     rcases A with rfl|A|⟨j,F,A⟩
     ·exact(mT.1 r3).1
     ·exact o3.lt A
     ·exact(I j F).lt A}
  ·intro b A;rcases A with rfl|A|⟨j,F,A⟩
   ·exact bA e1.1 n2
   ·exact n1 b A
   ·exact(L j F b A).1
theorem P6 {h:ai}{a b:Value}{D lb:List Int}(ha:jN h a D)(hb:jN h b lb)(hn:D.length≤9223372036854775807):
  ag prog sP #[a,b] h λv h'=>v=.bool (decide (D=lb))∧h'=h:=by
 apply Ox;unfold Cq;obtain⟨A,ca,rfl,hA⟩:=ha;obtain⟨B,cb,rfl,hB⟩:=hb;simp only[EM,ah,me];refine iQ (λaa=>?_) (λhe=>?_)
 ·refine⟨?_,trivial⟩;have:¬D=lb:=λe=>by subst e;simp at aa
  simp[this]
 ·have U:D.length=lb.length:=by simp at he;omega
  refine dy (λd xs h'=>h'=h∧∃k:Nat,k+d=D.length∧xs=[af k]∧∀i (hi:i<k) (h1:i<D.length),D[i]=lb[i]'(U▸h1)) D.length ⟨rfl,0,ae,rfl,λi hi=>ae⟩ ?_;rintro d _ ρj _ again ⟨rfl,k,hk,rfl,G⟩ ad;simp only[iq,cI,ah];refine aq (λam=>?_) (λal=>?_)
  ·have F:k<D.length:=ae;have H:k<lb.length:=ae;rcases hA with rfl|⟨b1,o1,rfl,hA⟩
   ·simp at F
   rcases hB with rfl|⟨b2,o2,rfl,hB⟩
   ·simp at H
   simp only[ma F,ma H,ah,dn,lW,hA k F,hB k H,vi,me];refine iQ (λW=>?_) (λL=>?_)
   ·refine⟨?_,trivial⟩
    congr 1
    rw[Eu,Ew];intro I;have:=(Ns U).1 I k F;simp[this]at W
   ·simp only[dD,ah];rw[w64 ae ae];refine ad _ _ (d-1) ae ⟨rfl,k+1,ae,rfl,λi hi h1=>?_⟩;rcases T8.1 hi with hi|rfl
    ·exact G i hi h1
    ·simpa using L
  ·refine⟨?_,trivial⟩
   congr 1
   rw[Eu,dH,Ns U];intro i hi;exact G i ae hi
end Go.Proofs.YtjljhnandbbldaaGreatDoor
namespace Go.Proofs.YtjljhnandbbldaaGreatDoor
open Go Go.Crisp
open _root_.Go.Proofs.Tryz
structure Acc where
 who:Int
 when_:List Int
 buf:Int
 lo:Int
 hi:Int
 wr:Bool
def ve (h:ai)(v:Value)(a:Acc):Prop:=∃s,v=.agg #[.int .i64 a.who,s,.int .i64 a.buf,.int .i64 a.lo,.int .i64 a.hi,.bool a.wr]∧jN h s a.when_
theorem ve.ext {h h':ai}{v:Value}{a:Acc}(H:ve h v a)(e:Ext h h'):ve h' v a:=by
 obtain⟨s,rfl,A⟩:=H;exact⟨s,rfl,A.ext e⟩
def Pi (a b:Acc):Bool:=decide (a.buf=b.buf)&&decide (max a.lo b.lo<min a.hi b.hi)
def LY (a b:Acc):Bool:= !decide (a.who=b.who)&&(a.wr||b.wr)&&Pi a b&& !Lz a.when_ b.when_&& !Lz b.when_ a.when_
theorem zeA {h:ai}{v u:Value}{a b:Acc}(G:ve h v a)(I:ve h u b):
  ag prog xG #[v,u] h λr h'=>r=.bool (Pi a b)∧Ext h h':=by
 apply MG;unfold BM;obtain⟨s,rfl,U⟩:=G;obtain⟨W,rfl,H⟩:=I;simp only[bF];refine aI λb1 h1 r1 F _=>aI λL h2 r2 D _=>?_
 have r1:=D.row r1;have e:=F.trans D;simp only[go_sem,ao r1,ao r2];by_cases A:a.buf=b.buf
 ·simp only[go_sem,A,ao r1,ao r2];exact⟨by simp[Pi,A],e⟩
 ·simp only[go_sem,A];exact⟨by simp[Pi,A],e⟩
theorem zda {h:ai}{v u:Value}{a b:Acc}(ha:ve h v a)(hb:ve h u b)(hn:a.when_.length≤9223372036854775807)(hm:b.when_.length≤9223372036854775807):
  ag prog sV #[v,u] h λr h'=>r=.bool (LY a b)∧Ext h h':=by
 apply OJ;unfold CE;have W:=ha;have L:=hb;obtain⟨s,rfl,hs⟩:=ha;obtain⟨s',rfl,H⟩:=hb;simp only[bF];refine aI λb1 h1 r1 e1 _=>aI λb2 h2 r2 e2 _=>?_
 have r1:=e2.row r1;have e:=e1.trans e2;have l1:=aL r1 6 rfl;have l2:=aL r2 6 rfl;simp only[go_sem,ao r1,ao r2];by_cases I:a.who=b.who
 ·simp only[go_sem,I];exact⟨by simp[LY,I],e⟩
 cases A:a.wr<;>cases D:b.wr<;>simp only[go_sem,I,ao r1,ao r2,l1,l2,A,D]
 ·exact⟨by simp[LY,A,D],e⟩
 all_goals
  refine(zeA (a:=a) (b:=b) ?_ ?_).mono ?_
  ·rw[←A];exact W.ext e
  ·rw[←D];exact L.ext e
  rintro _ h3 ⟨rfl,U⟩;have r1:=U.row r1;have r2:=U.row r2;have e:=e.trans U;cases G:Pi a b with
  |false=>simp only[go_sem];exact⟨by simp[LY,G],e⟩
  | true=>
   simp only[go_sem,ao r1,ao r2];refine(zaf (hs.ext e) (H.ext e) hn).mono ?_;rintro _ _ ⟨rfl,rfl⟩;cases F:Lz a.when_ b.when_ with
   |true=>simp only[go_sem];exact⟨by simp[LY,F],e⟩
   |false=>
    simp only[go_sem,ao r1,ao r2];refine(zaf (H.ext e) (hs.ext e) hm).mono ?_;rintro _ _ ⟨rfl,rfl⟩;simp only[go_sem];exact⟨by simp[LY,I,G,F,A,D],e⟩
end Go.Proofs.YtjljhnandbbldaaGreatDoor
namespace Go.Proofs.YtjljhnandbbldaaGreatDoor
open Go Go.Crisp
attribute [local irreducible] ag cO aT stK aG vK qK bL gK eM bC
open _root_.Go.Proofs.Tryz
theorem Wt {h:ai}{b:Nat}{l:List Int}{t:TypeId}{f:Nat×Nat}{cap:Nat}(r:h[b]? =some (.cells (l.map vi).toArray t f)):jN h (.slice (some ⟨b,0,none⟩) l.length cap) l:=
 ⟨_,cap,rfl,.inr ⟨b,0,rfl,λi hi=>by rw[aO,ao r];simp[hi]⟩⟩
theorem zeK {h:ai}:ag prog zh #[] h λr h'=>r=.bool true∧Ext h h':=by
 apply OP;unfold CI;refine cT (c':=#[aJ,aj]) (by kernel_rfl) λH h1 r1 e1 _=>?_
 rw[KF _ #[aj,.slice (some ⟨H,0,none⟩) 2 2,aj,af 3,af 4,.bool true] (by kernel_rfl)];refine aI λb2 h2 r2 e2 n2=>?_
 refine bI (l:=[aj,.slice (some ⟨H,0,none⟩) 2 2,aj,af 3,af 4,.bool true]) r2 rfl (by simp[aV]) rfl λh3 r3 u3=>?_
 have U:Ext h1 h3:=e2.upd n2 u3;refine cT (c':=#[aj,aJ]) (by kernel_rfl) λG h4 r4 e4 _=>?_
 rw[KF _ #[aJ,.slice (some ⟨G,0,none⟩) 2 2,aj,af 2,af 9,.bool true] (by kernel_rfl)];refine aI λb5 h5 r5 e5 n5=>?_
 refine bI (l:=[aJ,.slice (some ⟨G,0,none⟩) 2 2,aj,af 2,af 9,.bool true]) r5 rfl (by simp[aV]) rfl λA r6 u6=>?_
 have e6:Ext h4 A:=e5.upd n5 u6;have D:Ext h3 A:=e4.trans e6;have I:=aL (D.row r3) 6 rfl;have L:=aL r6 6 rfl;have i1:jN A (.slice (some ⟨H,0,none⟩) 2 2) [1,0]:=Wt (l:=[1,0]) ((U.trans D).row r1);have i4:jN A (.slice (some ⟨G,0,none⟩) 2 2) [0,1]:=Wt (l:=[0,1]) (e6.row r4);have W:ve A (.agg #[aj,.slice (some ⟨H,0,none⟩) 2 2,aj,af 3,af 4,.bool true]) ⟨0,[1,0],0,3,4,true⟩:=⟨_,rfl,i1⟩
 have A4:ve A (.agg #[aJ,.slice (some ⟨G,0,none⟩) 2 2,aj,af 2,af 9,.bool true]) ⟨1,[0,1],0,2,9,true⟩:=⟨_,rfl,i4⟩
 have e:Ext h A:=e1.trans (U.trans D);simp only[go_sem,I,L];refine(zda W A4 (by simp) (by simp)).mono ?_;rintro _ h7 ⟨rfl,F⟩;rw[show LY ⟨0,[1,0],0,3,4,true⟩ ⟨1,[0,1],0,2,9,true⟩=true from by decide];simp only[go_sem,F.lds I,F.lds L];refine(zda (A4.ext F) (W.ext F) (by simp) (by simp)).mono ?_;rintro _ h8 ⟨rfl,e8⟩;rw[show LY ⟨1,[0,1],0,2,9,true⟩ ⟨0,[1,0],0,3,4,true⟩=true from by decide];simp only[go_sem];exact⟨trivial,e.trans (F.trans e8)⟩
end Go.Proofs.YtjljhnandbbldaaGreatDoor
namespace Go.Proofs.YtjljhnandbbldaaGreatDoor
open Go Go.Crisp
attribute [local irreducible] ag cO aT stK aG vK qK bL gK eM bC mkK cR HA
open _root_.Go.Proofs.Tryz
theorem zb0 {e:TypeId}{h:ai}{v:Value}{l:List Int}{x:Int}{K:Value→ai→Prop}(hv:jG h v l)(hl:l.length≤4398046511104)
  (H:∀r h',jG h' r (l++[x])→Fr (blk v) h h'→(∀b,blk r b→blk v b∨h.size≤b)→K r h'):cO #[aj] e 1 [(0,1,af x)] h λD W=>cR aj e 1 8 v D W K:=by
 refine cT (c':=#[af x]) (by kernel_rfl) λb h1 r1 A n1=>?_
 have I:SlC 1 h1 (.slice (some ⟨b,0,none⟩) 1 1) 1 ([x].map vi):=⟨rfl,_,1,rfl,.inr ⟨b,0,rfl,λj F=>by
  rw[ao r1]
  match j,F with
  |0,_=>rfl⟩⟩
 refine ui (Own.fr hv (M:=λ_=>False) A.fr λ_ _=>id) I Tb rfl ae ae λG U o2 f2 n2=>?_
 rw[←jW,show l.length+1=(l++[x]).length by simp]at o2;exact H G U o2 (A.fr.trans f2) λk L=>(n2 k L).imp (λh=>h) λh=>bA A.1 h
theorem zfV {h:ai}{v:Value}{l:List Int}(F:jN h v l)(i:Nat):
  ag prog xD #[v,af (i:Int)] h λr h'=>r=af (l.getD i 0)∧h'=h:=by
 apply VQ;unfold LJ;have D:=F;obtain⟨a,cap,rfl,_⟩:=F;simp only[go_sem];refine aq (λA=>?_) (λH=>?_)
 ·have A:i<l.length:=ae;obtain⟨p,G,hq⟩:=D.sl.at1 (k:=.i64) A;rw[eE,←Kn A]at hq;simp only[go_sem,G,hq];exact⟨rfl,trivial⟩
 ·rw[Km ae];exact⟨rfl,trivial⟩
theorem X7 {a b:List Int}{k:Nat}(A:k<max a.length b.length):((xk a b).take k)++[max (a.getD k 0) (b.getD k 0)]=(xk a b).take (k+1):=by
 rw[jE (by rw[kF];exact A)];simp[xk]
theorem za8 {h:ai}{v u:Value}{a b:List Int}(ha:jN h v a)(hb:jN h u b)(la:a.length≤4398046511)(lb:b.length≤4398046511):
  ag prog Bc #[v,u] h λr h'=>jG h' r (xk a b)∧Ext h h'∧∀k,blk r k→h.size≤k:=by
 apply QY;unfold FG;have an:=ha;have G:=hb;obtain⟨aa,ac,rfl,_⟩:=ha;obtain⟨ba,bc,rfl,_⟩:=hb;refine dy (λd xs h'=>Ext h h'∧∃k r,k≤max a.length b.length∧d=max a.length b.length-k∧xs=[r,.int .i64 (k:Int)]∧jG h' r ((xk a b).take k)∧∀m,blk r m→h.size≤m) _
  ⟨Ext.refl h,0,.slice none 0 0,Nat.zero_le _,rfl,rfl,MT,λm hm=>hm.elim⟩ ?_
 rintro d _ ρj h1 again ⟨F,k,r,hk,rfl,rfl,L,U⟩ al;by_cases H:k<max a.length b.length
 ·have step:∀(e:TypeId) (x:Int),x=max (a.getD k 0) (b.getD k 0)→cO #[.int .i64 0] e 1 [(0,1,.int .i64 x)] h1 λv2 I=>cR (.int .i64 0) e 1 8 r v2 I λW ad=>again [W,.int .i64 (IntKind.i64.wrap ((k:Int)+1))] ad:=by
   intro e x A;refine zb0 L (by rw[List.length_take];omega) λs h2 o2 f2 n2=>?_
   rw[A,X7 H]at o2;rw[w64 (by omega) (by omega)];refine al _ _ (max a.length b.length-(k+1)) (by omega) ⟨F.then_fr f2 U,k+1,s,H,rfl,by simp,o2,λm hm=>?_⟩;rcases n2 m hm with I|I
   ·exact U m I
   ·exact Nat.le_trans F.1 I
  have D:(k:Int)<a.length∨(¬(k:Int)<a.length)∧(k:Int)<b.length:=by omega
  rcases D with hh|hh
  case' inl=>simp only[go_sem,hh]
  case' inr=>simp only[go_sem,hh.1,hh.2]
  all_goals
   refine(zfV (an.ext F) k).mono ?_;rintro _ h2 ⟨rfl,A⟩;subst A;refine(zfV (G.ext F) k).mono ?_;rintro _ h2 ⟨rfl,A⟩;subst A;simp only[go_sem];refine aq (λau=>?_) (λar=>?_)
   ·refine(zfV (G.ext F) k).mono ?_;rintro _ h2 ⟨rfl,A⟩;subst A;exact step _ _ (by omega)
   ·exact step _ _ (by omega)
 ·have h1':¬(k:Int)<a.length:=by omega
  have am:¬(k:Int)<b.length:=by omega
  simp only[go_sem,h1',am];rw[List.take_of_length_le (by rw[kF];omega)]at L;exact⟨L,F,U⟩
abbrev rIa:Rp Int:=Rp.int .i64
theorem xR {Z:Nat→Prop}{h:ai}{v:Value}{l:List Int}(H:Rp.Sl rIa Z h v l):jN h v l:=by
 obtain⟨ds,A,_,F⟩:=H;have I:ds.length=l.length:=by have:=A.1;simpa[Rp.int]using this
 have:ds=l.map vi:=by
  apply pU (by simp[I]);intro i h1 L;have G:=F i ae;have D:Rp.el 1 ds i=[af l[i]]:=G;rw[Rp.el_one h1]at D;rw[eE];simpa[vi]using D
 subst this;exact ZM A
theorem xn {Z:Nat→Prop}{h:ai}{v:Value}{l:List Int}(H:jN h v l)(A:l≠[]→∀b,blk v b→Z b):Rp.Sl rIa Z h v l:=by
 refine⟨l.map vi,H.sl,λh0=>A (by simpa using h0),λi hi=>?_⟩;show Rp.el 1 (l.map vi) i=[af l[i]];rw[Rp.el_one (by simpa using hi)];simp[vi]
def lT:Rp Acc where
 w:=6
 R:=λZ h cs a=>∃s,cs=[.int .i64 a.who,s,.int .i64 a.buf,.int .i64 a.lo,.int .i64 a.hi,.bool a.wr]∧Rp.Sl rIa Z h s a.when_
 len:=by rintro _ _ _ _ ⟨s,rfl,_⟩;rfl
 one:=by
  rintro _ _ _ _ ⟨s,rfl,H⟩ v hv;have:=H.one;simp only[List.mem_cons,List.not_mem_nil,or_false]at hv;rcases hv with rfl|rfl|rfl|rfl|rfl|rfl<;>first|rfl|exact this
 fr:=by rintro _ _ _ _ _ _ ⟨s,rfl,H⟩ f q;exact⟨s,rfl,H.fr f q⟩
 mono:=by rintro _ _ _ _ _ ⟨s,rfl,H⟩ q;exact⟨s,rfl,H.mono q⟩
theorem lT.isAcc {Z:Nat→Prop}{h:ai}{cs:List Value}{a:Acc}(H:lT.R Z h cs a):ve h (.agg cs.toArray) a:=by
 obtain⟨s,rfl,A⟩:=H;exact⟨s,rfl,xR A⟩
def X2 (a:Acc):Bool:=decide (0≤a.who)&&(decide (0≤a.buf)&&(decide (0≤a.lo)&&decide (a.lo<a.hi)))
theorem c_may {h:ai}{v:Value}{a:Acc}(H:ve h v a):ag prog Br #[v] h λr h'=>r=.bool (X2 a)∧Ext h h':=by
 obtain⟨s,rfl,_⟩:=H;apply Rv;unfold Gb;simp only[bF];refine aI λb h1 r1 F I=>?_
 by_cases A:0≤a.who
 ·by_cases D:0≤a.buf
  ·by_cases G:0≤a.lo
   ·simp only[go_sem,ao r1,A,D,G];exact⟨by simp[X2,A,D,G],F⟩
   ·simp only[go_sem,ao r1,A,D,G];exact⟨by simp[X2,A,D,G],F⟩
  ·simp only[go_sem,ao r1,A,D];exact⟨by simp[X2,A,D],F⟩
 ·simp only[go_sem,ao r1,A];exact⟨by simp[X2,A],F⟩
theorem zaa {h:ai}{v:Value}{a:Acc}(ha:ve h v a)(hl:a.when_.length≤4398046511104):
  ag prog qH #[v] h λr h'=>∃ds,r=.agg (List.toArray ds)∧lT.R (λb=>h.size≤b∧b<h'.size) h' ds a∧Ext h h':=by
 obtain⟨s,rfl,hs⟩:=ha;apply MH;unfold BN;simp only[bF];refine aI λb1 h1 r1 I n1=>aI λb3 h3 r3 H n3=>?_
 have D:=H.row r1;simp only[go_sem,ao D];refine(zad ((hs.ext I).ext H) hl).mono ?_;rintro G h4 ⟨o4,L,n4⟩;have ad:=Er o4;refine bG (o:=1) (L.row D) (by simp) ad λh5 r5 U=>?_
 have r5:h5[b1]? =some (.cells (List.toArray [af a.who,G,af a.buf,af a.lo,af a.hi,.bool a.wr]) _ (0,0)):=r5;rw[aL r5 6 rfl,ah];have aa:b3≠b1:=by have:=aW r1;omega
 refine bI (l:=[af a.who,G,af a.buf,af a.lo,af a.hi,.bool a.wr]) (U.row aa (L.row r3)) rfl (by repeat' (first|rfl|assumption|exact aU|refine az ?_ ?_)) rfl λh6 r6 u6=>?_
 rw[aL r6 6 rfl,ah];have W:Ext h h6:=(((I.trans H).trans L).upd n1 U).upd (bA I.1 n3) u6;refine⟨_,rfl,⟨G,rfl,?_⟩,W⟩;have F:∀b,blk G b→b≠b1∧b≠b3:=λb A=>by
  have h1:=n4 b A;have h2:=aW D;have h3:=aW r3;exact⟨ae,ae⟩
 have o6:jG h6 G a.when_:=(o4.fr U.fr λb A=>(F b A).1).fr u6.fr λb A=>(F b A).2
 exact xn o6.ints λ_ b A=>⟨bA (I.trans H).1 (n4 b A),o6.lt A⟩
end Go.Proofs.YtjljhnandbbldaaGreatDoor
namespace Go.Proofs.YtjljhnandbbldaaGreatDoor
open Go Go.Crisp
attribute [local irreducible] ag cO aT stK aG vK qK bL gK eM bC mkK cR HA
instance:Inhabited Acc:=⟨⟨0,[],0,0,0,false⟩⟩
end Go.Proofs.YtjljhnandbbldaaGreatDoor
namespace Go.Proofs.YtjljhnandbbldaaGreatDoor
open Go Go.Crisp
attribute [local irreducible] ag cO aT stK aG vK qK bL gK eM bC mkK cR HA vu pP Zb
open _root_.Go.Proofs.Tryz
section
section
variable {Z:Nat→Prop}{h:ai}{bx o:Nat}{cs:Array Value}{t:TypeId}{sl:Value}{l:List Acc}
structure DS (Z:Nat→Prop)(h:ai)(bx o:Nat)(cs:Array Value)(t:TypeId)(sl:Value)(l:List Acc):Prop where
 var:h[bx]? =some (.cells cs t (0,0))
 pl:cs[o]? =some sl
 own:Rp.Ow lT Z h sl l
 ap:¬blk sl bx∧¬Z bx
 zlt:∀b,Z b→b<h.size
theorem DS.ext {h':ai}(H:DS Z h bx o cs t sl l)(e:Ext h h'):DS Z h' bx o cs t sl l:=⟨e.row H.var,H.pl,H.own.ext e,H.ap,λb A=>ce (H.zlt b A) e.1⟩
theorem DS.cell (H:DS Z h bx o cs t sl l):aE h ⟨bx,o,none⟩=some sl:=by rw[ao H.var,H.pl]
theorem zf7 {u:Value}{a:Acc}(L:DS Z h bx o cs t sl l)(hu:ve h u a)(ha:a.when_.length≤4398046511104)(hl:l.length≤1000000)(hm:X2 a=true):
  ag prog ng #[.pointer (some ⟨bx,o,none⟩),u] h λr h'=>∃s' Z',DS Z' h' bx o (cs.setIfInBounds o s') t s' (l++[a])∧Fr (λb=>b=bx∨blk sl b) h h'∧(∀b,blk s' b→blk sl b∨h.size≤b)∧∀b,Z' b→Z b∨h.size≤b:=by
 have ar:=aW L.var;have ho:o<cs.size:=(mT.1 L.pl).1;obtain⟨s,rfl,hs⟩:=hu;apply Dm;unfold tH;simp only[bF];refine aI λb1 h1 r1 e1 n1=>?_
 rw[aL (l:=[af a.who,s,af a.buf,af a.lo,af a.hi,.bool a.wr]) r1 6 rfl,ah];have A1:ve h1 (.agg #[af a.who,s,af a.buf,af a.lo,af a.hi,.bool a.wr]) a:=⟨s,rfl,hs.ext e1⟩
 refine(c_may A1).mono ?_;rintro _ h2 ⟨rfl,e2⟩;have H:=e1.trans e2;simp only[hm,go_sem,ic];have F:=e2.row r1;have v2:=H.row L.var;refine aQ (λhh=>hh[bx]? =some (.cells cs t (0,0))∧aM 6 hh (.pointer (some ⟨b1,0,none⟩))=some (.agg #[af a.who,s,af a.buf,af a.lo,af a.hi,.bool a.wr]))
  ⟨v2,aL (l:=[af a.who,s,af a.buf,af a.lo,af a.hi,.bool a.wr]) F 6 rfl⟩ ?_
 refine aF sl (λhh S=>by rw[ao S.1,L.pl]) ?_;refine aF _ (λhh S=>S.2) ?_;refine(zaa (A1.ext e2) ha).mono ?_;rintro _ h3 ⟨ds,rfl,aa,e3⟩;have am:=H.trans e3;refine⟨⟨e3.row v2,aL (l:=[af a.who,s,af a.buf,af a.lo,af a.hi,.bool a.wr]) (e3.row F) 6 rfl⟩,?_⟩;have I:ds.length=6:=lT.len aa;refine cT (Rp.fill_whole rfl I) λb4 h4 r4 G n4=>?_
 have D:=am.trans G;refine⟨⟨G.row (e3.row v2),G.lds (aL (l:=[af a.who,s,af a.buf,af a.lo,af a.hi,.bool a.wr]) (e3.row F) 6 rfl)⟩,?_⟩;have S1:=Rp.SlC.single r4;rw[I]at S1;have dz:∀b,blk sl b→¬Z b:=by obtain⟨_,_,d,_⟩:=L.own;exact d
 have o4:Rp.Ow lT (λb=>Z b∨(h.size≤b∧b<h3.size)) h4 sl l:=(L.own.ext D).mono (λb _ A=>.inl A) λb A hz=>by
  rcases hz with hz|hz
  ·exact dz b A hz
  ·have:=L.own.lt A;omega
 refine Rp.app_ow (e:=lT) (l2:=[a]) o4 S1 (λi hi=>?_) rfl (by simp;omega) (by simp;omega) (λb A=>?_) λs' h5 o5 f5 n5=>?_
 ·have hi:i=0:=by simpa using hi
  subst hi;rw[show Rp.el lT.w ds 0=ds from Rp.el_self I];exact lT.mono (lT.ext aa G) λb _ A=>.inr ⟨bA H.1 A.1,A.2⟩
 ·rcases A with A|A
  ·exact ce (L.zlt b A) D.1
  ·exact ce A.2 G.1
 have v5:h5[bx]? =some (.cells cs t (0,0)):=f5.row (D.row L.var) L.ap.1;have an:¬blk sl b1:=λA=>by have:=L.own.lt A;omega
 refine⟨⟨v5,aL (l:=[af a.who,s,af a.buf,af a.lo,af a.hi,.bool a.wr]) (f5.row ((e3.trans G).row F) an) 6 rfl⟩,?_⟩;refine bG v5 ho o5.one λh6 r6 u6=>?_
 have al:∀b,blk s' b→b≠bx:=λb A W=>by
  rcases n5 b A with U|U
  ·exact L.ap.1 (W▸U)
  ·have:=D.1;omega
 have ad:∀b,(Z b∨(h.size≤b∧b<h3.size))→b≠bx:=λb A W=>by
  rcases A with A|A
  ·exact L.ap.2 (W▸A)
  ·omega
 have o6:=o5.fr u6.fr (λb _ A=>ad b A) al;refine⟨s',λb=>Z b∨(h.size≤b∧b<h3.size),⟨r6,by simp[ho],o6,⟨λA=>al bx A rfl,λA=>ad bx A rfl⟩,λb A=>?_⟩,?_,λb A=>?_,λb A=>A.imp id And.left⟩
 ·have U:h4.size≤h6.size:=by rw[u6.1];exact f5.1
  rcases A with A|A
  ·have:=L.zlt b A;have:=D.1;omega
  ·have:=G.1;omega
 ·exact(D.fr.trans (f5.mono λb _ A=>.inr A)).trans (u6.fr.mono λb _ A=>.inl A)
 ·rcases n5 b A with U|U
  ·exact .inl U
  ·exact .inr (bA D.1 U)
theorem zeM (L:DS Z h bx o cs t sl l):ag prog mZ #[.pointer (some ⟨bx,o,none⟩)] h λr h'=>r=af (l.length:Nat)∧h'=h:=by
 have A:=L.cell;apply Dl;unfold tG;obtain⟨F,D,rfl⟩:=L.own.isSl;simp only[go_sem,ic,A];exact⟨trivial,trivial⟩
theorem zf3 (L:DS Z h bx o cs t sl l)(i:Int)(hw:∀a∈l,a.when_.length≤4398046511104):
  ag prog oM #[.pointer (some ⟨bx,o,none⟩),af i] h λr h'=>∃ds,r=.tuple #[.agg (List.toArray ds),.bool (decide (0≤i∧i<l.length))]∧ds.length=6∧(∀x∈ds,aV x=true)∧(∀k (G:k<l.length),i=(k:Int)→ve h' (.agg (List.toArray ds)) l[k])∧Ext h h':=by
 have ad:=L.cell;apply Fl;unfold uX;refine aI λb1 h1 r1 e1 n1=>?_
 have W:=L.ext e1;obtain⟨sa,sc,rfl⟩:=L.own.isSl;have F:¬(0≤i∧i<l.length)→vK ((aR #[aj,(.slice none 0 0),aj,aj,aj,(.bool false)] []).map .agg) (λH=>stK 6 (.pointer (some ⟨b1,0,none⟩)) H h1 λar D=>vK (aM 6 D (.pointer (some ⟨b1,0,none⟩))) λI=>
   ∃ds,Value.tuple #[I,.bool false]=.tuple #[.agg (List.toArray ds),.bool (decide (0≤i∧i<l.length))]∧ds.length=6∧(∀x∈ds,aV x=true)∧(∀k (G:k<l.length),i=(k:Int)→ve D (.agg (List.toArray ds)) l[k])∧Ext h D):=by
  intro hb;rw[KF _ #[aj,(.slice none 0 0),aj,aj,aj,(.bool false)] (by kernel_rfl)];refine bI (l:=[aj,(.slice none 0 0),aj,aj,aj,(.bool false)]) r1 rfl (by repeat' (first|rfl|exact aU|refine az ?_ ?_)) rfl λh2 r2 u2=>?_
  rw[aL r2 6 rfl,ah,b9 hb];exact⟨_,rfl,rfl,by repeat' (first|rfl|exact aU|refine az ?_ ?_),λk G al=>absurd ⟨ae,ae⟩ hb,e1.upd n1 u2⟩
 by_cases h0:i<0
 ·simp only[go_sem,h0];exact F ae
 ·by_cases hl:(l.length:Int)≤i
  ·simp only[go_sem,ic,h0,W.cell,hl];exact F ae
  ·obtain⟨k,rfl⟩:=MY (show 0≤i by omega);have G:k<l.length:=ae;obtain⟨p,cs,U,hq,aa⟩:=W.own.sl.atw (show 0<lT.w by decide) (k:=.i64) G;have U:bh 6 (.slice sa l.length sc) (af (k:Int))=some p:=U;have hq:aM 6 h1 p=some (.agg cs.toArray):=hq;simp only[go_sem,ic,h0,W.cell,hl,U,hq];refine(zaa (lT.isAcc aa) (hw _ (cQ G))).mono ?_;rintro _ h2 ⟨ds,rfl,A,e2⟩;refine bI (e2.row r1) (by rw[lT.len A];rfl) (lT.one A) (lT.len A) λh3 r3 u3=>?_
   rw[aL r3 6 (lT.len A),ah,cH (show(0:Int)≤k∧(k:Int)<l.length by omega)];refine⟨ds,rfl,lT.len A,lT.one A,λk' am an=>?_,(e1.trans e2).upd n1 u3⟩;obtain rfl:k=k':=ae;have:lT.R (λb=>h1.size≤b∧b<h2.size) h3 ds l[k]:=lT.fr A u3.fr λb _ hb au=>by have:=aW r1;omega
   exact lT.isAcc this
end
end
end Go.Proofs.YtjljhnandbbldaaGreatDoor
namespace Go.Proofs.YtjljhnandbbldaaGreatDoor
open Go Go.Crisp
attribute [local irreducible] ag cO aT stK aG vK qK bL gK eM bC mkK cR HA JA Ep bsK clK vu pP Zb
section
def rIs:Rp (List Int) where
 w:=1
 R:=λZ h cs l=>∃v,cs=[v]∧Rp.Sl (Rp.int .i64) Z h v l
 len:=by rintro _ _ _ _ ⟨_,rfl,_⟩;rfl
 one:=by
  rintro _ _ _ _ ⟨_,rfl,H⟩;exact az H.one aU
 fr:=by rintro _ _ _ _ _ _ ⟨v,rfl,H⟩ f q;exact⟨v,rfl,H.fr f q⟩
 mono:=by rintro _ _ _ _ _ ⟨v,rfl,H⟩ q;exact⟨v,rfl,H.mono q⟩
structure PV where
 vc:Value
 sl:Value
 wv:Value
 dv:Value
 sv:Value
 ev:Value
 lv:Value
structure bS where
 q:QD
 rows:Nat→List Int
 acc:List Acc
 ws:Nat→WD
 words:Nat→Int
 sent:Int
 stamps:List (List Int)
 fin:List Int
 left:List (List Int)
 ret:Bool
 picks:Int
def jh (C:C21)(V:PV)(P:bS):Array Value:=#[ptr C.bf,ptr C.bt,ptr C.bl,ptr C.bq,V.vc,V.sl,V.wv,V.dv,.int .i64 P.sent,V.sv,V.ev,V.lv,.bool P.ret,.int .i64 P.picks]
def vd (o:Nat→Nat)(k:Nat)(h:ai)(v:Value)(l:List (List Int)):Prop:=∃Z:Nat→Prop,Rp.Ow rIs Z h v l∧(∀c,Z c→o c=k)∧∀c,blk v c→o c=k
structure aZ (X:Nat→Prop)(C:C21)(Z:Nat→Prop)(K:Nat)(h0:ai)(bw:Nat→Nat)(bp:Nat)(o:Nat→Nat)(n:Pic)(V:PV)(P:bS)(h:ai):Prop where
 q:¬X 1→IsQ (λc=>o c=1) h C.bq P.q
 c:¬X 2→ga (λc=>o c=2) h V.vc (K+1) P.rows
 l:¬X 3→∃Zl:Nat→Prop,Rp.Ow lT Zl h V.sl P.acc∧(∀c,Zl c→o c=3)∧∀c,blk V.sl c→o c=3
 p:¬X 4→h[bp]? =some (.cells (jh C V P) 106 (0,0))
 w:¬X 5→Own 1 h V.dv K ((List.range K).map λi=>.int .i64 (P.words i))∧∀c,blk V.dv c→o c=5
 s:¬X 6→vd o 6 h V.sv P.stamps
 f:¬X 7→vd o 7 h V.lv P.left
 e:¬X 8→Rp.Sl (Rp.int .i64) (λc=>o c=8) h V.ev P.fin
 wk:¬X 9→SlC 1 h V.wv K ((List.range K).map λi=>ptr (bw i))∧∀c,blk V.wv c→o c=9
 ws:∀i,i<K→¬X (10+i)→IsW Z (λc=>o c=10+i) h (bw i) (some C.E) n (P.ws i)
 po:o bp=4
 set:BY Z h C.bf C.vf C.bt C.vt C.p C.q C.m n C.d.s
 pl:uD Z h C.bl C.d C.pp C.pq
 zl:Z C.bl∧C.pp=C.p∧C.pq=C.q
 sui:C.suits n
 ow:∀c,o c≠0→c<h.size∧h0.size≤c∧¬Z c∧Az (some C.E) c∧¬eB (some C.E) c
 ext:Ext h0 h
 few:1≤K∧K≤256
section
variable {X:Nat→Prop}{C:C21}{Z:Nat→Prop}{K:Nat}{h0 h h':ai}{bw:Nat→Nat}{bp:Nat}{o:Nat→Nat}{n:Pic}{V:PV}{P:bS}
theorem vd.fr {k:Nat}{v:Value}{l:List (List Int)}{M:Nat→Prop}(H:vd o k h v l)(f:Fr M h h')(q:∀c,o c=k→¬M c):vd o k h' v l:=by
 obtain⟨Z,F,D,A⟩:=H;exact⟨Z,F.fr f (λc _ hc=>q c (D c hc)) λc hc=>q c (A c hc),D,A⟩
theorem aZ.chgO (H:aZ X C Z K h0 bw bp o n V P h){A:Nat→Prop}(ha:¬A 0){n':Pic}(hb:∀c,eB (some C.E) c→h0.size≤c)(f:Fr (λc=>A (o c)∨eB (some C.E) c) h h')(U:jM h' (some C.E) n')(D:fj n n'):aZ (λk=>X k∨A k) C Z K h0 bw bp o n' V P h':=by
 have no:∀c,o c≠0→¬eB (some C.E) c:=λc hc=>(H.ow c hc).2.2.2.2
 have g:∀k,k≠0→¬A k→∀c,o c=k→¬(A (o c)∨eB (some C.E) c):=λk h0 hk c hc h=>h.elim (by rw[hc];exact hk) (no c (by rw[hc];exact h0))
 have G:∀{k},¬(X k∨A k)→¬X k∧¬A k:=λh=>⟨λx=>h (.inl x),λx=>h (.inr x)⟩
 have oa:∀c,A (o c)→c<h.size∧h0.size≤c∧¬Z c∧Az (some C.E) c∧¬eB (some C.E) c:=λc hc=>H.ow c λh=>ha (h▸hc)
 have L:∀c,Z c→¬(A (o c)∨eB (some C.E) c):=λc W hc=>hc.elim (λhc=>(oa c hc).2.2.1 W) (H.set.zz c W)
 obtain⟨p1,p2,p3⟩:=H.pl;obtain⟨I,wf⟩:=U C.E rfl;obtain⟨s1,s2,s3,s4,s5⟩:=H.sui.2;refine⟨λF=>(H.q (G F).1).fr f (g 1 ae (G F).2),λF=>(H.c (G F).1).fr f λc _=>g 2 ae (G F).2 c,λF=>?_,λF=>f.row (H.p (G F).1) (g 4 ae (G F).2 bp H.po),λF=>⟨(H.w (G F).1).1.fr f λc hc=>g 5 ae (G F).2 c ((H.w (G F).1).2 c hc),(H.w (G F).1).2⟩,λF=>(H.s (G F).1).fr f (g 6 ae (G F).2),λF=>(H.f (G F).1).fr f (g 7 ae (G F).2),λF=>(H.e (G F).1).fr f λc _=>g 8 ae (G F).2 c,
  λF=>⟨(H.wk (G F).1).1.fr f λc _ hc=>g 9 ae (G F).2 c ((H.wk (G F).1).2 c hc),(H.wk (G F).1).2⟩,λi hi F=>(H.ws i hi (G F).1).other f L (g (10+i) ae (G F).2) U D,H.po,H.set.chg f L I,⟨f.row p1 (L _ H.zl.1),p2.fr f λc _=>L c,p3.fr f λc _=>L c⟩,H.zl,⟨wf,s1,by rw[D.w];exact s2,by rw[D.h];exact s3,by rw[D.c];exact s4,by rw[D.m];exact s5⟩,λc hc=>⟨ce (H.ow c hc).1 f.1,(H.ow c hc).2⟩,H.ext.then_fr f λc hc=>hc.elim (λh=>(oa c h).2.1) (hb c),H.few⟩
 obtain⟨Zl,o1,z1,z2⟩:=H.l (G F).1;exact⟨Zl,o1.fr f (λc _ hc=>g 3 ae (G F).2 c (z1 c hc)) λc hc=>g 3 ae (G F).2 c (z2 c hc),z1,z2⟩
theorem aZ.ex0 (H:aZ X C Z K h0 bw bp o n V P h):jM h (some C.E) n:=λD A=>by cases A;exact⟨H.set.out,H.sui.1⟩
theorem aZ.chgM (H:aZ X C Z K h0 bw bp o n V P h){A M:Nat→Prop}(f:Fr M h h')(I:∀c,M c→(A (o c)∨o c=0)∧h0.size≤c∧¬Z c∧Az (some C.E) c∧¬eB (some C.E) c):aZ (λk=>X k∨A k) C Z K h0 bw bp o n V P h':=by
 have L:jM h' (some C.E) n:=H.ex0.fr f λc hc _=>(I c hc).2.2.2
 have G:∀c,Z c→¬M c:=λc hz hc=>(I c hc).2.2.1 hz
 have g:∀k,k≠0→¬A k→∀c,o c=k→¬M c:=λk k0 hk c hc hm=>(I c hm).1.elim (by rw[hc];exact hk) λh=>k0 (by rw[←hc,h])
 have F:∀{k},¬(X k∨A k)→¬X k∧¬A k:=λh=>⟨λx=>h (.inl x),λx=>h (.inr x)⟩
 obtain⟨p1,p2,p3⟩:=H.pl;refine⟨λD=>(H.q (F D).1).fr f (g 1 ae (F D).2),λD=>(H.c (F D).1).fr f λc _=>g 2 ae (F D).2 c,λD=>?_,λD=>f.row (H.p (F D).1) (g 4 ae (F D).2 bp H.po),λD=>⟨(H.w (F D).1).1.fr f λc hc=>g 5 ae (F D).2 c ((H.w (F D).1).2 c hc),(H.w (F D).1).2⟩,λD=>(H.s (F D).1).fr f (g 6 ae (F D).2),λD=>(H.f (F D).1).fr f (g 7 ae (F D).2),λD=>(H.e (F D).1).fr f λc _=>g 8 ae (F D).2 c,
  λD=>⟨(H.wk (F D).1).1.fr f λc _ hc=>g 9 ae (F D).2 c ((H.wk (F D).1).2 c hc),(H.wk (F D).1).2⟩,λi hi D=>(H.ws i hi (F D).1).other f G (g (10+i) ae (F D).2) L (fj.refl n),H.po,H.set.chg f G (L C.E rfl).1,⟨f.row p1 (G _ H.zl.1),p2.fr f λc _=>G c,p3.fr f λc _=>G c⟩,H.zl,H.sui,λc hc=>⟨ce (H.ow c hc).1 f.1,(H.ow c hc).2⟩,H.ext.then_fr f λc hc=>(I c hc).2.1,H.few⟩
 obtain⟨Zl,o1,W,U⟩:=H.l (F D).1;exact⟨Zl,o1.fr f (λc _ hc=>g 3 ae (F D).2 c (W c hc)) λc hc=>g 3 ae (F D).2 c (U c hc),W,U⟩
theorem aZ.chg (H:aZ X C Z K h0 bw bp o n V P h){A:Nat→Prop}(D:¬A 0)(f:Fr (λc=>A (o c)) h h'):aZ (λk=>X k∨A k) C Z K h0 bw bp o n V P h':=
 H.chgM f λc hc=>⟨.inl hc,(H.ow c λh=>D (h▸hc)).2⟩
theorem aZ.less {Y:Nat→Prop}(H:aZ X C Z K h0 bw bp o n V P h)(k:∀i,X i→Y i):aZ Y C Z K h0 bw bp o n V P h:=
 ⟨λA=>H.q (A∘k _),λA=>H.c (A∘k _),λA=>H.l (A∘k _),λA=>H.p (A∘k _),λA=>H.w (A∘k _),λA=>H.s (A∘k _),λA=>H.f (A∘k _),λA=>H.e (A∘k _),λA=>H.wk (A∘k _),λi hi A=>H.ws i hi (A∘k _),H.po,H.set,H.pl,H.zl,H.sui,H.ow,H.ext,H.few⟩
theorem aZ.loc (H:aZ X C Z K h0 bw bp o n V P h){b:Nat}(u:Upd b h h')(D:o b=0∧h0.size≤b∧¬Z b∧Az (some C.E) b∧¬eB (some C.E) b):aZ X C Z K h0 bw bp o n V P h':=
 (H.chgM (A:=λ_=>False) u.fr λc hc=>by rw[show c=b from hc];exact⟨.inr D.1,D.2⟩).less λk F=>F.elim id False.elim
theorem aZ.ex (H:aZ X C Z K h0 bw bp o n V P h)(e:Ext h h'):aZ X C Z K h0 bw bp o n V P h':=by
 obtain⟨G,p2,U⟩:=H.pl;have I2:jM h' (some C.E) n:=λE' W=>by cases W;exact⟨H.set.out.ext e,H.sui.1⟩
 refine⟨λA=>(H.q A).ext e,λA=>(H.c A).ext e,λA=>?_,λA=>e.row (H.p A),λA=>⟨(H.w A).1.fr (M:=λ_=>False) e.fr λ_ _=>id,(H.w A).2⟩,λA=>(H.s A).fr (M:=λ_=>False) e.fr λ_ _=>id,λA=>(H.f A).fr (M:=λ_=>False) e.fr λ_ _=>id,λA=>(H.e A).ext e,λA=>⟨(H.wk A).1.ext e,(H.wk A).2⟩,λi hi A=>(H.ws i hi A).ext e,H.po,H.set.ext e,⟨e.row G,p2.ext e,U.ext e⟩,H.zl,H.sui,λc hc=>⟨ce (H.ow c hc).1 e.1,(H.ow c hc).2⟩,H.ext.trans e,H.few⟩;obtain⟨F,D,I,L⟩:=H.l A;exact⟨F,D.ext e,I,L⟩
def grow (o:Nat→Nat)(b lo hi:Nat):Nat→Nat:=λc=>if lo≤c∧c<hi then b else o c
theorem jl {b lo hi c:Nat}(h:c<lo):grow o b lo hi c=o c:=aA ae
theorem aZ.relab (H:aZ X C Z K h0 bw bp o n V P h){B:Nat→Prop}{o':Nat→Nat}{lo:Nat}(e:∀c,c<lo→o' c=o c)(hl:∀c,lo≤c→o c=0)(hb:∀c,lo≤c→o' c≠0→B (o' c)∧c<h.size)(h1:h0.size≤lo)(h2:∀c,lo≤c→¬Z c∧Az (some C.E) c∧¬eB (some C.E) c):aZ (λk=>X k∨B k) C Z K h0 bw bp o' n V P h:=by
 have D:∀{k},¬(X k∨B k)→¬X k∧¬B k:=λh=>⟨λx=>h (.inl x),λx=>h (.inr x)⟩
 have g:∀k,¬B k→k≠0→∀c,o' c=k↔o c=k:=λk F h0 c=>by
  rcases pT c lo with h|h
  ·rw[e c h]
  ·rw[hl c h];exact⟨λW=>absurd (by rw[←W];exact(hb c h ae).1) F,λW=>absurd W.symm h0⟩
 have G:∀k,¬B k→k≠0→(λc=>o' c=k)=λc=>o c=k:=λk F h0=>funext λc=>propext (g k F h0 c)
 have gr:∀{k v l},¬B k→k≠0→vd o k h v l→vd o' k h v l:=λF h0 ⟨Z1,I,U,L⟩=>⟨Z1,I,λc hc=>(g _ F h0 c).2 (U c hc),λc hc=>(g _ F h0 c).2 (L c hc)⟩
 have lb:bp<lo:=Nat.lt_of_not_le λh=>by have:=hl bp h;have:=H.po;omega
 refine⟨λA=>by rw[G 1 (D A).2 ae];exact H.q (D A).1,λA=>by rw[G 2 (D A).2 ae];exact H.c (D A).1,λA=>?_,λA=>H.p (D A).1,λA=>⟨(H.w (D A).1).1,λc hc=>(g 5 (D A).2 ae c).2 ((H.w (D A).1).2 c hc)⟩,λA=>gr (D A).2 ae (H.s (D A).1),λA=>gr (D A).2 ae (H.f (D A).1),λA=>by rw[G 8 (D A).2 ae];exact H.e (D A).1,λA=>⟨(H.wk (D A).1).1,λc hc=>(g 9 (D A).2 ae c).2 ((H.wk (D A).1).2 c hc)⟩,
  λi hi A=>by rw[G (10+i) (D A).2 ae];exact H.ws i hi (D A).1,by rw[e bp lb];exact H.po,H.set,H.pl,H.zl,H.sui,λc hc=>?_,H.ext,H.few⟩
 ·obtain⟨Zl,I,U,L⟩:=H.l (D A).1;exact⟨Zl,I,λc hc=>(g 3 (D A).2 ae c).2 (U c hc),λc hc=>(g 3 (D A).2 ae c).2 (L c hc)⟩
 ·rcases pT c lo with h|h
  ·rw[e c h]at hc;exact H.ow c hc
  ·exact⟨(hb c h hc).2,ae,h2 c h⟩
theorem aZ.own (H:aZ X C Z K h0 bw bp o n V P h){b lo:Nat}(D:∀c,lo≤c→o c=0)(h1:h0.size≤lo)(F:∀c,lo≤c→¬Z c∧Az (some C.E) c∧¬eB (some C.E) c):aZ (λk=>X k∨k=b) C Z K h0 bw bp (grow o b lo h.size) n V P h:=
 H.relab (λc hc=>jl hc) D (λc hc h=>by
  unfold grow at h ⊢;split at h
  ·rename_i A;rw[aB A];exact⟨rfl,A.2⟩
  ·exact absurd (D c hc) h) h1 F
theorem aZ.fresh (H:aZ X C Z K h0 bw bp o n V P h){c:Nat}(hc:h.size≤c):o c=0∧¬Z c∧Az (some C.E) c∧¬eB (some C.E) c:=by
 have A:jM h (some C.E) n:=λG F=>by cases F;exact⟨H.set.out,H.sui.1⟩
 refine⟨TZ λh=>?_,λD=>?_,A.new hc⟩
 ·have:=(H.ow c h).1;omega
 ·have:=H.set.zl c D;omega
theorem aZ.take (H:aZ X C Z K h0 bw bp o n V P h){A:PV}{P1:bS}{D:Pic}{F:Nat→Prop}(G:aZ F C Z K h0 bw bp o D A P1 h'){b:Nat}:aZ (λk=>F k∨k=b) C Z K h0 bw bp (grow o b h.size h'.size) D A P1 h':=
 G.own (λc hc=>(H.fresh hc).1) H.ext.1 λc hc=>(H.fresh hc).2
theorem aZ.fq (H:aZ (λk=>X k∨k=1) C Z K h0 bw bp o n V P h){q:QD}(hq:IsQ (λc=>o c=1) h C.bq q):aZ X C Z K h0 bw bp o n V {P with q:=q} h:=
 have D:∀{k},¬X k→k≠1→¬(X k∨k=1):=λa b h=>h.elim a b
 ⟨λ_=>hq,λA=>H.c (D A ae),λA=>H.l (D A ae),λA=>H.p (D A ae),λA=>H.w (D A ae),λA=>H.s (D A ae),λA=>H.f (D A ae),λA=>H.e (D A ae),λA=>H.wk (D A ae),λi hi A=>H.ws i hi (D A ae),H.po,H.set,H.pl,H.zl,H.sui,H.ow,H.ext,H.few⟩
theorem aZ.fc (H:aZ (λk=>X k∨k=2) C Z K h0 bw bp o n V P h){r:Nat→List Int}(hc:ga (λc=>o c=2) h V.vc (K+1) r):aZ X C Z K h0 bw bp o n V {P with rows:=r} h:=
 have D:∀{k},¬X k→k≠2→¬(X k∨k=2):=λa b h=>h.elim a b
 ⟨λA=>H.q (D A ae),λ_=>hc,λA=>H.l (D A ae),λA=>H.p (D A ae),λA=>H.w (D A ae),λA=>H.s (D A ae),λA=>H.f (D A ae),λA=>H.e (D A ae),λA=>H.wk (D A ae),λi hi A=>H.ws i hi (D A ae),H.po,H.set,H.pl,H.zl,H.sui,H.ow,H.ext,H.few⟩
theorem aZ.fl (H:aZ (λk=>X k∨k=3) C Z K h0 bw bp o n V P h)(G:X 4){sl:Value}{acc:List Acc}(I:∃F:Nat→Prop,Rp.Ow lT F h sl acc∧(∀c,F c→o c=3)∧∀c,blk sl c→o c=3):aZ X C Z K h0 bw bp o n {V with sl:=sl} {P with acc:=acc} h:=
 have D:∀{k},¬X k→k≠3→¬(X k∨k=3):=λa b h=>h.elim a b
 ⟨λA=>H.q (D A ae),λA=>H.c (D A ae),λA=>I,λA=>absurd G A,λA=>H.w (D A ae),λA=>H.s (D A ae),λA=>H.f (D A ae),λA=>H.e (D A ae),λA=>H.wk (D A ae),λi hi A=>H.ws i hi (D A ae),H.po,H.set,H.pl,H.zl,H.sui,H.ow,H.ext,H.few⟩
theorem aZ.fp (H:aZ (λk=>X k∨k=4) C Z K h0 bw bp o n V P h){st:Int}{rt:Bool}{pk:Int}(F:h[bp]? =some (.cells (jh C V {P with sent:=st,ret:=rt,picks:=pk}) 106 (0,0))):aZ X C Z K h0 bw bp o n V {P with sent:=st,ret:=rt,picks:=pk} h:=
 have D:∀{k},¬X k→k≠4→¬(X k∨k=4):=λa b h=>h.elim a b
 ⟨λA=>H.q (D A ae),λA=>H.c (D A ae),λA=>H.l (D A ae),λ_=>F,λA=>H.w (D A ae),λA=>H.s (D A ae),λA=>H.f (D A ae),λA=>H.e (D A ae),λA=>H.wk (D A ae),λi hi A=>H.ws i hi (D A ae),H.po,H.set,H.pl,H.zl,H.sui,H.ow,H.ext,H.few⟩
theorem aZ.fs (H:aZ (λk=>X k∨k=6) C Z K h0 bw bp o n V P h)(F:X 4){sv:Value}{l:List (List Int)}(G:vd o 6 h sv l):aZ X C Z K h0 bw bp o n {V with sv:=sv} {P with stamps:=l} h:=
 have D:∀{k},¬X k→k≠6→¬(X k∨k=6):=λa b h=>h.elim a b
 ⟨λA=>H.q (D A ae),λA=>H.c (D A ae),λA=>H.l (D A ae),λA=>absurd F A,λA=>H.w (D A ae),λ_=>G,λA=>H.f (D A ae),λA=>H.e (D A ae),λA=>H.wk (D A ae),λi hi A=>H.ws i hi (D A ae),H.po,H.set,H.pl,H.zl,H.sui,H.ow,H.ext,H.few⟩
theorem aZ.ff (H:aZ (λk=>X k∨k=7) C Z K h0 bw bp o n V P h)(F:X 4){lv:Value}{l:List (List Int)}(G:vd o 7 h lv l):aZ X C Z K h0 bw bp o n {V with lv:=lv} {P with left:=l} h:=
 have D:∀{k},¬X k→k≠7→¬(X k∨k=7):=λa b h=>h.elim a b
 ⟨λA=>H.q (D A ae),λA=>H.c (D A ae),λA=>H.l (D A ae),λA=>absurd F A,λA=>H.w (D A ae),λA=>H.s (D A ae),λ_=>G,λA=>H.e (D A ae),λA=>H.wk (D A ae),λi hi A=>H.ws i hi (D A ae),H.po,H.set,H.pl,H.zl,H.sui,H.ow,H.ext,H.few⟩
theorem aZ.fe (H:aZ (λk=>X k∨k=8) C Z K h0 bw bp o n V P h)(F:X 4){ev:Value}{l:List Int}(G:Rp.Sl (Rp.int .i64) (λc=>o c=8) h ev l):aZ X C Z K h0 bw bp o n {V with ev:=ev} {P with fin:=l} h:=
 have D:∀{k},¬X k→k≠8→¬(X k∨k=8):=λa b h=>h.elim a b
 ⟨λA=>H.q (D A ae),λA=>H.c (D A ae),λA=>H.l (D A ae),λA=>absurd F A,λA=>H.w (D A ae),λA=>H.s (D A ae),λA=>H.f (D A ae),λ_=>G,λA=>H.wk (D A ae),λi hi A=>H.ws i hi (D A ae),H.po,H.set,H.pl,H.zl,H.sui,H.ow,H.ext,H.few⟩
end
end
end Go.Proofs.YtjljhnandbbldaaGreatDoor
namespace Go.Crisp
open Go
section
theorem Rp.el_set {w:Nat}{ds cs:List Value}{n i j:Nat}(F:ds.length=n*w)(hc:cs.length=w)(hi:i<n)(G:j<n):Rp.el w (ds.take (i*w)++cs++ds.drop (i*w+w)) j=if j=i then cs else Rp.el w ds j:=by
 have D:i*w+w≤ds.length:=by rw[F,←sI];exact gO w hi
 have H:(ds.take (i*w)).length=i*w:=by rw[di];omega
 split
 ·rename_i h;subst h;show((ds.take (j*w)++cs++ds.drop (j*w+w)).drop (j*w)).take w=cs;rw[cL,Nk ae,oC ae,eZ,JU ae,fg ae]
 ·rename_i h;show((ds.take (i*w)++cs++ds.drop (i*w+w)).drop (j*w)).take w=(ds.drop (j*w)).take w;rcases Nat.lt_or_gt_of_ne h with h1|h1
  ·have A:j*w+w≤i*w:=by rw[←sI];exact gO w h1
   rw[cL,Nk ae,JU (by rw[ib];omega),List.drop_take,List.take_take]
   congr 1;omega
  ·have A:i*w+w≤j*w:=by rw[←sI];exact gO w h1
   rw[Nj,oC (by rw[cF];omega),eZ,EF]
   congr 2
   rw[cF];omega
theorem Rp.Ow.setw {α:Type}{e:Rp α}{Z:Nat→Prop}{h:ai}{v:Value}{l:List α}(H:Rp.Ow e Z h v l){k:IntKind}{i:Nat}(hi:i<l.length):∃p,bh e.w v (.int k (i:Int))=some p∧
  ∀(cs:List Value) (x:α) (K:Value→ai→Prop),e.R Z h cs x→(∀h',Rp.Ow e Z h' v (l.set i x)→Fr (blk v) h h'→h'.size=h.size→K undef h')→stK e.w p (.agg cs.toArray) h K:=by
 obtain⟨ds,ho,I,he⟩:=H;have hl:=ho.sl.1;rcases ho with⟨rfl,h2,h3⟩|⟨b,cap,r,ty,rfl,hc,_,hr,A⟩
 ·omega
 ·refine⟨_,ma hi,λcs x K L HK=>?_⟩;have W:=e.len L;have aa:i*e.w+e.w≤ds.length:=by rw[hl,←sI];exact gO e.w hi
  refine stN A (by simp;omega) (e.one L) W ?_;have u:Upd b h (fO h b (.cells (wrL (ds++r).toArray (0+i*e.w) cs) ty (0,0))):=Upd.set;have f:=u.fr;have ec:wrL (ds++r).toArray (0+i*e.w) cs=((ds.take (i*e.w)++cs++ds.drop (i*e.w+e.w))++r).toArray:=by
   apply JW
   ·simp[cN];omega
   ·intro j h1 h2;apply oE;rw[←oG,←oG,S6 _ _ _ _ (by simp;omega)];simp only[yX,aO];have U:(ds.take (i*e.w)).length=i*e.w:=by rw[di];omega
    split
    ·rename_i D;rw[cL,cL,mP ae,pR ae,U]
    ·rename_i D;by_cases h3:j<i*e.w
     ·rw[pR (show j<ds.length by omega),cL,cL,pR ae,List.getElem?_take,aB h3]
     ·by_cases h4:j<ds.length
      ·rw[pR h4,cL,cL,mP ae,mP ae,U,pR (by rw[ib];omega),Uw]
       congr 1;omega
      ·rw[mP (show ds.length≤j by omega),cL,cL,mP ae,mP ae,U,mP (by rw[ib];omega),ib]
       congr 1;omega
  refine HK _ ⟨ds.take (i*e.w)++cs++ds.drop (i*e.w+e.w),.inr ⟨b,cap,r,ty,by rw[vw],by rw[vw];exact hc,?_,?_,?_⟩,I,λj D=>?_⟩ (f.mono λk _ F=>F) u.1
  ·rw[vw];simp;omega
  ·simp at hr ⊢;omega
  ·rw[←ec];exact lD A
  ·rw[vw]at D;rw[Rp.el_set hl W hi D,AL];by_cases G:j=i
   ·rw[aB G,aB G.symm];exact e.fr L f λk _ F A=>I b (by exact rfl) (by rw[←show k=b from A];exact F)
   ·rw[aA G,aA (ie G)];exact e.fr (he j D) f λk _ F A=>I b (by exact rfl) (by rw[←show k=b from A];exact F)
theorem Rp.Ow.set1 {α:Type}{e:Rp α}(D:e.w=1){Z:Nat→Prop}{h:ai}{v:Value}{l:List α}(H:Rp.Ow e Z h v l){k:IntKind}{i:Nat}(hi:i<l.length):∃p,bh 1 v (.int k (i:Int))=some p∧
  ∀(c:Value) (x:α) (K:Value→ai→Prop),e.R Z h [c] x→(∀h',Rp.Ow e Z h' v (l.set i x)→Fr (blk v) h h'→h'.size=h.size→K undef h')→stK 1 p c h K:=by
 obtain⟨p,A,G⟩:=H.setw (k:=k) hi;rw[D]at A;refine⟨p,A,λc x K F L=>?_⟩;have:=G [c] x K F L;have o:=e.one F c (by simp);have I:stK e.w p (.agg [c].toArray) h K=stK 1 p c h K:=by
  rw[D];unfold stK;rw[cJ o];rfl
 rw[←I];exact this
structure Cp {α:Type}(e:Rp α)(Z:Nat→Prop)(h0:ai)(r:Option (Value×List α))(o:Option (Value×α))(g:ai):Prop where
 ext:Ext h0 g
 zl:∀b,Z b→b<h0.size
 row:∀p,r=some p→Rp.Ow e Z g p.1 p.2∧∀b,blk p.1 b→h0.size≤b
 el:∀p,o=some p→(∃cs,SlC e.w g p.1 1 cs∧e.R Z g (Rp.el e.w cs 0) p.2)∧∀b,blk p.1 b→h0.size≤b∧b<g.size
 apart:∀p q,r=some p→o=some q→∀b,blk p.1 b→¬blk q.1 b
section
variable {α:Type}{e:Rp α}{Z:Nat→Prop}{h0 g:ai}{r:Option (Value×List α)}{o:Option (Value×α)}{K:Value→ai→Prop}
theorem Cp.start (h:ai)(zl:∀b,Z b→b<h.size):Cp e Z h none none h:=⟨Ext.refl _,zl,by simp,by simp,by simp⟩
theorem Cp.row0 {t:TypeId}(C:Cp e Z h0 none o g)(H:∀v I,Cp e Z h0 (some (v,[])) o I→K v I):cO #[] t 0 [] g K:=by
 refine cT (c':=#[]) rfl λb I r1 D W=>H _ _ ⟨C.ext.trans D,C.zl,λp A=>?_,λp A=>?_,λp q A hq F G L=>?_⟩
 ·cases A;refine⟨⟨[],.inr ⟨b,0,[],t,rfl,ck _,by simp,by simp,r1⟩,λc hc U=>?_,λi hi=>absurd hi (by simp)⟩,λc hc=>?_⟩
  ·have h1:=C.zl c U;have:=C.ext.1;rw[show c=b from hc]at h1;omega
  ·rw[show c=b from hc];exact bA C.ext.1 W
 ·obtain⟨⟨cs,a,F⟩,c⟩:=C.el p A;exact⟨⟨cs,a.fr D.fr λ_ _ _=>id,e.ext F D⟩,λb G=>⟨(c b G).1,ce (c b G).2 D.1⟩⟩
 ·cases A;have:=((C.el q hq).2 F L).2;rw[show F=b from G]at this;omega
theorem Cp.row1 {t:TypeId}{c:Array Value}{cs:List Value}{x:α}(C:Cp e Z h0 r none g)(D:e.R Z h0 cs x)(hc:c.size=e.w)(H:∀v F,Cp e Z h0 r (some (v,x)) F→K v F):cO c t 1 [(0,e.w,.agg cs.toArray)] g K:=by
 refine cT (Rp.fill_whole hc (e.len D)) λb F r1 G U=>H _ _ ⟨C.ext.trans G,C.zl,λp A=>⟨(C.row p A).1.ext G,(C.row p A).2⟩,λp A=>?_,λp q A hq b' hb I=>?_⟩
 ·cases A;have L:=Rp.SlC.single r1;rw[e.len D]at L;refine⟨⟨cs,L,?_⟩,λk W=>?_⟩
  ·rw[Rp.el_self (e.len D)];exact e.ext D (C.ext.trans G)
  ·rw[show k=b from W];exact⟨bA C.ext.1 U,aW r1⟩
 ·cases hq;have:=(C.row p A).1.lt hb;rw[show b'=b from I]at this;omega
theorem Cp.row1c {t:TypeId}{z c:Value}{x:α}(W:e.w=1)(C:Cp e Z h0 r none g)(G:e.R Z h0 [c] x)(H:∀v D,Cp e Z h0 r (some (v,x)) D→K v D):cO #[z] t 1 [(0,1,c)] g K:=by
 refine cT (Rp.fill_one (e.one G c (by simp))) λb D r1 F U=>H _ _ ⟨C.ext.trans F,C.zl,λp A=>⟨(C.row p A).1.ext F,(C.row p A).2⟩,λp A=>?_,λp q A hq b' hb I=>?_⟩
 ·cases A;have L:=Rp.SlC.single (cs:=[c]) r1;rw[show[c].length=e.w by rw[W];rfl]at L;refine⟨⟨[c],L,?_⟩,λk hk=>?_⟩
  ·rw[Rp.el_self (e.len G)];exact e.ext G (C.ext.trans F)
  ·rw[show k=b from hk];exact⟨bA C.ext.1 U,aW r1⟩
 ·cases hq;have:=(C.row p A).1.lt hb;rw[show b'=b from I]at this;omega
theorem Cp.app {t:TypeId}{z v u:Value}{l l2:List α}{bytes:Nat}(C:Cp e Z h0 (some (v,l)) o g)(hu:Rp.Sl e Z h0 u l2)(U:z.cells.size=e.w)(A:(l.length+l2.length)*bytes≤140737488355328)(hn:l.length+l2.length≤9223372036854775807)
  (H:∀L G,Cp e Z h0 (some (L,l++l2)) o G→K L G):cR z t e.w bytes v u g K:=by
 obtain⟨o1,n1⟩:=C.row _ rfl;obtain⟨ds,hs,_,he⟩:=hu.ext C.ext;refine Rp.app_ow (l2:=l2) o1 hs he U A hn (λb A=>ce (C.zl b A) C.ext.1) λL G o' I n'=>H L G ⟨C.ext.then_fr I n1,C.zl,λp D=>?_,λp D=>?_,λp q D hq b A F=>?_⟩
 ·cases D;refine⟨o',λb A=>?_⟩;rcases n' b A with h|h
  ·exact n1 b h
  ·exact bA C.ext.1 h
 ·obtain⟨⟨cs,a,b'⟩,c⟩:=C.el p D;obtain⟨aa,_,W,_⟩:=o1;refine⟨⟨cs,a.fr I λb _ A hv=>C.apart _ _ rfl D b hv A,e.fr b' I λb _ U A=>W b A U⟩,λb A=>⟨(c b A).1,ce (c b A).2 I.1⟩⟩
 ·cases D;rcases n' b A with h|h
  ·exact C.apart _ _ rfl hq b h F
  ·have:=((C.el q hq).2 b F).2;omega
theorem Cp.app1 {t:TypeId}{z v u:Value}{l:List α}{x:α}{bytes:Nat}(C:Cp e Z h0 (some (v,l)) (some (u,x)) g)(U:z.cells.size=e.w)(F:(l.length+1)*bytes≤140737488355328)(W:l.length+1≤9223372036854775807)
  (H:∀D A,Rp.Ow e Z A D (l++[x])→Ext h0 A→(∀b,blk D b→h0.size≤b)→K D A):cR z t e.w bytes v u g K:=by
 obtain⟨I,G⟩:=C.row _ rfl;obtain⟨⟨cs,a,b'⟩,c⟩:=C.el _ rfl;refine Rp.app_ow (l2:=[x]) I a (λi hi=>?_) U F W (λb F=>ce (C.zl b F) C.ext.1) λD A o' L n'=>H D A o' (C.ext.then_fr L G) λb F=>?_
 ·have h0:i=0:=by simpa using hi
  subst h0;exact b'
 rcases n' b F with h|h
 ·exact G b h
 ·exact bA C.ext.1 h
end
end
end Go.Crisp
namespace Go.Proofs.YtjljhnandbbldaaGreatDoor
open Go Go.Crisp
attribute [local irreducible] ag cO aT stK aG vK qK bL gK eM bC mkK cR HA JA Ep bsK clK vu pP Zb
open _root_.Go.Proofs.Tryz
section
theorem HI {h:ai}{b:Nat}{v:Value}{m:Pic}(H:du h b v m)(A:gR m.w m.h m.c):ag prog un #[ptr b] h λr h'=>r=af (m.w*m.h*m.c)∧h'=h:=by
 apply TK;unfold IL;have D:=dB A;refine ag.at (vP H) (ag.at (uh H) ?_);simp only[go_sem];rw[w64 (n:=m.w*m.h) ae ae];refine ag.at (fZ H) ?_;simp only[go_sem];rw[w64 (n:=m.w*m.h*m.c) ae ae];exact⟨rfl,trivial⟩
def eF (C:C21)(Z:Nat→Prop)(K:Nat)(h0:ai)(bw:Nat→Nat)(bp:Nat)(o:Nat→Nat)(n:Pic)(P:bS)(h:ai):Prop:=∃V,aZ (λ_=>False) C Z K h0 bw bp o n V P h
def PTo (C:C21)(Z:Nat→Prop)(K:Nat)(h0:ai)(bw:Nat→Nat)(bp:Nat)(o:Nat→Nat)(h:ai)(n':Pic)(P':bS)(h':ai):Prop:=∃o',eF C Z K h0 bw bp o' n' P' h'∧(∀c,c<h.size→o' c=o c)∧Fr (λc=>o c≠0∨eB (some C.E) c) h h'
def mL (P:bS)(who:Nat)(buf lo cnt:Int)(wr:Bool):bS:={P with acc:=P.acc++[⟨who,P.rows who,buf,lo,lo+cnt,wr⟩]}
section
variable {C:C21}{Z:Nat→Prop}{K:Nat}{h0 h:ai}{bw:Nat→Nat}{bp:Nat}{o:Nat→Nat}{n:Pic}{P:bS}
theorem eF.row (H:eF C Z K h0 bw bp o n P h):∃V,aZ (λ_=>False) C Z K h0 bw bp o n V P h∧h[bp]? =some (.cells (jh C V P) 106 (0,0)):=by
 obtain⟨V,H⟩:=H;exact⟨V,H,H.p id⟩
theorem PTo.refl (H:eF C Z K h0 bw bp o n P h):PTo C Z K h0 bw bp o h n P h:=⟨o,H,λ_ _=>rfl,Fr.refl _ _⟩
theorem eF.ext {h':ai}(H:eF C Z K h0 bw bp o n P h)(e:Ext h h'):eF C Z K h0 bw bp o n P h':=by
 obtain⟨V,H⟩:=H;exact⟨V,H.ex e⟩
theorem PTo.trans {A:Nat→Nat}{h1 D:ai}{I G:Pic}{P1 F:bS}(a:eF C Z K h0 bw bp A I P1 h1∧(∀c,c<h.size→A c=o c)∧Fr (λc=>o c≠0∨eB (some C.E) c) h h1)(b:PTo C Z K h0 bw bp A h1 G F D):PTo C Z K h0 bw bp o h G F D:=by
 obtain⟨L,a1,f1⟩:=a;obtain⟨o2,H,a2,f2⟩:=b;have s:=f1.1;exact⟨o2,H,λc hc=>(a2 c ae).trans (a1 c hc),f1.after f2 λc hc h=>h.imp (λh=>by rwa [a1 c hc]at h) id⟩
theorem WF {r:Value}(A:aV r=true)(a b c d:Int)(w:Bool):aR #[aj,(.slice none 0 0),aj,aj,aj,(.bool false)] [(0,1,af a),(1,1,r),(2,1,af b),(3,1,af c),(4,1,af d),(5,1,.bool w)]=some #[af a,r,af b,af c,af d,.bool w]:=by
 refine(cn (n:=1) (l:=[af a]) rfl rfl (by simp)).trans ?_;refine(cn (n:=1) (l:=[r]) (cJ A) rfl (by simp[cN])).trans ?_;refine(cn (n:=1) (l:=[af b]) rfl rfl (by simp[cN])).trans ?_;refine(cn (n:=1) (l:=[af c]) rfl rfl (by simp[cN])).trans ?_;refine(cn (n:=1) (l:=[af d]) rfl rfl (by simp[cN])).trans ?_;refine(cn (n:=1) (l:=[.bool w]) rfl rfl (by simp[cN])).trans ?_;rw[ii];simp[wrL]
theorem HN (H:eF C Z K h0 bw bp o n P h){who:Nat}(hw:who≤K){buf lo cnt:Int}{wr:Bool}(hl:P.acc.length≤1000000)(hb:0≤buf)(h1:0≤lo)(h2:1≤cnt)(h3:lo+cnt≤1000000000000):
  ag prog eo #[ptr bp,af (who:Int),af buf,af lo,af cnt,.bool wr] h λr h'=>r=.tuple #[]∧PTo C Z K h0 bw bp o h n (mL P who buf lo cnt wr) h':=by
 obtain⟨V,H,row⟩:=H.row;apply Js;unfold ye;have c4:aE h ⟨bp,4,none⟩=some V.vc:=ao row;refine aQ (λk=>k=h) rfl ?_;simp only[go_sem,aO];refine aF V.vc (λk e=>by rw[e];exact c4) ?_;rw[w64 (n:=lo+cnt) ae ae];refine(ze6 (H.c id) who).mono λr g1 ⟨U,G,n1⟩=>?_
 have D:MN (K+1) P.rows (who:Int)=P.rows who:=by
  unfold MN;rw[aB ae,dJ]
 rw[D]at U;have ad:(P.rows who).length=K+1:=by
  obtain⟨bc,sl,sv,t,_,CA⟩:=H.c id;exact CA.len who ae
 have hK:=H.few;rw[KF _ #[af (who:Int),r,af buf,af lo,af (lo+cnt),.bool wr] (WF (Er U) _ _ _ _ _)];have H1:=H.ex G;obtain⟨Zl,ol,z1,W⟩:=H1.l id;have aa:=H.po;have L:DS Zl g1 bp 5 (jh C V P) 106 V.sl P.acc:=⟨G.row row,rfl,ol,⟨λh=>by have:=W _ h;omega,λh=>by have:=z1 _ h;omega⟩,λc hc=>(H1.ow c (by rw[z1 c hc];omega)).1⟩
 refine(zf7 (a:=⟨who,P.rows who,buf,lo,lo+cnt,wr⟩) L ⟨r,rfl,U.ints⟩ (by show(P.rows who).length≤_;omega) hl (by simp[X2];omega)).mono λ_ g2 ⟨s',Z',F,f2,n2,nz⟩=>?_
 have A0:Fr (λc=>(λk=>k=3∨k=4) (o c)) g1 g2:=f2.mono λc _ hc=>hc.elim (λh=>.inr (by rw[h];exact aa)) λh=>.inl (W c h)
 have H2:=H.take ((H1.chg (A:=λk=>k=3∨k=4) ae A0)) (b:=3);have s1:=G.1;have s2:=f2.1;have g3:∀c,blk s' c∨Z' c→grow o 3 h.size g2.size c=3:=λc hc=>by
  have lt:c<g2.size:=hc.elim (λh=>F.own.lt h) λh=>F.zlt c h
  unfold grow;split
  ·rfl
  ·rcases hc with I|I
   ·exact(n2 c I).elim (W c) λh=>ae
   ·exact(nz c I).elim (z1 c) λh=>ae
 have H3:=(H2.less (Y:=λk=>k=4∨k=3) λk hk=>by rcases hk with (h|h|h)|h<;>first|exact h.elim|exact .inr h|exact .inl h).fl (X:=λk=>k=4) rfl ⟨Z',F.own,λc hc=>g3 c (.inr hc),λc hc=>g3 c (.inl hc)⟩;have H4:=(H3.less (Y:=λk=>False∨k=4) λk hk=>.inr hk).fp (X:=λ_=>False) (st:=P.sent) (rt:=P.ret) (pk:=P.picks) F.var;exact⟨trivial,_,⟨_,H4⟩,λc hc=>jl hc,(G.fr (M:=λc=>o c≠0∨eB (some C.E) c)).after A0 λc _ hc=>.inl (by rcases hc with h|h<;>omega)⟩
end
end
section
def fB (C:C21)(K:Nat)(P:bS)(i:Int):Bool:=
 if i<0∨(K:Int)<i then false
 else if 0<i then decide ((P.ws (i-1).toNat).state=1∨((P.ws (i-1).toNat).state=0∧bX P.q≠1))
 else if P.ret=true then false
 else if P.sent<bN C.d then decide (kO P.q≠1)
 else !P.q.closed||decide (P.left.length=K)
section
variable {C:C21}{Z:Nat→Prop}{K:Nat}{h0 h:ai}{bw:Nat→Nat}{bp:Nat}{o:Nat→Nat}{n:Pic}{P:bS}
theorem SlC.len {w:Nat}{h:ai}{v:Value}{n:Nat}{cs:List Value}(H:SlC w h v n cs):aD v=some (af (n:Int)):=by
 obtain⟨a,c,e⟩:=H.isSl;rw[e];rfl
theorem vd.len {k:Nat}{v:Value}{l:List (List Int)}(H:vd o k h v l):aD v=some (af (l.length:Int)):=by
 obtain⟨Z,A,_⟩:=H;obtain⟨a,c,e⟩:=A.isSl;rw[e];rfl
theorem aZ.wat {X:Nat→Prop}{V:PV}(H:aZ X C Z K h0 bw bp o n V P h)(A:¬X 9){i:Nat}(hi:i<K):∃p,bh 1 V.wv (af (i:Int))=some p∧ldV h p=some (ptr (bw i)):=by
 obtain⟨p,a1,a2⟩:=(H.wk A).1.at1 (k:=.i64) hi;refine⟨p,a1,?_⟩;rw[a2];simp[hi]
theorem zfT (H:eF C Z K h0 bw bp o n P h):ag prog sw #[ptr bp] h λr h'=>r=.bool (decide (P.left.length=K))∧h'=h:=by
 obtain⟨V,H,row⟩:=H.row;apply Ju;unfold yg;have G:aE h ⟨bp,6,none⟩=some V.wv:=ao row;have A:aE h ⟨bp,11,none⟩=some V.lv:=ao row;have F:=SlC.len (H.wk id).1;have D:=(H.f id).len;simp only[go_sem,aO,G,A,F,D];exact⟨by congr 1;simp;omega,trivial⟩
theorem zcT (O:C.Ok)(H:eF C Z K h0 bw bp o n P h){i:Int}(hi:I64 i):ag prog mG #[ptr bp,af i] h λr h'=>r=.bool (fB C K P i)∧h'=h:=by
 have HP:=H;obtain⟨V,H,row⟩:=H.row;apply Jq;unfold yc;have F:aE h ⟨bp,6,none⟩=some V.wv:=ao row;have W:aE h ⟨bp,3,none⟩=some (ptr C.bq):=ao row;have I:aE h ⟨bp,12,none⟩=some (.bool P.ret):=ao row;have c8:aE h ⟨bp,8,none⟩=some (af P.sent):=ao row;have c2:aE h ⟨bp,2,none⟩=some (ptr C.bl):=ao row;have L:=SlC.len (H.wk id).1;have hq:=H.q id;unfold fB;unfold I64 at hi;by_cases h1:i<0
 ·simp only[go_sem,h1];exact⟨by simp,trivial⟩
 by_cases U:(K:Int)<i
 ·simp only[go_sem,aO,h1,F,L,U];exact⟨by simp,trivial⟩
 rw[aA ae];by_cases G:0<i
 ·rw[aB G];simp only[go_sem,aO,h1,F,L,U,G];refine aQ (λk=>k=h) rfl ?_;refine aF V.wv (λk e=>by rw[e];exact F) ?_;rw[w64 (n:=i-1) ae ae];obtain⟨m,hm⟩:∃m:Nat,i-1=(m:Int):=⟨(i-1).toNat,ae⟩
  have A:m<K:=ae;obtain⟨p,a1,a2⟩:=H.wat id A;rw[hm,a1,ah];refine aF (ptr (bw m)) (λk e=>by rw[e];exact a2) ?_
  try simp only[go_sem,aO]
  refine aF (ptr C.bq) (λk e=>by rw[e];exact W) ?_;refine(HU (H.ws m A id) hq).mono λr h' ⟨er,eh⟩=>?_
  subst eh;exact⟨by rw[er,dJ],rfl⟩
 ·rw [aA G];simp only[go_sem,aO,h1,F,L,U,G,I];by_cases D:P.ret=true
  ·rw[aB D,D];simp only[go_sem];exact⟨trivial,trivial⟩
  ·rw[aA D];have h5:P.ret=false:=by simpa using D
   rw[h5];simp only[go_sem,aO];refine aQ (λk=>k=h) rfl ?_;refine aF (af P.sent) (λk e=>by rw[e];exact c8) ?_
   try simp only[go_sem,aO]
   refine aF (ptr C.bl) (λk e=>by rw[e];exact c2) ?_;refine ag.at (ET H.pl O.d) ⟨rfl,?_⟩;rw[cI,ah];refine aq (λg=>?_) (λg=>?_)
   ·rw[aB g];simp only[go_sem,aO,W];exact SV hq
   ·rw[aA g];simp only[go_sem,aO,W];refine ag.at (SM hq) ?_;cases hc:P.q.closed with
    |true=>
     simp only[go_sem];refine ag.at (zfT HP) ?_;simp only[go_sem];exact⟨by simp,trivial⟩
    |false=>
     simp only[go_sem];exact⟨by simp,trivial⟩
end
end
section
def EY (C:C21)(K:Nat)(P:bS)(k:Nat):List Int:=((List.range k).map λi:Nat=>(i:Int)).filter λi=>fB C K P i
theorem R4 (C:C21)(K:Nat)(P:bS)(k:Nat):EY C K P (k+1)=EY C K P k++if fB C K P (k:Int)=true then[(k:Int)]else[]:=by
 unfold EY;rw[rK,jW,List.filter_append]
 congr 1
 simp[List.filter_cons]
theorem Jd (C:C21)(K:Nat)(P:bS)(k:Nat):(EY C K P k).length≤k:=by
 unfold EY;exact bA (List.length_filter_le _ _) (by simp)
section
variable {C:C21}{Z:Nat→Prop}{K:Nat}{h0 h:ai}{bw:Nat→Nat}{bp:Nat}{o:Nat→Nat}{n:Pic}{P:bS}
theorem Qp (H:eF C Z K h0 bw bp o n P h):ag prog iW #[ptr bp] h λr h'=>r=af ((K+1:Nat):Int)∧h'=h:=by
 obtain⟨V,H,row⟩:=H.row;apply Fk;unfold uW;have D:aE h ⟨bp,6,none⟩=some V.wv:=ao row;have A:=SlC.len (H.wk id).1;have F:=H.few;simp only[go_sem,aO,D,A];rw[w64 (n:=(K:Int)+1) ae ae];exact⟨rfl,trivial⟩
theorem Mm (O:C.Ok)(H:eF C Z K h0 bw bp o n P h):ag prog jx #[ptr bp] h λr h'=>New (Rp.int .i64) h h' r (EY C K P (K+1)):=by
 apply Cd;unfold qX;have W:K≤256:=by obtain⟨V,H⟩:=H;exact H.few.2
 refine ag.at (Qp H) ?_;refine bO (α:=Value) (K+1) 0 (λi v=>[v,af (i:Int)]) (λi v g=>New (Rp.int .i64) h g v (EY C K P i)) (.slice none 0 0) rfl (bZ _) (New.nil (Ext.refl _)) λi v g again ρ _ hi N D=>?_
 simp only[iq,vN];rw[cI,ah];refine aq (λg1=>?_) (λg1=>?_)
 ·have A:i<K+1:=ae;have F:(i:Int)+1=((i+1:Nat):Int):=ae;have hl:=Jd C K P i;refine ag.at (zcT O (H.ext N.2.1) (by unfold I64;omega)) ?_;have G:=R4 C K P i;cases I:fB C K P (i:Int)with
  |true=>
   rw[I,aB rfl]at G;rw[fK];refine New.push_int N rfl ae ae λL g2 U=>?_
   simp only[go_sem];rw[w64 (n:=(i:Int)+1) ae ae,F];exact D L g2 A (by rw[G];exact U)
  |false=>
   rw[I]at G;rw[cg];simp only[go_sem];rw[w64 (n:=(i:Int)+1) ae ae,F];exact D v g A (by rw[G];simpa using N)
 ·have:i=K+1:=ae;subst this;exact N
theorem Qc (H:eF C Z K h0 bw bp o n P h):ag prog mx #[ptr bp] h λr h'=>r=.bool P.ret∧h'=h:=by
 obtain⟨V,H,row⟩:=H.row;apply Ce;unfold qY;have c:aE h ⟨bp,12,none⟩=some (.bool P.ret):=ao row;simp only[go_sem,aO,c];exact⟨trivial,trivial⟩
theorem Xa (H:eF C Z K h0 bw bp o n P h):ag prog qF #[ptr bp] h λr h'=>r=af P.picks∧h'=h:=by
 obtain⟨V,H,row⟩:=H.row;apply G0;unfold wS;have c:aE h ⟨bp,13,none⟩=some (af P.picks):=ao row;simp only[go_sem,aO,c];exact⟨trivial,trivial⟩
theorem UT (H:eF C Z K h0 bw bp o n P h):ag prog oL #[ptr bp] h λr h'=>r=.pointer (some ⟨bp,5,none⟩)∧h'=h:=by
 apply Fj;unfold uV;simp only[go_sem,aO];exact⟨trivial,trivial⟩
theorem eF.led (H:eF C Z K h0 bw bp o n P h):∃A cs sl,DS A h bp 5 cs 106 sl P.acc:=by
 obtain⟨V,H,row⟩:=H.row;obtain⟨A,F,D,G⟩:=H.l id;have I:=H.po;exact⟨A,_,V.sl,row,rfl,F,⟨λh=>by have:=G _ h;omega,λh=>by have:=D _ h;omega⟩,λc hc=>(H.ow c (by rw[D c hc];omega)).1⟩
def yN (K:Nat)(P:bS)(i:Int):List Int:=if i<1∨(K:Int)<i then[]else(P.ws (i-1).toNat).tiles
theorem DL (H:eF C Z K h0 bw bp o n P h){i:Int}(hi:I64 i)(L:∀j,j<K→(P.ws j).tiles.length≤1000000):ag prog lN #[ptr bp,af i] h λr h'=>New (Rp.int .i64) h h' r (yN K P i):=by
 obtain⟨V,H,row⟩:=H.row;apply GZ;unfold wR;have F:aE h ⟨bp,6,none⟩=some V.wv:=ao row;have G:=SlC.len (H.wk id).1;unfold yN;unfold I64 at hi;by_cases h1:i<1
 ·rw[aB (.inl h1)];simp only[go_sem,h1];exact New.nil (Ext.refl _)
 by_cases D:(K:Int)<i
 ·rw[aB (.inr D)];simp only[go_sem,aO,h1,F,G,D];exact New.nil (Ext.refl _)
 rw[aA ae];simp only[go_sem,aO,h1,F,G,D];rw[w64 (n:=i-1) ae ae];obtain⟨m,I⟩:∃m:Nat,i-1=(m:Int):=⟨(i-1).toNat,ae⟩
 have A:m<K:=ae;obtain⟨p,a1,a2⟩:=H.wat id A;rw[I,a1,ah,a2,ah];exact zeE (H.ws m A id) (L m A)
theorem US (H:eF C Z K h0 bw bp o n P h):ag prog oK #[ptr bp] h λr h'=>(P.ret=false∧r=.tuple #[.pointer none,.bool false]∧h'=h)∨(P.ret=true∧∃p,r=.tuple #[p,.bool true]∧uC h h' p n):=by
 obtain⟨V,H,row⟩:=H.row;apply Fi;unfold uU;have A:aE h ⟨bp,12,none⟩=some (.bool P.ret):=ao row;have D:aE h ⟨bp,1,none⟩=some (ptr C.bt):=ao row;simp only[go_sem,aO,A];cases P.ret with
 |false=>
  simp only[go_sem];exact .inl ⟨trivial,trivial,trivial⟩
 |true=>
  simp only[go_sem,aO,D];exact(zf5 H.set.out H.sui.1).mono λr h' N=>.inr ⟨trivial,r,rfl,N⟩
theorem YW {p:Value}{t:Tbl}(H:gd Z h p t):aV p=true:=by
 obtain⟨b,lv,rfl,_⟩:=H.open;rfl
theorem UY {b:Nat}{d:dC}{p q:Value}(H:uD Z h b d p q):ag prog jy #[ptr b] h λr h'=>r=.agg #[p,q,af d.s.border]∧Ext h h':=by
 apply G6;unfold wT;refine aI λI h1 r1 A D=>?_
 simp only[go_sem];rw[Du (A.row H.row) 0 3 [p,q,af d.s.border] rfl rfl,ah];refine bI (l:=[p,q,af d.s.border]) r1 rfl (az (YW H.x) (az (YW H.y) (az rfl aU))) rfl λG r2 F=>?_
 rw[aL r2 3 rfl,ah];exact⟨rfl,A.upd D F⟩
end
end
end Go.Proofs.YtjljhnandbbldaaGreatDoor
namespace Go.Proofs.YtjljhnandbbldaaGreatDoor
open Go Go.Crisp
open _root_.Go.Proofs.Tryz
section
theorem clK12 {f:FuncId}{a D A:Value}{h:ai}{K:Value→ai→Prop}:clK prog (.func (.func f) #[] #[D,A]) #[a] h K=ag prog f #[a,D,A] h K:=rfl
attribute [local irreducible] ag cO aT stK aG vK qK bL gK eM bC mkK cR HA JA Ep bsK clK vu pP Zb
def mM (C:C21)(x:Int):Int:=(kn (bT C.d.s.y.lines):Int)*(gH ((aS C.d x).w*C.m.c):Int)
section
variable {X:Nat→Prop}{C:C21}{Z:Nat→Prop}{K:Nat}{h0 h g:ai}{bw:Nat→Nat}{bp:Nat}{o:Nat→Nat}{n:Pic}{V:PV}{P:bS}{x:Int}
theorem zfQ (O:C.Ok)(G:fC h0)(H:aZ X C Z K h0 bw bp o n V P g)(x4:¬X 4)(h1:0≤x)(h2:x<bN C.d):ag prog sq #[ptr bp,af x] g λr g2=>
  ∃U bj rv,r=ptr bj∧Ext g g2∧(∀c,U c→g.size≤c∧c<g2.size)∧ke Z U g2 (some C.E) n (ptr bj) (C.jo x)∧lJ Z U g2 bj C.bf C.vf C.bt C.vt C.p C.q rv ⟨C.m,C.d.s,aS C.d x⟩ (aS C.d x).y (lnF C.d.s.y (aS C.d x).y) n (kn (bT C.d.s.y.lines)) (gH ((aS C.d x).w*C.m.c)):=by
 have row:=H.p x4;apply Jr;unfold yd;have c2:aE g ⟨bp,2,none⟩=some (ptr C.bl):=ao row;simp only[go_sem,aO,c2];refine ag.to (xt H.pl O.d h1 h2) λg1 e1=>?_
 have x0:aP (.tuple #[.agg (dO (aS C.d x)).toArray,.bool true]) 0=some (.agg (dO (aS C.d x)).toArray):=rfl;have x1:aP (.tuple #[.agg (dO (aS C.d x)).toArray,.bool true]) 1=some (.bool true):=rfl;simp only[x0,x1,ah];refine cX (cs:=dO (aS C.d x)) rfl (kT _) rfl λb g2 r2 e2 n2=>?_
 have I:=e1.trans e2;have A:=I.row row;have W:=H.ex I;refine aQ (Ext g2) (Ext.refl _) ?_
 try simp only[go_sem,aO]
 refine aF (ptr C.bf) (λk e=>ao (e.row A)) ?_;refine aF (ptr C.bt) (λk e=>ao (e.row A)) ?_;refine aF (ptr C.bl) (λk e=>ao (e.row A)) ?_;refine aF (.agg (dO (aS C.d x)).toArray) (λk e=>aL (e.row r2) 10 rfl) ?_;refine(UY W.pl).mono λr g3 ⟨L,F⟩=>?_
 subst L;refine⟨F,?_⟩;rw[H.zl.2.1,H.zl.2.2];have D:=W.ex F;refine(ZX (G.ext D.ext) D.set O.m D.sui.1 O.s.wf).mono λr g4 HW=>?_
 obtain⟨bj,rv,L,e4,J,JS⟩:=YN.has O D.sui h1 h2 HW;subst L;have y0:aP (.tuple #[ptr bj,aj]) 0=some (ptr bj):=rfl;have y1:aP (.tuple #[ptr bj,aj]) 1=some aj:=rfl;simp only[go_sem,y0,y1,ne_eq,eqT,not_true,Nd];have le:g.size≤g3.size:=(I.trans F).1;exact⟨_,bj,rv,rfl,(I.trans F).trans e4,λc hc=>hc.elim False.elim λh=>⟨ae,h.2⟩,J,JS⟩
theorem zdT (O:C.Ok)(G:fC h0)(H:aZ X C Z K h0 bw bp o n V P g)(x4:¬X 4)(F:¬X 5)(h1:0≤x)(h2:x<bN C.d){U b3 k:Nat}{T1 T3:TypeId}(hk:k<K)(r1:g[U]? =some (.cells #[ptr bp] T1 (0,0)))(r3:g[b3]? =some (.cells #[af ((k:Int)+1)] T3 (0,0))):
  clK prog (.func (.func iy) #[] #[ptr U,ptr b3]) #[af x] g λr g2=>∃D,(∀c,D c→g.size≤c∧c<g2.size)∧ke Z D g2 (some C.E) n r (C.jo x)∧Fr (blk V.dv) g g2∧Own 1 g2 V.dv K ((List.range K).map λi=>af (if i=k then mM C x else P.words i)):=by
 rw[clK12];apply Dh;unfold tE;have hK:=H.few;have c1:aE g ⟨U,0,none⟩=some (ptr bp):=ao r1;simp only[go_sem,c1];refine(zfQ O G H x4 h1 h2).mono λr g2 ⟨D,bj,rv,er,A,W,J,JS⟩=>?_
 subst er;rw[XO,ah,fK];have row:=A.row (H.p x4);have c7:aE g2 ⟨bp,7,none⟩=some V.dv:=ao row;refine aQ (λk=>k=g2) rfl ?_;refine aF (ptr bp) (λk e=>by rw[e];exact ao (A.row r1)) ?_
 try simp only[go_sem,aO]
 refine aF V.dv (λk e=>by rw[e];exact c7) ?_;refine aF (af ((k:Int)+1)) (λk e=>by rw[e];exact ao (A.row r3)) ?_;simp only[go_sem];rw[w64 (n:=(k:Int)+1-1) ae ae,show(k:Int)+1-1=(k:Int)by omega];refine ag.at (Qg JS) ⟨rfl,?_⟩;have o2:Own 1 g2 V.dv K ((List.range K).map λi=>af (P.words i)):=(H.w F).1.fr (M:=λ_=>False) A.fr λ_ _=>id
 obtain⟨p,a1,a2,a3⟩:=Own.at_map o2 (k:=.i64) hk;rw[a1,ah];refine a3 _ _ λg3 o3 f3=>?_
 have L:∀c,blk V.dv c→c<g.size:=λc hc=>(H.w F).1.lt hc
 have I:∀c,blk V.dv c→o c=5:=(H.w F).2;have sz:=A.1;have J3:=J.other f3 (λc hz hc=>(H.ow c (by rw[I c hc];omega)).2.2.1 hz) (λc hb hc=>by have:=W c hb;have:=L c hc;omega) (λE' hE=>by cases hE;exact⟨((H.ex A).set.out).fr f3 (λhc=>(H.ow _ (by rw[I _ hc];omega)).2.2.2.1 rfl) λc hv hc=>(H.ow c (by rw[I c hc];omega)).2.2.2.2 hv,H.sui.1⟩) (fj.refl n);exact⟨D,λc hc=>⟨(W c hc).1,ce (W c hc).2 f3.1⟩,J3,A.after f3,o3⟩
end
end
end Go.Proofs.YtjljhnandbbldaaGreatDoor
namespace Go.Proofs.YtjljhnandbbldaaGreatDoor
open Go Go.Crisp
attribute [local irreducible] ag cO aT stK aG vK qK bL gK eM bC mkK cR HA JA Ep bsK clK vu pP Zb
open _root_.Go.Proofs.Tryz
section
theorem IsW.bmono {Z B B':Nat→Prop}{h:ai}{bw:Nat}{E:Option WE}{n:Pic}{w:WD}(H:IsW Z B h bw E n w)(A:∀c,B c→B' c)(F:∀c,B' c→c<h.size)(D:∀c,B' c→¬Z c∧Az E c∧¬eB E c):IsW Z B' h bw E n w:=by
 obtain⟨⟨tv,U,L,r,o,J,a1,a2,a3⟩,G,W,b3,zl,I,st⟩:=H;exact⟨⟨tv,U,L,r,o,J,λc hc=>⟨A c (a1 c hc).1,(a1 c hc).2⟩,λc hc=>A c (a2 c hc),a3⟩,A _ G,F,D,zl,I,st⟩
theorem IsQ.bmono {Q Q':Nat→Prop}{h:ai}{b:Nat}{d:QD}(H:IsQ Q h b d)(A:∀c,Q c→Q' c)(D:∀c,Q' c→c<h.size):IsQ Q' h b d:=by
 obtain⟨⟨v,r,o,c,n,s⟩,qb,ql,w⟩:=H;exact⟨⟨v,r,o,c,n,λc hc=>A c (s c hc)⟩,A _ qb,D,w⟩
theorem ga.bmono {M M':Nat→Prop}{h:ai}{v:Value}{n:Nat}{rows:Nat→List Int}(H:ga M h v n rows)(A:∀c,M c→M' c)(D:∀c,M' c→c<h.size):ga M' h v n rows:=by
 obtain⟨bc,sl,sv,t,e,L⟩:=H;exact⟨bc,sl,sv,t,e,L.var,L.arr,L.row,L.len,L.pos,⟨A _ L.inM.1,λb hc=>A b (L.inM.2.1 b hc),λi hi b hc=>A b (L.inM.2.2 i hi b hc)⟩,L.ap1,L.ap2,L.ap3,D⟩
def dk (C:C21)(P:bS)(k:Nat):bS:=
 {P with q:=(cD (some C.E) (C.jo (bi P.q)) (P.ws k) P.q).2.1,ws:=λi=>if i=k then(cD (some C.E) (C.jo (bi P.q)) (P.ws k) P.q).1 else P.ws i,words:=λi=>if i=k∧(P.ws k).state=0∧bX P.q=0 then mM C (bi P.q)else P.words i}
section
variable {C:C21}{Z:Nat→Prop}{K:Nat}{h0 h:ai}{bw:Nat→Nat}{bp:Nat}{o:Nat→Nat}{n:Pic}{V:PV}{P:bS}
theorem ZY (O:C.Ok)(G:fC h0)(H:aZ (λ_=>False) C Z K h0 bw bp o n V P h){k:Nat}(hk:k<K){b1 b3:Nat}{T1 T3:TypeId}(r1:h[b1]? =some (.cells #[ptr bp] T1 (0,0)))(r3:h[b3]? =some (.cells #[af ((k:Int)+1)] T3 (0,0)))(p1:o b1=0)(p3:o b3=0)(ht:(P.ws k).tiles.length≤1000000)(hb:∀c,eB (some C.E) c→h0.size≤c)
  (hx:tg (P.ws k) P.q→0≤bi P.q∧bi P.q<bN C.d):
  ag prog dd #[ptr (bw k),ptr C.bq,.func (.func iy) #[] #[ptr b1,ptr b3]] h λr h'=>r=evV (cD (some C.E) (C.jo (bi P.q)) (P.ws k) P.q).2.2∧
   ∃n' o',aZ (λ_=>False) C Z K h0 bw bp o' n' V (dk C P k) h'∧(∀c,c<h.size→o' c=o c)∧Fr (λc=>(o c=10+k∨o c=1∨o c=5)∨eB (some C.E) c) h h'∧Ef (some C.E) (P.ws k) n n':=by
 have W:=H.ws k hk id;have Q:=H.q id;obtain⟨U,F⟩:=H.w id;have L:∀c,blk V.dv c→c<h.size:=λc hc=>U.lt hc
 have aa:∀c,o c≠0→¬eB (some C.E) c:=λc hc=>(H.ow c hc).2.2.2.2
 refine(ZW (jo:=C.jo (bi P.q)) (Qo:=blk V.dv) (P0:=λg=>Own 1 g V.dv K ((List.range K).map λi=>af (P.words i))) (P1:=λg=>Own 1 g V.dv K ((List.range K).map λi=>af (if i=k then mM C (bi P.q)else P.words i))) W Q ht (λtk=>.inr ⟨rfl,λh1 f1 w1=>?_⟩) (λc hc h=>ae) (λc hc=>(H.ow c ae).2.2) (λc hc=>?_) (λg g' f=>?_) U).mono λr h' ⟨er,⟨⟨n',B',Q',W',q',j1,j2,j3,Dr⟩,f⟩,ad,al⟩=>?_
 ·have f2:Fr (λc=>(λj=>j=10+k∨j=1) (o c)) h h1:=f1;have H1:=H.chg (A:=λj=>j=10+k∨j=1) ae f2;have nx:∀{j},j≠10+k→j≠1→¬(False∨(j=10+k∨j=1)):=λa b h=>by rcases h with h|h|h<;>first|exact h|exact a h|exact b h
  exact zdT O G H1 (nx ae ae) (nx ae ae) (hx tk).1 (hx tk).2 hk (f1.row r1 ae) (f1.row r3 ae)
 ·have h5:=F c hc;have:=H.ow c ae;exact⟨this.1,ae,ae,this.2.2⟩
 ·have q:∀c,blk V.dv c→¬(eB (some C.E) c∨o c=10+k∨o c=1∨h.size≤c):=λc hc hh=>by
   have h5:=F c hc;have:=L c hc;rcases hh with hh|hh
   ·exact aa c ae hh
   ·omega
  exact⟨λw=>w.fr f q,λw=>w.fr f q⟩
 ·have f2:Fr (λc=>(λj=>j=10+k∨j=1∨j=5) (o c)∨eB (some C.E) c) h h':=f.mono λc _ hc=>by
   rcases hc with hc|hc|hc|hc
   ·exact .inr hc
   ·exact .inl (.inl hc)
   ·exact .inl (.inr (.inl hc))
   ·exact .inl (.inr (.inr (F c hc)))
  have sz:=f.1;have H2:=H.chgO (A:=λj=>j=10+k∨j=1∨j=5) ae hb f2 W'.out Dr.1;have Bl:=W'.bl;have Ql:=q'.ql;obtain⟨o',oo,on,ob,oq⟩:∃o':Nat→Nat,(∀c,c<h.size→o' c=o c)∧(∀c,h.size≤c→o' c≠0→(o' c=10+k∨o' c=1)∧c<h'.size)∧(∀c,B' c→o' c=10+k)∧∀c,Q' c→o' c=1:=by
   classical
   refine⟨λc=>if c<h.size then o c else if B' c then 10+k else if Q' c then 1 else 0,λc hc=>aB hc,λc hc h1=>?_,λc hc=>?_,λc hc=>?_⟩
   ·have I:¬c<h.size:=ae;simp only[aA I]at h1 ⊢;by_cases b:B' c
    ·simp only[aB b];exact⟨.inl trivial,Bl c b⟩
    ·simp only[aA b]at h1 ⊢;by_cases q:Q' c
     ·simp only[aB q];exact⟨.inr trivial,Ql c q⟩
     ·simp only[aA q]at h1;exact absurd rfl h1
   ·by_cases I:c<h.size
    ·simp only[aB I];exact(j1 c hc).elim id λh=>ae
    ·simp only[aA I,aB hc]
   ·have nb:¬B' c:=λhb=>j3 c hb hc
    by_cases I:c<h.size
    ·simp only[aB I];exact(j2 c hc).elim id λh=>ae
    ·simp only[aA I,aA nb,aB hc]
  have D:=H2.relab (B:=λj=>j=10+k∨j=1) (o':=o') oo (λc hc=>(H.fresh hc).1) on H.ext.1 λc hc=>(H.fresh hc).2
  have q3:IsQ (λc=>o' c=1) h' C.bq _:=q'.bmono oq λc hc=>(D.ow c (by rw[hc];omega)).1
  have W3:IsW Z (λc=>o' c=10+k) h' (bw k) (some C.E) n' _:=W'.bmono ob (λc hc=>(D.ow c (by rw[hc];omega)).1) λc hc=>(D.ow c (by rw[hc];omega)).2.2
  have w3:Own 1 h' V.dv K ((List.range K).map λi=>af ((dk C P k).words i)):=by
   by_cases tk:(P.ws k).state=0∧bX P.q=0
   ·have e:(λi=>af ((dk C P k).words i))=λi=>af (if i=k then mM C (bi P.q)else P.words i):=by
     funext i
     show af (if i=k∧(P.ws k).state=0∧bX P.q=0 then _ else _)=_;by_cases hi:i=k
     ·rw[aB ⟨hi,tk⟩,aB hi]
     ·rw[aA (λh=>hi h.1),aA hi]
    rw[e];exact ad tk
   ·have e:(λi=>af ((dk C P k).words i))=λi=>af (P.words i):=by
     funext i
     show af (if i=k∧(P.ws k).state=0∧bX P.q=0 then _ else _)=_;rw[aA λh=>tk h.2]
    rw[e];exact al tk
  have am:∀c,blk V.dv c→o' c=5:=λc hc=>by rw[oo c (L c hc)];exact F c hc
  have nx:∀{j},j≠10+k→j≠1→j≠5→¬((False∨(j=10+k∨j=1∨j=5))∨(j=10+k∨j=1)):=λa b c h=>by rcases h with (h|h|h|h)|h|h<;>first|exact h|exact a h|exact b h|exact c h
  refine⟨er,n',o',⟨λ_=>q3,λ_=>D.c (nx ae ae ae),λ_=>D.l (nx ae ae ae),λ_=>D.p (nx ae ae ae),λ_=>⟨w3,am⟩,λ_=>D.s (nx ae ae ae),λ_=>D.f (nx ae ae ae),λ_=>D.e (nx ae ae ae),λ_=>D.wk (nx ae ae ae),λi hi _=>?_,D.po,D.set,D.pl,D.zl,D.sui,D.ow,D.ext,D.few⟩,oo,f2,Dr⟩;by_cases he:i=k
  ·subst he;show IsW Z _ h' _ _ n' (if i=i then _ else _);rw[aB rfl];exact W3
  ·show IsW Z _ h' _ _ n' (if i=k then _ else _);rw[aA he];exact D.ws i hi (nx ae ae ae)
end
end
section
def pM (C:C21)(P:bS)(k:Nat)(e:EvD):bS:=
 if e.2.2.1=1 then mL (mL P (k+1) 0 (atZ C.d.s.border e.2.2.2 C.m.h*(C.m.w*C.m.c)) (C.m.w*C.m.c) false) (k+1) (k+2) 0 (P.words k) true
 else mL (mL P (k+1) (k+2) 0 (P.words k) false) (k+1) 1 ((e.2.2.2*C.d.X+(aS C.d e.2.1).x)*C.m.c) ((aS C.d e.2.1).w*C.m.c) true
section
variable {C:C21}{Z:Nat→Prop}{K:Nat}{h0 h:ai}{bw:Nat→Nat}{bp:Nat}{o:Nat→Nat}{n:Pic}{P:bS}
theorem zez (O:C.Ok)(H:eF C Z K h0 bw bp o n P h){k:Nat}(hk:k<K){e:EvD}(hl:P.acc.length≤999999)(hx:0≤e.2.1∧e.2.1<bN C.d)(hr:I64 e.2.2.2)(hy:e.2.2.1≠1→0≤e.2.2.2∧e.2.2.2<C.d.Y)(hw:1≤P.words k∧P.words k≤100000000000):
  ag prog qE #[ptr bp,af ((k:Int)+1),evV e] h λr h'=>r=.tuple #[]∧PTo C Z K h0 bw bp o h n (pM C P k e) h':=by
 obtain⟨ek,G,W,D⟩:=e;have HP:=H;obtain⟨V,H,row⟩:=H.row;apply GX;unfold wO;have x0:aP (.tuple #[.agg (dO (aS C.d G)).toArray,.bool true]) 0=some (.agg (dO (aS C.d G)).toArray):=rfl;have x1:aP (.tuple #[.agg (dO (aS C.d G)).toArray,.bool true]) 1=some (.bool true):=rfl;refine aI λb1 h1 r1 e1 n1=>?_
 have r1:h1[b1]? =some (.cells #[af ek,af G,af W,af D] 148 (0,0)):=r1;refine bB (λxs g=>∃bt,xs=[ptr bt]∧h.size≤bt∧Ext h1 g∧g[bt]? =some (.cells (dO (aS C.d G)).toArray 116 (0,0))) ?_ ?_
 ·refine aQ (Ext h1) (Ext.refl _) ?_;simp only[go_sem,aO];refine aF (ptr C.bl) (λg e=>ao (e.row (e1.row row))) ?_;refine aF (af G) (λg e=>ao (e.row r1)) ?_;have one:∀v∈dO (aS C.d G),aV v=true:=kT _;refine⟨?_,?_⟩
  ·refine ag.to (xt (H.ex e1).pl O.d hx.1 hx.2) λg2 I=>⟨I,?_⟩
   simp only[x0,x1,ah];refine aI λbt g3 r3 L n3=>⟨I.trans L,?_⟩
   refine bI (l:=dO (aS C.d G)) r3 rfl one rfl λg4 r4 u4=>?_
   have E:=(I.trans L).upd (bA I.1 n3) u4;have s1:=e1.1;have s2:=I.1;exact⟨E,bt,rfl,ae,E,r4⟩
  ·refine aI λbt g2 r2 I n2=>⟨I,?_⟩
   refine ag.to (xt ((H.ex e1).ex I).pl O.d hx.1 hx.2) λg3 L=>⟨I.trans L,?_⟩
   simp only[x0,x1,ah];refine bI (l:=dO (aS C.d G)) (L.row r2) rfl one rfl λg4 r4 u4=>?_
   have E:=(I.trans L).upd n2 u4;have s1:=e1.1;exact⟨E,bt,rfl,ae,E,r4⟩
 rintro xs ρ g ⟨bt,rfl,am,I,rt⟩;have E:=e1.trans I;have rg:=I.row r1;have F:=E.row row;have c7:aE g ⟨bp,7,none⟩=some V.dv:=ao F;have c1:aE g ⟨bp,1,none⟩=some (ptr C.bt):=ao F;have m2:aE g ⟨b1,2,none⟩=some (af W):=ao rg;have hK:=H.few;have Hg:=H.ex E;have U:=HP.ext E;simp only[iq,go_sem,aO,c7];rw[w64 (n:=(k:Int)+1-1) ae ae,show(k:Int)+1-1=(k:Int)by omega];obtain⟨p,a1,a2,_⟩:=Own.at_map (Hg.w id).1 (k:=.i64) hk;rw[a1,ah,a2,ah,m2,ah,mf,ah];have bf:=dB O.m.fits;have sui:=H.sui.2;obtain⟨s1,s2,s3,s4,s5⟩:=sui;have who:((k:Int)+1)=((k+1:Nat):Int):=ae;have al:∀{h'} {P'},PTo C Z K h0 bw bp o g n P' h'→PTo C Z K h0 bw bp o h n P' h':=λ{h' P'} T=>PTo.trans (h1:=g) ⟨U,λ_ _=>rfl,E.fr⟩ T
 refine aq (λhm=>?_) (λhm=>?_)
 ·have hm:W=1:=hm;subst hm;refine aQ (λk=>k=g) rfl ?_;refine aF (ptr C.bf) (λk e=>by rw[e];exact ao F) ?_;refine aF (ptr C.bf) (λk e=>by rw[e];exact ao F) ?_;refine ag.at (vP Hg.set.src) ⟨rfl,?_⟩;refine ag.at (fZ Hg.set.src) ?_;have wc:1≤C.m.w*C.m.c∧C.m.w*C.m.c≤65536*3:=⟨vv ae ae,lV ae ae ae ae⟩
  simp only[go_sem];rw[w64 (n:=C.m.w*C.m.c) ae ae];refine aQ (Ext g) (Ext.refl _) ?_;refine aF (ptr C.bl) (λk e=>ao (e.row F)) ?_
  try simp only[go_sem,aO]
  refine aF (af D) (λk e=>ao (e.row rg)) ?_
  try simp only[go_sem,aO]
  refine aF (ptr C.bf) (λk e=>ao (e.row F)) ?_;refine(UY Hg.pl).mono λr g3 ⟨er,L⟩=>?_
  subst er;refine⟨L,?_⟩;have pv:rh false 1 2 (.agg #[C.pp,C.pq,af C.d.s.border])=some (af C.d.s.border):=rfl;rw[pv,ah];have H3:=Hg.ex L;refine ag.at (uh H3.set.src) ⟨L,?_⟩;refine ag.at (xu hr) ?_;have ha:=zdn (p:=C.d.s.border) (j:=D) (n:=C.m.h) ae ae;have ax:=kz (a:=atZ C.d.s.border D C.m.h) (A:=65536) (b:=C.m.w*C.m.c) (B:=65536*3) ae ae ae ae;simp only[go_sem];rw[w64 (n:=atZ C.d.s.border D C.m.h*(C.m.w*C.m.c)) ae ae,who];refine(HN (U.ext L) (who:=k+1) ae ae ae ax.1 wc.1 ae).mono λr g4 ⟨er,o4,H4,q4,f4⟩=>?_
  rw[w64 (n:=1+((k+1:Nat):Int)) ae ae,show 1+((k+1:Nat):Int)=(k:Int)+2 by omega];refine(HN H4 (who:=k+1) ae (by simp[mL];omega) ae ae hw.1 ae).mono λr g5 ⟨er,T⟩=>?_
  have T2:=PTo.trans (h1:=g4) ⟨H4,q4,f4⟩ T;have T3:=PTo.trans (h1:=g3) (P1:=P) ⟨U.ext L,λ_ _=>rfl,L.fr⟩ T2;refine⟨trivial,?_⟩;unfold pM;rw[aB rfl];exact al T3
 ·have hy:0≤D∧D<C.d.Y:=hy hm;rw[c1,ah];refine ag.at (fZ Hg.set.out) ?_;rw[w64 (n:=1+((k:Int)+1)) ae ae,show 1+((k:Int)+1)=(k:Int)+2 by omega,who];refine(HN U (who:=k+1) ae ae ae ae hw.1 ae).mono λr g4 ⟨er,o4,H4,q4,f4⟩=>?_
  have nf:∀{c},h.size≤c→¬(o c≠0∨eB (some C.E) c):=λhc h=>h.elim (λh=>h (H.fresh hc).1) (H.fresh hc).2.2.2
  have ar:=f4.row rg (nf n1);have ad:=f4.row rt (nf am);obtain⟨V4,B4,aa⟩:=H4.row;have wf:=iF O.d (i:=G) hx.1 hx.2;unfold eI at wf;refine aQ (λk=>k=g4) rfl ?_;refine aF (af D) (λk e=>by rw[e];exact ao ar) ?_
  try simp only[go_sem,aO]
  refine aF (ptr C.bt) (λk e=>by rw[e];exact ao aa) ?_
  try simp only[go_sem,aO]
  refine aF (af (aS C.d G).x) (λk e=>by rw[e];exact ao ad) ?_
  try simp only[go_sem,aO]
  refine aF (af (aS C.d G).w) (λk e=>by rw[e];exact ao ad) ?_;have bd:=dC.bd O.d;have wX:(aS C.d G).x+(aS C.d G).w≤C.d.X:=by show _≤((C.d.s.x.lines.length:Nat):Int);omega
  have nc:n.c=C.m.c:=s4;have a7:=kz (a:=(aS C.d G).w) (A:=65536) (b:=C.m.c) (B:=3) ae ae ae ae;have an:1≤(aS C.d G).w*C.m.c:=vv ae ae;have ay:=kz (a:=D) (A:=65536) (b:=C.d.X) (B:=65536) ae ae ae ae;have au:=kz (a:=D*C.d.X+(aS C.d G).x) (A:=65536*65536+65536) (b:=C.m.c) (B:=3) ae ae ae ae;rw[nc];simp only[go_sem];rw[w64 (n:=(aS C.d G).w*C.m.c) ae ae];refine ag.at (vP B4.set.out) ⟨rfl,?_⟩;rw[show n.w=C.d.X from s2];simp only[go_sem];rw[w64 (n:=D*C.d.X) ae ae,w64 (n:=D*C.d.X+(aS C.d G).x) ae ae,w64 (n:=(D*C.d.X+(aS C.d G).x)*C.m.c) ae ae];refine(HN H4 (who:=k+1) ae (by simp[mL];omega) ae au.1 an ae).mono λr g5 ⟨er,T⟩=>?_
  have T2:=PTo.trans (h1:=g4) ⟨H4,q4,f4⟩ T;refine⟨trivial,?_⟩;unfold pM;rw[aA hm];exact al T2
end
end
section
section
variable {C:C21}{Z:Nat→Prop}{K:Nat}{h0 g g1 g2:ai}{bw:Nat→Nat}{bp:Nat}{o:Nat→Nat}{n:Pic}{V:PV}{P:bS}
theorem aZ.setrow (H:aZ (λ_=>False) C Z K h0 bw bp o n V P g)(u:Upd bp g g1){st:Int}{rt:Bool}{pk:Int}(r:g1[bp]? =some (.cells (jh C V {P with sent:=st,ret:=rt,picks:=pk}) 106 (0,0))):aZ (λ_=>False) C Z K h0 bw bp o n V {P with sent:=st,ret:=rt,picks:=pk} g1:=by
 have D:=H.po;exact(H.chg (A:=λk=>k=4) ae (u.fr.mono λc _ hc=>by rw[show c=bp from hc];exact D)).fp r
theorem aZ.putS (H:aZ (λk=>k=6) C Z K h0 bw bp o n V P g){s:Value}{l:List (List Int)}(I:vd o 6 g s l)(u:Upd bp g g1)(r:g1[bp]? =some (.cells (jh C {V with sv:=s} P) 106 (0,0))):aZ (λ_=>False) C Z K h0 bw bp o n {V with sv:=s} {P with stamps:=l} g1:=by
 have F:=H.po;have f:Fr (λc=>(λk=>k=4) (o c)) g g1:=u.fr.mono λc _ hc=>by rw[show c=bp from hc];exact F
 have L:=(H.chg (A:=λk=>k=4) ae f).less (Y:=λk=>k=4∨k=6) λk D=>D.symm
 have G:=L.fs (X:=λk=>k=4) rfl (I.fr f λc hc h=>by have h:o c=4:=h;omega);exact(G.less (Y:=λk=>False∨k=4) λk D=>.inr D).fp (X:=λ_=>False) (st:=P.sent) (rt:=P.ret) (pk:=P.picks) r
theorem aZ.putL (H:aZ (λk=>k=7) C Z K h0 bw bp o n V P g){s:Value}{l:List (List Int)}(I:vd o 7 g s l)(u:Upd bp g g1)(r:g1[bp]? =some (.cells (jh C {V with lv:=s} P) 106 (0,0))):aZ (λ_=>False) C Z K h0 bw bp o n {V with lv:=s} {P with left:=l} g1:=by
 have F:=H.po;have f:Fr (λc=>(λk=>k=4) (o c)) g g1:=u.fr.mono λc _ hc=>by rw[show c=bp from hc];exact F
 have L:=(H.chg (A:=λk=>k=4) ae f).less (Y:=λk=>k=4∨k=7) λk D=>D.symm
 have G:=L.ff (X:=λk=>k=4) rfl (I.fr f λc hc h=>by have h:o c=4:=h;omega);exact(G.less (Y:=λk=>False∨k=4) λk D=>.inr D).fp (X:=λ_=>False) (st:=P.sent) (rt:=P.ret) (pk:=P.picks) r
theorem aZ.putE (H:aZ (λk=>k=8) C Z K h0 bw bp o n V P g){s:Value}{l:List Int}(I:Rp.Sl (Rp.int .i64) (λc=>o c=8) g s l)(u:Upd bp g g1)(r:g1[bp]? =some (.cells (jh C {V with ev:=s} P) 106 (0,0))):aZ (λ_=>False) C Z K h0 bw bp o n {V with ev:=s} {P with fin:=l} g1:=by
 have F:=H.po;have f:Fr (λc=>(λk=>k=4) (o c)) g g1:=u.fr.mono λc _ hc=>by rw[show c=bp from hc];exact F
 have L:=(H.chg (A:=λk=>k=4) ae f).less (Y:=λk=>k=4∨k=8) λk D=>D.symm
 have G:=L.fe (X:=λk=>k=4) rfl (I.fr f λc _ hc h=>by have h:o c=4:=h;omega);exact(G.less (Y:=λk=>False∨k=4) λk D=>.inr D).fp (X:=λ_=>False) (st:=P.sent) (rt:=P.ret) (pk:=P.picks) r
theorem zcn {o:Nat→Nat}{j k lo hi:Nat}(h:∀c,lo≤c→o c=0)(F:k≠j)(D:k≠0):(λc=>grow o j lo hi c=k)=λc=>o c=k:=by
 funext c
 refine propext ?_;unfold grow;split
 ·rename_i A;rw[h c A.1];omega
 ·exact Iff.rfl
theorem aZ.rs_push (H:aZ (λ_=>False) C Z K h0 bw bp o n V P g){j:Nat}(hj:j≠0∧j≠2){v:Value}{l:List (List Int)}(HR:vd o j g v l){rows:Nat→List Int}{r:Value}{x:List Int}(o1:jG g1 r x)(c1:ga (λc=>o c=2) g1 V.vc (K+1) rows)(f1:Fr (λc=>o c=2) g g1)(n1:∀b,blk r b→g.size≤b)
  {Q:ai→Prop} {z z':Value} {t t':TypeId} {K':Value→ai→Prop} (I:z.cells.size=1) (hl:l.length≤1000000000) (hQ:∀h',Ext g1 h'→Q h')
  (HK:∀L g2,vd (grow o j g.size g2.size) j g2 L (l++[x])→aZ (λk=>k=j) C Z K h0 bw bp (grow o j g.size g2.size) n V {P with rows:=rows} g2→Fr (λc=>o c=2∨o c=j) g g2→Fr (λc=>o c=j) g1 g2→K' L g2):
  cO #[z'] t 1 [(0,1,r)] g1 λv2 h3=>Q h3∧cR z t' 1 24 v v2 h3 K':=by
 obtain⟨Zr,ow,W,U⟩:=HR;have s1:=f1.1;have q1:∀c,Zr c∨blk v c→¬o c=2:=λc hc=>by have:=hc.elim (W c) (U c);omega
 have aa:=ow.fr f1 (λc _ hc=>q1 c (.inl hc)) λc hc=>q1 c (.inr hc)
 have dz:∀b,blk v b→¬Zr b:=by obtain⟨_,_,d,_⟩:=ow;exact d
 have ob:∀c,o c=j→c<g.size:=λc hc=>(H.ow c ae).1
 have o2:Rp.Ow rIs (λb=>Zr b∨blk r b) g1 v l:=aa.mono (λb _ D=>.inl D) λb D I=>by
  rcases I with I|I
  ·exact dz b D I
  ·have:=ob b (U b D);have:=n1 b I;omega
 refine Rp.push_ow1S (P:=λ_=>False) (e:=rIs) (x:=x) rfl o2 ⟨r,rfl,xn o1.ints λ_ b D=>.inr D⟩ I ae ae (λb D=>?_) hQ λL g2 o3 f3 n3=>?_
 ·rcases D with D|D
  ·have:=ob b (W b D);omega
  ·exact Own.lt o1 D
 have F:Fr (λc=>o c=j) g1 g2:=f3.mono λc _ hc=>U c hc
 have s3:=f3.1;have fA:Fr (λc=>(λk=>k=2∨k=j) (o c)) g g2:=(f1.mono λc _ hc=>.inl hc).after F λc _ hc=>.inr hc
 have H2:=H.take (H.chg (A:=λk=>k=2∨k=j) ae fA) (b:=j);have G:∀c,c<g2.size→(o c=j∨g.size≤c)→grow o j g.size g2.size c=j:=λc hl hc=>by
  unfold grow;split
  ·rfl
  ·exact hc.elim id λh=>ae
 have hR:vd (grow o j g.size g2.size) j g2 L (l++[x]):=by
  refine⟨λb=>Zr b∨blk r b,o3,λc hc=>?_,λc hc=>G c (o3.lt hc) ?_⟩
  ·rcases hc with hc|hc
   ·exact G c (by have:=ob c (W c hc);omega) (.inl (W c hc))
   ·exact G c (by have:=Own.lt o1 hc;omega) (.inr (n1 c hc))
  ·rcases n3 c hc with h|h
   ·exact .inl (U c h)
   ·exact .inr ae
 have c2:ga (λc=>grow o j g.size g2.size c=2) g2 V.vc (K+1) rows:=by
  have e:(λc=>grow o j g.size g2.size c=2)=λc=>o c=2:=by
   funext c
   refine propext ?_;unfold grow;split
   ·rename_i h3;rw[(H.fresh h3.1).1];omega
   ·exact Iff.rfl
  rw[e];exact c1.fr F λc _ hc h=>by have h:o c=j:=h;omega
 have H3:=(H2.less (Y:=λk=>k=j∨k=2) λk hk=>by rcases hk with (h|h|h)|h<;>first|exact h.elim|exact .inr h|exact .inl h).fc c2;exact HK L g2 hR H3 fA F
theorem Yy (H:aZ (λ_=>False) C Z K h0 bw bp o n V P g){i:Nat}{u:Value}{s:List Int}(hu:jN g u s)(U:s.length≤4398046511104):
  ag prog gE #[V.vc,af (i:Int),u] g λr g1=>aZ (λ_=>False) C Z K h0 bw bp (grow o 2 g.size g1.size) n V {P with rows:=jk (K+1) P.rows i s} g1∧Fr (λc=>o c=2) g g1:=by
 refine(zf1 (H.c id) i hu U).mono λr g1 ⟨_,M',F,f1,m1⟩=>?_
 have D:Fr (λc=>(λk=>k=2) (o c)) g g1:=f1;have G:=H.take (H.chg (A:=λk=>k=2) ae D) (b:=2);refine⟨(G.less (Y:=λk=>False∨k=2) λk I=>by rcases I with (h|h)|h<;>first|exact h.elim|exact .inr h).fc (F.bmono (λc hc=>?_) λc hc=>(G.ow c (by rw[hc];omega)).1),f1⟩;unfold grow;split
 ·rfl
 ·rename_i W;have lt:c<g1.size:=by
   obtain⟨bc,sl,sv,t,_,L⟩:=F;exact L.lt c hc
  rcases m1 c hc with h|h
  ·exact h
  ·omega
end
end
section
def evP (C:C21)(P:bS)(k:Nat):EvD:=(cD (some C.E) (C.jo (bi P.q)) (P.ws k) P.q).2.2
def UH (K:Nat)(P:bS)(k:Nat):bS:=
 {P with rows:=tf (K+1) (jk (K+1) P.rows (k+1:Nat) P.fin) (k+1:Nat),left:=P.left++[jk (K+1) P.rows (k+1:Nat) P.fin (k+1)]}
def iH (C:C21)(K:Nat)(P:bS)(k:Nat):bS:=
 if(evP C P k).1=1 then{dk C P k with rows:=jk (K+1) P.rows (k+1:Nat) (P.stamps.getD (evP C P k).2.1.toNat [])}
 else if(evP C P k).1=2 then pM C (dk C P k) k (evP C P k)
 else if(evP C P k).1=3 then UH K (dk C P k) k
 else dk C P k
section
variable {C:C21}{Z:Nat→Prop}{K:Nat}{h0 h:ai}{bw:Nat→Nat}{bp:Nat}{o:Nat→Nat}{n:Pic}{P:bS}
theorem zfL (O:C.Ok)(G:fC h0)(H:eF C Z K h0 bw bp o n P h){k:Nat}(hk:k<K)(ht:(P.ws k).tiles.length≤1000000)(hb:∀c,eB (some C.E) c→h0.size≤c)(hl:P.acc.length≤999999)(bv:P.left.length≤1000000000)
  (hx:tg (P.ws k) P.q→0≤bi P.q∧bi P.q<bN C.d)
  (h1:(evP C P k).1=1→0≤(evP C P k).2.1∧(evP C P k).2.1<P.stamps.length)
  (hs:∀s∈P.stamps,s.length≤4398046511104) (hf:P.fin.length≤4398046511104)
  (h2:(evP C P k).1=2→(0≤(evP C P k).2.1∧(evP C P k).2.1<bN C.d)∧I64 (evP C P k).2.2.2∧((evP C P k).2.2.1≠1→0≤(evP C P k).2.2.2∧(evP C P k).2.2.2<C.d.Y)∧1≤(dk C P k).words k∧(dk C P k).words k≤100000000000):
  ag prog si #[ptr bp,af ((k:Int)+1)] h λr h'=>∃n',PTo C Z K h0 bw bp o h n' (iH C K P k) h'∧Ef (some C.E) (P.ws k) n n':=by
 have HP:=H;obtain⟨V,H,row⟩:=H.row;apply Jp;unfold yb;have hK:=H.few;refine aI λb1 g1 r1 e1 n1=>aI λb3 g3 r3 e3 n3=>?_
 have r1:g1[b1]? =some (.cells #[ptr bp] _ (0,0)):=r1;have r3:g3[b3]? =some (.cells #[af ((k:Int)+1)] _ (0,0)):=r3;have r1:=e3.row r1;have E:=e1.trans e3;have H3:=H.ex E;have al:=E.row row;have s1:=e1.1;have s3:=e3.1;have f1:=H.fresh (c:=b1) n1;have f3:=H.fresh (c:=b3) ae;have who:((k:Int)+1)=((k+1:Nat):Int):=ae;generalize ar:evP C P k=e at*;have ad:(cD (some C.E) (C.jo (bi P.q)) (P.ws k) P.q).2.2=e:=ar;refine bB (λxs g=>∃A n' o' T,xs=[ptr A]∧g[A]? =some (.cells #[af e.1,af e.2.1,af e.2.2.1,af e.2.2.2] T (0,0))∧aZ (λ_=>False) C Z K h0 bw bp o' n' V (dk C P k) g∧(∀c,c<h.size→o' c=o c)∧Fr (λc=>o c≠0∨eB (some C.E) c) h g∧g[b1]? =some (.cells #[ptr bp] 35 (0,0))∧g[b3]? =some (.cells #[af ((k:Int)+1)] 3 (0,0))∧o' b1=0∧o' b3=0∧o' A=0∧Ef (some C.E) (P.ws k) n n') ?_ ?_
 ·have nS:∀{c},o c=4∨o c=9→¬((o c=10+k∨o c=1∨o c=5)∨eB (some C.E) c):=λ{c} hc h=>h.elim ae (H.ow c ae).2.2.2.2
  have W:∀{c},h.size≤c→¬((o c=10+k∨o c=1∨o c=5)∨eB (some C.E) c):=λ{c} hc h=>h.elim (by have:=(H.fresh hc).1;omega) (H.fresh hc).2.2.2
  have M0:Fr (λc=>o c≠0∨eB (some C.E) c) h g3:=E.fr;have hM:∀c,((o c=10+k∨o c=1∨o c=5)∨eB (some C.E) c)→o c≠0∨eB (some C.E) c:=λc hc=>hc.imp ae id
  have tc:evV e=.agg [af e.1,af e.2.1,af e.2.2.1,af e.2.2.2].toArray:=rfl;have one:∀v∈[af e.1,af e.2.1,af e.2.2.1,af e.2.2.2],aV v=true:=az rfl (az rfl (az rfl (az rfl aU)));refine aQ (Fr (λc=>(o c=10+k∨o c=1∨o c=5)∨eB (some C.E) c) g3) (Fr.refl _ _) ?_;refine aF (ptr bp) (λg f=>ao (f.row r1 (W n1))) ?_;simp only[go_sem,aO];refine aF V.wv (λg f=>ao (f.row al (nS (.inl H.po)))) ?_;refine aF (af ((k:Int)+1)) (λg f=>ao (f.row r3 (W ae))) ?_;simp only[go_sem];rw[w64 (n:=(k:Int)+1-1) ae ae,show(k:Int)+1-1=(k:Int)by omega];obtain⟨p,a1,a2⟩:=H3.wat id hk;rw[a1,ah];refine aF (ptr (bw k)) (λg f=>?_) ?_
  ·obtain⟨p',c1,c2⟩:=((H3.wk id).1.fr f λc _ hc=>nS (.inr ((H3.wk id).2 c hc))).at1 (k:=.i64) hk;rw[a1]at c1;cases c1;rw[c2];simp[hk]
  refine aF (ptr bp) (λg f=>ao (f.row r1 (W n1))) ?_
  try simp only[go_sem,aO]
  refine aF (ptr C.bq) (λg f=>ao (f.row al (nS (.inl H.po)))) ?_;have l1:=aW r1;have l3:=aW r3;refine⟨?_,?_⟩
  ·refine(ZY O G H3 hk r1 r3 f1.1 f3.1 ht hb hx).mono λr g4 ⟨er,n',o',I,L,f4,Dr⟩=>⟨f4,?_⟩
   rw[ad]at er;subst er;have s4:=f4.1;refine aI λA g5 r5 e5 n5=>⟨f4.ext_r e5,?_⟩
   refine bI (l:=[af e.1,af e.2.1,af e.2.2.1,af e.2.2.2]) r5 rfl one rfl λg6 r6 u6=>?_
   have E6:=e5.upd n5 u6;have f6:=f4.ext_r E6;exact⟨f6,A,n',o',_,rfl,r6,I.ex E6,λc hc=>L c ae,M0.after f6 λc _ hc=>hM c hc,f6.row r1 (W n1),f6.row r3 (W ae),by rw[L _ l1];exact f1.1,by rw[L _ l3];exact f3.1,(I.fresh n5).1,Dr⟩
  ·refine aI λA g4 r4 e4 n4=>⟨e4.fr,?_⟩
   have s4:=e4.1;have l4:=aW r4;refine(ZY O G (H3.ex e4) hk (e4.row r1) (e4.row r3) f1.1 f3.1 ht hb hx).mono λr g5 ⟨er,n',o',I,L,f5,Dr⟩=>⟨e4.fr.trans f5,?_⟩
   rw[ad]at er;subst er;have s5:=f5.1;refine bI (l:=[af e.1,af e.2.1,af e.2.2.1,af e.2.2.2]) (f5.row r4 (W ae)) rfl one rfl λg6 r6 u6=>?_
   have f6:=(e4.fr.trans f5).upd_new u6 (x:=A) n4;have bd:=H.fresh (c:=A) ae;have ob:o' A=0:=by rw[L A l4];exact bd.1
   exact⟨f6,A,n',o',_,rfl,r6,I.loc u6 ⟨ob,by have:=H.ext.1;omega,bd.2⟩,λc hc=>L c ae,M0.after f6 λc _ hc=>hM c hc,f6.row r1 (W n1),f6.row r3 (W ae),by rw[L _ ae];exact f1.1,by rw[L _ ae];exact f3.1,ob,Dr⟩
 rintro xs ρ g ⟨A,n',o',T,rfl,re,I,L,fr,q1,q3,z1,z3,ze,Dr⟩;have k0:aE g ⟨A,0,none⟩=some (af e.1):=ao re;have k1:aE g ⟨A,1,none⟩=some (af e.2.1):=ao re;have D:=I.p id;have b4:=fr.1;have F:∀{o2:Nat→Nat} {P2:bS} {g2:ai},eF C Z K h0 bw bp o2 n' P2 g2→(∀c,c<g.size→o2 c=o' c)→Fr (λc=>o' c≠0∨eB (some C.E) c) g g2→PTo C Z K h0 bw bp o h n' P2 g2:=λ{o2 P2 g2} a b c=>⟨o2,a,λc hc=>(b c ae).trans (L c hc),fr.after c λc hc h=>h.imp (λh=>by rwa [L c hc]at h) id⟩
 have wP:iH C K P k=if e.1=1 then{dk C P k with rows:=jk (K+1) P.rows (k+1:Nat) (P.stamps.getD e.2.1.toNat [])}else if e.1=2 then pM C (dk C P k) k e else if e.1=3 then UH K (dk C P k) k else dk C P k:=by
  unfold iH;rw[ar]
 rw[wP];simp only[iq,go_sem,aO,k0];refine aq (λc1=>?_) (λc1=>?_)
 ·rw[aB c1];obtain⟨m1,m2⟩:=h1 c1;obtain⟨m,hm⟩:∃m:Nat,e.2.1=(m:Int):=⟨e.2.1.toNat,ae⟩
  have an:m<P.stamps.length:=ae;obtain⟨Zr,ow,_,_⟩:=I.s id;obtain⟨p,c,a1,a2,a3⟩:=ow.sl.at1 rfl (k:=.i64) (i:=m) an;obtain⟨v,hv,hS⟩:=a3;cases hv;have hi:=xR hS;refine aQ (λk=>k=g) rfl ?_;refine aF (ptr bp) (λk e=>by rw[e];exact ao q1) ?_
  try simp only[go_sem,aO]
  refine aF V.vc (λk e=>by rw[e];exact ao D) ?_;refine aF (af ((k:Int)+1)) (λk e=>by rw[e];exact ao q3) ?_;refine aF (ptr bp) (λk e=>by rw[e];exact ao q1) ?_
  try simp only[go_sem,aO]
  refine aF V.sv (λk e=>by rw[e];exact ao D) ?_;refine aF (af e.2.1) (λk e=>by rw[e];exact k1) ?_;rw[hm,a1,ah];refine aF c (λk e=>by rw[e];exact a2) ?_;rw[who];have bk:=hs _ (cQ an);refine(Yy I (i:=k+1) hi bk).mono λr g2 ⟨H2,f2⟩=>⟨n',F (o2:=grow o' 2 g.size g2.size) ⟨V,?_⟩ (λc hc=>jl hc) (f2.mono λc _ hc=>.inl (by have hc:o' c=2:=hc;omega)),Dr⟩
  have e1:P.stamps.getD (m:Int).toNat []=P.stamps[m]:=by rw[dJ,dr,gN an];rfl
  rw[e1];exact H2
 rw[aA c1];refine aq (λc2=>?_) (λc2=>?_)
 ·rw[aB c2];obtain⟨m1,m2,m3,m4⟩:=h2 c2;have b0:ldV g (ptr b1)=some (ptr bp):=ao q1;have b2:ldV g (ptr b3)=some (af ((k:Int)+1)):=ao q3;have le:aM 4 g (ptr A)=some (evV e):=aL (l:=[af e.1,af e.2.1,af e.2.2.1,af e.2.2.2]) re 4 rfl;have bg:aE g ⟨b1,0,none⟩=some (ptr bp):=ao q1;have au:aE g ⟨b3,0,none⟩=some (af ((k:Int)+1)):=ao q3;rw[bg,ah,au,ah,le,ah];refine(zez O (P:=dk C P k) ⟨V,I⟩ hk hl m1 m2 m3 m4).mono λr g2 ⟨_,o2,a,b,c⟩=>⟨n',F a b c,Dr⟩
 rw[aA c2];refine aq (λc3=>?_) (λc3=>?_)
 ·rw[aB c3];refine aQ (λk=>k=g) rfl ?_;refine aF (ptr bp) (λk e=>by rw[e];exact ao q1) ?_
  try simp only[go_sem,aO]
  refine aF V.vc (λk e=>by rw[e];exact ao D) ?_;refine aF (af ((k:Int)+1)) (λk e=>by rw[e];exact ao q3) ?_;refine aF (ptr bp) (λk e=>by rw[e];exact ao q1) ?_
  try simp only[go_sem,aO]
  refine aF V.ev (λk e=>by rw[e];exact ao D) ?_;rw[who];refine(Yy I (i:=k+1) (xR (I.e id)) hf).mono λr g2 ⟨H2,f2⟩=>?_
  have a8:∀{c},o' c=0→¬o' c=2:=λh=>ae
  have ax:=aW q1;have a7:=aW q3;have a9:=f2.row q1 (a8 z1);have am:=f2.row q3 (a8 z3);have aa:=H2.p id;have hp:=H2.po;rw[who]at am;refine aQ (λk'=>k'[b1]? =some (.cells #[ptr bp] 35 (0,0))∧k'[b3]? =some (.cells #[af ((k+1:Nat):Int)] 3 (0,0))∧k'[bp]? =some (.cells (jh C V {dk C P k with rows:=jk (K+1) (dk C P k).rows (k+1:Nat) (dk C P k).fin}) 106 (0,0))) ⟨a9,am,aa⟩ ?_;refine aF (ptr bp) (λk e=>ao e.1) ?_;refine aF (ptr bp) (λk e=>ao e.1) ?_
  try simp only[go_sem,aO]
  refine aF V.lv (λk e=>ao e.2.2) ?_;refine aF (ptr bp) (λk e=>ao e.1) ?_
  try simp only[go_sem,aO]
  refine aF V.vc (λk e=>ao e.2.2) ?_;refine aF (af ((k+1:Nat):Int)) (λk e=>ao e.2.1) ?_;refine(YG (H2.c id) ((k+1:Nat):Int)).mono λr g3 ⟨o3,bo,f3,n3⟩=>?_
  have gz:∀{c},c<g.size→o' c=0→¬grow o' 2 g.size g2.size c=2:=λhl h=>by rw[jl hl];omega
  have gp:¬grow o' 2 g.size g2.size bp=2:=ae;have S3:=And.intro (f3.row a9 (gz ax z1)) (And.intro (f3.row am (gz a7 z3)) (f3.row aa gp));refine⟨S3,?_⟩;have ay:MN (K+1) (jk (K+1) (dk C P k).rows (k+1:Nat) (dk C P k).fin) ((k+1:Nat):Int)=jk (K+1) P.rows (k+1:Nat) P.fin (k+1):=by
   unfold MN;rw[aB ae,dJ];rfl
  rw[ay]at o3;refine H2.rs_push (j:=7) ae (H2.f id) o3 bo f3 n3 rfl bv (λh' e=>⟨e.row S3.1,e.row S3.2.1,e.row S3.2.2⟩) λs' g4 hR H4 fA f4=>?_
  have g7:∀{c},c<g.size→o' c=0→¬grow o' 2 g.size g2.size c=7:=λhl h=>by rw[jl hl];omega
  have U:=f4.row S3.2.2 (show¬grow o' 2 g.size g2.size bp=7 by omega);refine⟨⟨f4.row S3.1 (g7 ax z1),f4.row S3.2.1 (g7 a7 z3),U⟩,?_⟩;have os:aV s'=true:=by
   obtain⟨_,o5,_⟩:=hR;exact o5.one
  refine bG U (show 11<_ from by simp[jh]) os λg5 r5 u5=>?_
  have H5:=H4.putL hR u5 r5;refine⟨n',F (o2:=grow (grow o' 2 g.size g2.size) 7 g2.size g4.size) ⟨_,H5⟩ (λc hc=>?_) ?_,Dr⟩
  ·have:=f2.1;rw[jl ae,jl hc]
  ·have s2:=f2.1;have F1:Fr (λc=>o' c≠0∨eB (some C.E) c) g g2:=f2.mono λc _ hc=>.inl (by have hc:o' c=2:=hc;omega)
   have F2:=F1.after fA λc hc h=>.inl (by rw[jl hc]at h;omega)
   exact F2.after u5.fr λc hc h=>.inl (by
    have h:c=bp:=h;rw[h]at hc ⊢;rw[jl hc]at hp;omega)
 rw[aA c3];exact⟨n',F ⟨V,I⟩ (λ_ _=>rfl) (Fr.refl _ _),Dr⟩
end
end
section
def RZ (K:Nat)(P:bS):bS:={P with q:=iL P.q P.sent,rows:=tf (K+1) P.rows 0,stamps:=P.stamps++[P.rows 0],sent:=P.sent+1}
def Lj (K:Nat)(P:bS):bS:={P with q:={P.q with closed:=true},rows:=tf (K+1) P.rows 0,fin:=P.rows 0}
def meetAll (K:Nat)(rows:Nat→List Int)(l:List (List Int)):Nat→List Int:=l.foldl (λr s=>jk (K+1) r 0 s) rows
def zcI (C:C21)(K:Nat)(P:bS):bS:={mL {P with rows:=meetAll K P.rows P.left} 0 1 0 (C.d.X*C.d.Y*C.m.c) false with ret:=true}
def Ds (C:C21)(K:Nat)(P:bS):bS:=if P.sent<bN C.d then RZ K P else if P.q.closed=false then Lj K P else zcI C K P
def io (C:C21)(K:Nat)(P:bS)(i:Int):bS:=
 if fB C K P i=false then P else if i=0 then Ds C K {P with picks:=P.picks+1}else iH C K {P with picks:=P.picks+1} (i-1).toNat
section
variable {C:C21}{Z:Nat→Prop}{K:Nat}{h0 h:ai}{bw:Nat→Nat}{bp:Nat}{o:Nat→Nat}{n:Pic}{P:bS}
theorem zfR (O:C.Ok)(H:eF C Z K h0 bw bp o n P h)(hl:P.acc.length≤999999)(b3:P.stamps.length≤1000000)(b2:0≤P.sent)(bk:∀s∈P.left,s.length≤4398046511104)(b1:P.left.length≤1000000)(bv:bN C.d≤1000000):
  ag prog sr #[ptr bp] h λr h'=>PTo C Z K h0 bw bp o h n (Ds C K P) h':=by
 have HP:=H;obtain⟨V,H,row⟩:=H.row;apply Jt;unfold yf;have hK:=H.few;have c8:aE h ⟨bp,8,none⟩=some (af P.sent):=ao row;have c2:aE h ⟨bp,2,none⟩=some (ptr C.bl):=ao row;have c3:aE h ⟨bp,3,none⟩=some (ptr C.bq):=ao row;have a9:aE h ⟨bp,11,none⟩=some V.lv:=ao row;have c4:aE h ⟨bp,4,none⟩=some V.vc:=ao row;have c9:aE h ⟨bp,9,none⟩=some V.sv:=ao row;have hp:=H.po;have ad:∀rows,MN (K+1) rows (0:Int)=rows 0:=λrows=>by
  unfold MN;rw[aB ae];rfl
 refine aQ (λk=>k=h) rfl ?_;simp only[go_sem,aO];refine aF (af P.sent) (λk e=>by rw[e];exact c8) ?_
 try simp only[go_sem,aO]
 refine aF (ptr C.bl) (λk e=>by rw[e];exact c2) ?_;refine ag.at (ET H.pl O.d) ⟨rfl,?_⟩;unfold Ds;rw[cI,ah];refine aq (λg1=>?_) (λg1=>?_)
 ·rw[aB g1];refine aQ (λk=>k=h) rfl ?_;refine aF (ptr C.bq) (λk e=>by rw[e];exact c3) ?_
  try simp only[go_sem,aO]
  refine aF (af P.sent) (λk e=>by rw[e];exact c8) ?_;refine(zew (H.q id)).mono λr g2 ⟨_,q2,f2⟩=>?_
  have an:Fr (λc=>(λk=>k=1) (o c)) h g2:=f2;have F:=H.take (H.chg (A:=λk=>k=1) ae an) (b:=1);have F:=(F.less (Y:=λk=>False∨k=1) λk hk=>by rcases hk with (h|h)|h<;>first|exact h.elim|exact .inr h).fq (q:=iL P.q P.sent) (by
   have e:(λc=>grow o 1 h.size g2.size c=1)=rV (λc=>o c=1) h g2:=by
    funext c
    refine propext ?_;unfold grow;split
    ·rename_i h3;exact⟨λ_=>.inr h3,λ_=>rfl⟩
    ·rename_i h3;exact⟨.inl,λh=>h.elim id λh=>absurd h h3⟩
   rw[e];exact q2)
  have D:=F.p id;have bo:=F.po;have s2:=f2.1;refine aQ (λk=>k[bp]? =some (.cells (jh C V {P with q:=iL P.q P.sent}) 106 (0,0))) D ?_;refine aF V.sv (λk e=>ao e) ?_
  try simp only[go_sem,aO]
  refine aF V.vc (λk e=>ao e) ?_;refine(YG (F.c id) 0).mono λr L ⟨U,al,f3,n3⟩=>?_
  rw[ad]at U;have S3:=f3.row D (show¬grow o 1 h.size g2.size bp=2 by omega);refine⟨S3,?_⟩;refine F.rs_push (j:=6) ae (F.s id) U al f3 n3 rfl (by show P.stamps.length≤_;omega) (λh' e=>e.row S3) λs' g4 hR H4 fA f4=>?_
  have ar:=f4.row S3 (show¬grow o 1 h.size g2.size bp=6 by omega);have os:aV s'=true:=by
   obtain⟨_,o5,_⟩:=hR;exact o5.one
  try simp only[go_sem,aO]
  refine bG ar (show 9<_ from by simp[jh]) os λg5 r5 u5=>?_
  have H5:=H4.putS hR u5 r5;have ay:aE g5 ⟨bp,8,none⟩=some (af P.sent):=ao (H5.p id);simp only[go_sem,aO,ay];rw[w64 (n:=P.sent+1) ae ae];refine bG (H5.p id) (show 8<_ from by simp[jh]) rfl λg6 r6 u6=>?_
  have H6:=H5.setrow u6 (st:=P.sent+1) (rt:=P.ret) (pk:=P.picks) r6;refine⟨grow (grow o 1 h.size g2.size) 6 g2.size g4.size,⟨_,H6⟩,λc hc=>?_,?_⟩
  ·rw[jl ae,jl hc]
  ·have F1:Fr (λc=>o c≠0∨eB (some C.E) c) h g2:=f2.mono λc _ hc=>.inl (by have hc:o c=1:=hc;omega)
   have F2:=F1.after fA λc hc h=>.inl (by rw[jl hc]at h;omega)
   have F3:=F2.after u5.fr λc hc h=>.inl (by have h:c=bp:=h;rw[h];omega)
   exact F3.after u6.fr λc hc h=>.inl (by have h:c=bp:=h;rw[h];omega)
 ·rw [aA g1];rw[c3,ah];refine ag.at (SM (H.q id)) ?_;cases hc:P.q.closed with
  | false=>
   rw[aB rfl];simp only[go_sem,aO,c3];refine(W9 (H.q id)).mono λr g2 ⟨_,q2,f2⟩=>?_
   have an:Fr (λc=>(λk=>k=1) (o c)) h g2:=f2;have F:=(H.chg (A:=λk=>k=1) ae an).fq q2;have D:=F.p id;have am:aE g2 ⟨bp,4,none⟩=some V.vc:=ao D;simp only[go_sem,aO,am];refine(YG (F.c id) 0).mono λr L ⟨U,al,f3,n3⟩=>?_
   rw[ad]at U;have a7:Fr (λc=>(λk=>k=2) (o c)) g2 L:=f3;have H3:=F.take (F.chg (A:=λk=>k=2) ae a7) (b:=8);have H3:=(H3.less (Y:=λk=>k=8∨k=2) λk hk=>by rcases hk with (h|h)|h<;>first|exact h.elim|exact .inr h|exact .inl h).fc (r:=tf (K+1) P.rows 0) (by rw[zcn (λc hc=>(F.fresh hc).1) ae ae];exact al);have G:=f3.row D (show¬o bp=2 by omega);have hs:Rp.Sl (Rp.int .i64) (λc=>grow o 8 g2.size L.size c=8) L r (P.rows 0):=xn U.ints λ_ c hc=>by
    unfold grow;rw[aB ⟨n3 c hc,Own.lt U hc⟩]
   refine bG G (show 10<_ from by simp[jh]) (Er U) λg4 r4 u4=>?_
   have H4:=H3.putE hs u4 r4;have s2:=f2.1;refine⟨grow o 8 g2.size L.size,⟨_,H4⟩,λc hc=>jl ae,?_⟩;have F1:Fr (λc=>o c≠0∨eB (some C.E) c) h g2:=f2.mono λc _ hc=>.inl (by have hc:o c=1:=hc;omega)
   have F2:=F1.after f3 λc hc h=>.inl ae
   exact F2.after u4.fr λc hc h=>.inl (by have h:c=bp:=h;rw[h];omega)
  | true=>
   rw[aA (by simp)];simp only[go_sem,aO,a9];have bg:=(H.f id).len;rw[bg,ah];refine bO (α:=Unit) P.left.length 0 (λi _=>[af (i:Int)]) (λi _ g=>∃o',aZ (λ_=>False) C Z K h0 bw bp o' n V {P with rows:=meetAll K P.rows (P.left.take i)} g∧(∀c,c<h.size→o' c=o c)∧Fr (λc=>o c≠0∨eB (some C.E) c) h g) () rfl (bZ _) ⟨o,H,λ_ _=>rfl,Fr.refl _ _⟩ λi _ g again ρ _ hi ⟨o',I,oo,f⟩ a8=>?_
   have aa:=I.p id;have am:aE g ⟨bp,4,none⟩=some V.vc:=ao aa;have be:aE g ⟨bp,1,none⟩=some (ptr C.bt):=ao aa;have sg:=f.1;simp only[iq];rw[cI,ah];refine aq (λg2=>?_) (λg2=>?_)
   ·have W:i<P.left.length:=ae;have bd:(i:Int)+1=((i+1:Nat):Int):=ae;obtain⟨Zr,ow,_,_⟩:=I.f id;obtain⟨p,c,a1,a2,a3⟩:=ow.sl.at1 rfl (k:=.i64) (i:=i) W;obtain⟨v,hv,hS⟩:=a3;cases hv;have ax:=bk _ (cQ W);rw[a1,ah,a2,ah];simp only[go_sem,aO,am];refine(Yy I (i:=0) (xR hS) ax).mono λr L ⟨H3,f3⟩=>?_
    rw[w64 (n:=(i:Int)+1) ae ae,bd];refine a8 () L W ⟨grow o' 2 g.size L.size,?_,λc hc=>by rw[jl ae];exact oo c hc,f.after f3 λc hc h=>.inl (by rw[←oo c hc];have h:o' c=2:=h;omega)⟩;have e:meetAll K P.rows (P.left.take (i+1))=jk (K+1) (meetAll K P.rows (P.left.take i)) 0 P.left[i]:=by
     unfold meetAll;rw[jE W,AM];rfl
    rw[e];exact H3
   ·have:i=P.left.length:=ae;subst this;rw[JF]at I;simp only[go_sem,aO,be];obtain⟨s1,s2,s3,s4,s5⟩:=I.sui.2;refine ag.at (HI I.set.out I.sui.1.fits) ?_;have bf:=dB I.sui.1.fits;have au:1≤n.w*n.h*n.c:=vv (vv ae ae) ae;have en:n.w*n.h*n.c=C.d.X*C.d.Y*C.m.c:=by rw[s2,s3,s4];rfl
    rw[en]at au bf ⊢;refine(HN (P:={P with rows:=meetAll K P.rows P.left}) ⟨V,I⟩ (who:=0) ae (by show P.acc.length≤_;omega) ae ae au ae).mono λr L ⟨_,U,H3,q3,f3⟩=>?_
    obtain⟨V3,B3,G⟩:=H3.row
    try simp only[go_sem,aO]
    refine bG G (show 12<_ from by simp[jh]) rfl λg4 r4 u4=>?_
    have b0:=B3.po;have H4:=B3.setrow u4 (st:=P.sent) (rt:=true) (pk:=P.picks) r4;refine⟨U,⟨_,H4⟩,λc hc=>(q3 c ae).trans (oo c hc),?_⟩;have F2:=f.after f3 λc hc h=>by rwa [oo c hc]at h
    exact F2.after u4.fr λc hc h=>.inl (by have h:c=bp:=h;rw[←oo c hc,←q3 c ae,h];omega)
end
end
end Go.Proofs.YtjljhnandbbldaaGreatDoor
namespace Go.Proofs.YtjljhnandbbldaaGreatDoor
open Go Go.Crisp
attribute [local irreducible] ag cO aT stK aG vK qK bL gK eM bC mkK cR HA JA Ep bsK clK vu pP Zb
structure QA (C:C21)(sent:Int)(w:WD)(words:Int):Prop where
 tl:∀x∈w.tiles,0≤x∧x<sent
 st:(w.state=1∧pV (some C.E) w.job∧w.tiles≠[])∨((w.state=0∨w.state=2)∧w.job=none)
 jb:∀t y e,w.job=some (t,y,e)→t=aS C.d (w.tiles.getLast?.getD 0)∧words=mM C (w.tiles.getLast?.getD 0)
structure mU (C:C21)(K:Nat)(P:bS):Prop where
 sent:0≤P.sent∧P.sent≤bN C.d
 st:(P.stamps.length:Int)=P.sent
 q:∀x∈P.q.l,0≤x∧x<P.sent
 w:∀i,i<K→QA C P.sent (P.ws i) (P.words i)
 tn:∀i,i<K→((P.ws i).tiles.length:Int)≤P.picks
 rows:∀i,i≤K→(P.rows i).length=K+1
 ss:∀s∈P.stamps,s.length=K+1
 fn:P.fin.length≤K+1
 ls:∀s∈P.left,s.length=K+1
 ln:(P.left.length:Int)≤P.picks
 ac:(P.acc.length:Int)≤2+2*P.picks
 pk:0≤P.picks
 cl:P.q.closed=true→P.sent=bN C.d
theorem NE {n:Nat}{rows:Nat→List Int}(h:∀i,i<n→(rows i).length=n)(i:Int):∀j,j<n→(tf n rows i j).length=n:=by
 intro j A;unfold tf;split
 ·rename_i hi;by_cases e:j=i.toNat
  ·simp only[e,cV,vw];exact h _ ae
  ·simp only[e,cS];exact h j A
 ·exact h j A
theorem Pj {n:Nat}{rows:Nat→List Int}(h:∀i,i<n→(rows i).length=n)(i:Int)(s:List Int):∀j,j<n→(jk n rows i s j).length=n:=by
 intro j D;unfold jk;split
 ·rename_i A;unfold Hj at A;simp only[dt,dH]at A;by_cases e:j=i.toNat
  ·simp only[e,cV,kF];rw[h _ ae,A.2.1,Nat.max_self]
  ·simp only[e,cS];exact h j D
 ·exact h j D
theorem Va {C:C21}(O:C.Ok){x:Int}(h1:0≤x)(A:x<bN C.d):1≤mM C x∧mM C x≤100000000000:=by
 have H:=dB O.m.fits;have G:=iF O.d h1 A;unfold eI at G;have I:1*1≤(aS C.d x).w*C.m.c:=lV ae ae ae ae;have D:1≤(kn (bT C.d.s.y.lines):Int)∧(kn (bT C.d.s.y.lines):Int)≤65536:=by unfold kn;omega
 have F:1≤(gH ((aS C.d x).w*C.m.c):Int)∧(gH ((aS C.d x).w*C.m.c):Int)≤262144:=by unfold gH;omega
 have h1:1*1≤(kn (bT C.d.s.y.lines):Int)*(gH ((aS C.d x).w*C.m.c):Int):=lV D.1 F.1 ae ae;have A:=lV D.2 F.2 ae (show(0:Int)≤65536 by omega);unfold mM;omega
theorem Pu {l:List Int}(h:l≠[]):l.getLast?.getD 0∈l:=by
 rw[List.getLast?_eq_some_getLast h];exact List.getLast_mem h
theorem QA.step {C:C21}{sent:Int}{w:WD}{words:Int}{q:QD}(H:QA C sent w words)(hq:∀x∈q.l,0≤x∧x<sent):
  QA C sent (cD (some C.E) (C.jo (bi q)) w q).1 (if w.state=0∧bX q=0 then mM C (bi q)else words):=by
 have W:∀(jo:Option (dc×Int×Int)) (tl:List Int),(jo≠none→tl≠[])→(stJ (cE (some C.E) jo)=1∧pV (some C.E) (cE (some C.E) jo)∧tl≠[])∨((stJ (cE (some C.E) jo)=0∨stJ (cE (some C.E) jo)=2)∧cE (some C.E) jo=none):=λjo tl h=>by
  rcases KJ (some C.E) jo with⟨h1,U,G⟩|h1
  ·refine .inl ⟨?_,U,h ?_⟩
   ·rcases C1 (E:=some C.E) (jo:=jo)with h|h
    ·exact h.1
    ·exact absurd h.2 h1
   ·rw[←G];exact h1
  ·refine .inr ⟨?_,h1⟩;rw[h1];exact .inl rfl
 have I:∀(jo:Option (dc×Int×Int)) t y e,cE (some C.E) jo=some (t,y,e)→jo=some (t,y,e):=λjo t y e h=>by
  rcases KJ (some C.E) jo with⟨_,_,G⟩|h1
  ·rw[←G];exact h
  ·rw[h1]at h;cases h
 obtain⟨st,tl,jo,wd⟩:=w;obtain⟨h1,U,G⟩:=H;unfold cD;rcases U with⟨A,F,s3⟩|⟨A|A,F⟩
 ·have A:st=1:=A;subst A;cases jo with
  |none=>exact(show False from F).elim
  |some x=>
   obtain⟨t,y,e⟩:=x;rw[aB rfl,aA (show¬((1:Int)=0∧_)from λh=>ae)];refine⟨h1,W _ _ λ_=>s3,λt' y' e' h=>?_⟩;have h:=I (some (t,eJ (C.E.d t) y e,fV (C.E.d t) y e)) _ _ _ h;have h:some (t,eJ (C.E.d t) y e,fV (C.E.d t) y e)=some (t',y',e'):=h;cases h;exact G t y e rfl
 ·have A:st=0:=A;subst A;have F:jo=none:=F;subst F;rw[aA (show¬(0:Int)=1 by omega),aA (show¬(0:Int)=2 by omega)];by_cases D:bX q=0
  ·rw[aB D,aB ⟨rfl,D⟩];have hm:bi q∈q.l:=by
    unfold bX at D;unfold bi;cases hl:q.l with
    |nil=>rw[hl,aB rfl]at D;split at D<;>omega
    |cons a l=>simp
   have hx:=hq _ hm;refine⟨λx L=>?_,W _ _ λ_=>by simp[BA],λt y e h=>?_⟩
   ·rcases gP.1 L with h|h
    ·exact h1 x h
    ·rw[ia.1 h];exact hx
   ·have h:=I (C.jo (bi q)) _ _ _ h;have h:some (Ma C.d (bi q))=some (t,y,e):=h;unfold Ma at h;cases h;show _=aS C.d ((tl++[bi q]).getLast?.getD 0)∧_=mM C ((tl++[bi q]).getLast?.getD 0);simp
  ·rw[aA D,aA (show¬((0:Int)=0∧bX q=0)from λh=>D h.2)];split
   ·exact⟨h1,.inr ⟨.inr rfl,rfl⟩,λt y e h=>by cases h⟩
   ·exact⟨h1,.inr ⟨.inl rfl,rfl⟩,λt y e h=>by cases h⟩
 ·have A:st=2:=A;subst A;rw[aA (show¬(2:Int)=1 by omega),aB rfl,aA (show¬((2:Int)=0∧_)from λh=>ae)];exact⟨h1,.inr ⟨.inr rfl,F⟩,G⟩
end Go.Proofs.YtjljhnandbbldaaGreatDoor
namespace Go.Proofs.YtjljhnandbbldaaGreatDoor
open Go Go.Crisp
attribute [local irreducible] ag cO aT stK aG vK qK bL gK eM bC mkK cR HA JA Ep bsK clK vu pP Zb
open _root_.Go.Proofs.Tryz
section
structure DV where
 X:Value
 Y:Value
 tv:Value
 mv:Value
 ql:Value
 cv:Value
 wv:Value
 av:Value
 st:Value
 en:Value
 lf:Value
def dpC (C:C21)(P:bS)(V:DV):List Value:=[V.X,V.Y,.int .i64 C.d.s.x.n,.int .i64 C.d.s.y.n,.int .i64 C.d.s.border,.int .i64 C.m.c,V.tv,V.mv,.int .i64 P.q.room,V.ql,.bool P.q.closed,V.cv,V.wv,V.av,.int .i64 P.sent,.bool P.q.closed,.bool P.ret,V.st,V.en,V.lf]
structure DAt (Z:Nat→Prop)(C:C21)(K N:Nat)(P:bS)(V:DV)(h:ai):Prop where
 x:Rp.Sl ns Z h V.X C.d.s.x.lines
 y:Rp.Sl ns Z h V.Y C.d.s.y.lines
 t:Rp.Sl Gn Z h V.tv (dA C.d N)
 m:Rp.Sl XK Z h V.mv (fR C N)
 q:Rp.Sl (Rp.int .i64) Z h V.ql P.q.l∧Rp.SlCap V.ql
 c:Rp.Sl rIs Z h V.cv ((List.range (K+1)).map P.rows)
 w:Rp.Sl rVD Z h V.wv ((List.range K).map λi=>vOf C.E (P.ws i))
 a:Rp.Sl lT Z h V.av P.acc
 s:Rp.Sl rIs Z h V.st P.stamps
 e:Rp.Sl (Rp.int .i64) Z h V.en P.fin
 f:Rp.Sl rIs Z h V.lf P.left
section
variable {Z:Nat→Prop}{C:C21}{K N:Nat}{P:bS}{V:DV}{h:ai}
theorem DAt.fr {M:Nat→Prop}{h':ai}(H:DAt Z C K N P V h)(f:Fr M h h')(q:∀b,b<h.size→Z b→¬M b):DAt Z C K N P V h':=
 ⟨H.x.fr f q,H.y.fr f q,H.t.fr f q,H.m.fr f q,⟨H.q.1.fr f q,H.q.2⟩,H.c.fr f q,H.w.fr f q,H.a.fr f q,H.s.fr f q,H.e.fr f q,H.f.fr f q⟩
theorem DAt.ext {h':ai}(H:DAt Z C K N P V h)(k:Ext h h'):DAt Z C K N P V h':=H.fr (M:=λ_=>False) k.fr λ_ _ _=>id
theorem DAt.mono {Z':Nat→Prop}(H:DAt Z C K N P V h)(q:∀b,b<h.size→Z b→Z' b):DAt Z' C K N P V h:=
 ⟨H.x.mono q,H.y.mono q,H.t.mono q,H.m.mono q,⟨H.q.1.mono q,H.q.2⟩,H.c.mono q,H.w.mono q,H.a.mono q,H.s.mono q,H.e.mono q,H.f.mono q⟩
theorem DAt.ones (H:DAt Z C K N P V h):∀v∈dpC C P V,aV v=true:=
 az H.x.one (az H.y.one (az rfl (az rfl (az rfl (az rfl (az H.t.one (az H.m.one (az rfl (az H.q.1.one (az rfl (az H.c.one (az H.w.one (az H.a.one (az rfl (az rfl (az rfl (az H.s.one (az H.e.one (az H.f.one aU)))))))))))))))))))
end
def DTo (Z:Nat→Prop)(C:C21)(K N:Nat)(h:ai)(P:bS)(r:Value)(h':ai):Prop:=∃Z' V,r=.agg (dpC C P V).toArray∧DAt Z' C K N P V h'∧(∀c,Z' c→(Z c∨h.size≤c)∧c<h'.size)∧Ext h h'
theorem Eo {h:ai}{L F:Nat}{l:List Value}{T:TypeId}{A:Array Value}{n:Nat}{R:Value→ai→Prop}(r1:h[L]? =some (.cells l.toArray T (0,0)))(W:h[F]? =some (.cells A T (0,0)))(H:l.length=n)(ho:A.size=n)(h1:∀v∈l,aV v=true)
  (HR:∀h',Upd F h h'→R (.agg l.toArray) h'):vK (aM n h (ptr L)) λI=>stK n (ptr F) I h λU D=>vK (aM n D (ptr F)) λG=>R G D:=by
 rw[aL r1 n H,ah];refine bI W ae h1 H λh' r' u=>?_
 rw[aL r' n H,ah];exact HR h' u
theorem KQ {Z:Nat→Prop}{h:ai}{v:Value}{l:List (List Int)}{k:IntKind}{i:Nat}(H:Rp.Sl rIs Z h v l)(hi:i<l.length):∃p s,bh 1 v (.int k (i:Int))=some p∧ldV h p=some s∧Rp.Sl (Rp.int .i64) Z h s l[i]:=by
 obtain⟨b,o,cs,h1,F,D,⟨s,rfl,A⟩,_⟩:=H.atp (show 0<rIs.w from Nat.one_pos) (k:=k) hi;refine⟨_,s,h1,?_,A⟩;rw[dn];exact D 0 (by simp)
section
variable {Z:Nat→Prop}{C:C21}{K N:Nat}{P:bS}{V:DV}{h:ai}
theorem rP (H:DAt Z C K N P V h)(zl:∀c,Z c→c<h.size){who:Nat}(hw:who≤K){buf lo cnt:Int}{wr:Bool}(hl:P.acc.length≤1000000)(h1:0≤lo)(h2:0≤cnt)(h3:lo+cnt≤1000000000000):
  ag prog iE #[.agg (dpC C P V).toArray,af (who:Int),af buf,af lo,af cnt,.bool wr] h (DTo Z C K N h (mL P who buf lo cnt wr)):=by
 apply QT;unfold FA;rw[bF];refine aI λL g1 r1 e1 n1=>aI λb3 g3 r3 e3 n3=>?_
 have k1:=aW r1;have k3:=aW r3;have s1:=e1.1;have s3:=e3.1;have r1:=e3.row r1;have H3:=H.ext (e1.trans e3);have al:aE g3 ⟨L,11,none⟩=some V.cv:=ao r1;simp only[go_sem,aO,al];have ad:who<((List.range (K+1)).map P.rows).length:=by simp;omega
 obtain⟨p,s,i1,i2,i3⟩:=KQ (k:=.i64) H3.c ad;have e0:((List.range (K+1)).map P.rows)[who]=P.rows who:=by simp
 rw[e0]at i3;simp only[go_sem,i1,i2];rw[w64 (n:=lo+cnt) ae ae,WF i3.one,bH,ah];have oa:∀v∈[af (who:Int),s,af buf,af lo,af (lo+cnt),.bool wr],aV v=true:=az rfl (az i3.one (az rfl (az rfl (az rfl (az rfl aU)))));refine cX (cs:=[af (who:Int),s,af buf,af lo,af (lo+cnt),.bool wr]) rfl oa rfl λb5 G r5 U n5=>?_
 have s5:=U.1;have k5:=aW r5;have E5:Ext h G:=e1.trans (e3.trans U);have H5:=H3.ext U;have aa:=U.row r1;have ar:=U.row r3;refine bB (λxs g=>xs=[]∧∃Z' A,DAt Z' C K N (mL P who buf lo cnt wr) {V with av:=A} g∧g[L]? =some (.cells (dpC C (mL P who buf lo cnt wr) {V with av:=A}).toArray 48 (0,0))∧g[b3]? =some (.cells aK 48 (0,0))∧(∀c,Z' c→(Z c∨h.size≤c)∧c<g.size∧c≠b3)∧Ext h g) ?_ ?_
 ·refine aQ (Ext G) (Ext.refl _) ?_;have M0:Cp lT Z G none none G:=Cp.start G λc hc=>ce (zl c hc) E5.1
  have q1:∀D,Ext G D→aE D ⟨L,13,none⟩=some V.av:=λD e=>ao (e.row aa)
  have q2:∀D,Ext G D→aM 6 D (ptr b5)=some (.agg [af (who:Int),s,af buf,af lo,af (lo+cnt),.bool wr].toArray):=λD e=>aL (e.row r5) 6 rfl
  refine aF V.av q1 ?_;refine aF _ q2 ?_;have hx:lT.R Z G [af (who:Int),s,af buf,af lo,af (lo+cnt),.bool wr] ⟨who,P.rows who,buf,lo,lo+cnt,wr⟩:=⟨s,rfl,i3.ext U⟩
  have fin:∀A D,Rp.Ow lT Z D A (([]:List Acc)++P.acc++[⟨who,P.rows who,buf,lo,lo+cnt,wr⟩])→Ext G D→(∀b,blk A b→G.size≤b)→stK 1 (.pointer (some ⟨L,13,none⟩)) A D λ_ F=>([]:List Value)=[]∧∃Z' A,DAt Z' C K N (mL P who buf lo cnt wr) {V with av:=A} F∧F[L]? =some (.cells (dpC C (mL P who buf lo cnt wr) {V with av:=A}).toArray 48 (0,0))∧F[b3]? =some (.cells aK 48 (0,0))∧(∀c,Z' c→(Z c∨h.size≤c)∧c<F.size∧c≠b3)∧Ext h F:=by
   intro A D o e n;have am:=e.row aa;refine bG am (by show 13<(dpC C P V).toArray.size;simp[dpC]) o.one λg7 r7 W=>⟨rfl,λc=>(Z c∧c<h.size)∨blk A c,A,?_,r7,W.row ae (e.row ar),λc hc=>?_,(E5.trans e).upd n1 W⟩
   ·have hz:∀c,Z c→¬c=L:=λc hc h=>by have:=zl c hc;omega
    have H7:=((H5.ext e).mono (Z':=λc=>(Z c∧c<h.size)∨blk A c) λc _ hc=>.inl ⟨hc,zl c hc⟩)
    have o7:Rp.Sl lT (λc=>(Z c∧c<h.size)∨blk A c) D A (P.acc++[⟨who,P.rows who,buf,lo,lo+cnt,wr⟩]):=o.sl.mono λc _ hc=>hc.imp (λhc=>⟨hc,zl c hc⟩) id
    have q:∀c,c<D.size→((Z c∧c<h.size)∨blk A c)→¬c=L:=λc _ hc h=>by
     rcases hc with hc|hc
     ·exact hz c hc.1 h
     ·have:=n c hc;omega
    have I:=H7.fr W.fr q;exact⟨I.x,I.y,I.t,I.m,I.q,I.c,I.w,o7.fr W.fr q,I.s,I.e,I.f⟩
   ·have s7:=W.1;have se:=e.1;rcases hc with hc|hc
    ·exact⟨.inl hc.1,ae,ae⟩
    ·have:=n c hc;have:=o.lt hc;exact⟨.inr ae,ae,ae⟩
  repeat' first
   |exact fin _ _ ‹_› ‹_› ‹_›
   |exact Cp.ext ‹Cp _ _ _ _ _ _›
   |exact ‹Ext G _›
   |refine And.intro ?_ ?_
   |refine Cp.row0 ‹Cp _ _ _ none _ _› λv D M=>?_
   |refine Cp.row1 (e:=lT) ‹Cp lT _ _ _ none _› hx rfl λv D M=>?_
   |refine Cp.app (e:=lT) (l:=[]) ‹Cp lT _ _ (some (_,[])) _ _› H5.a rfl (by simp;omega) (by simp;omega) λv D M=>?_
   |refine Cp.app1 (e:=lT) (l:=[]++P.acc) ‹Cp lT _ _ (some (_,[]++P.acc)) (some _) _› rfl (by simp;omega) (by simp;omega) λv D o e n=>?_
 ·rintro xs ρ g6 ⟨rfl,Z',A,H6,r6,an,z6,E6⟩;refine Eo r6 an rfl rfl H6.ones λg8 u8=>⟨Z',_,rfl,H6.fr u8.fr λc _ hc=>(z6 c hc).2.2,λc hc=>⟨(z6 c hc).1,by rw[u8.1];exact(z6 c hc).2.1⟩,E6.upd ae u8⟩
end
end
end Go.Proofs.YtjljhnandbbldaaGreatDoor
namespace Go.Proofs.YtjljhnandbbldaaGreatDoor
open Go Go.Crisp
theorem zbL {n:Nat}{rows:Nat→List Int}{i:Nat}(hi:i<n):tf n rows (i:Int)=λj=>if j=i then(rows i).set i (IntKind.i64.wrap ((rows i).getD i 0+1))else rows j:=by
 unfold tf;rw[aB ae];simp only[dJ]
end Go.Proofs.YtjljhnandbbldaaGreatDoor
namespace Go.Proofs.YtjljhnandbbldaaGreatDoor
open Go Go.Crisp
attribute [local irreducible] ag cO aT stK aG vK qK bL gK eM bC mkK cR HA JA Ep bsK clK vu pP Zb
open _root_.Go.Proofs.Tryz
section
theorem KO {α:Type}(n:Nat)(f:Nat→α)(i:Nat)(x:α):((List.range n).map f).set i x=(List.range n).map λk=>if k=i then x else f k:=by
 apply pU
 ·simp
 ·intro k h1 A;rw[AL];simp only[eE,yY];by_cases h:i=k
  ·rw[aB h,aB h.symm]
  ·rw[aA h,aA (ie h)]
theorem W8 {Z:Nat→Prop}{h:ai}{v s:Value}{l:List (List Int)}{x:List Int}{i:Nat}(H:Rp.Sl rIs Z h v l)(zl:∀c,Z c→c<h.size)(hs:Rp.Sl (Rp.int .i64) Z h s x)(hi:i<l.length)(hl:l.length≤1000000):
  ag prog yG #[v,af (i:Int),s] h λr h'=>Rp.Sl rIs (λc=>(Z c∨h.size≤c)∧c<h'.size) h' r (l.set i x)∧Ext h h':=by
 apply Tw;unfold Ix;refine Cp.row0 (Cp.start (e:=rIs) h zl) λv1 g1 U=>?_
 refine U.app H rfl (by simp;omega) (by simp;omega) λv2 g2 F=>?_
 obtain⟨o2,L⟩:=F.row _ rfl;obtain⟨p,G,D⟩:=Rp.Ow.set1 (e:=rIs) rfl (k:=.i64) (i:=i) o2 (by simpa using hi);have G:bh 1 v2 (af (i:Int))=some p:=G;rw[G,ah];refine D s x _ ⟨s,rfl,hs.ext F.ext⟩ λg3 I f3 s3=>⟨?_,F.ext.then_fr f3 L⟩
 have W:([]++l).set i x=l.set i x:=rfl;have se:=F.ext.1;rw[W]at I;refine I.sl.mono λc hc A=>⟨?_,hc⟩
 rcases A with A|A
 ·exact .inl A
 ·exact .inr (L c A)
section
variable {Z:Nat→Prop}{C:C21}{K N:Nat}{P:bS}{V:DV}{h:ai}
theorem DAt.setC {Z':Nat→Prop}{cv:Value}{r:Nat→List Int}(H:DAt Z' C K N P V h)(hc:Rp.Sl rIs Z' h cv ((List.range (K+1)).map r)):DAt Z' C K N {P with rows:=r} {V with cv:=cv} h:=⟨H.x,H.y,H.t,H.m,H.q,hc,H.w,H.a,H.s,H.e,H.f⟩
theorem Ll (H:DAt Z C K N P V h)(zl:∀c,Z c→c<h.size){i:Nat}(hi:i≤K)(hK:K≤100000)(hr:(P.rows i).length=K+1):
  ag prog qu #[.agg (dpC C P V).toArray,af (i:Int)] h λr h'=>∃u s Z',r=.tuple #[u,s]∧(∀c,Z' c→(Z c∨h.size≤c)∧c<h'.size)∧Rp.Sl (Rp.int .i64) Z' h' s (P.rows i)∧(∃V',u=.agg (dpC C {P with rows:=tf (K+1) P.rows i} V').toArray∧DAt Z' C K N {P with rows:=tf (K+1) P.rows i} V' h')∧Ext h h':=by
 apply QS;unfold Fz;rw[bF];refine aI λb1 g1 r1 e1 n1=>aI λb3 g3 r3 e3 n3=>?_
 have k1:=aW r1;have k3:=aW r3;have s1:=e1.1;have s3:=e3.1;have r1:=e3.row r1;have E3:=e1.trans e3;have H3:=H.ext E3;have ar:aE g3 ⟨b1,11,none⟩=some V.cv:=ao r1;simp only[go_sem,aO,ar];have G:i<((List.range (K+1)).map P.rows).length:=by simp;omega
 obtain⟨p,s,i1,i2,i3⟩:=KQ (k:=.i64) H3.c G;have e0:((List.range (K+1)).map P.rows)[i]=P.rows i:=by simp
 rw[e0]at i3;simp only[go_sem,i1,i2];have al:∀c,Z c→c<g3.size:=λc hc=>by have:=zl c hc;omega
 refine Cp.row0 (Cp.start (e:=Rp.int .i64) g3 al) λv1 g4 M1=>?_
 refine M1.app i3 rfl (by simp;omega) (by simp;omega) λD g5 M2=>?_
 obtain⟨o2,n2⟩:=M2.row _ rfl;obtain⟨p2,W,j2⟩:=o2.sl.int_at (k':=.i64) (i:=i) (by simp;omega);obtain⟨p3,hp,ad⟩:=Rp.Ow.set1 (e:=Rp.int .i64) rfl (k:=.i64) (i:=i) o2 (by simp;omega);have hp:bh 1 D (af (i:Int))=some p3:=hp;have W:bh 1 D (af (i:Int))=some p2:=W;have ep:p2=p3:=by rw[hp]at W;exact(oE W).symm
 subst ep;rw[W,ah,j2,ah];have ew:∀x:Int,ak .i .add (af x) aJ=some (af (IntKind.i64.wrap (x+1))):=λ_=>rfl
 rw[ew,ah,ah];refine ad _ (IntKind.i64.wrap ((P.rows i).getD i 0+1)) _ (by
  have:([]++P.rows i)[i]'(by simp;omega)=(P.rows i).getD i 0:=by simp[List.getD,gN (show i<(P.rows i).length by omega)]
  rw[this];rfl) λF o6 f6 s6=>?_
 have I:Ext g3 F:=M2.ext.then_fr f6 n2;have aa:=I.row r1;have au:=I.row r3;have sE:=I.1;have ax:aE F ⟨b1,11,none⟩=some V.cv:=ao aa;simp only[go_sem,aO,ax];have an:∀c,(Z c∨blk D c)→c<F.size:=λc hc=>hc.elim (λh=>by have:=al c h;omega) λh=>o6.lt h
 have am:Rp.Sl (Rp.int .i64) (λc=>Z c∨blk D c) F D ((P.rows i).set i (IntKind.i64.wrap ((P.rows i).getD i 0+1))):=o6.sl;refine(W8 ((H3.ext I).mono (λc _ hc=>.inl hc)).c an am G (by simp;omega)).mono λr L ⟨q7,U⟩=>?_
 have s7:=U.1;have ay:=U.row aa;refine bG ay (by show 11<(dpC C P V).toArray.size;simp[dpC]) q7.one λg8 r8 u8=>?_
 have s8:=u8.1;have er:((List.range (K+1)).map P.rows).set i ((P.rows i).set i (IntKind.i64.wrap ((P.rows i).getD i 0+1)))=(List.range (K+1)).map (tf (K+1) P.rows i):=by
  rw[zbL ae,KO]
 rw[er]at q7;have E7:Ext h L:=E3.trans (I.trans U);have E8:Ext h g8:=E7.upd n1 u8;have A:∀c,((Z c∨blk D c)∨F.size≤c)∧c<L.size→¬c=b1∧¬c=b3∧(Z c∨h.size≤c):=λc hc=>by
  rcases hc.1 with (h1|h1)|h1
  ·have:=zl c h1;exact⟨ae,ae,.inl h1⟩
  ·have:=n2 c h1;exact⟨ae,ae,.inr ae⟩
  ·exact⟨ae,ae,.inr ae⟩
 have D7:DAt (λc=>((Z c∨blk D c)∨F.size≤c)∧c<L.size) C K N {P with rows:=tf (K+1) P.rows i} {V with cv:=r} L:=
  DAt.setC (((H3.ext I).ext U).mono λc hc h=>⟨.inl (.inl h),hc⟩) q7
 have D8:=D7.fr u8.fr λc _ hc=>(A c hc).1
 have i8:Rp.Sl (Rp.int .i64) (λc=>((Z c∨blk D c)∨F.size≤c)∧c<L.size) g8 s (P.rows i):=(((i3.ext I).ext U).mono λc hc h=>⟨.inl (.inl h),hc⟩).fr u8.fr λc _ hc=>(A c hc).1
 refine Eo r8 (u8.row ae (U.row au)) rfl rfl D8.ones λg9 u9=>?_
 exact⟨_,_,λc=>((Z c∨blk D c)∨F.size≤c)∧c<L.size,rfl,λc hc=>⟨(A c hc).2.2,by have:=u9.1;have:=hc.2;omega⟩,i8.fr u9.fr λc _ hc=>(A c hc).2.1,⟨_,rfl,D8.fr u9.fr λc _ hc=>(A c hc).2.1⟩,E8.upd ae u9⟩
def xm (rows:Nat→List Int)(i:Nat)(s:List Int):Nat→List Int:=λj=>if j=i then xk (rows i) s else rows j
theorem Ab {n:Nat}{rows:Nat→List Int}{i:Nat}{s:List Int}(hi:i<n)(A:s.length=n)(h0:∀x∈s,0≤x):jk n rows (i:Int) s=xm rows i s:=by
 have:Hj n (i:Int) s=true:=by
  unfold Hj;simp only[dt,dH,Kc,List.any_eq_false,dH];exact⟨⟨ae,ae⟩,A,λx D=>by have:=h0 x D;simp;omega⟩
 unfold jk xm;rw[aB this,dJ]
theorem Lm (H:DAt Z C K N P V h)(zl:∀c,Z c→c<h.size){i:Nat}(hi:i≤K)(hK:K≤100000)(hr:(P.rows i).length≤1000000){s:Value}{l:List Int}(hs:Rp.Sl (Rp.int .i64) Z h s l)(hl:l.length≤1000000):
  ag prog qw #[.agg (dpC C P V).toArray,af (i:Int),s] h (DTo Z C K N h {P with rows:=xm P.rows i l}):=by
 apply QU;unfold FB;rw[bF];refine aI λU g1 r1 e1 n1=>aI λb3 g3 r3 e3 n3=>?_
 have k1:=aW r1;have k3:=aW r3;have s1:=e1.1;have s3:=e3.1;have r1:=e3.row r1;have E3:=e1.trans e3;have I:=H.ext E3;have A:i<((List.range (K+1)).map P.rows).length:=by simp;omega
 obtain⟨p,u,i1,i2,i3⟩:=KQ (k:=.i64) I.c A;have e0:((List.range (K+1)).map P.rows)[i]=P.rows i:=by simp
 rw[e0]at i3;refine aQ (λk=>Ext g3 k∧ldV k p=some u) ⟨Ext.refl _,i2⟩ ?_;have q1:∀G,(Ext g3 G∧ldV G p=some u)→ldV G (.pointer (some ⟨U,11,none⟩))=some V.cv:=λG e=>by rw[dn];exact ao (e.1.row r1)
 have f11:aC 11 (ptr U)=some (.pointer (some ⟨U,11,none⟩)):=by rfl
 rw[f11,ah];refine aF V.cv q1 ?_;rw[ah];refine aF V.cv q1 ?_;rw[i1,ah];refine aF u (λG e=>e.2) ?_;refine(za8 (xR i3) (xR (hs.ext E3)) ae ae).mono λr W ⟨o5,D,n5⟩=>⟨⟨D,?_⟩,?_⟩
 ·obtain⟨p',u',j1,j2,_⟩:=KQ (k:=.i64) (I.ext D).c A;have:p'=p:=by rw[i1]at j1;exact(oE j1).symm
  subst this;obtain⟨b,ob,cs,w1,w2,w3,⟨u2,ec,_⟩,wz⟩:=I.c.atp (show 0<rIs.w from Nat.one_pos) (k:=.i64) A;subst ec;have w1:bh 1 V.cv (af (i:Int))=some (.pointer (some ⟨b,ob,none⟩)):=w1;rw[i1]at w1;cases w1;rw[dn]at i2 ⊢;exact Fr.cell (M:=λ_=>False) D.fr i2 id
 have s5:=D.1;have aa:∀c,(Z c∨blk r c)→c<W.size:=λc hc=>hc.elim (λh=>by have:=zl c h;omega) λh=>o5.lt h
 have al:Rp.Sl (Rp.int .i64) (λc=>Z c∨blk r c) W r (xk (P.rows i) l):=xn (jG.ints o5) λ_ b hb=>.inr hb
 refine(W8 ((I.ext D).mono (λc _ hc=>.inl hc)).c aa al A (by simp;omega)).mono λr7 g7 ⟨q7,L⟩=>?_
 have s7:=L.1;have ad:=L.row (D.row r1);rw[ah];refine bG ad (by show 11<(dpC C P V).toArray.size;simp[dpC]) q7.one λg8 r8 u8=>?_
 have s8:=u8.1;rw[KO]at q7;have E8:Ext h g8:=(E3.trans (D.trans L)).upd n1 u8;have F:∀c,((Z c∨blk r c)∨W.size≤c)∧c<g7.size→¬c=U∧¬c=b3∧(Z c∨h.size≤c):=λc hc=>by
  rcases hc.1 with (h1|h1)|h1
  ·have:=zl c h1;exact⟨ae,ae,.inl h1⟩
  ·have:=n5 c h1;exact⟨ae,ae,.inr ae⟩
  ·exact⟨ae,ae,.inr ae⟩
 have D7:DAt (λc=>((Z c∨blk r c)∨W.size≤c)∧c<g7.size) C K N {P with rows:=xm P.rows i l} {V with cv:=r7} g7:=
  DAt.setC (((I.ext D).ext L).mono λc hc h=>⟨.inl (.inl h),hc⟩) q7
 have D8:=D7.fr u8.fr λc _ hc=>(F c hc).1
 refine Eo r8 (u8.row ae (L.row (D.row r3))) rfl rfl D8.ones λg9 u9=>?_
 exact⟨_,_,rfl,D8.fr u9.fr λc _ hc=>(F c hc).2.1,λc hc=>⟨(F c hc).2.2,by have:=u9.1;have:=hc.2;omega⟩,E8.upd ae u9⟩
end
end
section
theorem jR {α:Type}{e:Rp α}{Z:Nat→Prop}{h:ai}{v:Value}{l:List α}(H:Rp.Sl e Z h v l):aD v=some (af (l.length:Int)):=by obtain⟨a,c,e⟩:=H.isSl;rw[e];rfl
section
variable {Z:Nat→Prop}{C:C21}{K N:Nat}{P:bS}{V:DV}{h:ai}
theorem SI (H:DAt Z C K N P V h)(hN:(N:Int)=bN C.d)(cl:P.q.closed=true→P.sent=bN C.d){i:Int}(hi:I64 i):ag prog vV #[.agg (dpC C P V).toArray,af i] h λr h'=>r=.bool (fB C K P i)∧Ext h h':=by
 apply QV;unfold FC;rw[bF];refine aI λA g1 r1 F n1=>?_
 have I:=H.ext F;have U:aD V.wv=some (af (K:Int)):=by rw[jR I.w];simp
 have et:aD V.tv=some (af (N:Int)):=by rw[jR I.t];simp[dA]
 have eq:aD V.ql=some (af (P.q.l.length:Int)):=jR I.q.1;have ef:aD V.lf=some (af (P.left.length:Int)):=jR I.f;have c6:aE g1 ⟨A,6,none⟩=some V.tv:=ao r1;have c8:aE g1 ⟨A,8,none⟩=some (af P.q.room):=ao r1;have c9:aE g1 ⟨A,9,none⟩=some V.ql:=ao r1;have an:aE g1 ⟨A,10,none⟩=some (.bool P.q.closed):=ao r1;have D:aE g1 ⟨A,12,none⟩=some V.wv:=ao r1;have am:aE g1 ⟨A,14,none⟩=some (af P.sent):=ao r1;have ad:aE g1 ⟨A,15,none⟩=some (.bool P.q.closed):=ao r1;have al:aE g1 ⟨A,16,none⟩=some (.bool P.ret):=ao r1;have aa:aE g1 ⟨A,19,none⟩=some V.lf:=ao r1;unfold I64 at hi;by_cases a1:i<0
 ·have e:fB C K P i=false:=aB (.inl a1);simp only[go_sem,a1];rw[e];exact⟨rfl,F⟩
 by_cases a2:(K:Int)<i
 ·have e:fB C K P i=false:=aB (.inr a2);simp only[go_sem,aO,a1,D,U,a2];rw[e];exact⟨rfl,F⟩
 by_cases a3:0<i
 ·obtain⟨k,rfl⟩:∃k:Nat,i=(k:Int)+1:=⟨(i-1).toNat,ae⟩
  have hk:k<K:=ae;have e:fB C K P ((k:Int)+1)=decide ((P.ws k).state=1∨((P.ws k).state=0∧bX P.q≠1)):=by
   unfold fB;rw[aA ae,aB ae,show((k:Int)+1-1).toNat=k by omega]
  simp only[go_sem,aO,a1,D,U,a2,a3];rw[w64 (n:=(k:Int)+1-1) ae ae,show(k:Int)+1-1=(k:Int)by omega];obtain⟨pt,cs,q1,q2,hv⟩:=I.w.atw (show 0<3 by omega) (k:=.i64) (i:=k) (by simp;omega);have one:=rVD.one hv;obtain⟨tv,lv,L,_⟩:=hv;have q1:bh 3 V.wv (af (k:Int))=some pt:=q1;have q2:aM 3 g1 pt=some (.agg cs.toArray):=q2;have es:(((List.range K).map λi=>vOf C.E (P.ws i))[k]'(by simp;omega)).state=(P.ws k).state:=by simp[vOf]
  rw[es]at L;rw[q1,ah,q2,ah];refine cX (cs:=cs) (by rw[L];rfl) one (by rw[L];rfl) λb5 g5 r5 e5 n5=>?_
  rw[L]at r5;have d0:aE g5 ⟨b5,0,none⟩=some (af (P.ws k).state):=ao r5;have d9:aE g5 ⟨A,9,none⟩=some V.ql:=ao (e5.row r1);have d10:aE g5 ⟨A,10,none⟩=some (.bool P.q.closed):=ao (e5.row r1);have E:=F.trans e5;simp only[go_sem,aO,d0];rw[e];by_cases W:(P.ws k).state=0
  ·by_cases hl:P.q.l=[]
   ·have G:bX P.q=if P.q.closed then 2 else 1:=aB hl
    have l0:(P.q.l.length:Int)=0:=by rw[hl];rfl
    simp only[go_sem,aO,W,d9,eq,l0,d10];cases hc:P.q.closed with
    |false=>rw[G,hc];simp[go_sem,E]
    |true=>rw[G,hc];simp[go_sem,E]
   ·have G:bX P.q=0:=aA hl;have l0:0<P.q.l.length:=vE.2 hl;have l1:(0:Int)<P.q.l.length:=ae;simp only[go_sem,aO,W,d9,eq,l1];rw[G];simp[go_sem,E]
  ·simp only[go_sem,W,d0];refine⟨?_,E⟩;simp[W]
 ·have e0:i=0:=ae;subst e0;have e:fB C K P 0=if P.ret=true then false else if P.sent<bN C.d then decide (kO P.q≠1)else !P.q.closed||decide (P.left.length=K):=by
   unfold fB;rw[aA ae,aA ae]
  rw[e];simp only[go_sem,aO,a1,D,U,a2,a3,al];cases G:P.ret with
  |true=>simp[go_sem,F]
  | false=>
   simp only[go_sem,aO,am,c6,et];by_cases h1:P.sent<bN C.d
   ·have h2:P.sent<(N:Int):=ae;have hc:P.q.closed=false:=by
     cases e:P.q.closed with
     |false=>rfl
     |true=>have:=cl e;omega
    have hs:decide (kO P.q≠1)=decide ((P.q.l.length:Int)<P.q.room):=by
     unfold kO;rw[hc];by_cases h:P.q.room≤P.q.l.length
     ·simp[h]
     ·simp[h];omega
    simp only[go_sem,aO,h2,c9,c8,eq,h1,hs];exact⟨by simp,F⟩
   ·have h2:¬P.sent<(N:Int):=ae;simp only[go_sem,aO,h2,ad,h1];cases hc:P.q.closed with
    |false=>simp[go_sem,F]
    |true=>
     simp only[go_sem,aO,aa,D,ef,U];refine⟨?_,F⟩;simp[Int.ofNat_inj]
end
end
section
theorem IY (d:QD)(x:Int):(iL d x).closed=d.closed:=by
 unfold iL;split
 ·rfl
 ·split<;>rfl
theorem YY {t:TypeId}{b o n:Nat}{h:ai}{cur:Array Value}{l:List Value}{K:Value→ai→Prop}(r:h[b]? =some (.cells cur t (0,0)))(D:o+l.length≤cur.size)(h1:∀v∈l,aV v=true)(F:l.length=n)
  (A:∀h',h'[b]? =some (.cells (wrL cur o l) t (0,0))→Upd b h h'→K undef h'):stK n (.pointer (some ⟨b,o,none⟩)) (.agg l.toArray) h K:=
 stN r D h1 F (A _ (lD r) Upd.set)
section
variable {Z:Nat→Prop}{C:C21}{K N:Nat}{P:bS}{V:DV}{h:ai}
theorem Yz (H:DAt Z C K N P V h)(zl:∀c,Z c→c<h.size)(hN:(N:Int)=bN C.d)(hs:0≤P.sent)(b5:N≤4096)(h1:P.sent<bN C.d)(hK:K≤100000)(hr:(P.rows 0).length=K+1)(cb:P.stamps.length≤1000000)(hq:P.q.l.length≤1000000000):
  ag prog qx #[.agg (dpC C P V).toArray] h (DTo Z C K N h (RZ K P)):=by
 apply yR;unfold sC;rw[bF];refine aI λb1 g1 r1 e1 n1=>aI λb3 G r3 e3 n3=>?_
 have k1:=aW r1;have k3:=aW r3;have s1:=e1.1;have s3:=e3.1;have r1:=e3.row r1;have E3:=e1.trans e3;have H3:=H.ext E3;have et:aD V.tv=some (af (N:Int)):=by rw[jR H3.t];simp[dA]
 have c6:aE G ⟨b1,6,none⟩=some V.tv:=ao r1;have b0:aE G ⟨b1,14,none⟩=some (af P.sent):=ao r1;have l8:aM 3 G (.pointer (some ⟨b1,8,none⟩))=some (.agg [af P.q.room,V.ql,.bool P.q.closed].toArray):=Du r1 8 3 _ rfl rfl;have h2:P.sent<(N:Int):=ae;simp only[go_sem,aO,b0,c6,et,h2,l8];have HQ:rQ.R Z G [af P.q.room,V.ql,.bool P.q.closed] P.q:=⟨V.ql,rfl,H3.q.1,H3.q.2⟩
 refine(zbf HQ hq).mono λr I ⟨ds,er,RQ,e4⟩=>?_
 subst er;have s4:=e4.1;have x0:∀a b:Value,aP (.tuple #[a,b]) 0=some a:=λ_ _=>rfl
 have x1:∀a b:Value,aP (.tuple #[a,b]) 1=some b:=λ_ _=>rfl
 obtain⟨lq,rfl,q1,q2⟩:=RQ;rw[x0,ah,x1,ah];have bk:=e4.row r1;have U:∀c,Z c∨(G.size≤c∧c<I.size)→(Z c∨h.size≤c)∧c<I.size∧c≠b1∧c≠b3:=λc hc=>by
  rcases hc with hc|hc
  ·have:=zl c hc;exact⟨.inl hc,ae,ae,ae⟩
  ·exact⟨.inr ae,hc.2,ae,ae⟩
 have er:wrL (dpC C P V).toArray 8 [af (iL P.q P.sent).room,lq,.bool (iL P.q P.sent).closed]=(dpC C {P with q:=iL P.q P.sent} {V with ql:=lq}).toArray:=by
  have:=IY P.q P.sent;unfold dpC;simp only[this];rfl
 refine YY bk (by simp[dpC]) (az rfl (az q1.one (az rfl aU))) rfl λg5 r5 u5=>?_
 rw[er]at r5;have s5:=u5.1;have D4:DAt (λc=>Z c∨(G.size≤c∧c<I.size)) C K N {P with q:=iL P.q P.sent} {V with ql:=lq} I:=by
  have D:=(H3.ext e4).mono (Z':=λc=>Z c∨(G.size≤c∧c<I.size)) λc _ h=>.inl h
  exact⟨D.x,D.y,D.t,D.m,⟨q1,q2⟩,D.c,D.w,D.a,D.s,D.e,D.f⟩
 have D5:=D4.fr u5.fr λc _ hc=>(U c hc).2.2.1
 rw[aL r5 20 rfl,ah];refine(Ll (i:=0) D5 (λc hc=>by have:=(U c hc).2.1;omega) (bZ _) hK hr).mono λr g6 ⟨u,s,Z6,be,z6,a8,⟨V6,eu,D6⟩,e6⟩=>?_
 subst be eu;rw[x0,ah,x1,ah];have s6:=e6.1;refine aI λb7 g7 r7 e7 n7=>?_
 refine bI r7 (by rfl) D6.ones (by rfl) λg8 r8 u8=>?_
 have e8:Ext g6 g8:=e7.upd n7 u8;have s8:=e8.1;have k7:=aW r8;have z8:∀c,((Z c∨(G.size≤c∧c<I.size))∨Z6 c)→(Z c∨h.size≤c)∧c<g6.size∧c≠b1∧c≠b3:=λc hc=>by
  rcases hc with hc|hc
  ·have:=U c hc;exact⟨this.1,ae,this.2.2⟩
  ·obtain⟨w1,w2⟩:=z6 c hc;rcases w1 with w1|w1
   ·have:=U c w1;exact⟨this.1,w2,this.2.2⟩
   ·exact⟨.inr ae,w2,ae,ae⟩
 have bd:=(e6.trans e8).row r5;have bo:=(e6.trans e8).row (u5.row (show b3≠b1 by omega) (e4.row r3));refine Cp.row0 (Cp.start (e:=rIs) (Z:=λc=>(Z c∨(G.size≤c∧c<I.size))∨Z6 c) g8 λc hc=>by have:=(z8 c hc).2.1;omega) λv1 g9 M1=>?_
 have bv:aE g9 ⟨b1,17,none⟩=some V.st:=ao (M1.ext.row bd);simp only[go_sem,aO,bv];have S8:Rp.Sl rIs (λc=>(Z c∨(G.size≤c∧c<I.size))∨Z6 c) g8 V.st P.stamps:=((D5.s.ext e6).ext e8).mono λc _ h=>.inl h
 refine M1.app S8 rfl (by simp;omega) (by simp;omega) λv2 b6 M2=>?_
 refine Cp.row1c (e:=rIs) (x:=P.rows 0) rfl M2 ⟨s,rfl,(a8.ext e8).mono λc _ h=>.inr h⟩ λv3 b8 M3=>?_
 refine M3.app1 rfl (by simp;omega) (by simp;omega) λv4 an aa F a9=>?_
 have cc:=F.1;have a7:=F.row r8;refine bG a7 (by simp[dpC]) aa.one λbg ar W=>?_
 have am:aE bg ⟨b7,14,none⟩=some (af P.sent):=ao ar;simp only[go_sem,aO,am];rw[w64 (n:=P.sent+1) ae ae];refine bG ar (by simp[dpC]) rfl λax al L=>?_
 have ca:=W.1;have b2:=L.1;have ez:((0:Nat):Int)=0:=rfl
 let Zf:Nat→Prop:=λc=>((Z c∨(G.size≤c∧c<I.size))∨Z6 c)∨blk v4 c
 have zf:∀c,Zf c→(Z c∨h.size≤c)∧c<an.size∧c≠b3∧c≠b7:=λc hc=>by
  rcases hc with hc|hc
  ·have:=z8 c hc;exact⟨this.1,ae,this.2.2.2,ae⟩
  ·have:=a9 c hc;exact⟨.inr ae,aa.lt hc,ae,ae⟩
 have A:=((D6.ext e8).ext F).mono (Z':=Zf) λc _ h=>.inl (.inr h)
 have au:DAt Zf C K N (RZ K P) {V6 with st:=v4} ax:=by
  have D:DAt Zf C K N (RZ K P) {V6 with st:=v4} an:=⟨A.x,A.y,A.t,A.m,A.q,A.c,A.w,A.a,aa.sl,A.e,A.f⟩
  exact(D.fr W.fr λc _ hc=>(zf c hc).2.2.2).fr L.fr λc _ hc=>(zf c hc).2.2.2
 have ay:ax[b7]? =some (.cells (dpC C (RZ K P) {V6 with st:=v4}).toArray 48 (0,0)):=al;refine Eo ay (L.row (show b3≠b7 by omega) (W.row (show b3≠b7 by omega) (F.row bo))) rfl rfl au.ones λb4 ad=>?_
 have EE:Ext h g8:=((E3.trans e4).upd n1 u5).trans (e6.trans e8);exact⟨Zf,_,rfl,au.fr ad.fr λc _ hc=>(zf c hc).2.2.1,λc hc=>⟨(zf c hc).1,by have:=(zf c hc).2.1;have:=ad.1;omega⟩,(((EE.trans F).upd ae W).upd ae L).upd ae ad⟩
theorem Xb (H:DAt Z C K N P V h)(zl:∀c,Z c→c<h.size)(hN:(N:Int)=bN C.d)(h1:¬P.sent<bN C.d)(hc:P.q.closed=false)(hK:K≤100000)(hr:(P.rows 0).length=K+1):
  ag prog qx #[.agg (dpC C P V).toArray] h (DTo Z C K N h (Lj K P)):=by
 apply yR;unfold sC;rw[bF];refine aI λG g1 r1 e1 n1=>aI λb3 L r3 e3 n3=>?_
 have k1:=aW r1;have k3:=aW r3;have s1:=e1.1;have s3:=e3.1;have r1:=e3.row r1;have E3:=e1.trans e3;have A:=H.ext E3;have et:aD V.tv=some (af (N:Int)):=by rw[jR A.t];simp[dA]
 have c6:aE L ⟨G,6,none⟩=some V.tv:=ao r1;have am:aE L ⟨G,14,none⟩=some (af P.sent):=ao r1;have al:aE L ⟨G,15,none⟩=some (.bool false):=by have:aE L ⟨G,15,none⟩=some (.bool P.q.closed):=ao r1;rw[this,hc]
 have h2:¬P.sent<(N:Int):=ae;simp only[go_sem,aO,am,c6,et,h2,al];refine bG r1 (by simp[dpC]) rfl λg4 r4 u4=>?_
 refine bG r4 (by simp[dpC]) rfl λg5 r5 u5=>?_
 have s4:=u4.1;have s5:=u5.1;have x0:∀a b:Value,aP (.tuple #[a,b]) 0=some a:=λ_ _=>rfl
 have x1:∀a b:Value,aP (.tuple #[a,b]) 1=some b:=λ_ _=>rfl
 have r5:g5[G]? =some (.cells (dpC C {P with q:={P.q with closed:=true}} V).toArray 48 (0,0)):=r5;have D3:DAt Z C K N {P with q:={P.q with closed:=true}} V L:=⟨A.x,A.y,A.t,A.m,A.q,A.c,A.w,A.a,A.s,A.e,A.f⟩
 have zb:∀c,c<L.size→Z c→¬c=G:=λc _ hc h=>by have:=zl c hc;omega
 have D5:=(D3.fr u4.fr zb).fr u5.fr λc ar hc=>zb c ae hc
 rw[aL r5 20 rfl,ah];refine(Ll (i:=0) D5 (λc hc=>by have:=zl c hc;omega) (bZ _) hK hr).mono λr g6 ⟨u,s,Z6,ad,z6,U,⟨V6,eu,D6⟩,e6⟩=>?_
 subst ad eu;rw[x0,ah,x1,ah];have s6:=e6.1;refine aI λb7 g7 r7 e7 n7=>?_
 refine bI r7 (by rfl) D6.ones (by rfl) λg8 r8 u8=>?_
 have W:Ext g6 g8:=e7.upd n7 u8;have s8:=W.1;have k7:=aW r8;simp only[go_sem,aO];refine bG r8 (by simp[dpC]) U.one λg9 r9 u9=>?_
 have s9:=u9.1;have zf:∀c,Z6 c→(Z c∨h.size≤c)∧c<g6.size∧c≠b3∧c≠b7:=λc hc=>by
  obtain⟨w1,w2⟩:=z6 c hc;rcases w1 with w1|w1
  ·have:=zl c w1;exact⟨.inl w1,w2,ae,ae⟩
  ·exact⟨.inr ae,w2,ae,ae⟩
 have F:=D6.ext W;have D9:DAt Z6 C K N (Lj K P) {V6 with en:=s} g9:=by
  have D:DAt Z6 C K N (Lj K P) {V6 with en:=s} g8:=⟨F.x,F.y,F.t,F.m,F.q,F.c,F.w,F.a,F.s,U.ext W,F.f⟩
  exact D.fr u9.fr λc _ hc=>(zf c hc).2.2.2
 have r9:g9[b7]? =some (.cells (dpC C (Lj K P) {V6 with en:=s}).toArray 48 (0,0)):=r9;have aa:=u9.row (show b3≠b7 by omega) ((e6.trans W).row (u5.row (show b3≠G by omega) (u4.row (show b3≠G by omega) r3)));refine Eo r9 aa rfl rfl D9.ones λan I=>?_
 have EE:Ext h g8:=((E3.upd n1 u4).upd n1 u5).trans (e6.trans W);exact⟨Z6,_,rfl,D9.fr I.fr λc _ hc=>(zf c hc).2.2.1,λc hc=>⟨(zf c hc).1,by have:=(zf c hc).2.1;have:=I.1;omega⟩,(EE.upd ae u9).upd ae I⟩
end
end
section
theorem TX (K:Nat)(rows:Nat→List Int)(l:List (List Int))(s:List Int):meetAll K rows (l++[s])=jk (K+1) (meetAll K rows l) 0 s:=by unfold meetAll;rw[AM];rfl
theorem Wd {K:Nat}{rows:Nat→List Int}{l:List (List Int)}(h:∀s∈l,s.length=K+1∧∀x∈s,0≤x)(A:(rows 0).length=K+1):(meetAll K rows l 0).length=K+1:=by
 induction l generalizing rows with
 |nil=>exact A
 |cons s l D=>
  show(meetAll K (jk (K+1) rows 0 s) l 0).length=_;refine D (λs F=>h s (by simp[F])) ?_;have h0:=h s (by simp);rw[show(0:Int)=((0:Nat):Int)from rfl,Ab ae h0.1 h0.2];unfold xm;rw[aB rfl,kF,A,h0.1];omega
section
variable {Z:Nat→Prop}{C:C21}{K N:Nat}{P:bS}{V:DV}{h:ai}
theorem YA (H:DAt Z C K N P V h)(zl:∀c,Z c→c<h.size)(hN:(N:Int)=bN C.d)(h1:¬P.sent<bN C.d)(hc:P.q.closed=true)(hK:K≤100000)(hr:(P.rows 0).length=K+1)(hl:∀s∈P.left,s.length=K+1∧∀x∈s,0≤x)(bd:P.left.length≤1000000)(ha:P.acc.length≤1000000)(b2:0≤C.d.X*C.d.Y*C.m.c∧C.d.X*C.d.Y*C.m.c≤1000000000000)(b4:0≤C.d.X*C.d.Y∧C.d.X*C.d.Y≤1000000000000):
  ag prog qx #[.agg (dpC C P V).toArray] h (DTo Z C K N h (zcI C K P)):=by
 apply yR;unfold sC;rw[bF];refine aI λA g1 r1 e1 n1=>aI λb3 W r3 e3 n3=>?_
 have k1:=aW r1;have k3:=aW r3;have s1:=e1.1;have s3:=e3.1;have r1:=e3.row r1;have E3:=e1.trans e3;have H3:=H.ext E3;have et:aD V.tv=some (af (N:Int)):=by rw[jR H3.t];simp[dA]
 have ef:aD V.lf=some (af (P.left.length:Int)):=jR H3.f;have c6:aE W ⟨A,6,none⟩=some V.tv:=ao r1;have a9:aE W ⟨A,14,none⟩=some (af P.sent):=ao r1;have a7:aE W ⟨A,15,none⟩=some (.bool true):=by have:aE W ⟨A,15,none⟩=some (.bool P.q.closed):=ao r1;rw[this,hc]
 have ad:aE W ⟨A,19,none⟩=some V.lf:=ao r1;have h2:¬P.sent<(N:Int):=ae;simp only[go_sem,aO,a9,c6,et,h2,a7,ad,ef];have zb:∀c,c<W.size→Z c→¬c=A:=λc _ hc h=>by have:=zl c hc;omega
 refine bO (α:=Unit) P.left.length 0 (λi _=>[af (i:Int)]) (λi _ g=>∃Zi F,g[A]? =some (.cells (dpC C {P with rows:=meetAll K P.rows (P.left.take i)} F).toArray 48 (0,0))∧DAt Zi C K N {P with rows:=meetAll K P.rows (P.left.take i)} F g∧(∀c,Zi c→(Z c∨h.size≤c)∧c<g.size∧c≠A∧c≠b3)∧Fr (λc=>c=A) W g) () rfl (bZ _) ⟨Z,V,r1,H3,λc hc=>by have:=zl c hc;exact⟨.inl hc,ae,ae,ae⟩,Fr.refl _ _⟩ λi _ g again ρ _ hi ⟨Zi,F,ri,D,zi,fi⟩ al=>?_
 have sf:=fi.1;simp only[iq];rw[cI,ah];refine aq (λc1=>?_) (λc1=>?_)
 ·have G:i<P.left.length:=ae;obtain⟨p,s,i1,i2,i3⟩:=KQ (k:=.i64) (H3.f.fr fi zb) G;have hm:=hl _ (cQ G);have au:∀s∈P.left.take i,s.length=K+1∧∀x∈s,0≤x:=λs hs=>hl s (AT hs)
  have be:=Wd au hr;rw[i1,ah,i2,ah,aL ri 20 rfl,ah];have ay:Rp.Sl (Rp.int .i64) (λc=>Zi c∨Z c) g s P.left[i]:=i3.mono λc _ h=>.inr h
  have a8:=D.mono (Z':=λc=>Zi c∨Z c) λc _ h=>.inl h
  have zu:∀c,(Zi c∨Z c)→(Z c∨h.size≤c)∧c<g.size∧c≠A∧c≠b3:=λc hc=>hc.elim (zi c) λhc=>by have:=zl c hc;exact⟨.inl hc,ae,ae,ae⟩
  refine(Lm (i:=0) a8 (λc hc=>(zu c hc).2.1) (bZ _) hK (by show(meetAll K P.rows (P.left.take i) 0).length≤_;omega) ay ae).mono λr L ⟨Z4,V4,er,U,z4,e4⟩=>?_
  subst er;have s4:=e4.1;have em:xm (meetAll K P.rows (P.left.take i)) 0 P.left[i]=meetAll K P.rows (P.left.take (i+1)):=by
   rw[jE G,TX,show(0:Int)=((0:Nat):Int)from rfl,Ab ae hm.1 hm.2]
  have U:DAt Z4 C K N {P with rows:=meetAll K P.rows (P.left.take (i+1))} V4 L:=by rw[←em];exact U
  have eV:dpC C {P with rows:=xm (meetAll K P.rows (P.left.take i)) 0 P.left[i]} V4=dpC C {P with rows:=meetAll K P.rows (P.left.take (i+1))} V4:=rfl;have I:∀c,Z4 c→(Z c∨h.size≤c)∧c<L.size∧c≠A∧c≠b3:=λc hc=>by
   obtain⟨w1,w2⟩:=z4 c hc;rcases w1 with w1|w1
   ·have:=zu c w1;exact⟨this.1,w2,this.2.2⟩
   ·exact⟨.inr ae,w2,ae,ae⟩
  refine bI (e4.row ri) (by rfl) U.ones (by rfl) λg5 r5 u5=>?_
  have an:(i:Int)+1=((i+1:Nat):Int):=ae;simp only[go_sem];rw[w64 (n:=(i:Int)+1) ae ae,an];exact al () g5 G ⟨Z4,V4,r5,U.fr u5.fr λc _ hc=>(I c hc).2.2.1,λc hc=>⟨(I c hc).1,by rw[u5.1];exact(I c hc).2.1,(I c hc).2.2⟩,(fi.after e4.fr λ_ _ h=>False.elim h).after u5.fr λ_ _ h=>h⟩
 ·have:i=P.left.length:=ae;subst this;rw[JF]at ri D;refine bG ri (by simp[dpC]) rfl λL r4 u4=>?_
  have s4:=u4.1;have r4:L[A]? =some (.cells (dpC C {P with rows:=meetAll K P.rows P.left,ret:=true} F).toArray 48 (0,0)):=r4;have U:DAt Zi C K N {P with rows:=meetAll K P.rows P.left,ret:=true} F L:=(show DAt Zi C K N {P with rows:=meetAll K P.rows P.left,ret:=true} F g from⟨D.x,D.y,D.t,D.m,D.q,D.c,D.w,D.a,D.s,D.e,D.f⟩).fr u4.fr λc _ hc=>(zi c hc).2.2.1
  have ar:aD F.X=some (af C.d.X):=jR U.x;have am:aD F.Y=some (af C.d.Y):=jR U.y;have d0:aE L ⟨A,0,none⟩=some F.X:=ao r4;have d1:aE L ⟨A,1,none⟩=some F.Y:=ao r4;have d5:aE L ⟨A,5,none⟩=some (af C.m.c):=ao r4;rw[aL r4 20 rfl,ah];simp only[go_sem,aO,d0,d1,d5,ar,am];rw[w64 (n:=C.d.X*C.d.Y) ae ae,w64 (n:=C.d.X*C.d.Y*C.m.c) ae ae];refine(rP (who:=0) U (λc hc=>by have:=(zi c hc).2.1;omega) (bZ _) ha (gj _) b2.1 ae).mono λr g5 ⟨Z5,V5,er,D5,z5,e5⟩=>?_
  subst er;have s5:=e5.1;have aa:∀c,Z5 c→(Z c∨h.size≤c)∧c<g5.size∧c≠b3:=λc hc=>by
   obtain⟨w1,w2⟩:=z5 c hc;rcases w1 with w1|w1
   ·have:=zi c w1;exact⟨this.1,w2,this.2.2.2⟩
   ·exact⟨.inr ae,w2,ae⟩
  have ax:=e5.row (u4.row (show b3≠A by omega) (fi.row r3 (show¬b3=A by omega)));refine bI ax (by rfl) D5.ones (by rfl) λg6 r6 u6=>?_
  rw[aL r6 20 rfl,ah];have EE:Ext h g:=E3.then_fr fi λc hc=>by have hc:c=A:=hc;omega
  exact⟨Z5,V5,rfl,D5.fr u6.fr λc _ hc=>(aa c hc).2.2,λc hc=>⟨(aa c hc).1,by rw[u6.1];exact(aa c hc).2.1⟩,((EE.upd n1 u4).trans e5).upd ae u6⟩
end
end
section
section
variable {C:C21}{K:Nat}{P:bS}
theorem QA.more {s A:Int}{w:WD}{k:Int}(H:QA C s w k)(h:s≤A):QA C A w k:=⟨λx D=>by have:=H.tl x D;omega,H.st,H.jb⟩
theorem zdF (H:mU C K P)(h:P.sent<bN C.d):mU C K (RZ K {P with picks:=P.picks+1}):=by
 have h1:=H.sent;have F:=H.st;have G:=H.pk;refine⟨⟨by show 0≤P.sent+1;omega,by show P.sent+1≤_;omega⟩,by show((P.stamps++[P.rows 0]).length:Int)=P.sent+1;rw[cF];simp only[pS,lX];omega,λx A=>?_,λi hi=>(H.w i hi).more (by show P.sent≤P.sent+1;omega),λi hi=>by have:=H.tn i hi;show _≤P.picks+1;exact AG this ae,λi hi=>NE (λj I=>H.rows j ae) 0 i ae,λs D=>?_,H.fn,H.ls,by have:=H.ln;show _≤P.picks+1;exact AG this ae,by have:=H.ac;show(P.acc.length:Int)≤2+2*(P.picks+1);omega,by show 0≤P.picks+1;omega,λhc=>?_⟩
 ·have A:x∈(iL P.q P.sent).l:=A;show 0≤x∧x<P.sent+1;unfold iL at A;split at A
  ·have:=H.q x A;omega
  ·split at A
   ·have:=H.q x A;omega
   ·rcases gP.1 A with A|A
    ·have:=H.q x A;omega
    ·have:=ia.1 A;omega
 ·rcases gP.1 D with D|D
  ·exact H.ss s D
  ·rw[ia.1 D];exact H.rows 0 ae
 ·have hc:(iL P.q P.sent).closed=true:=hc;have hc:P.q.closed=true:=by
   unfold iL at hc;split at hc
   ·exact hc
   ·split at hc<;>exact hc
  have:=H.cl hc;omega
theorem zcN (H:mU C K P)(h:¬P.sent<bN C.d):mU C K (Lj K {P with picks:=P.picks+1}):=by
 have h1:=H.sent;have A:=H.pk;exact⟨H.sent,H.st,H.q,H.w,λi hi=>by have:=H.tn i hi;show _≤P.picks+1;exact AG this ae,λi hi=>NE (λj D=>H.rows j ae) 0 i ae,H.ss,by show(P.rows 0).length≤_;rw[H.rows 0 ae];exact ck _,H.ls,by have:=H.ln;show _≤P.picks+1;exact AG this ae,by have:=H.ac;show(P.acc.length:Int)≤2+2*(P.picks+1);omega,by show 0≤P.picks+1;omega,λ_=>by show P.sent=_;omega⟩
theorem zaj {rows:Nat→List Int}(h:∀i,i≤K→(rows i).length=K+1):∀(l:List (List Int)) i,i≤K→(meetAll K rows l i).length=K+1:=by
 intro l;induction l generalizing rows with
 |nil=>exact h
 |cons s l A=>exact A (rows:=jk (K+1) rows 0 s) λi hi=>Pj (λj D=>h j ae) 0 s i ae
theorem zek (H:mU C K P):mU C K (zcI C K {P with picks:=P.picks+1}):=by
 have A:=H.pk;exact⟨H.sent,H.st,H.q,H.w,λi hi=>by have:=H.tn i hi;show _≤P.picks+1;exact AG this ae,zaj H.rows P.left,H.ss,H.fn,H.ls,by have:=H.ln;show _≤P.picks+1;exact AG this ae,by have:=H.ac;show((P.acc++[_]).length:Int)≤2+2*(P.picks+1);rw[cF];simp only[pS,lX];omega,by show 0≤P.picks+1;omega,H.cl⟩
theorem YX {E:Option WE}{jo:Option (dc×Int×Int)}{w:WD}{q:QD}:(∀x∈(cD E jo w q).2.1.l,x∈q.l)∧(cD E jo w q).2.1.closed=q.closed:=by
 have A:(∀x∈(iM q).l,x∈q.l)∧(iM q).closed=q.closed:=⟨λx D=>List.mem_of_mem_tail D,rfl⟩
 unfold cD;split
 ·split
  ·exact⟨λ_ h=>h,rfl⟩
  ·exact⟨λ_ h=>h,rfl⟩
 ·split
  ·exact⟨λ_ h=>h,rfl⟩
  ·split
   ·exact A
   ·split<;>exact A
theorem zdD (H:mU C K P){k:Nat}(A:k<K):mU C K (dk C {P with picks:=P.picks+1} k):=by
 have G:=H.pk;have hq:=YX (E:=some C.E) (jo:=C.jo (bi P.q)) (w:=P.ws k) (q:=P.q);have D:=(H.w k A).step H.q;have I:=Vm (E:=some C.E) (jo:=C.jo (bi P.q)) (w:=P.ws k) (d:=P.q);refine⟨H.sent,H.st,λx F=>H.q x (hq.1 x F),λi hi=>?_,λi hi=>?_,H.rows,H.ss,H.fn,H.ls,by have:=H.ln;show _≤P.picks+1;exact AG this ae,by have:=H.ac;show(P.acc.length:Int)≤2+2*(P.picks+1);omega,by show 0≤P.picks+1;omega,λhc=>H.cl (by rw[←hq.2];exact hc)⟩
 ·by_cases e:i=k
  ·subst e;show QA C P.sent (if i=i then(cD (some C.E) (C.jo (bi P.q)) (P.ws i) P.q).1 else P.ws i) (if i=i∧(P.ws i).state=0∧bX P.q=0 then mM C (bi P.q)else P.words i);simp only[cV,EC];exact D
  ·show QA C P.sent (if i=k then _ else P.ws i) (if i=k∧_ then _ else P.words i);rw[aA e,aA λh=>e h.1];exact H.w i hi
 ·by_cases e:i=k
  ·subst e;show(((if i=i then(cD (some C.E) (C.jo (bi P.q)) (P.ws i) P.q).1 else P.ws i).tiles.length:Nat):Int)≤P.picks+1;rw[aB rfl];have:=H.tn i A;omega
  ·show(((if i=k then(cD (some C.E) (C.jo (bi P.q)) (P.ws k) P.q).1 else P.ws i).tiles.length:Nat):Int)≤P.picks+1;rw[aA e];have:=H.tn i hi;omega
theorem zdy (H:mU C K P){k:Nat}(U:k<K):mU C K (iH C K {P with picks:=P.picks+1} k):=by
 have S:=zdD H U;have L:=H.ac;have I:=H.ln;unfold iH;split
 ·exact⟨S.sent,S.st,S.q,S.w,S.tn,λi hi=>Pj (λj F=>H.rows j ae) _ _ i ae,S.ss,S.fn,S.ls,S.ln,S.ac,S.pk,S.cl⟩
 ·split
  ·have D:((pM C (dk C {P with picks:=P.picks+1} k) k (evP C {P with picks:=P.picks+1} k)).acc.length:Int)≤2+2*(P.picks+1):=by
    unfold pM;split
    ·show(((P.acc++[_])++[_]).length:Int)≤_;simp only[cF,pS,lX];omega
    ·show(((P.acc++[_])++[_]).length:Int)≤_;simp only[cF,pS,lX];omega
   unfold pM at D ⊢;split at D
   ·rename_i hc;rw[aB hc];exact⟨S.sent,S.st,S.q,S.w,S.tn,S.rows,S.ss,S.fn,S.ls,S.ln,D,S.pk,S.cl⟩
   ·rename_i hc;rw[aA hc];exact⟨S.sent,S.st,S.q,S.w,S.tn,S.rows,S.ss,S.fn,S.ls,S.ln,D,S.pk,S.cl⟩
  ·split
   ·have G:∀i,i≤K→(jk (K+1) P.rows (k+1:Nat) P.fin i).length=K+1:=λi hi=>Pj (λj F=>H.rows j ae) _ _ i ae
    refine⟨S.sent,S.st,S.q,S.w,S.tn,λi hi=>NE (λj F=>G j ae) _ i ae,S.ss,S.fn,λs A=>?_,?_,S.ac,S.pk,S.cl⟩
    ·rcases gP.1 A with A|A
     ·exact H.ls s A
     ·rw[ia.1 A];exact G (k+1) ae
    ·show((P.left++[_]).length:Int)≤P.picks+1;rw[cF];simp only[pS,lX];omega
   ·exact S
theorem Y8 (H:mU C K P)(i:Int):mU C K (io C K P i):=by
 unfold io;split
 ·exact H
 ·rename_i A;split
  ·unfold Ds;split
   ·rename_i h;exact zdF H h
   ·rename_i h;split
    ·exact zcN H h
    ·exact zek H
  ·rename_i h0;have hi:0<i∧i≤K:=by
    unfold fB at A;split at A
    ·exact absurd rfl A
    ·omega
   exact zdy H ae
end
section
variable {C:C21}{Z:Nat→Prop}{K:Nat}{h0 h:ai}{bw:Nat→Nat}{bp:Nat}{o:Nat→Nat}{n:Pic}{P:bS}
theorem IsW.job_at {Z B:Nat→Prop}{h:ai}{bw:Nat}{E:WE}{n:Pic}{w:WD}(H:IsW Z B h bw (some E) n w):∀t y e,w.job=some (t,y,e)→t.y≤y∧y<t.y+t.h∧lnF E.s.y y≤e∧e≤lnE E.s.y y:=by
 obtain⟨⟨tv,U,L,r,o,J,_⟩,_,_,_,_,_,st⟩:=H;intro t y e G;rw[G]at J st;obtain⟨I,F,ok,hc,bj,rv,_,S⟩:=J;cases F;obtain⟨⟨M,rs,J,_,k⟩,_⟩:=S;rcases st with⟨_,A,_⟩|⟨_,h⟩
 ·have A:bP (E.d t) y e≠0:=A;unfold bP at A;split at A
  ·exact absurd rfl A
  ·rename_i D;have D:¬t.y+t.h≤y:=D;have:=k (by show y<t.y+t.h;omega);exact⟨J.y0,ae,this.2⟩
 ·cases h
theorem Jg {q:QD}(h:bX q=0):bi q∈q.l:=by
 unfold bX at h;unfold bi;cases A:q.l with
 |nil=>rw[A,aB rfl]at h;split at h<;>omega
 |cons a l=>simp
theorem YV {E:WE}{jo:Option (dc×Int×Int)}{w:WD}{q:QD}(h:(w.state=1∧pV (some E) w.job∧w.tiles≠[])∨((w.state=0∨w.state=2)∧w.job=none))(D:(cD (some E) jo w q).2.2.1=1):(cD (some E) jo w q).2.2.2.1=bi q∧w.state=0∧bX q=0:=by
 obtain⟨st,tl,j,H⟩:=w;unfold cD at D ⊢;rcases h with⟨A,G,_⟩|⟨A|A,G⟩
 ·have A:st=1:=A;subst A;cases j with
  |none=>exact(show False from G).elim
  |some x=>exact absurd (show(2:Int)=1 from D) ae
 ·have A:st=0:=A;subst A;rw[aA (show¬(0:Int)=1 by omega),aA (show¬(0:Int)=2 by omega)]at D ⊢;by_cases F:bX q=0
  ·rw[aB F];exact⟨rfl,rfl,F⟩
  ·rw[aA F]at D;split at D
   ·exact absurd (show(3:Int)=1 from D) ae
   ·exact absurd (show(0:Int)=1 from D) ae
 ·have A:st=2:=A;subst A;rw[aA (show¬(2:Int)=1 by omega),aB rfl]at D;exact absurd (show(0:Int)=1 from D) ae
theorem Wa {E:WE}{jo:Option (dc×Int×Int)}{w:WD}{q:QD}(h:(w.state=1∧pV (some E) w.job∧w.tiles≠[])∨((w.state=0∨w.state=2)∧w.job=none))(D:(cD (some E) jo w q).2.2.1=2):
  ∃t y e,w.job=some (t,y,e)∧w.state=1∧(cD (some E) jo w q).2.2=(2,w.tiles.getLast?.getD 0,bP (E.d t) y e,eT (E.d t) y e)∧bP (E.d t) y e≠0:=by
 obtain⟨st,tl,j,H⟩:=w;unfold cD at D ⊢;rcases h with⟨A,F,_⟩|⟨A|A,F⟩
 ·have A:st=1:=A;subst A;cases j with
  |none=>exact(show False from F).elim
  |some x=>exact⟨x.1,x.2.1,x.2.2,rfl,rfl,rfl,F⟩
 ·have A:st=0:=A;subst A;rw[aA (show¬(0:Int)=1 by omega),aA (show¬(0:Int)=2 by omega)]at D;by_cases G:bX q=0
  ·rw[aB G]at D;exact absurd (show(1:Int)=2 from D) ae
  ·rw[aA G]at D;split at D
   ·exact absurd (show(3:Int)=2 from D) ae
   ·exact absurd (show(0:Int)=2 from D) ae
 ·have A:st=2:=A;subst A;rw[aA (show¬(2:Int)=1 by omega),aB rfl]at D;exact absurd (show(0:Int)=2 from D) ae
theorem Wl {t:Tbl}(W:t.Wf)(y:Int): -70368744177664≤(bK t y).1∧(bK t y).1≤70368744177664∧(bK t y).2.length≤1048576:=by
 unfold bK;split
 ·rw[dr];by_cases h:y.toNat<t.lines.length
  ·rw[gN h];have:=W.taps _ (cQ h);exact⟨this.2.1,this.2.2,this.1⟩
  ·rw[AJ ae];exact⟨by decide,by decide,by decide⟩
 ·exact⟨by decide,by decide,by decide⟩
def zan (C:C21)(K:Nat)(P:bS)(i:Int)(n n':Pic):Prop:=if fB C K P i=true∧i≠0 then Ef (some C.E) (P.ws (i-1).toNat) n n' else n'=n
theorem zf0 (O:C.Ok)(G:fC h0)(H:eF C Z K h0 bw bp o n P h)(W:mU C K P){i:Int}(hi:I64 i)(an:P.picks≤400000)(aa:bN C.d≤1000000)(hb:∀c,eB (some C.E) c→h0.size≤c):
  ag prog kg #[ptr bp,af i] h λr h'=>r=.bool (fB C K P i)∧∃n',PTo C Z K h0 bw bp o h n' (io C K P i) h'∧zan C K P i n n':=by
 apply Jv;unfold yi;refine ag.at (zcT O H hi) ?_;unfold io zan;have w1:=W.pk;have w2:=W.ac;have w3:=W.ln;have w4:=W.sent;have w5:=W.st;cases hr:fB C K P i with
 |false=>
  simp only[go_sem];exact⟨trivial,n,by simpa using PTo.refl H,by simp⟩
 | true=>
  obtain⟨V,HB,row⟩:=H.row;have hp:=HB.po;have hK:=HB.few;have am:aE h ⟨bp,13,none⟩=some (af P.picks):=ao row;simp only[go_sem,aO,am];rw[w64 (n:=P.picks+1) ae ae];refine bG row (show 13<_ from by simp[jh]) rfl λg r u=>?_
  have ad:=HB.setrow u (st:=P.sent) (rt:=P.ret) (pk:=P.picks+1) r;have H1:eF C Z K h0 bw bp o n {P with picks:=P.picks+1} g:=⟨V,ad⟩
  have F1:Fr (λc=>o c≠0∨eB (some C.E) c) h g:=u.fr.mono λc _ hc=>.inl (by have hc:c=bp:=hc;rw[hc];omega)
  have T:∀{n' P' h'},PTo C Z K h0 bw bp o g n' P' h'→PTo C Z K h0 bw bp o h n' P' h':=λ{n' P' h'} t=>PTo.trans (h1:=g) ⟨H1,λ_ _=>rfl,F1⟩ t
  rw[aA (by simp)];by_cases F:i=0
  ·subst F;simp only[go_sem];refine(zfR O H1 (by show P.acc.length≤_;omega) (by show P.stamps.length≤_;omega) w4.1 (λs hs=>by have:=W.ls s hs;omega) (by show P.left.length≤_;omega) aa).mono λr g2 t=>⟨trivial,n,T t,?_⟩
   simp
  ·simp only[go_sem,F];have ar:0<i∧i≤K:=by
    unfold fB at hr;split at hr
    ·cases hr
    ·omega
   obtain⟨k,rfl⟩:∃k:Nat,i=(k:Int)+1:=⟨(i-1).toNat,ae⟩
   have hk:k<K:=ae;have ek:((k:Int)+1-1).toNat=k:=ae;rw[ek];have I:=W.w k hk;have tk:=W.tn k hk;have IW:=HB.ws k hk id;refine(zfL O G H1 hk (by show(P.ws k).tiles.length≤_;omega) hb (by show P.acc.length≤_;omega) (by show P.left.length≤_;omega) (λA=>?_) (λD=>?_) (λs hs=>by have:=W.ss s hs;omega) (by have:=W.fn;show P.fin.length≤_;omega) λD=>?_).mono λr g2 ⟨n',t,Dr⟩=>⟨trivial,n',by rw[aA (λh:False=>h)];exact T t,?_⟩
   ·have A:(P.ws k).state=0∧bX P.q=0:=A;have hm:=Jg A.2;have:=W.q _ hm;show 0≤bi P.q∧bi P.q<bN C.d;omega
   ·have D:(cD (some C.E) (C.jo (bi P.q)) (P.ws k) P.q).2.2.1=1:=D;obtain⟨e1,e2⟩:=YV I.st D;have hm:=Jg e2.2;have:=W.q _ hm;have ee:(evP C {P with picks:=P.picks+1} k).2.1=bi P.q:=e1;rw[ee];show 0≤bi P.q∧bi P.q<(P.stamps.length:Int);omega
   ·have D:(cD (some C.E) (C.jo (bi P.q)) (P.ws k) P.q).2.2.1=2:=D;obtain⟨t,y,e,hj,s1,ev,U⟩:=Wa I.st D;have al:(P.ws k).tiles≠[]:=by
     rcases I.st with h|h
     ·exact h.2.2
     ·rw[h.2]at hj;cases hj
    have hl:=I.tl _ (Pu al);obtain⟨j1,j2⟩:=I.jb t y e hj;obtain⟨a1,a2,a3,a4⟩:=IW.job_at t y e hj;have L:0≤(P.ws k).tiles.getLast?.getD 0∧(P.ws k).tiles.getLast?.getD 0<bN C.d:=ae;have wt:=iF O.d L.1 L.2;rw[←j1]at wt;unfold eI at wt;have ew:(dk C {P with picks:=P.picks+1} k).words k=mM C ((P.ws k).tiles.getLast?.getD 0):=by
     show(if k=k∧(P.ws k).state=0∧bX P.q=0 then _ else P.words k)=_;rw[aA ae];exact j2
    have wi:=Va O L.1 L.2;rw[ew];have ee:evP C {P with picks:=P.picks+1} k=(2,(P.ws k).tiles.getLast?.getD 0,bP (C.E.d t) y e,eT (C.E.d t) y e):=ev;rw[ee];have bl:=Wl O.s.wf.y y;have sj:eT (C.E.d t) y e=if bP (C.E.d t) y e=1 then e else y:=by
     have U:=U;unfold bP at U;unfold eT bP;by_cases q1:(C.E.d t).t.y+(C.E.d t).t.h≤y
     ·rw[aB q1]at U;exact absurd rfl U
     ·rw[aA q1,aA q1];by_cases q2:e<lnE (C.E.d t).s.y y
      ·rw[aB q2,aB q2,aB rfl]
      ·rw[aA q2,aA q2,aA ae]
    have hY:C.d.Y=((C.d.s.y.lines.length:Nat):Int):=rfl;have bY:=dC.bd O.d;refine⟨L,?_,λh1=>?_,wi⟩
    ·show I64 (eT (C.E.d t) y e);rw[sj];unfold I64;unfold lnF at a3;unfold lnE at a4;have bl: -70368744177664≤(bK C.E.s.y y).1∧(bK C.E.s.y y).1≤70368744177664∧(bK C.E.s.y y).2.length≤1048576:=bl;split<;>omega
    ·have h1:bP (C.E.d t) y e≠1:=h1;show 0≤eT (C.E.d t) y e∧eT (C.E.d t) y e<C.d.Y;rw[sj,aA h1];omega
   ·rw[aB ⟨trivial,F⟩];exact Dr
end
end
end Go.Proofs.YtjljhnandbbldaaGreatDoor
