/- Several texts of this session, one behind the other, without what this claim does not need (put together by its program pack.py). Conditions: none. -/
import Derived.Test.YtjljhnandbbldaaGreatDoorMu3
import Derived.Test.YtjljhnandbbldaaGreatDoorProg
import Derived.Shelf.Slices.Delete
set_option linter.unusedVariables false
set_option linter.unusedSimpArgs false
set_option maxRecDepth 100000
namespace Go.Crisp
open Go
def lD (w:Nat)(h:af)(v:Value)(n:Nat)(cs:List Value):Prop:=
 (v=.slice none 0 0∧n=0∧cs=[])∨∃b cap p r e,v=.slice (some ⟨b,p.length,none⟩) n cap∧n≤cap∧cs.length=n*w∧(cs++r).length=cap*w∧h[b]? =some (.cells (p++(cs++r)).toArray e (0,0))
theorem lD.nil {w:Nat}{h:af}:lD w h (.slice none 0 0) 0 []:=.inl ⟨rfl,rfl,rfl⟩
theorem Own.o {w:Nat}{h:af}{v:Value}{n:Nat}{cs:List Value}(H:Own w h v n cs):lD w h v n cs:=by
 rcases H with H|⟨b,cap,r,e,rfl,h1,F,A,D⟩
 ·exact .inl H
 ·exact .inr ⟨b,cap,[],r,e,rfl,h1,F,A,D⟩
theorem lD.fr {w:Nat}{M:Nat→Prop}{h h':af}{v:Value}{n:Nat}{cs:List Value}(H:lD w h v n cs)(f:Fr M h h')(D:∀b,blk v b→¬M b):lD w h' v n cs:=by
 rcases H with⟨rfl,rfl,rfl⟩|⟨b,cap,p,r,e,rfl,hc,F,A,G⟩
 ·exact .inl ⟨rfl,rfl,rfl⟩
 ·exact .inr ⟨b,cap,p,r,e,rfl,hc,F,A,f.row G (D b rfl)⟩
theorem lD.ext {w:Nat}{h h':af}{v:Value}{n:Nat}{cs:List Value}(H:lD w h v n cs)(f:Ext h h'):lD w h' v n cs:=H.fr (M:=λ_=>False) f.fr λ_ _=>id
theorem lD.lt {w:Nat}{h:af}{v:Value}{n:Nat}{cs:List Value}(H:lD w h v n cs){b:Nat}(A:blk v b):b<h.size:=by
 rcases H with⟨rfl,rfl,rfl⟩|⟨D,cap,p,r,e,rfl,hc,G,F,h'⟩
 ·cases A
 ·rw[show b=D from A];exact(Array.getElem?_eq_some_iff.1 h').1
theorem lD.sl {w:Nat}{h:af}{v:Value}{n:Nat}{cs:List Value}(H:lD w h v n cs):SlC w h v n cs:=by
 rcases H with⟨rfl,rfl,rfl⟩|⟨b,cap,p,r,e,rfl,hc,D,_,F⟩
 ·exact⟨by simp,none,0,rfl,.inl rfl⟩
 ·refine⟨D,_,cap,rfl,.inr ⟨b,p.length,rfl,λj A=>?_⟩⟩;rw[ai F];simp only[List.getElem?_toArray];rw[List.getElem?_append_right (Nat.le_add_right _ _),Nat.add_sub_cancel_left,List.getElem?_append_left A];simp[A]
theorem Vv (ds p cs r:List Value)(h:ds.length≤r.length):wrL (p++(cs++r)).toArray (p.length+cs.length) ds=(p++(cs++ds++r.drop ds.length)).toArray:=by
 have:=Cy ds (p++cs) r h;rw[List.length_append]at this;rw[←List.append_assoc,this];simp
theorem Tw {z:Value}{e:TypeId}{w bytes n m:Nat}{s x:Value}{h:af}{cs ds:List Value}{K:Value→af→Prop}
  (hs:lD w h s n cs) (hx:SlC w h x m ds) (ho:∀v∈ds,aJ v=true) (hz:z.cells.size=w) (W:(n+m)*bytes≤140737488355328) (hn:n+m≤9223372036854775807)
  (H:∀L h',lD w h' L (n+m) (cs++ds)→Fr (blk s) h h'→(∀b,blk L b→blk s b∨h.size≤b)→K L h'):cF z e w bytes s x h K:=by
 rcases hs with⟨rfl,rfl,rfl⟩|⟨b,cap,p,r,e0,rfl,hc,I,hr,F⟩
 ·exact sI (.inl ⟨rfl,rfl,rfl⟩) hx ho hz W hn λL h' o=>H L h' o.o
 ·have G:SlC w h (.slice (some ⟨b,p.length,none⟩) n cap) n cs:=lD.sl (.inr ⟨b,cap,p,r,e0,rfl,hc,I,hr,F⟩);have G:=G.loads;have U:=hx.loads;obtain⟨D,a',ad,rfl,al⟩:=hx;unfold cF;simp only[KV];split
  ·rename_i h0;rw[U];have aa:ds.length≤r.length:=by
    rw[List.length_append]at hr;rw[D];have:(n+m)*w≤cap*w:=Nat.mul_le_mul_right w h0;rw[Nat.add_mul]at this;omega
   have ab:=kO (o:=p.length+n*w) ds 0 h _ F (by simp;omega) ho;simp only[kF,ab];rw[Nat.add_zero,←I,Vv ds p cs r aa];refine H _ _ (.inr ⟨b,cap,p,r.drop ds.length,e0,rfl,h0,?_,?_,kB F⟩) (Upd.set.fr) (λk hk=>.inl hk)
   ·simp[I,D,Nat.add_mul]
   ·rw[←hr];simp;omega
  ·rename_i h0;rw[G,U];refine⟨by simp only[IntKind.max];simp only[IntKind.signed,IntKind.bits];omega,Nat.le_trans (growslice_fits (by omega) W) (by decide),λA h1 h2=>?_⟩;refine H _ _ (.inr ⟨h.size,A,[],(Builtin.zeroCells z.cells (A-(n+m))).toList,e,rfl,h1,?_,?_,?_⟩) (Ext.push h _).fr (λb W=>.inr (by rw[show b=h.size from W];exact Nat.le_refl _))
   ·simp[I,D,Nat.add_mul]
   ·simp[I,D,Mb,hz];rw[←Nat.add_mul,←Nat.add_mul];congr 1;omega
   ·rw[pu];simp
theorem lD.tail {w:Nat}{h:af}{v x:Value}{n:Nat}{cs ds:List Value}(H:lD w h v (n+1) (ds++cs))(hd:ds.length=w)(U:0<n){k:IntKind}:
  ∃D,un w v (some (.int k 1)) none=some D∧lD w h D n cs∧∀b,blk D b→blk v b:=by
 rcases H with⟨_,h0,_⟩|⟨b,cap,p,r,e,rfl,hc,G,F,I⟩
 ·cases h0
 ·have A:¬cap=1:=by omega
  refine⟨.slice (some ⟨b,p.length+w,none⟩) n (cap-1),?_,.inr ⟨b,cap-1,p++ds,r,e,by rw[List.length_append,hd],by omega,?_,?_,?_⟩,λc hc=>hc⟩
  ·have L:bdV (some (Value.int k 1)) 0 (n+1)=some 1:=Ah k 1 0 (n+1) (by omega);simp only[un,bdV,L,if_neg A,Option.map_some,kF,Nat.one_mul,Nat.add_sub_cancel];rw[if_pos (by omega)];simp[A]
  ·rw[List.length_append,hd,Nat.add_mul,Nat.one_mul]at G;omega
  ·simp only[List.length_append]at F ⊢;rw[hd]at F;have:cap*w=(cap-1)*w+w:=by rw[←Nat.succ_mul];congr 1;omega
   omega
  ·rw[I];simp
def OwO (k:IntKind)(h:af)(v:Value)(l:List Int):Prop:=lD 1 h v l.length (l.map λx=>Value.int k x)
theorem OwO.nil {k:IntKind}{h:af}:OwO k h (.slice none 0 0) []:=lD.nil
theorem OwO.sl {k:IntKind}{h:af}{v:Value}{l:List Int}(H:OwO k h v l):Rp.Sl (Rp.int k) (blk v) h v l:=by
 have s:=lD.sl H;refine⟨_,s,λ_ b A=>A,λi hi=>?_⟩;show Rp.el 1 (l.map λx=>Value.int k x) i=[Value.int k l[i]];rw[Rp.el_one (by simpa using hi)];simp
theorem OwO.push {k:IntKind}{z z':Value}{t F:TypeId}{bytes:Nat}{s:Value}{h:af}{l:List Int}{x:Int}{K:Value→af→Prop}(hs:OwO k h s l)(G:z.cells.size=1)
  (hb:(l.length+1)*bytes≤140737488355328) (L:l.length+1≤9223372036854775807)
  (H:∀A h',OwO k h' A (l++[x])→Fr (blk s) h h'→(∀b,blk A b→blk s b∨h.size≤b)→K A h'):cE #[z'] t 1 [(0,1,.int k x)] h λI U=>cF z F 1 bytes s I U K:=by
 refine cz (Rp.fill_one rfl) λb h1 r1 D n1=>?_
 refine Tw (lD.ext hs D) (Rp.SlC.single (cs:=[.int k x]) r1) (ak (a:=Value.int k x) rfl aQ) G hb L λA h' o' W n'=>H A h' ?_ (D.fr.trans W) λc hc=>(n' c hc).imp id λh2=>Nat.le_trans D.1 h2
 unfold OwO;rw[List.length_append,List.map_append];exact o'
theorem OwO.tail {k k':IntKind}{h:af}{v:Value}{x:Int}{l:List Int}(H:OwO k h v (x::l))(D:0<l.length):
  ∃A,un 1 v (some (.int k' 1)) none=some A∧OwO k h A l∧∀b,blk A b→blk v b:=
 lD.tail (x:=v) (ds:=[.int k x]) H rfl D
end Go.Crisp
namespace Go.Proofs.YtjljhnandbbldaaGreatDoor
open Go Go.Crisp
attribute [local irreducible] ae cE aP stK aA vK qK bC gK dK aU mkK cF Ch DH zZ bsK clK qQ lW Rw
open _root_.Go.Proofs.Tryz
def qF (e E:Int):List (Int×Int):=(List.range (E-e).toNat).map λi:Nat=>((1:Int),e+(i:Int))
def jY (d:ef):Nat→Int→Int→List (Int×Int)
 |0,_,_=>[]
 |k+1,y,e=>qF e (lnE d.s.y y)++(2,y)::jY d k (y+1) (max (lnE d.s.y y) (lnF d.s.y (y+1)))
def MV (d:ef)(y e:Int):List (Int×Int):=jY d (d.t.y+d.t.h-y).toNat y e
theorem PU {e E:Int}(h:E≤e):qF e E=[]:=by
 unfold qF;rw[show(E-e).toNat=0 by omega];rfl
theorem PS {e E:Int}(h:e≤E):qF e (E+1)=qF e E++[(1,E)]:=by
 unfold qF;rw[show(E+1-e).toNat=(E-e).toNat+1 by omega,List.range_succ,List.map_append]
 congr 1
 show[((1:Int),e+((E-e).toNat:Int))]=[(1,E)];rw[show e+((E-e).toNat:Int)=E by omega]
theorem El {e E:Int}:(qF e E).length=(E-e).toNat:=by unfold qF;rw[List.length_map,List.length_range]
theorem IC (d:ef):∀(k:Nat) (y e:Int),(jY d k y e).length=ko d k y e
 |0,_,_=>rfl
 |k+1,y,e=>by
  unfold jY ko;rw[List.length_append,List.length_cons,El,IC d k];omega
def xy:Rp (Int×Int) where
 w:=2
 R:=λ_ _ cs x=>cs=[.int .i64 x.1,.int .i64 x.2]
 len:=by rintro _ _ _ _ rfl;rfl
 one:=by rintro _ _ _ _ rfl;exact ak rfl (ak rfl aQ)
 fr:=by rintro _ _ _ _ _ _ h _ _;exact h
 mono:=by rintro _ _ _ _ _ h _;exact h
theorem New.push2 {z:Value}{c:Array Value}{t G:TypeId}{bytes:Nat}{h h1:af}{v:Value}{l:List (Int×Int)}{a b:Int}{K:Value→af→Prop}(H:New xy h h1 v l)(hc:c.size=2)(L:z.cells.size=2)(D:(l.length+1)*bytes≤140737488355328)(W:l.length+1≤9223372036854775807)
  (I:∀A h',New xy h h' A (l++[(a,b)])→Fr (blk v) h1 h'→(∀b,blk A b→blk v b∨h1.size≤b)→K A h'):cE c t 1 [(0,2,.agg #[.int .i64 a,.int .i64 b])] h1 λU h3=>cF z G 2 bytes v U h3 K:=by
 refine Rp.push_ow (e:=xy) (cs:=[.int .i64 a,.int .i64 b]) (x:=(a,b)) H.1 rfl hc L D W (λb D=>D.elim) λA h' o' F n'=>I A h' ⟨o',H.2.1.then_fr F H.2.2,λb D=>?_⟩ F n'
 rcases n' b D with h1|h1
 ·exact H.2.2 b h1
 ·exact Nat.le_trans H.2.1.1 h1
theorem WH {h:af}{Z:Nat→Prop}{v:Value}{l:List Int}{j:Int}(H:Rp.Sl (Rp.int .i64) Z h v l)(hl:l.length≤4611686018427387904):ae prog Cv #[v,.int .i64 j] h λr h'=>r=.bool (decide (j∈l))∧h'=h:=by
 apply Oh;unfold Fo;obtain⟨a,c,e⟩:=H.isSl;have L:aq v=some (.int .i64 (l.length:Int)):=by rw[e];rfl
 rw[L,ah];refine bA (α:=Unit) l.length 0 (λk _=>[.int .i64 (k:Int)]) (λk _ h'=>h'=h∧∀x∈l.take k,x≠j) () rfl (Nat.zero_le _) ⟨rfl,by simp⟩ λk _ h1 again ρ1 _ hk ⟨w,I⟩ F=>?_
 subst w;simp only[go_sem];refine aj (λh0=>?_) (λh0=>?_)
 ·have A:k<l.length:=by omega
  obtain⟨p,W,q2⟩:=H.int_at (k':=.i64) A;simp only[go_sem,W,q2];refine aj (λG=>?_) (λG=>?_)
  ·refine⟨?_,trivial⟩;rw[decide_eq_true];rw[←G];exact List.getElem_mem A
  ·rw[w64 (by omega) (by omega)];refine F () h1 A ⟨rfl,λx D=>?_⟩;rw[List.take_succ_eq_append_getElem A]at D;rcases List.mem_append.1 D with D|D
   ·exact I x D
   ·rw[List.mem_singleton.1 D];exact G
 ·have:k=l.length:=by omega
  subst this;refine⟨?_,trivial⟩;rw[decide_eq_false];intro U;rw[List.take_length]at I;exact I j U rfl
structure ni (l:List Int)(F e:Int)(most:Nat):Prop where
 up:l.Pairwise (· < ·)
 inn:∀j,F≤j→j<e→j∈l
 lt:∀x∈l,x<e
 len:l.length≤most
theorem ni.start (F:Int)(most:Nat):ni [] F F most:=⟨List.Pairwise.nil,λj a b=>by omega,by simp,by simp⟩
theorem ni.move {l:List Int}{F e A:Int}{most:Nat}(H:ni l F e most)(G:F≤A):ni l A (max e A) most:=
 ⟨H.up,λj a b=>H.inn j (by omega) (by omega),λx D=>by have:=H.lt x D;omega,H.len⟩
theorem ni.nodup {l:List Int}(h:l.Pairwise (· < ·)):l.Nodup:=h.imp λa=>by omega
theorem ni.push {l:List Int}{F e:Int}{most:Nat}(H:ni l F e most):(l++[e]).Pairwise (· < ·)∧(∀j,F≤j→j<e+1→j∈l++[e])∧(∀x∈l++[e],x<e+1):=by
 refine⟨?_,λj a b=>?_,λx G=>?_⟩
 ·rw[List.pairwise_append];exact⟨H.up,by simp,λa D b I=>by rw[List.mem_singleton.1 I];exact H.lt a D⟩
 ·by_cases A:j<e
  ·exact List.mem_append_left _ (H.inn j a A)
  ·rw[show j=e by omega];simp
 ·rcases List.mem_append.1 G with h|h
  ·have:=H.lt x h;omega
  ·rw[List.mem_singleton.1 h];omega
theorem ni.next {l:List Int}{F e E:Int}{most:Nat}(H:ni l F e most)(he:F≤e)(hE:e<E)(hm:E-F≤most):(l.length+1≤most∧ni (l++[e]) F (e+1) most)∨(∃x t,l++[e]=x::t∧most<l.length+1∧0<t.length∧ni t F (e+1) most):=by
 obtain⟨L,I,U⟩:=H.push;by_cases h1:l.length+1≤most
 ·exact .inl ⟨h1,L,I,U,by simpa using h1⟩
 ·cases l with
  |nil=>simp at h1;omega
  | cons x l=>
   have W:=H.len;refine .inr ⟨x,l++[e],rfl,by omega,by simp,?_⟩;have hx:x<F:=by
    rcases Int.lt_or_le x F with h|h
    ·exact h
    ·have D:∀z∈x::l,F≤z∧z<e:=λz A=>by
      refine⟨?_,H.lt z A⟩;rcases List.mem_cons.1 A with rfl|A
      ·exact h
      ·have:=(List.pairwise_cons.1 H.up).1 z A;omega
     have:=nodup_range (ni.nodup H.up) D;omega
   have G:(x::(l++[e])).Pairwise (· < ·):=L;refine⟨(List.pairwise_cons.1 G).2,λj a b=>?_,λz A=>U z (List.mem_cons_of_mem _ A),by simp at W ⊢;omega⟩;have:=I j a b;rcases List.mem_cons.1 (show j∈x::(l++[e])from this)with h|h
   ·omega
   ·exact h
theorem QP {h:af}{Z:Nat→Prop}{ds:List Value}{s:Stg}{m:Pic}{t:co}(K:uq.R Z h ds s)(OK:zy s)(hy:0≤t.y)(hh:1≤t.h)(ee:t.y+t.h≤s.y.lines.length):
  ae prog uD #[.agg ds.toArray,.int .i64 t.y,.int .i64 t.h] h λr h'=>New xy h h' r (MV ⟨m,s,t⟩ t.y (lnF s.y t.y)):=by
 apply HC;unfold xR;obtain⟨X,Y,rfl,HX,HY⟩:=K;have WS:=OK.wf;have ei:=WS.y.len;simp only[bG];refine aC λb1 h1 r1 e1 n1=>?_
 have k1:aB h1 ⟨b1,1,none⟩=some Y:=ai r1;obtain⟨aY,cY,eY⟩:=HY.isSl;have b6:aq Y=some (.int .i64 (s.y.lines.length:Int)):=by rw[eY];rfl
 simp only[go_sem,Nat.zero_add,k1,b6]
 -- a line, read into a variable
 have rd:∀{I:af} {i:Nat} (hi:i<s.y.lines.length),Ext h I→∀{Kp:Value→af→Prop},(∀b h3 u,h3[b]? =some (.cells #[.int .i64 (aZ s.y i).1,u] 240 (0,0))→Ext I h3→I.size≤b→aq u=some (.int .i64 ((aZ s.y i).2.length:Int))→Kp (ptr b) h3)→
   vK (aR 2 Y (.int .i64 (i:Int))) λca=>vK (aH 2 I ca) λct=>aP #[(.int .i64 0),(.slice none 0 0)] 240 I λbv dz=>stK 2 bv ct dz λer cw=>Kp bv cw:=by
  intro I i hi E Kp HK;obtain⟨p,cs,q1,q2,Rr⟩:=Rp.Sl.atw (e:=km) (HY.ext E) (show 0<2 by omega) (k:=.i64) hi;rw[OD hi]at Rr;obtain⟨u,rfl,Su⟩:=Rr;have q1:aR 2 Y (.int .i64 (i:Int))=some p:=q1;have q2:aH 2 I p=some (.agg #[.int .i64 (aZ s.y i).1,u]):=q2;rw[q1,ah,q2,ah];obtain⟨au,cu,eu⟩:=Su.isSl;exact cD (cs:=[.int .i64 (aZ s.y i).1,u]) rfl (ak rfl (ak Su.one aQ)) rfl λb h3 r3 e3 n3=>HK b h3 u r3 e3 n3 (by rw[eu];rfl)
 -- the most taps of a line
 have bc:∀k,k<s.y.lines.length→bu (s.y.lines.take (k+1))=max (bu (s.y.lines.take k)) ((aZ s.y k).2.length:Int):=λk hk=>by
  rw[List.take_succ_eq_append_getElem hk,BZ,OD hk]
 have c2:=OK.most;have b8:=MW s.y.lines;have es:∀k,0≤bu (s.y.lines.take k)∧bu (s.y.lines.take k)≤bu s.y.lines:=λk=>⟨MW _,BY b8 λx hx=>(DK s.y.lines 0).2 x (List.mem_of_mem_take hx)⟩
 refine bA (α:=Unit) s.y.lines.length 0 (λk _=>[.int .i64 (bu (s.y.lines.take k)),.int .i64 (k:Int)]) (λk _ h'=>Ext h1 h') () rfl (Nat.zero_le _) (Ext.refl _) λk _ I again ρ1 _ hk E2 al=>?_
 have ax:=e1.trans E2;simp only[go_sem];refine aj (λg1=>?_) (λg1=>?_)
 ·have aa:k<s.y.lines.length:=by omega
  refine rd aa ax λb3 h3 u r3 e3 n3 an=>?_
  have c1:aB h3 ⟨b3,1,none⟩=some u:=ai r3;have bg:=bc k aa;simp only[go_sem,Nat.zero_add,c1,an];refine aj (λg2=>?_) (λg2=>?_)
  ·try simp only[go_sem,Nat.zero_add,c1,an]
   rw[w64 (by omega) (by omega)];have:=al () h3 aa (E2.trans e3);rw[bg,show max (bu (s.y.lines.take k)) ((aZ s.y k).2.length:Int)=((aZ s.y k).2.length:Int)by omega]at this;exact this
  ·rw[w64 (by omega) (by omega)];have:=al () h3 aa (E2.trans e3);rw[bg,show max (bu (s.y.lines.take k)) ((aZ s.y k).2.length:Int)=bu (s.y.lines.take k)by omega]at this;exact this
 have cb:k=s.y.lines.length:=by omega
 subst cb;rw[List.take_length]
 clear al
 obtain⟨most,eb⟩:∃n:Nat,bu s.y.lines=(n:Int):=⟨(bu s.y.lines).toNat,by omega⟩
 rw[eb];obtain⟨d,hd⟩:∃d:ef,d=⟨m,s,t⟩:=⟨_,rfl⟩
 have bd:d.s=s:=by rw[hd]
 rw[←hd];obtain⟨H,hH⟩:∃H:Nat,t.h=(H:Int):=⟨t.h.toNat,by omega⟩
 obtain⟨y0,bk⟩:∃y0:Nat,t.y=(y0:Int):=⟨t.y.toNat,by omega⟩
 have dq:MV d t.y (lnF s.y t.y)=jY d H y0 (lnF s.y y0):=by
  unfold MV;have:d.t=t:=by rw[hd]
  rw[this,bk,show((y0:Int)+t.h-(y0:Int)).toNat=H by omega]
 rw[dq,hH,bk];have ay:∀k y e,lnF s.y y≤e→(jY d k y e).length≤k*1048577:=λk y e he=>by
  rw[IC];exact DN (by rw[bd];exact WS.y) k y e (by rw[bd];exact he)
 have ej:=ay H y0 (lnF s.y y0) (Int.le_refl _);have be:=OK.mono
 -- line by line
 refine bA (α:=Value×Value×List (Int×Int)×List Int×Int) H 0 (λk a=>[a.1,a.2.1,.int .i64 (k:Int)])
  (λk a h'=>New xy h h' a.1 a.2.2.1∧OwO .i64 h' a.2.1 a.2.2.2.1∧(∀b,blk a.2.1 b→I.size≤b)∧(∀b,blk a.1 b→I.size≤b∧¬blk a.2.1 b)∧Ext I h'∧(k<H→ni a.2.2.2.1 (lnF s.y (y0+k:Nat)) a.2.2.2.2 most∧lnF s.y (y0+k:Nat)≤a.2.2.2.2∧a.2.2.2.2≤lnE s.y (y0+k:Nat))∧
   a.2.2.1++jY d (H-k) ((y0+k:Nat):Int) a.2.2.2.2=jY d H y0 (lnF s.y y0))
  (.slice none 0 0,.slice none 0 0,[],[],lnF s.y y0) rfl (Nat.zero_le _)
  ⟨New.nil ax,OwO.nil,λb A=>A.elim,λb A=>A.elim,Ext.refl _,λ_=>⟨ni.start _ _,Int.le_refl _,by unfold lnE lnF;show(aZ s.y ((y0+0:Nat):Int)).1≤_;omega⟩,rfl⟩ λk a h3 again ρ2 _ hk ⟨N3,O3,b3,a3,E3,H3,M3⟩ al=>?_
 obtain⟨ov,U,out,held,e⟩:=a;have N3:New xy h h3 ov out:=N3;have O3:OwO .i64 h3 U held:=O3;have b3:∀b,blk U b→I.size≤b:=b3;have a3:∀b,blk ov b→I.size≤b∧¬blk U b:=a3;have H3:k<H→ni held (lnF s.y (y0+k:Nat)) e most∧lnF s.y (y0+k:Nat)≤e∧e≤lnE s.y (y0+k:Nat):=H3;have M3:out++jY d (H-k) ((y0+k:Nat):Int) e=jY d H y0 (lnF s.y y0):=M3;simp only[go_sem];refine aj (λg1=>?_) (λg1=>?_)
 ·have aa:k<H:=by omega
  obtain⟨HL,ep,ew⟩:=H3 aa;have k1:aB h3 ⟨b1,1,none⟩=some Y:=ai (E3.row (E2.row r1));simp only[go_sem,Nat.zero_add,k1];rw[w64 (n:=(y0:Int)+(k:Int)) (by omega) (by omega),show(y0:Int)+(k:Int)=((y0+k:Nat):Int)by omega];refine rd (by omega) (ax.trans E3) λb4 h4 u r4 e4 n4 an=>?_
  have c1:aB h4 ⟨b4,1,none⟩=some u:=ai r4;simp only[go_sem,Nat.zero_add,c1,an];have hl:=oh WS.y ((y0+k:Nat):Int);have b2:=be.m ((y0+k:Nat):Int);have bo:k+1<H→lnF s.y ((y0+k:Nat):Int)≤lnF s.y ((y0+(k+1):Nat):Int)∧lnE s.y ((y0+k:Nat):Int)≤lnE s.y ((y0+(k+1):Nat):Int):=λh=>⟨be.f _ _ (by omega) (by omega) (by omega),be.e _ _ (by omega) (by omega) (by omega)⟩
  have c9:jY d (H-k) ((y0+k:Nat):Int) e=qF e (lnE s.y ((y0+k:Nat):Int))++(2,((y0+k:Nat):Int))::jY d (H-(k+1)) ((y0+(k+1):Nat):Int) (max (lnE s.y ((y0+k:Nat):Int)) (lnF s.y ((y0+(k+1):Nat):Int))):=by
   rw[show H-k=(H-(k+1))+1 by omega];rw[jY,bd,show((y0+k:Nat):Int)+1=((y0+(k+1):Nat):Int)by omega]
  rw[c9]at M3;have ec:(jY d H y0 (lnF s.y y0)).length≤68719542272:=by omega
  generalize ek:((y0+k:Nat):Int)=W at*;have ea:lnE s.y W=lnF s.y W+((aZ s.y W).2.length:Int):=rfl;have eh:(aZ s.y W).1=lnF s.y W:=rfl;have eg: -70368744177664≤lnF s.y W∧lnF s.y W≤70368744177664:=hl.2;obtain⟨L,hL⟩:∃L:Nat,(aZ s.y W).2.length=L:=⟨_,rfl⟩
  rw[hL]at ea an b2 hl;rw[hL];have c8:h4[b4]? =some (.cells #[.int .i64 (lnF s.y W),u] 240 (0,0)):=r4;generalize lnF s.y W=F at*
  -- the rows that the line lacks
  refine bA (α:=Value×Value×List Int×Int) L 0 (λi a=>[a.1,a.2.1,.int .i64 (i:Int)])
   (λi a h'=>New xy h h' a.1 (out++qF e a.2.2.2)∧OwO .i64 h' a.2.1 a.2.2.1∧(∀b,blk a.2.1 b→I.size≤b∧b≠b4)∧(∀b,blk a.1 b→I.size≤b∧b≠b4∧¬blk a.2.1 b)∧Ext I h'∧h'[b4]? =some (.cells #[.int .i64 F,u] 240 (0,0))∧b4<h'.size∧ni a.2.2.1 F a.2.2.2 most∧a.2.2.2=max e (F+i))
   (ov,U,held,e) rfl (Nat.zero_le _)
   ⟨by show New xy h h4 ov (out++qF e e);rw[PU (Int.le_refl _),List.append_nil];exact N3.ext e4,lD.ext O3 e4,λb A=>⟨b3 b A,λhe=>by have:=lD.lt O3 A;omega⟩,λb A=>⟨(a3 b A).1,λhe=>by have:=N3.lt A;omega,(a3 b A).2⟩,E3.trans e4,c8,aW r4,HL,by show e=max e (F+((0:Nat):Int));omega⟩
   λi a h5 b0 ρ3 _ hi ⟨N5,O5,b5,a5,E5,r5,l5,H5,m5⟩ ar=>?_
  obtain⟨a8,ad,D,G⟩:=a;have N5:New xy h h5 a8 (out++qF e G):=N5;have O5:OwO .i64 h5 ad D:=O5;have b5:∀b,blk ad b→I.size≤b∧b≠b4:=b5;have a5:∀b,blk a8 b→I.size≤b∧b≠b4∧¬blk ad b:=a5;have H5:ni D F G most:=H5;have m5:G=max e (F+i):=m5;have cp:(out++qF e G).length+1≤68719542273:=by
   have:=congrArg List.length M3;rw[List.length_append,List.length_append,El]at this;rw[List.length_append,El];omega
  simp only[go_sem];refine aj (λg2=>?_) (λg2=>?_)
  ·have a9:i<L:=by omega
   have c0:aB h5 ⟨b4,0,none⟩=some (.int .i64 F):=ai r5;simp only[go_sem,Nat.zero_add,c0];rw[w64 (n:=F+(i:Int)) (by omega) (by omega)];refine ae.at (WH O5.sl (by have:=H5.len;omega)) ?_;refine aj (λg3=>?_) (λg3=>?_)
   ·have:=H5.lt _ g3;rw[w64 (by omega) (by omega)];refine ar (a8,ad,D,G) h5 a9 ⟨N5,O5,b5,a5,E5,r5,l5,H5,?_⟩;show G=max e (F+((i+1:Nat):Int));omega
   ·have dl:G=F+i:=by
     rcases Int.lt_or_le (F+(i:Int)) G with h|h
     ·exact absurd (H5.inn _ (by omega) h) g3
     ·omega
    rw[←dl];rw[show aF #[(.int .i64 0),(.int .i64 0)] [(0,1,(.int .i64 1)),(1,1,.int .i64 G)]=some #[.int .i64 1,.int .i64 G]from wD rfl rfl,bi,ah];have ey:G<lnE s.y W:=by omega
    refine New.push2 (a:=1) (b:=G) N5 rfl rfl (by omega) (by omega) λab h6 N6 f6 n6=>?_
    have O6:OwO .i64 h6 ad D:=lD.fr O5 f6 λb A U=>(a5 b U).2.2 A
    have r6:=f6.row r5 λU=>(a5 _ U).2.1 rfl
    have et:=f6.1;have v6:∀b,blk ab b→I.size≤b∧b≠b4∧¬blk ad b:=λb A=>by
     rcases n6 b A with h|h
     ·exact a5 b h
     ·have hs:=E5.1;exact⟨by omega,by omega,λU=>by have:=lD.lt O5 U;omega⟩
    have E6:Ext I h6:=E5.then_fr f6 λb A=>(a5 b A).1
    refine OwO.push (x:=G) O6 rfl (by have:=H5.len;omega) (by have:=H5.len;omega) λaw h7 O7 f7 n7=>?_
    have N7:New xy h h7 ab (out++qF e (G+1)):=by
     rw[PS (by omega),←List.append_assoc];exact N6.fr f7 (λb A=>Nat.le_trans ax.1 (b5 b A).1) λb A U=>(v6 b A).2.2 U
    have r7:=f7.row r6 λU=>(b5 _ U).2 rfl
    have E7:Ext I h7:=E6.then_fr f7 λb A=>(b5 b A).1
    have l7:=aW r7;have b7:∀b,blk aw b→I.size≤b∧b≠b4:=λb A=>by
     rcases n7 b A with h|h
     ·exact b5 b h
     ·have hs:=E6.1;have:=aW r6;exact⟨by omega,by omega⟩
    have v7:∀b,blk ab b→I.size≤b∧b≠b4∧¬blk aw b:=λb A=>by
     refine⟨(v6 b A).1,(v6 b A).2.1,λU=>?_⟩;rcases n7 b U with h|h
     ·exact(v6 b A).2.2 h
     ·have:=N6.lt A;omega
    obtain⟨a7,c7,e7⟩:=O7.sl.isSl;have cc:aq aw=some (.int .i64 ((D.length+1:Nat):Int)):=by rw[e7,List.length_append];rfl
    simp only[go_sem,cc];rcases H5.next (E:=lnE s.y W) (by omega) (by omega) (by omega)with⟨q1,q2⟩|⟨x,tl,q1,q2,q3,q4⟩
    ·rw[decide_eq_false (by omega)];simp only[go_sem];rw[w64 (by omega) (by omega)];refine ar (ab,aw,D++[G],G+1) h7 a9 ⟨N7,O7,b7,v7,E7,r7,l7,q2,?_⟩;show G+1=max e (F+((i+1:Nat):Int));omega
    ·rw[decide_eq_true (by omega)];simp only[go_sem];rw[q1]at O7;obtain⟨c6,s8,O8,n8⟩:=O7.tail (k':=.i64) q3;rw[s8,ah,w64 (by omega) (by omega)];refine ar (ab,c6,tl,G+1) h7 a9 ⟨N7,O8,λb A=>b7 b (n8 b A),λb A=>⟨(v7 b A).1,(v7 b A).2.1,λU=>(v7 b A).2.2 (n8 b U)⟩,E7,r7,l7,q4,?_⟩;show G+1=max e (F+((i+1:Nat):Int));omega
  ·have c3:i=L:=by omega
   subst c3;have ci:G=lnE s.y W:=by omega
   rw[show aF #[(.int .i64 0),(.int .i64 0)] [(0,1,(.int .i64 2)),(1,1,.int .i64 W)]=some #[.int .i64 2,.int .i64 W]from wD rfl rfl,bi,ah];refine New.push2 (a:=2) (b:=W) N5 rfl rfl (by omega) (by omega) λab h6 N6 f6 n6=>?_
   try simp only[go_sem]
   rw[w64 (by omega) (by omega)];have E6:Ext I h6:=E5.then_fr f6 λb A=>(a5 b A).1
   refine al (ab,ad,out++qF e G++[(2,W)],D,max G (lnF s.y ((y0+(k+1):Nat):Int))) h6 aa ⟨N6,lD.fr O5 f6 λb A U=>(a5 b U).2.2 A,λb A=>(b5 b A).1,λb A=>?_,E6,λc4=>?_,?_⟩
   ·rcases n6 b A with h|h
    ·exact⟨(a5 b h).1,(a5 b h).2.2⟩
    ·have hs:=E5.1;exact⟨by omega,λU=>by have:=lD.lt O5 U;omega⟩
   ·obtain⟨g5,g6⟩:=bo c4;refine⟨H5.move g5,by show _≤max G _;omega,?_⟩;show max G _≤_;have:lnF s.y ((y0+(k+1):Nat):Int)≤lnE s.y ((y0+(k+1):Nat):Int):=by unfold lnE lnF;omega
    omega
   ·show(out++qF e G++[(2,W)])++jY d (H-(k+1)) ((y0+(k+1):Nat):Int) (max G (lnF s.y ((y0+(k+1):Nat):Int)))=_;rw[ci];rw[←M3];simp
 ·have cr:k=H:=by omega
  subst cr;rw[Nat.sub_self]at M3;have M3:out++[]=jY d k y0 (lnF s.y y0):=M3;rw[List.append_nil]at M3;rw[←M3];exact N3
theorem Rx (a b c d:Int):ag (.st [(0,1,.i),(1,1,.i)]) .eql (yZ a b) (yZ c d)=some (.bool (decide (a=c∧b=d))):=by
 have F:(a==c)=decide (a=c):=rfl;have A:(b==d)=decide (b=d):=rfl;simp only[ag,eqV,Df,G0,G6,cond_false,List.getElem?_toArray,List.getElem?_cons_zero,List.getElem?_cons_succ,if_true,F,A];by_cases h:a=c<;>by_cases D:b=d<;>simp[h,D]
theorem VZ (a b c d:Int):ag (.st [(0,1,.i),(1,1,.i)]) .neq (yZ a b) (yZ c d)=some (.bool (!decide (a=c∧b=d))):=by
 have F:(a==c)=decide (a=c):=rfl;have A:(b==d)=decide (b=d):=rfl;simp only[ag,eqV,Df,G0,G6,cond_false,List.getElem?_toArray,List.getElem?_cons_zero,List.getElem?_cons_succ,if_true,F,A];by_cases h:a=c<;>by_cases D:b=d<;>simp[h,D]
structure xA (Z:Nat→Prop)(h:af)(bf:Nat)(vf:Value)(bt:Nat)(vt p q:Value)(m n:Pic)(s:Stg):Prop where
 src:cA h bf vf m
 out:cA h bt vt n
 ne:bf≠bt
 tx:dY Z h p s.x
 ty:dY Z h q s.y
 zf:Z bf∧∀c,blk vf c→Z c
 zz:∀c,Z c→¬blk vt c
 zb:∀c,Z c→c≠bt
 zl:∀c,Z c→c<h.size
theorem xA.ext {Z:Nat→Prop}{h h':af}{bf:Nat}{vf:Value}{bt:Nat}{vt p q:Value}{m n:Pic}{s:Stg}(S:xA Z h bf vf bt vt p q m n s)(e:Ext h h'):xA Z h' bf vf bt vt p q m n s:=
 ⟨S.src.ext e,S.out.ext e,S.ne,S.tx.ext e,S.ty.ext e,S.zf,S.zz,S.zb,λc hc=>Nat.lt_of_lt_of_le (S.zl c hc) e.1⟩
theorem xA.chg {Z Q:Nat→Prop}{h h':af}{bf:Nat}{vf:Value}{bt:Nat}{vt p q:Value}{m n n':Pic}{s:Stg}(S:xA Z h bf vf bt vt p q m n s)(f:Fr Q h h')(A:∀c,Z c→¬Q c)(I:cA h' bt vt n'):xA Z h' bf vf bt vt p q m n' s:=
 ⟨S.src.fr f (A _ S.zf.1) λc hc=>A _ (S.zf.2 c hc),I,S.ne,S.tx.fr f λc _ D=>A c D,S.ty.fr f λc _ D=>A c D,S.zf,S.zz,S.zb,λc hc=>Nat.lt_of_lt_of_le (S.zl c hc) f.1⟩
theorem xA.mk3 {h0 h1 A:af}{bf:Nat}{vf:Value}{D p q:Value}{m n:Pic}{s:Stg}(I:cA h1 bf vf m)(nb:h0.size≤bf)(nv:∀c,blk vf c→h0.size≤c)(tx:dY (eo h0 h1) h1 p s.x)(ty:dY (eo h0 h1) h1 q s.y)(N:pZ h1 A D n):
  ∃bt vt,D=ptr bt∧xA (eo h0 h1) A bf vf bt vt p q m n s∧h1.size≤bt∧(∀c,blk vt c→h1.size≤c)∧Ext h1 A:=by
 obtain⟨bt,vt,rfl,O,F,mv,E⟩:=N;have l:=I.lt;exact⟨bt,vt,rfl,⟨I.ext E,O,by omega,tx.ext E,ty.ext E,⟨⟨nb,l⟩,λc hc=>⟨nv c hc,I.ltv hc⟩⟩,λc hc G=>by have:=hc.2;have:=mv c G;omega,λc hc H=>by have:=hc.2;omega,λc hc=>Nat.lt_of_lt_of_le hc.2 E.1⟩,F,mv,E⟩
theorem RN {Z:Nat→Prop}{h:af}(G:dr h){bf:Nat}{vf:Value}{bt:Nat}{vt p q:Value}{m n:Pic}{s:Stg}{t:co}(S:xA Z h bf vf bt vt p q m n s)(W:m.Wf)(D:n.Wf)(A:s.Wf):
  ae prog me #[ptr bf,ptr bt,.agg #[p,q,.int .i64 s.border],.agg (cS t).toArray] h (Rb Z h bf vf bt vt p q m n s t):=
 Yc G S.src S.out S.ne W D S.tx S.ty A S.zf S.zz S.zl
def iQ:Pic:=qT 3 1 1 255
def lS:OpD:=⟨1,0,0,1,[],[],0,0,0⟩
def ed:co:=⟨0,0,0,3,1,0,0,0,0,0⟩
theorem QT {h:af}(G:dr h):ae prog uK #[] h λr h'=>r=.bool true∧Ext h h':=by
 apply Ih;unfold yl;have a0:y5 3 1 1 255=0:=by decide+kernel
 refine vF.mono λr h1 ⟨pp,e,e1,_,s1⟩=>?_
 subst e;obtain⟨bm,vm,rfl,I,bc,be,_⟩:=s1 a0;have I:cA h1 bm vm iQ:=I;have W:iQ.Wf:=Ab a0;rw[a0];simp only[go_sem];have hf:(aF #[(.int .i64 0),(.int .i64 0),(.int .i64 0),(.int .i64 0),(.slice none 0 0),(.slice none 0 0),(.int .i64 0),(.int .i64 0),(.int .i64 0)] [(0,1,(.int .i64 1)),(3,1,(.int .i64 1))])=some #[.int .i64 1,.int .i64 0,.int .i64 0,.int .i64 1,.slice none 0 0,.slice none 0 0,.int .i64 0,.int .i64 0,.int .i64 0]:=rfl;rw[hf,bi,ah];have wf:lS.Wf:=yG (by simp[I64]);refine(EW (Z:=λ_=>True) (o:=lS) (G.ext e1) yH wf (by simp[lS]) (by simp[lS]) (by unfold I64;omega) (by unfold I64;omega)).mono λw h2 ⟨sv,e,e2,_,s2⟩=>?_
 subst e;have a1:dD lS 3 1=0:=by decide+kernel
 have HS:=s2 a1;rw[a1];obtain⟨p,q,rfl,hp,hq,an⟩:=gS HS;simp only[go_sem];refine cD (cs:=[p,q,.int .i64 _]) rfl an rfl λb3 h3 r3 e3 n3=>?_
 refine vF.mono λr h4 ⟨pp,e,e4,_,s4⟩=>?_
 subst e;have N4:=s4 a0;rw[a0];have aa:=e2.trans e3;have up:∀c,c<h2.size→eo h1 h2 c→eo h h3 c:=λc hc hz=>⟨Nat.le_trans e1.1 hz.1,Nat.lt_of_lt_of_le hz.2 e3.1⟩
 obtain⟨bn,vn,rfl,S,bo,a7,_⟩:=xA.mk3 (h0:=h) (I.ext aa) bc be ((hp.mono up).ext e3) ((hq.mono up).ext e3) N4;simp only[go_sem];have E4:=e1.trans (aa.trans e4);refine ae.to (QV (G.ext E4)) λh5 e5=>?_
 simp only[go_sem];refine ae.to (QU (G.ext (E4.trans e5))) λh6 e6=>?_
 have E6:=E4.trans (e5.trans e6);simp only[go_sem,eqT];rw[aM (l:=[p,q,.int .i64 _]) ((e4.trans (e5.trans e6)).row r3) 3 rfl,ah];have aw:aF #[(.int .i64 0),(.int .i64 0),(.int .i64 0),(.int .i64 0)] [(2,1,(.int .i64 3)),(3,1,(.int .i64 1))]=some #[.int .i64 0,.int .i64 0,.int .i64 3,.int .i64 1]:=rfl;have al:aF #[(.int .i64 0),(.int .i64 0),(.int .i64 0),(.int .i64 0),(.int .i64 0),(.int .i64 0),(.int .i64 0),(.int .i64 0),(.int .i64 0),(.int .i64 0)] [(1,4,.agg #[.int .i64 0,.int .i64 0,.int .i64 3,.int .i64 1])]=some (cS ed).toArray:=rfl;rw[aw,bi,ah,al,bi,ah];have hN:(qT 3 1 1 255).Wf:=Ab a0;have A:lE iQ (qT 3 1 1 255) (bM lS 3 1) ed=0:=by decide+kernel
 refine(RN (G.ext E6) (S.ext (e5.trans e6)) W hN (vA a1).1).mono λr h7 ⟨e7,v,L,_,s7⟩=>?_
 subst L;obtain⟨bj,rv,rfl,J⟩:=s7 A;rw[A];simp only[go_sem,eqT,P9];have OK:zy (bM lS 3 1):=II a1 (by omega) (by decide+kernel);have R:=OK.room (m:=iQ) (n:=qT 3 1 1 255) (t:=ed) W A;have WJ:=IY (t:=ed) W OK.wf A
 -- the steps, one behind the other
 have f1:bP ⟨iQ,bM lS 3 1,ed⟩ 0 (-1)=1∧fY ⟨iQ,bM lS 3 1,ed⟩ 0 (-1)= -1∧eU ⟨iQ,bM lS 3 1,ed⟩ 0 (-1)=0∧fZ ⟨iQ,bM lS 3 1,ed⟩ 0 (-1)=0:=by decide+kernel
 have f2:bP ⟨iQ,bM lS 3 1,ed⟩ 0 0=1∧fY ⟨iQ,bM lS 3 1,ed⟩ 0 0=0∧eU ⟨iQ,bM lS 3 1,ed⟩ 0 0=0∧fZ ⟨iQ,bM lS 3 1,ed⟩ 0 0=1:=by decide+kernel
 have f3:bP ⟨iQ,bM lS 3 1,ed⟩ 0 1=1∧fY ⟨iQ,bM lS 3 1,ed⟩ 0 1=1∧eU ⟨iQ,bM lS 3 1,ed⟩ 0 1=0∧fZ ⟨iQ,bM lS 3 1,ed⟩ 0 1=2:=by decide+kernel
 have f4:bP ⟨iQ,bM lS 3 1,ed⟩ 0 2=2∧fY ⟨iQ,bM lS 3 1,ed⟩ 0 2=0∧eU ⟨iQ,bM lS 3 1,ed⟩ 0 2=1:=by decide+kernel
 have f5:∀e,bP ⟨iQ,bM lS 3 1,ed⟩ 1 e=0∧fY ⟨iQ,bM lS 3 1,ed⟩ 1 e=0:=λe=>by
  have:ed.y+ed.h≤1:=by decide
  unfold bP fY;exact⟨if_pos this,if_pos this⟩
 have hF:lnF (bM lS 3 1).y ed.y= -1:=by decide+kernel
 rw[hF]at J;have J:jm (eo h h3) (nP (λ_=>False) h6 h7) h7 bj bm vm bn vn p q rv ⟨iQ,bM lS 3 1,ed⟩ 0 (-1) (qT 3 1 1 255) (gj (bu (bM lS 3 1).y.lines)) (dP (ed.w*iQ.c)):=J;generalize hD:(⟨iQ,bM lS 3 1,ed⟩:ef)=D at*;generalize gj (bu (bM lS 3 1).y.lines)=room at*;generalize dP (ed.w*iQ.c)=w at*;have hB:∀c,nP (λ_=>False) h6 h7 c→h.size≤c:=λc hc=>by
  rcases hc with hc|hc
  ·exact hc.elim
  ·have:=E6.1;omega
 have a8:∀c,blk vn c→h.size≤c:=λc hc=>by have:=a7 c hc;have:=e1.1;have:=aa.1;omega
 -- from step to step all that was is as it was
 have ab:∀{h' H:af} {B:Nat→Prop},Ext h h'→(∀c,B c→h.size≤c)→Fr (λc=>blk vn c∨B c) h' H→Ext h H:=λE hB f=>E.then_fr f λc hc=>by
  rcases hc with hc|hc
  ·exact a8 c hc
  ·exact hB c hc
 have ar:∀{h' H:af} {B:Nat→Prop},Ext h h'→(∀c,B c→h.size≤c)→∀c,nP B h' H c→h.size≤c:=λE hB c hc=>by
  rcases hc with hc|hc
  ·exact hB c hc
  ·have:=E.1;omega
 have a9:∀a b:Int,aF #[(.int .i64 0),(.int .i64 0)] [(0,1,(.int .i64 a)),(1,1,.int .i64 b)]=some #[.int .i64 a,.int .i64 b]:=λ_ _=>rfl
 have ad:∀a:Int,aF #[(.int .i64 0),(.int .i64 0)] [(0,1,(.int .i64 a))]=some #[.int .i64 a,.int .i64 0]:=λ_=>rfl
 have E7:=E6.trans e7;refine cO (λk xs h'=>∃e B n',xs=[.int .i64 e]∧(k:Int)=2-e∧ -1≤e∧Ext h h'∧(∀c,B c→h.size≤c)∧jm (eo h h3) B h' bj bm vm bn vn p q rv D 0 e n' room w) 3
  ⟨-1,_,_,rfl,by omega,by omega,E7,hB,J⟩ λk xs ρ1 h8 again ⟨e,B,n',ex,hk,he,E8,F,J8⟩ ax=>?_
 subst ex;simp only[go_sem];refine aj (λg1=>?_) (λg1=>?_)
 ·refine(Nh J8 WJ R).mono λr h9 ⟨L,n9,J9,U,_⟩=>?_
  subst L;have hs:bP D 0 e=1∧fY D 0 e=e∧eU D 0 e=0∧fZ D 0 e=e+1:=by
   have:e= -1∨e=0∨e=1:=by omega
   rcases this with rfl|rfl|rfl
   ·exact f1
   ·exact f2
   ·exact f3
  rw[hs.1,hs.2.1]at*;rw[hs.2.2.1,hs.2.2.2]at J9;rw[a9,bi,ah,VZ];simp only[go_sem,eqT,and_self];rw[w64 (by omega) (by omega)];exact ax _ _ (k-1) (by omega) ⟨e+1,_,n9,rfl,by omega,by omega,ab E8 F U,ar E8 F,J9⟩
 ·have ay:e=2:=by omega
  subst ay;refine(Nh J8 WJ R).mono λr h9 ⟨L,n9,J9,U,_⟩=>?_
  subst L;rw[f4.2.2]at J9;rw[f4.1,f4.2.1,ad,bi,ah,Rx];simp only[go_sem,eqT,and_self];refine(Nh J9 WJ R).mono λr bg ⟨L,n10,bk,au,_⟩=>?_
  subst L;rw[(f5 _).1,(f5 _).2];have bd:aF #[(.int .i64 0),(.int .i64 0)] []=some #[.int .i64 0,.int .i64 0]:=rfl;simp only[go_sem,bd,bi,Rx,eqT,and_self];exact⟨by simp,ab (ab E8 F U) (ar E8 F) au⟩
end Go.Proofs.YtjljhnandbbldaaGreatDoor
namespace Go.Proofs.YtjljhnandbbldaaGreatDoor
open Go Go.Crisp
attribute [local irreducible] ae cE aP stK aA vK qK bC gK dK aU mkK cF Ch DH zZ bsK clK qQ lW Rw
section
def B8 (n:Int):Prop:=0≤n∧n≤255
def bgS (a:pQ)(o:OpD):Stg:=bM o (dn a).w (dn a).h
def bgN (a:pQ)(o:OpD):Pic:=qT (bgS a o).x.lines.length (bgS a o).y.lines.length (dn a).c (dn a).most
structure Gu (a:pQ)(o:OpD):Prop where
 little:¬kw 12 o
 made:dD o (dn a).w (dn a).h=0
 fit:ic (bgS a o).x.lines.length (bgS a o).y.lines.length (dn a).c
 sx:1≤(bgS a o).x.lines.length∧(bgS a o).x.lines.length≤12
 sy:1≤(bgS a o).y.lines.length∧(bgS a o).y.lines.length≤12
theorem bg_ok {a:pQ}{o:OpD}(L:kZ 12 [o])(hc:xC [o] (dn a).w (dn a).h (dn a).c=0):Gu a o:=by
 have h1:¬kw 12 o:=L o (by simp);have U:=ud a;unfold xC at hc;rw[if_neg (by simp)]at hc;have I:ic (dn a).w (dn a).h (dn a).c:=(sC a).fits;rw[if_neg (by simpa using I)]at hc;unfold Cs at hc;by_cases F:dD o (dn a).w (dn a).h=0
 ·rw [if_neg (by simpa using F)]at hc;have A:=EH F;by_cases D:ic (mN o (dn a).w) (qn o (dn a).h) (dn a).c
  ·have H:=cL D;have⟨W,b2⟩:mN o (dn a).w≤12∧qn o (dn a).h≤12:=by
    unfold mN qn at H ⊢;unfold kw at h1;split<;>rename_i G
    ·rw[if_pos G,if_pos G]at H;omega
    ·omega
   refine⟨h1,F,?_,?_,?_⟩
   ·unfold bgS;rw[A.1,A.2];exact D
   ·unfold bgS;omega
   ·unfold bgS;omega
  ·rw[if_pos D]at hc;cases hc
 ·rw[if_pos F]at hc;exact absurd hc F
section
variable {a:pQ}{o:OpD}
theorem Gu.stg (H:Gu a o):zy (bgS a o):=II H.made (by have:=ud a;omega) (by have:=(EH H.made).1;have:=H.sx;unfold bgS at this;omega)
theorem Gu.suits (H:Gu a o):jJ (dn a) (bgN a o) (bgS a o):=⟨FD H.made,rfl,rfl,rfl,rfl⟩
theorem Gu.imgc (H:Gu a o):y5 (bgS a o).x.lines.length (bgS a o).y.lines.length (dn a).c (dn a).most=0:=vE.2 ⟨H.fit,(sC a).m1,(sC a).m2⟩
end
end
section
structure YB (h:af)(cs os:List Value)(a:pQ)(o:OpD):Prop where
 pic:∃Z,lO.R Z h cs a
 wa:a.Wf
 op:∃Z,rOp.R Z h os o
 wo:Br [o]
theorem Ox {ls:List (Int×List Int)}{x:Int×List Int}(A:x∈ls)(h1:1≤x.2.length):1≤bu ls:=by
 have:=(DK ls 0).2 x A;unfold bu;omega
theorem OA {o:OpD}{w h:Int}(hc:dD o w h=0)(hy:1≤(bM o w h).y.lines.length):1≤bu (bM o w h).y.lines:=by
 have A:gh o w h=0:=by
  unfold dD at hc;split at hc
  ·cases hc
  ·exact hc
 have hy:1≤(dI o h).lines.length:=hy;show 1≤bu (dI o h).lines;unfold gh at A;by_cases I:o.kind=3
 ·rw[if_pos I]at A;have e:dI o h=dT o.filter h o.hh:=by unfold dI;rw[if_pos I]
  by_cases h1:cP o.filter w o.w=0
  ·rw[if_neg (by simpa using h1)]at A;have F:¬(¬(0≤o.filter∧o.filter<3)∨¬aT h∨¬aT o.hh):=λhh=>by unfold cP at A;rw[if_pos hh]at A;cases A
   have U:=A;unfold cP at U;rw[if_neg F]at U;have G:0≤o.filter∧o.filter<3:=Decidable.of_not_not λh=>F (.inl h)
   have W:aT h:=Decidable.of_not_not λh=>F (.inr (.inl h))
   have L:aT o.hh:=Decidable.of_not_not λh=>F (.inr (.inr h))
   unfold aT at W L;have h2:=oA U 0 (by omega);have H:si o.filter h o.hh (0:Nat):=⟨G.1,G.2,W.1,W.2,L.1,L.2,by omega,by omega⟩
   have D:(dC o.filter h o.hh (0:Nat),bN (cq o.filter h o.hh (0:Nat)))∈(dT o.filter h o.hh).lines:=List.mem_map.2 ⟨0,List.mem_range.2 (by omega),rfl⟩;rw[e];refine Ox D ?_;show 1≤(bN (cq o.filter h o.hh (0:Nat))).length;rw[sH h2];unfold cq;rw[if_pos H];unfold Al;rw[List.length_map,List.length_range];have:=GN H;omega
  ·rw[if_pos h1]at A;exact absurd A h1
 ·rw[if_neg I]at A;have e:dI o h=iI (b9 o) h:=by unfold dI;rw[if_neg I]
  have G:gn (b9 o) h=0:=by
   split at A
   ·exact absurd A (by assumption)
   ·split at A
    ·exact absurd A (by assumption)
    ·exact A
  unfold gn at G;split at G
  ·cases G
  ·split at G
   ·cases G
   ·rename_i h1 h2;have h3:aT h:=Decidable.of_not_not h1;unfold aT at h3;have D:(((0:Nat):Int)-((b9 o).length/2:Nat),bN (b9 o))∈(iI (b9 o) h).lines:=List.mem_map.2 ⟨0,List.mem_range.2 (by omega),rfl⟩;rw[e];refine Ox D ?_;show 1≤(bN (b9 o)).length;rw[sH G];omega
theorem Gu.most1 {a:pQ}{o:OpD}(H:Gu a o):1≤bu (bgS a o).y.lines:=OA H.made H.sy.1
structure R5 (hL:af)(B0 Q:Nat→Prop)(Z:Nat→Prop)(h:af)(bj bf:Nat)(vf:Value)(bt:Nat)(vt p q rv:Value)(d:ef)(y e:Int)(n:Pic)(room w:Nat):Prop where
 st:∃B,jm Z B h bj bf vf bt vt p q rv d y e n room w∧∀c,c<hL.size→B c→B0 c
 fr:Fr (λc=>(blk vt c∨B0 c)∨Q c) hL h
def GoFr (vt:Value)(B Q:Nat→Prop)(h h':af):Prop:=Fr (λc=>(blk vt c∨B c)∨Q c) h h'
theorem GoFr.row {vt:Value}{B Q:Nat→Prop}{h h':af}(e:GoFr vt B Q h h'){b:Nat}{o:Obj}(r:h[b]? =some o)(A:¬((blk vt b∨B b)∨Q b)):h'[b]? =some o:=Go.Crisp.Fr.row e r A
section
variable {hL:af}{B0 Q:Nat→Prop}{Z:Nat→Prop}{h:af}{bj bf:Nat}{vf:Value}{bt:Nat}{vt p q rv:Value}{d:ef}{y e:Int}{n:Pic}{room w:Nat}
theorem R5.row {b:Nat}{ob:Obj}(J:R5 hL B0 Q Z h bj bf vf bt vt p q rv d y e n room w)(r:hL[b]? =some ob)(A:¬blk vt b)(D:¬B0 b)(F:¬Q b):h[b]? =some ob:=J.fr.row r λhh=>hh.elim (λhh=>hh.elim A D) F
theorem R5.out (J:R5 hL B0 Q Z h bj bf vf bt vt p q rv d y e n room w):Ea d n∧cA h bt vt n∧cA h bf vf d.m:=by
 obtain⟨⟨B,S,A⟩,f⟩:=J;exact⟨S.out,S.img,S.src⟩
end
theorem Rb.go {Z:Nat→Prop}{h:af}{bf:Nat}{vf:Value}{bt:Nat}{vt p q:Value}{m n:Pic}{s:Stg}{t:co}{r:Value}{h':af}(H:Rb Z h bf vf bt vt p q m n s t r h')(hc:lE m n s t=0):
  ∃bj rv,r=.tuple #[ptr bj,.int .i64 0]∧Ext h h'∧jm Z (nP (λ_=>False) h h') h' bj bf vf bt vt p q rv ⟨m,s,t⟩ t.y (lnF s.y t.y) n (gj (bu s.y.lines)) (dP (t.w*m.c)):=by
 obtain⟨e,v,A,_,H⟩:=H;obtain⟨bj,rv,rfl,J⟩:=H hc;exact⟨bj,rv,by rw[A,hc],e,J⟩
end
end Go.Proofs.YtjljhnandbbldaaGreatDoor
namespace Go.Proofs.YtjljhnandbbldaaGreatDoor
open Go Go.Crisp
theorem Tt {h:af}{G:List TS}{args:Array Value}(R:sV (.st Sc:: .st tOp::G) h args.toList):∃cs H a o r,args.toList=.agg (List.toArray cs):: .agg (List.toArray H)::r∧YB h cs H a o∧sV G h r:=by
 obtain⟨v,r,I,⟨x,c,rfl,D⟩,u,U,F,⟨y,d,rfl,A⟩,h0⟩:=R;have D:Rd Sc h c.toList x:=D;have A:Rd tOp h d.toList y:=A;obtain⟨h1,L⟩:=XJ D;refine⟨c.toList,d.toList,Ru x,Od y,U,by rw[I,F,Array.toArray_toList,Array.toArray_toList],⟨⟨_,h1⟩,L,⟨_,(Xp A).1⟩,VU A⟩,h0⟩
theorem Rj {h:af}{F:List TS}{l:List Value}(R:sV (.int .u8::F) h l):∃n r,l=.int .u8 n::r∧B8 n∧sV F h r:=by
 obtain⟨v,r,G,⟨x,A,D⟩,h0⟩:=R;obtain rfl:v=.int .u8 x:=by simpa using A
 exact⟨x,r,G,Xn D,h0⟩
end Go.Proofs.YtjljhnandbbldaaGreatDoor
namespace Go.Proofs.YtjljhnandbbldaaGreatDoor
open Go Go.Crisp
open _root_.Go.Proofs.Tryz
def Hk:Go.Shelf.Ren:=⟨λn=>match n with|23=>177|n=>n,λn=>match n with|0=>0|3=>3|4=>4|22=>41|n=>n,λn=>n⟩
theorem Qs:Go.Proofs.Lays2.n23 prog Hk where
 mixed:=by kernel_rfl
 f23:=by kernel_rfl
 t0:=by kernel_rfl
 a0:=λw=>bR (by kernel_rfl)
 z0:=λw=>aX (by kernel_rfl)
 v0:=λw=>aS (by kernel_rfl)
 t3:=by kernel_rfl
 a3:=λw=>bR (by kernel_rfl)
 z3:=λw=>aX (by kernel_rfl)
 v3:=λw=>aS (by kernel_rfl)
 t4:=by kernel_rfl
 a4:=λw=>bR (by kernel_rfl)
 z4:=λw=>aX (by kernel_rfl)
 v4:=λw=>aS (by kernel_rfl)
 t22:=by kernel_rfl
 a22:=λw=>bR (by kernel_rfl)
 z22:=λw=>aX (by kernel_rfl)
 v22:=λw=>aS (by kernel_rfl)
 i3:=by kernel_rfl
end Go.Proofs.YtjljhnandbbldaaGreatDoor
namespace Go.Proofs.YtjljhnandbbldaaGreatDoor
open Go Go.Crisp
attribute [local irreducible] ae cE aP stK aA vK qK bC gK dK aU mkK cF Ch DH zZ bsK clK qQ lW Rw
structure dp (n n':Pic):Prop where
 w:n'.w=n.w
 h:n'.h=n.h
 c:n'.c=n.c
 m:n'.most=n.most
theorem dp.refl (n:Pic):dp n n:=⟨rfl,rfl,rfl,rfl⟩
theorem dp.newC {m n n':Pic}{s:Stg}{t:co}(D:dp n n')(h:lE m n s t=0):lE m n' s t=0:=by
 obtain⟨h1,A⟩:=nA.1 h;exact nA.2 ⟨⟨h1.1,by rw[D.w];exact h1.2.1,by rw[D.h];exact h1.2.2.1,by rw[D.c];exact h1.2.2.2.1,by rw[D.m];exact h1.2.2.2.2⟩,A⟩
theorem dp.inP {n n':Pic}(D:dp n n'){x y c:Int}:Go.Proofs.YtjljhnandbbldaaGreatDoor.inP n' x y c↔Go.Proofs.YtjljhnandbbldaaGreatDoor.inP n x y c:=by
 unfold Go.Proofs.YtjljhnandbbldaaGreatDoor.inP;rw[D.w,D.h,D.c]
theorem T4 {n n':Pic}(W:n.Wf)(l2:(n'.l.length:Int)=n'.w*n'.h*n'.c)(D:dp n n')(H:∀x y c,inP n x y c→atP n x y c=atP n' x y c):n.l=n'.l:=by
 have hf:=cL W.fits;have l1:=W.len;rw[D.w,D.h,D.c]at l2;refine MX (by omega) λi h1 h2=>?_
 have I:0<n.c:=by omega
 have L:0<n.w:=by omega
 have e1:=Int.mul_ediv_add_emod (i:Int) n.c;have U:=Int.mul_ediv_add_emod ((i:Int)/n.c) n.w;have m1:=Int.emod_nonneg (i:Int) (show n.c≠0 by omega);have m2:=Int.emod_lt_of_pos (i:Int) I;have m3:=Int.emod_nonneg ((i:Int)/n.c) (show n.w≠0 by omega);have m4:=Int.emod_lt_of_pos ((i:Int)/n.c) L;have q0:0≤(i:Int)/n.c:=Int.ediv_nonneg (by omega) (by omega);have q1:0≤(i:Int)/n.c/n.w:=Int.ediv_nonneg q0 (by omega);have q2:(i:Int)/n.c<n.w*n.h:=by
  rw[Int.ediv_lt_iff_lt_mul I];omega
 have q3:(i:Int)/n.c/n.w<n.h:=by
  rw[Int.ediv_lt_iff_lt_mul L,Int.mul_comm];exact q2
 have A:inP n ((i:Int)/n.c%n.w) ((i:Int)/n.c/n.w) ((i:Int)%n.c):=⟨m3,m4,q1,q3,m1,m2⟩
 have G:mI n ((i:Int)/n.c%n.w) ((i:Int)/n.c/n.w) ((i:Int)%n.c)=(i:Int):=by
  unfold mI;rw[Int.mul_comm ((i:Int)/n.c/n.w),U,Int.mul_comm ((i:Int)/n.c),e1]
 have F:mI n' ((i:Int)/n.c%n.w) ((i:Int)/n.c/n.w) ((i:Int)%n.c)=(i:Int):=by
  unfold mI at G ⊢;rw[D.w,D.c];exact G
 have:=H _ _ _ A;unfold atP at this;rw[if_pos A,if_pos (D.inP.2 A),G,F,Int.toNat_natCast]at this;simpa[List.getD_eq_getElem?_getD,h1,h2]using this
end Go.Proofs.YtjljhnandbbldaaGreatDoor
namespace Go.Crisp
open Go
def L6 (v:Value):Prop:=∀a n c,v=.slice a n c→c≤9223372036854775807
theorem Vn {z:Value}{e:TypeId}{w bytes:Nat}{s x:Value}{h:af}{K L:Value→af→Prop}(H:cF z e w bytes s x h K)(U:L6 s)(m:∀I h',K I h'→L6 I→L I h'):cF z e w bytes s x h L:=by
 unfold cF at H ⊢;split at H
 ·rename_i D A F n _;split at H
  ·rename_i h0;rw[if_pos h0]
   revert H
   cases tf w h n x with
   |none=>exact λH=>H
   | some G=>
    cases D with
    |none=>exact λH=>m _ _ H λa n c e=>by cases e;exact U _ _ _ rfl
    |some a=>
     dsimp only;cases iO h (a.add (A*w)) 0 G with
     |none=>exact λH=>H
     |some h'=>exact λH=>m _ _ H λa n c e=>by cases e;exact U _ _ _ rfl
  ·rename_i h0;rw[if_neg h0];refine⟨H.1,H.2.1,?_⟩;have H:=H.2.2
   revert H
   cases tf w h A (.slice D A F)<;>cases tf w h n x
   ·exact λH=>H
   ·exact λH=>H
   ·exact λH=>H
   ·exact λH c h1 W=>m _ _ (H c h1 W) λa n c' e=>by cases e;omega
 ·exact H
theorem SlC.isSl_one {w:Nat}{h:af}{v:Value}{n:Nat}{cs:List Value}(H:SlC w h v n cs):aJ v=true:=by obtain⟨a,c,e⟩:=H.isSl;rw[e];rfl
def Rp.SlCap (v:Value):Prop:=∃a n c,v=.slice a n c∧n≤c
theorem SS:L6 (.slice none 0 0):=λa n c e=>by cases e;omega
end Go.Crisp
namespace Go.Proofs.YtjljhnandbbldaaGreatDoor
open Go Go.Crisp
attribute [local irreducible] ae cE aP stK aA vK qK bC gK dK aU mkK Ch DH zZ bsK clK qQ lW Rw
open _root_.Go.Proofs.Tryz
section
theorem Ml {α:Type}[Inhabited α](A:α→Value)(off:Nat)(d:Array α)(c:Array Value)(i:Nat):(Go.Sort.putCells A off d c)[i]? =c[i]?.map λx=>if off≤i∧i<off+d.size then A d[i-off]! else x:=by
 unfold Go.Sort.putCells;rw[Array.getElem?_mapIdx]
theorem Vf {h:af}{v:Value}{x:Int}{l:List Int}(H:Own 1 h v (l.length+1) ((x::l).map λn=>Value.int .i64 n))(hc:L6 v):
  ae prog jD #[v,.int .i64 0,.int .i64 1] h λr h'=>Own 1 h' r l.length (l.map λn=>Value.int .i64 n)∧L6 r∧Fr (blk v) h h'∧(∀b,blk r b→blk v b):=by
 refine ae.ofCalls (by kernel_rfl) λw hh=>?_
 subst hh;rcases H with⟨_,h0,_⟩|⟨b,cap,r,e,rfl,U,hl,hr,A⟩
 ·cases h0
 have F:=hc _ _ _ rfl;have I:∀j,(D:j<(x::l).length)→w.heap[b]? =some (.cells ((x::l).map (λn=>Value.int .i64 n)++r).toArray e (0,0))→aB w.heap ⟨b,0+j,none⟩=some (.int .i64 (x::l)[j]):=λj D A=>by
  rw[ai A,Nat.zero_add];simp only[List.getElem?_toArray];rw[List.getElem?_append_left (by simpa using D),List.getElem?_map,List.getElem?_eq_getElem D];rfl
 have hH:Go.Sort.Holds (Value.int .i64) w b 0 (x::l).toArray:=λj D=>by
  have W:j<(x::l).length:=by simpa using D
  refine⟨?_,?_⟩
  ·rw[getElem!_pos (x::l).toArray j D];exact I j W A
  ·show sA w.heap ⟨b,0+j,none⟩=false;unfold sA;simp[A]
 have:=Any.slices_Delete_int Qs b 0 cap 0 1 (x::l) w hH U F (by omega) (by simp);refine this.mono λe' w' ⟨h1,q,h2⟩=>⟨_,h1,?_⟩
 subst h2;have aa:b<w.heap.size:=(Array.getElem?_eq_some_iff.1 A).1;have G:(Go.Sort.putRow (Value.int .i64) (Go.Sort.ahead w q) b 0 ((x::l).take 0++(x::l).drop 1++List.replicate (1-0) 0).toArray).heap[b]? =some (.cells (l.map (λn=>Value.int .i64 n)++(Value.int .i64 0::r)).toArray e (0,0)):=by
  show(w.heap.modify b (Go.Sort.onCells _))[b]? =_;rw[Array.getElem?_modify,if_pos rfl,A];show some (Obj.cells (Go.Sort.putCells _ 0 _ _) e (0,0))=_
  congr 2
  apply Array.ext_getElem?;intro i;rw[Ml];simp only[List.take_zero,List.nil_append,List.drop_succ_cons,List.drop_zero,Nat.sub_zero,List.replicate_one,Nat.zero_le,true_and,Nat.zero_add,List.size_toArray,List.length_append,List.length_singleton,List.getElem?_toArray];by_cases L:i<l.length+1
  ·rw[List.getElem?_append_left (by simpa using L),List.getElem?_map,List.getElem?_eq_getElem (show i<(x::l).length by simpa using L),Option.map_some,Option.map_some,if_pos L,getElem!_pos _ i (by simpa using L)];by_cases h4:i<l.length
   ·rw[List.getElem?_append_left (by simpa using h4),List.getElem?_map,List.getElem?_eq_getElem h4];simp[List.getElem_append_left,h4]
   ·have:i=l.length:=by omega
    subst this;rw[List.getElem?_append_right (by simp)];simp
  ·have e1:((x::l).map (λn=>Value.int .i64 n)++r)[i]? =r[i-(l.length+1)]? :=by
    rw[List.getElem?_append_right (by simp;omega)];simp
   have e2:(l.map (λn=>Value.int .i64 n)++Value.int .i64 0::r)[i]? =r[i-(l.length+1)]? :=by
    rw[List.getElem?_append_right (by simp;omega),List.length_map,show i-l.length=(i-(l.length+1))+1 by omega,List.getElem?_cons_succ]
   rw[e1,e2];cases r[i-(l.length+1)]? <;>simp[L]
 refine⟨⟨rfl,rfl,rfl⟩,?_,λa n c e=>?_,⟨?_,λk hk hm=>?_⟩,λk hk=>hk⟩
 ·refine .inr ⟨b,cap,Value.int .i64 0::r,e,?_,by omega,by simp,?_,G⟩
  ·simp
  ·simp at hr ⊢;omega
 ·cases e;exact F
 ·show w.heap.size≤(w.heap.modify b _).size;simp
 ·show(w.heap.modify b _)[k]? =_;rw[Array.getElem?_modify,if_neg (λh=>hm h.symm)]
structure QD where
 room:Int
 l:List Int
 closed:Bool
structure QD.Wf (d:QD):Prop where
 r1:1≤d.room
 r2:d.room≤4096
 l:(d.l.length:Int)≤d.room
structure IsQ (Q:Nat→Prop)(h:af)(b:Nat)(d:QD):Prop where
 at_:∃v,h[b]? =some (.cells #[.int .i64 d.room,v,.bool d.closed] 215 (0,0))∧Own 1 h v d.l.length (d.l.map λn=>Value.int .i64 n)∧L6 v∧¬blk v b∧∀c,blk v c→Q c
 qb:Q b
 ql:∀c,Q c→c<h.size
 wf:d.Wf
theorem IsQ.fr {Q M:Nat→Prop}{h h':af}{b:Nat}{d:QD}(H:IsQ Q h b d)(f:Fr M h h')(q:∀c,Q c→¬M c):IsQ Q h' b d:=by
 obtain⟨⟨v,r,o,c,n,s⟩,qb,ql,w⟩:=H;exact⟨⟨v,f.row r (q b qb),o.fr f λk A=>q k (s k A),c,n,s⟩,qb,λk A=>Nat.lt_of_lt_of_le (ql k A) f.1,w⟩
theorem IsQ.ext {Q:Nat→Prop}{h h':af}{b:Nat}{d:QD}(H:IsQ Q h b d)(e:Ext h h'):IsQ Q h' b d:=H.fr (M:=λ_=>False) e.fr λ_ _=>id
def mW (d:QD)(x:Int):QD:=if d.closed then d else if d.room≤d.l.length then d else{d with l:=d.l++[x]}
def rZ (d:QD):Int:=if d.closed then 2 else if d.room≤d.l.length then 1 else 0
def mX (d:QD):QD:={d with l:=d.l.tail}
def bH (d:QD):Int:=d.l.headD 0
def dh (d:QD):Int:=if d.l=[]then(if d.closed then 2 else 1)else 0
theorem Gy {B:Nat→Prop}{h h':af}(A:∀c,B c→c<h.size)(D:h.size≤h'.size):∀c,nP B h h' c→c<h'.size:=λc hc=>hc.elim (λh=>Nat.lt_of_lt_of_le (A c h) D) λh=>h.2
section
variable {Q:Nat→Prop}{h:af}{b:Nat}{d:QD}
theorem UZ {h:af}{n:Int}:ae prog lz #[.int .i64 n] h λr h'=>∃b,r=ptr b∧IsQ (λc=>c=b) h' b ⟨min (max 1 n) 4096,[],false⟩∧Ext h h'∧h.size≤b:=by
 apply MK;unfold C4;have A:∀v:Int,aF #[(.int .i64 0),(.slice none 0 0),(.bool false)] [(0,1,.int .i64 v)]=some #[.int .i64 v,.slice none 0 0,.bool false]:=λ_=>rfl
 simp only[go_sem,A,bi];refine aC λb h1 r1 F D=>?_
 exact⟨b,rfl,⟨⟨_,r1,.inl ⟨rfl,rfl,rfl⟩,SS,id,λc hc=>hc.elim⟩,rfl,λc hc=>by rw[hc];exact aW r1,⟨by show 1≤min (max 1 n) 4096;omega,by show min (max 1 n) 4096≤4096;omega,by show(0:Int)≤min (max 1 n) 4096;omega⟩⟩,F,D⟩
theorem LR (H:IsQ Q h b d):ae prog gA #[ptr b] h λr h'=>r=.bool d.closed∧h'=h:=by
 apply xH;unfold mS;obtain⟨⟨v,r,o,c,n,s⟩,qb,ql,w⟩:=H;have A:aB h ⟨b,2,none⟩=some (.bool d.closed):=ai r;simp only[go_sem,A];exact⟨trivial,trivial⟩
theorem LZ (H:IsQ Q h b d):ae prog fX #[ptr b] h λr h'=>r=.bool (decide (rZ d≠1))∧h'=h:=by
 apply wm;unfold lM rZ;obtain⟨⟨v,r,o,c,n,s⟩,qb,ql,w⟩:=H;have G:aB h ⟨b,0,none⟩=some (.int .i64 d.room):=ai r;have I:aB h ⟨b,1,none⟩=some v:=ai r;have A:aB h ⟨b,2,none⟩=some (.bool d.closed):=ai r;obtain⟨a,L,e⟩:=o.isSl;have F:aq v=some (.int .i64 (d.l.length:Int)):=by rw[e];rfl
 cases hc:d.closed with
 |true=>
  rw[hc]at A;simp only[go_sem,G,I,A,F];exact⟨by simp,trivial⟩
 |false=>
  rw[hc]at A;simp only[go_sem,G,I,A,F,Nat.zero_add];refine⟨?_,trivial⟩
  congr 1
  rw[decide_eq_decide];by_cases D:d.room≤d.l.length
  ·simp[D]
  ·simp[D];omega
theorem Nn (H:IsQ Q h b d):ae prog gJ #[ptr b] h λr h'=>r=.bool (decide (dh d≠1))∧h'=h:=by
 apply sZ;unfold jW dh;obtain⟨⟨v,r,o,c,n,s⟩,qb,ql,w⟩:=H;have F:aB h ⟨b,1,none⟩=some v:=ai r;have A:aB h ⟨b,2,none⟩=some (.bool d.closed):=ai r;obtain⟨a,G,e⟩:=o.isSl;have D:aq v=some (.int .i64 (d.l.length:Int)):=by rw[e];rfl
 cases hc:d.closed with
 |true=>
  rw[hc]at A;simp only[go_sem,F,A,D];refine⟨?_,trivial⟩;cases d.l<;>simp
 |false=>
  rw[hc]at A;simp only[go_sem,F,A,D,Nat.zero_add];refine⟨?_,trivial⟩;cases d.l<;>simp
theorem WI (H:IsQ Q h b d){x:Int}:ae prog kU #[ptr b,.int .i64 x] h λr h'=>r=.int .i64 (rZ d)∧IsQ (nP Q h h') h' b (mW d x)∧Fr Q h h':=by
 apply As;unfold qA;have W:=H;obtain⟨⟨v,r,o,c,n,s⟩,qb,ql,w⟩:=H;have c1:aB h ⟨b,1,none⟩=some v:=ai r;have U:aB h ⟨b,2,none⟩=some (.bool d.closed):=ai r;cases hc:d.closed with
 |true=>
  rw[hc]at U;simp only[go_sem,U];unfold rZ mW;rw[if_pos hc,if_pos hc,Ac];exact⟨rfl,W,Fr.refl _ _⟩
 | false=>
  have A:¬d.closed=true:=by rw[hc];simp
  rw[hc]at U;simp only[go_sem,U];refine ae.at (LZ W) ?_;by_cases I:d.room≤d.l.length
  ·have hs:rZ d=1:=by unfold rZ;rw[if_neg A,if_pos I]
   have hq:mW d x=d:=by unfold mW;rw[if_neg A,if_pos I]
   rw[hs,hq,Ac,decide_eq_false (by decide)];simp only[go_sem];exact⟨trivial,W,Fr.refl _ _⟩
  ·have hs:rZ d=0:=by unfold rZ;rw[if_neg A,if_neg I]
   have hq:mW d x={d with l:=d.l++[x]}:=by unfold mW;rw[if_neg A,if_neg I]
   rw[hs,hq,decide_eq_true (by decide)];simp only[go_sem,c1];have w1:=w.r2;refine cz (Rp.fill_one rfl) λb1 h1 r1 F n1=>?_
   refine Vn (sI (o.fr (M:=λ_=>False) F.fr λ_ _=>id) (Rp.SlC.single (cs:=[.int .i64 x]) r1) (ak rfl aQ) rfl (by omega) (by omega) λs' h2 o2 f2 L=>(⟨o2,f2,L⟩:Own 1 h2 s' (d.l.length+1) (d.l.map (λn=>Value.int .i64 n)++[.int .i64 x])∧Fr (blk v) h1 h2∧∀b,blk s' b→blk v b∨h1.size≤b)) c λv2 h2 ⟨o2,f2,L⟩ aa=>?_
   have rb:=f2.row (F.row r) n;have ad:=aW (F.row r);have G:¬blk v2 b:=λhv=>(L b hv).elim n λhh=>by omega
   try simp only[go_sem]
   refine bK rb (by simp) o2.sl.isSl_one λh3 r3 u3=>?_
   have ab:=F.1;have al:=f2.1;have an:=u3.1;refine⟨trivial,⟨⟨v2,r3,?_,aa,G,λk D=>?_⟩,.inl qb,Gy ql (by omega),⟨w.r1,w.r2,by show((d.l++[x]).length:Int)≤d.room;simp;omega⟩⟩,?_⟩
   ·show Own 1 h3 v2 (d.l++[x]).length ((d.l++[x]).map λn=>Value.int .i64 n);rw[List.length_append,List.map_append];exact o2.fr u3.fr λk D he=>G (he▸D)
   ·rcases L k D with h5|h5
    ·exact .inl (s k h5)
    ·have:=o2.lt D;exact .inr ⟨by omega,by omega⟩
   ·exact((F.fr (M:=Q)).after f2 λk _ D=>s k D).after u3.fr λk _ D=>D▸qb
theorem QQ (H:IsQ Q h b d):ae prog jd #[ptr b] h λr h'=>r=.tuple #[.int .i64 (bH d),.int .i64 (dh d)]∧IsQ (nP Q h h') h' b (mX d)∧Fr Q h h':=by
 apply wj;unfold lL;have H0:=H;obtain⟨⟨v,r,o,c,n,s⟩,qb,ql,w⟩:=H;have c1:aB h ⟨b,1,none⟩=some v:=ai r;have c2:aB h ⟨b,2,none⟩=some (.bool d.closed):=ai r;obtain⟨a,cp,e⟩:=o.isSl;have G:aq v=some (.int .i64 (d.l.length:Int)):=by rw[e];rfl
 cases A:d.l with
 |nil=>
  have U:bH d=0:=by unfold bH;rw[A];rfl
  have hq:mX d=d:=by unfold mX;rw[A];cases d;simp_all
  rw[U,hq];rw[A]at G;have L:¬(0:Int)<((0:Nat):Int):=by omega
  simp only[go_sem,c1,G,List.length_nil,decide_eq_false L,c2];have I:dh d=if d.closed then 2 else 1:=by unfold dh;rw[if_pos A]
  rw[I];cases d.closed with
  |true=>rw[fI];exact⟨rfl,by rw[Ac];exact H0,Fr.refl _ _⟩
  |false=>rw[cf];exact⟨rfl,by rw[Ac];exact H0,Fr.refl _ _⟩
 |cons x t=>
  have U:bH d=x:=by unfold bH;rw[A];rfl
  have hq:mX d={d with l:=t}:=by unfold mX;rw[A];rfl
  have I:dh d=0:=by unfold dh;rw[if_neg (by rw[A];simp)]
  rw[U,hq,I];rw[A]at G o;have o':Own 1 h v (t.length+1) ((x::t).map λn=>Value.int .i64 n):=o;have zp:(0:Int)<(((x::t).length:Nat):Int):=by simp
  obtain⟨pp,p1,p2⟩:=(BB (k:=.i64) (l:=x::t) o).int_at (k':=.i64) (i:=0) (by simp);have p1:aR 1 v (.int .i64 0)=some pp:=p1;simp only[go_sem,c1,G,decide_eq_true zp,p1,p2];refine(Vf o' c).mono λv2 h2 ⟨o2,W,f2,n2⟩=>?_
  have rb:=f2.row r n;have F:¬blk v2 b:=λhv=>n (n2 b hv)
  try simp only[go_sem]
  refine bK rb (by simp) o2.sl.isSl_one λh3 r3 u3=>?_
  have aa:=f2.1;have ab:=u3.1;have wl:=w.l;rw[A]at wl;refine⟨rfl,⟨⟨v2,r3,o2.fr u3.fr λk D he=>F (he▸D),W,F,λk D=>.inl (s k (n2 k D))⟩,.inl qb,Gy ql (by omega),⟨w.r1,w.r2,by show(t.length:Int)≤d.room;simp at wl;omega⟩⟩,?_⟩;exact(f2.mono λk _ D=>s k D).trans (u3.fr.mono λk _ D=>D▸qb)
theorem Pl (H:IsQ Q h b d):ae prog gR #[ptr b] h λr h'=>r=.bool (!d.closed)∧IsQ Q h' b {d with closed:=true}∧Fr Q h h':=by
 apply yP;unfold oU;obtain⟨⟨v,r,o,c,n,s⟩,qb,ql,w⟩:=H;have I:aB h ⟨b,2,none⟩=some (.bool d.closed):=ai r;simp only[go_sem,I];refine bK r (by simp) rfl λL F D=>?_
 try simp only[go_sem]
 exact⟨trivial,⟨⟨v,F,o.fr D.fr λk A G=>n (G▸A),c,n,s⟩,qb,λc hc=>by rw[D.1];exact ql c hc,⟨w.r1,w.r2,w.l⟩⟩,D.fr.mono λk _ A=>A▸qb⟩
end
end
end Go.Proofs.YtjljhnandbbldaaGreatDoor
namespace Go.Crisp
open Go
theorem Rp.Ow.slcap {α:Type}{e:Rp α}{Z:Nat→Prop}{h:af}{v:Value}{l:List α}(H:Rp.Ow e Z h v l):Rp.SlCap v:=by
 obtain⟨ds,o,_⟩:=H;rcases o with⟨rfl,_,_⟩|⟨b,cap,r,e,rfl,hc,_⟩
 ·exact⟨_,_,_,rfl,Nat.le_refl _⟩
 ·exact⟨_,_,_,rfl,hc⟩
end Go.Crisp
namespace Go.Proofs.YtjljhnandbbldaaGreatDoor
open Go Go.Crisp
attribute [local irreducible] ae cE aP stK aA vK qK bC gK dK aU mkK cF Ch DH zZ bsK clK qQ lW Rw
open _root_.Go.Proofs.Tryz
section
theorem UX {h:af}{n:Int}:ae prog jF #[.int .i64 n] h λr h'=>r=.agg #[.int .i64 (min (max 1 n) 4096),.slice none 0 0,.bool false]∧Ext h h':=by
 apply Mz;unfold CQ;have A:∀v:Int,aF #[(.int .i64 0),(.slice none 0 0),(.bool false)] [(0,1,.int .i64 v)]=some #[.int .i64 v,.slice none 0 0,.bool false]:=λ_=>rfl
 refine aC λD h1 r1 L I=>?_
 have fin:∀v:Int,v=min (max 1 n) 4096→stK 3 (ptr D) (.agg #[.int .i64 v,.slice none 0 0,.bool false]) h1 λW F=>vK (aH 3 F (ptr D)) λH=>H=.agg #[.int .i64 (min (max 1 n) 4096),.slice none 0 0,.bool false]∧Ext h F:=by
  intro v G;subst G;refine ch (l:=[.int .i64 (min (max 1 n) 4096),.slice none 0 0,.bool false]) r1 rfl (ak rfl (ak rfl (ak rfl aQ))) rfl λh2 r2 U=>?_
  rw[aM (l:=[.int .i64 (min (max 1 n) 4096),.slice none 0 0,.bool false]) r2 3 rfl,ah];exact⟨rfl,L.upd I U⟩
 simp only[go_sem];refine aj (λg1=>?_) (λg1=>?_)
 ·rw[decide_eq_false (by decide)];simp only[go_sem,A,bi];exact fin 1 (by omega)
 ·refine aj (λg2=>?_) (λg2=>?_)
  ·simp only[go_sem,A,bi];exact fin 4096 (by omega)
  ·simp only[go_sem,A,bi];exact fin n (by omega)
section
variable {Z:Nat→Prop}{h:af}{cs:List Value}{d:QD}
end
end
section
structure WE where
 bf:Nat
 vf:Value
 bt:Nat
 vt:Value
 p:Value
 q:Value
 m:Pic
 s:Stg
structure WE.Ok (E:WE):Prop where
 m:E.m.Wf
 s:zy E.s
abbrev WE.d (E:WE)(t:co):ef:=⟨E.m,E.s,t⟩
def ig (Z B:Nat→Prop)(h:af)(E:Option WE)(n:Pic)(jv:Value):Option (co×Int×Int)→Prop
 |none=>jv=.pointer none
 |some (t,y,e)=>∃E',E=some E'∧E'.Ok∧lE E'.m n E'.s t=0∧∃bj rv,jv=ptr bj∧jm Z B h bj E'.bf E'.vf E'.bt E'.vt E'.p E'.q rv (E'.d t) y e n (gj (bu E'.s.y.lines)) (dP (t.w*E'.m.c))
def dd (E:Option WE):Nat→Prop:=match E with|none=>λ_=>False|some E=>blk E.vt
def xB (E:Option WE)(b:Nat):Prop:=match E with|none=>True|some E=>b≠E.bt
theorem ig.one {Z B:Nat→Prop}{h:af}{E:Option WE}{n:Pic}{A:Value}{jo:Option (co×Int×Int)}(H:ig Z B h E n A jo):aJ A=true:=by
 cases jo with
 |none=>rw[show A=_ from H];rfl
 |some x=>obtain⟨t,y,e⟩:=x;obtain⟨_,_,_,_,bj,rv,rfl,_⟩:=H;rfl
def gO (h:af)(E:Option WE)(n:Pic):Prop:=∀E',E=some E'→cA h E'.bt E'.vt n∧n.Wf
theorem ig.other {Z B Q:Nat→Prop}{h h':af}{E:Option WE}{n n':Pic}{F:Value}{jo:Option (co×Int×Int)}(H:ig Z B h E n F jo)(f:Fr Q h h')(L:∀c,Z c→¬Q c)(qb:∀c,B c→¬Q c)(I:gO h' E n')(D:dp n n'):ig Z B h' E n' F jo:=by
 cases jo with
 |none=>exact H
 |some x=>
  obtain⟨t,y,e⟩:=x;obtain⟨A,rfl,ok,hc,bj,rv,rfl,S⟩:=H;obtain⟨U,G⟩:=I A rfl;exact⟨A,rfl,ok,D.newC hc,bj,rv,rfl,S.other f L qb U (Ry G (D.newC hc))⟩
structure WD where
 state:Int
 tiles:List Int
 job:Option (co×Int×Int)
 words:Int
def qS (E:Option WE)(jo:Option (co×Int×Int)):Prop:=match jo,E with|some (t,y,e),some E=>bP (E.d t) y e≠0|_,_=>False
structure IsW (Z B:Nat→Prop)(h:af)(bw:Nat)(E:Option WE)(n:Pic)(w:WD):Prop where
 at_:∃tv jv Bj,h[bw]? =some (.cells #[.int .i64 w.state,tv,jv,.int .i64 w.words] 182 (0,0))∧Own 1 h tv w.tiles.length (w.tiles.map λn=>Value.int .i64 n)∧ig Z Bj h E n jv w.job∧
  (∀c,blk tv c→B c∧¬Bj c∧c≠bw)∧(∀c,Bj c→B c)∧¬Bj bw
 bw0:B bw
 bl:∀c,B c→c<h.size
 bz:∀c,B c→¬Z c∧xB E c∧¬dd E c
 zl:∀c,Z c→c<h.size
 out:gO h E n
 st:(w.state=1∧qS E w.job∧w.tiles≠[])∨((w.state=0∨w.state=2)∧w.job=none)
theorem IsW.other {Z B Q:Nat→Prop}{h h':af}{bw:Nat}{E:Option WE}{n n':Pic}{w:WD}(H:IsW Z B h bw E n w)(f:Fr Q h h')(qz:∀c,Z c→¬Q c)(qb:∀c,B c→¬Q c)(I:gO h' E n')(D:dp n n'):IsW Z B h' bw E n' w:=by
 obtain⟨⟨tv,L,U,r,o,J,a1,a2,a3⟩,A,F,G,bz,b4,W⟩:=H;exact⟨⟨tv,L,U,f.row r (qb _ A),o.fr f λc hc=>qb c (a1 c hc).1,J.other f qz (λc hc=>qb c (a2 c hc)) I D,a1,a2,a3⟩,A,λc hc=>Nat.lt_of_lt_of_le (F c hc) f.1,G,λc hc=>Nat.lt_of_lt_of_le (bz c hc) f.1,I,W⟩
theorem IsW.ext {Z B:Nat→Prop}{h h':af}{bw:Nat}{E:Option WE}{n:Pic}{w:WD}(H:IsW Z B h bw E n w)(e:Ext h h'):IsW Z B h' bw E n w:=
 H.other (Q:=λ_=>False) e.fr (λ_ _ h=>h) (λ_ _ h=>h) (λD A=>⟨(H.out D A).1.ext e,(H.out D A).2⟩) (dp.refl n)
section
variable {Z B:Nat→Prop}{h:af}{bw:Nat}{E:Option WE}{n:Pic}{w:WD}
theorem FL {h:af}:ae prog mc #[] h λr h'=>∃b,r=ptr b∧h'[b]? =some (.cells #[.int .i64 0,.slice none 0 0,.pointer none,.int .i64 0] 182 (0,0))∧Ext h h'∧h.size≤b:=by
 apply Ke;unfold Az;have A:aF #[(.int .i64 0),(.slice none 0 0),(.pointer none),(.int .i64 0)] []=some #[.int .i64 0,.slice none 0 0,.pointer none,.int .i64 0]:=rfl;simp only[go_sem,A,bi];refine aC λb h1 r1 F D=>?_
 exact⟨b,rfl,r1,F,D⟩
theorem IsW.new {h:af}{b:Nat}(r:h[b]? =some (.cells #[.int .i64 0,.slice none 0 0,.pointer none,.int .i64 0] 182 (0,0)))(A:¬Z b)(h1:xB E b)(D:¬dd E b)(zl:∀c,Z c→c<h.size)(I:gO h E n):IsW Z (λc=>c=b) h b E n ⟨0,[],none,0⟩:=
 ⟨⟨_,_,λ_=>False,r,.inl ⟨rfl,rfl,rfl⟩,rfl,λc hc=>hc.elim,λc hc=>hc.elim,id⟩,rfl,λc hc=>by rw[hc];exact aW r,λc hc=>by rw[hc];exact⟨A,h1,D⟩,zl,I,.inr ⟨.inl rfl,rfl⟩⟩
theorem WY (H:IsW Z B h bw E n w):ae prog jc #[ptr bw] h λr h'=>r=.int .i64 w.state∧h'=h:=by
 apply wg;unfold lJ;obtain⟨⟨tv,D,F,r,_⟩,_⟩:=H;have A:aB h ⟨bw,0,none⟩=some (.int .i64 w.state):=ai r;simp only[go_sem,A];exact⟨trivial,trivial⟩
theorem Tj (H:IsW Z B h bw E n w):ae prog ii #[ptr bw] h λr h'=>r=.int .i64 w.words∧h'=h:=by
 apply uu;unfold kj;obtain⟨⟨tv,D,F,r,_⟩,_⟩:=H;have A:aB h ⟨bw,3,none⟩=some (.int .i64 w.words):=ai r;simp only[go_sem,A];exact⟨trivial,trivial⟩
theorem Cq {Q:Nat→Prop}{bq:Nat}{d:QD}(H:IsW Z B h bw E n w)(F:IsQ Q h bq d):ae prog dt #[ptr bw,ptr bq] h λr h'=>r=.bool (decide (w.state=1∨(w.state=0∧dh d≠1)))∧h'=h:=by
 apply sY;unfold jV;have A:=H.st;obtain⟨⟨tv,G,I,r,_⟩,_⟩:=H;have D:aB h ⟨bw,0,none⟩=some (.int .i64 w.state):=ai r;simp only[go_sem,D];refine aj (λg=>?_) (λg=>?_)
 ·refine ae.at (Nn F) ?_;refine⟨?_,rfl⟩
  congr 1
  rw[decide_eq_decide];constructor
  ·exact λhh=>.inr ⟨g,hh⟩
  ·rintro(hh|hh)
   ·omega
   ·exact hh.2
 ·refine aj (λg1=>?_) (λg1=>?_)
  ·exact⟨by rw[decide_eq_true (.inl g1)],trivial⟩
  ·exact⟨by rw[decide_eq_false];omega,trivial⟩
def bZ (E:Option WE)(jo:Option (co×Int×Int)):Option (co×Int×Int):=match jo,E with|some (t,y,e),some E=>if bP (E.d t) y e=0 then none else some (t,y,e)|_,_=>none
theorem Ei (E:Option WE)(jo:Option (co×Int×Int)):(bZ E jo≠none∧qS E (bZ E jo)∧bZ E jo=jo)∨bZ E jo=none:=by
 unfold bZ qS;cases jo with
 |none=>exact .inr rfl
 | some x=>
  obtain⟨t,y,e⟩:=x;cases E with
  |none=>exact .inr rfl
  |some E=>
   dsimp only;by_cases A:bP (E.d t) y e=0
   ·rw[if_pos A];exact .inr rfl
   ·rw[if_neg A];exact .inl ⟨by simp,A,rfl⟩
end
end
section
theorem gO.fr {Q:Nat→Prop}{h h':af}{E:Option WE}{n:Pic}(I:gO h E n)(f:Fr Q h h')(hq:∀c,Q c→c<h.size→xB E c∧¬dd E c):gO h' E n:=λD G=>by
 subst G;have A:=(I D rfl).1;exact⟨A.fr f (λhc=>(hq _ hc A.lt).1 rfl) (λc F hc=>(hq c hc (A.ltv F)).2 F),(I D rfl).2⟩
theorem gO.ext {h h':af}{E:Option WE}{n:Pic}(I:gO h E n)(e:Ext h h'):gO h' E n:=I.fr (Q:=λ_=>False) e.fr λ_ h=>h.elim
theorem gO.new {h:af}{E:Option WE}{n:Pic}(I:gO h E n){c:Nat}(hc:h.size≤c):xB E c∧¬dd E c:=by
 cases E with
 |none=>exact⟨trivial,id⟩
 |some E=>exact⟨λD=>by have:=(I E rfl).1.lt;rw[D]at hc;omega,λA=>by have:=(I E rfl).1.ltv A;omega⟩
def stJ:Option (co×Int×Int)→Int
 |none=>0
 |some _=>1
theorem ig.upd {Z B:Nat→Prop}{h h':af}{bw:Nat}{E:Option WE}{n:Pic}{D:Value}{jo:Option (co×Int×Int)}(H:ig Z B h E n D jo)(u:Upd bw h h')(F:¬Z bw)(L:¬B bw)(h1:xB E bw)(G:¬dd E bw)(I:gO h E n):ig Z B h' E n D jo:=
 H.other u.fr (λc hc A=>F (A▸hc)) (λc hc A=>L (A▸hc)) (I.fr u.fr λc hc _=>by rw[show c=bw from hc];exact⟨h1,G⟩) (dp.refl n)
section
variable {Z B:Nat→Prop}{h:af}{bw:Nat}{E:Option WE}{n:Pic}{w:WD}
theorem Pc {Bj:Nat→Prop}{st W:Int}{tv H:Value}{jo:Option (co×Int×Int)}(r:h[bw]? =some (.cells #[.int .i64 st,tv,H,.int .i64 W] 182 (0,0)))(J:ig Z Bj h E n H jo)(hz:¬Z bw)(hb:¬Bj bw)(F:xB E bw)(L:¬dd E bw)(I:gO h E n):
  ae prog cZ #[ptr bw] h λr h'=>∃A,h'[bw]? =some (.cells #[.int .i64 (stJ (bZ E jo)),tv,A,.int .i64 W] 182 (0,0))∧ig Z Bj h' E n A (bZ E jo)∧Fr (λc=>c=bw) h h':=by
 apply vy;unfold kX;simp only[go_sem];refine bK r (by simp) rfl λh1 r1 U=>?_
 have r1:h1[bw]? =some (.cells #[.int .i64 1,tv,H,.int .i64 W] 182 (0,0)):=r1;have J1:=J.upd U hz hb F L I;have I1:=I.fr U.fr λc hc _=>by rw[show c=bw from hc];exact⟨F,L⟩
 have c2:aB h1 ⟨bw,2,none⟩=some H:=ai r1;simp only[go_sem,Nat.zero_add,c2]
 -- it goes
 have gone:∀{h2:af},Ext h1 h2→bZ E jo=none→stK 1 (.pointer (some ⟨bw,0,none⟩)) (.int .i64 0) h2 λab aa=>stK 1 (.pointer (some ⟨bw,2,none⟩)) (.pointer none) aa λ_ h'=>∃A,h'[bw]? =some (.cells #[.int .i64 (stJ (bZ E jo)),tv,A,.int .i64 W] 182 (0,0))∧ig Z Bj h' E n A (bZ E jo)∧Fr (λc=>c=bw) h h':=by
  intro h2 D hs;refine bK (D.row r1) (by simp) rfl λh3 r3 u3=>?_
  refine bK r3 (by simp) rfl λh4 r4 u4=>?_
  rw[hs];exact⟨_,r4,rfl,((U.fr.ext_r D).trans u3.fr).trans u4.fr⟩
 cases jo with
 |none=>
  have hj:H=.pointer none:=J;subst hj;simp only[go_sem,c2,XN];exact gone (Ext.refl _) rfl
 | some x=>
  obtain⟨t,y,e⟩:=x;obtain⟨G,rfl,ok,hc,bj,rv,rfl,S⟩:=J1;simp only[go_sem,c2,P9];refine ae.to (JE S (IY ok.m ok.s.wf hc)) λh2 D=>?_
  have hp:mZ false 1 0 (yZ (bP (G.d t) y e) (fY (G.d t) y e))=some (.int .i64 (bP (G.d t) y e)):=rfl;simp only[go_sem,hp];refine aj (λhk=>?_) (λhk=>?_)
  ·exact gone D (if_pos hk)
  ·have hs:bZ (some G) (some (t,y,e))=some (t,y,e):=if_neg hk;rw[hs];exact⟨_,D.row r1,⟨G,rfl,ok,hc,bj,rv,rfl,S.ext D⟩,U.fr.ext_r D⟩
def TC (E:Option WE)(jo:Option (co×Int×Int))(k:Int):Int:=match jo,E with|some (t,_,_),some E=>max k ((gj (bu E.s.y.lines):Int)*(dP (t.w*E.m.c):Int))|_,_=>k
def w9 (E:Option WE)(w:WD)(x:Int)(jo:Option (co×Int×Int)):WD:=⟨stJ (bZ E jo),w.tiles++[x],bZ E jo,TC E jo w.words⟩
def Xy (Z:Nat→Prop)(E:Option WE)(n:Pic)(ov:Value)(x:Int)(jo:Option (co×Int×Int))(Qo M:Nat→Prop)(P0 P1:af→Prop)(h:af):Prop:=
 (ov=.nilFunc∧jo=none∧∀g,P0 g→P1 g)∨(ag .f .neq ov .nilFunc=some (.bool true)∧∀h1,Fr M h h1→P0 h1→clK prog ov #[.int .i64 x] h1 λr h2=>∃Bj,(∀c,Bj c→h1.size≤c∧c<h2.size)∧ig Z Bj h2 E n r jo∧Fr Qo h1 h2∧P1 h2)
abbrev QA (k t mk mr:Int):Value:=.agg #[.int .i64 k,.int .i64 t,.int .i64 mk,.int .i64 mr]
theorem UM {v:Value}{args:Array Value}{h:af}{K A:Value→af→Prop}(H:clK prog v args h K)(k:∀r h',K r h'→A r h'):clK prog v args h A:=by
 unfold clK at H ⊢;split at H
 ·exact H.mono k
 ·exact H.elim
theorem yC {E:Option WE}{jo:Option (co×Int×Int)}:(stJ (bZ E jo)=1∧qS E (bZ E jo))∨((stJ (bZ E jo)=0∨stJ (bZ E jo)=2)∧bZ E jo=none):=by
 rcases Ei E jo with⟨h1,A,D⟩|h
 ·left;refine⟨?_,A⟩
  revert h1
  cases bZ E jo with
  |none=>exact λh=>absurd rfl h
  |some x=>exact λ_=>rfl
 ·rw[h];exact .inr ⟨.inl rfl,rfl⟩
theorem Yd {x:Int}{ov:Value}{jo:Option (co×Int×Int)}{Qo:Nat→Prop}{P0 P1:af→Prop}(H:IsW Z B h bw E n w)(hw:w.state=0)(ht:w.tiles.length≤1000000)(HO:Xy Z E n ov x jo Qo B P0 P1 h)
  (qo:∀c,Qo c→c<h.size∧¬B c∧¬Z c∧xB E c∧¬dd E c) (hP:∀g g',Fr (λc=>B c∨h.size≤c) g g'→(P0 g→P0 g')∧(P1 g→P1 g')) (p0:P0 h):
  ae prog jA #[ptr bw,.int .i64 x,ov] h λr h'=>r=QA 1 x 0 0∧IsW Z (nP B h h') h' bw E n (w9 E w x jo)∧Fr (λc=>B c∨Qo c) h h'∧P1 h':=by
 apply xD;unfold mO;have H0:=H;obtain⟨⟨tv,jv,W,r,o,J,a1,a2,a3⟩,w0,bl,bz,zl,I,st⟩:=H;have a7:w.job=none:=by
  rcases st with h|h
  ·omega
  ·exact h.2
 rw[a7]at J;have hj:jv=.pointer none:=J;subst hj;refine aC λb1 h1 r1 e1 n1=>?_
 have c1:aB h1 ⟨bw,1,none⟩=some tv:=ai (e1.row r);simp only[go_sem,Nat.zero_add,c1];refine cz (Rp.fill_one rfl) λb2 h2 r2 e2 n2=>?_
 have E2:=e1.trans e2;refine sI (m:=1) (o.fr (M:=λ_=>False) E2.fr λ_ _=>id) (Rp.SlC.single (cs:=[.int .i64 x]) r2) (ak rfl aQ) rfl (by omega) (by omega) λv3 h3 o3 f3 n3=>?_
 have cb:=aW r;have b3:=E2.1;have b7:=f3.1;have r3:=f3.row (E2.row r) λhc=>(a1 _ hc).2.2 rfl
 have ad:∀c,blk v3 c→(B c∧c≠bw)∨h.size≤c:=λc hc=>(n3 c hc).imp (λh=>⟨(a1 c h).1,(a1 c h).2.2⟩) λh=>by omega
 have F:¬blk v3 bw:=λhc=>(ad _ hc).elim (λh=>h.2 rfl) λh=>by omega
 try simp only[go_sem]
 refine bK r3 (by simp) o3.sl.isSl_one λh4 r4 u4=>?_
 have r4:h4[bw]? =some (.cells #[.int .i64 w.state,v3,.pointer none,.int .i64 w.words] 182 (0,0)):=r4;have o4:=o3.fr u4.fr λc hc U=>F (U▸hc)
 have b0:=u4.1;have F4:Fr B h h4:=(E2.fr.after f3 λc _ hc=>(a1 c hc).1).after u4.fr λc _ hc=>hc▸w0
 have I4:gO h4 E n:=I.fr F4 λc hc _=>(bz c hc).2
 have an:P0 h4:=(hP h h4 (F4.mono λc _ hc=>.inl hc)).1 p0;have ca:=e1.1;have bv:=e2.1;have b5:=aW r1;have au:h.size≤b1:=n1;have e4:h4[b1]? =some (.cells #[.int .i64 0,.int .i64 0,.int .i64 0,.int .i64 0] 148 (0,0)):=u4.row (by omega) (f3.row (e2.row r1) λhc=>by have:=bl _ (a1 _ hc).1;omega)
 -- with a job, or with none
 refine aV (λxs A=>∃jv W,A[bw]? =some (.cells #[.int .i64 w.state,v3,jv,.int .i64 w.words] 182 (0,0))∧ig Z W A E n jv jo∧(∀c,W c→h4.size≤c)∧(∀c,W c→c<A.size)∧Fr (λc=>B c∨Qo c) h A∧h4.size≤A.size∧Own 1 A v3 (w.tiles.length+1) (w.tiles.map (λn=>Value.int .i64 n)++[.int .i64 x])∧P1 A∧A[b1]? =some (.cells #[.int .i64 0,.int .i64 0,.int .i64 0,.int .i64 0] 148 (0,0))) ?_ ?_
 ·rcases HO with⟨rfl,rfl,hp⟩|⟨be,ax⟩
  ·have e0:ag .f .neq Value.nilFunc Value.nilFunc=some (.bool false):=rfl;simp only[go_sem,e0];exact⟨_,λ_=>False,r4,rfl,λc hc=>hc.elim,λc hc=>hc.elim,F4.mono λc _ hc=>.inl hc,Nat.le_refl _,o4,hp _ an,e4⟩
  ·simp only[go_sem,be];refine UM (ax h4 F4 an) λv5 A ⟨W,k1,k2,k3,k4⟩=>?_
   have r5:=k3.row r4 λhc=>(qo _ hc).2.1 w0
   have o5:=o4.fr k3 λc hc hq=>(ad c hc).elim (λh=>(qo c hq).2.1 h.1) λh=>by have:=(qo c hq).1;omega
   have bc:=k3.1
   try simp only[go_sem]
   refine bK r5 (by simp) k2.one λG r6 L=>?_
   have ar:=L.1;have ab:¬W bw:=λhc=>by have:=(k1 _ hc).1;omega
   have I5:gO A E n:=I4.fr k3 λc hc _=>(qo c hc).2.2.2
   refine⟨v5,W,r6,k2.upd L (bz _ w0).1 ab (bz _ w0).2.1 (bz _ w0).2.2 I5,λc hc=>(k1 c hc).1,λc hc=>by rw[ar];exact(k1 c hc).2,?_,by omega,o5.fr L.fr λc hc U=>F (U▸hc),?_⟩
   ·exact((F4.mono λc _ hc=>.inl hc).after k3 λc _ hc=>.inr hc).after L.fr λc _ hc=>.inl (hc▸w0)
   ·exact⟨(hP A G (L.fr.mono λc _ hc=>.inl (hc▸w0))).2 k4,L.row (by omega) (k3.row e4 λhc=>by have:=(qo _ hc).1;omega)⟩
 ·rintro xs ρ A ⟨jv,W,r5,J5,k1,k2,F5,bc,o5,p5,e5⟩;have ab:¬W bw:=λhc=>by have:=k1 _ hc;omega
  have I5:gO A E n:=I.fr F5 λc hc _=>hc.elim (λh=>(bz c h).2) λh=>(qo c h).2.2.2
  have c2:aB A ⟨bw,2,none⟩=some jv:=ai r5;have c3:aB A ⟨bw,3,none⟩=some (.int .i64 w.words):=ai r5
  -- the end: settled, and told
  have fin:∀{G:af},G[bw]? =some (.cells #[.int .i64 w.state,v3,jv,.int .i64 (TC E jo w.words)] 182 (0,0))→ig Z W G E n jv jo→Fr (λc=>B c∨Qo c) h G→A.size≤G.size→gO G E n→P1 G→
    Own 1 G v3 (w.tiles.length+1) (w.tiles.map (λn=>Value.int .i64 n)++[.int .i64 x])→G[b1]? =some (.cells #[.int .i64 0,.int .i64 0,.int .i64 0,.int .i64 0] 148 (0,0))→
    ae prog cZ #[ptr bw] G λcc bk=>vK ((aF #[(.int .i64 0),(.int .i64 0),(.int .i64 0),(.int .i64 0)] [(0,1,(.int .i64 1)),(1,1,.int .i64 x)]).map .agg) λbo=>stK 4 (ptr b1) bo bk λb6 aa=>vK (aH 4 aa (ptr b1)) λaw=>
     aw=QA 1 x 0 0∧IsW Z (nP B h aa) aa bw E n (w9 E w x jo)∧Fr (λc=>B c∨Qo c) h aa∧P1 aa:=by
   intro G r6 J6 F6 ar I6 p6 o6 e6;refine(Pc r6 J6 (bz _ w0).1 ab (bz _ w0).2.1 (bz _ w0).2.2 I6).mono λ_ h7 ⟨bd,r7,J7,f7⟩=>?_
   have hf:∀z:Int,aF #[(.int .i64 0),(.int .i64 0),(.int .i64 0),(.int .i64 0)] [(0,1,.int .i64 1),(1,1,.int .i64 z)]=some #[.int .i64 1,.int .i64 z,.int .i64 0,.int .i64 0]:=λ_=>rfl
   have b8:=f7.1;simp only[go_sem,hf,bi];refine ch (l:=[.int .i64 1,.int .i64 x,.int .i64 0,.int .i64 0]) (f7.row e6 λhc=>by omega) rfl (ak rfl (ak rfl (ak rfl (ak rfl aQ)))) rfl λh8 r8 u8=>?_
   rw[aM (l:=[.int .i64 1,.int .i64 x,.int .i64 0,.int .i64 0]) r8 4 rfl,ah];have b4:=u8.1;have I7:gO h7 E n:=I6.fr f7 λc hc _=>by rw[show c=bw from hc];exact(bz _ w0).2
   have F7:Fr (λc=>B c∨Qo c) h h7:=F6.after f7 λc _ hc=>.inl (hc▸w0)
   have F8:Fr (λc=>B c∨Qo c) h h8:=F7.upd_new u8 au;have al:=I.new au;have bg:¬Z b1:=λhz=>by have:=zl _ hz;omega
   have a8:¬W b1:=λhc=>by have:=k1 _ hc;omega
   have o8:=(o6.fr f7 λc hc U=>F (U▸hc)).fr u8.fr λc hc U=>by
    have U:c=b1:=U;rcases n3 c hc with D|D
    ·have:=bl _ (a1 c D).1;omega
    ·omega
   have ho:gO h8 E n:=I7.fr u8.fr λc hc _=>by rw[show c=b1 from hc];exact al
   refine⟨rfl,⟨⟨v3,bd,W,u8.row (by omega) r7,?_,J7.upd u8 bg a8 al.1 al.2 I7,λc hc=>⟨?_,λhj=>?_,λU=>F (U▸hc)⟩,λc hc=>.inr ⟨?_,?_⟩,ab⟩,.inl w0,Gy bl (by omega),λc hc=>?_,λc hc=>Nat.lt_of_lt_of_le (zl c hc) F8.1,ho,?_⟩,F8,?_⟩
   ·show Own 1 h8 v3 (w.tiles++[x]).length ((w.tiles++[x]).map λn=>Value.int .i64 n);rw[List.length_append,List.map_append];exact o8
   ·rcases ad c hc with D|D
    ·exact .inl D.1
    ·exact .inr ⟨D,o8.lt hc⟩
   ·have:=k1 c hj;rcases n3 c hc with D|D
    ·have:=bl _ (a1 c D).1;omega
    ·have:=o3.lt hc;omega
   ·have:=k1 c hc;omega
   ·have:=k2 c hc;omega
   ·rcases hc with D|D
    ·exact bz c D
    ·exact⟨λhz=>by have:=zl c hz;omega,I.new D.1⟩
   ·rcases yC (E:=E) (jo:=jo)with⟨D,a9⟩|D
    ·exact .inl ⟨D,a9,by simp[w9]⟩
    ·exact .inr D
   ·exact(hP h7 h8 (u8.fr.mono λc _ hc=>.inr (by have hc:c=b1:=hc;omega))).2 ((hP G h7 (f7.mono λc _ hc=>.inl (hc▸w0))).2 p6)
  cases jo with
  |none=>
   have hj:jv=.pointer none:=J5;subst hj;simp only[go_sem,c2,XM];exact fin r5 rfl F5 (Nat.le_refl _) I5 p5 o5 e5
  | some y=>
   obtain⟨t,yy,e⟩:=y;have ay:=J5;obtain⟨E',rfl,ok,hc,bj,rv,rfl,S⟩:=J5;simp only[go_sem,c2,P8];refine aI (λg=>g=A) rfl ?_;refine ao (.int .i64 w.words) (λg e=>by rw[e];exact c3) ?_
   try simp only[go_sem]
   refine ao (ptr bj) (λg e=>by rw[e];exact c2) ?_;refine ae.at (JD S) ⟨rfl,?_⟩;refine ao (.int .i64 (max w.words ((gj (bu E'.s.y.lines):Int)*(dP (t.w*E'.m.c):Int)))) (λ_ _=>IG _ _ _) ?_
   try simp only[go_sem]
   refine bK r5 (by simp) rfl λG r6 L=>?_
   exact fin r6 (ay.upd L (bz _ w0).1 ab (bz _ w0).2.1 (bz _ w0).2.2 I5) (F5.after L.fr λc _ hc=>.inl (hc▸w0)) (by rw[L.1];exact Nat.le_refl _) (I5.fr L.fr λc hc _=>by rw[show c=bw from hc];exact(bz _ w0).2) ((hP A G (L.fr.mono λc _ hc=>.inl (hc▸w0))).2 p5)
    (o5.fr L.fr λc hc U=>F (U▸hc)) (L.row (by omega) e5)
abbrev EvD:=Int×Int×Int×Int
abbrev evV (e:EvD):Value:=QA e.1 e.2.1 e.2.2.1 e.2.2.2
def cn (E:Option WE)(jo:Option (co×Int×Int))(w:WD)(d:QD):WD×QD×EvD:=
 if w.state=1 then
  match w.job,E with
  |some (t,y,e),some E'=>
   let j:=bZ E (some (t,eU (E'.d t) y e,fZ (E'.d t) y e))
   (⟨stJ j,w.tiles,j,w.words⟩,d,(2,w.tiles.getLast?.getD 0,bP (E'.d t) y e,fY (E'.d t) y e))
  |_,_=>(w,d,(0,0,0,0))
 else if w.state=2 then(w,d,(0,0,0,0))
 else if dh d=0 then(w9 E w (bH d) jo,mX d,(1,bH d,0,0))
 else if dh d=2 then({w with state:=2},mX d,(3,0,0,0))
 else(w,mX d,(0,0,0,0))
def rA (w:WD)(d:QD):Prop:=w.state=0∧dh d=0
def zR (E:Option WE)(w:WD)(n n':Pic):Prop:=
 dp n n'∧match w.job,E with
  |some (t,y,e),some E=>Ea (E.d t) n∧Ea (E.d t) n'∧(bP (E.d t) y e≠2→n'=n)∧(bP (E.d t) y e=2→∀x' y' c',inP n x' y' c'→atP n' x' y' c'=if uT (E.d t) y (dP (t.w*E.m.c)) x' y' c' then ut E.m E.s x' y' c' else atP n x' y' c')
  |_,_=>n'=n
theorem zR.same {E:Option WE}{w:WD}{n:Pic}(h:w.job=none):zR E w n n:=⟨dp.refl n,by rw[h]⟩
structure R1 (Z B Q Qo:Nat→Prop)(h h':af)(bw bq:Nat)(E:Option WE)(n:Pic)(w w':WD)(d':QD):Prop where
 ex:∃n' B' Q',IsW Z B' h' bw E n' w'∧IsQ Q' h' bq d'∧(∀c,B' c→B c∨h.size≤c)∧(∀c,Q' c→Q c∨h.size≤c)∧(∀c,B' c→¬Q' c)∧zR E w n n'
 fr:Fr (λc=>dd E c∨B c∨Q c∨Qo c) h h'
theorem RM {Q:Nat→Prop}{bq:Nat}{d:QD}{ov:Value}{jo:Option (co×Int×Int)}{Qo:Nat→Prop}{P0 P1:af→Prop}(H:IsW Z B h bw E n w)(HQ:IsQ Q h bq d)(ht:w.tiles.length≤1000000)
  (HO:rA w d→Xy Z E n ov (bH d) jo Qo (λc=>B c∨Q c) P0 P1 h) (ab:∀c,B c→¬Q c) (qz:∀c,Q c→¬Z c∧xB E c∧¬dd E c) (qo:∀c,Qo c→c<h.size∧¬B c∧¬Q c∧¬Z c∧xB E c∧¬dd E c)
  (hP:∀g g',Fr (λc=>dd E c∨B c∨Q c∨h.size≤c) g g'→(P0 g→P0 g')∧(P1 g→P1 g')) (p0:P0 h):
  ae prog ce #[ptr bw,ptr bq,ov] h λr h'=>r=evV (cn E jo w d).2.2∧R1 Z B Q Qo h h' bw bq E n w (cn E jo w d).1 (cn E jo w d).2.1∧(rA w d→P1 h')∧(¬rA w d→P0 h'):=by
 apply xE;unfold mP;have H0:=H;obtain⟨⟨tv,jv,Bj,r,o,J,a1,a2,a3⟩,w0,bl,bz,zl,I,st⟩:=H;refine aC λb1 h1 r1 e1 n1=>?_
 have cr:=e1.1;have c6:=aW r1;have bk:h.size≤b1:=n1;have c4:=aW r;have r':=e1.row r;have H1:=H0.ext e1;have bc:=HQ.ext e1;have I1:=I.ext e1;have a8:=I.new bk;have ar:∀c,Q c→c<h.size:=HQ.ql;have c0:aB h1 ⟨bw,0,none⟩=some (.int .i64 w.state):=ai r';simp only[go_sem,Nat.zero_add,c0];have L:∀{F:af} {ev:EvD} {w':WD} {d':QD} {n':Pic} {B' Q':Nat→Prop},F[b1]? =some (.cells #[.int .i64 0,.int .i64 0,.int .i64 0,.int .i64 0] 148 (0,0))→Fr (λc=>dd E c∨B c∨Q c∨Qo c) h F→IsW Z B' F bw E n' w'→IsQ Q' F bq d'→(∀c,B' c→(B c∨h.size≤c)∧c≠b1)→(∀c,Q' c→(Q c∨h.size≤c)∧c≠b1)→(∀c,B' c→¬Q' c)→zR E w n n'→
   (rA w d→P1 F)→(¬rA w d→P0 F)→cn E jo w d=(w',d',ev)→
   stK 4 (ptr b1) (evV ev) F λ_ U=>vK (aH 4 U (ptr b1)) λv=>v=evV (cn E jo w d).2.2∧R1 Z B Q Qo h U bw bq E n w (cn E jo w d).1 (cn E jo w d).2.1∧(rA w d→P1 U)∧(¬rA w d→P0 U):=by
  intro F ev w' d' n' B' Q' e2 F2 W2 Q2 k1 k2 k3 D p1 p0 he;refine ch (l:=[.int .i64 ev.1,.int .i64 ev.2.1,.int .i64 ev.2.2.1,.int .i64 ev.2.2.2]) e2 rfl (ak rfl (ak rfl (ak rfl (ak rfl aQ)))) rfl λU r3 u3=>?_
  rw[aM (l:=[.int .i64 ev.1,.int .i64 ev.2.1,.int .i64 ev.2.2.1,.int .i64 ev.2.2.2]) r3 4 rfl,ah,he];have b7:∀c,Z c→¬c=b1:=λc hz he=>by have:=zl _ hz;omega
  have hp:=hP F U (u3.fr.mono λc _ hc=>.inr (.inr (.inr (by have hc:c=b1:=hc;omega))));refine⟨rfl,⟨⟨n',B',Q',W2.other u3.fr b7 (λc hc=>(k1 c hc).2) (W2.out.fr u3.fr λc hc _=>by rw[show c=b1 from hc];exact a8) (dp.refl n'),Q2.fr u3.fr λc hc=>(k2 c hc).2,λc hc=>(k1 c hc).1,λc hc=>(k2 c hc).1,k3,D⟩,F2.upd_new u3 bk⟩,λh=>hp.2 (p1 h),λh=>hp.1 (p0 h)⟩
 have fE:aF #[(.int .i64 0),(.int .i64 0),(.int .i64 0),(.int .i64 0)] []=some #[.int .i64 0,.int .i64 0,.int .i64 0,.int .i64 0]:=rfl;have fL:aF #[(.int .i64 0),(.int .i64 0),(.int .i64 0),(.int .i64 0)] [(0,1,.int .i64 3)]=some #[.int .i64 3,.int .i64 0,.int .i64 0,.int .i64 0]:=rfl;have ad:∀c,B c→(B c∨h.size≤c)∧c≠b1:=λc hc=>⟨.inl hc,λhe=>by have:=bl c hc;omega⟩
 have au:∀c,Q c→(Q c∨h.size≤c)∧c≠b1:=λc hc=>⟨.inl hc,λhe=>by have:=ar c hc;omega⟩
 by_cases s1:w.state=1
 ·-- a job goes on
  have aa:¬rA w d:=λh=>by have:=h.1;omega
  obtain⟨hg,a7⟩:qS E w.job∧w.tiles≠[]:=by
   rcases st with h|h
   ·exact h.2
   ·have:=h.1;omega
  cases al:w.job with
  |none=>rw[al]at hg;exact hg.elim
  | some q=>
   obtain⟨t,y,e⟩:=q;rw[al]at J hg;obtain⟨A,rfl,ok,hc,bj,rv,rfl,S⟩:=J;have hg:bP (A.d t) y e≠0:=hg;have cc:=IY ok.m ok.s.wf hc;have c2:aB h1 ⟨bw,2,none⟩=some (ptr bj):=ai r';simp only[go_sem,decide_eq_true s1,c2];refine(Nh (S.ext e1) cc (ok.s.room ok.m hc)).mono λrm F ⟨er,n',S2,f2,b0,cw⟩=>?_
   subst er;have bo:=f2.1;refine cD (cs:=[.int .i64 (bP (A.d t) y e),.int .i64 (fY (A.d t) y e)]) rfl (ak rfl (ak rfl aQ)) rfl λb3 U r3 e3 n3=>?_
   have S3:=S2.ext e3;have an:=e3.1;have OO:=S3.out;have D:dp n n':=⟨by rw[OO.w,S.out.w],by rw[OO.h,S.out.h],by rw[OO.c,S.out.c],by rw[OO.m,S.out.m]⟩
   have fq:∀c,(blk A.vt c∨Bj c)→dd (some A) c∨B c:=λc hc=>hc.imp id λh=>a2 c h
   have nw:¬(blk A.vt bw∨Bj bw):=λhc=>hc.elim (bz _ w0).2.2 a3
   have b2:=e3.row (f2.row r' nw);have I3:gO U (some A) n':=λE2 hE=>by cases hE;exact⟨S3.img,OO.wf⟩
   have ay:¬nP Bj h1 F bw:=λhc=>hc.elim a3 λh=>by omega
   have J3:ig Z (nP Bj h1 F) U (some A) n' (ptr bj) (some (t,eU (A.d t) y e,fZ (A.d t) y e)):=⟨A,rfl,ok,D.newC hc,bj,rv,rfl,S3⟩
   refine(Pc b2 J3 (bz _ w0).1 ay (bz _ w0).2.1 (bz _ w0).2.2 I3).mono λ_ h4 ⟨b5,r4,J4,f4⟩=>?_
   have c3:=f4.1;have I4:gO h4 (some A) n':=I3.fr f4 λc hc _=>by rw[show c=bw from hc];exact(bz _ w0).2
   have ct:∀c,blk tv c→¬(blk A.vt c∨Bj c):=λc hc h=>h.elim (bz c (a1 c hc).1).2.2 (a1 c hc).2.1
   have o4:=(((o.fr (M:=λ_=>False) e1.fr λ_ _=>id).fr f2 ct).fr (M:=λ_=>False) e3.fr λ_ _=>id).fr f4 λc hc he=>(a1 c hc).2.2 he
   have c7:=aW r3;have cu:¬(blk A.vt b1∨Bj b1):=λhc=>hc.elim a8.2 λh=>by have:=bl _ (a2 _ h);omega
   have e4:=f4.row (e3.row (f2.row r1 cu)) λhc=>by omega
   have ci:=f4.row r3 λhc=>by omega
   have c1:aB h4 ⟨bw,1,none⟩=some tv:=ai r4;obtain⟨a,cp,et⟩:=o4.isSl;have el:aq tv=some (.int .i64 (w.tiles.length:Int)):=by rw[et];rfl
   have c8:0<w.tiles.length:=List.length_pos_iff.2 a7;obtain⟨pp,p1,p2⟩:=(BB (k:=.i64) (l:=w.tiles) o4).int_at (k':=.i64) (i:=w.tiles.length-1) (by omega);have p1:aR 1 tv (.int .i64 ((w.tiles.length:Int)-1))=some pp:=by rw[show(w.tiles.length:Int)-1=((w.tiles.length-1:Nat):Int)by omega];exact p1
   refine aI (λg=>g=h4) rfl ?_
   try simp only[go_sem,Nat.zero_add]
   refine ao tv (λg e=>by rw[e];exact c1) ?_
   try simp only[go_sem]
   refine ao tv (λg e=>by rw[e];exact c1) ?_;refine ao (.int .i64 (w.tiles.length:Int)) (λ_ _=>el) ?_;simp only[go_sem];rw[w64 (n:=(w.tiles.length:Int)-1) (by omega) (by omega),p1,ah];refine ao (.int .i64 (w.tiles.getLast?.getD 0)) (λg e=>by rw[e,p2,List.getLast?_eq_getElem?,List.getElem?_eq_getElem];rfl) ?_;refine ao (yZ (bP (A.d t) y e) (fY (A.d t) y e)) (λg e=>by rw[e];exact aM (l:=[_,_]) ci 2 rfl) ?_;have hf:∀z a b:Int,aF #[(.int .i64 0),(.int .i64 0),(.int .i64 0),(.int .i64 0)] [(0,1,.int .i64 2),(1,1,.int .i64 z),(2,2,yZ a b)]=some #[.int .i64 2,.int .i64 z,.int .i64 a,.int .i64 b]:=λ_ _ _=>rfl
   simp only[go_sem,hf,bi];have F4:Fr (λc=>dd (some A) c∨B c) h h4:=((e1.fr.trans (f2.mono λc _ hc=>fq c hc)).ext_r e3).trans (f4.mono λc _ hc=>.inr (hc▸w0));have hp:=(hP h h4 (F4.mono λc _ hc=>hc.imp id .inl)).1 p0;have nq:∀c,Q c→¬(dd (some A) c∨B c):=λc hc h=>h.elim (qz c hc).2.2 λh=>ab c h hc
   refine L (ev:=(2,w.tiles.getLast?.getD 0,bP (A.d t) y e,fY (A.d t) y e)) (w':=⟨stJ (bZ (some A) (some (t,eU (A.d t) y e,fZ (A.d t) y e))),w.tiles,bZ (some A) (some (t,eU (A.d t) y e,fZ (A.d t) y e)),w.words⟩) (B':=nP B h1 h4) (Q':=Q) e4 (F4.mono λc _ hc=>hc.imp id .inl)
    ⟨⟨tv,b5,nP Bj h1 F,r4,o4,J4,λc hc=>⟨.inl (a1 c hc).1,λG=>?_,(a1 c hc).2.2⟩,λc hc=>hc.imp (a2 c) λh=>⟨h.1,by omega⟩,ay⟩,.inl w0,Gy (λc hc=>Nat.lt_of_lt_of_le (bl c hc) cr) (by omega),λc hc=>?_,λc hc=>Nat.lt_of_lt_of_le (zl c hc) F4.1,I4,?_⟩
    (HQ.fr F4 nq) (λc hc=>⟨?_,λhe=>?_⟩) au (λc hc hq=>?_) ⟨D,?_⟩ (λh=>absurd h aa) (λ_=>hp) ?_
   ·rcases G with G|G
    ·exact(a1 c hc).2.1 G
    ·have:=bl c (a1 c hc).1;omega
   ·rcases hc with G|G
    ·exact bz c G
    ·exact⟨λhz=>by have:=zl c hz;omega,I.new (by omega)⟩
   ·rcases yC (E:=some A) (jo:=some (t,eU (A.d t) y e,fZ (A.d t) y e))with⟨G,b4⟩|G
    ·exact .inl ⟨G,b4,a7⟩
    ·exact .inr G
   ·exact hc.imp id λh=>by omega
   ·rcases hc with G|G
    ·exact(ad c G).2 he
    ·omega
   ·rcases hc with G|G
    ·exact ab c G hq
    ·have:=ar c hq;omega
   ·rw[al];exact⟨S.out,OO,b0,cw⟩
   ·unfold cn;rw[if_pos s1,al]
 ·have W:w.job=none:=by
   rcases st with h|h
   ·exact absurd h.1 s1
   ·exact h.2
  simp only[go_sem,decide_eq_false s1];refine aj (λs2=>?_) (λs2=>?_)
  ·-- it is gone
   simp only[go_sem,fE,bi];have aa:¬rA w d:=λh=>by have:=h.1;omega
   exact L (ev:=(0,0,0,0)) (r1) e1.fr H1 bc ad au ab (zR.same W) (λh=>absurd h aa) (λ_=>(hP h h1 e1.fr).1 p0) (by unfold cn;rw[if_neg s1,if_pos s2])
  ·have s0:w.state=0:=by
    rcases st with h|h
    ·exact absurd h.1 s1
    ·exact h.1.resolve_right s2
   refine(QQ bc).mono λrr F ⟨er,Q2,f2⟩=>?_
   subst er;have bo:=f2.1;have x0:aE (.tuple #[.int .i64 (bH d),.int .i64 (dh d)]) 0=some (.int .i64 (bH d)):=rfl;have x1:aE (.tuple #[.int .i64 (bH d),.int .i64 (dh d)]) 1=some (.int .i64 (dh d)):=rfl;have H2:IsW Z B F bw E n w:=H1.other f2 (λc hz hq=>(qz c hq).1 hz) ab (I1.fr f2 λc hc _=>(qz c hc).2) (dp.refl n);have e2:=f2.row r1 λhc=>by have:=ar _ hc;omega
   have F2:Fr (λc=>dd E c∨B c∨Q c∨h.size≤c) h F:=e1.fr.trans (f2.mono λc _ hc=>.inr (.inr (.inl hc)));have aw:Fr (λc=>dd E c∨B c∨Q c∨Qo c) h F:=e1.fr.trans (f2.mono λc _ hc=>.inr (.inr (.inl hc)));have ax:∀c,nP Q h1 F c→(Q c∨h.size≤c)∧c≠b1:=λc hc=>hc.elim (λh=>au c h) λh=>⟨.inr (by omega),by omega⟩
   have bg:∀c,B c→¬nP Q h1 F c:=λc hc hq=>hq.elim (ab c hc) λh=>by have:=bl c hc;omega
   simp only[go_sem,x0,x1];refine aj (λg0=>?_) (λg0=>?_)
   ·have be:rA w d:=⟨s0,g0⟩
    refine(Yd H2 s0 ht (jo:=jo) (Qo:=Qo) (P0:=P0) (P1:=P1) ?_ ?_ ?_ ((hP h F F2).1 p0)).mono λrr U ⟨er,W3,f3,p3⟩=>?_
    ·rcases HO be with ho|⟨cb,b8⟩
     ·exact .inl ho
     ·refine .inr ⟨cb,λU f3 p3=>b8 U ?_ p3⟩;exact(e1.fr.trans (f2.mono λc _ hc=>.inr hc)).after f3 λc _ hc=>.inl hc
    ·exact λc hc=>by have:=qo c hc;exact⟨by omega,this.2.1,this.2.2.2⟩
    ·exact λg g' f=>hP g g' (f.mono λc _ hc=>hc.elim (λh=>.inr (.inl h)) λh=>.inr (.inr (.inr (by omega))))
    ·subst er;have an:=f3.1;have q3:∀c,nP Q h1 F c→¬(B c∨Qo c):=λc hc hb=>hc.elim (λh=>hb.elim (λhb=>ab c hb h) λhb=>(qo c hb).2.2.1 h) λh=>hb.elim (λhb=>by have:=bl c hb;omega) λhb=>by have:=(qo c hb).1;omega
     refine L (ev:=(1,bH d,0,0)) (f3.row e2 λhc=>hc.elim (λh=>(ad _ h).2 rfl) λh=>by have:=(qo _ h).1;omega) (aw.trans (f3.mono λc _ hc=>hc.elim (λh=>.inr (.inl h)) λh=>.inr (.inr (.inr h)))) W3 (Q2.fr f3 q3)
      (λc hc=>hc.elim (λh=>ad c h) λh=>⟨.inr (by omega),by omega⟩) ax (λc hc hq=>?_) (zR.same W) (λ_=>p3) (λh=>absurd be h) (by unfold cn;rw[if_neg s1,if_neg s2,if_pos g0])
     rcases hc with G|G
     ·exact bg c G hq
     ·rcases hq with h8|h8
      ·have:=ar c h8;omega
      ·omega
   ·have aa:¬rA w d:=λh=>g0 h.2
    refine aj (λg2=>?_) (λg2=>?_)
    ·obtain⟨⟨bd,b6,a9,r2,o2,J2,k1,k2,k3⟩,_,l2,z2,ca,I2,_⟩:=H2;rw[W]at J2;have bv:b6=.pointer none:=J2;subst bv
     try simp only[go_sem]
     refine bK r2 (by simp) rfl λU r3 u3=>?_
     have r3:U[bw]? =some (.cells #[.int .i64 2,bd,.pointer none,.int .i64 w.words] 182 (0,0)):=r3;have an:=u3.1;simp only[go_sem,fL,bi];refine L (ev:=(3,0,0,0)) (w':={w with state:=2}) (B':=B) (u3.row (by omega) e2) (aw.after u3.fr λc _ hc=>.inr (.inl (hc▸w0))) ⟨⟨bd,.pointer none,a9,r3,o2.fr u3.fr λc hc he=>(k1 c hc).2.2 he,?_,k1,k2,k3⟩,w0,λc hc=>by rw[an];exact l2 c hc,bz,λc hc=>by rw[an];exact ca c hc,I2.fr u3.fr λc hc _=>by rw[show c=bw from hc];exact(bz _ w0).2,.inr ⟨.inr rfl,W⟩⟩
      (Q2.fr u3.fr λc hc he=>bg bw w0 (he▸hc)) ad ax bg (zR.same W) (λh=>absurd h aa) (λ_=>(hP F U (u3.fr.mono λc _ hc=>.inr (.inl (hc▸w0)))).1 ((hP h F F2).1 p0)) (by unfold cn;rw[if_neg s1,if_neg s2,if_neg g0,if_pos g2])
     show ig Z a9 U E n (.pointer none) w.job;rw[W];rfl
    ·simp only[go_sem,fE,bi];exact L (ev:=(0,0,0,0)) e2 aw H2 Q2 ad ax bg (zR.same W) (λh=>absurd h aa) (λ_=>(hP h F F2).1 p0) (by unfold cn;rw[if_neg s1,if_neg s2,if_neg g0,if_neg g2])
theorem Vg {h:af}{Z:Nat→Prop}{v:Value}{l:List Int}(H:Rp.Sl (Rp.int .i64) Z h v l)(hl:l.length≤1000000000):
  ae prog gd #[v] h λr h'=>New (Rp.int .i64) h h' r l:=by
 apply sh;unfold ju;obtain⟨ds,⟨A,a,cap,rfl,D⟩,hz,he⟩:=H;rw[Fa,ah];cases a with
 | none=>
  have:l=[]:=by
   rcases D with D|⟨b,o,h0,_⟩
   ·subst D;have W:([]:List Value).length=l.length*1:=A;exact List.eq_nil_of_length_eq_zero (by simpa using W.symm)
   ·cases h0
  subst this;simp only[Option.isNone_none,go_sem];exact New.nil (Ext.refl _)
 |some a=>
  simp only[Option.isNone_some,go_sem];refine cz (c':=#[]) rfl λb h1 r1 L n1=>?_
  have O:Rp.Ow (Rp.int .i64) (λ_=>False) h1 (.slice (some ⟨b,0,none⟩) 0 0) []:=⟨[],.inr ⟨b,0,[],_,rfl,Nat.le_refl _,rfl,rfl,r1⟩,λb hb G=>G,λi hi=>absurd hi (by simp)⟩
  have S1:SlC 1 h1 (.slice (some a) l.length cap) l.length ds:=SlC.ext ⟨A,some a,cap,rfl,D⟩ L;refine Rp.app_ow (e:=(Rp.int .i64)) (l:=[]) (l2:=l) O S1 (λi hi=>he i hi) rfl (by simp;omega) (by simp;omega) (λb hb=>hb.elim) λv2 W U f2 n2=>?_
  rw[List.nil_append]at U;have nb:∀k,blk (.slice (some ⟨b,0,none⟩) 0 0) k→h.size≤k:=λk F=>by have:k=b:=F;omega
  refine⟨U,L.then_fr f2 nb,λk F=>?_⟩;rcases n2 k F with I|I
  ·exact nb k I
  ·exact Nat.le_trans L.1 I
theorem WW (H:IsW Z B h bw E n w)(D:w.tiles.length≤1000000):ae prog ja #[ptr bw] h λr h'=>New (Rp.int .i64) h h' r w.tiles:=by
 apply we;unfold lI;obtain⟨⟨tv,F,G,r,o,J,a1,a2,a3⟩,w0,bl,bz,zl,I,st⟩:=H;have A:aB h ⟨bw,1,none⟩=some tv:=ai r;simp only[go_sem,A];exact Vg (BB (k:=.i64) (l:=w.tiles) o) (by omega)
end
end
section
theorem ev_ne (a b:EvD):ag (.st [(0,1,.i),(1,1,.i),(2,2,(.st [(0,1,.i),(1,1,.i)]))]) .neq (evV a) (evV b)=some (.bool (decide (a≠b))):=by
 obtain⟨a1,a2,a3,a4⟩:=a;obtain⟨A,F,G,D⟩:=b;have H:(a1==A)=decide (a1=A):=rfl;have I:(a2==F)=decide (a2=F):=rfl;have e3:(a3==G)=decide (a3=G):=rfl;have W:(a4==D)=decide (a4=D):=rfl;simp only[ag,eqV,Df,G0,G6,mZ,cond_false,cond_true,List.getElem?_toArray,List.getElem?_cons_zero,List.getElem?_cons_succ,if_true,H,I,Prod.mk.injEq,ne_eq];by_cases h1:a1=A<;>by_cases U:a2=F<;>by_cases L:a3=G<;>by_cases h4:a4=D<;>simp[h1,U,L,h4,e3,W]
theorem Xs (a b:EvD):ag (.st [(0,1,.i),(1,1,.i),(2,2,(.st [(0,1,.i),(1,1,.i)]))]) .eql (evV a) (evV b)=some (.bool (decide (a=b))):=by
 obtain⟨a1,a2,a3,a4⟩:=a;obtain⟨A,F,G,D⟩:=b;have H:(a1==A)=decide (a1=A):=rfl;have I:(a2==F)=decide (a2=F):=rfl;have e3:(a3==G)=decide (a3=G):=rfl;have W:(a4==D)=decide (a4=D):=rfl;simp only[ag,eqV,Df,G0,G6,mZ,cond_false,cond_true,List.getElem?_toArray,List.getElem?_cons_zero,List.getElem?_cons_succ,if_true,H,I,Prod.mk.injEq,ne_eq];by_cases h1:a1=A<;>by_cases U:a2=F<;>by_cases L:a3=G<;>by_cases h4:a4=D<;>simp[h1,U,L,h4,e3,W]
abbrev T9:Pic:=⟨0,0,0,0,[]⟩
abbrev noZ:Nat→Prop:=λ_=>False
theorem zR.none {w:WD}{n n':Pic}(D:zR none w n n'):n'=n:=by
 have:=D.2;cases h:w.job<;>simp only[h]at this<;>exact this
def StepN (B Q:Nat→Prop)(M:Nat→Prop)(h h':af)(bw bq:Nat)(w:WD)(d:QD):Prop:=
 ∃B' Q',IsW noZ B' h' bw none T9 w∧IsQ Q' h' bq d∧(∀c,B' c→B c∨h.size≤c)∧(∀c,Q' c→Q c∨h.size≤c)∧(∀c,B' c→¬Q' c)∧Fr (λc=>B c∨Q c∨M c) h h'
section
variable {B Q:Nat→Prop}{h:af}{bw bq:Nat}{w:WD}{d:QD}
theorem ES (H:IsW noZ B h bw none T9 w)(I:IsQ Q h bq d)(G:w.tiles.length≤1000000)(A:∀c,B c→¬Q c):
  ae prog ce #[ptr bw,ptr bq,.nilFunc] h λr h'=>r=evV (cn none none w d).2.2∧StepN B Q noZ h h' bw bq (cn none none w d).1 (cn none none w d).2.1:=
 (RM (Z:=noZ) (ov:=.nilFunc) (jo:=none) (Qo:=noZ) (P0:=λ_=>True) (P1:=λ_=>True) H I G (λ_=>.inl ⟨rfl,rfl,λ_ h=>h⟩) A (λ_ _=>⟨id,trivial,id⟩) (λ_ h=>h.elim) (λ_ _ _=>⟨id,id⟩) trivial).mono
  λr h' ⟨e,⟨⟨n',B',Q',W,q,F,U,L,D⟩,f⟩,_⟩=>by
   have:=D.none;subst this;exact⟨e,B',Q',W,q,F,U,L,f.mono λc _ hc=>hc.elim (λh=>h.elim) id⟩
end
theorem QS {h:af}(G:dr h):ae prog uI #[] h λr h'=>r=.bool true∧Ext h h':=by
 apply If;unfold yi;refine FL.mono λr h1 ⟨bw,A,r1,U,n1⟩=>?_
 subst A;refine UZ.mono λr h2 ⟨bq,A,Q2,e2,n2⟩=>?_
 subst A;have E2:=U.trans e2;refine ae.to (QT (G.ext E2)) λh3 I=>?_
 have L:=E2.trans I;have lw:=aW r1;have W3:IsW noZ (λc=>c=bw) h3 bw none T9 ⟨0,[],none,0⟩:=IsW.new ((e2.trans I).row r1) id trivial id (λ_ h=>h.elim) λ_ h=>by cases h
 have Q3:=Q2.ext I;simp only[go_sem,P9];refine(ES W3 Q3 (by simp) λc hc hq=>by have hq:c=bq:=hq;have hc:c=bw:=hc;omega).mono λr h4 ⟨A,B4,q4,H,W,k1,k2,k3,f4⟩=>?_
 subst A;have s1:cn none none ⟨0,[],none,0⟩ ⟨min (max 1 1) 4096,[],false⟩=(⟨0,[],none,0⟩,⟨1,[],false⟩,(0,0,0,0)):=rfl;rw[s1]at H W ⊢;have E4:Ext h h4:=L.then_fr f4 λc hc=>by
  rcases hc with hc|hc|hc
  ·rw[show c=bw from hc];exact n1
  ·rw[show c=bq from hc];exact Nat.le_trans U.1 n2
  ·exact hc.elim
 have F:∀c,B4 c→h.size≤c:=λc hc=>(k1 c hc).elim (λh=>by rw[h];exact n1) λh=>Nat.le_trans L.1 h
 have D:∀c,q4 c→h.size≤c:=λc hc=>(k2 c hc).elim (λh=>by rw[h];exact Nat.le_trans U.1 n2) λh=>Nat.le_trans L.1 h
 have f0:aF #[(.int .i64 0),(.int .i64 0),(.int .i64 0),(.int .i64 0)] []=some #[.int .i64 0,.int .i64 0,.int .i64 0,.int .i64 0]:=rfl;have f3:aF #[(.int .i64 0),(.int .i64 0),(.int .i64 0),(.int .i64 0)] [(0,1,.int .i64 3)]=some #[.int .i64 3,.int .i64 0,.int .i64 0,.int .i64 0]:=rfl;have n0:=ev_ne (0,0,0,0) (0,0,0,0);have q0:=Xs (0,0,0,0) (0,0,0,0);have q3:=Xs (3,0,0,0) (3,0,0,0);simp only[go_sem,f0,bi,n0,ne_eq,not_true,decide_false];refine ae.at (Cq H W) ?_;have d1:decide ((0:Int)=1∨((0:Int)=0∧dh ⟨1,[],false⟩≠1))=false:=rfl;rw[d1];simp only[go_sem];refine(Pl W).mono λ_ h5 ⟨_,Q5,f5⟩=>?_
 have W5:=H.other f5 (λc h=>h.elim) k3 (λ_ h=>by cases h) (dp.refl _);have E5:=E4.then_fr f5 D;refine ae.at (Cq W5 Q5) ?_;have d2:decide ((0:Int)=1∨((0:Int)=0∧dh ⟨1,[],true⟩≠1))=true:=rfl;rw[d2];simp only[go_sem];refine(ES W5 Q5 (by simp) k3).mono λr h6 ⟨A,B6,q6,W6,Q6,l1,l2,l3,f6⟩=>?_
 subst A;have s2:cn none none ⟨0,[],none,0⟩ ⟨1,[],true⟩=(⟨2,[],none,0⟩,⟨1,[],true⟩,(3,0,0,0)):=rfl;rw[s2]at W6 Q6 ⊢;have E6:Ext h h6:=E5.then_fr f6 λc hc=>hc.elim (F c) λhc=>hc.elim (D c) λhc=>hc.elim
 simp only[go_sem,f3,bi,q3,decide_true];refine(ES W6 Q6 (by simp) l3).mono λr h7 ⟨A,B7,q7,W7,Q7,m1,m2,m3,f7⟩=>?_
 subst A;have s3:cn none none ⟨2,[],none,0⟩ ⟨1,[],true⟩=(⟨2,[],none,0⟩,⟨1,[],true⟩,(0,0,0,0)):=rfl;rw[s3]at W7 Q7 ⊢;have E7:Ext h h7:=E6.then_fr f7 λc hc=>by
  have hs:=E5.1;rcases hc with hc|hc|hc
  ·exact(l1 c hc).elim (F c) λh=>by omega
  ·exact(l2 c hc).elim (D c) λh=>by omega
  ·exact hc.elim
 simp only[go_sem,f0,bi,q0,decide_true];refine ae.at (WY W7) ?_;simp only[go_sem];exact⟨trivial,E7⟩
end
end Go.Proofs.YtjljhnandbbldaaGreatDoor
namespace Go.Proofs.YtjljhnandbbldaaGreatDoor
open Go Go.Crisp
attribute [local irreducible] ae cE aP stK aA vK qK bC gK dK aU mkK cF Ch DH zZ bsK clK qQ lW Rw
structure Yz (h0:af)(T:TypeId)(N:Pic)(im:Option (Nat×Value))(va:Option (Nat×Bool))(g:af):Prop where
 ext:Ext h0 g
 mi:∀p,im=some p→cA g p.1 p.2 N∧h0.size≤p.1∧∀c,blk p.2 c→h0.size≤c
 av:∀q,va=some q→h0.size≤q.1∧g[q.1]? =some (.cells #[if q.2 then(match im with|some p=>ptr p.1|none=>.pointer none)else .pointer none] T (0,0))
 dis:∀p q,im=some p→va=some q→p.1≠q.1∧¬blk p.2 q.1
theorem Yz.st {h0 g:af}{T:TypeId}{N:Pic}{b bt:Nat}{vt:Value}{K:Value→af→Prop}(M:Yz h0 T N (some (bt,vt)) (some (b,false)) g)(H:∀A,Yz h0 T N (some (bt,vt)) (some (b,true)) A→K undef A):stK 1 (ptr b) (ptr bt) g K:=by
 obtain⟨a1,a2⟩:=M.av _ rfl;obtain⟨d1,d2⟩:=M.dis _ _ rfl rfl;refine bK a2 (by simp) rfl λA r u=>H A ⟨M.ext.upd a1 u,λp D=>?_,λq hq=>?_,λp q D hq=>?_⟩
 ·cases D;obtain⟨I,F⟩:=M.mi _ rfl;exact⟨I.fr u.fr d1 λc G L=>d2 (L▸G),F⟩
 ·cases hq;exact⟨a1,r⟩
 ·cases D;cases hq;exact⟨d1,d2⟩
theorem VB {Z:Nat→Prop}{h:af}{sv:Value}{s:Stg}(H:Rp.Sl Bg Z h sv [s]):∃p q b o,aR 3 sv (.int .i64 0)=some (.pointer (some ⟨b,o,none⟩))∧aB h ⟨b,o,none⟩=some p∧aB h ⟨b,o+1,none⟩=some q∧SlC 3 h sv 1 [p,q,.int .i64 s.border]∧(∀c,blk sv c→Z c)∧dY Z h p s.x∧dY Z h q s.y:=by
 obtain⟨ds,⟨D,a,cap,rfl,A⟩,I,L⟩:=H;have D:ds.length=3:=D;have F:Bg.R Z h (Rp.el 3 ds 0) s:=L 0 (by simp);rw[Rp.el_self D]at F;obtain⟨p,q,rfl,G,hq⟩:=F;rcases A with h0|⟨b,o,rfl,A⟩
 ·cases h0
 ·exact⟨p,q,b,o,rfl,A 0 (by simp),A 1 (by simp),⟨rfl,_,cap,rfl,.inr ⟨b,o,rfl,A⟩⟩,λc hc=>I (by simp) c hc,G,hq⟩
abbrev Mo (a:pQ)(o:OpD)(tw th:Int):cG:=⟨bgS a o,1+tw%13,1+th%13⟩
section
theorem iu {d:cG}(W:d.Wf){i:Int}(h0:0≤i)(h1:i<bO d):dG d.s (aG d i).x (aG d i).y (aG d i).w (aG d i).h:=by
 have D:=GJ W h0 h1;have A:=W.w;have hh:=W.h;unfold dQ at A hh;unfold cG.X cG.Y at D;show 1≤qJ d i∧1≤sX d i∧0≤gY d i∧0≤iR d i∧gY d i<_∧iR d i<_∧qJ d i≤d.s.x.lines.length-gY d i∧sX d i≤d.s.y.lines.length-iR d i;unfold qJ sX cG.X cG.Y;omega
def Lw (d:cG)(i:Int):co×Int×Int:=(aG d i,(aG d i).y,lnF d.s.y (aG d i).y)
structure C21 where
 bm:Nat
 bn:Nat
 bs:Nat
 bp:Nat
 bf:Nat
 vf:Value
 bt:Nat
 vt:Value
 p:Value
 q:Value
 rv:Value
 bl:Nat
 pp:Value
 pq:Value
 m:Pic
 d:cG
 bw:Nat
 bq:Nat
abbrev C21.E (C:C21):WE:=⟨C.bf,C.vf,C.bt,C.vt,C.p,C.q,C.m,C.d.s⟩
structure C21.Ok (C:C21):Prop where
 m:C.m.Wf
 d:C.d.Wf
 s:zy C.d.s
abbrev C21.jo (C:C21)(i:Int):Option (co×Int×Int):=some (Lw C.d i)
abbrev C21.suits (C:C21)(n:Pic):Prop:=n.Wf∧jJ C.m n C.d.s
theorem C21.newC {C:C21}(O:C.Ok){n:Pic}(S:C.suits n){i:Int}(h0:0≤i)(h1:i<bO C.d):lE C.m n C.d.s (aG C.d i)=0:=nA.2 ⟨S.2,iu O.d h0 h1⟩
section
variable {C:C21}{Z:Nat→Prop}{g:af}{n:Pic}{x:Int}
theorem Rb.has {h':af}{r:Value}(O:C.Ok)(S:C.suits n)(h0:0≤x)(h1:x<bO C.d)(H:Rb Z g C.bf C.vf C.bt C.vt C.p C.q C.m n C.d.s (aG C.d x) r h'):
  ∃bj rv,r=.tuple #[ptr bj,.int .i64 0]∧Ext g h'∧ig Z (nP (λ_=>False) g h') h' (some C.E) n (ptr bj) (C.jo x)∧jm Z (nP (λ_=>False) g h') h' bj C.bf C.vf C.bt C.vt C.p C.q rv ⟨C.m,C.d.s,aG C.d x⟩ (aG C.d x).y (lnF C.d.s.y (aG C.d x).y) n (gj (bu C.d.s.y.lines)) (dP ((aG C.d x).w*C.m.c)):=by
 have hc:=C21.newC O S h0 h1;obtain⟨bj,rv,A,e,J⟩:=H.go hc;exact⟨bj,rv,A,e,⟨C.E,rfl,⟨O.m,O.s⟩,hc,bj,rv,rfl,J⟩,J⟩
end
end
def muJ (E:WE):Option (co×Int×Int)→Nat
 |none=>0
 |some (t,y,e)=>pH (E.d t) y e
def nC (C:C21)(i:Int):Nat:=pH (C.E.d (aG C.d i)) (aG C.d i).y (lnF C.d.s.y (aG C.d i).y)
theorem Lk {E:WE}{t:co}{y e:Int}:muJ E (bZ (some E) (some (t,y,e)))=pH (E.d t) y e:=by
 show muJ E (if bP (E.d t) y e=0 then none else some (t,y,e))=_;split
 ·rename_i h;rw[Ug.2 h];rfl
 ·rfl
theorem Ns {o:OpD}(h:¬kw 12 o):(b9 o).length≤41:=by
 unfold kw at h;have hu:∀l:List Int,(oN l).length≤l.length:=λl=>by unfold oN;split<;>simp
 unfold b9;split
 ·unfold lX;split
  ·simp
  ·rename_i A;unfold kp at A;rw[List.length_map,List.length_range];unfold fu;omega
 split
 ·unfold vG;split
  ·simp
  ·rename_i A;unfold qV at A;have:=hu (List.replicate (2*o.radius+1).toNat 1);rw[List.length_replicate]at this;omega
 ·have:=hu o.y;omega
theorem Ll {o:OpD}{w h:Int}(hc:dD o w h=0)(G:¬kw 12 o)(H:h≤12):bu (bM o w h).y.lines≤80:=by
 have A:gh o w h=0:=by
  unfold dD at hc;split at hc
  ·cases hc
  ·exact hc
 show bu (dI o h).lines≤_;unfold gh at A;unfold dI;split
 ·rename_i D;rw[if_pos D]at A;by_cases h1:cP o.filter w o.w=0
  ·rw[if_neg (by simpa using h1)]at A;have:=Dl A;omega
  ·rw[if_pos h1]at A;exact absurd A h1
 ·rename_i D;rw[if_neg D]at A;have I:=Ns G;have F:gn (b9 o) h=0:=by
   split at A
   ·exact absurd A (by assumption)
   ·split at A
    ·exact absurd A (by assumption)
    ·exact A
  have:=DX _ _ F;omega
theorem Ls {d:ef}{M:Nat}(A:bu d.s.y.lines≤M):∀(k:Nat) (y e:Int),lnF d.s.y y≤e→ko d k y e≤k*(M+1)
 |0,_,_,_=>by unfold ko;omega
 |k+1,y,e,he=>by
  have h1:=Ls A k (y+1) (max (lnE d.s.y y) (lnF d.s.y (y+1))) (by omega);have D:=EJ d.s.y y;rw[Nat.add_mul,Nat.one_mul];unfold ko;unfold lnE lnF at*;omega
def gP (C:C21):Nat→Nat→Nat
 |0,_=>0
 |j+1,i=>nC C i+gP C j (i+1)
theorem NE {C:C21}{H M:Nat}(A:bu C.d.s.y.lines≤M)(hh:∀i:Nat,(aG C.d i).h≤H):∀j i,gP C j i≤j*(H*(M+1))
 |0,_=>by simp[gP]
 | j+1,i=>by
  have h1:=NE A hh j (i+1);have D:nC C i≤H*(M+1):=by
   unfold nC pH;refine Nat.le_trans (Ls (d:=C.E.d (aG C.d i)) A _ _ _ (Int.le_refl _)) (Nat.mul_le_mul_right _ ?_);have:=hh i;show((aG C.d i).y+(aG C.d i).h-(aG C.d i).y).toNat≤H;omega
  unfold gP;rw[Nat.add_mul,Nat.one_mul];omega
theorem Li {n size:Int}(G:1≤n∧n≤12)(F:1≤size∧size≤13):1≤cX n size∧cX n size≤12∧cX n size*min size n≤24:=by
 unfold cX;have h1:=Int.mul_ediv_add_emod (n+size-1) size;have I:=Int.emod_nonneg (n+size-1) (show size≠0 by omega);have H:=Int.emod_lt_of_pos (n+size-1) (show 0<size by omega);generalize(n+size-1)/size=k at*;generalize(n+size-1)%size=r at*;rcases Int.lt_or_le n size with h|h
 ·have:k=1:=by
   have a1:k<2:=by
    refine Int.lt_of_not_ge λA=>?_
    have:size*2≤size*k:=Int.mul_le_mul_of_nonneg_left A (by omega);omega
   have a2:0<k:=by
    refine Int.lt_of_not_ge λA=>?_
    have:size*k≤size*0:=Int.mul_le_mul_of_nonneg_left A (by omega);omega
   omega
  subst this;omega
 ·have D:k*min size n=size*k:=by rw[show min size n=size by omega,Int.mul_comm]
  rw[D];have a2:0<k:=by
   refine Int.lt_of_not_ge λA=>?_
   have:size*k≤size*0:=Int.mul_le_mul_of_nonneg_left A (by omega);omega
  have a3:1*k≤size*k:=Int.mul_le_mul_of_nonneg_right F.1 (by omega);refine⟨by omega,?_,by omega⟩;refine Int.le_of_not_gt λA=>?_
  have:size*13≤size*k:=Int.mul_le_mul_of_nonneg_left (by omega) (by omega);omega
theorem Yw {a:pQ}{o:OpD}(B:Gu a o){tw th:Int}(hw:0≤tw)(hh:0≤th){C:C21}(U:C.d=Mo a o tw th):∃N:Nat,(N:Int)=bO C.d∧1≤N∧N≤144∧gP C N 0≤23328:=by
 have aa:=B.sx;have al:=B.sy;have ab:0≤tw%13∧tw%13<13:=⟨Int.emod_nonneg _ (by omega),Int.emod_lt_of_pos _ (by omega)⟩
 have ad:0≤th%13∧th%13<13:=⟨Int.emod_nonneg _ (by omega),Int.emod_lt_of_pos _ (by omega)⟩
 have px:=Li (n:=(bgS a o).x.lines.length) (size:=1+tw%13) (by omega) (by omega);have L:=Li (n:=(bgS a o).y.lines.length) (size:=1+th%13) (by omega) (by omega);have hc:bO C.d=cX (bgS a o).x.lines.length (1+tw%13)*cX (bgS a o).y.lines.length (1+th%13):=by rw[U];rfl
 have hm:bu C.d.s.y.lines≤((80:Nat):Int):=by
  rw[U];exact Ll B.made B.little (by have:=ud a;omega)
 obtain⟨H,I⟩:∃H:Nat,(H:Int)=min (1+th%13) (bgS a o).y.lines.length:=⟨(min (1+th%13) (bgS a o).y.lines.length).toNat,by omega⟩
 have hH:∀i:Nat,(aG C.d i).h≤H:=by
  intro i;rw[I,U];show min (1+th%13) ((bgS a o).y.lines.length-iR _ _)≤_;have:0≤iR (Mo a o tw th) i:=by
   unfold iR;refine Int.mul_nonneg (Int.ediv_nonneg (by omega) ?_) (by show 0≤1+th%13;omega);show 0≤cX (bgS a o).x.lines.length (1+tw%13);omega
  omega
 have W:=NE (C:=C) hm hH;rw[hc]
 revert W px L I
 generalize cX (bgS a o).x.lines.length (1+tw%13)=A;generalize cX (bgS a o).y.lines.length (1+th%13)=D;intro px L I W;obtain⟨G,rfl⟩:∃G:Nat,(G:Int)=A:=⟨A.toNat,by omega⟩
 obtain⟨F,rfl⟩:∃F:Nat,(F:Int)=D:=⟨D.toNat,by omega⟩
 have e1:G*F≤12*12:=Nat.mul_le_mul (by omega) (by omega);have e2:1*1≤G*F:=Nat.mul_le_mul (by omega) (by omega);have e3:F*H≤24:=by
  have:((F*H:Nat):Int)≤24:=by rw[Int.natCast_mul,I];exact L.2.2
  omega
 refine⟨G*F,by rw[Int.natCast_mul],by omega,e1,Nat.le_trans (W _ _) ?_⟩;have e4:G*F*(H*81)=G*(F*H)*81:=by rw[Nat.mul_assoc,←Nat.mul_assoc F H 81,←Nat.mul_assoc]
 have e5:G*(F*H)≤12*24:=Nat.mul_le_mul (by omega) e3;show G*F*(H*81)≤_;omega
def pf (d:cG)(c:Int):Int:=bu d.s.y.lines*min d.w d.X*max 0 c
theorem TB {C:C21}(O:C.Ok)(h1:1≤bu C.d.s.y.lines){i:Int}(h0:0≤i)(hi:i<bO C.d):1≤(gj (bu C.d.s.y.lines):Int)*(dP ((aG C.d i).w*C.m.c):Int)∧(gj (bu C.d.s.y.lines):Int)*(dP ((aG C.d i).w*C.m.c):Int)≤pf C.d C.m.c:=by
 have I:=cL O.m.fits;have D:=iu O.d h0 hi;have W:=O.s.most;have H:=O.s.side;unfold dG at D;have G:(gj (bu C.d.s.y.lines):Int)=bu C.d.s.y.lines:=by unfold gj;omega
 have L:1*1≤(aG C.d i).w*C.m.c:=Int.mul_le_mul (by omega) (by omega) (by omega) (by omega);have U:(aG C.d i).w*C.m.c≤300*3:=Int.mul_le_mul (by omega) (by omega) (by omega) (by omega);have F:(dP ((aG C.d i).w*C.m.c):Int)=(aG C.d i).w*C.m.c:=by unfold dP;omega
 rw[G,F];have A:(aG C.d i).w≤min C.d.w C.d.X:=by
  show min C.d.w (C.d.X-gY C.d i)≤_;have:0≤gY C.d i:=D.2.2.1;omega
 refine⟨?_,?_⟩
 ·have:1*1≤bu C.d.s.y.lines*((aG C.d i).w*C.m.c):=Int.mul_le_mul h1 (by omega) (by omega) (by omega);omega
 ·unfold pf;rw[show max 0 C.m.c=C.m.c by omega,←Int.mul_assoc];refine Int.mul_le_mul_of_nonneg_right ?_ (by omega);exact Int.mul_le_mul_of_nonneg_left A (by omega)
end Go.Proofs.YtjljhnandbbldaaGreatDoor
namespace Go.Proofs.YtjljhnandbbldaaGreatDoor
open Go Go.Crisp
attribute [local irreducible] ae cE aP stK aA vK qK bC gK dK aU mkK cF Ch DH zZ bsK clK qQ lW Rw
open _root_.Go.Proofs.Tryz
def TR:Rp co where
 w:=10
 R:=λ_ _ cs t=>cs=cS t
 len:=by rintro _ _ _ _ rfl;rfl
 one:=by rintro _ _ _ _ rfl;exact iV _
 fr:=by rintro _ _ _ _ _ _ rfl _ _;rfl
 mono:=by rintro _ _ _ _ _ rfl _;rfl
def cR (d:cG)(N:Nat):List co:=(List.range N).map λi:Nat=>aG d i
theorem Ta {Z:Nat→Prop}{h:af}{b:Nat}{d:cG}{p q:Value}(H:p8 Z h b d p q)(W:d.Wf){N:Nat}(hN:(N:Int)=bO d)(aa:N≤4096):ae prog qh #[ptr b] h λr h'=>New TR h h' r (cR d N):=by
 apply EB;unfold vk;refine ae.at (Ag H W) ?_;rw[←hN];refine bA (α:=Value) N 0 (λi v=>[v,.int .i64 (i:Int)]) (λi v g=>New TR h g v (cR d i)) (.slice none 0 0) rfl (Nat.zero_le _) (New.nil (Ext.refl _)) λi v g again ρ _ hi F D=>?_
 simp only[gb,uA];rw[bU,ah];refine aj (λg1=>?_) (λg1=>?_)
 ·have G:i<N:=by omega
  refine ae.to (sD (H.ext F.2.1) W (i:=i) (by omega) (by omega)) λg2 e2=>?_
  have x0:aE (.tuple #[.agg (cS (aG d i)).toArray,.bool true]) 0=some (.agg (cS (aG d i)).toArray):=rfl;have x1:aE (.tuple #[.agg (cS (aG d i)).toArray,.bool true]) 1=some (.bool true):=rfl;simp only[go_sem,x0,x1];refine cD (cs:=cS (aG d i)) rfl (iV _) rfl λb3 g3 r3 e3 n3=>?_
  rw[aM r3 10 rfl,ah];have A:=F.ext (e2.trans e3);have L:(cR d i).length=i:=by simp[cR]
  refine Rp.push_ow (e:=TR) (x:=aG d i) A.1 rfl rfl rfl (by rw[L];omega) (by rw[L];omega) (λ_ h=>h.elim) λv4 g4 U f4 n4=>?_
  have I:(i:Int)+1=((i+1:Nat):Int):=by omega
  try simp only[go_sem]
  rw[w64 (n:=(i:Int)+1) (by omega) (by omega),I];have e1:cR d (i+1)=cR d i++[aG d i]:=by simp[cR,List.range_succ]
  have ab:=A.2.1.1;refine D v4 g4 G ⟨by rw[e1];exact U,A.2.1.then_fr f4 A.2.2,λc hc=>(n4 c hc).elim (A.2.2 c) λh=>by omega⟩
 ·have:i=N:=by omega
  subst this;exact F
def I9 (t:co)(x y:Int):Prop:=t.x≤x∧x<t.x+t.w∧t.y≤y∧y<t.y+t.h
theorem PM {d:cG}(W:d.Wf){x y:Int}(x0:0≤x)(L:x<d.X)(y0:0≤y)(y1:y<d.Y):∃i:Nat,(i:Int)<bO d∧I9 (aG d i) x y:=by
 have H:=W.w;have hh:=W.h;unfold dQ at H hh;have a1:=Int.mul_ediv_add_emod x d.w;have a2:=Int.emod_nonneg x (show d.w≠0 by omega);have a3:=Int.emod_lt_of_pos x (show 0<d.w by omega);have I:=Int.mul_ediv_add_emod y d.h;have U:=Int.emod_nonneg y (show d.h≠0 by omega);have b3:=Int.emod_lt_of_pos y (show 0<d.h by omega);have D:0≤x/d.w:=Int.ediv_nonneg x0 (by omega);have G:0≤y/d.h:=Int.ediv_nonneg y0 (by omega);have F:x/d.w<cU d:=by
  unfold cU cX;apply Int.lt_of_add_one_le;rw[Int.le_ediv_iff_mul_le (by omega),Int.add_mul,Int.one_mul,Int.mul_comm];omega
 have r1:y/d.h<cX d.Y d.h:=by
  unfold cX;apply Int.lt_of_add_one_le;rw[Int.le_ediv_iff_mul_le (by omega),Int.add_mul,Int.one_mul,Int.mul_comm];omega
 have hc:(y/d.h+1)*cU d≤cX d.Y d.h*cU d:=Int.mul_le_mul_of_nonneg_right (by omega) (by omega);rw[Int.add_mul,Int.one_mul]at hc;have A:0≤y/d.h*cU d+x/d.w:=by
  have:=Int.mul_nonneg G (show 0≤cU d by omega);omega
 refine⟨(y/d.h*cU d+x/d.w).toNat,?_,?_⟩
 ·rw[Int.toNat_of_nonneg A];unfold bO;rw[Int.mul_comm (cU d)];omega
 ·rw[Int.toNat_of_nonneg A];have m1:(y/d.h*cU d+x/d.w)%cU d=x/d.w:=by
   rw[Int.add_comm,Int.add_mul_emod_self_right,Int.emod_eq_of_lt D F]
  have m2:(y/d.h*cU d+x/d.w)/cU d=y/d.h:=by
   rw[Int.add_comm,Int.add_mul_ediv_right _ _ (by omega),Int.ediv_eq_zero_of_lt D F,Int.zero_add]
  show gY d _≤x∧x<gY d _+qJ d _∧iR d _≤y∧y<iR d _+sX d _;unfold qJ sX gY iR;rw[m1,m2,Int.mul_comm (x/d.w),Int.mul_comm (y/d.h)];omega
def Xk (C:C21)(k:Nat)(jo:Option (co×Int×Int))(n:Pic):Prop:=
 ∀x y c,inP n x y c→∀i:Nat,i<k→I9 (aG C.d i) x y→(∀t yy e,jo=some (t,yy,e)→i+1=k→y<yy)→atP n x y c=ut C.m C.d.s x y c
theorem Ob {C:C21}(O:C.Ok){N:Nat}{n:Pic}(hN:(N:Int)=bO C.d)(P:Xk C N none n)(su:C.suits n):n.l=(zw C.m C.d.s).l:=by
 obtain⟨s1,G,A,U,s5⟩:=su.2;have hf:=cL O.m.fits;refine T4 su.1 ?_ ⟨G.symm,A.symm,U.symm,s5.symm⟩ λx y c hi=>?_
 ·show(((List.range (C.d.s.y.lines.length*C.d.s.x.lines.length*C.m.c.toNat)).map _).length:Int)=(C.d.s.x.lines.length:Int)*(C.d.s.y.lines.length:Int)*C.m.c;rw[List.length_map,List.length_range,Int.natCast_mul,Int.natCast_mul,Int.toNat_of_nonneg (by omega),Int.mul_comm (C.d.s.y.lines.length:Int)]
 ·obtain⟨h1,F,D,H,W,L⟩:=hi;obtain⟨i,aa,I⟩:=PM O.d h1 (by show x<(C.d.s.x.lines.length:Int);rw[←G];exact F) D (by show y<(C.d.s.y.lines.length:Int);rw[←A];exact H);rw[P x y c ⟨h1,F,D,H,W,L⟩ i (by omega) I λ_ _ _ h=>by cases h];rw[Tu];exact⟨h1,by show x<(C.d.s.x.lines.length:Int);rw[←G];exact F,D,by show y<(C.d.s.y.lines.length:Int);rw[←A];exact H,W,by show c<C.m.c;rw[←U];exact L⟩
section
theorem FO {h:af}{Z:Nat→Prop}{v:Value}{l:List (Int×List Int)}(H:Rp.Sl km Z h v l)(hl:l.length≤1000000000)(hb:∀x∈l,x.2.length≤1073741824){a b:Int}:ae prog oC #[v,.int .i64 a,.int .i64 b] h λr h'=>(∃x y c,r=.tuple #[.int .i64 x,.int .i64 y,.bool c])∧Ext h h':=by
 apply HE;unfold xS;obtain⟨av,cv,ev⟩:=H.isSl;have el:aq v=some (.int .i64 (l.length:Int)):=by rw[ev];rfl
 rw[el,ah];refine bA (α:=Int×Int×Bool) l.length 0 (λi s=>[.int .i64 s.1,.int .i64 s.2.1,.bool s.2.2,.int .i64 (i:Int)]) (λi s g=>Ext h g) (0,0,false) rfl (Nat.zero_le _) (Ext.refl _) λi s g again ρ _ hi E I=>?_
 simp only[gb,uA,V5,XP];rw[bU,ah];refine aj (λg1=>?_) (λg1=>?_)
 ·have D:i<l.length:=by omega
  have L:(i:Int)+1=((i+1:Nat):Int):=by omega
  obtain⟨pt,cs,q1,q2,u,q3,q4⟩:=(H.ext E).atw (show 0<2 by omega) (k:=.i64) (i:=i) D;have q1:aR 2 v (.int .i64 (i:Int))=some pt:=q1;have q2:aH 2 g pt=some (.agg cs.toArray):=q2;subst q3;rw[q1,ah,q2,ah];refine cD (cs:=[.int .i64 l[i].1,u]) rfl (ak rfl (ak q4.one aQ)) rfl λb5 W r5 e5 n5=>?_
  have c0:aB W ⟨b5,0,none⟩=some (.int .i64 l[i].1):=ai r5;have c1:aB W ⟨b5,1,none⟩=some u:=ai r5;obtain⟨au,cu,eu⟩:=q4.isSl;have ab:aq u=some (.int .i64 (l[i].2.length:Int)):=by rw[eu];rfl
  simp only[go_sem,Nat.zero_add,c1,ab];refine aj (λg2=>?_) (λg2=>?_)
  ·rw[w64 (n:=(i:Int)+1) (by omega) (by omega),L];exact I s W D (E.trans e5)
  ·have ad:=hb l[i] (List.getElem_mem D);refine bA (α:=Int×Int×Bool) l[i].2.length 0 (λj s=>[.int .i64 s.1,.int .i64 s.2.1,.bool s.2.2,.int .i64 (j:Int)]) (λj s g'=>g'=W) s rfl (Nat.zero_le _) rfl λj s' g' aa ρ' _ hj eg A=>?_
   subst eg;simp only[gb,uA,V5,XP];rw[bU,ah];refine aj (λg3=>?_) (λg3=>?_)
   ·have G:j<l[i].2.length:=by omega
    have F:(j:Int)+1=((j+1:Nat):Int):=by omega
    simp only[go_sem,Nat.zero_add,c0];refine aV (λxs U=>(∃n,xs=[.int .i64 n])∧U=g') ?_ ?_
    ·obtain⟨s1,s2,s3⟩:=s';cases s3<;>simp only[go_sem]
     ·exact⟨⟨_,rfl⟩,trivial⟩
     ·refine aj (λ_=>?_) (λ_=>?_)
      ·exact⟨⟨_,rfl⟩,trivial⟩
      ·exact⟨⟨_,rfl⟩,trivial⟩
    ·rintro xs ρ'' U ⟨⟨n,rfl⟩,rfl⟩;obtain⟨s1,s2,s3⟩:=s';simp only[gb];cases s3<;>simp only[go_sem]
     ·rw[w64 (n:=(j:Int)+1) (by omega) (by omega),F];exact A (n,_,true) _ G rfl
     ·refine aj (λ_=>?_) (λ_=>?_)
      ·rw[w64 (n:=(j:Int)+1) (by omega) (by omega),F];exact A (n,_,true) _ G rfl
      ·rw[w64 (n:=(j:Int)+1) (by omega) (by omega),F];exact A (n,s2,true) _ G rfl
   ·rw[w64 (n:=(i:Int)+1) (by omega) (by omega),L];exact I s' _ D (E.trans e5)
 ·exact⟨⟨_,_,_,rfl⟩,E⟩
theorem Oa {n size:Int}(A:1≤size)(j:Int):j*size<n↔j<cX n size:=by
 unfold cX;rw[show(j<(n+size-1)/size)↔(j+1≤(n+size-1)/size)from Iff.rfl,Int.le_ediv_iff_mul_le (by omega),Int.add_mul,Int.one_mul];omega
structure VD where
 state:Int
 tiles:List Int
 left:List (Int×Int)
def rVD:Rp VD where
 w:=3
 R:=λZ h cs v=>∃t l,cs=[.int .i64 v.state,t,l]∧Rp.Sl (Rp.int .i64) Z h t v.tiles∧Rp.Sl xy Z h l v.left∧Rp.SlCap l
 len:=by rintro _ _ _ _ ⟨_,_,rfl,_⟩;rfl
 one:=by
  rintro _ _ _ _ ⟨_,_,rfl,H,K,_⟩;exact ak rfl (ak H.one (ak K.one aQ))
 fr:=by rintro _ _ _ _ _ _ ⟨t,l,rfl,H,K,c⟩ f q;exact⟨t,l,rfl,H.fr f q,K.fr f q,c⟩
 mono:=by rintro _ _ _ _ _ ⟨t,l,rfl,H,K,c⟩ q;exact⟨t,l,rfl,H.mono q,K.mono q,c⟩
def XG:Rp (List (Int×Int)) where
 w:=1
 R:=λZ h cs l=>∃v,cs=[v]∧Rp.Sl xy Z h v l∧Rp.SlCap v
 len:=by rintro _ _ _ _ ⟨_,rfl,_⟩;rfl
 one:=by
  rintro _ _ _ _ ⟨_,rfl,H,_⟩;exact ak H.one aQ
 fr:=by rintro _ _ _ _ _ _ ⟨v,rfl,H,c⟩ f q;exact⟨v,rfl,H.fr f q,c⟩
 mono:=by rintro _ _ _ _ _ ⟨v,rfl,H,c⟩ q;exact⟨v,rfl,H.mono q,c⟩
section
variable {Z:Nat→Prop}{h:af}{cs ds:List Value}{v:VD}{d:QD}{mv:Value}{M:List (List (Int×Int))}
end
end
theorem S5 {h:af}{Z:Nat→Prop}{v:Value}{l:List (Int×List Int)}(H:Rp.Sl km Z h v l)(hl:l.length≤1000000000):ae prog wI #[v] h λr h'=>r=.int .i64 (bu l)∧Ext h h':=by
 apply Kl;unfold AG;obtain⟨av,cv,ev⟩:=H.isSl;have el:aq v=some (.int .i64 (l.length:Int)):=by rw[ev];rfl
 rw[el,ah];refine bA (α:=Int) l.length 0 (λi s=>[.int .i64 s,.int .i64 (i:Int)]) (λi s g=>s=bu (l.take i)∧Ext h g) 0 rfl (Nat.zero_le _) ⟨rfl,Ext.refl _⟩ λi s g again ρ _ hi E D=>?_
 obtain⟨W,E⟩:=E;simp only[gb,uA];rw[bU,ah];refine aj (λg1=>?_) (λg1=>?_)
 ·have A:i<l.length:=by omega
  have hm:bu (l.take (i+1))=max s (l[i].2.length:Int):=by rw[List.take_succ_eq_append_getElem A,BZ,W]
  have F:(i:Int)+1=((i+1:Nat):Int):=by omega
  obtain⟨pt,cs,L,U,u,q3,q4⟩:=(H.ext E).atw (show 0<2 by omega) (k:=.i64) (i:=i) A;have L:aR 2 v (.int .i64 (i:Int))=some pt:=L;have U:aH 2 g pt=some (.agg cs.toArray):=U;subst q3;rw[L,ah,U,ah];refine cD (cs:=[.int .i64 l[i].1,u]) rfl (ak rfl (ak q4.one aQ)) rfl λb5 I r5 e5 n5=>?_
  have c1:aB I ⟨b5,1,none⟩=some u:=ai r5;obtain⟨au,cu,eu⟩:=q4.isSl;have G:aq u=some (.int .i64 (l[i].2.length:Int)):=by rw[eu];rfl
  simp only[go_sem,Nat.zero_add,c1,G];refine aj (λg2=>?_) (λg2=>?_)
  ·rw[w64 (n:=(i:Int)+1) (by omega) (by omega),F];exact D _ I A ⟨by rw[hm];omega,E.trans e5⟩
  ·rw[w64 (n:=(i:Int)+1) (by omega) (by omega),F];exact D s I A ⟨by rw[hm];omega,E.trans e5⟩
 ·have:i=l.length:=by omega
  rw[W,this,List.take_length];exact⟨rfl,E⟩
theorem UA (a b c d e f:Int):aF #[(.int .i64 0),(.int .i64 0),(.int .i64 0),(.int .i64 0),(.int .i64 0),(.int .i64 0),(.int .i64 0),(.int .i64 0),(.int .i64 0),(.int .i64 0)] [(0,1,Value.int .i64 a),(1,1,.int .i64 b),(2,1,.int .i64 c),(3,1,.int .i64 d),(4,1,.int .i64 e),(9,1,.int .i64 f)]=
  some [Value.int .i64 a,.int .i64 b,.int .i64 c,.int .i64 d,.int .i64 e,.int .i64 0,.int .i64 0,.int .i64 0,.int .i64 0,.int .i64 f].toArray:=by
 refine(bI (n:=1) (l:=[.int .i64 a]) rfl rfl (by simp)).trans ?_;refine(bI (n:=1) (l:=[.int .i64 b]) rfl rfl (by simp[bX])).trans ?_;refine(bI (n:=1) (l:=[.int .i64 c]) rfl rfl (by simp[bX])).trans ?_;refine(bI (n:=1) (l:=[.int .i64 d]) rfl rfl (by simp[bX])).trans ?_;refine(bI (n:=1) (l:=[.int .i64 e]) rfl rfl (by simp[bX])).trans ?_;refine(bI (n:=1) (l:=[.int .i64 f]) rfl rfl (by simp[bX])).trans ?_;rw[fo];simp[wrL]
def Bf:Rp co where
 w:=10
 R:=λ_ _ cs t=>∃a b c d,cs=[.int .i64 t.number,.int .i64 t.x,.int .i64 t.y,.int .i64 t.w,.int .i64 t.h,.int .i64 a,.int .i64 b,.int .i64 c,.int .i64 d,.int .i64 t.ring]
 len:=by rintro _ _ _ _ ⟨_,_,_,_,rfl⟩;rfl
 one:=by
  rintro _ _ _ _ ⟨_,_,_,_,rfl⟩;exact ak rfl (ak rfl (ak rfl (ak rfl (ak rfl (ak rfl (ak rfl (ak rfl (ak rfl (ak rfl aQ)))))))))
 fr:=by rintro _ _ _ _ _ _ h _ _;exact h
 mono:=by rintro _ _ _ _ _ h _;exact h
theorem Ny (d:cG)(k:Nat):cR d (k+1)=cR d k++[aG d k]:=by simp[cR,List.range_succ]
theorem S6 {h:af}{Z:Nat→Prop}{cs:List Value}{d:cG}(K:uq.R Z h cs d.s)(W:d.Wf)(few:∀x∈d.s.x.lines++d.s.y.lines,x.2.length≤1073741824){N:Nat}(hN:(N:Int)=bO d)(e0:N≤4096)(hX:1≤d.X)(hY:1≤d.Y):
  ae prog jG #[.agg cs.toArray,.int .i64 d.w,.int .i64 d.h] h λr h'=>New Bf h h' r (cR d N):=by
 apply MA;unfold CR;obtain⟨X,Y,rfl,HX,HY⟩:=K;have ek:=cG.bd W;have hw:=W.w;have hh:=W.h;unfold dQ at hw hh;have pc:=lR (n:=d.X) (size:=d.w) (by omega) W.w;have pr:=lR (n:=d.Y) (size:=d.h) (by omega) W.h;obtain⟨A,eA⟩:∃A:Nat,(A:Int)=cU d:=⟨(cU d).toNat,by have:=pc.1;unfold cU;omega⟩
 obtain⟨D,eD⟩:∃D:Nat,(D:Int)=cX d.Y d.h:=⟨(cX d.Y d.h).toNat,by have:=pr.1;omega⟩
 have ej:1≤A:=by have:=pc.2.2 hX;have e:cU d=cX d.X d.w:=rfl;omega
 have bo:N=D*A:=by
  have:(N:Int)=((D*A:Nat):Int):=by rw[hN,Int.natCast_mul,eA,eD,Int.mul_comm];rfl
  omega
 simp only[bG];refine aC λG h1 r1 e1 n1=>?_
 obtain⟨ax,cx,ex⟩:=HX.isSl;obtain⟨ay,cy,ey⟩:=HY.isSl;have a9:aq X=some (.int .i64 d.X):=by rw[ex];rfl
 have be:aq Y=some (.int .i64 d.Y):=by rw[ey];rfl
 have L:∀i:Nat,(i:Int)*d.w<d.X↔i<A:=λi=>by rw[Oa hw.1];show(i:Int)<cU d↔_;omega
 have U:∀j:Nat,(j:Int)*d.h<d.Y↔j<D:=λj=>by rw[Oa hh.1];omega
 refine bA (α:=Value) D 0 (λj v=>[v,.int .i64 ((j:Int)*d.h)]) (λj v g=>New Bf h1 g v (cR d (j*A))) (.slice none 0 0) (by rw[show((0:Nat):Int)*d.h=0 by omega]) (Nat.zero_le _) (by rw[Nat.zero_mul];exact New.nil (Ext.refl _)) λj v g again ρ _ hj NT b6=>?_
 have c1:aB g ⟨G,1,none⟩=some Y:=ai (NT.2.1.row r1);simp only[gb,uA,go_sem,Nat.zero_add,c1,be];refine aj (λg1=>?_) (λg1=>?_)
 ·have ar:j<D:=(U j).1 g1;have ci:(j+1)*A≤N:=by rw[bo];exact Nat.mul_le_mul_right _ ar
  rw[Nat.add_mul,Nat.one_mul]at ci;have ee:0≤(j:Int)*d.h:=Int.mul_nonneg (by omega) (by omega);refine bA (α:=Value) A 0 (λi v=>[v,.int .i64 ((i:Int)*d.w)]) (λi v g=>New Bf h1 g v (cR d (j*A+i))) v (by rw[show((0:Nat):Int)*d.w=0 by omega]) (Nat.zero_le _) NT λi v2 g2 b0 ρ2 _ hi N2 bg=>?_
  have c0:aB g2 ⟨G,0,none⟩=some X:=ai (N2.2.1.row r1);simp only[gb,uA,go_sem,Nat.zero_add,c0,a9];refine aj (λg3=>?_) (λg3=>?_)
  ·have ad:i<A:=(L i).1 g3;have ez:0≤(i:Int)*d.w:=Int.mul_nonneg (by omega) (by omega);obtain⟨a2,eg,e2⟩:=N2.sl.isSl;have aa:(cR d (j*A+i)).length=j*A+i:=by simp[cR]
   have c8:aq v2=some (.int .i64 ((j*A+i:Nat):Int)):=by rw[e2,aa];rfl
   have cp:aB g2 ⟨G,1,none⟩=some Y:=ai (N2.2.1.row r1);simp only[c8,ah,go_sem,Nat.zero_add,cp];refine(S5 (HY.ext (e1.trans N2.2.1)) (by have e:d.Y=d.s.y.lines.length:=rfl;omega)).mono λrr g4 ⟨er,e4⟩=>?_
   subst er;have N4:=N2.ext e4;have c2:=N4.2.1.row r1;rw[UA,bi,ah];have a7:∀a b c d' e f g k l m:Int,∀v∈[Value.int .i64 a,.int .i64 b,.int .i64 c,.int .i64 d',.int .i64 e,.int .i64 f,.int .i64 g,.int .i64 k,.int .i64 l,.int .i64 m],aJ v=true:=λ_ _ _ _ _ _ _ _ _ _=>ak rfl (ak rfl (ak rfl (ak rfl (ak rfl (ak rfl (ak rfl (ak rfl (ak rfl (ak rfl aQ)))))))))
   refine aC λbt g5 r5 e5 n5=>?_
   refine ch r5 rfl (a7 _ _ _ _ _ _ _ _ _ _) rfl λg6 r6 u6=>?_
   have eb:=N4.2.1.1;have ei:=e5.1;have ew:=u6.1;have eh:=aW r1;have cr:g4.size≤bt:=n5;have bk:g6[G]? =some (.cells [X,Y,.int .i64 d.s.x.n,.int .i64 d.s.y.n,.int .i64 d.s.border].toArray 38 (0,0)):=u6.row (by omega) (e5.row c2);have E6:Ext g4 g6:=e5.upd cr u6;have b5:aB g6 ⟨G,0,none⟩=some X:=ai bk
   -- the width
   have hH:(aG d ((j*A+i:Nat):Int)).y=(j:Int)*d.h∧(aG d ((j*A+i:Nat):Int)).h=min d.h (d.Y-(j:Int)*d.h):=by
    have q:((j*A+i:Nat):Int)/cU d=(j:Int):=by
     rw[←eA,←Int.natCast_ediv]
     congr 1
     rw[Nat.mul_comm,Nat.mul_add_div (by omega),Nat.div_eq_of_lt ad,Nat.add_zero]
    constructor
    ·show iR d _=_;unfold iR;rw[q]
    ·show sX d _=_;unfold sX iR;rw[q]
   have hq:((j*A+i:Nat):Int)%cU d=(i:Int):=by
    rw[←eA,←Int.natCast_emod]
    congr 1
    rw[Nat.mul_comm,Nat.mul_add_mod,Nat.mod_eq_of_lt ad]
   have dl:(aG d ((j*A+i:Nat):Int)).x=(i:Int)*d.w:=by
    show gY d _=_;unfold gY;rw[hq]
   have I:(aG d ((j*A+i:Nat):Int)).w=min d.w (d.X-(i:Int)*d.w):=by
    show qJ d _=_;unfold qJ gY;rw[hq]
   refine aV (λxs g=>xs=[]∧g[bt]? =some (.cells [.int .i64 ((j*A+i:Nat):Int),.int .i64 ((i:Int)*d.w),.int .i64 ((j:Int)*d.h),.int .i64 (aG d ((j*A+i:Nat):Int)).w,.int .i64 d.h,.int .i64 0,.int .i64 0,.int .i64 0,.int .i64 0,.int .i64 (bu d.s.y.lines)].toArray 59 (0,0))∧Fr (λc=>c=bt) g6 g) ?_ ?_
   ·simp only[go_sem,Nat.zero_add,b5,a9];rw[w64 (n:=(i:Int)*d.w+d.w) (by omega) (by omega)];refine aj (λH=>?_) (λH=>?_)
    ·rw[w64 (n:=d.X-(i:Int)*d.w) (by omega) (by omega)];refine bK r6 (by simp) rfl λg7 r7 u7=>⟨trivial,?_,u7.fr⟩
     rw[I,show min d.w (d.X-(i:Int)*d.w)=d.X-(i:Int)*d.w by omega];exact r7
    ·refine⟨trivial,?_,Fr.refl _ _⟩;rw[I,show min d.w (d.X-(i:Int)*d.w)=d.w by omega];exact r6
   rintro xs ρ7 g7 ⟨rfl,r7,f7⟩;have eu:=f7.1;have aw:=f7.row bk (show¬G=bt by omega);have cw:aB g7 ⟨G,1,none⟩=some Y:=ai aw
   -- the height
   refine aV (λxs g=>xs=[]∧g[bt]? =some (.cells [.int .i64 ((j*A+i:Nat):Int),.int .i64 ((i:Int)*d.w),.int .i64 ((j:Int)*d.h),.int .i64 (aG d ((j*A+i:Nat):Int)).w,.int .i64 (aG d ((j*A+i:Nat):Int)).h,.int .i64 0,.int .i64 0,.int .i64 0,.int .i64 0,.int .i64 (bu d.s.y.lines)].toArray 59 (0,0))∧Fr (λc=>c=bt) g7 g) ?_ ?_
   ·simp only[go_sem,Nat.zero_add,cw,be];rw[w64 (n:=(j:Int)*d.h+d.h) (by omega) (by omega)];refine aj (λH=>?_) (λH=>?_)
    ·rw[w64 (n:=d.Y-(j:Int)*d.h) (by omega) (by omega)];refine bK r7 (by simp) rfl λg9 r9 u9=>⟨trivial,?_,u9.fr⟩
     rw[hH.2,show min d.h (d.Y-(j:Int)*d.h)=d.Y-(j:Int)*d.h by omega];exact r9
    ·refine⟨trivial,?_,Fr.refl _ _⟩;rw[hH.2,show min d.h (d.Y-(j:Int)*d.h)=d.h by omega];exact r7
   rintro xs ρ8 H ⟨rfl,r8,f8⟩;have ec:=f8.1;have F8:Fr (λc=>c=bt) g6 H:=f7.trans f8;have E8:Ext g4 H:=E6.then_fr F8 λc hc=>by have hc:c=bt:=hc;omega
   have bc:=f8.row aw (show¬G=bt by omega);have ca:aB H ⟨G,0,none⟩=some X:=ai bc;have c4:aB H ⟨bt,3,none⟩=some (.int .i64 (aG d ((j*A+i:Nat):Int)).w):=ai r8;simp only[go_sem,Nat.zero_add,ca,c4];refine(FO ((HX.ext e1).ext (N4.2.1.trans E8)) (by have e:d.X=d.s.x.lines.length:=rfl;omega) λx hx=>few x (List.mem_append_left _ hx)).mono λrr g9 ⟨⟨x1,y1,z1,er⟩,e9⟩=>?_
   subst er;have x0:∀x y:Int,∀z,aE (.tuple #[.int .i64 x,.int .i64 y,.bool z]) 0=some (.int .i64 x):=λ_ _ _=>rfl
   have al:∀x y:Int,∀z,aE (.tuple #[.int .i64 x,.int .i64 y,.bool z]) 1=some (.int .i64 y):=λ_ _ _=>rfl
   have an:∀x y:Int,∀z,aE (.tuple #[.int .i64 x,.int .i64 y,.bool z]) 2=some (.bool z):=λ_ _ _=>rfl
   have au:=e9.row r8;have c6:aB g9 ⟨G,1,none⟩=some Y:=ai (e9.row bc);have b7:aB g9 ⟨bt,4,none⟩=some (.int .i64 (aG d ((j*A+i:Nat):Int)).h):=ai au;simp only[go_sem,Nat.zero_add,x0,al,an,c6,b7];refine(FO ((HY.ext e1).ext (N4.2.1.trans (E8.trans e9))) (by have e:d.Y=d.s.y.lines.length:=rfl;omega) λx hx=>few x (List.mem_append_right _ hx)).mono λrr b2 ⟨⟨x3,y3,z3,er⟩,ab⟩=>?_
   subst er;have es:=e9.1;have dq:=ab.1;simp only[go_sem,Nat.zero_add,x0,al,an];refine bK (ab.row au) (by simp) rfl λep ct c3=>?_
   try simp only[go_sem,Nat.zero_add]
   refine bK ct (by simp) rfl λea b8 c7=>?_
   try simp only[go_sem,Nat.zero_add]
   refine bK b8 (by simp) rfl λet cb b4=>?_
   try simp only[go_sem,Nat.zero_add]
   refine bK cb (by simp) rfl λa8 bv c9=>?_
   have cc:Fr (λc=>c=bt) b2 a8:=c3.fr.trans (c7.fr.trans (b4.fr.trans c9.fr));have b3:Ext g4 a8:=(E8.trans (e9.trans ab)).then_fr cc λc hc=>by have hc:c=bt:=hc;omega
   rw[aM (l:=[.int .i64 ((j*A+i:Nat):Int),.int .i64 ((i:Int)*d.w),.int .i64 ((j:Int)*d.h),.int .i64 (aG d ((j*A+i:Nat):Int)).w,.int .i64 (aG d ((j*A+i:Nat):Int)).h,.int .i64 x1,.int .i64 x3,.int .i64 (IntKind.i64.wrap (y1-x1)),.int .i64 (IntKind.i64.wrap (y3-x3)),.int .i64 (bu d.s.y.lines)]) bv 10 rfl,ah];have F:=N4.ext b3;refine Rp.push_ow (e:=Bf) (x:=aG d ((j*A+i:Nat):Int)) F.1 ⟨_,_,_,_,by rw[hH.1,dl];rfl⟩ rfl rfl (by rw[aa];omega) (by rw[aa];omega) (λ_ h=>h.elim) λv4 cu o4 f4 n4=>?_
   have dz:=F.2.1.1;have e3:(i:Int)*d.w+d.w=((i+1:Nat):Int)*d.w:=by rw[Int.natCast_add,Int.add_mul];simp
   try simp only[go_sem]
   rw[w64 (n:=(i:Int)*d.w+d.w) (by omega) (by omega),e3];refine bg v4 cu ad ⟨?_,F.2.1.then_fr f4 F.2.2,λc hc=>(n4 c hc).elim (F.2.2 c) λh=>by omega⟩;rw[←Nat.add_assoc,Ny];exact o4
  ·have:i=A:=by
    have:=mt (L i).2 g3;omega
   subst this;have e3:(j:Int)*d.h+d.h=((j+1:Nat):Int)*d.h:=by rw[Int.natCast_add,Int.add_mul];simp
   rw[w64 (n:=(j:Int)*d.h+d.h) (by omega) (by omega),e3];refine b6 v2 g2 ar ?_;rw[Nat.add_mul,Nat.one_mul];exact N2
 ·have:j=D:=by
   have:=mt (U j).2 g1;omega
  subst this;rw[bo];exact⟨NT.1,e1.trans NT.2.1,λc hc=>Nat.le_trans e1.1 (NT.2.2 c hc)⟩
end Go.Proofs.YtjljhnandbbldaaGreatDoor
namespace Go.Proofs.YtjljhnandbbldaaGreatDoor
open Go Go.Crisp
attribute [local irreducible] ae cE aP stK aA vK qK bC gK dK aU mkK cF Ch DH zZ bsK clK qQ lW Rw
def MZ (E:WE):Option (co×Int×Int)→List (Int×Int)
 |none=>[]
 |some (t,y,e)=>MV (E.d t) y e
def vOf (E:WE)(w:WD):VD:=⟨w.state,w.tiles,MZ E w.job⟩
def BX (C:C21)(N:Nat):List (List (Int×Int)):=(List.range N).map λi:Nat=>MZ C.E (some (Lw C.d i))
end Go.Proofs.YtjljhnandbbldaaGreatDoor
namespace Go.Crisp
open Go
open _root_.Go.Proofs.YtjljhnandbbldaaGreatDoor
theorem ie.push1 {α:Type}{e:Rp α}{z z' c:Value}{t L:TypeId}{bytes:Nat}{h h1:af}{v:Value}{l:List α}{x:α}{Y:Nat→Prop}{K:Value→af→Prop}(hw:e.w=1)(H:ie e h h1 v l)
  (U:e.R Y h1 [c] x) (hY:∀b,Y b→h.size≤b∧b<h1.size∧¬blk v b) (D:z.cells.size=1) (A:(l.length+1)*bytes≤140737488355328) (hn:l.length+1≤9223372036854775807)
  (W:∀F h',ie e h h' F (l++[x])→K F h'):cE #[z'] t 1 [(0,1,c)] h1 λv2 h3=>cF z L 1 bytes v v2 h3 K:=by
 obtain⟨Z,o,ex,n,zf⟩:=H;have dz:∀b,blk v b→¬Z b:=by obtain⟨ds,_,d,_⟩:=o;exact d
 have o2:Rp.Ow e (λb=>Z b∨Y b) h1 v l:=o.mono (λb _ A=>.inl A) λb A D=>by
  rcases D with D|D
  ·exact dz b A D
  ·exact(hY b D).2.2 A
 refine Rp.push_ow1 hw o2 (e.mono U λb _ A=>.inr A) D A hn (λb A=>?_) λF h' o' I n'=>W F h' ⟨λb=>Z b∨Y b,o',ex.then_fr I n,λb A=>?_,λb A=>?_⟩
 ·rcases A with A|A
  ·exact(zf b A).2
  ·exact(hY b A).2.1
 ·rcases n' b A with G|G
  ·exact n b G
  ·exact Nat.le_trans ex.1 G
 ·have hl:=I.1;rcases A with A|A
  ·have:=zf b A;omega
  ·have:=hY b A;omega
end Go.Crisp
namespace Go.Proofs.YtjljhnandbbldaaGreatDoor
open Go Go.Crisp
attribute [local irreducible] ae cE aP stK aA vK qK bC gK dK aU mkK cF Ch DH zZ bsK clK qQ lW Rw
theorem Ov (C:C21)(k:Nat):BX C (k+1)=BX C k++[MZ C.E (some (Lw C.d k))]:=by simp[BX,List.range_succ]
theorem GM (C:C21):∀a b i:Nat,gP C (a+b) i=gP C a i+gP C b (i+a)
 |0,b,i=>by rw[Nat.zero_add,Nat.add_zero];show _=0+_;omega
 |a+1,b,i=>by
  have h:=GM C a b (i+1);rw[show a+1+b=(a+b)+1 by omega];show nC C i+gP C (a+b) (i+1)=nC C i+gP C a (i+1)+_;rw[h,show i+1+a=i+(a+1)by omega];omega
section
theorem IsW.job_e {Z B:Nat→Prop}{h:af}{bw:Nat}{E:WE}{n:Pic}{w:WD}(H:IsW Z B h bw (some E) n w):∀t y e,w.job=some (t,y,e)→e≤lnE E.s.y y:=by
 obtain⟨⟨tv,I,L,r,o,J,_⟩,_,_,_,_,_,st⟩:=H;intro t y e F;rw[F]at J st;obtain⟨G,D,ok,hc,bj,rv,_,S⟩:=J;cases D;obtain⟨⟨M,rs,_,_,k⟩,_⟩:=S;rcases st with⟨_,A,_⟩|⟨_,h⟩
 ·have A:bP (E.d t) y e≠0:=A;unfold bP at A;split at A
  ·exact absurd rfl A
  ·exact(k (by omega)).2.2
 ·cases h
section
variable {a:Bool}{C:C21}{Z X Zd:Nat→Prop}{N:Nat}{h0 h:af}{mv:Value}{bQ bW bV:Nat}{TW TV:TypeId}{n:Pic}{ba bb:Nat}{wa wb:WD}{q:QD}
end
end
theorem NF {E:Option WE}{jo:Option (co×Int×Int)}{w:WD}{d:QD}:(cn E jo w d).1.tiles.length≤w.tiles.length+1:=by
 obtain⟨st,tl,j,A⟩:=w;unfold cn;split
 ·split
  ·exact Nat.le_succ _
  ·exact Nat.le_succ _
 ·split
  ·exact Nat.le_succ _
  ·split
   ·simp[w9]
   ·split<;>exact Nat.le_succ _
theorem Nv {t m:Int}(h:B8 t)(D:0<m∧m≤100){K:Value→Prop}(H:K (.int .i64 (1+t%m))):vK (ag .i .rem (.int .u8 t) (.int .u8 m)) λa=>vK (eS .i64 a) λb=>vK (ag .i .add (.int .i64 1) b) λc=>K c:=by
 have A:0≤t%m∧t%m<m:=⟨Int.emod_nonneg _ (by omega),Int.emod_lt_of_pos _ (by omega)⟩
 rw[dc _ _ _ _ (by omega),ah,Int.tmod_eq_emod_of_nonneg h.1];simp only[go_sem];rw[w64 (n:=t%m) (by omega) (by omega),w64 (n:=1+t%m) (by omega) (by omega)];exact H
end Go.Proofs.YtjljhnandbbldaaGreatDoor
namespace Go.Proofs.YtjljhnandbbldaaGreatDoor
open Go Go.Crisp
theorem PP {h:af}{v:Value}{l:List Int}(H:SlC 1 h v l.length (l.map (Value.int .u8))):Rp.Sl (Rp.int .u8) (λ_=>True) h v l:=
 ⟨_,H,λ_ _ _=>trivial,λi hi=>by
  show Rp.el 1 _ i=[.int .u8 l[i]];rw[Rp.el_one (by simpa using hi),List.getElem_map]⟩
theorem TE {h:af}{D:List TS}{l:List Value}(R:sV (.sl (.int .u8) 1::D) h l):∃v,∃k:List Int,∃r,l=v::r∧Rp.Sl (Rp.int .u8) (λ_=>True) h v k∧(∀x∈k,B8 x)∧k.length≤1000000000000000∧sV D h r:=by
 obtain⟨v,r,F,⟨x,H⟩,h0⟩:=R;obtain⟨u,hu,h1,G,A⟩:=XC (l:=x) (show Rd (.sl (.int .u8) 1) h [v] x from H);obtain rfl:v=u:=by simpa using hu
 have A:List.length (α:=Int) x*1≤140737488351232:=A;exact⟨v,x,r,F,PP h1,G,by omega,h0⟩
end Go.Proofs.YtjljhnandbbldaaGreatDoor
namespace Go.Proofs.YtjljhnandbbldaaGreatDoor
open Go Go.Crisp
attribute [local irreducible] ae cE aP stK aA vK qK bC gK dK aU mkK cF Ch
open _root_.Go.Proofs.Tryz
def KQ (a:Int):Nat:=(min (max 1 a) 512).toNat
def qO (n:Nat)(j:Nat):List Int:=(List.range n).map λm=>if m=j then 1 else 0
theorem IH (n:Nat)(f g:Nat→Value)(h:∀k,k<n→f k=g k):(List.range n).map f=(List.range n).map g:=
 List.map_congr_left λk A=>h k (List.mem_range.1 A)
theorem c_New {h:af}(a:Int):ae prog lC #[.int .i64 a] h λr h'=>∃M,dX M h' r (KQ a) (qO (KQ a))∧Ext h h'∧∀b,M b→h.size≤b:=by
 apply MT;unfold Dd;have bd:min (max 1 a) 512=((KQ a:Nat):Int):=by unfold KQ;omega
 have ar:1≤KQ a∧KQ a≤512:=by unfold KQ;omega
 simp only[go_sem,bd];generalize KQ a=n at ar;refine lU rfl (by omega) (by omega) λs h1 o1 e1 n1=>?_
 have b1:=o1.sl;obtain⟨_,G,H,rfl,_⟩:=b1;rw[GE _ #[.slice G n H] (by kernel_rfl)];refine aC (c:=#[.slice G n H]) λbc W an e2 n2=>?_
 obtain⟨t0,r2⟩:∃t,W[bc]? =some (.cells #[.slice G n H] t (0,0)):=⟨_,an⟩
 clear an
 simp only[go_sem,ai r2];have ax:¬blk (.slice G n H) bc:=λA=>by have:=o1.lt A;omega
 refine B5 n (λk h'=>k≤n∧Ext h h'∧∃sv:Nat→Value,h'[bc]? =some (.cells #[.slice G n H] t0 (0,0))∧Own 1 h' (.slice G n H) n ((List.range n).map λj=>if j<k then sv j else .slice none 0 0)∧
   (∀j,j<k→iT h' (sv j) (qO n j))∧(∀j,j<k→∀b,blk (sv j) b→h.size≤b∧b≠bc∧¬blk (.slice G n H) b)∧∀i j,i<k→j<k→i≠j→∀b,blk (sv i) b→¬blk (sv j) b)
  ⟨Nat.zero_le _,e1.trans e2,λ_=>.nilFunc,r2,?_,λj F=>by omega,λj F=>by omega,λi j hi=>by omega⟩ ?_
 ·have:=o1.fr (M:=λ_=>False) e2.fr λ_ _=>id
  rw[show List.replicate n (Value.slice none 0 0)=(List.range n).map λj=>if j<0 then Value.nilFunc else .slice none 0 0 by
   apply List.ext_getElem<;>simp]at this
  exact this
 rintro k h3 again ρj ⟨b3,e3,sv,r3,o3,L,U,ay⟩ bv;simp only[go_sem];refine aj (λhk=>?_) (λhk=>?_)
 ·have hk:k<n:=by omega
  refine LH ?_;refine ao (.slice G n H) (λh' e=>by rw[ai (e.row r3)];rfl) ?_;refine lU rfl (by omega) (by omega) λs4 h4 o4 e4 n4=>?_
  refine⟨e4,?_⟩;obtain⟨p,hp,hq,b0⟩:=(o3.fr (M:=λ_=>False) e4.fr λ_ _=>id).at1 (k:=.i64) hk;simp only[go_sem,hp];have a8:iT h4 s4 (List.replicate n 0):=by
   unfold iT;rw[List.length_replicate,List.map_replicate];exact o4
  refine b0 _ _ (z7 a8) λh5 o5 f5 _=>?_
  rw[GY]at o5;have ad:∀b,blk s4 b→¬blk (.slice G n H) b:=λb A D=>by have:=n4 b A;have:=o3.lt D;omega
  have o6:iT h5 s4 (List.replicate n 0):=a8.fr f5 λb A=>ad b A
  have r5:h5[bc]? =some (.cells #[.slice G n H] t0 (0,0)):=f5.row (e4.row r3) ax;obtain⟨p6,au,aw⟩:=o5.sl.at1 (k:=.i64) hk;rw[hp]at au;cases au;rw[List.getElem_map,List.getElem_range,if_pos rfl]at aw;obtain⟨p7,be,b2,a7⟩:=Own.at1 o6 (k:=.i64) (i:=k) (by simpa using hk);simp only[go_sem,ai r5,hp,aw,be];refine a7 _ _ rfl λh8 o8 f8 _=>?_
  rw[w64 (by omega) (by omega)];have f58:Fr (blk s4) h5 h8:=f8;have I:∀b,blk s4 b→h3.size≤b:=n4;have bo:Ext h h8:=((e3.trans e4).then_fr f5 n1).then_fr f58 λb A=>Nat.le_trans e3.1 (I b A)
  have a9:∀b,blk s4 b→h.size≤b∧b≠bc∧¬blk (.slice G n H) b:=λb A=>
   ⟨Nat.le_trans e3.1 (I b A),λb4=>by
    have h1:=I b A;have W:=(Array.getElem?_eq_some_iff.1 r3).1;omega,ad b A⟩
  have aa:∀j,j<k→∀b,blk (sv j) b→¬blk s4 b:=λj F b A D=>by
   have h1:=I b D;have W:=(L j F).lt A;omega
  refine bv h8 hk ⟨hk,bo,λj=>if j=k then s4 else sv j,?_,?_,?_,?_,?_⟩
  ·exact f58.row r5 λA=>(a9 _ A).2.1 rfl
  ·have:=o5.fr f58 λb A D=>ad b D A
   rw[IH n _ (λj=>if j<k+1 then(if j=k then s4 else sv j)else .slice none 0 0) ?_]at this
   ·exact this
   ·intro j F;by_cases h1:j=k
    ·subst h1;simp
    ·by_cases W:j<k
     ·simp[h1,W,Nat.lt_succ_of_lt W]
     ·simp[h1,W,show¬j<k+1 by omega]
  ·intro j F;by_cases h1:j=k
   ·subst h1;simp only[if_true];have o9:Own 1 h8 s4 (qO n j).length ((qO n j).map vi):=by
     refine(congr (congrArg (Own 1 h8 s4) ?_) ?_).mp o8
     ·simp[qO]
     ·apply List.ext_getElem
      ·simp[qO]
      ·intro m h1 W;rw[List.getElem_set];simp only[qO,List.getElem_map,List.getElem_replicate,List.getElem_range,vi, @eq_comm _ m j];split<;>rfl
    exact o9
   ·simp only[h1,if_false];have al:j<k:=by omega
    have h9:=((L j al).fr (M:=λ_=>False) e4.fr λ_ _=>id)
    have bg:iT h5 (sv j) (qO n j):=h9.fr f5 λb A=>(U j al b A).2.2
    exact bg.fr f58 λb A=>aa j al b A
  ·intro j F b A;by_cases h1:j=k
   ·simp only[h1,if_true]at A;exact a9 b A
   ·simp only[h1,if_false]at A;exact U j (by omega) b A
  ·intro i j hi F ab b A D;by_cases h1:i=k
   ·simp only[h1,if_true]at A;have W:j≠k:=λh=>ab (h1.trans h.symm)
    simp only[W,if_false]at D;exact aa j (by omega) b D A
   ·simp only[h1,if_false]at A;by_cases W:j=k
    ·simp only[W,if_true]at D;exact aa i (by omega) b A D
    ·simp only[W,if_false]at D;exact ay i j (by omega) (by omega) ab b A D
 ·obtain rfl:k=n:=by omega
  have bk:Own 1 h3 (.slice G k H) k ((List.range k).map sv):=by
   rw[IH k _ sv (λj F=>by simp[F])]at o3;exact o3
  refine⟨λb=>b=bc∨blk (.slice G k H) b∨∃j,j<k∧blk (sv j) b,⟨bc,.slice G k H,sv,t0,rfl,?_⟩,e3,?_⟩
  ·exact{
    var:=r3,arr:=bk,row:=L,len:=λi hi=>by simp[qO],pos:=ar
    inM:=⟨.inl rfl,λb A=>.inr (.inl A),λi hi b A=>.inr (.inr ⟨i,hi,A⟩)⟩
    ap1:=ax,ap2:=λi hi b A=>(U i hi b A).2,ap3:=λi j hi F ab b=>ay i j hi F ab b
    lt:=λb A=>by
     rcases A with rfl|A|⟨j,F,A⟩
     ·exact(Array.getElem?_eq_some_iff.1 r3).1
     ·exact o3.lt A
     ·exact(L j F).lt A}
  ·intro b A;rcases A with rfl|A|⟨j,F,A⟩
   ·exact Nat.le_trans e1.1 n2
   ·exact n1 b A
   ·exact(U j F b A).1
end Go.Proofs.YtjljhnandbbldaaGreatDoor
namespace Go.Proofs.YtjljhnandbbldaaGreatDoor
open Go Go.Crisp
open _root_.Go.Proofs.Tryz
structure Acc where
 who:Int
 when_:List Int
 buf:Int
 lo:Int
 hi:Int
 wr:Bool
def vL (h:af)(v:Value)(a:Acc):Prop:=∃s,v=.agg #[.int .i64 a.who,s,.int .i64 a.buf,.int .i64 a.lo,.int .i64 a.hi,.bool a.wr]∧jP h s a.when_
theorem vL.ext {h h':af}{v:Value}{a:Acc}(H:vL h v a)(e:Ext h h'):vL h' v a:=by
 obtain⟨s,rfl,A⟩:=H;exact⟨s,rfl,A.ext e⟩
def IE (a b:Acc):Bool:=decide (a.buf=b.buf)&&decide (max a.lo b.lo<min a.hi b.hi)
def Fz (a b:Acc):Bool:= !decide (a.who=b.who)&&(a.wr||b.wr)&&IE a b&& !Fe a.when_ b.when_&& !Fe b.when_ a.when_
theorem WP {h:af}{v u:Value}{a b:Acc}(F:vL h v a)(I:vL h u b):
  ae prog sQ #[v,u] h λr h'=>r=.bool (IE a b)∧Ext h h':=by
 apply Gi;unfold xm;obtain⟨s,rfl,hs⟩:=F;obtain⟨s',rfl,G⟩:=I;simp only[bG];refine aC λL h1 r1 H _=>aC λU W r2 D _=>?_
 have r1:=D.row r1;have e:=H.trans D;simp only[go_sem,ai r1,ai r2];by_cases A:a.buf=b.buf
 ·simp only[go_sem,A,ai r1,ai r2];exact⟨by simp[IE,A],e⟩
 ·simp only[go_sem,A];exact⟨by simp[IE,A],e⟩
theorem U9 {h:af}{v u:Value}{a b:Acc}(ha:vL h v a)(hb:vL h u b)(hn:a.when_.length≤9223372036854775807)(hm:b.when_.length≤9223372036854775807):
  ae prog oG #[v,u] h λr h'=>r=.bool (Fz a b)∧Ext h h':=by
 apply Ia;unfold yd;have W:=ha;have U:=hb;obtain⟨s,rfl,hs⟩:=ha;obtain⟨s',rfl,F⟩:=hb;simp only[bG];refine aC λb1 h1 r1 e1 _=>aC λb2 h2 r2 e2 _=>?_
 have r1:=e2.row r1;have e:=e1.trans e2;have l1:=aM r1 6 rfl;have l2:=aM r2 6 rfl;simp only[go_sem,ai r1,ai r2];by_cases I:a.who=b.who
 ·simp only[go_sem,I];exact⟨by simp[Fz,I],e⟩
 cases D:a.wr<;>cases A:b.wr<;>simp only[go_sem,I,ai r1,ai r2,l1,l2,D,A]
 ·exact⟨by simp[Fz,D,A],e⟩
 all_goals
  refine(WP (a:=a) (b:=b) ?_ ?_).mono ?_
  ·rw[←D];exact W.ext e
  ·rw[←A];exact U.ext e
  rintro _ h3 ⟨rfl,L⟩;have r1:=L.row r1;have r2:=L.row r2;have e:=e.trans L;cases H:IE a b with
  |false=>simp only[go_sem];exact⟨by simp[Fz,H],e⟩
  | true=>
   simp only[go_sem,ai r1,ai r2];refine(RX (hs.ext e) (F.ext e) hn).mono ?_;rintro _ _ ⟨rfl,rfl⟩;cases G:Fe a.when_ b.when_ with
   |true=>simp only[go_sem];exact⟨by simp[Fz,G],e⟩
   |false=>
    simp only[go_sem,ai r1,ai r2];refine(RX (F.ext e) (hs.ext e) hm).mono ?_;rintro _ _ ⟨rfl,rfl⟩;simp only[go_sem];exact⟨by simp[Fz,I,H,G,D,A],e⟩
end Go.Proofs.YtjljhnandbbldaaGreatDoor
namespace Go.Proofs.YtjljhnandbbldaaGreatDoor
open Go Go.Crisp
attribute [local irreducible] ae cE aP stK aA vK qK bC gK dK aU
open _root_.Go.Proofs.Tryz
theorem OJ {h:af}{b:Nat}{l:List Int}{t:TypeId}{f:Nat×Nat}{cap:Nat}(r:h[b]? =some (.cells (l.map vi).toArray t f)):jP h (.slice (some ⟨b,0,none⟩) l.length cap) l:=
 ⟨_,cap,rfl,.inr ⟨b,0,rfl,λi hi=>by rw[Nat.zero_add,ai r];simp[hi]⟩⟩
theorem W8 {h:af}:ae prog uJ #[] h λr h'=>r=.bool true∧Ext h h':=by
 apply Ig;unfold yj;refine cz (c':=#[.int .i64 1,.int .i64 0]) (by kernel_rfl) λG h1 r1 e1 _=>?_
 rw[GE _ #[.int .i64 0,.slice (some ⟨G,0,none⟩) 2 2,.int .i64 0,.int .i64 3,.int .i64 4,.bool true] (by kernel_rfl)];refine aC λb2 h2 r2 e2 n2=>?_
 refine ch (l:=[.int .i64 0,.slice (some ⟨G,0,none⟩) 2 2,.int .i64 0,.int .i64 3,.int .i64 4,.bool true]) r2 rfl (by simp[aJ]) rfl λL r3 u3=>?_
 have I:Ext h1 L:=e2.upd n2 u3;refine cz (c':=#[.int .i64 0,.int .i64 1]) (by kernel_rfl) λH h4 r4 e4 _=>?_
 rw[GE _ #[.int .i64 1,.slice (some ⟨H,0,none⟩) 2 2,.int .i64 0,.int .i64 2,.int .i64 9,.bool true] (by kernel_rfl)];refine aC λb5 h5 r5 e5 n5=>?_
 refine ch (l:=[.int .i64 1,.slice (some ⟨H,0,none⟩) 2 2,.int .i64 0,.int .i64 2,.int .i64 9,.bool true]) r5 rfl (by simp[aJ]) rfl λD r6 u6=>?_
 have U:Ext h4 D:=e5.upd n5 u6;have A:Ext L D:=e4.trans U;have l3:=aM (A.row r3) 6 rfl;have W:=aM r6 6 rfl;have i1:jP D (.slice (some ⟨G,0,none⟩) 2 2) [1,0]:=OJ (l:=[1,0]) ((I.trans A).row r1);have i4:jP D (.slice (some ⟨H,0,none⟩) 2 2) [0,1]:=OJ (l:=[0,1]) (U.row r4);have A1:vL D (.agg #[.int .i64 0,.slice (some ⟨G,0,none⟩) 2 2,.int .i64 0,.int .i64 3,.int .i64 4,.bool true]) ⟨0,[1,0],0,3,4,true⟩:=⟨_,rfl,i1⟩
 have A4:vL D (.agg #[.int .i64 1,.slice (some ⟨H,0,none⟩) 2 2,.int .i64 0,.int .i64 2,.int .i64 9,.bool true]) ⟨1,[0,1],0,2,9,true⟩:=⟨_,rfl,i4⟩
 have e:Ext h D:=e1.trans (I.trans A);simp only[go_sem,l3,W];refine(U9 A1 A4 (by simp) (by simp)).mono ?_;rintro _ h7 ⟨rfl,F⟩;rw[show Fz ⟨0,[1,0],0,3,4,true⟩ ⟨1,[0,1],0,2,9,true⟩=true from by decide];simp only[go_sem,F.lds l3,F.lds W];refine(U9 (A4.ext F) (A1.ext F) (by simp) (by simp)).mono ?_;rintro _ h8 ⟨rfl,e8⟩;rw[show Fz ⟨1,[0,1],0,2,9,true⟩ ⟨0,[1,0],0,3,4,true⟩=true from by decide];simp only[go_sem];exact⟨trivial,e.trans (F.trans e8)⟩
end Go.Proofs.YtjljhnandbbldaaGreatDoor
namespace Go.Proofs.YtjljhnandbbldaaGreatDoor
open Go Go.Crisp
attribute [local irreducible] ae cE aP stK aA vK qK bC gK dK aU mkK cF Ch
open _root_.Go.Proofs.Tryz
abbrev rIa:Rp Int:=Rp.int .i64
theorem Ma {Z:Nat→Prop}{h:af}{v:Value}{l:List Int}(H:Rp.Sl rIa Z h v l):jP h v l:=by
 obtain⟨ds,D,_,I⟩:=H;have F:ds.length=l.length:=by have:=D.1;simpa[Rp.int]using this
 have:ds=l.map vi:=by
  apply List.ext_getElem (by simp[F]);intro i h1 L;have G:=I i (by omega);have A:Rp.el 1 ds i=[.int .i64 l[i]]:=G;rw[Rp.el_one h1]at A;rw[List.getElem_map];simpa[vi]using A
 subst this;exact RB D
theorem wA {Z:Nat→Prop}{h:af}{v:Value}{l:List Int}(H:jP h v l)(A:l≠[]→∀b,blk v b→Z b):Rp.Sl rIa Z h v l:=by
 refine⟨l.map vi,H.sl,λh0=>A (by simpa using h0),λi hi=>?_⟩;show Rp.el 1 (l.map vi) i=[.int .i64 l[i]];rw[Rp.el_one (by simpa using hi)];simp[vi]
def ur:Rp Acc where
 w:=6
 R:=λZ h cs a=>∃s,cs=[.int .i64 a.who,s,.int .i64 a.buf,.int .i64 a.lo,.int .i64 a.hi,.bool a.wr]∧Rp.Sl rIa Z h s a.when_
 len:=by rintro _ _ _ _ ⟨s,rfl,_⟩;rfl
 one:=by
  rintro _ _ _ _ ⟨s,rfl,H⟩ v hv;have:=H.one;simp only[List.mem_cons,List.not_mem_nil,or_false]at hv;rcases hv with rfl|rfl|rfl|rfl|rfl|rfl<;>first|rfl|exact this
 fr:=by rintro _ _ _ _ _ _ ⟨s,rfl,H⟩ f q;exact⟨s,rfl,H.fr f q⟩
 mono:=by rintro _ _ _ _ _ ⟨s,rfl,H⟩ q;exact⟨s,rfl,H.mono q⟩
def Qn (a:Acc):Bool:=decide (0≤a.who)&&(decide (0≤a.buf)&&(decide (0≤a.lo)&&decide (a.lo<a.hi)))
theorem c_may {h:af}{v:Value}{a:Acc}(H:vL h v a):ae prog wU #[v] h λr h'=>r=.bool (Qn a)∧Ext h h':=by
 obtain⟨s,rfl,_⟩:=H;apply KH;unfold A3;simp only[bG];refine aC λb h1 r1 G I=>?_
 by_cases A:0≤a.who
 ·by_cases D:0≤a.buf
  ·by_cases F:0≤a.lo
   ·simp only[go_sem,ai r1,A,D,F];exact⟨by simp[Qn,A,D,F],G⟩
   ·simp only[go_sem,ai r1,A,D,F];exact⟨by simp[Qn,A,D,F],G⟩
  ·simp only[go_sem,ai r1,A,D];exact⟨by simp[Qn,A,D],G⟩
 ·simp only[go_sem,ai r1,A];exact⟨by simp[Qn,A],G⟩
theorem WV {h:af}{v:Value}{a:Acc}(ha:vL h v a)(hl:a.when_.length≤4398046511104):
  ae prog sS #[v] h λr h'=>∃ds,r=.agg (List.toArray ds)∧ur.R (λb=>h.size≤b∧b<h'.size) h' ds a∧Ext h h':=by
 obtain⟨s,rfl,hs⟩:=ha;apply Gj;unfold xn;simp only[bG];refine aC λL h1 r1 I n1=>aC λb3 h3 r3 H n3=>?_
 have D:=H.row r1;simp only[go_sem,ai D];refine(RV ((hs.ext I).ext H) hl).mono ?_;rintro G h4 ⟨o4,U,n4⟩;have aa:=z7 o4;refine bK (o:=1) (U.row D) (by simp) aa λh5 r5 W=>?_
 have r5:h5[L]? =some (.cells (List.toArray [.int .i64 a.who,G,.int .i64 a.buf,.int .i64 a.lo,.int .i64 a.hi,.bool a.wr]) _ (0,0)):=r5;rw[aM r5 6 rfl,ah];have ad:b3≠L:=by have:=aW r1;omega
 refine ch (l:=[.int .i64 a.who,G,.int .i64 a.buf,.int .i64 a.lo,.int .i64 a.hi,.bool a.wr]) (W.row ad (U.row r3)) rfl (by repeat' (first|rfl|assumption|exact aQ|refine ak ?_ ?_)) rfl λh6 r6 u6=>?_
 rw[aM r6 6 rfl,ah];have ab:Ext h h6:=(((I.trans H).trans U).upd n1 W).upd (Nat.le_trans I.1 n3) u6;refine⟨_,rfl,⟨G,rfl,?_⟩,ab⟩;have F:∀b,blk G b→b≠L∧b≠b3:=λb A=>by
  have h1:=n4 b A;have h2:=aW D;have h3:=aW r3;exact⟨by omega,by omega⟩
 have o6:iT h6 G a.when_:=(o4.fr W.fr λb A=>(F b A).1).fr u6.fr λb A=>(F b A).2
 exact wA o6.ints λ_ b A=>⟨Nat.le_trans (I.trans H).1 (n4 b A),o6.lt A⟩
end Go.Proofs.YtjljhnandbbldaaGreatDoor
namespace Go.Proofs.YtjljhnandbbldaaGreatDoor
open Go Go.Crisp
attribute [local irreducible] ae cE aP stK aA vK qK bC gK dK aU mkK cF Ch
instance:Inhabited Acc:=⟨⟨0,[],0,0,0,false⟩⟩
end Go.Proofs.YtjljhnandbbldaaGreatDoor
namespace Go.Proofs.YtjljhnandbbldaaGreatDoor
open Go Go.Crisp
attribute [local irreducible] ae cE aP stK aA vK qK bC gK dK aU mkK cF Ch qQ lW Rw
open _root_.Go.Proofs.Tryz
section
section
variable {Z:Nat→Prop}{h:af}{bx o:Nat}{cs:Array Value}{t:TypeId}{sl:Value}{l:List Acc}
structure Vr (Z:Nat→Prop)(h:af)(bx o:Nat)(cs:Array Value)(t:TypeId)(sl:Value)(l:List Acc):Prop where
 var:h[bx]? =some (.cells cs t (0,0))
 pl:cs[o]? =some sl
 own:Rp.Ow ur Z h sl l
 ap:¬blk sl bx∧¬Z bx
 zlt:∀b,Z b→b<h.size
theorem Yu {u:Value}{a:Acc}(L:Vr Z h bx o cs t sl l)(hu:vL h u a)(ha:a.when_.length≤4398046511104)(hl:l.length≤1000000)(hm:Qn a=true):
  ae prog kg #[.pointer (some ⟨bx,o,none⟩),u] h λr h'=>∃s' Z',Vr Z' h' bx o (cs.setIfInBounds o s') t s' (l++[a])∧Fr (λb=>b=bx∨blk sl b) h h'∧(∀b,blk s' b→blk sl b∨h.size≤b)∧∀b,Z' b→Z b∨h.size≤b:=by
 have ar:=aW L.var;have ho:o<cs.size:=(Array.getElem?_eq_some_iff.1 L.pl).1;obtain⟨s,rfl,hs⟩:=hu;apply yT;unfold o0;simp only[bG];refine aC λb1 h1 r1 e1 n1=>?_
 rw[aM (l:=[.int .i64 a.who,s,.int .i64 a.buf,.int .i64 a.lo,.int .i64 a.hi,.bool a.wr]) r1 6 rfl,ah];have A1:vL h1 (.agg #[.int .i64 a.who,s,.int .i64 a.buf,.int .i64 a.lo,.int .i64 a.hi,.bool a.wr]) a:=⟨s,rfl,hs.ext e1⟩
 refine(c_may A1).mono ?_;rintro _ h2 ⟨rfl,e2⟩;have G:=e1.trans e2;simp only[hm,go_sem,Nat.add_zero];have F:=e2.row r1;have v2:=G.row L.var;refine aI (λhh=>hh[bx]? =some (.cells cs t (0,0))∧aH 6 hh (.pointer (some ⟨b1,0,none⟩))=some (.agg #[.int .i64 a.who,s,.int .i64 a.buf,.int .i64 a.lo,.int .i64 a.hi,.bool a.wr]))
  ⟨v2,aM (l:=[.int .i64 a.who,s,.int .i64 a.buf,.int .i64 a.lo,.int .i64 a.hi,.bool a.wr]) F 6 rfl⟩ ?_
 refine ao sl (λhh S=>by rw[ai S.1,L.pl]) ?_;refine ao _ (λhh S=>S.2) ?_;refine(WV (A1.ext e2) ha).mono ?_;rintro _ h3 ⟨ds,rfl,ab,e3⟩;have al:=G.trans e3;refine⟨⟨e3.row v2,aM (l:=[.int .i64 a.who,s,.int .i64 a.buf,.int .i64 a.lo,.int .i64 a.hi,.bool a.wr]) (e3.row F) 6 rfl⟩,?_⟩;have U:ds.length=6:=ur.len ab;refine cz (Rp.fill_whole rfl U) λb4 h4 r4 H n4=>?_
 have D:=al.trans H;refine⟨⟨H.row (e3.row v2),H.lds (aM (l:=[.int .i64 a.who,s,.int .i64 a.buf,.int .i64 a.lo,.int .i64 a.hi,.bool a.wr]) (e3.row F) 6 rfl)⟩,?_⟩;have S1:=Rp.SlC.single r4;rw[U]at S1;have dz:∀b,blk sl b→¬Z b:=by obtain⟨_,_,d,_⟩:=L.own;exact d
 have o4:Rp.Ow ur (λb=>Z b∨(h.size≤b∧b<h3.size)) h4 sl l:=(L.own.ext D).mono (λb _ A=>.inl A) λb A hz=>by
  rcases hz with hz|hz
  ·exact dz b A hz
  ·have:=L.own.lt A;omega
 refine Rp.app_ow (e:=ur) (l2:=[a]) o4 S1 (λi hi=>?_) rfl (by simp;omega) (by simp;omega) (λb A=>?_) λs' h5 o5 f5 n5=>?_
 ·have hi:i=0:=by simpa using hi
  subst hi;rw[show Rp.el ur.w ds 0=ds from Rp.el_self U];exact ur.mono (ur.ext ab H) λb _ A=>.inr ⟨Nat.le_trans G.1 A.1,A.2⟩
 ·rcases A with A|A
  ·exact Nat.lt_of_lt_of_le (L.zlt b A) D.1
  ·exact Nat.lt_of_lt_of_le A.2 H.1
 have v5:h5[bx]? =some (.cells cs t (0,0)):=f5.row (D.row L.var) L.ap.1;have an:¬blk sl b1:=λA=>by have:=L.own.lt A;omega
 refine⟨⟨v5,aM (l:=[.int .i64 a.who,s,.int .i64 a.buf,.int .i64 a.lo,.int .i64 a.hi,.bool a.wr]) (f5.row ((e3.trans H).row F) an) 6 rfl⟩,?_⟩;refine bK v5 ho o5.one λh6 r6 u6=>?_
 have aa:∀b,blk s' b→b≠bx:=λb A I=>by
  rcases n5 b A with W|W
  ·exact L.ap.1 (I▸W)
  ·have:=D.1;omega
 have ad:∀b,(Z b∨(h.size≤b∧b<h3.size))→b≠bx:=λb A I=>by
  rcases A with A|A
  ·exact L.ap.2 (I▸A)
  ·omega
 have o6:=o5.fr u6.fr (λb _ A=>ad b A) aa;refine⟨s',λb=>Z b∨(h.size≤b∧b<h3.size),⟨r6,by simp[ho],o6,⟨λA=>aa bx A rfl,λA=>ad bx A rfl⟩,λb A=>?_⟩,?_,λb A=>?_,λb A=>A.imp id And.left⟩
 ·have W:h4.size≤h6.size:=by rw[u6.1];exact f5.1
  rcases A with A|A
  ·have:=L.zlt b A;have:=D.1;omega
  ·have:=H.1;omega
 ·exact(D.fr.trans (f5.mono λb _ A=>.inr A)).trans (u6.fr.mono λb _ A=>.inl A)
 ·rcases n5 b A with W|W
  ·exact .inl W
  ·exact .inr (Nat.le_trans D.1 W)
end
end
end Go.Proofs.YtjljhnandbbldaaGreatDoor
namespace Go.Proofs.YtjljhnandbbldaaGreatDoor
open Go Go.Crisp
attribute [local irreducible] ae cE aP stK aA vK qK bC gK dK aU mkK cF Ch DH zZ bsK clK qQ lW Rw
section
def rIs:Rp (List Int) where
 w:=1
 R:=λZ h cs l=>∃v,cs=[v]∧Rp.Sl (Rp.int .i64) Z h v l
 len:=by rintro _ _ _ _ ⟨_,rfl,_⟩;rfl
 one:=by
  rintro _ _ _ _ ⟨_,rfl,H⟩;exact ak H.one aQ
 fr:=by rintro _ _ _ _ _ _ ⟨v,rfl,H⟩ f q;exact⟨v,rfl,H.fr f q⟩
 mono:=by rintro _ _ _ _ _ ⟨v,rfl,H⟩ q;exact⟨v,rfl,H.mono q⟩
structure PV where
 vc:Value
 sl:Value
 wv:Value
 dv:Value
 sv:Value
 ev:Value
 lv:Value
structure bL where
 q:QD
 rows:Nat→List Int
 acc:List Acc
 ws:Nat→WD
 words:Nat→Int
 sent:Int
 stamps:List (List Int)
 fin:List Int
 left:List (List Int)
 ret:Bool
 picks:Int
def gk (C:C21)(V:PV)(P:bL):Array Value:=#[ptr C.bf,ptr C.bt,ptr C.bl,ptr C.bq,V.vc,V.sl,V.wv,V.dv,.int .i64 P.sent,V.sv,V.ev,V.lv,.bool P.ret,.int .i64 P.picks]
def qH (o:Nat→Nat)(k:Nat)(h:af)(v:Value)(l:List (List Int)):Prop:=∃Z:Nat→Prop,Rp.Ow rIs Z h v l∧(∀c,Z c→o c=k)∧∀c,blk v c→o c=k
structure aL (X:Nat→Prop)(C:C21)(Z:Nat→Prop)(K:Nat)(h0:af)(bw:Nat→Nat)(bp:Nat)(o:Nat→Nat)(n:Pic)(V:PV)(P:bL)(h:af):Prop where
 q:¬X 1→IsQ (λc=>o c=1) h C.bq P.q
 c:¬X 2→dX (λc=>o c=2) h V.vc (K+1) P.rows
 l:¬X 3→∃Zl:Nat→Prop,Rp.Ow ur Zl h V.sl P.acc∧(∀c,Zl c→o c=3)∧∀c,blk V.sl c→o c=3
 p:¬X 4→h[bp]? =some (.cells (gk C V P) 106 (0,0))
 w:¬X 5→Own 1 h V.dv K ((List.range K).map λi=>.int .i64 (P.words i))∧∀c,blk V.dv c→o c=5
 s:¬X 6→qH o 6 h V.sv P.stamps
 f:¬X 7→qH o 7 h V.lv P.left
 e:¬X 8→Rp.Sl (Rp.int .i64) (λc=>o c=8) h V.ev P.fin
 wk:¬X 9→SlC 1 h V.wv K ((List.range K).map λi=>ptr (bw i))∧∀c,blk V.wv c→o c=9
 ws:∀i,i<K→¬X (10+i)→IsW Z (λc=>o c=10+i) h (bw i) (some C.E) n (P.ws i)
 po:o bp=4
 set:xA Z h C.bf C.vf C.bt C.vt C.p C.q C.m n C.d.s
 pl:p8 Z h C.bl C.d C.pp C.pq
 zl:Z C.bl∧C.pp=C.p∧C.pq=C.q
 sui:C.suits n
 ow:∀c,o c≠0→c<h.size∧h0.size≤c∧¬Z c∧xB (some C.E) c∧¬dd (some C.E) c
 ext:Ext h0 h
 few:1≤K∧K≤256
section
variable {X:Nat→Prop}{C:C21}{Z:Nat→Prop}{K:Nat}{h0 h h':af}{bw:Nat→Nat}{bp:Nat}{o:Nat→Nat}{n:Pic}{V:PV}{P:bL}
theorem qH.fr {k:Nat}{v:Value}{l:List (List Int)}{M:Nat→Prop}(H:qH o k h v l)(f:Fr M h h')(q:∀c,o c=k→¬M c):qH o k h' v l:=by
 obtain⟨Z,F,A,D⟩:=H;exact⟨Z,F.fr f (λc _ hc=>q c (A c hc)) λc hc=>q c (D c hc),A,D⟩
theorem aL.chgO (H:aL X C Z K h0 bw bp o n V P h){A:Nat→Prop}(ha:¬A 0){n':Pic}(hb:∀c,dd (some C.E) c→h0.size≤c)(f:Fr (λc=>A (o c)∨dd (some C.E) c) h h')(I2:gO h' (some C.E) n')(D:dp n n'):aL (λk=>X k∨A k) C Z K h0 bw bp o n' V P h':=by
 have no:∀c,o c≠0→¬dd (some C.E) c:=λc hc=>(H.ow c hc).2.2.2.2
 have g:∀k,k≠0→¬A k→∀c,o c=k→¬(A (o c)∨dd (some C.E) c):=λk h0 hk c hc h=>h.elim (by rw[hc];exact hk) (no c (by rw[hc];exact h0))
 have G:∀{k},¬(X k∨A k)→¬X k∧¬A k:=λh=>⟨λx=>h (.inl x),λx=>h (.inr x)⟩
 have W:∀c,A (o c)→c<h.size∧h0.size≤c∧¬Z c∧xB (some C.E) c∧¬dd (some C.E) c:=λc hc=>H.ow c λh=>ha (h▸hc)
 have L:∀c,Z c→¬(A (o c)∨dd (some C.E) c):=λc hz hc=>hc.elim (λhc=>(W c hc).2.2.1 hz) (H.set.zz c hz)
 obtain⟨p1,p2,p3⟩:=H.pl;obtain⟨I,wf⟩:=I2 C.E rfl;obtain⟨s1,s2,s3,s4,s5⟩:=H.sui.2;refine⟨λF=>(H.q (G F).1).fr f (g 1 (by omega) (G F).2),λF=>(H.c (G F).1).fr f λc _=>g 2 (by omega) (G F).2 c,λF=>?_,λF=>f.row (H.p (G F).1) (g 4 (by omega) (G F).2 bp H.po),λF=>⟨(H.w (G F).1).1.fr f λc hc=>g 5 (by omega) (G F).2 c ((H.w (G F).1).2 c hc),(H.w (G F).1).2⟩,λF=>(H.s (G F).1).fr f (g 6 (by omega) (G F).2),λF=>(H.f (G F).1).fr f (g 7 (by omega) (G F).2),λF=>(H.e (G F).1).fr f λc _=>g 8 (by omega) (G F).2 c,
  λF=>⟨(H.wk (G F).1).1.fr f λc _ hc=>g 9 (by omega) (G F).2 c ((H.wk (G F).1).2 c hc),(H.wk (G F).1).2⟩,λi hi F=>(H.ws i hi (G F).1).other f L (g (10+i) (by omega) (G F).2) I2 D,H.po,H.set.chg f L I,⟨f.row p1 (L _ H.zl.1),p2.fr f λc _=>L c,p3.fr f λc _=>L c⟩,H.zl,⟨wf,s1,by rw[D.w];exact s2,by rw[D.h];exact s3,by rw[D.c];exact s4,by rw[D.m];exact s5⟩,λc hc=>⟨Nat.lt_of_lt_of_le (H.ow c hc).1 f.1,(H.ow c hc).2⟩,H.ext.then_fr f λc hc=>hc.elim (λh=>(W c h).2.1) (hb c),H.few⟩
 obtain⟨Zl,o1,U,z2⟩:=H.l (G F).1;exact⟨Zl,o1.fr f (λc _ hc=>g 3 (by omega) (G F).2 c (U c hc)) λc hc=>g 3 (by omega) (G F).2 c (z2 c hc),U,z2⟩
theorem aL.ex0 (H:aL X C Z K h0 bw bp o n V P h):gO h (some C.E) n:=λD A=>by cases A;exact⟨H.set.out,H.sui.1⟩
theorem aL.chgM (H:aL X C Z K h0 bw bp o n V P h){A M:Nat→Prop}(f:Fr M h h')(I:∀c,M c→(A (o c)∨o c=0)∧h0.size≤c∧¬Z c∧xB (some C.E) c∧¬dd (some C.E) c):aL (λk=>X k∨A k) C Z K h0 bw bp o n V P h':=by
 have U:gO h' (some C.E) n:=H.ex0.fr f λc hc _=>(I c hc).2.2.2
 have G:∀c,Z c→¬M c:=λc hz hc=>(I c hc).2.2.1 hz
 have g:∀k,k≠0→¬A k→∀c,o c=k→¬M c:=λk k0 hk c hc hm=>(I c hm).1.elim (by rw[hc];exact hk) λh=>k0 (by rw[←hc,h])
 have F:∀{k},¬(X k∨A k)→¬X k∧¬A k:=λh=>⟨λx=>h (.inl x),λx=>h (.inr x)⟩
 obtain⟨p1,p2,p3⟩:=H.pl;refine⟨λD=>(H.q (F D).1).fr f (g 1 (by omega) (F D).2),λD=>(H.c (F D).1).fr f λc _=>g 2 (by omega) (F D).2 c,λD=>?_,λD=>f.row (H.p (F D).1) (g 4 (by omega) (F D).2 bp H.po),λD=>⟨(H.w (F D).1).1.fr f λc hc=>g 5 (by omega) (F D).2 c ((H.w (F D).1).2 c hc),(H.w (F D).1).2⟩,λD=>(H.s (F D).1).fr f (g 6 (by omega) (F D).2),λD=>(H.f (F D).1).fr f (g 7 (by omega) (F D).2),λD=>(H.e (F D).1).fr f λc _=>g 8 (by omega) (F D).2 c,
  λD=>⟨(H.wk (F D).1).1.fr f λc _ hc=>g 9 (by omega) (F D).2 c ((H.wk (F D).1).2 c hc),(H.wk (F D).1).2⟩,λi hi D=>(H.ws i hi (F D).1).other f G (g (10+i) (by omega) (F D).2) U (dp.refl n),H.po,H.set.chg f G (U C.E rfl).1,⟨f.row p1 (G _ H.zl.1),p2.fr f λc _=>G c,p3.fr f λc _=>G c⟩,H.zl,H.sui,λc hc=>⟨Nat.lt_of_lt_of_le (H.ow c hc).1 f.1,(H.ow c hc).2⟩,H.ext.then_fr f λc hc=>(I c hc).2.1,H.few⟩
 obtain⟨Zl,o1,L,W⟩:=H.l (F D).1;exact⟨Zl,o1.fr f (λc _ hc=>g 3 (by omega) (F D).2 c (L c hc)) λc hc=>g 3 (by omega) (F D).2 c (W c hc),L,W⟩
theorem aL.chg (H:aL X C Z K h0 bw bp o n V P h){A:Nat→Prop}(D:¬A 0)(f:Fr (λc=>A (o c)) h h'):aL (λk=>X k∨A k) C Z K h0 bw bp o n V P h':=
 H.chgM f λc hc=>⟨.inl hc,(H.ow c λh=>D (h▸hc)).2⟩
theorem aL.less {Y:Nat→Prop}(H:aL X C Z K h0 bw bp o n V P h)(k:∀i,X i→Y i):aL Y C Z K h0 bw bp o n V P h:=
 ⟨λA=>H.q (A∘k _),λA=>H.c (A∘k _),λA=>H.l (A∘k _),λA=>H.p (A∘k _),λA=>H.w (A∘k _),λA=>H.s (A∘k _),λA=>H.f (A∘k _),λA=>H.e (A∘k _),λA=>H.wk (A∘k _),λi hi A=>H.ws i hi (A∘k _),H.po,H.set,H.pl,H.zl,H.sui,H.ow,H.ext,H.few⟩
theorem aL.loc (H:aL X C Z K h0 bw bp o n V P h){b:Nat}(u:Upd b h h')(D:o b=0∧h0.size≤b∧¬Z b∧xB (some C.E) b∧¬dd (some C.E) b):aL X C Z K h0 bw bp o n V P h':=
 (H.chgM (A:=λ_=>False) u.fr λc hc=>by rw[show c=b from hc];exact⟨.inr D.1,D.2⟩).less λk F=>F.elim id False.elim
theorem aL.ex (H:aL X C Z K h0 bw bp o n V P h)(e:Ext h h'):aL X C Z K h0 bw bp o n V P h':=by
 obtain⟨G,L,U⟩:=H.pl;have I2:gO h' (some C.E) n:=λE' D=>by cases D;exact⟨H.set.out.ext e,H.sui.1⟩
 refine⟨λA=>(H.q A).ext e,λA=>(H.c A).ext e,λA=>?_,λA=>e.row (H.p A),λA=>⟨(H.w A).1.fr (M:=λ_=>False) e.fr λ_ _=>id,(H.w A).2⟩,λA=>(H.s A).fr (M:=λ_=>False) e.fr λ_ _=>id,λA=>(H.f A).fr (M:=λ_=>False) e.fr λ_ _=>id,λA=>(H.e A).ext e,λA=>⟨(H.wk A).1.ext e,(H.wk A).2⟩,λi hi A=>(H.ws i hi A).ext e,H.po,H.set.ext e,⟨e.row G,L.ext e,U.ext e⟩,H.zl,H.sui,λc hc=>⟨Nat.lt_of_lt_of_le (H.ow c hc).1 e.1,(H.ow c hc).2⟩,H.ext.trans e,H.few⟩;obtain⟨I,o1,F,W⟩:=H.l A;exact⟨I,o1.ext e,F,W⟩
def grow (o:Nat→Nat)(b lo hi:Nat):Nat→Nat:=λc=>if lo≤c∧c<hi then b else o c
theorem gm {b lo hi c:Nat}(h:c<lo):grow o b lo hi c=o c:=if_neg (by omega)
theorem aL.relab (H:aL X C Z K h0 bw bp o n V P h){B:Nat→Prop}{o':Nat→Nat}{lo:Nat}(e:∀c,c<lo→o' c=o c)(hl:∀c,lo≤c→o c=0)(hb:∀c,lo≤c→o' c≠0→B (o' c)∧c<h.size)(h1:h0.size≤lo)(h2:∀c,lo≤c→¬Z c∧xB (some C.E) c∧¬dd (some C.E) c):aL (λk=>X k∨B k) C Z K h0 bw bp o' n V P h:=by
 have D:∀{k},¬(X k∨B k)→¬X k∧¬B k:=λh=>⟨λx=>h (.inl x),λx=>h (.inr x)⟩
 have g:∀k,¬B k→k≠0→∀c,o' c=k↔o c=k:=λk F h0 c=>by
  rcases Nat.lt_or_ge c lo with h|h
  ·rw[e c h]
  ·rw[hl c h];exact⟨λU=>absurd (by rw[←U];exact(hb c h (by omega)).1) F,λU=>absurd U.symm h0⟩
 have G:∀k,¬B k→k≠0→(λc=>o' c=k)=λc=>o c=k:=λk F h0=>funext λc=>propext (g k F h0 c)
 have gr:∀{k v l},¬B k→k≠0→qH o k h v l→qH o' k h v l:=λF h0 ⟨Z1,L,I,W⟩=>⟨Z1,L,λc hc=>(g _ F h0 c).2 (I c hc),λc hc=>(g _ F h0 c).2 (W c hc)⟩
 have lb:bp<lo:=Nat.lt_of_not_le λh=>by have:=hl bp h;have:=H.po;omega
 refine⟨λA=>by rw[G 1 (D A).2 (by omega)];exact H.q (D A).1,λA=>by rw[G 2 (D A).2 (by omega)];exact H.c (D A).1,λA=>?_,λA=>H.p (D A).1,λA=>⟨(H.w (D A).1).1,λc hc=>(g 5 (D A).2 (by omega) c).2 ((H.w (D A).1).2 c hc)⟩,λA=>gr (D A).2 (by omega) (H.s (D A).1),λA=>gr (D A).2 (by omega) (H.f (D A).1),λA=>by rw[G 8 (D A).2 (by omega)];exact H.e (D A).1,λA=>⟨(H.wk (D A).1).1,λc hc=>(g 9 (D A).2 (by omega) c).2 ((H.wk (D A).1).2 c hc)⟩,
  λi hi A=>by rw[G (10+i) (D A).2 (by omega)];exact H.ws i hi (D A).1,by rw[e bp lb];exact H.po,H.set,H.pl,H.zl,H.sui,λc hc=>?_,H.ext,H.few⟩
 ·obtain⟨Zl,L,I,W⟩:=H.l (D A).1;exact⟨Zl,L,λc hc=>(g 3 (D A).2 (by omega) c).2 (I c hc),λc hc=>(g 3 (D A).2 (by omega) c).2 (W c hc)⟩
 ·rcases Nat.lt_or_ge c lo with h|h
  ·rw[e c h]at hc;exact H.ow c hc
  ·exact⟨(hb c h hc).2,by omega,h2 c h⟩
theorem aL.own (H:aL X C Z K h0 bw bp o n V P h){b lo:Nat}(D:∀c,lo≤c→o c=0)(h1:h0.size≤lo)(F:∀c,lo≤c→¬Z c∧xB (some C.E) c∧¬dd (some C.E) c):aL (λk=>X k∨k=b) C Z K h0 bw bp (grow o b lo h.size) n V P h:=
 H.relab (λc hc=>gm hc) D (λc hc h=>by
  unfold grow at h ⊢;split at h
  ·rename_i A;rw[if_pos A];exact⟨rfl,A.2⟩
  ·exact absurd (D c hc) h) h1 F
theorem aL.fresh (H:aL X C Z K h0 bw bp o n V P h){c:Nat}(hc:h.size≤c):o c=0∧¬Z c∧xB (some C.E) c∧¬dd (some C.E) c:=by
 have F:gO h (some C.E) n:=λG A=>by cases A;exact⟨H.set.out,H.sui.1⟩
 refine⟨Classical.byContradiction λh=>?_,λD=>?_,F.new hc⟩
 ·have:=(H.ow c h).1;omega
 ·have:=H.set.zl c D;omega
theorem aL.take (H:aL X C Z K h0 bw bp o n V P h){A:PV}{P1:bL}{F:Pic}{D:Nat→Prop}(G:aL D C Z K h0 bw bp o F A P1 h'){b:Nat}:aL (λk=>D k∨k=b) C Z K h0 bw bp (grow o b h.size h'.size) F A P1 h':=
 G.own (λc hc=>(H.fresh hc).1) H.ext.1 λc hc=>(H.fresh hc).2
theorem aL.fq (H:aL (λk=>X k∨k=1) C Z K h0 bw bp o n V P h){q:QD}(hq:IsQ (λc=>o c=1) h C.bq q):aL X C Z K h0 bw bp o n V {P with q:=q} h:=
 have D:∀{k},¬X k→k≠1→¬(X k∨k=1):=λa b h=>h.elim a b
 ⟨λ_=>hq,λA=>H.c (D A (by omega)),λA=>H.l (D A (by omega)),λA=>H.p (D A (by omega)),λA=>H.w (D A (by omega)),λA=>H.s (D A (by omega)),λA=>H.f (D A (by omega)),λA=>H.e (D A (by omega)),λA=>H.wk (D A (by omega)),λi hi A=>H.ws i hi (D A (by omega)),H.po,H.set,H.pl,H.zl,H.sui,H.ow,H.ext,H.few⟩
theorem aL.fc (H:aL (λk=>X k∨k=2) C Z K h0 bw bp o n V P h){r:Nat→List Int}(hc:dX (λc=>o c=2) h V.vc (K+1) r):aL X C Z K h0 bw bp o n V {P with rows:=r} h:=
 have D:∀{k},¬X k→k≠2→¬(X k∨k=2):=λa b h=>h.elim a b
 ⟨λA=>H.q (D A (by omega)),λ_=>hc,λA=>H.l (D A (by omega)),λA=>H.p (D A (by omega)),λA=>H.w (D A (by omega)),λA=>H.s (D A (by omega)),λA=>H.f (D A (by omega)),λA=>H.e (D A (by omega)),λA=>H.wk (D A (by omega)),λi hi A=>H.ws i hi (D A (by omega)),H.po,H.set,H.pl,H.zl,H.sui,H.ow,H.ext,H.few⟩
theorem aL.fl (H:aL (λk=>X k∨k=3) C Z K h0 bw bp o n V P h)(G:X 4){sl:Value}{acc:List Acc}(I:∃F:Nat→Prop,Rp.Ow ur F h sl acc∧(∀c,F c→o c=3)∧∀c,blk sl c→o c=3):aL X C Z K h0 bw bp o n {V with sl:=sl} {P with acc:=acc} h:=
 have D:∀{k},¬X k→k≠3→¬(X k∨k=3):=λa b h=>h.elim a b
 ⟨λA=>H.q (D A (by omega)),λA=>H.c (D A (by omega)),λA=>I,λA=>absurd G A,λA=>H.w (D A (by omega)),λA=>H.s (D A (by omega)),λA=>H.f (D A (by omega)),λA=>H.e (D A (by omega)),λA=>H.wk (D A (by omega)),λi hi A=>H.ws i hi (D A (by omega)),H.po,H.set,H.pl,H.zl,H.sui,H.ow,H.ext,H.few⟩
theorem aL.fp (H:aL (λk=>X k∨k=4) C Z K h0 bw bp o n V P h){st:Int}{rt:Bool}{pk:Int}(F:h[bp]? =some (.cells (gk C V {P with sent:=st,ret:=rt,picks:=pk}) 106 (0,0))):aL X C Z K h0 bw bp o n V {P with sent:=st,ret:=rt,picks:=pk} h:=
 have D:∀{k},¬X k→k≠4→¬(X k∨k=4):=λa b h=>h.elim a b
 ⟨λA=>H.q (D A (by omega)),λA=>H.c (D A (by omega)),λA=>H.l (D A (by omega)),λ_=>F,λA=>H.w (D A (by omega)),λA=>H.s (D A (by omega)),λA=>H.f (D A (by omega)),λA=>H.e (D A (by omega)),λA=>H.wk (D A (by omega)),λi hi A=>H.ws i hi (D A (by omega)),H.po,H.set,H.pl,H.zl,H.sui,H.ow,H.ext,H.few⟩
theorem aL.fs (H:aL (λk=>X k∨k=6) C Z K h0 bw bp o n V P h)(F:X 4){sv:Value}{l:List (List Int)}(G:qH o 6 h sv l):aL X C Z K h0 bw bp o n {V with sv:=sv} {P with stamps:=l} h:=
 have D:∀{k},¬X k→k≠6→¬(X k∨k=6):=λa b h=>h.elim a b
 ⟨λA=>H.q (D A (by omega)),λA=>H.c (D A (by omega)),λA=>H.l (D A (by omega)),λA=>absurd F A,λA=>H.w (D A (by omega)),λ_=>G,λA=>H.f (D A (by omega)),λA=>H.e (D A (by omega)),λA=>H.wk (D A (by omega)),λi hi A=>H.ws i hi (D A (by omega)),H.po,H.set,H.pl,H.zl,H.sui,H.ow,H.ext,H.few⟩
theorem aL.ff (H:aL (λk=>X k∨k=7) C Z K h0 bw bp o n V P h)(F:X 4){lv:Value}{l:List (List Int)}(G:qH o 7 h lv l):aL X C Z K h0 bw bp o n {V with lv:=lv} {P with left:=l} h:=
 have D:∀{k},¬X k→k≠7→¬(X k∨k=7):=λa b h=>h.elim a b
 ⟨λA=>H.q (D A (by omega)),λA=>H.c (D A (by omega)),λA=>H.l (D A (by omega)),λA=>absurd F A,λA=>H.w (D A (by omega)),λA=>H.s (D A (by omega)),λ_=>G,λA=>H.e (D A (by omega)),λA=>H.wk (D A (by omega)),λi hi A=>H.ws i hi (D A (by omega)),H.po,H.set,H.pl,H.zl,H.sui,H.ow,H.ext,H.few⟩
theorem aL.fe (H:aL (λk=>X k∨k=8) C Z K h0 bw bp o n V P h)(F:X 4){ev:Value}{l:List Int}(G:Rp.Sl (Rp.int .i64) (λc=>o c=8) h ev l):aL X C Z K h0 bw bp o n {V with ev:=ev} {P with fin:=l} h:=
 have D:∀{k},¬X k→k≠8→¬(X k∨k=8):=λa b h=>h.elim a b
 ⟨λA=>H.q (D A (by omega)),λA=>H.c (D A (by omega)),λA=>H.l (D A (by omega)),λA=>absurd F A,λA=>H.w (D A (by omega)),λA=>H.s (D A (by omega)),λA=>H.f (D A (by omega)),λ_=>G,λA=>H.wk (D A (by omega)),λi hi A=>H.ws i hi (D A (by omega)),H.po,H.set,H.pl,H.zl,H.sui,H.ow,H.ext,H.few⟩
end
end
end Go.Proofs.YtjljhnandbbldaaGreatDoor
namespace Go.Crisp
open Go
section
structure Cp {α:Type}(e:Rp α)(Z:Nat→Prop)(h0:af)(r:Option (Value×List α))(o:Option (Value×α))(g:af):Prop where
 ext:Ext h0 g
 zl:∀b,Z b→b<h0.size
 row:∀p,r=some p→Rp.Ow e Z g p.1 p.2∧∀b,blk p.1 b→h0.size≤b
 el:∀p,o=some p→(∃cs,SlC e.w g p.1 1 cs∧e.R Z g (Rp.el e.w cs 0) p.2)∧∀b,blk p.1 b→h0.size≤b∧b<g.size
 apart:∀p q,r=some p→o=some q→∀b,blk p.1 b→¬blk q.1 b
section
variable {α:Type}{e:Rp α}{Z:Nat→Prop}{h0 g:af}{r:Option (Value×List α)}{o:Option (Value×α)}{K:Value→af→Prop}
theorem Cp.start (h:af)(zl:∀b,Z b→b<h.size):Cp e Z h none none h:=⟨Ext.refl _,zl,by simp,by simp,by simp⟩
theorem Cp.row0 {t:TypeId}(C:Cp e Z h0 none o g)(H:∀v I,Cp e Z h0 (some (v,[])) o I→K v I):cE #[] t 0 [] g K:=by
 refine cz (c':=#[]) rfl λb I r1 D W=>H _ _ ⟨C.ext.trans D,C.zl,λp A=>?_,λp A=>?_,λp q A hq G F L=>?_⟩
 ·cases A;refine⟨⟨[],.inr ⟨b,0,[],t,rfl,Nat.le_refl _,by simp,by simp,r1⟩,λc hc U=>?_,λi hi=>absurd hi (by simp)⟩,λc hc=>?_⟩
  ·have h1:=C.zl c U;have:=C.ext.1;rw[show c=b from hc]at h1;omega
  ·rw[show c=b from hc];exact Nat.le_trans C.ext.1 W
 ·obtain⟨⟨cs,a,G⟩,c⟩:=C.el p A;exact⟨⟨cs,a.fr D.fr λ_ _ _=>id,e.ext G D⟩,λb F=>⟨(c b F).1,Nat.lt_of_lt_of_le (c b F).2 D.1⟩⟩
 ·cases A;have:=((C.el q hq).2 G L).2;rw[show G=b from F]at this;omega
theorem Cp.row1 {t:TypeId}{c:Array Value}{cs:List Value}{x:α}(C:Cp e Z h0 r none g)(D:e.R Z h0 cs x)(hc:c.size=e.w)(H:∀v F,Cp e Z h0 r (some (v,x)) F→K v F):cE c t 1 [(0,e.w,.agg cs.toArray)] g K:=by
 refine cz (Rp.fill_whole hc (e.len D)) λb F r1 I W=>H _ _ ⟨C.ext.trans I,C.zl,λp A=>⟨(C.row p A).1.ext I,(C.row p A).2⟩,λp A=>?_,λp q A hq b' hb G=>?_⟩
 ·cases A;have L:=Rp.SlC.single r1;rw[e.len D]at L;refine⟨⟨cs,L,?_⟩,λk U=>?_⟩
  ·rw[Rp.el_self (e.len D)];exact e.ext D (C.ext.trans I)
  ·rw[show k=b from U];exact⟨Nat.le_trans C.ext.1 W,aW r1⟩
 ·cases hq;have:=(C.row p A).1.lt hb;rw[show b'=b from G]at this;omega
theorem Cp.app {t:TypeId}{z v u:Value}{l l2:List α}{bytes:Nat}(C:Cp e Z h0 (some (v,l)) o g)(hu:Rp.Sl e Z h0 u l2)(U:z.cells.size=e.w)(A:(l.length+l2.length)*bytes≤140737488355328)(hn:l.length+l2.length≤9223372036854775807)
  (H:∀I G,Cp e Z h0 (some (I,l++l2)) o G→K I G):cF z t e.w bytes v u g K:=by
 obtain⟨o1,n1⟩:=C.row _ rfl;obtain⟨ds,hs,_,he⟩:=hu.ext C.ext;refine Rp.app_ow (l2:=l2) o1 hs he U A hn (λb A=>Nat.lt_of_lt_of_le (C.zl b A) C.ext.1) λI G o' L n'=>H I G ⟨C.ext.then_fr L n1,C.zl,λp D=>?_,λp D=>?_,λp q D hq b A F=>?_⟩
 ·cases D;refine⟨o',λb A=>?_⟩;rcases n' b A with h|h
  ·exact n1 b h
  ·exact Nat.le_trans C.ext.1 h
 ·obtain⟨⟨cs,a,b'⟩,c⟩:=C.el p D;obtain⟨aa,_,W,_⟩:=o1;refine⟨⟨cs,a.fr L λb _ A hv=>C.apart _ _ rfl D b hv A,e.fr b' L λb _ U A=>W b A U⟩,λb A=>⟨(c b A).1,Nat.lt_of_lt_of_le (c b A).2 L.1⟩⟩
 ·cases D;rcases n' b A with h|h
  ·exact C.apart _ _ rfl hq b h F
  ·have:=((C.el q hq).2 b F).2;omega
theorem Cp.app1 {t:TypeId}{z v u:Value}{l:List α}{x:α}{bytes:Nat}(C:Cp e Z h0 (some (v,l)) (some (u,x)) g)(I:z.cells.size=e.w)(F:(l.length+1)*bytes≤140737488355328)(U:l.length+1≤9223372036854775807)
  (H:∀D A,Rp.Ow e Z A D (l++[x])→Ext h0 A→(∀b,blk D b→h0.size≤b)→K D A):cF z t e.w bytes v u g K:=by
 obtain⟨L,G⟩:=C.row _ rfl;obtain⟨⟨cs,a,b'⟩,c⟩:=C.el _ rfl;refine Rp.app_ow (l2:=[x]) L a (λi hi=>?_) I F U (λb F=>Nat.lt_of_lt_of_le (C.zl b F) C.ext.1) λD A o' W n'=>H D A o' (C.ext.then_fr W G) λb F=>?_
 ·have h0:i=0:=by simpa using hi
  subst h0;exact b'
 rcases n' b F with h|h
 ·exact G b h
 ·exact Nat.le_trans C.ext.1 h
end
end
end Go.Crisp
namespace Go.Proofs.YtjljhnandbbldaaGreatDoor
open Go Go.Crisp
attribute [local irreducible] ae cE aP stK aA vK qK bC gK dK aU mkK cF Ch DH zZ bsK clK qQ lW Rw
open _root_.Go.Proofs.Tryz
section
theorem Cn {h:af}{b:Nat}{v:Value}{m:Pic}(H:cA h b v m)(A:ic m.w m.h m.c):ae prog pU #[ptr b] h λr h'=>r=.int .i64 (m.w*m.h*m.c)∧h'=h:=by
 apply ML;unfold C5;have D:=cL A;refine ae.at (qU H) (ae.at (pP H) ?_);simp only[go_sem];rw[w64 (n:=m.w*m.h) (by omega) (by omega)];refine ae.at (dA H) ?_;simp only[go_sem];rw[w64 (n:=m.w*m.h*m.c) (by omega) (by omega)];exact⟨rfl,trivial⟩
def dJ (C:C21)(Z:Nat→Prop)(K:Nat)(h0:af)(bw:Nat→Nat)(bp:Nat)(o:Nat→Nat)(n:Pic)(P:bL)(h:af):Prop:=∃V,aL (λ_=>False) C Z K h0 bw bp o n V P h
def PTo (C:C21)(Z:Nat→Prop)(K:Nat)(h0:af)(bw:Nat→Nat)(bp:Nat)(o:Nat→Nat)(h:af)(n':Pic)(P':bL)(h':af):Prop:=∃o',dJ C Z K h0 bw bp o' n' P' h'∧(∀c,c<h.size→o' c=o c)∧Fr (λc=>o c≠0∨dd (some C.E) c) h h'
def qG (P:bL)(who:Nat)(buf lo cnt:Int)(wr:Bool):bL:={P with acc:=P.acc++[⟨who,P.rows who,buf,lo,lo+cnt,wr⟩]}
section
variable {C:C21}{Z:Nat→Prop}{K:Nat}{h0 h:af}{bw:Nat→Nat}{bp:Nat}{o:Nat→Nat}{n:Pic}{P:bL}
theorem dJ.row (H:dJ C Z K h0 bw bp o n P h):∃V,aL (λ_=>False) C Z K h0 bw bp o n V P h∧h[bp]? =some (.cells (gk C V P) 106 (0,0)):=by
 obtain⟨V,H⟩:=H;exact⟨V,H,H.p id⟩
theorem PTo.refl (H:dJ C Z K h0 bw bp o n P h):PTo C Z K h0 bw bp o h n P h:=⟨o,H,λ_ _=>rfl,Fr.refl _ _⟩
theorem dJ.ext {h':af}(H:dJ C Z K h0 bw bp o n P h)(e:Ext h h'):dJ C Z K h0 bw bp o n P h':=by
 obtain⟨V,H⟩:=H;exact⟨V,H.ex e⟩
theorem PTo.trans {A:Nat→Nat}{h1 D:af}{I G:Pic}{P1 F:bL}(a:dJ C Z K h0 bw bp A I P1 h1∧(∀c,c<h.size→A c=o c)∧Fr (λc=>o c≠0∨dd (some C.E) c) h h1)(b:PTo C Z K h0 bw bp A h1 G F D):PTo C Z K h0 bw bp o h G F D:=by
 obtain⟨L,a1,f1⟩:=a;obtain⟨o2,H,a2,f2⟩:=b;have s:=f1.1;exact⟨o2,H,λc hc=>(a2 c (by omega)).trans (a1 c hc),f1.after f2 λc hc h=>h.imp (λh=>by rwa [a1 c hc]at h) id⟩
theorem OU {r:Value}(A:aJ r=true)(a b c d:Int)(w:Bool):aF #[(.int .i64 0),(.slice none 0 0),(.int .i64 0),(.int .i64 0),(.int .i64 0),(.bool false)] [(0,1,.int .i64 a),(1,1,r),(2,1,.int .i64 b),(3,1,.int .i64 c),(4,1,.int .i64 d),(5,1,.bool w)]=some #[.int .i64 a,r,.int .i64 b,.int .i64 c,.int .i64 d,.bool w]:=by
 refine(bI (n:=1) (l:=[.int .i64 a]) rfl rfl (by simp)).trans ?_;refine(bI (n:=1) (l:=[r]) (bT A) rfl (by simp[bX])).trans ?_;refine(bI (n:=1) (l:=[.int .i64 b]) rfl rfl (by simp[bX])).trans ?_;refine(bI (n:=1) (l:=[.int .i64 c]) rfl rfl (by simp[bX])).trans ?_;refine(bI (n:=1) (l:=[.int .i64 d]) rfl rfl (by simp[bX])).trans ?_;refine(bI (n:=1) (l:=[.bool w]) rfl rfl (by simp[bX])).trans ?_;rw[fo];simp[wrL]
theorem Co (H:dJ C Z K h0 bw bp o n P h){who:Nat}(hw:who≤K){buf lo cnt:Int}{wr:Bool}(hl:P.acc.length≤1000000)(hb:0≤buf)(h1:0≤lo)(h2:1≤cnt)(h3:lo+cnt≤1000000000000):
  ae prog db #[ptr bp,.int .i64 (who:Int),.int .i64 buf,.int .i64 lo,.int .i64 cnt,.bool wr] h λr h'=>r=.tuple #[]∧PTo C Z K h0 bw bp o h n (qG P who buf lo cnt wr) h':=by
 obtain⟨V,H,row⟩:=H.row;apply DA;unfold tH;have c4:aB h ⟨bp,4,none⟩=some V.vc:=ai row;refine aI (λk=>k=h) rfl ?_;simp only[go_sem,Nat.zero_add];refine ao V.vc (λk e=>by rw[e];exact c4) ?_;rw[w64 (n:=lo+cnt) (by omega) (by omega)];refine(Xv (H.c id) who).mono λr g1 ⟨o1,G,n1⟩=>?_
 have D:Gq (K+1) P.rows (who:Int)=P.rows who:=by
  unfold Gq;rw[if_pos (by omega),Int.toNat_natCast]
 rw[D]at o1;have ab:(P.rows who).length=K+1:=by
  obtain⟨bc,sl,sv,t,_,CA⟩:=H.c id;exact CA.len who (by omega)
 have hK:=H.few;rw[GE _ #[.int .i64 (who:Int),r,.int .i64 buf,.int .i64 lo,.int .i64 (lo+cnt),.bool wr] (OU (z7 o1) _ _ _ _ _)];have H1:=H.ex G;obtain⟨Zl,ol,U,z2⟩:=H1.l id;have aa:=H.po;have L:Vr Zl g1 bp 5 (gk C V P) 106 V.sl P.acc:=⟨G.row row,rfl,ol,⟨λh=>by have:=z2 _ h;omega,λh=>by have:=U _ h;omega⟩,λc hc=>(H1.ow c (by rw[U c hc];omega)).1⟩
 refine(Yu (a:=⟨who,P.rows who,buf,lo,lo+cnt,wr⟩) L ⟨r,rfl,o1.ints⟩ (by show(P.rows who).length≤_;omega) hl (by simp[Qn];omega)).mono λ_ g2 ⟨s',Z',F,f2,n2,nz⟩=>?_
 have A0:Fr (λc=>(λk=>k=3∨k=4) (o c)) g1 g2:=f2.mono λc _ hc=>hc.elim (λh=>.inr (by rw[h];exact aa)) λh=>.inl (z2 c h)
 have H2:=H.take ((H1.chg (A:=λk=>k=3∨k=4) (by omega) A0)) (b:=3);have s1:=G.1;have s2:=f2.1;have g3:∀c,blk s' c∨Z' c→grow o 3 h.size g2.size c=3:=λc hc=>by
  have lt:c<g2.size:=hc.elim (λh=>F.own.lt h) λh=>F.zlt c h
  unfold grow;split
  ·rfl
  ·rcases hc with I|I
   ·exact(n2 c I).elim (z2 c) λh=>by omega
   ·exact(nz c I).elim (U c) λh=>by omega
 have H3:=(H2.less (Y:=λk=>k=4∨k=3) λk W=>by rcases W with (h|h|h)|h<;>first|exact h.elim|exact .inr h|exact .inl h).fl (X:=λk=>k=4) rfl ⟨Z',F.own,λc hc=>g3 c (.inr hc),λc hc=>g3 c (.inl hc)⟩;have H4:=(H3.less (Y:=λk=>False∨k=4) λk W=>.inr W).fp (X:=λ_=>False) (st:=P.sent) (rt:=P.ret) (pk:=P.picks) F.var;exact⟨trivial,_,⟨_,H4⟩,λc hc=>gm hc,(G.fr (M:=λc=>o c≠0∨dd (some C.E) c)).after A0 λc _ hc=>.inl (by rcases hc with h|h<;>omega)⟩
end
end
section
def gX (C:C21)(K:Nat)(P:bL)(i:Int):Bool:=
 if i<0∨(K:Int)<i then false
 else if 0<i then decide ((P.ws (i-1).toNat).state=1∨((P.ws (i-1).toNat).state=0∧dh P.q≠1))
 else if P.ret=true then false
 else if P.sent<bO C.d then decide (rZ P.q≠1)
 else !P.q.closed||decide (P.left.length=K)
section
variable {C:C21}{Z:Nat→Prop}{K:Nat}{h0 h:af}{bw:Nat→Nat}{bp:Nat}{o:Nat→Nat}{n:Pic}{P:bL}
theorem SlC.len {w:Nat}{h:af}{v:Value}{n:Nat}{cs:List Value}(H:SlC w h v n cs):aq v=some (.int .i64 (n:Int)):=by
 obtain⟨a,c,e⟩:=H.isSl;rw[e];rfl
theorem qH.len {k:Nat}{v:Value}{l:List (List Int)}(H:qH o k h v l):aq v=some (.int .i64 (l.length:Int)):=by
 obtain⟨Z,A,_⟩:=H;obtain⟨a,c,e⟩:=A.isSl;rw[e];rfl
theorem aL.wat {X:Nat→Prop}{V:PV}(H:aL X C Z K h0 bw bp o n V P h)(A:¬X 9){i:Nat}(hi:i<K):∃p,aR 1 V.wv (.int .i64 (i:Int))=some p∧ldV h p=some (ptr (bw i)):=by
 obtain⟨p,a1,a2⟩:=(H.wk A).1.at1 (k:=.i64) hi;refine⟨p,a1,?_⟩;rw[a2];simp[hi]
theorem Yi (H:dJ C Z K h0 bw bp o n P h):ae prog og #[ptr bp] h λr h'=>r=.bool (decide (P.left.length=K))∧h'=h:=by
 obtain⟨V,H,row⟩:=H.row;apply DC;unfold tK;have G:aB h ⟨bp,6,none⟩=some V.wv:=ai row;have A:aB h ⟨bp,11,none⟩=some V.lv:=ai row;have F:=SlC.len (H.wk id).1;have D:=(H.f id).len;simp only[go_sem,Nat.zero_add,G,A,F,D];exact⟨by congr 1;simp;omega,trivial⟩
theorem UQ (O:C.Ok)(H:dJ C Z K h0 bw bp o n P h){i:Int}(hi:I64 i):ae prog jS #[ptr bp,.int .i64 i] h λr h'=>r=.bool (gX C K P i)∧h'=h:=by
 have HP:=H;obtain⟨V,H,row⟩:=H.row;apply Dy;unfold tF;have F:aB h ⟨bp,6,none⟩=some V.wv:=ai row;have L:aB h ⟨bp,3,none⟩=some (ptr C.bq):=ai row;have I:aB h ⟨bp,12,none⟩=some (.bool P.ret):=ai row;have c8:aB h ⟨bp,8,none⟩=some (.int .i64 P.sent):=ai row;have c2:aB h ⟨bp,2,none⟩=some (ptr C.bl):=ai row;have W:=SlC.len (H.wk id).1;have hq:=H.q id;unfold gX;unfold I64 at hi;by_cases h1:i<0
 ·simp only[go_sem,h1];exact⟨by simp,trivial⟩
 by_cases U:(K:Int)<i
 ·simp only[go_sem,Nat.zero_add,h1,F,W,U];exact⟨by simp,trivial⟩
 rw[if_neg (by omega)];by_cases D:0<i
 ·rw[if_pos D];simp only[go_sem,Nat.zero_add,h1,F,W,U,D];refine aI (λk=>k=h) rfl ?_;refine ao V.wv (λk e=>by rw[e];exact F) ?_;rw[w64 (n:=i-1) (by omega) (by omega)];obtain⟨m,hm⟩:∃m:Nat,i-1=(m:Int):=⟨(i-1).toNat,by omega⟩
  have A:m<K:=by omega
  obtain⟨p,a1,a2⟩:=H.wat id A;rw[hm,a1,ah];refine ao (ptr (bw m)) (λk e=>by rw[e];exact a2) ?_
  try simp only[go_sem,Nat.zero_add]
  refine ao (ptr C.bq) (λk e=>by rw[e];exact L) ?_;refine(Cq (H.ws m A id) hq).mono λr h' ⟨er,eh⟩=>?_
  subst eh;exact⟨by rw[er,Int.toNat_natCast],rfl⟩
 ·rw [if_neg D];simp only[go_sem,Nat.zero_add,h1,F,W,U,D,I];by_cases G:P.ret=true
  ·rw[if_pos G,G];simp only[go_sem];exact⟨trivial,trivial⟩
  ·rw[if_neg G];have h5:P.ret=false:=by simpa using G
   rw[h5];simp only[go_sem,Nat.zero_add];refine aI (λk=>k=h) rfl ?_;refine ao (.int .i64 P.sent) (λk e=>by rw[e];exact c8) ?_
   try simp only[go_sem,Nat.zero_add]
   refine ao (ptr C.bl) (λk e=>by rw[e];exact c2) ?_;refine ae.at (Ag H.pl O.d) ⟨rfl,?_⟩;rw[bU,ah];refine aj (λg=>?_) (λg=>?_)
   ·rw[if_pos g];simp only[go_sem,Nat.zero_add,L];exact LZ hq
   ·rw[if_neg g];simp only[go_sem,Nat.zero_add,L];refine ae.at (LR hq) ?_;cases hc:P.q.closed with
    |true=>
     simp only[go_sem];refine ae.at (Yi HP) ?_;simp only[go_sem];exact⟨by simp,trivial⟩
    |false=>
     simp only[go_sem];exact⟨by simp,trivial⟩
end
end
section
def Bx (C:C21)(K:Nat)(P:bL)(k:Nat):List Int:=((List.range k).map λi:Nat=>(i:Int)).filter λi=>gX C K P i
theorem Si (C:C21)(K:Nat)(P:bL)(k:Nat):Bx C K P (k+1)=Bx C K P k++if gX C K P (k:Int)=true then[(k:Int)]else[]:=by
 unfold Bx;rw[List.range_succ,List.map_append,List.filter_append]
 congr 1
 simp[List.filter_cons]
theorem Hd (C:C21)(K:Nat)(P:bL)(k:Nat):(Bx C K P k).length≤k:=by
 unfold Bx;exact Nat.le_trans (List.length_filter_le _ _) (by simp)
section
variable {C:C21}{Z:Nat→Prop}{K:Nat}{h0 h:af}{bw:Nat→Nat}{bp:Nat}{o:Nat→Nat}{n:Pic}{P:bL}
theorem JJ (H:dJ C Z K h0 bw bp o n P h):ae prog fT #[ptr bp] h λr h'=>r=.int .i64 ((K+1:Nat):Int)∧h'=h:=by
 obtain⟨V,H,row⟩:=H.row;apply Au;unfold qC;have D:aB h ⟨bp,6,none⟩=some V.wv:=ai row;have A:=SlC.len (H.wk id).1;have F:=H.few;simp only[go_sem,Nat.zero_add,D,A];rw[w64 (n:=(K:Int)+1) (by omega) (by omega)];exact⟨rfl,trivial⟩
theorem FQ (O:C.Ok)(H:dJ C Z K h0 bw bp o n P h):ae prog gB #[ptr bp] h λr h'=>New (Rp.int .i64) h h' r (Bx C K P (K+1)):=by
 apply xI;unfold mT;have W:K≤256:=by obtain⟨V,H⟩:=H;exact H.few.2
 refine ae.at (JJ H) ?_;refine bA (α:=Value) (K+1) 0 (λi v=>[v,.int .i64 (i:Int)]) (λi v g=>New (Rp.int .i64) h g v (Bx C K P i)) (.slice none 0 0) rfl (Nat.zero_le _) (New.nil (Ext.refl _)) λi v g again ρ _ hi N A=>?_
 simp only[gb,uA];rw[bU,ah];refine aj (λg1=>?_) (λg1=>?_)
 ·have D:i<K+1:=by omega
  have F:(i:Int)+1=((i+1:Nat):Int):=by omega
  have hl:=Hd C K P i;refine ae.at (UQ O (H.ext N.2.1) (by unfold I64;omega)) ?_;have G:=Si C K P i;cases I:gX C K P (i:Int)with
  |true=>
   rw[I,if_pos rfl]at G;rw[fI];refine New.push_int N rfl (by omega) (by omega) λL g2 U=>?_
   simp only[go_sem];rw[w64 (n:=(i:Int)+1) (by omega) (by omega),F];exact A L g2 D (by rw[G];exact U)
  |false=>
   rw[I]at G;rw[cf];simp only[go_sem];rw[w64 (n:=(i:Int)+1) (by omega) (by omega),F];exact A v g D (by rw[G];simpa using N)
 ·have:i=K+1:=by omega
  subst this;exact N
theorem Jz (H:dJ C Z K h0 bw bp o n P h):ae prog jH #[ptr bp] h λr h'=>r=.bool P.ret∧h'=h:=by
 obtain⟨V,H,row⟩:=H.row;apply xJ;unfold mU;have c:aB h ⟨bp,12,none⟩=some (.bool P.ret):=ai row;simp only[go_sem,Nat.zero_add,c];exact⟨trivial,trivial⟩
def Ee (K:Nat)(P:bL)(i:Int):List Int:=if i<1∨(K:Int)<i then[]else(P.ws (i-1).toNat).tiles
def lN (K:Nat)(P:bL)(i:Int):Int:=if i<1∨(K:Int)<i then 0 else(P.ws (i-1).toNat).words
theorem Pn (H:dJ C Z K h0 bw bp o n P h){i:Int}(hi:I64 i)(L:∀j,j<K→(P.ws j).tiles.length≤1000000):ae prog mF #[ptr bp,.int .i64 i] h λr h'=>New (Rp.int .i64) h h' r (Ee K P i):=by
 obtain⟨V,H,row⟩:=H.row;apply BQ;unfold rP;have G:aB h ⟨bp,6,none⟩=some V.wv:=ai row;have F:=SlC.len (H.wk id).1;unfold Ee;unfold I64 at hi;by_cases h1:i<1
 ·rw[if_pos (.inl h1)];simp only[go_sem,h1];exact New.nil (Ext.refl _)
 by_cases D:(K:Int)<i
 ·rw[if_pos (.inr D)];simp only[go_sem,Nat.zero_add,h1,G,F,D];exact New.nil (Ext.refl _)
 rw[if_neg (by omega)];simp only[go_sem,Nat.zero_add,h1,G,F,D];rw[w64 (n:=i-1) (by omega) (by omega)];obtain⟨m,I⟩:∃m:Nat,i-1=(m:Int):=⟨(i-1).toNat,by omega⟩
 have A:m<K:=by omega
 obtain⟨p,a1,a2⟩:=H.wat id A;rw[I,a1,ah,a2,ah];exact WW (H.ws m A id) (L m A)
theorem KX (H:dJ C Z K h0 bw bp o n P h){i:Int}(hi:I64 i):ae prog kf #[ptr bp,.int .i64 i] h λr h'=>r=.int .i64 (lN K P i)∧h'=h:=by
 obtain⟨V,H,row⟩:=H.row;apply yR;unfold oW;have F:aB h ⟨bp,6,none⟩=some V.wv:=ai row;have G:=SlC.len (H.wk id).1;unfold lN;unfold I64 at hi;by_cases h1:i<1
 ·rw[if_pos (.inl h1)];simp only[go_sem,h1];exact⟨trivial,trivial⟩
 by_cases D:(K:Int)<i
 ·rw[if_pos (.inr D)];simp only[go_sem,Nat.zero_add,h1,F,G,D];exact⟨trivial,trivial⟩
 rw[if_neg (by omega)];simp only[go_sem,Nat.zero_add,h1,F,G,D];rw[w64 (n:=i-1) (by omega) (by omega)];obtain⟨m,I⟩:∃m:Nat,i-1=(m:Int):=⟨(i-1).toNat,by omega⟩
 have A:m<K:=by omega
 obtain⟨p,a1,a2⟩:=H.wat id A;rw[I,a1,ah,a2,ah,Int.toNat_natCast];exact Tj (H.ws m A id)
theorem Nd (H:dJ C Z K h0 bw bp o n P h):ae prog kV #[ptr bp] h λr h'=>(P.ret=false∧r=.tuple #[.pointer none,.bool false]∧h'=h)∨(P.ret=true∧∃p,r=.tuple #[p,.bool true]∧pZ h h' p n):=by
 obtain⟨V,H,row⟩:=H.row;apply At;unfold qB;have A:aB h ⟨bp,12,none⟩=some (.bool P.ret):=ai row;have D:aB h ⟨bp,1,none⟩=some (ptr C.bt):=ai row;simp only[go_sem,Nat.zero_add,A];cases P.ret with
 |false=>
  simp only[go_sem];exact .inl ⟨trivial,trivial,trivial⟩
 |true=>
  simp only[go_sem,Nat.zero_add,D];exact(Ys H.set.out H.sui.1).mono λr h' N=>.inr ⟨trivial,r,rfl,N⟩
theorem Rk {p:Value}{t:Tbl}(H:dY Z h p t):aJ p=true:=by
 obtain⟨b,lv,rfl,_⟩:=H.open;rfl
theorem Ni {b:Nat}{d:cG}{p q:Value}(H:p8 Z h b d p q):ae prog gC #[ptr b] h λr h'=>r=.agg #[p,q,.int .i64 d.s.border]∧Ext h h':=by
 apply BR;unfold rR;refine aC λG h1 r1 A F=>?_
 simp only[go_sem];rw[IP (A.row H.row) 0 3 [p,q,.int .i64 d.s.border] rfl rfl,ah];refine ch (l:=[p,q,.int .i64 d.s.border]) r1 rfl (ak (Rk H.x) (ak (Rk H.y) (ak rfl aQ))) rfl λI r2 D=>?_
 rw[aM r2 3 rfl,ah];exact⟨rfl,A.upd F D⟩
end
end
end Go.Proofs.YtjljhnandbbldaaGreatDoor
namespace Go.Proofs.YtjljhnandbbldaaGreatDoor
open Go Go.Crisp
open _root_.Go.Proofs.Tryz
section
theorem clK12 {f:FuncId}{a A D:Value}{h:af}{K:Value→af→Prop}:clK prog (.func (.func f) #[] #[A,D]) #[a] h K=ae prog f #[a,A,D] h K:=rfl
attribute [local irreducible] ae cE aP stK aA vK qK bC gK dK aU mkK cF Ch DH zZ bsK clK qQ lW Rw
def pW (C:C21)(x:Int):Int:=(gj (bu C.d.s.y.lines):Int)*(dP ((aG C.d x).w*C.m.c):Int)
section
variable {X:Nat→Prop}{C:C21}{Z:Nat→Prop}{K:Nat}{h0 h g:af}{bw:Nat→Nat}{bp:Nat}{o:Nat→Nat}{n:Pic}{V:PV}{P:bL}{x:Int}
theorem Yf (O:C.Ok)(G:dr h0)(H:aL X C Z K h0 bw bp o n V P g)(x4:¬X 4)(h1:0≤x)(h2:x<bO C.d):ae prog nZ #[ptr bp,.int .i64 x] g λr g2=>
  ∃L bj rv,r=ptr bj∧Ext g g2∧(∀c,L c→g.size≤c∧c<g2.size)∧ig Z L g2 (some C.E) n (ptr bj) (C.jo x)∧jm Z L g2 bj C.bf C.vf C.bt C.vt C.p C.q rv ⟨C.m,C.d.s,aG C.d x⟩ (aG C.d x).y (lnF C.d.s.y (aG C.d x).y) n (gj (bu C.d.s.y.lines)) (dP ((aG C.d x).w*C.m.c)):=by
 have row:=H.p x4;apply Dz;unfold tG;have c2:aB g ⟨bp,2,none⟩=some (ptr C.bl):=ai row;simp only[go_sem,Nat.zero_add,c2];refine ae.to (sD H.pl O.d h1 h2) λg1 e1=>?_
 have x0:aE (.tuple #[.agg (cS (aG C.d x)).toArray,.bool true]) 0=some (.agg (cS (aG C.d x)).toArray):=rfl;have x1:aE (.tuple #[.agg (cS (aG C.d x)).toArray,.bool true]) 1=some (.bool true):=rfl;simp only[x0,x1,ah];refine cD (cs:=cS (aG C.d x)) rfl (iV _) rfl λb g2 r2 e2 n2=>?_
 have I:=e1.trans e2;have A:=I.row row;have W:=H.ex I;refine aI (Ext g2) (Ext.refl _) ?_
 try simp only[go_sem,Nat.zero_add]
 refine ao (ptr C.bf) (λk e=>ai (e.row A)) ?_;refine ao (ptr C.bt) (λk e=>ai (e.row A)) ?_;refine ao (ptr C.bl) (λk e=>ai (e.row A)) ?_;refine ao (.agg (cS (aG C.d x)).toArray) (λk e=>aM (e.row r2) 10 rfl) ?_;refine(Ni W.pl).mono λr g3 ⟨U,D⟩=>?_
 subst U;refine⟨D,?_⟩;rw[H.zl.2.1,H.zl.2.2];have F:=W.ex D;refine(RN (G.ext F.ext) F.set O.m F.sui.1 O.s.wf).mono λr g4 HW=>?_
 obtain⟨bj,rv,U,e4,J,JS⟩:=Rb.has O F.sui h1 h2 HW;subst U;have y0:aE (.tuple #[ptr bj,.int .i64 0]) 0=some (ptr bj):=rfl;have y1:aE (.tuple #[ptr bj,.int .i64 0]) 1=some (.int .i64 0):=rfl;simp only[go_sem,y0,y1,ne_eq,eqT,not_true,decide_false];have le:g.size≤g3.size:=(I.trans D).1;exact⟨_,bj,rv,rfl,(I.trans D).trans e4,λc hc=>hc.elim False.elim λh=>⟨by omega,h.2⟩,J,JS⟩
theorem VV (O:C.Ok)(G:dr h0)(H:aL X C Z K h0 bw bp o n V P g)(x4:¬X 4)(L:¬X 5)(h1:0≤x)(h2:x<bO C.d){I b3 k:Nat}{T1 T3:TypeId}(hk:k<K)(r1:g[I]? =some (.cells #[ptr bp] T1 (0,0)))(r3:g[b3]? =some (.cells #[.int .i64 ((k:Int)+1)] T3 (0,0))):
  clK prog (.func (.func fC) #[] #[ptr I,ptr b3]) #[.int .i64 x] g λr g2=>∃D,(∀c,D c→g.size≤c∧c<g2.size)∧ig Z D g2 (some C.E) n r (C.jo x)∧Fr (blk V.dv) g g2∧Own 1 g2 V.dv K ((List.range K).map λi=>.int .i64 (if i=k then pW C x else P.words i)):=by
 rw[clK12];apply yQ;unfold oV;have hK:=H.few;have c1:aB g ⟨I,0,none⟩=some (ptr bp):=ai r1;simp only[go_sem,c1];refine(Yf O G H x4 h1 h2).mono λr g2 ⟨D,bj,rv,er,A,U,J,JS⟩=>?_
 subst er;rw[P8,ah,fI];have row:=A.row (H.p x4);have c7:aB g2 ⟨bp,7,none⟩=some V.dv:=ai row;refine aI (λk=>k=g2) rfl ?_;refine ao (ptr bp) (λk e=>by rw[e];exact ai (A.row r1)) ?_
 try simp only[go_sem,Nat.zero_add]
 refine ao V.dv (λk e=>by rw[e];exact c7) ?_;refine ao (.int .i64 ((k:Int)+1)) (λk e=>by rw[e];exact ai (A.row r3)) ?_;simp only[go_sem];rw[w64 (n:=(k:Int)+1-1) (by omega) (by omega),show(k:Int)+1-1=(k:Int)by omega];refine ae.at (JD JS) ⟨rfl,?_⟩;have o2:Own 1 g2 V.dv K ((List.range K).map λi=>Value.int .i64 (P.words i)):=(H.w L).1.fr (M:=λ_=>False) A.fr λ_ _=>id
 obtain⟨p,a1,a2,a3⟩:=Own.at_map o2 (k:=.i64) hk;rw[a1,ah];refine a3 _ _ λg3 o3 f3=>?_
 have W:∀c,blk V.dv c→c<g.size:=λc hc=>(H.w L).1.lt hc
 have F:∀c,blk V.dv c→o c=5:=(H.w L).2;have sz:=A.1;have J3:=J.other f3 (λc hz hc=>(H.ow c (by rw[F c hc];omega)).2.2.1 hz) (λc hb hc=>by have:=U c hb;have:=W c hc;omega) (λE' hE=>by cases hE;exact⟨((H.ex A).set.out).fr f3 (λhc=>(H.ow _ (by rw[F _ hc];omega)).2.2.2.1 rfl) λc hv hc=>(H.ow c (by rw[F c hc];omega)).2.2.2.2 hv,H.sui.1⟩) (dp.refl n);exact⟨D,λc hc=>⟨(U c hc).1,Nat.lt_of_lt_of_le (U c hc).2 f3.1⟩,J3,A.after f3,o3⟩
end
end
end Go.Proofs.YtjljhnandbbldaaGreatDoor
namespace Go.Proofs.YtjljhnandbbldaaGreatDoor
open Go Go.Crisp
attribute [local irreducible] ae cE aP stK aA vK qK bC gK dK aU mkK cF Ch DH zZ bsK clK qQ lW Rw
open _root_.Go.Proofs.Tryz
section
theorem IsW.bmono {Z B B':Nat→Prop}{h:af}{bw:Nat}{E:Option WE}{n:Pic}{w:WD}(H:IsW Z B h bw E n w)(A:∀c,B c→B' c)(G:∀c,B' c→c<h.size)(F:∀c,B' c→¬Z c∧xB E c∧¬dd E c):IsW Z B' h bw E n w:=by
 obtain⟨⟨tv,L,U,r,o,J,a1,a2,a3⟩,D,W,b3,zl,I,st⟩:=H;exact⟨⟨tv,L,U,r,o,J,λc hc=>⟨A c (a1 c hc).1,(a1 c hc).2⟩,λc hc=>A c (a2 c hc),a3⟩,A _ D,G,F,zl,I,st⟩
theorem IsQ.bmono {Q Q':Nat→Prop}{h:af}{b:Nat}{d:QD}(H:IsQ Q h b d)(A:∀c,Q c→Q' c)(D:∀c,Q' c→c<h.size):IsQ Q' h b d:=by
 obtain⟨⟨v,r,o,c,n,s⟩,qb,ql,w⟩:=H;exact⟨⟨v,r,o,c,n,λc hc=>A c (s c hc)⟩,A _ qb,D,w⟩
theorem dX.bmono {M M':Nat→Prop}{h:af}{v:Value}{n:Nat}{rows:Nat→List Int}(H:dX M h v n rows)(A:∀c,M c→M' c)(D:∀c,M' c→c<h.size):dX M' h v n rows:=by
 obtain⟨F,sl,sv,t,e,L⟩:=H;exact⟨F,sl,sv,t,e,L.var,L.arr,L.row,L.len,L.pos,⟨A _ L.inM.1,λb hc=>A b (L.inM.2.1 b hc),λi hi b hc=>A b (L.inM.2.2 i hi b hc)⟩,L.ap1,L.ap2,L.ap3,D⟩
def gT (C:C21)(P:bL)(k:Nat):bL:=
 {P with q:=(cn (some C.E) (C.jo (bH P.q)) (P.ws k) P.q).2.1,ws:=λi=>if i=k then(cn (some C.E) (C.jo (bH P.q)) (P.ws k) P.q).1 else P.ws i,words:=λi=>if i=k∧(P.ws k).state=0∧dh P.q=0 then pW C (bH P.q)else P.words i}
section
variable {C:C21}{Z:Nat→Prop}{K:Nat}{h0 h:af}{bw:Nat→Nat}{bp:Nat}{o:Nat→Nat}{n:Pic}{V:PV}{P:bL}
theorem RP (O:C.Ok)(G:dr h0)(H:aL (λ_=>False) C Z K h0 bw bp o n V P h){k:Nat}(hk:k<K){b1 b3:Nat}{T1 T3:TypeId}(r1:h[b1]? =some (.cells #[ptr bp] T1 (0,0)))(r3:h[b3]? =some (.cells #[.int .i64 ((k:Int)+1)] T3 (0,0)))(p1:o b1=0)(p3:o b3=0)(ht:(P.ws k).tiles.length≤1000000)(hb:∀c,dd (some C.E) c→h0.size≤c)
  (hx:rA (P.ws k) P.q→0≤bH P.q∧bH P.q<bO C.d):
  ae prog ce #[ptr (bw k),ptr C.bq,.func (.func fC) #[] #[ptr b1,ptr b3]] h λr h'=>r=evV (cn (some C.E) (C.jo (bH P.q)) (P.ws k) P.q).2.2∧
   ∃n' o',aL (λ_=>False) C Z K h0 bw bp o' n' V (gT C P k) h'∧(∀c,c<h.size→o' c=o c)∧Fr (λc=>(o c=10+k∨o c=1∨o c=5)∨dd (some C.E) c) h h'∧zR (some C.E) (P.ws k) n n':=by
 have W:=H.ws k hk id;have Q:=H.q id;obtain⟨L,F⟩:=H.w id;have U:∀c,blk V.dv c→c<h.size:=λc hc=>L.lt hc
 have ab:∀c,o c≠0→¬dd (some C.E) c:=λc hc=>(H.ow c hc).2.2.2.2
 refine(RM (jo:=C.jo (bH P.q)) (Qo:=blk V.dv) (P0:=λg=>Own 1 g V.dv K ((List.range K).map λi=>Value.int .i64 (P.words i))) (P1:=λg=>Own 1 g V.dv K ((List.range K).map λi=>Value.int .i64 (if i=k then pW C (bH P.q)else P.words i))) W Q ht (λtk=>.inr ⟨rfl,λh1 f1 w1=>?_⟩) (λc hc h=>by omega) (λc hc=>(H.ow c (by omega)).2.2) (λc hc=>?_) (λg g' f=>?_) L).mono λr h' ⟨er,⟨⟨n',B',Q',W',q',j1,j2,j3,Dr⟩,f⟩,al,aa⟩=>?_
 ·have f2:Fr (λc=>(λj=>j=10+k∨j=1) (o c)) h h1:=f1;have H1:=H.chg (A:=λj=>j=10+k∨j=1) (by omega) f2;have nx:∀{j},j≠10+k→j≠1→¬(False∨(j=10+k∨j=1)):=λa b h=>by rcases h with h|h|h<;>first|exact h|exact a h|exact b h
  exact VV O G H1 (nx (by omega) (by omega)) (nx (by omega) (by omega)) (hx tk).1 (hx tk).2 hk (f1.row r1 (by omega)) (f1.row r3 (by omega))
 ·have h5:=F c hc;have:=H.ow c (by omega);exact⟨this.1,by omega,by omega,this.2.2⟩
 ·have q:∀c,blk V.dv c→¬(dd (some C.E) c∨o c=10+k∨o c=1∨h.size≤c):=λc hc hh=>by
   have h5:=F c hc;have:=U c hc;rcases hh with hh|hh
   ·exact ab c (by omega) hh
   ·omega
  exact⟨λw=>w.fr f q,λw=>w.fr f q⟩
 ·have f2:Fr (λc=>(λj=>j=10+k∨j=1∨j=5) (o c)∨dd (some C.E) c) h h':=f.mono λc _ hc=>by
   rcases hc with hc|hc|hc|hc
   ·exact .inr hc
   ·exact .inl (.inl hc)
   ·exact .inl (.inr (.inl hc))
   ·exact .inl (.inr (.inr (F c hc)))
  have sz:=f.1;have H2:=H.chgO (A:=λj=>j=10+k∨j=1∨j=5) (by omega) hb f2 W'.out Dr.1;have Bl:=W'.bl;have Ql:=q'.ql;obtain⟨o',oo,on,ob,oq⟩:∃o':Nat→Nat,(∀c,c<h.size→o' c=o c)∧(∀c,h.size≤c→o' c≠0→(o' c=10+k∨o' c=1)∧c<h'.size)∧(∀c,B' c→o' c=10+k)∧∀c,Q' c→o' c=1:=by
   classical
   refine⟨λc=>if c<h.size then o c else if B' c then 10+k else if Q' c then 1 else 0,λc hc=>if_pos hc,λc hc h1=>?_,λc hc=>?_,λc hc=>?_⟩
   ·have I:¬c<h.size:=by omega
    simp only[if_neg I]at h1 ⊢;by_cases b:B' c
    ·simp only[if_pos b];exact⟨.inl trivial,Bl c b⟩
    ·simp only[if_neg b]at h1 ⊢;by_cases q:Q' c
     ·simp only[if_pos q];exact⟨.inr trivial,Ql c q⟩
     ·simp only[if_neg q]at h1;exact absurd rfl h1
   ·by_cases I:c<h.size
    ·simp only[if_pos I];exact(j1 c hc).elim id λh=>by omega
    ·simp only[if_neg I,if_pos hc]
   ·have nb:¬B' c:=λhb=>j3 c hb hc
    by_cases I:c<h.size
    ·simp only[if_pos I];exact(j2 c hc).elim id λh=>by omega
    ·simp only[if_neg I,if_neg nb,if_pos hc]
  have D:=H2.relab (B:=λj=>j=10+k∨j=1) (o':=o') oo (λc hc=>(H.fresh hc).1) on H.ext.1 λc hc=>(H.fresh hc).2
  have q3:IsQ (λc=>o' c=1) h' C.bq _:=q'.bmono oq λc hc=>(D.ow c (by rw[hc];omega)).1
  have W3:IsW Z (λc=>o' c=10+k) h' (bw k) (some C.E) n' _:=W'.bmono ob (λc hc=>(D.ow c (by rw[hc];omega)).1) λc hc=>(D.ow c (by rw[hc];omega)).2.2
  have w3:Own 1 h' V.dv K ((List.range K).map λi=>Value.int .i64 ((gT C P k).words i)):=by
   by_cases tk:(P.ws k).state=0∧dh P.q=0
   ·have e:(λi=>Value.int .i64 ((gT C P k).words i))=λi=>Value.int .i64 (if i=k then pW C (bH P.q)else P.words i):=by
     funext i
     show Value.int .i64 (if i=k∧(P.ws k).state=0∧dh P.q=0 then _ else _)=_;by_cases hi:i=k
     ·rw[if_pos ⟨hi,tk⟩,if_pos hi]
     ·rw[if_neg (λh=>hi h.1),if_neg hi]
    rw[e];exact al tk
   ·have e:(λi=>Value.int .i64 ((gT C P k).words i))=λi=>Value.int .i64 (P.words i):=by
     funext i
     show Value.int .i64 (if i=k∧(P.ws k).state=0∧dh P.q=0 then _ else _)=_;rw[if_neg λh=>tk h.2]
    rw[e];exact aa tk
  have ad:∀c,blk V.dv c→o' c=5:=λc hc=>by rw[oo c (U c hc)];exact F c hc
  have nx:∀{j},j≠10+k→j≠1→j≠5→¬((False∨(j=10+k∨j=1∨j=5))∨(j=10+k∨j=1)):=λa b c h=>by rcases h with (h|h|h|h)|h|h<;>first|exact h|exact a h|exact b h|exact c h
  refine⟨er,n',o',⟨λ_=>q3,λ_=>D.c (nx (by omega) (by omega) (by omega)),λ_=>D.l (nx (by omega) (by omega) (by omega)),λ_=>D.p (nx (by omega) (by omega) (by omega)),λ_=>⟨w3,ad⟩,λ_=>D.s (nx (by omega) (by omega) (by omega)),λ_=>D.f (nx (by omega) (by omega) (by omega)),λ_=>D.e (nx (by omega) (by omega) (by omega)),λ_=>D.wk (nx (by omega) (by omega) (by omega)),λi hi _=>?_,D.po,D.set,D.pl,D.zl,D.sui,D.ow,D.ext,D.few⟩,oo,f2,Dr⟩;by_cases he:i=k
  ·subst he;show IsW Z _ h' _ _ n' (if i=i then _ else _);rw[if_pos rfl];exact W3
  ·show IsW Z _ h' _ _ n' (if i=k then _ else _);rw[if_neg he];exact D.ws i hi (nx (by omega) (by omega) (by omega))
end
end
section
def wn (C:C21)(P:bL)(k:Nat)(e:EvD):bL:=
 if e.2.2.1=1 then qG (qG P (k+1) 0 (atZ C.d.s.border e.2.2.2 C.m.h*(C.m.w*C.m.c)) (C.m.w*C.m.c) false) (k+1) (k+2) 0 (P.words k) true
 else qG (qG P (k+1) (k+2) 0 (P.words k) false) (k+1) 1 ((e.2.2.2*C.d.X+(aG C.d e.2.1).x)*C.m.c) ((aG C.d e.2.1).w*C.m.c) true
section
variable {C:C21}{Z:Nat→Prop}{K:Nat}{h0 h:af}{bw:Nat→Nat}{bp:Nat}{o:Nat→Nat}{n:Pic}{P:bL}
theorem WN (O:C.Ok)(H:dJ C Z K h0 bw bp o n P h){k:Nat}(hk:k<K){e:EvD}(hl:P.acc.length≤999999)(hx:0≤e.2.1∧e.2.1<bO C.d)(hr:I64 e.2.2.2)(hy:e.2.2.1≠1→0≤e.2.2.2∧e.2.2.2<C.d.Y)(hw:1≤P.words k∧P.words k≤100000000000):
  ae prog mD #[ptr bp,.int .i64 ((k:Int)+1),evV e] h λr h'=>r=.tuple #[]∧PTo C Z K h0 bw bp o h n (wn C P k e) h':=by
 obtain⟨ek,F,W,D⟩:=e;have HP:=H;obtain⟨V,H,row⟩:=H.row;apply BO;unfold rN;have x0:aE (.tuple #[.agg (cS (aG C.d F)).toArray,.bool true]) 0=some (.agg (cS (aG C.d F)).toArray):=rfl;have x1:aE (.tuple #[.agg (cS (aG C.d F)).toArray,.bool true]) 1=some (.bool true):=rfl;refine aC λb1 h1 r1 e1 n1=>?_
 have r1:h1[b1]? =some (.cells #[.int .i64 ek,.int .i64 F,.int .i64 W,.int .i64 D] 148 (0,0)):=r1;refine aV (λxs g=>∃bt,xs=[ptr bt]∧h.size≤bt∧Ext h1 g∧g[bt]? =some (.cells (cS (aG C.d F)).toArray 116 (0,0))) ?_ ?_
 ·refine aI (Ext h1) (Ext.refl _) ?_;simp only[go_sem,Nat.zero_add];refine ao (ptr C.bl) (λg e=>ai (e.row (e1.row row))) ?_;refine ao (.int .i64 F) (λg e=>ai (e.row r1)) ?_;have one:∀v∈cS (aG C.d F),aJ v=true:=iV _;refine⟨?_,?_⟩
  ·refine ae.to (sD (H.ex e1).pl O.d hx.1 hx.2) λg2 L=>⟨L,?_⟩
   simp only[x0,x1,ah];refine aC λbt g3 r3 I n3=>⟨L.trans I,?_⟩
   refine ch (l:=cS (aG C.d F)) r3 rfl one rfl λg4 r4 u4=>?_
   have E:=(L.trans I).upd (Nat.le_trans L.1 n3) u4;have s1:=e1.1;have s2:=L.1;exact⟨E,bt,rfl,by omega,E,r4⟩
  ·refine aC λbt g2 r2 L n2=>⟨L,?_⟩
   refine ae.to (sD ((H.ex e1).ex L).pl O.d hx.1 hx.2) λg3 I=>⟨L.trans I,?_⟩
   simp only[x0,x1,ah];refine ch (l:=cS (aG C.d F)) (I.row r2) rfl one rfl λg4 r4 u4=>?_
   have E:=(L.trans I).upd n2 u4;have s1:=e1.1;exact⟨E,bt,rfl,by omega,E,r4⟩
 rintro xs ρ g ⟨bt,rfl,ar,L,rt⟩;have E:=e1.trans L;have rg:=L.row r1;have G:=E.row row;have c7:aB g ⟨bp,7,none⟩=some V.dv:=ai G;have c1:aB g ⟨bp,1,none⟩=some (ptr C.bt):=ai G;have m2:aB g ⟨b1,2,none⟩=some (.int .i64 W):=ai rg;have hK:=H.few;have Hg:=H.ex E;have U:=HP.ext E;simp only[gb,go_sem,Nat.zero_add,c7];rw[w64 (n:=(k:Int)+1-1) (by omega) (by omega),show(k:Int)+1-1=(k:Int)by omega];obtain⟨p,a1,a2,_⟩:=Own.at_map (Hg.w id).1 (k:=.i64) hk;rw[a1,ah,a2,ah,m2,ah,sG,ah];have bf:=cL O.m.fits;have sui:=H.sui.2;obtain⟨s1,s2,s3,s4,s5⟩:=sui;have who:((k:Int)+1)=((k+1:Nat):Int):=by omega
 have ad:∀{h'} {P'},PTo C Z K h0 bw bp o g n P' h'→PTo C Z K h0 bw bp o h n P' h':=λ{h' P'} T=>PTo.trans (h1:=g) ⟨U,λ_ _=>rfl,E.fr⟩ T
 refine aj (λhm=>?_) (λhm=>?_)
 ·have hm:W=1:=hm;subst hm;refine aI (λk=>k=g) rfl ?_;refine ao (ptr C.bf) (λk e=>by rw[e];exact ai G) ?_;refine ao (ptr C.bf) (λk e=>by rw[e];exact ai G) ?_;refine ae.at (qU Hg.set.src) ⟨rfl,?_⟩;refine ae.at (dA Hg.set.src) ?_;have wc:1≤C.m.w*C.m.c∧C.m.w*C.m.c≤65536*3:=⟨Int.mul_pos (by omega) (by omega),Int.mul_le_mul (by omega) (by omega) (by omega) (by omega)⟩
  simp only[go_sem];rw[w64 (n:=C.m.w*C.m.c) (by omega) (by omega)];refine aI (Ext g) (Ext.refl _) ?_;refine ao (ptr C.bl) (λk e=>ai (e.row G)) ?_
  try simp only[go_sem,Nat.zero_add]
  refine ao (.int .i64 D) (λk e=>ai (e.row rg)) ?_
  try simp only[go_sem,Nat.zero_add]
  refine ao (ptr C.bf) (λk e=>ai (e.row G)) ?_;refine(Ni Hg.pl).mono λr g3 ⟨er,I⟩=>?_
  subst er;refine⟨I,?_⟩;have pv:mZ false 1 2 (.agg #[C.pp,C.pq,.int .i64 C.d.s.border])=some (.int .i64 C.d.s.border):=rfl;rw[pv,ah];have H3:=Hg.ex I;refine ae.at (pP H3.set.src) ⟨I,?_⟩;refine ae.at (sF hr) ?_;have ha:=Yx (p:=C.d.s.border) (j:=D) (n:=C.m.h) (by omega) (by omega);have al:=kS (a:=atZ C.d.s.border D C.m.h) (A:=65536) (b:=C.m.w*C.m.c) (B:=65536*3) (by omega) (by omega) (by omega) (by omega);simp only[go_sem];rw[w64 (n:=atZ C.d.s.border D C.m.h*(C.m.w*C.m.c)) (by omega) (by omega),who];refine(Co (U.ext I) (who:=k+1) (by omega) (by omega) (by omega) al.1 wc.1 (by omega)).mono λr g4 ⟨er,o4,H4,q4,f4⟩=>?_
  rw[w64 (n:=1+((k+1:Nat):Int)) (by omega) (by omega),show 1+((k+1:Nat):Int)=(k:Int)+2 by omega];refine(Co H4 (who:=k+1) (by omega) (by simp[qG];omega) (by omega) (by omega) hw.1 (by omega)).mono λr g5 ⟨er,T⟩=>?_
  have T2:=PTo.trans (h1:=g4) ⟨H4,q4,f4⟩ T;have T3:=PTo.trans (h1:=g3) (P1:=P) ⟨U.ext I,λ_ _=>rfl,I.fr⟩ T2;refine⟨trivial,?_⟩;unfold wn;rw[if_pos rfl];exact ad T3
 ·have hy:0≤D∧D<C.d.Y:=hy hm;rw[c1,ah];refine ae.at (dA Hg.set.out) ?_;rw[w64 (n:=1+((k:Int)+1)) (by omega) (by omega),show 1+((k:Int)+1)=(k:Int)+2 by omega,who];refine(Co U (who:=k+1) (by omega) (by omega) (by omega) (by omega) hw.1 (by omega)).mono λr g4 ⟨er,o4,H4,q4,f4⟩=>?_
  have nf:∀{c},h.size≤c→¬(o c≠0∨dd (some C.E) c):=λhc h=>h.elim (λh=>h (H.fresh hc).1) (H.fresh hc).2.2.2
  have an:=f4.row rg (nf n1);have aa:=f4.row rt (nf ar);obtain⟨V4,B4,ab⟩:=H4.row;have wf:=iu O.d (i:=F) hx.1 hx.2;unfold dG at wf;refine aI (λk=>k=g4) rfl ?_;refine ao (.int .i64 D) (λk e=>by rw[e];exact ai an) ?_
  try simp only[go_sem,Nat.zero_add]
  refine ao (ptr C.bt) (λk e=>by rw[e];exact ai ab) ?_
  try simp only[go_sem,Nat.zero_add]
  refine ao (.int .i64 (aG C.d F).x) (λk e=>by rw[e];exact ai aa) ?_
  try simp only[go_sem,Nat.zero_add]
  refine ao (.int .i64 (aG C.d F).w) (λk e=>by rw[e];exact ai aa) ?_;have bd:=cG.bd O.d;have wX:(aG C.d F).x+(aG C.d F).w≤C.d.X:=by show _≤((C.d.s.x.lines.length:Nat):Int);omega
  have nc:n.c=C.m.c:=s4;have ay:=kS (a:=(aG C.d F).w) (A:=65536) (b:=C.m.c) (B:=3) (by omega) (by omega) (by omega) (by omega);have au:1≤(aG C.d F).w*C.m.c:=Int.mul_pos (by omega) (by omega);have ax:=kS (a:=D) (A:=65536) (b:=C.d.X) (B:=65536) (by omega) (by omega) (by omega) (by omega);have aw:=kS (a:=D*C.d.X+(aG C.d F).x) (A:=65536*65536+65536) (b:=C.m.c) (B:=3) (by omega) (by omega) (by omega) (by omega);rw[nc];simp only[go_sem];rw[w64 (n:=(aG C.d F).w*C.m.c) (by omega) (by omega)];refine ae.at (qU B4.set.out) ⟨rfl,?_⟩;rw[show n.w=C.d.X from s2];simp only[go_sem];rw[w64 (n:=D*C.d.X) (by omega) (by omega),w64 (n:=D*C.d.X+(aG C.d F).x) (by omega) (by omega),w64 (n:=(D*C.d.X+(aG C.d F).x)*C.m.c) (by omega) (by omega)];refine(Co H4 (who:=k+1) (by omega) (by simp[qG];omega) (by omega) aw.1 au (by omega)).mono λr g5 ⟨er,T⟩=>?_
  have T2:=PTo.trans (h1:=g4) ⟨H4,q4,f4⟩ T;refine⟨trivial,?_⟩;unfold wn;rw[if_neg hm];exact ad T2
end
end
section
section
variable {C:C21}{Z:Nat→Prop}{K:Nat}{h0 g g1 g2:af}{bw:Nat→Nat}{bp:Nat}{o:Nat→Nat}{n:Pic}{V:PV}{P:bL}
theorem aL.setrow (H:aL (λ_=>False) C Z K h0 bw bp o n V P g)(u:Upd bp g g1){st:Int}{rt:Bool}{pk:Int}(r:g1[bp]? =some (.cells (gk C V {P with sent:=st,ret:=rt,picks:=pk}) 106 (0,0))):aL (λ_=>False) C Z K h0 bw bp o n V {P with sent:=st,ret:=rt,picks:=pk} g1:=by
 have D:=H.po;exact(H.chg (A:=λk=>k=4) (by omega) (u.fr.mono λc _ hc=>by rw[show c=bp from hc];exact D)).fp r
theorem aL.putS (H:aL (λk=>k=6) C Z K h0 bw bp o n V P g){s:Value}{l:List (List Int)}(L:qH o 6 g s l)(u:Upd bp g g1)(r:g1[bp]? =some (.cells (gk C {V with sv:=s} P) 106 (0,0))):aL (λ_=>False) C Z K h0 bw bp o n {V with sv:=s} {P with stamps:=l} g1:=by
 have G:=H.po;have f:Fr (λc=>(λk=>k=4) (o c)) g g1:=u.fr.mono λc _ hc=>by rw[show c=bp from hc];exact G
 have I:=(H.chg (A:=λk=>k=4) (by omega) f).less (Y:=λk=>k=4∨k=6) λk D=>D.symm
 have F:=I.fs (X:=λk=>k=4) rfl (L.fr f λc hc h=>by have h:o c=4:=h;omega);exact(F.less (Y:=λk=>False∨k=4) λk D=>.inr D).fp (X:=λ_=>False) (st:=P.sent) (rt:=P.ret) (pk:=P.picks) r
theorem aL.putL (H:aL (λk=>k=7) C Z K h0 bw bp o n V P g){s:Value}{l:List (List Int)}(L:qH o 7 g s l)(u:Upd bp g g1)(r:g1[bp]? =some (.cells (gk C {V with lv:=s} P) 106 (0,0))):aL (λ_=>False) C Z K h0 bw bp o n {V with lv:=s} {P with left:=l} g1:=by
 have G:=H.po;have f:Fr (λc=>(λk=>k=4) (o c)) g g1:=u.fr.mono λc _ hc=>by rw[show c=bp from hc];exact G
 have I:=(H.chg (A:=λk=>k=4) (by omega) f).less (Y:=λk=>k=4∨k=7) λk D=>D.symm
 have F:=I.ff (X:=λk=>k=4) rfl (L.fr f λc hc h=>by have h:o c=4:=h;omega);exact(F.less (Y:=λk=>False∨k=4) λk D=>.inr D).fp (X:=λ_=>False) (st:=P.sent) (rt:=P.ret) (pk:=P.picks) r
theorem aL.putE (H:aL (λk=>k=8) C Z K h0 bw bp o n V P g){s:Value}{l:List Int}(L:Rp.Sl (Rp.int .i64) (λc=>o c=8) g s l)(u:Upd bp g g1)(r:g1[bp]? =some (.cells (gk C {V with ev:=s} P) 106 (0,0))):aL (λ_=>False) C Z K h0 bw bp o n {V with ev:=s} {P with fin:=l} g1:=by
 have G:=H.po;have f:Fr (λc=>(λk=>k=4) (o c)) g g1:=u.fr.mono λc _ hc=>by rw[show c=bp from hc];exact G
 have I:=(H.chg (A:=λk=>k=4) (by omega) f).less (Y:=λk=>k=4∨k=8) λk D=>D.symm
 have F:=I.fe (X:=λk=>k=4) rfl (L.fr f λc _ hc h=>by have h:o c=4:=h;omega);exact(F.less (Y:=λk=>False∨k=4) λk D=>.inr D).fp (X:=λ_=>False) (st:=P.sent) (rt:=P.ret) (pk:=P.picks) r
theorem Ul {o:Nat→Nat}{j k lo hi:Nat}(h:∀c,lo≤c→o c=0)(D:k≠j)(F:k≠0):(λc=>grow o j lo hi c=k)=λc=>o c=k:=by
 funext c
 refine propext ?_;unfold grow;split
 ·rename_i A;rw[h c A.1];omega
 ·exact Iff.rfl
theorem aL.rs_push (H:aL (λ_=>False) C Z K h0 bw bp o n V P g){j:Nat}(hj:j≠0∧j≠2){v:Value}{l:List (List Int)}(HR:qH o j g v l){rows:Nat→List Int}{r:Value}{x:List Int}(o1:iT g1 r x)(c1:dX (λc=>o c=2) g1 V.vc (K+1) rows)(f1:Fr (λc=>o c=2) g g1)(n1:∀b,blk r b→g.size≤b)
  {Q:af→Prop} {z z':Value} {t t':TypeId} {K':Value→af→Prop} (G:z.cells.size=1) (hl:l.length≤1000000000) (hQ:∀h',Ext g1 h'→Q h')
  (HK:∀L g2,qH (grow o j g.size g2.size) j g2 L (l++[x])→aL (λk=>k=j) C Z K h0 bw bp (grow o j g.size g2.size) n V {P with rows:=rows} g2→Fr (λc=>o c=2∨o c=j) g g2→Fr (λc=>o c=j) g1 g2→K' L g2):
  cE #[z'] t 1 [(0,1,r)] g1 λv2 h3=>Q h3∧cF z t' 1 24 v v2 h3 K':=by
 obtain⟨Zr,ow,U,W⟩:=HR;have s1:=f1.1;have q1:∀c,Zr c∨blk v c→¬o c=2:=λc hc=>by have:=hc.elim (U c) (W c);omega
 have aa:=ow.fr f1 (λc _ hc=>q1 c (.inl hc)) λc hc=>q1 c (.inr hc)
 have dz:∀b,blk v b→¬Zr b:=by obtain⟨_,_,d,_⟩:=ow;exact d
 have ob:∀c,o c=j→c<g.size:=λc hc=>(H.ow c (by omega)).1
 have o2:Rp.Ow rIs (λb=>Zr b∨blk r b) g1 v l:=aa.mono (λb _ D=>.inl D) λb D G=>by
  rcases G with G|G
  ·exact dz b D G
  ·have:=ob b (W b D);have:=n1 b G;omega
 refine Rp.push_ow1S (P:=λ_=>False) (e:=rIs) (x:=x) rfl o2 ⟨r,rfl,wA o1.ints λ_ b D=>.inr D⟩ G (by omega) (by omega) (λb D=>?_) hQ λL g2 o3 f3 n3=>?_
 ·rcases D with D|D
  ·have:=ob b (U b D);omega
  ·exact Own.lt o1 D
 have I:Fr (λc=>o c=j) g1 g2:=f3.mono λc _ hc=>W c hc
 have s3:=f3.1;have fA:Fr (λc=>(λk=>k=2∨k=j) (o c)) g g2:=(f1.mono λc _ hc=>.inl hc).after I λc _ hc=>.inr hc
 have H2:=H.take (H.chg (A:=λk=>k=2∨k=j) (by omega) fA) (b:=j);have F:∀c,c<g2.size→(o c=j∨g.size≤c)→grow o j g.size g2.size c=j:=λc hl hc=>by
  unfold grow;split
  ·rfl
  ·exact hc.elim id λh=>by omega
 have hR:qH (grow o j g.size g2.size) j g2 L (l++[x]):=by
  refine⟨λb=>Zr b∨blk r b,o3,λc hc=>?_,λc hc=>F c (o3.lt hc) ?_⟩
  ·rcases hc with hc|hc
   ·exact F c (by have:=ob c (U c hc);omega) (.inl (U c hc))
   ·exact F c (by have:=Own.lt o1 hc;omega) (.inr (n1 c hc))
  ·rcases n3 c hc with h|h
   ·exact .inl (W c h)
   ·exact .inr (by omega)
 have c2:dX (λc=>grow o j g.size g2.size c=2) g2 V.vc (K+1) rows:=by
  have e:(λc=>grow o j g.size g2.size c=2)=λc=>o c=2:=by
   funext c
   refine propext ?_;unfold grow;split
   ·rename_i h3;rw[(H.fresh h3.1).1];omega
   ·exact Iff.rfl
  rw[e];exact c1.fr I λc _ hc h=>by have h:o c=j:=h;omega
 have H3:=(H2.less (Y:=λk=>k=j∨k=2) λk hk=>by rcases hk with (h|h|h)|h<;>first|exact h.elim|exact .inr h|exact .inl h).fc c2;exact HK L g2 hR H3 fA I
theorem QR (H:aL (λ_=>False) C Z K h0 bw bp o n V P g){i:Nat}{u:Value}{s:List Int}(hu:jP g u s)(U:s.length≤4398046511104):
  ae prog eN #[V.vc,.int .i64 (i:Int),u] g λr g1=>aL (λ_=>False) C Z K h0 bw bp (grow o 2 g.size g1.size) n V {P with rows:=lV (K+1) P.rows i s} g1∧Fr (λc=>o c=2) g g1:=by
 refine(Yp (H.c id) i hu U).mono λr g1 ⟨_,M',G,f1,m1⟩=>?_
 have D:Fr (λc=>(λk=>k=2) (o c)) g g1:=f1;have F:=H.take (H.chg (A:=λk=>k=2) (by omega) D) (b:=2);refine⟨(F.less (Y:=λk=>False∨k=2) λk I=>by rcases I with (h|h)|h<;>first|exact h.elim|exact .inr h).fc (G.bmono (λc hc=>?_) λc hc=>(F.ow c (by rw[hc];omega)).1),f1⟩;unfold grow;split
 ·rfl
 ·rename_i W;have lt:c<g1.size:=by
   obtain⟨bc,sl,sv,t,_,L⟩:=G;exact L.lt c hc
  rcases m1 c hc with h|h
  ·exact h
  ·omega
end
end
section
def evP (C:C21)(P:bL)(k:Nat):EvD:=(cn (some C.E) (C.jo (bH P.q)) (P.ws k) P.q).2.2
def Uh (K:Nat)(P:bL)(k:Nat):bL:=
 {P with rows:=CE (K+1) (lV (K+1) P.rows (k+1:Nat) P.fin) (k+1:Nat),left:=P.left++[lV (K+1) P.rows (k+1:Nat) P.fin (k+1)]}
def qk (C:C21)(K:Nat)(P:bL)(k:Nat):bL:=
 if(evP C P k).1=1 then{gT C P k with rows:=lV (K+1) P.rows (k+1:Nat) (P.stamps.getD (evP C P k).2.1.toNat [])}
 else if(evP C P k).1=2 then wn C (gT C P k) k (evP C P k)
 else if(evP C P k).1=3 then Uh K (gT C P k) k
 else gT C P k
section
variable {C:C21}{Z:Nat→Prop}{K:Nat}{h0 h:af}{bw:Nat→Nat}{bp:Nat}{o:Nat→Nat}{n:Pic}{P:bL}
theorem Yb (O:C.Ok)(G:dr h0)(H:dJ C Z K h0 bw bp o n P h){k:Nat}(hk:k<K)(ht:(P.ws k).tiles.length≤1000000)(hb:∀c,dd (some C.E) c→h0.size≤c)(hl:P.acc.length≤999999)(bg:P.left.length≤1000000000)
  (hx:rA (P.ws k) P.q→0≤bH P.q∧bH P.q<bO C.d)
  (h1:(evP C P k).1=1→0≤(evP C P k).2.1∧(evP C P k).2.1<P.stamps.length)
  (hs:∀s∈P.stamps,s.length≤4398046511104) (hf:P.fin.length≤4398046511104)
  (h2:(evP C P k).1=2→(0≤(evP C P k).2.1∧(evP C P k).2.1<bO C.d)∧I64 (evP C P k).2.2.2∧((evP C P k).2.2.1≠1→0≤(evP C P k).2.2.2∧(evP C P k).2.2.2<C.d.Y)∧1≤(gT C P k).words k∧(gT C P k).words k≤100000000000):
  ae prog nW #[ptr bp,.int .i64 ((k:Int)+1)] h λr h'=>∃n',PTo C Z K h0 bw bp o h n' (qk C K P k) h'∧zR (some C.E) (P.ws k) n n':=by
 have HP:=H;obtain⟨V,H,row⟩:=H.row;apply Dx;unfold tE;have hK:=H.few;refine aC λb1 g1 r1 e1 n1=>aC λb3 g3 r3 e3 n3=>?_
 have r1:g1[b1]? =some (.cells #[ptr bp] _ (0,0)):=r1;have r3:g3[b3]? =some (.cells #[.int .i64 ((k:Int)+1)] _ (0,0)):=r3;have r1:=e3.row r1;have E:=e1.trans e3;have H3:=H.ex E;have ab:=E.row row;have s1:=e1.1;have s3:=e3.1;have f1:=H.fresh (c:=b1) n1;have f3:=H.fresh (c:=b3) (by omega);have who:((k:Int)+1)=((k+1:Nat):Int):=by omega
 generalize aw:evP C P k=e at*;have aa:(cn (some C.E) (C.jo (bH P.q)) (P.ws k) P.q).2.2=e:=aw;refine aV (λxs g=>∃A n' o' T,xs=[ptr A]∧g[A]? =some (.cells #[.int .i64 e.1,.int .i64 e.2.1,.int .i64 e.2.2.1,.int .i64 e.2.2.2] T (0,0))∧aL (λ_=>False) C Z K h0 bw bp o' n' V (gT C P k) g∧(∀c,c<h.size→o' c=o c)∧Fr (λc=>o c≠0∨dd (some C.E) c) h g∧g[b1]? =some (.cells #[ptr bp] 35 (0,0))∧g[b3]? =some (.cells #[.int .i64 ((k:Int)+1)] 3 (0,0))∧o' b1=0∧o' b3=0∧o' A=0∧zR (some C.E) (P.ws k) n n') ?_ ?_
 ·have nS:∀{c},o c=4∨o c=9→¬((o c=10+k∨o c=1∨o c=5)∨dd (some C.E) c):=λ{c} hc h=>h.elim (by omega) (H.ow c (by omega)).2.2.2.2
  have nL:∀{c},h.size≤c→¬((o c=10+k∨o c=1∨o c=5)∨dd (some C.E) c):=λ{c} hc h=>h.elim (by have:=(H.fresh hc).1;omega) (H.fresh hc).2.2.2
  have M0:Fr (λc=>o c≠0∨dd (some C.E) c) h g3:=E.fr;have hM:∀c,((o c=10+k∨o c=1∨o c=5)∨dd (some C.E) c)→o c≠0∨dd (some C.E) c:=λc hc=>hc.imp (by omega) id
  have tc:evV e=.agg [.int .i64 e.1,.int .i64 e.2.1,.int .i64 e.2.2.1,.int .i64 e.2.2.2].toArray:=rfl;have one:∀v∈[Value.int .i64 e.1,.int .i64 e.2.1,.int .i64 e.2.2.1,.int .i64 e.2.2.2],aJ v=true:=ak rfl (ak rfl (ak rfl (ak rfl aQ)));refine aI (Fr (λc=>(o c=10+k∨o c=1∨o c=5)∨dd (some C.E) c) g3) (Fr.refl _ _) ?_;refine ao (ptr bp) (λg f=>ai (f.row r1 (nL n1))) ?_;simp only[go_sem,Nat.zero_add];refine ao V.wv (λg f=>ai (f.row ab (nS (.inl H.po)))) ?_;refine ao (.int .i64 ((k:Int)+1)) (λg f=>ai (f.row r3 (nL (by omega)))) ?_;simp only[go_sem];rw[w64 (n:=(k:Int)+1-1) (by omega) (by omega),show(k:Int)+1-1=(k:Int)by omega];obtain⟨p,a1,a2⟩:=H3.wat id hk;rw[a1,ah];refine ao (ptr (bw k)) (λg f=>?_) ?_
  ·obtain⟨p',c1,c2⟩:=((H3.wk id).1.fr f λc _ hc=>nS (.inr ((H3.wk id).2 c hc))).at1 (k:=.i64) hk;rw[a1]at c1;cases c1;rw[c2];simp[hk]
  refine ao (ptr bp) (λg f=>ai (f.row r1 (nL n1))) ?_
  try simp only[go_sem,Nat.zero_add]
  refine ao (ptr C.bq) (λg f=>ai (f.row ab (nS (.inl H.po)))) ?_;have l1:=aW r1;have l3:=aW r3;refine⟨?_,?_⟩
  ·refine(RP O G H3 hk r1 r3 f1.1 f3.1 ht hb hx).mono λr g4 ⟨er,n',o',I,L,f4,U⟩=>⟨f4,?_⟩
   rw[aa]at er;subst er;have s4:=f4.1;refine aC λA g5 r5 e5 n5=>⟨f4.ext_r e5,?_⟩
   refine ch (l:=[.int .i64 e.1,.int .i64 e.2.1,.int .i64 e.2.2.1,.int .i64 e.2.2.2]) r5 rfl one rfl λg6 r6 u6=>?_
   have E6:=e5.upd n5 u6;have f6:=f4.ext_r E6;exact⟨f6,A,n',o',_,rfl,r6,I.ex E6,λc hc=>L c (by omega),M0.after f6 λc _ hc=>hM c hc,f6.row r1 (nL n1),f6.row r3 (nL (by omega)),by rw[L _ l1];exact f1.1,by rw[L _ l3];exact f3.1,(I.fresh n5).1,U⟩
  ·refine aC λA g4 r4 e4 n4=>⟨e4.fr,?_⟩
   have s4:=e4.1;have l4:=aW r4;refine(RP O G (H3.ex e4) hk (e4.row r1) (e4.row r3) f1.1 f3.1 ht hb hx).mono λr g5 ⟨er,n',o',I,L,f5,U⟩=>⟨e4.fr.trans f5,?_⟩
   rw[aa]at er;subst er;have s5:=f5.1;refine ch (l:=[.int .i64 e.1,.int .i64 e.2.1,.int .i64 e.2.2.1,.int .i64 e.2.2.2]) (f5.row r4 (nL (by omega))) rfl one rfl λg6 r6 u6=>?_
   have f6:=(e4.fr.trans f5).upd_new u6 (x:=A) n4;have ax:=H.fresh (c:=A) (by omega);have ob:o' A=0:=by rw[L A l4];exact ax.1
   exact⟨f6,A,n',o',_,rfl,r6,I.loc u6 ⟨ob,by have:=H.ext.1;omega,ax.2⟩,λc hc=>L c (by omega),M0.after f6 λc _ hc=>hM c hc,f6.row r1 (nL n1),f6.row r3 (nL (by omega)),by rw[L _ (by omega)];exact f1.1,by rw[L _ (by omega)];exact f3.1,ob,U⟩
 rintro xs ρ g ⟨A,n',o',T,rfl,re,I,L,fr,q1,q3,z1,z3,ze,U⟩;have k0:aB g ⟨A,0,none⟩=some (.int .i64 e.1):=ai re;have k1:aB g ⟨A,1,none⟩=some (.int .i64 e.2.1):=ai re;have F:=I.p id;have b0:=fr.1;have D:∀{o2:Nat→Nat} {P2:bL} {g2:af},dJ C Z K h0 bw bp o2 n' P2 g2→(∀c,c<g.size→o2 c=o' c)→Fr (λc=>o' c≠0∨dd (some C.E) c) g g2→PTo C Z K h0 bw bp o h n' P2 g2:=λ{o2 P2 g2} a b c=>⟨o2,a,λc hc=>(b c (by omega)).trans (L c hc),fr.after c λc hc h=>h.imp (λh=>by rwa [L c hc]at h) id⟩
 have wP:qk C K P k=if e.1=1 then{gT C P k with rows:=lV (K+1) P.rows (k+1:Nat) (P.stamps.getD e.2.1.toNat [])}else if e.1=2 then wn C (gT C P k) k e else if e.1=3 then Uh K (gT C P k) k else gT C P k:=by
  unfold qk;rw[aw]
 rw[wP];simp only[gb,go_sem,Nat.zero_add,k0];refine aj (λc1=>?_) (λc1=>?_)
 ·rw[if_pos c1];obtain⟨m1,m2⟩:=h1 c1;obtain⟨m,hm⟩:∃m:Nat,e.2.1=(m:Int):=⟨e.2.1.toNat,by omega⟩
  have an:m<P.stamps.length:=by omega
  obtain⟨Zr,ow,_,_⟩:=I.s id;obtain⟨p,c,a1,a2,a3⟩:=ow.sl.at1 rfl (k:=.i64) (i:=m) an;obtain⟨v,hv,hS⟩:=a3;cases hv;have hi:=Ma hS;refine aI (λk=>k=g) rfl ?_;refine ao (ptr bp) (λk e=>by rw[e];exact ai q1) ?_
  try simp only[go_sem,Nat.zero_add]
  refine ao V.vc (λk e=>by rw[e];exact ai F) ?_;refine ao (.int .i64 ((k:Int)+1)) (λk e=>by rw[e];exact ai q3) ?_;refine ao (ptr bp) (λk e=>by rw[e];exact ai q1) ?_
  try simp only[go_sem,Nat.zero_add]
  refine ao V.sv (λk e=>by rw[e];exact ai F) ?_;refine ao (.int .i64 e.2.1) (λk e=>by rw[e];exact k1) ?_;rw[hm,a1,ah];refine ao c (λk e=>by rw[e];exact a2) ?_;rw[who];have bk:=hs _ (List.getElem_mem an);refine(QR I (i:=k+1) hi bk).mono λr g2 ⟨H2,f2⟩=>⟨n',D (o2:=grow o' 2 g.size g2.size) ⟨V,?_⟩ (λc hc=>gm hc) (f2.mono λc _ hc=>.inl (by have hc:o' c=2:=hc;omega)),U⟩
  have e1:P.stamps.getD (m:Int).toNat []=P.stamps[m]:=by rw[Int.toNat_natCast,List.getD_eq_getElem?_getD,List.getElem?_eq_getElem an];rfl
  rw[e1];exact H2
 rw[if_neg c1];refine aj (λc2=>?_) (λc2=>?_)
 ·rw[if_pos c2];obtain⟨m1,m2,m3,m4⟩:=h2 c2;have bo:ldV g (ptr b1)=some (ptr bp):=ai q1;have bv:ldV g (ptr b3)=some (.int .i64 ((k:Int)+1)):=ai q3;have le:aH 4 g (ptr A)=some (evV e):=aM (l:=[.int .i64 e.1,.int .i64 e.2.1,.int .i64 e.2.2.1,.int .i64 e.2.2.2]) re 4 rfl;have a7:aB g ⟨b1,0,none⟩=some (ptr bp):=ai q1;have a8:aB g ⟨b3,0,none⟩=some (.int .i64 ((k:Int)+1)):=ai q3;rw[a7,ah,a8,ah,le,ah];refine(WN O (P:=gT C P k) ⟨V,I⟩ hk hl m1 m2 m3 m4).mono λr g2 ⟨_,o2,a,b,c⟩=>⟨n',D a b c,U⟩
 rw[if_neg c2];refine aj (λc3=>?_) (λc3=>?_)
 ·rw[if_pos c3];refine aI (λk=>k=g) rfl ?_;refine ao (ptr bp) (λk e=>by rw[e];exact ai q1) ?_
  try simp only[go_sem,Nat.zero_add]
  refine ao V.vc (λk e=>by rw[e];exact ai F) ?_;refine ao (.int .i64 ((k:Int)+1)) (λk e=>by rw[e];exact ai q3) ?_;refine ao (ptr bp) (λk e=>by rw[e];exact ai q1) ?_
  try simp only[go_sem,Nat.zero_add]
  refine ao V.ev (λk e=>by rw[e];exact ai F) ?_;rw[who];refine(QR I (i:=k+1) (Ma (I.e id)) hf).mono λr g2 ⟨H2,f2⟩=>?_
  have ar:∀{c},o' c=0→¬o' c=2:=λh=>by omega
  have bc:=aW q1;have ay:=aW q3;have a9:=f2.row q1 (ar z1);have al:=f2.row q3 (ar z3);have ad:=H2.p id;have hp:=H2.po;rw[who]at al;refine aI (λk'=>k'[b1]? =some (.cells #[ptr bp] 35 (0,0))∧k'[b3]? =some (.cells #[.int .i64 ((k+1:Nat):Int)] 3 (0,0))∧k'[bp]? =some (.cells (gk C V {gT C P k with rows:=lV (K+1) (gT C P k).rows (k+1:Nat) (gT C P k).fin}) 106 (0,0))) ⟨a9,al,ad⟩ ?_;refine ao (ptr bp) (λk e=>ai e.1) ?_;refine ao (ptr bp) (λk e=>ai e.1) ?_
  try simp only[go_sem,Nat.zero_add]
  refine ao V.lv (λk e=>ai e.2.2) ?_;refine ao (ptr bp) (λk e=>ai e.1) ?_
  try simp only[go_sem,Nat.zero_add]
  refine ao V.vc (λk e=>ai e.2.2) ?_;refine ao (.int .i64 ((k+1:Nat):Int)) (λk e=>ai e.2.1) ?_;refine(QX (H2.c id) ((k+1:Nat):Int)).mono λr g3 ⟨o3,bd,f3,n3⟩=>?_
  have gz:∀{c},c<g.size→o' c=0→¬grow o' 2 g.size g2.size c=2:=λhl h=>by rw[gm hl];omega
  have gp:¬grow o' 2 g.size g2.size bp=2:=by omega
  have S3:=And.intro (f3.row a9 (gz bc z1)) (And.intro (f3.row al (gz ay z3)) (f3.row ad gp));refine⟨S3,?_⟩;have au:Gq (K+1) (lV (K+1) (gT C P k).rows (k+1:Nat) (gT C P k).fin) ((k+1:Nat):Int)=lV (K+1) P.rows (k+1:Nat) P.fin (k+1):=by
   unfold Gq;rw[if_pos (by omega),Int.toNat_natCast];rfl
  rw[au]at o3;refine H2.rs_push (j:=7) (by omega) (H2.f id) o3 bd f3 n3 rfl bg (λh' e=>⟨e.row S3.1,e.row S3.2.1,e.row S3.2.2⟩) λs' g4 hR H4 fA f4=>?_
  have g7:∀{c},c<g.size→o' c=0→¬grow o' 2 g.size g2.size c=7:=λhl h=>by rw[gm hl];omega
  have W:=f4.row S3.2.2 (show¬grow o' 2 g.size g2.size bp=7 by omega);refine⟨⟨f4.row S3.1 (g7 bc z1),f4.row S3.2.1 (g7 ay z3),W⟩,?_⟩;have os:aJ s'=true:=by
   obtain⟨_,o5,_⟩:=hR;exact o5.one
  refine bK W (show 11<_ from by simp[gk]) os λg5 r5 u5=>?_
  have H5:=H4.putL hR u5 r5;refine⟨n',D (o2:=grow (grow o' 2 g.size g2.size) 7 g2.size g4.size) ⟨_,H5⟩ (λc hc=>?_) ?_,U⟩
  ·have:=f2.1;rw[gm (by omega),gm hc]
  ·have s2:=f2.1;have F1:Fr (λc=>o' c≠0∨dd (some C.E) c) g g2:=f2.mono λc _ hc=>.inl (by have hc:o' c=2:=hc;omega)
   have F2:=F1.after fA λc hc h=>.inl (by rw[gm hc]at h;omega)
   exact F2.after u5.fr λc hc h=>.inl (by
    have h:c=bp:=h;rw[h]at hc ⊢;rw[gm hc]at hp;omega)
 rw[if_neg c3];exact⟨n',D ⟨V,I⟩ (λ_ _=>rfl) (Fr.refl _ _),U⟩
end
end
section
def Xo (K:Nat)(P:bL):bL:={P with q:=mW P.q P.sent,rows:=CE (K+1) P.rows 0,stamps:=P.stamps++[P.rows 0],sent:=P.sent+1}
def UL (K:Nat)(P:bL):bL:={P with q:={P.q with closed:=true},rows:=CE (K+1) P.rows 0,fin:=P.rows 0}
def ww (K:Nat)(rows:Nat→List Int)(l:List (List Int)):Nat→List Int:=l.foldl (λr s=>lV (K+1) r 0 s) rows
def Xt (C:C21)(K:Nat)(P:bL):bL:={qG {P with rows:=ww K P.rows P.left} 0 1 0 (C.d.X*C.d.Y*C.m.c) false with ret:=true}
def DL (C:C21)(K:Nat)(P:bL):bL:=if P.sent<bO C.d then Xo K P else if P.q.closed=false then UL K P else Xt C K P
def mY (C:C21)(K:Nat)(P:bL)(i:Int):bL:=
 if gX C K P i=false then P else if i=0 then DL C K {P with picks:=P.picks+1}else qk C K {P with picks:=P.picks+1} (i-1).toNat
section
variable {C:C21}{Z:Nat→Prop}{K:Nat}{h0 h:af}{bw:Nat→Nat}{bp:Nat}{o:Nat→Nat}{n:Pic}{P:bL}
theorem Yg (O:C.Ok)(H:dJ C Z K h0 bw bp o n P h)(hl:P.acc.length≤999999)(bv:P.stamps.length≤1000000)(bo:0≤P.sent)(a8:∀s∈P.left,s.length≤4398046511104)(b1:P.left.length≤1000000)(b0:bO C.d≤1000000):
  ae prog oe #[ptr bp] h λr h'=>PTo C Z K h0 bw bp o h n (DL C K P) h':=by
 have HP:=H;obtain⟨V,H,row⟩:=H.row;apply DB;unfold tJ;have hK:=H.few;have c8:aB h ⟨bp,8,none⟩=some (.int .i64 P.sent):=ai row;have c2:aB h ⟨bp,2,none⟩=some (ptr C.bl):=ai row;have c3:aB h ⟨bp,3,none⟩=some (ptr C.bq):=ai row;have a9:aB h ⟨bp,11,none⟩=some V.lv:=ai row;have c4:aB h ⟨bp,4,none⟩=some V.vc:=ai row;have c9:aB h ⟨bp,9,none⟩=some V.sv:=ai row;have hp:=H.po;have aa:∀rows,Gq (K+1) rows (0:Int)=rows 0:=λrows=>by
  unfold Gq;rw[if_pos (by omega)];rfl
 refine aI (λk=>k=h) rfl ?_;simp only[go_sem,Nat.zero_add];refine ao (.int .i64 P.sent) (λk e=>by rw[e];exact c8) ?_
 try simp only[go_sem,Nat.zero_add]
 refine ao (ptr C.bl) (λk e=>by rw[e];exact c2) ?_;refine ae.at (Ag H.pl O.d) ⟨rfl,?_⟩;unfold DL;rw[bU,ah];refine aj (λg1=>?_) (λg1=>?_)
 ·rw[if_pos g1];refine aI (λk=>k=h) rfl ?_;refine ao (ptr C.bq) (λk e=>by rw[e];exact c3) ?_
  try simp only[go_sem,Nat.zero_add]
  refine ao (.int .i64 P.sent) (λk e=>by rw[e];exact c8) ?_;refine(WI (H.q id)).mono λr g2 ⟨_,q2,f2⟩=>?_
  have an:Fr (λc=>(λk=>k=1) (o c)) h g2:=f2;have F:=H.take (H.chg (A:=λk=>k=1) (by omega) an) (b:=1);have F:=(F.less (Y:=λk=>False∨k=1) λk hk=>by rcases hk with (h|h)|h<;>first|exact h.elim|exact .inr h).fq (q:=mW P.q P.sent) (by
   have e:(λc=>grow o 1 h.size g2.size c=1)=nP (λc=>o c=1) h g2:=by
    funext c
    refine propext ?_;unfold grow;split
    ·rename_i h3;exact⟨λ_=>.inr h3,λ_=>rfl⟩
    ·rename_i h3;exact⟨.inl,λh=>h.elim id λh=>absurd h h3⟩
   rw[e];exact q2)
  have D:=F.p id;have bk:=F.po;have s2:=f2.1;refine aI (λk=>k[bp]? =some (.cells (gk C V {P with q:=mW P.q P.sent}) 106 (0,0))) D ?_;refine ao V.sv (λk e=>ai e) ?_
  try simp only[go_sem,Nat.zero_add]
  refine ao V.vc (λk e=>ai e) ?_;refine(QX (F.c id) 0).mono λr L ⟨W,ad,f3,n3⟩=>?_
  rw[aa]at W;have S3:=f3.row D (show¬grow o 1 h.size g2.size bp=2 by omega);refine⟨S3,?_⟩;refine F.rs_push (j:=6) (by omega) (F.s id) W ad f3 n3 rfl (by show P.stamps.length≤_;omega) (λh' e=>e.row S3) λs' g4 hR H4 fA f4=>?_
  have au:=f4.row S3 (show¬grow o 1 h.size g2.size bp=6 by omega);have os:aJ s'=true:=by
   obtain⟨_,o5,_⟩:=hR;exact o5.one
  try simp only[go_sem,Nat.zero_add]
  refine bK au (show 9<_ from by simp[gk]) os λg5 r5 u5=>?_
  have H5:=H4.putS hR u5 r5;have ax:aB g5 ⟨bp,8,none⟩=some (.int .i64 P.sent):=ai (H5.p id);simp only[go_sem,Nat.zero_add,ax];rw[w64 (n:=P.sent+1) (by omega) (by omega)];refine bK (H5.p id) (show 8<_ from by simp[gk]) rfl λg6 r6 u6=>?_
  have H6:=H5.setrow u6 (st:=P.sent+1) (rt:=P.ret) (pk:=P.picks) r6;refine⟨grow (grow o 1 h.size g2.size) 6 g2.size g4.size,⟨_,H6⟩,λc hc=>?_,?_⟩
  ·rw[gm (by omega),gm hc]
  ·have F1:Fr (λc=>o c≠0∨dd (some C.E) c) h g2:=f2.mono λc _ hc=>.inl (by have hc:o c=1:=hc;omega)
   have F2:=F1.after fA λc hc h=>.inl (by rw[gm hc]at h;omega)
   have F3:=F2.after u5.fr λc hc h=>.inl (by have h:c=bp:=h;rw[h];omega)
   exact F3.after u6.fr λc hc h=>.inl (by have h:c=bp:=h;rw[h];omega)
 ·rw [if_neg g1];rw[c3,ah];refine ae.at (LR (H.q id)) ?_;cases hc:P.q.closed with
  | false=>
   rw[if_pos rfl];simp only[go_sem,Nat.zero_add,c3];refine(Pl (H.q id)).mono λr g2 ⟨_,q2,f2⟩=>?_
   have an:Fr (λc=>(λk=>k=1) (o c)) h g2:=f2;have F:=(H.chg (A:=λk=>k=1) (by omega) an).fq q2;have D:=F.p id;have al:aB g2 ⟨bp,4,none⟩=some V.vc:=ai D;simp only[go_sem,Nat.zero_add,al];refine(QX (F.c id) 0).mono λr L ⟨W,ad,f3,n3⟩=>?_
   rw[aa]at W;have be:Fr (λc=>(λk=>k=2) (o c)) g2 L:=f3;have H3:=F.take (F.chg (A:=λk=>k=2) (by omega) be) (b:=8);have H3:=(H3.less (Y:=λk=>k=8∨k=2) λk hk=>by rcases hk with (h|h)|h<;>first|exact h.elim|exact .inr h|exact .inl h).fc (r:=CE (K+1) P.rows 0) (by rw[Ul (λc hc=>(F.fresh hc).1) (by omega) (by omega)];exact ad);have G:=f3.row D (show¬o bp=2 by omega);have hs:Rp.Sl (Rp.int .i64) (λc=>grow o 8 g2.size L.size c=8) L r (P.rows 0):=wA W.ints λ_ c hc=>by
    unfold grow;rw[if_pos ⟨n3 c hc,Own.lt W hc⟩]
   refine bK G (show 10<_ from by simp[gk]) (z7 W) λg4 r4 u4=>?_
   have H4:=H3.putE hs u4 r4;have s2:=f2.1;refine⟨grow o 8 g2.size L.size,⟨_,H4⟩,λc hc=>gm (by omega),?_⟩;have F1:Fr (λc=>o c≠0∨dd (some C.E) c) h g2:=f2.mono λc _ hc=>.inl (by have hc:o c=1:=hc;omega)
   have F2:=F1.after f3 λc hc h=>.inl (by omega)
   exact F2.after u4.fr λc hc h=>.inl (by have h:c=bp:=h;rw[h];omega)
  | true=>
   rw[if_neg (by simp)];simp only[go_sem,Nat.zero_add,a9];have bc:=(H.f id).len;rw[bc,ah];refine bA (α:=Unit) P.left.length 0 (λi _=>[.int .i64 (i:Int)]) (λi _ g=>∃o',aL (λ_=>False) C Z K h0 bw bp o' n V {P with rows:=ww K P.rows (P.left.take i)} g∧(∀c,c<h.size→o' c=o c)∧Fr (λc=>o c≠0∨dd (some C.E) c) h g) () rfl (Nat.zero_le _) ⟨o,H,λ_ _=>rfl,Fr.refl _ _⟩ λi _ g again ρ _ hi ⟨o',U,oo,f⟩ ay=>?_
   have ab:=U.p id;have al:aB g ⟨bp,4,none⟩=some V.vc:=ai ab;have a7:aB g ⟨bp,1,none⟩=some (ptr C.bt):=ai ab;have sg:=f.1;simp only[gb];rw[bU,ah];refine aj (λg2=>?_) (λg2=>?_)
   ·have I:i<P.left.length:=by omega
    have bd:(i:Int)+1=((i+1:Nat):Int):=by omega
    obtain⟨Zr,ow,_,_⟩:=U.f id;obtain⟨p,c,a1,a2,a3⟩:=ow.sl.at1 rfl (k:=.i64) (i:=i) I;obtain⟨v,hv,hS⟩:=a3;cases hv;have aw:=a8 _ (List.getElem_mem I);rw[a1,ah,a2,ah];simp only[go_sem,Nat.zero_add,al];refine(QR U (i:=0) (Ma hS) aw).mono λr L ⟨H3,f3⟩=>?_
    rw[w64 (n:=(i:Int)+1) (by omega) (by omega),bd];refine ay () L I ⟨grow o' 2 g.size L.size,?_,λc hc=>by rw[gm (by omega)];exact oo c hc,f.after f3 λc hc h=>.inl (by rw[←oo c hc];have h:o' c=2:=h;omega)⟩;have e:ww K P.rows (P.left.take (i+1))=lV (K+1) (ww K P.rows (P.left.take i)) 0 P.left[i]:=by
     unfold ww;rw[List.take_succ_eq_append_getElem I,List.foldl_append];rfl
    rw[e];exact H3
   ·have:i=P.left.length:=by omega
    subst this;rw[List.take_length]at U;simp only[go_sem,Nat.zero_add,a7];obtain⟨s1,s2,s3,s4,s5⟩:=U.sui.2;refine ae.at (Cn U.set.out U.sui.1.fits) ?_;have bf:=cL U.sui.1.fits;have ar:1≤n.w*n.h*n.c:=Int.mul_pos (Int.mul_pos (by omega) (by omega)) (by omega);have en:n.w*n.h*n.c=C.d.X*C.d.Y*C.m.c:=by rw[s2,s3,s4];rfl
    rw[en]at ar bf ⊢;refine(Co (P:={P with rows:=ww K P.rows P.left}) ⟨V,U⟩ (who:=0) (by omega) (by show P.acc.length≤_;omega) (by omega) (by omega) ar (by omega)).mono λr L ⟨_,W,H3,q3,f3⟩=>?_
    obtain⟨V3,B3,G⟩:=H3.row
    try simp only[go_sem,Nat.zero_add]
    refine bK G (show 12<_ from by simp[gk]) rfl λg4 r4 u4=>?_
    have bg:=B3.po;have H4:=B3.setrow u4 (st:=P.sent) (rt:=true) (pk:=P.picks) r4;refine⟨W,⟨_,H4⟩,λc hc=>(q3 c (by omega)).trans (oo c hc),?_⟩;have F2:=f.after f3 λc hc h=>by rwa [oo c hc]at h
    exact F2.after u4.fr λc hc h=>.inl (by have h:c=bp:=h;rw[←oo c hc,←q3 c (by omega),h];omega)
end
end
end Go.Proofs.YtjljhnandbbldaaGreatDoor
namespace Go.Proofs.YtjljhnandbbldaaGreatDoor
open Go Go.Crisp
attribute [local irreducible] ae cE aP stK aA vK qK bC gK dK aU mkK cF Ch DH zZ bsK clK qQ lW Rw
structure Np (C:C21)(sent:Int)(w:WD)(words:Int):Prop where
 tl:∀x∈w.tiles,0≤x∧x<sent
 st:(w.state=1∧qS (some C.E) w.job∧w.tiles≠[])∨((w.state=0∨w.state=2)∧w.job=none)
 jb:∀t y e,w.job=some (t,y,e)→t=aG C.d (w.tiles.getLast?.getD 0)∧words=pW C (w.tiles.getLast?.getD 0)
structure jZ (C:C21)(K:Nat)(P:bL):Prop where
 sent:0≤P.sent∧P.sent≤bO C.d
 st:(P.stamps.length:Int)=P.sent
 q:∀x∈P.q.l,0≤x∧x<P.sent
 w:∀i,i<K→Np C P.sent (P.ws i) (P.words i)
 tn:∀i,i<K→((P.ws i).tiles.length:Int)≤P.picks
 rows:∀i,i≤K→(P.rows i).length=K+1
 ss:∀s∈P.stamps,s.length=K+1
 fn:P.fin.length≤K+1
 ls:∀s∈P.left,s.length=K+1
 ln:(P.left.length:Int)≤P.picks
 ac:(P.acc.length:Int)≤2+2*P.picks
 pk:0≤P.picks
 cl:P.q.closed=true→P.sent=bO C.d
theorem GK {n:Nat}{rows:Nat→List Int}(h:∀i,i<n→(rows i).length=n)(i:Int):∀j,j<n→(CE n rows i j).length=n:=by
 intro j A;unfold CE;split
 ·rename_i hi;by_cases e:j=i.toNat
  ·simp only[e,if_true,List.length_set];exact h _ (by omega)
  ·simp only[e,if_false];exact h j A
 ·exact h j A
theorem IF {n:Nat}{rows:Nat→List Int}(h:∀i,i<n→(rows i).length=n)(i:Int)(s:List Int):∀j,j<n→(lV n rows i s j).length=n:=by
 intro j D;unfold lV;split
 ·rename_i A;unfold Gs at A;simp only[Bool.and_eq_true,decide_eq_true_eq]at A;by_cases e:j=i.toNat
  ·simp only[e,if_true,wz];rw[h _ (by omega),A.2.1,Nat.max_self]
  ·simp only[e,if_false];exact h j D
 ·exact h j D
theorem TA {C:C21}(O:C.Ok){x:Int}(h1:0≤x)(D:x<bO C.d):1≤pW C x∧pW C x≤100000000000:=by
 have H:=cL O.m.fits;have G:=iu O.d h1 D;unfold dG at G;have I:1*1≤(aG C.d x).w*C.m.c:=Int.mul_le_mul (by omega) (by omega) (by omega) (by omega);have F:1≤(gj (bu C.d.s.y.lines):Int)∧(gj (bu C.d.s.y.lines):Int)≤65536:=by unfold gj;omega
 have A:1≤(dP ((aG C.d x).w*C.m.c):Int)∧(dP ((aG C.d x).w*C.m.c):Int)≤262144:=by unfold dP;omega
 have h1:1*1≤(gj (bu C.d.s.y.lines):Int)*(dP ((aG C.d x).w*C.m.c):Int):=Int.mul_le_mul F.1 A.1 (by omega) (by omega);have D:=Int.mul_le_mul F.2 A.2 (by omega) (show(0:Int)≤65536 by omega);unfold pW;omega
theorem OG {l:List Int}(h:l≠[]):l.getLast?.getD 0∈l:=by
 rw[List.getLast?_eq_some_getLast h];exact List.getLast_mem h
theorem Np.step {C:C21}{sent:Int}{w:WD}{words:Int}{q:QD}(H:Np C sent w words)(hq:∀x∈q.l,0≤x∧x<sent):
  Np C sent (cn (some C.E) (C.jo (bH q)) w q).1 (if w.state=0∧dh q=0 then pW C (bH q)else words):=by
 have W:∀(jo:Option (co×Int×Int)) (tl:List Int),(jo≠none→tl≠[])→(stJ (bZ (some C.E) jo)=1∧qS (some C.E) (bZ (some C.E) jo)∧tl≠[])∨((stJ (bZ (some C.E) jo)=0∨stJ (bZ (some C.E) jo)=2)∧bZ (some C.E) jo=none):=λjo tl h=>by
  rcases Ei (some C.E) jo with⟨h1,L,F⟩|h1
  ·refine .inl ⟨?_,L,h ?_⟩
   ·rcases yC (E:=some C.E) (jo:=jo)with h|h
    ·exact h.1
    ·exact absurd h.2 h1
   ·rw[←F];exact h1
  ·refine .inr ⟨?_,h1⟩;rw[h1];exact .inl rfl
 have I:∀(jo:Option (co×Int×Int)) t y e,bZ (some C.E) jo=some (t,y,e)→jo=some (t,y,e):=λjo t y e h=>by
  rcases Ei (some C.E) jo with⟨_,_,F⟩|h1
  ·rw[←F];exact h
  ·rw[h1]at h;cases h
 obtain⟨st,tl,jo,wd⟩:=w;obtain⟨h1,L,F⟩:=H;unfold cn;rcases L with⟨A,G,s3⟩|⟨A|A,G⟩
 ·have A:st=1:=A;subst A;cases jo with
  |none=>exact(show False from G).elim
  |some x=>
   obtain⟨t,y,e⟩:=x;rw[if_pos rfl,if_neg (show¬((1:Int)=0∧_)from λh=>by omega)];refine⟨h1,W _ _ λ_=>s3,λt' y' e' h=>?_⟩;have h:=I (some (t,eU (C.E.d t) y e,fZ (C.E.d t) y e)) _ _ _ h;have h:some (t,eU (C.E.d t) y e,fZ (C.E.d t) y e)=some (t',y',e'):=h;cases h;exact F t y e rfl
 ·have A:st=0:=A;subst A;have G:jo=none:=G;subst G;rw[if_neg (show¬(0:Int)=1 by omega),if_neg (show¬(0:Int)=2 by omega)];by_cases D:dh q=0
  ·rw[if_pos D,if_pos ⟨rfl,D⟩];have hm:bH q∈q.l:=by
    unfold dh at D;unfold bH;cases hl:q.l with
    |nil=>rw[hl,if_pos rfl]at D;split at D<;>omega
    |cons a l=>simp
   have hx:=hq _ hm;refine⟨λx U=>?_,W _ _ λ_=>by simp[w9],λt y e h=>?_⟩
   ·rcases List.mem_append.1 U with h|h
    ·exact h1 x h
    ·rw[List.mem_singleton.1 h];exact hx
   ·have h:=I (C.jo (bH q)) _ _ _ h;have h:some (Lw C.d (bH q))=some (t,y,e):=h;unfold Lw at h;cases h;show _=aG C.d ((tl++[bH q]).getLast?.getD 0)∧_=pW C ((tl++[bH q]).getLast?.getD 0);simp
  ·rw[if_neg D,if_neg (show¬((0:Int)=0∧dh q=0)from λh=>D h.2)];split
   ·exact⟨h1,.inr ⟨.inr rfl,rfl⟩,λt y e h=>by cases h⟩
   ·exact⟨h1,.inr ⟨.inl rfl,rfl⟩,λt y e h=>by cases h⟩
 ·have A:st=2:=A;subst A;rw[if_neg (show¬(2:Int)=1 by omega),if_pos rfl,if_neg (show¬((2:Int)=0∧_)from λh=>by omega)];exact⟨h1,.inr ⟨.inr rfl,G⟩,F⟩
end Go.Proofs.YtjljhnandbbldaaGreatDoor
namespace Go.Proofs.YtjljhnandbbldaaGreatDoor
open Go Go.Crisp
attribute [local irreducible] ae cE aP stK aA vK qK bC gK dK aU mkK cF Ch DH zZ bsK clK qQ lW Rw
open _root_.Go.Proofs.Tryz
section
structure DV where
 X:Value
 Y:Value
 tv:Value
 mv:Value
 ql:Value
 cv:Value
 wv:Value
 av:Value
 st:Value
 en:Value
 lf:Value
def dpC (C:C21)(P:bL)(V:DV):List Value:=[V.X,V.Y,.int .i64 C.d.s.x.n,.int .i64 C.d.s.y.n,.int .i64 C.d.s.border,.int .i64 C.m.c,V.tv,V.mv,.int .i64 P.q.room,V.ql,.bool P.q.closed,V.cv,V.wv,V.av,.int .i64 P.sent,.bool P.q.closed,.bool P.ret,V.st,V.en,V.lf]
structure DAt (Z:Nat→Prop)(C:C21)(K N:Nat)(P:bL)(V:DV)(h:af):Prop where
 x:Rp.Sl km Z h V.X C.d.s.x.lines
 y:Rp.Sl km Z h V.Y C.d.s.y.lines
 t:Rp.Sl Bf Z h V.tv (cR C.d N)
 m:Rp.Sl XG Z h V.mv (BX C N)
 q:Rp.Sl (Rp.int .i64) Z h V.ql P.q.l∧Rp.SlCap V.ql
 c:Rp.Sl rIs Z h V.cv ((List.range (K+1)).map P.rows)
 w:Rp.Sl rVD Z h V.wv ((List.range K).map λi=>vOf C.E (P.ws i))
 a:Rp.Sl ur Z h V.av P.acc
 s:Rp.Sl rIs Z h V.st P.stamps
 e:Rp.Sl (Rp.int .i64) Z h V.en P.fin
 f:Rp.Sl rIs Z h V.lf P.left
section
variable {Z:Nat→Prop}{C:C21}{K N:Nat}{P:bL}{V:DV}{h:af}
theorem DAt.fr {M:Nat→Prop}{h':af}(H:DAt Z C K N P V h)(f:Fr M h h')(q:∀b,b<h.size→Z b→¬M b):DAt Z C K N P V h':=
 ⟨H.x.fr f q,H.y.fr f q,H.t.fr f q,H.m.fr f q,⟨H.q.1.fr f q,H.q.2⟩,H.c.fr f q,H.w.fr f q,H.a.fr f q,H.s.fr f q,H.e.fr f q,H.f.fr f q⟩
theorem DAt.ext {h':af}(H:DAt Z C K N P V h)(k:Ext h h'):DAt Z C K N P V h':=H.fr (M:=λ_=>False) k.fr λ_ _ _=>id
theorem DAt.mono {Z':Nat→Prop}(H:DAt Z C K N P V h)(q:∀b,b<h.size→Z b→Z' b):DAt Z' C K N P V h:=
 ⟨H.x.mono q,H.y.mono q,H.t.mono q,H.m.mono q,⟨H.q.1.mono q,H.q.2⟩,H.c.mono q,H.w.mono q,H.a.mono q,H.s.mono q,H.e.mono q,H.f.mono q⟩
theorem DAt.ones (H:DAt Z C K N P V h):∀v∈dpC C P V,aJ v=true:=
 ak H.x.one (ak H.y.one (ak rfl (ak rfl (ak rfl (ak rfl (ak H.t.one (ak H.m.one (ak rfl (ak H.q.1.one (ak rfl (ak H.c.one (ak H.w.one (ak H.a.one (ak rfl (ak rfl (ak rfl (ak H.s.one (ak H.e.one (ak H.f.one aQ)))))))))))))))))))
end
def DTo (Z:Nat→Prop)(C:C21)(K N:Nat)(h:af)(P:bL)(r:Value)(h':af):Prop:=∃Z' V,r=.agg (dpC C P V).toArray∧DAt Z' C K N P V h'∧(∀c,Z' c→(Z c∨h.size≤c)∧c<h'.size)∧Ext h h'
theorem VK {h:af}{L F:Nat}{l:List Value}{T:TypeId}{D:Array Value}{n:Nat}{R:Value→af→Prop}(r1:h[L]? =some (.cells l.toArray T (0,0)))(r3:h[F]? =some (.cells D T (0,0)))(G:l.length=n)(ho:D.size=n)(h1:∀v∈l,aJ v=true)
  (U:∀h',Upd F h h'→R (.agg l.toArray) h'):vK (aH n h (ptr L)) λI=>stK n (ptr F) I h λW A=>vK (aH n A (ptr F)) λH=>R H A:=by
 rw[aM r1 n G,ah];refine ch r3 (by omega) h1 G λh' r' u=>?_
 rw[aM r' n G,ah];exact U h' u
theorem XH {Z:Nat→Prop}{h:af}{v:Value}{l:List (List Int)}{k:IntKind}{i:Nat}(H:Rp.Sl rIs Z h v l)(hi:i<l.length):∃p s,aR 1 v (.int k (i:Int))=some p∧ldV h p=some s∧Rp.Sl (Rp.int .i64) Z h s l[i]:=by
 obtain⟨b,o,cs,h1,F,A,⟨s,rfl,D⟩,_⟩:=H.atp (show 0<rIs.w from Nat.one_pos) (k:=k) hi;refine⟨_,s,h1,?_,D⟩;rw[qR];exact A 0 (by simp)
section
variable {Z:Nat→Prop}{C:C21}{K N:Nat}{P:bL}{V:DV}{h:af}
theorem LN (H:DAt Z C K N P V h)(zl:∀c,Z c→c<h.size){who:Nat}(hw:who≤K){buf lo cnt:Int}{wr:Bool}(hl:P.acc.length≤1000000)(h1:0≤lo)(h2:0≤cnt)(h3:lo+cnt≤1000000000000):
  ae prog qZ #[.agg (dpC C P V).toArray,.int .i64 (who:Int),.int .i64 buf,.int .i64 lo,.int .i64 cnt,.bool wr] h (DTo Z C K N h (qG P who buf lo cnt wr)):=by
 apply Kk;unfold AF;rw[bG];refine aC λL g1 r1 e1 n1=>aC λb3 g3 r3 e3 n3=>?_
 have k1:=aW r1;have k3:=aW r3;have s1:=e1.1;have s3:=e3.1;have r1:=e3.row r1;have H3:=H.ext (e1.trans e3);have ad:aB g3 ⟨L,11,none⟩=some V.cv:=ai r1;simp only[go_sem,Nat.zero_add,ad];have aa:who<((List.range (K+1)).map P.rows).length:=by simp;omega
 obtain⟨p,s,i1,i2,i3⟩:=XH (k:=.i64) H3.c aa;have e0:((List.range (K+1)).map P.rows)[who]=P.rows who:=by simp
 rw[e0]at i3;simp only[go_sem,i1,i2];rw[w64 (n:=lo+cnt) (by omega) (by omega),OU i3.one,bi,ah];have oa:∀v∈[Value.int .i64 (who:Int),s,.int .i64 buf,.int .i64 lo,.int .i64 (lo+cnt),.bool wr],aJ v=true:=ak rfl (ak i3.one (ak rfl (ak rfl (ak rfl (ak rfl aQ)))));refine cD (cs:=[Value.int .i64 (who:Int),s,.int .i64 buf,.int .i64 lo,.int .i64 (lo+cnt),.bool wr]) rfl oa rfl λb5 F r5 U n5=>?_
 have s5:=U.1;have k5:=aW r5;have E5:Ext h F:=e1.trans (e3.trans U);have H5:=H3.ext U;have W:=U.row r1;have ab:=U.row r3;refine aV (λxs g=>xs=[]∧∃Z' A,DAt Z' C K N (qG P who buf lo cnt wr) {V with av:=A} g∧g[L]? =some (.cells (dpC C (qG P who buf lo cnt wr) {V with av:=A}).toArray 48 (0,0))∧g[b3]? =some (.cells aD 48 (0,0))∧(∀c,Z' c→(Z c∨h.size≤c)∧c<g.size∧c≠b3)∧Ext h g) ?_ ?_
 ·refine aI (Ext F) (Ext.refl _) ?_;have M0:Cp ur Z F none none F:=Cp.start F λc hc=>Nat.lt_of_lt_of_le (zl c hc) E5.1
  have q1:∀D,Ext F D→aB D ⟨L,13,none⟩=some V.av:=λD e=>ai (e.row W)
  have q2:∀D,Ext F D→aH 6 D (ptr b5)=some (.agg [Value.int .i64 (who:Int),s,.int .i64 buf,.int .i64 lo,.int .i64 (lo+cnt),.bool wr].toArray):=λD e=>aM (e.row r5) 6 rfl
  refine ao V.av q1 ?_;refine ao _ q2 ?_;have hx:ur.R Z F [Value.int .i64 (who:Int),s,.int .i64 buf,.int .i64 lo,.int .i64 (lo+cnt),.bool wr] ⟨who,P.rows who,buf,lo,lo+cnt,wr⟩:=⟨s,rfl,i3.ext U⟩
  have fin:∀A D,Rp.Ow ur Z D A (([]:List Acc)++P.acc++[⟨who,P.rows who,buf,lo,lo+cnt,wr⟩])→Ext F D→(∀b,blk A b→F.size≤b)→stK 1 (.pointer (some ⟨L,13,none⟩)) A D λ_ G=>([]:List Value)=[]∧∃Z' A,DAt Z' C K N (qG P who buf lo cnt wr) {V with av:=A} G∧G[L]? =some (.cells (dpC C (qG P who buf lo cnt wr) {V with av:=A}).toArray 48 (0,0))∧G[b3]? =some (.cells aD 48 (0,0))∧(∀c,Z' c→(Z c∨h.size≤c)∧c<G.size∧c≠b3)∧Ext h G:=by
   intro A D o e n;have al:=e.row W;refine bK al (by show 13<(dpC C P V).toArray.size;simp[dpC]) o.one λg7 r7 u7=>⟨rfl,λc=>(Z c∧c<h.size)∨blk A c,A,?_,r7,u7.row (by omega) (e.row ab),λc hc=>?_,(E5.trans e).upd n1 u7⟩
   ·have hz:∀c,Z c→¬c=L:=λc hc h=>by have:=zl c hc;omega
    have H7:=((H5.ext e).mono (Z':=λc=>(Z c∧c<h.size)∨blk A c) λc _ hc=>.inl ⟨hc,zl c hc⟩)
    have o7:Rp.Sl ur (λc=>(Z c∧c<h.size)∨blk A c) D A (P.acc++[⟨who,P.rows who,buf,lo,lo+cnt,wr⟩]):=o.sl.mono λc _ hc=>hc.imp (λhc=>⟨hc,zl c hc⟩) id
    have q:∀c,c<D.size→((Z c∧c<h.size)∨blk A c)→¬c=L:=λc _ hc h=>by
     rcases hc with hc|hc
     ·exact hz c hc.1 h
     ·have:=n c hc;omega
    have I:=H7.fr u7.fr q;exact⟨I.x,I.y,I.t,I.m,I.q,I.c,I.w,o7.fr u7.fr q,I.s,I.e,I.f⟩
   ·have s7:=u7.1;have se:=e.1;rcases hc with hc|hc
    ·exact⟨.inl hc.1,by omega,by omega⟩
    ·have:=n c hc;have:=o.lt hc;exact⟨.inr (by omega),by omega,by omega⟩
  repeat' first
   |exact fin _ _ ‹_› ‹_› ‹_›
   |exact Cp.ext ‹Cp _ _ _ _ _ _›
   |exact ‹Ext F _›
   |refine And.intro ?_ ?_
   |refine Cp.row0 ‹Cp _ _ _ none _ _› λv D M=>?_
   |refine Cp.row1 (e:=ur) ‹Cp ur _ _ _ none _› hx rfl λv D M=>?_
   |refine Cp.app (e:=ur) (l:=[]) ‹Cp ur _ _ (some (_,[])) _ _› H5.a rfl (by simp;omega) (by simp;omega) λv D M=>?_
   |refine Cp.app1 (e:=ur) (l:=[]++P.acc) ‹Cp ur _ _ (some (_,[]++P.acc)) (some _) _› rfl (by simp;omega) (by simp;omega) λv D o e n=>?_
 ·rintro xs ρ g6 ⟨rfl,Z',A,H6,r6,an,z6,E6⟩;refine VK r6 an rfl rfl H6.ones λg8 u8=>⟨Z',_,rfl,H6.fr u8.fr λc _ hc=>(z6 c hc).2.2,λc hc=>⟨(z6 c hc).1,by rw[u8.1];exact(z6 c hc).2.1⟩,E6.upd (by omega) u8⟩
end
end
section
section
variable {C:C21}{K:Nat}{P:bL}
theorem Np.more {s A:Int}{w:WD}{k:Int}(H:Np C s w k)(h:s≤A):Np C A w k:=⟨λx D=>by have:=H.tl x D;omega,H.st,H.jb⟩
theorem VG (H:jZ C K P)(h:P.sent<bO C.d):jZ C K (Xo K {P with picks:=P.picks+1}):=by
 have h1:=H.sent;have I:=H.st;have G:=H.pk;refine⟨⟨by show 0≤P.sent+1;omega,by show P.sent+1≤_;omega⟩,by show((P.stamps++[P.rows 0]).length:Int)=P.sent+1;rw[List.length_append];simp only[List.length_cons,List.length_nil];omega,λx A=>?_,λi hi=>(H.w i hi).more (by show P.sent≤P.sent+1;omega),λi hi=>by have:=H.tn i hi;show _≤P.picks+1;exact Int.le_trans this (by omega),λi hi=>GK (λj F=>H.rows j (by omega)) 0 i (by omega),λs D=>?_,H.fn,H.ls,by have:=H.ln;show _≤P.picks+1;exact Int.le_trans this (by omega),by have:=H.ac;show(P.acc.length:Int)≤2+2*(P.picks+1);omega,by show 0≤P.picks+1;omega,λhc=>?_⟩
 ·have A:x∈(mW P.q P.sent).l:=A;show 0≤x∧x<P.sent+1;unfold mW at A;split at A
  ·have:=H.q x A;omega
  ·split at A
   ·have:=H.q x A;omega
   ·rcases List.mem_append.1 A with A|A
    ·have:=H.q x A;omega
    ·have:=List.mem_singleton.1 A;omega
 ·rcases List.mem_append.1 D with D|D
  ·exact H.ss s D
  ·rw[List.mem_singleton.1 D];exact H.rows 0 (by omega)
 ·have hc:(mW P.q P.sent).closed=true:=hc;have hc:P.q.closed=true:=by
   unfold mW at hc;split at hc
   ·exact hc
   ·split at hc<;>exact hc
  have:=H.cl hc;omega
theorem UK (H:jZ C K P)(h:¬P.sent<bO C.d):jZ C K (UL K {P with picks:=P.picks+1}):=by
 have h1:=H.sent;have D:=H.pk;exact⟨H.sent,H.st,H.q,H.w,λi hi=>by have:=H.tn i hi;show _≤P.picks+1;exact Int.le_trans this (by omega),λi hi=>GK (λj A=>H.rows j (by omega)) 0 i (by omega),H.ss,by show(P.rows 0).length≤_;rw[H.rows 0 (by omega)];exact Nat.le_refl _,H.ls,by have:=H.ln;show _≤P.picks+1;exact Int.le_trans this (by omega),by have:=H.ac;show(P.acc.length:Int)≤2+2*(P.picks+1);omega,by show 0≤P.picks+1;omega,λ_=>by show P.sent=_;omega⟩
theorem Xj {rows:Nat→List Int}(h:∀i,i≤K→(rows i).length=K+1):∀(l:List (List Int)) i,i≤K→(ww K rows l i).length=K+1:=by
 intro l;induction l generalizing rows with
 |nil=>exact h
 |cons s l A=>exact A (rows:=lV (K+1) rows 0 s) λi hi=>IF (λj D=>h j (by omega)) 0 s i (by omega)
theorem Wt (H:jZ C K P):jZ C K (Xt C K {P with picks:=P.picks+1}):=by
 have A:=H.pk;exact⟨H.sent,H.st,H.q,H.w,λi hi=>by have:=H.tn i hi;show _≤P.picks+1;exact Int.le_trans this (by omega),Xj H.rows P.left,H.ss,H.fn,H.ls,by have:=H.ln;show _≤P.picks+1;exact Int.le_trans this (by omega),by have:=H.ac;show((P.acc++[_]).length:Int)≤2+2*(P.picks+1);rw[List.length_append];simp only[List.length_cons,List.length_nil];omega,by show 0≤P.picks+1;omega,H.cl⟩
theorem VE {E:Option WE}{jo:Option (co×Int×Int)}{w:WD}{q:QD}:(∀x∈(cn E jo w q).2.1.l,x∈q.l)∧(cn E jo w q).2.1.closed=q.closed:=by
 have A:(∀x∈(mX q).l,x∈q.l)∧(mX q).closed=q.closed:=⟨λx D=>List.mem_of_mem_tail D,rfl⟩
 unfold cn;split
 ·split
  ·exact⟨λ_ h=>h,rfl⟩
  ·exact⟨λ_ h=>h,rfl⟩
 ·split
  ·exact⟨λ_ h=>h,rfl⟩
  ·split
   ·exact A
   ·split<;>exact A
theorem VC (H:jZ C K P){k:Nat}(A:k<K):jZ C K (gT C {P with picks:=P.picks+1} k):=by
 have G:=H.pk;have hq:=VE (E:=some C.E) (jo:=C.jo (bH P.q)) (w:=P.ws k) (q:=P.q);have D:=(H.w k A).step H.q;have I:=NF (E:=some C.E) (jo:=C.jo (bH P.q)) (w:=P.ws k) (d:=P.q);refine⟨H.sent,H.st,λx F=>H.q x (hq.1 x F),λi hi=>?_,λi hi=>?_,H.rows,H.ss,H.fn,H.ls,by have:=H.ln;show _≤P.picks+1;exact Int.le_trans this (by omega),by have:=H.ac;show(P.acc.length:Int)≤2+2*(P.picks+1);omega,by show 0≤P.picks+1;omega,λhc=>H.cl (by rw[←hq.2];exact hc)⟩
 ·by_cases e:i=k
  ·subst e;show Np C P.sent (if i=i then(cn (some C.E) (C.jo (bH P.q)) (P.ws i) P.q).1 else P.ws i) (if i=i∧(P.ws i).state=0∧dh P.q=0 then pW C (bH P.q)else P.words i);simp only[if_true,true_and];exact D
  ·show Np C P.sent (if i=k then _ else P.ws i) (if i=k∧_ then _ else P.words i);rw[if_neg e,if_neg λh=>e h.1];exact H.w i hi
 ·by_cases e:i=k
  ·subst e;show(((if i=i then(cn (some C.E) (C.jo (bH P.q)) (P.ws i) P.q).1 else P.ws i).tiles.length:Nat):Int)≤P.picks+1;rw[if_pos rfl];have:=H.tn i A;omega
  ·show(((if i=k then(cn (some C.E) (C.jo (bH P.q)) (P.ws k) P.q).1 else P.ws i).tiles.length:Nat):Int)≤P.picks+1;rw[if_neg e];have:=H.tn i hi;omega
theorem Vw (H:jZ C K P){k:Nat}(I:k<K):jZ C K (qk C K {P with picks:=P.picks+1} k):=by
 have S:=VC H I;have L:=H.ac;have U:=H.ln;unfold qk;split
 ·exact⟨S.sent,S.st,S.q,S.w,S.tn,λi hi=>IF (λj F=>H.rows j (by omega)) _ _ i (by omega),S.ss,S.fn,S.ls,S.ln,S.ac,S.pk,S.cl⟩
 ·split
  ·have D:((wn C (gT C {P with picks:=P.picks+1} k) k (evP C {P with picks:=P.picks+1} k)).acc.length:Int)≤2+2*(P.picks+1):=by
    unfold wn;split
    ·show(((P.acc++[_])++[_]).length:Int)≤_;simp only[List.length_append,List.length_cons,List.length_nil];omega
    ·show(((P.acc++[_])++[_]).length:Int)≤_;simp only[List.length_append,List.length_cons,List.length_nil];omega
   unfold wn at D ⊢;split at D
   ·rename_i hc;rw[if_pos hc];exact⟨S.sent,S.st,S.q,S.w,S.tn,S.rows,S.ss,S.fn,S.ls,S.ln,D,S.pk,S.cl⟩
   ·rename_i hc;rw[if_neg hc];exact⟨S.sent,S.st,S.q,S.w,S.tn,S.rows,S.ss,S.fn,S.ls,S.ln,D,S.pk,S.cl⟩
  ·split
   ·have G:∀i,i≤K→(lV (K+1) P.rows (k+1:Nat) P.fin i).length=K+1:=λi hi=>IF (λj F=>H.rows j (by omega)) _ _ i (by omega)
    refine⟨S.sent,S.st,S.q,S.w,S.tn,λi hi=>GK (λj F=>G j (by omega)) _ i (by omega),S.ss,S.fn,λs A=>?_,?_,S.ac,S.pk,S.cl⟩
    ·rcases List.mem_append.1 A with A|A
     ·exact H.ls s A
     ·rw[List.mem_singleton.1 A];exact G (k+1) (by omega)
    ·show((P.left++[_]).length:Int)≤P.picks+1;rw[List.length_append];simp only[List.length_cons,List.length_nil];omega
   ·exact S
theorem Rt (H:jZ C K P)(i:Int):jZ C K (mY C K P i):=by
 unfold mY;split
 ·exact H
 ·rename_i A;split
  ·unfold DL;split
   ·rename_i h;exact VG H h
   ·rename_i h;split
    ·exact UK H h
    ·exact Wt H
  ·rename_i h0;have hi:0<i∧i≤K:=by
    unfold gX at A;split at A
    ·exact absurd rfl A
    ·omega
   exact Vw H (by omega)
end
section
variable {C:C21}{Z:Nat→Prop}{K:Nat}{h0 h:af}{bw:Nat→Nat}{bp:Nat}{o:Nat→Nat}{n:Pic}{P:bL}
theorem IsW.job_at {Z B:Nat→Prop}{h:af}{bw:Nat}{E:WE}{n:Pic}{w:WD}(H:IsW Z B h bw (some E) n w):∀t y e,w.job=some (t,y,e)→t.y≤y∧y<t.y+t.h∧lnF E.s.y y≤e∧e≤lnE E.s.y y:=by
 obtain⟨⟨tv,L,U,r,o,J,_⟩,_,_,_,_,_,st⟩:=H;intro t y e G;rw[G]at J st;obtain⟨I,F,ok,hc,bj,rv,_,S⟩:=J;cases F;obtain⟨⟨M,rs,J,_,k⟩,_⟩:=S;rcases st with⟨_,A,_⟩|⟨_,h⟩
 ·have A:bP (E.d t) y e≠0:=A;unfold bP at A;split at A
  ·exact absurd rfl A
  ·rename_i D;have D:¬t.y+t.h≤y:=D;have:=k (by show y<t.y+t.h;omega);exact⟨J.y0,by omega,this.2⟩
 ·cases h
theorem Hl {q:QD}(h:dh q=0):bH q∈q.l:=by
 unfold dh at h;unfold bH;cases A:q.l with
 |nil=>rw[A,if_pos rfl]at h;split at h<;>omega
 |cons a l=>simp
theorem VA {E:WE}{jo:Option (co×Int×Int)}{w:WD}{q:QD}(h:(w.state=1∧qS (some E) w.job∧w.tiles≠[])∨((w.state=0∨w.state=2)∧w.job=none))(D:(cn (some E) jo w q).2.2.1=1):(cn (some E) jo w q).2.2.2.1=bH q∧w.state=0∧dh q=0:=by
 obtain⟨st,tl,j,H⟩:=w;unfold cn at D ⊢;rcases h with⟨A,G,_⟩|⟨A|A,G⟩
 ·have A:st=1:=A;subst A;cases j with
  |none=>exact(show False from G).elim
  |some x=>exact absurd (show(2:Int)=1 from D) (by omega)
 ·have A:st=0:=A;subst A;rw[if_neg (show¬(0:Int)=1 by omega),if_neg (show¬(0:Int)=2 by omega)]at D ⊢;by_cases F:dh q=0
  ·rw[if_pos F];exact⟨rfl,rfl,F⟩
  ·rw[if_neg F]at D;split at D
   ·exact absurd (show(3:Int)=1 from D) (by omega)
   ·exact absurd (show(0:Int)=1 from D) (by omega)
 ·have A:st=2:=A;subst A;rw[if_neg (show¬(2:Int)=1 by omega),if_pos rfl]at D;exact absurd (show(0:Int)=1 from D) (by omega)
theorem Ub {E:WE}{jo:Option (co×Int×Int)}{w:WD}{q:QD}(h:(w.state=1∧qS (some E) w.job∧w.tiles≠[])∨((w.state=0∨w.state=2)∧w.job=none))(D:(cn (some E) jo w q).2.2.1=2):
  ∃t y e,w.job=some (t,y,e)∧w.state=1∧(cn (some E) jo w q).2.2=(2,w.tiles.getLast?.getD 0,bP (E.d t) y e,fY (E.d t) y e)∧bP (E.d t) y e≠0:=by
 obtain⟨st,tl,j,H⟩:=w;unfold cn at D ⊢;rcases h with⟨A,F,_⟩|⟨A|A,F⟩
 ·have A:st=1:=A;subst A;cases j with
  |none=>exact(show False from F).elim
  |some x=>exact⟨x.1,x.2.1,x.2.2,rfl,rfl,rfl,F⟩
 ·have A:st=0:=A;subst A;rw[if_neg (show¬(0:Int)=1 by omega),if_neg (show¬(0:Int)=2 by omega)]at D;by_cases G:dh q=0
  ·rw[if_pos G]at D;exact absurd (show(1:Int)=2 from D) (by omega)
  ·rw[if_neg G]at D;split at D
   ·exact absurd (show(3:Int)=2 from D) (by omega)
   ·exact absurd (show(0:Int)=2 from D) (by omega)
 ·have A:st=2:=A;subst A;rw[if_neg (show¬(2:Int)=1 by omega),if_pos rfl]at D;exact absurd (show(0:Int)=2 from D) (by omega)
theorem Uf {t:Tbl}(W:t.Wf)(y:Int): -70368744177664≤(aZ t y).1∧(aZ t y).1≤70368744177664∧(aZ t y).2.length≤1048576:=by
 unfold aZ;split
 ·rw[List.getD_eq_getElem?_getD];by_cases h:y.toNat<t.lines.length
  ·rw[List.getElem?_eq_getElem h];have:=W.taps _ (List.getElem_mem h);exact⟨this.2.1,this.2.2,this.1⟩
  ·rw[List.getElem?_eq_none (by omega)];exact⟨by decide,by decide,by decide⟩
 ·exact⟨by decide,by decide,by decide⟩
def R6 (C:C21)(K:Nat)(P:bL)(i:Int)(n n':Pic):Prop:=if gX C K P i=true∧i≠0 then zR (some C.E) (P.ws (i-1).toNat) n n' else n'=n
theorem Yo (O:C.Ok)(G:dr h0)(H:dJ C Z K h0 bw bp o n P h)(W:jZ C K P){i:Int}(hi:I64 i)(ar:P.picks≤400000)(ad:bO C.d≤1000000)(hb:∀c,dd (some C.E) c→h0.size≤c):
  ae prog io #[ptr bp,.int .i64 i] h λr h'=>r=.bool (gX C K P i)∧∃n',PTo C Z K h0 bw bp o h n' (mY C K P i) h'∧R6 C K P i n n':=by
 apply DD;unfold tN;refine ae.at (UQ O H hi) ?_;unfold mY R6;have w1:=W.pk;have w2:=W.ac;have w3:=W.ln;have w4:=W.sent;have w5:=W.st;cases hr:gX C K P i with
 |false=>
  simp only[go_sem];exact⟨trivial,n,by simpa using PTo.refl H,by simp⟩
 | true=>
  obtain⟨V,HB,row⟩:=H.row;have hp:=HB.po;have hK:=HB.few;have al:aB h ⟨bp,13,none⟩=some (.int .i64 P.picks):=ai row;simp only[go_sem,Nat.zero_add,al];rw[w64 (n:=P.picks+1) (by omega) (by omega)];refine bK row (show 13<_ from by simp[gk]) rfl λg r u=>?_
  have ab:=HB.setrow u (st:=P.sent) (rt:=P.ret) (pk:=P.picks+1) r;have H1:dJ C Z K h0 bw bp o n {P with picks:=P.picks+1} g:=⟨V,ab⟩
  have F1:Fr (λc=>o c≠0∨dd (some C.E) c) h g:=u.fr.mono λc _ hc=>.inl (by have hc:c=bp:=hc;rw[hc];omega)
  have T:∀{n' P' h'},PTo C Z K h0 bw bp o g n' P' h'→PTo C Z K h0 bw bp o h n' P' h':=λ{n' P' h'} t=>PTo.trans (h1:=g) ⟨H1,λ_ _=>rfl,F1⟩ t
  rw[if_neg (by simp)];by_cases F:i=0
  ·subst F;simp only[go_sem];refine(Yg O H1 (by show P.acc.length≤_;omega) (by show P.stamps.length≤_;omega) w4.1 (λs hs=>by have:=W.ls s hs;omega) (by show P.left.length≤_;omega) ad).mono λr g2 t=>⟨trivial,n,T t,?_⟩
   simp
  ·simp only[go_sem,F];have an:0<i∧i≤K:=by
    unfold gX at hr;split at hr
    ·cases hr
    ·omega
   obtain⟨k,rfl⟩:∃k:Nat,i=(k:Int)+1:=⟨(i-1).toNat,by omega⟩
   have hk:k<K:=by omega
   have ek:((k:Int)+1-1).toNat=k:=by omega
   rw[ek];have L:=W.w k hk;have tk:=W.tn k hk;have IW:=HB.ws k hk id;refine(Yb O G H1 hk (by show(P.ws k).tiles.length≤_;omega) hb (by show P.acc.length≤_;omega) (by show P.left.length≤_;omega) (λA=>?_) (λD=>?_) (λs hs=>by have:=W.ss s hs;omega) (by have:=W.fn;show P.fin.length≤_;omega) λD=>?_).mono λr g2 ⟨n',t,Dr⟩=>⟨trivial,n',by rw[if_neg (λh:False=>h)];exact T t,?_⟩
   ·have A:(P.ws k).state=0∧dh P.q=0:=A;have hm:=Hl A.2;have:=W.q _ hm;show 0≤bH P.q∧bH P.q<bO C.d;omega
   ·have D:(cn (some C.E) (C.jo (bH P.q)) (P.ws k) P.q).2.2.1=1:=D;obtain⟨e1,e2⟩:=VA L.st D;have hm:=Hl e2.2;have:=W.q _ hm;have ee:(evP C {P with picks:=P.picks+1} k).2.1=bH P.q:=e1;rw[ee];show 0≤bH P.q∧bH P.q<(P.stamps.length:Int);omega
   ·have D:(cn (some C.E) (C.jo (bH P.q)) (P.ws k) P.q).2.2.1=2:=D;obtain⟨t,y,e,hj,s1,ev,U⟩:=Ub L.st D;have aa:(P.ws k).tiles≠[]:=by
     rcases L.st with h|h
     ·exact h.2.2
     ·rw[h.2]at hj;cases hj
    have hl:=L.tl _ (OG aa);obtain⟨j1,j2⟩:=L.jb t y e hj;obtain⟨a1,a2,a3,a4⟩:=IW.job_at t y e hj;have I:0≤(P.ws k).tiles.getLast?.getD 0∧(P.ws k).tiles.getLast?.getD 0<bO C.d:=by omega
    have wt:=iu O.d I.1 I.2;rw[←j1]at wt;unfold dG at wt;have ew:(gT C {P with picks:=P.picks+1} k).words k=pW C ((P.ws k).tiles.getLast?.getD 0):=by
     show(if k=k∧(P.ws k).state=0∧dh P.q=0 then _ else P.words k)=_;rw[if_neg (by omega)];exact j2
    have wi:=TA O I.1 I.2;rw[ew];have ee:evP C {P with picks:=P.picks+1} k=(2,(P.ws k).tiles.getLast?.getD 0,bP (C.E.d t) y e,fY (C.E.d t) y e):=ev;rw[ee];have bl:=Uf O.s.wf.y y;have sj:fY (C.E.d t) y e=if bP (C.E.d t) y e=1 then e else y:=by
     have U:=U;unfold bP at U;unfold fY bP;by_cases q1:(C.E.d t).t.y+(C.E.d t).t.h≤y
     ·rw[if_pos q1]at U;exact absurd rfl U
     ·rw[if_neg q1,if_neg q1];by_cases q2:e<lnE (C.E.d t).s.y y
      ·rw[if_pos q2,if_pos q2,if_pos rfl]
      ·rw[if_neg q2,if_neg q2,if_neg (by omega)]
    have hY:C.d.Y=((C.d.s.y.lines.length:Nat):Int):=rfl;have bY:=cG.bd O.d;refine⟨I,?_,λh1=>?_,wi⟩
    ·show I64 (fY (C.E.d t) y e);rw[sj];unfold I64;unfold lnF at a3;unfold lnE at a4;have bl: -70368744177664≤(aZ C.E.s.y y).1∧(aZ C.E.s.y y).1≤70368744177664∧(aZ C.E.s.y y).2.length≤1048576:=bl;split<;>omega
    ·have h1:bP (C.E.d t) y e≠1:=h1;show 0≤fY (C.E.d t) y e∧fY (C.E.d t) y e<C.d.Y;rw[sj,if_neg h1];omega
   ·rw[if_pos ⟨trivial,F⟩];exact Dr
end
end
section
theorem VX {K:Nat}(h:1≤K∧K≤256):KQ ((K:Int)+1)=K+1:=by unfold KQ;omega
theorem TO {α:Type}(n:Nat)(x:α):List.replicate n x=(List.range n).map λ_=>x:=by rw[List.map_const',List.length_range]
structure jy (h0:af)(K:Nat)(room:Int)(q:Option Nat)(c:Option (Value×(Nat→Prop)))(d:Option Value)(g:af):Prop where
 ext:Ext h0 g
 hq:∀b,q=some b→IsQ (λc=>c=b) g b ⟨min (max 1 room) 4096,[],false⟩∧h0.size≤b
 hc:∀p,c=some p→dX p.2 g p.1 (K+1) (qO (K+1))∧∀b,p.2 b→h0.size≤b∧b<g.size
 hd:∀v,d=some v→Own 1 g v K ((List.range K).map λ_=>.int .i64 0)∧∀b,blk v b→h0.size≤b
 qc:∀b p,q=some b→c=some p→¬p.2 b
 qd:∀b v,q=some b→d=some v→¬blk v b
 cd:∀p v b,c=some p→d=some v→p.2 b→¬blk v b
section
variable {h0 g:af}{K:Nat}{room:Int}{q:Option Nat}{c:Option (Value×(Nat→Prop))}{d:Option Value}{X:Value→af→Prop}
theorem jy.start (h:af)(K:Nat)(room:Int):jy h K room none none none h:=⟨Ext.refl _,by simp,by simp,by simp,by simp,by simp,by simp⟩
theorem jy.ex {A:af}(M:jy h0 K room q c d g)(e:Ext g A):jy h0 K room q c d A:=
 ⟨M.ext.trans e,λb h=>⟨(M.hq b h).1.ext e,(M.hq b h).2⟩,λp h=>⟨(M.hc p h).1.ext e,λb D=>⟨((M.hc p h).2 b D).1,Nat.lt_of_lt_of_le ((M.hc p h).2 b D).2 e.1⟩⟩,λv h=>⟨(M.hd v h).1.fr (M:=λ_=>False) e.fr λ_ _=>id,(M.hd v h).2⟩,M.qc,M.qd,M.cd⟩
theorem jy.queue (M:jy h0 K room none c d g)(H:∀b A,jy h0 K room (some b) c d A→X (ptr b) A):ae prog lz #[.int .i64 room] g X:=by
 refine UZ.mono λr A ⟨b,L,Q,e,n⟩=>?_
 subst L;have M':=M.ex e;have s:=M.ext.1;refine H b A ⟨M'.ext,λF h=>by cases h;exact⟨Q,by omega⟩,M'.hc,M'.hd,λF p h G D=>?_,λF v h I D=>?_,M.cd⟩
 ·cases h;have:=((M.hc p G).2 b D).2;omega
 ·cases h;have:=(M.hd v I).1.lt D;omega
theorem jy.clock (hK:1≤K∧K≤256)(M:jy h0 K room q none d g)(H:∀p D,jy h0 K room q (some p) d D→X p.1 D):ae prog lC #[.int .i64 ((K:Int)+1)] g X:=by
 refine(c_New ((K:Int)+1)).mono λr D ⟨W,I,e,n⟩=>?_
 rw[VX hK]at I;have M':=M.ex e;have s:=M.ext.1;refine H (r,W) D ⟨M'.ext,M'.hq,λp h=>by cases h;exact⟨I,λb A=>⟨by have:=n b A;omega,by obtain⟨_,_,_,_,_,L⟩:=I;exact L.lt b A⟩⟩,M'.hd,λb p h F A=>?_,M.qd,λp v b F U A G=>?_⟩
 ·cases F;have:=n b A;have:=(M.hq b h).1.ql b rfl;omega
 ·cases F;have:=n b A;have:=(M.hd v U).1.lt G;omega
theorem jy.words (U:1≤K∧K≤256)(M:jy h0 K room q c none g){t:TypeId}(H:∀v D,jy h0 K room q c (some v) D→X v D):mkK (.int .i64 0) t 1 8 (.int .i64 (K:Int)) (.int .i64 (K:Int)) g X:=by
 refine lU rfl (by omega) (by omega) λv D o e n=>?_
 rw[TO]at o;have M':=M.ex e;have s:=M.ext.1;refine H v D ⟨M'.ext,M'.hq,M'.hc,λI h=>by cases h;exact⟨o,λb A=>by have:=n b A;omega⟩,M.qc,λb I h F A=>?_,λp I b L F A G=>?_⟩
 ·cases F;have:=n b A;have:=(M.hq b h).1.ql b rfl;omega
 ·cases F;have:=n b G;have:=((M.hc p L).2 b A).2;omega
end
theorem SO {vc dv:Value}{a b c d:Nat}(hc:aJ vc=true)(hd:aJ dv=true):(aF #[(.pointer none),(.pointer none),(.pointer none),(.pointer none),(.pointer none),(.slice none 0 0),(.slice none 0 0),(.slice none 0 0),(.int .i64 0),(.slice none 0 0),(.slice none 0 0),(.slice none 0 0),(.bool false),(.int .i64 0)] [(0,1,ptr a),(1,1,ptr b),(2,1,ptr c),(3,1,ptr d),(4,1,vc),(7,1,dv)]).map Value.agg=
  some (.agg #[ptr a,ptr b,ptr c,ptr d,vc,.slice none 0 0,.slice none 0 0,dv,.int .i64 0,.slice none 0 0,.slice none 0 0,.slice none 0 0,.bool false,.int .i64 0]):=by
 have:aF #[(.pointer none),(.pointer none),(.pointer none),(.pointer none),(.pointer none),(.slice none 0 0),(.slice none 0 0),(.slice none 0 0),(.int .i64 0),(.slice none 0 0),(.slice none 0 0),(.slice none 0 0),(.bool false),(.int .i64 0)] [(0,1,ptr a),(1,1,ptr b),(2,1,ptr c),(3,1,ptr d),(4,1,vc),(7,1,dv)]=some #[ptr a,ptr b,ptr c,ptr d,vc,.slice none 0 0,.slice none 0 0,dv,.int .i64 0,.slice none 0 0,.slice none 0 0,.slice none 0 0,.bool false,.int .i64 0]:=by
  refine(bI (n:=1) (l:=[ptr a]) rfl rfl (by simp)).trans ?_;refine(bI (n:=1) (l:=[ptr b]) rfl rfl (by simp[bX])).trans ?_;refine(bI (n:=1) (l:=[ptr c]) rfl rfl (by simp[bX])).trans ?_;refine(bI (n:=1) (l:=[ptr d]) rfl rfl (by simp[bX])).trans ?_;refine(bI (n:=1) (l:=[vc]) (bT hc) rfl (by simp[bX])).trans ?_;refine(bI (n:=1) (l:=[dv]) (bT hd) rfl (by simp[bX])).trans ?_;rw[fo];simp[wrL]
 rw[this];rfl
structure Yy (hL:af)(bp:Nat)(row:Value→Array Value)(T:TypeId)(i:Nat)(wv:Value)(bw:Nat→Nat)(g:af):Prop where
 fr:Fr (λc=>c=bp) hL g
 own:Own 1 g wv i ((List.range i).map λj=>ptr (bw j))
 ws:∀j,j<i→g[bw j]? =some (.cells #[.int .i64 0,.slice none 0 0,.pointer none,.int .i64 0] 182 (0,0))∧hL.size≤bw j
 ne:∀j k,j<k→k<i→bw j≠bw k
 nw:∀b,blk wv b→hL.size≤b∧∀j,j<i→b≠bw j
 p:g[bp]? =some (.cells (row wv) T (0,0))
theorem Vu {hL:af}{bp:Nat}{row:Value→Array Value}{T:TypeId}{K:Nat}(hK:1≤K∧K≤256)(r0:hL[bp]? =some (.cells (row (.slice none 0 0)) T (0,0)))(h6:∀v,(row v)[6]? =some v)(U:∀v v',(row v).setIfInBounds 6 v'=row v'){tA tB:TypeId}{X:af→Prop}
  (HX:∀wv bw g,Yy hL bp row T K wv bw g→X g):
  aU [(.int .i64 0)] hL λG bv D A=>vK (ag .i .lss (ix G 0) (.int .i64 (K:Int))) λar=>aA ar (
  bC D λS=>vK (aK (ptr bp)) λad=>vK (am 6 ad) λa8=>qK S (λD=>ldV D a8) λab=>
  ae prog mc #[] D λa7 W=>S W∧(cE #[(.pointer none)] tA 1 [(0,1,a7)] W λbd I=>S I∧(cF (.pointer none) tB 1 8 ab bd I λax aa=>
  vK (aK (ptr bp)) λbg=>vK (am 6 bg) λay=>stK 1 ay ax aa λbo bk=>vK (ag .i .add (ix G 0) (.int .i64 1)) λal=>A [al] bk))) (X D):=by
 have b0:=aW r0;refine bA (α:=Value×(Nat→Nat)) K 0 (λi _=>[.int .i64 (i:Int)]) (λi s g=>Yy hL bp row T i s.1 s.2 g) (.slice none 0 0,λ_=>0) rfl (Nat.zero_le _) ⟨Fr.refl _ _,.inl ⟨rfl,rfl,rfl⟩,by simp,by omega,λb F=>F.elim,r0⟩ λi s g again ρ _ hi M aw=>?_
 obtain⟨wv,bw⟩:=s;have M:Yy hL bp row T i wv bw g:=M;simp only[gb];rw[bU,ah];refine aj (λg1=>?_) (λg1=>?_)
 ·have an:i<K:=by omega
  have bc:(i:Int)+1=((i+1:Nat):Int):=by omega
  have sg:=M.fr.1;refine aI (Ext g) (Ext.refl _) ?_;simp only[go_sem,Nat.zero_add];refine ao wv (λk e=>by rw[ai (e.row M.p)];exact h6 wv) ?_;refine FL.mono λr g2 ⟨b,er,r2,e2,n2⟩=>⟨e2,?_⟩
  subst er;have l2:=aW r2;refine cz (Rp.fill_one rfl) λb3 g3 r3 e3 n3=>⟨e2.trans e3,?_⟩
  have E3:=e2.trans e3;have o3:Own 1 g3 wv i ((List.range i).map λj=>ptr (bw j)):=M.own.fr (M:=λ_=>False) E3.fr λ_ _=>id
  have S1:=Rp.SlC.single (cs:=[ptr b]) r3;have H:∀c,blk wv c→c<g.size:=λc hc=>M.own.lt hc
  refine sI o3 S1 (ak rfl aQ) rfl (by omega) (by omega) λs' g4 o4 f4 n4=>?_
  have au:¬blk wv bp:=λF=>by have:=(M.nw bp F).1;omega
  have r4:=f4.row (E3.row M.p) au;have os:aJ s'=true:=by obtain⟨a,c,e⟩:=Own.isSl o4;rw[e];rfl
  have a9:6<(row wv).size:=(Array.getElem?_eq_some_iff.1 (h6 wv)).1;refine bK r4 a9 os λg5 r5 u5=>?_
  rw[U]at r5;have s2:=e2.1;have s3:=e3.1;have s4:=f4.1;rw[w64 (n:=(i:Int)+1) (by omega) (by omega),bc];have b5:b≠bp:=by omega
  have L:∀c,blk s' c→c≠bp∧hL.size≤c:=λc hc=>by
   rcases n4 c hc with h|h
   ·have:=(M.nw c h).1;exact⟨by omega,by omega⟩
   ·exact⟨by omega,by omega⟩
  refine aw (s',λj=>if j=i then b else bw j) g5 an ⟨?_,?_,λj hj=>?_,λj k be hk=>?_,λc hc=>⟨(L c hc).2,λj hj=>?_⟩,r5⟩
  ·exact(((M.fr.trans E3.fr).after f4 λc hc F=>by have:=(M.nw c F).1;omega)).trans u5.fr
  ·have e:(List.range (i+1)).map (λj=>ptr (if j=i then b else bw j))=(List.range i).map (λj=>ptr (bw j))++[ptr b]:=by
    rw[List.range_succ,List.map_append]
    congr 1
    ·refine List.map_congr_left λj hj=>?_
     rw[if_neg (by have:=List.mem_range.1 hj;omega)]
    ·simp
   rw[e];exact o4.fr u5.fr λc hc=>(L c hc).1
  ·by_cases e:j=i
   ·subst e;simp only[if_true];exact⟨u5.row b5 (f4.row (e3.row r2) λF=>by have:=H b F;omega),by omega⟩
   ·simp only[if_neg e];obtain⟨w1,w2⟩:=M.ws j (by omega);exact⟨u5.row (by omega) (f4.row (E3.row w1) λF=>(M.nw _ F).2 j (by omega) rfl),w2⟩
  ·show(if j=i then b else bw j)≠(if k=i then b else bw k);have lj:∀m,m<i→bw m<g.size:=λm hm=>aW (M.ws m hm).1
   by_cases e:k=i
   ·rw[if_neg (by omega),if_pos e];have:=lj j (by omega);omega
   ·rw[if_neg (by omega),if_neg e];exact M.ne j k be (by omega)
  ·show c≠(if j=i then b else bw j);by_cases e:j=i
   ·rw[if_pos e];rcases n4 c hc with h|h
    ·have:=H c h;omega
    ·omega
   ·rw[if_neg e];rcases n4 c hc with h|h
    ·exact(M.nw c h).2 j (by omega)
    ·have:=aW (M.ws j (by omega)).1;omega
 ·have:i=K:=by omega
  subst this;exact HX wv bw g M
end
def Bh (K:Nat)(room:Int):bL:=⟨⟨min (max 1 room) 4096,[],false⟩,qO (K+1),[],λ_=>⟨0,[],none,0⟩,λ_=>0,0,[],[],[],false,0⟩
def Do (K:Nat)(room a b:Int):bL:=qG (qG (Bh K room) 0 0 0 a true) 0 1 0 b true
theorem TY {C:C21}{K:Nat}{room:Int}(h:0≤bO C.d):jZ C K (Bh K room):=
 ⟨⟨Int.le_refl _,h⟩,rfl,(λx D=>by cases D),(λi _=>⟨(λx D=>by cases D),.inr ⟨.inl rfl,rfl⟩,(λt y e h=>by cases h)⟩),(λi _=>Int.le_refl _),(λi _=>by simp[Bh,qO]),(λs A=>by cases A),Nat.zero_le _,(λs A=>by cases A),Int.le_refl _,(by show(0:Int)≤2+2*0;omega),Int.le_refl _,(λh=>by cases h)⟩
theorem TX {C:C21}{K:Nat}{room a b:Int}(h:0≤bO C.d):jZ C K (Do K room a b):=by
 have H:=TY (C:=C) (K:=K) (room:=room) h;exact⟨H.sent,H.st,H.q,H.w,H.tn,H.rows,H.ss,H.fn,H.ls,H.ln,(by show(2:Int)≤2+2*0;omega),H.pk,H.cl⟩
theorem label {P:Nat→Nat→Prop}(h0:∀c,¬P 0 c)(u:∀k k' c,P k c→P k' c→k=k'):∃o:Nat→Nat,∀k,k≠0→∀c,o c=k↔P k c:=by
 classical
 refine⟨λc=>if h:∃k,P k c then Classical.choose h else 0,λk A c=>?_⟩;by_cases h:∃k,P k c
 ·simp only[dif_pos h];have hc:=Classical.choose_spec h;exact⟨λe=>e▸hc,λe=>u _ _ c hc e⟩
 ·simp only[dif_neg h];exact⟨λe=>absurd e.symm A,λe=>absurd ⟨k,e⟩ h⟩
def Vq (Z0:Nat→Prop)(h:af)(m:Pic)(s:Stg)(tw th room:Int)(bf:Nat)(K:Nat)(r:Value)(h':af):Prop:=
 ∃bp C Z bw o,r=.tuple #[ptr bp,.int .i64 0]∧C.m=m∧C.d=⟨s,tw,th⟩∧C.bf=bf∧C.Ok∧dJ C Z K h bw bp o (qT s.x.lines.length s.y.lines.length m.c m.most) (Do K room (m.w*m.h*m.c) ((s.x.lines.length:Int)*s.y.lines.length*m.c)) h'∧(∀c,dd (some C.E) c→h.size≤c)∧Ext h h'∧(∀c,o c≠0→h.size≤c)∧(∀c,Z c→Z0 c∨h.size≤c)∧h.size≤C.bt
def PA (h4:af)(K:Nat)(room:Int)(bf bt bl:Nat)(xs:List Value)(g:af):Prop:=
 ∃bp bq pc dv,xs=[ptr bp]∧jy h4 K room (some bq) (some pc) (some dv) g∧g[bp]? =some (.cells #[ptr bf,ptr bt,ptr bl,ptr bq,pc.1,.slice none 0 0,.slice none 0 0,dv,.int .i64 0,.slice none 0 0,.slice none 0 0,.slice none 0 0,.bool false,.int .i64 0] 106 (0,0))∧h4.size≤bp∧bp≠bq∧¬pc.2 bp∧¬blk dv bp
theorem Eo {G g:af}{K:Nat}{room:Int}{bf bt bl bq:Nat}{pc:Value×(Nat→Prop)}{dv:Value}(M:jy G K room (some bq) (some pc) (some dv) g):
  vK ((aF #[(.pointer none),(.pointer none),(.pointer none),(.pointer none),(.pointer none),(.slice none 0 0),(.slice none 0 0),(.slice none 0 0),(.int .i64 0),(.slice none 0 0),(.slice none 0 0),(.slice none 0 0),(.bool false),(.int .i64 0)] [(0,1,ptr bf),(1,1,ptr bt),(2,1,ptr bl),(3,1,ptr bq),(4,1,pc.1),(7,1,dv)]).map .agg) λF=>aP (Value.cells F) 106 g λD A=>Ext G A∧PA G K room bf bt bl [D] A:=by
 have I:aJ pc.1=true:=by obtain⟨_,_,_,_,e,_⟩:=(M.hc pc rfl).1;rw[e];rfl
 have L:aJ dv=true:=by obtain⟨a,c,e⟩:=Own.isSl (M.hd dv rfl).1;rw[e];rfl
 rw[SO I L,ah];refine aC λbp W U H n'=>⟨M.ext.trans H,bp,bq,pc,dv,rfl,M.ex H,U,by have:=M.ext.1;omega,by have:=(M.hq bq rfl).1.ql bq rfl;omega,λh=>by have:=((M.hc pc rfl).2 bp h).2;omega,λh=>by have:=(M.hd dv rfl).1.lt h;omega⟩
theorem LU {h:af}(G:dr h){Z0:Nat→Prop}{bf:Nat}{vf sv:Value}{m:Pic}{s:Stg}(I:cA h bf vf m)(W:m.Wf)(HS:nh Z0 h sv s)(WS:zy s)(a7:lG m s)(zf:Z0 bf∧∀c,blk vf c→Z0 c)(zl:∀c,Z0 c→c<h.size)(fit:y5 s.x.lines.length s.y.lines.length m.c m.most=0){tw th wk room:Int}:
  ae prog wR #[ptr bf,sv,.int .i64 tw,.int .i64 th,.int .i64 wk,.int .i64 room] h λr h'=>
   (¬(dQ tw∧dQ th)→r=.tuple #[.pointer none,.int .i64 9]∧Ext h h')∧(dQ tw∧dQ th→¬(1≤wk∧wk≤256)→r=.tuple #[.pointer none,.int .i64 10]∧Ext h h')∧
   (dQ tw∧dQ th→∀K:Nat,wk=K→1≤K∧K≤256→Vq Z0 h m s tw th room bf K r h'):=by
 apply On;unfold Fu;have bd:=HS;obtain⟨p,q,rfl,hp,hq,b6⟩:=gS HS;simp only[bG];refine aC λD h1 r1 e1 n1=>?_
 have nf:ag .p .eql (ptr bf) (.pointer none)=some (.bool false):=rfl;have l3:aH 3 h1 (ptr D)=some (.agg #[p,q,.int .i64 s.border]):=aM (l:=[p,q,.int .i64 s.border]) r1 3 rfl;simp only[go_sem,nf,l3];refine(GA (G.ext e1) (I.ext e1) (bd.ext e1)).mono λr h2 ⟨er,e2⟩=>?_
 rw[decide_eq_true a7]at er;subst er;simp only[go_sem];have E2:=e1.trans e2;have r2:=e2.row r1;refine aI (λk=>k=h2) rfl ?_;refine ao p (λk e=>by rw[e];exact ai r2) ?_;refine ao q (λk e=>by rw[e];exact ai r2) ?_;have bo:=hp.ext E2;have b5:=hq.ext E2;refine ae.at (Ax bo) ⟨rfl,?_⟩;refine ae.at (Ax b5) ?_;have I2:=I.ext E2;refine ae.at (dA I2) ?_;refine ae.at (rn I2) ?_;refine vF.mono λr h3 ⟨pt,er,e3,_,hN⟩=>?_
 subst er;obtain⟨bt,vt,bv,It,cp,a9,_⟩:=hN fit;subst bv;rw[fit];have x0:∀a b:Value,aE (.tuple #[a,b]) 0=some a:=λ_ _=>rfl
 have x1:∀a b:Value,aE (.tuple #[a,b]) 1=some b:=λ_ _=>rfl
 simp only[x0,x1,ah];have aw:ag .i .neq (.int .i64 0) (.int .i64 0)=some (.bool false):=rfl;rw[aw,ah,cf];have E3:=E2.trans e3;have s1:=e1.1;have s2:=e2.1;have s3:=e3.1;rw[aM (l:=[p,q,.int .i64 s.border]) (e3.row r2) 3 rfl,ah];refine(LX (Z:=Z0) (s:=s) ⟨p,q,rfl,hp.ext E3,hq.ext E3⟩).mono λr h4 ⟨e4,b4,bg⟩=>?_
 have E4:=E3.trans e4;by_cases H:dQ tw∧dQ th
 ·obtain⟨bl,pp,pq,er,cb,PL⟩:=b4 H;subst er;simp only[x0,x1,ah];rw[aw,ah,cf];by_cases al:wk<1
  ·simp only[go_sem,al];exact⟨λh=>absurd H h,λ_ _=>⟨trivial,E4⟩,λ_ K U h=>by omega⟩
  by_cases au:256<wk
  ·simp only[go_sem,al,au];exact⟨λh=>absurd H h,λ_ _=>⟨trivial,E4⟩,λ_ K U h=>by omega⟩
  simp only[go_sem,al,au];obtain⟨K,U⟩:∃K:Nat,wk=(K:Int):=⟨wk.toNat,by omega⟩
  subst U;have U:1≤K∧K≤256:=by omega
  have fin:∀{r h'},Vq Z0 h m s tw th room bf K r h'→(¬(dQ tw∧dQ th)→r=.tuple #[.pointer none,.int .i64 9]∧Ext h h')∧(dQ tw∧dQ th→¬(1≤(K:Int)∧(K:Int)≤256)→r=.tuple #[.pointer none,.int .i64 10]∧Ext h h')∧(dQ tw∧dQ th→∀K':Nat,(K:Int)=K'→1≤K'∧K'≤256→Vq Z0 h m s tw th room bf K' r h'):=λ{r h'} M=>⟨λh=>absurd H h,λ_ h=>absurd (by omega) h,λ_ K' e _=>by
   obtain rfl:K=K':=by omega
   exact M⟩
  have ct:=It.lt;have b7:=aW PL.row;have s4:=e4.1;refine aV (PA h4 K room bf bt bl) ?_ ?_
  ·refine aI (Ext h4) (Ext.refl _) ?_
   try simp only[go_sem]
   rw[w64 (n:=(K:Int)+1) (by omega) (by omega)];have M0:=jy.start h4 K room;refine⟨?_,?_⟩
   ·refine M0.queue λbq g1 M1=>⟨M1.ext,?_,?_⟩
    ·refine M1.clock U λpc g2 M2=>⟨M2.ext,?_⟩
     refine M2.words U λdv g3 M3=>⟨M3.ext,?_⟩
     exact Eo M3
    ·refine M1.words U λdv g2 M2=>⟨M2.ext,?_⟩
     refine M2.clock U λpc g3 M3=>⟨M3.ext,?_⟩
     exact Eo M3
   ·refine M0.words U λdv g1 M1=>⟨M1.ext,?_⟩
    refine M1.queue λbq g2 M2=>⟨M2.ext,?_⟩
    refine M2.clock U λpc g3 M3=>⟨M3.ext,?_⟩
    exact Eo M3
  rintro xs ρ g ⟨bp,bq,pc,dv,rfl,M,row,b8,bc,a8,ar⟩;simp only[gb];refine Vu (row:=λv=>#[ptr bf,ptr bt,ptr bl,ptr bq,pc.1,.slice none 0 0,v,dv,.int .i64 0,.slice none 0 0,.slice none 0 0,.slice none 0 0,.bool false,.int .i64 0]) U row (λv=>rfl) (λv v'=>rfl) λwv bw g2 WM=>?_
  have c0:=M.ext;have sM:=c0.1;obtain⟨Qk,cr⟩:=M.hq bq rfl;obtain⟨Ck,cM⟩:=M.hc pc rfl;obtain⟨Dk,nd⟩:=M.hd dv rfl;have ci:=Qk.ql bq rfl;have ax:∀c,blk dv c→c<g.size:=λc hc=>Dk.lt hc
  have cu:=aW row;have e0:=WM.fr;have se:=e0.1;have wl:∀j,j<K→bw j<g2.size:=λj hj=>aW (WM.ws j hj).1
  have b3:∀c,blk wv c→c<g2.size:=λc hc=>WM.own.lt hc
  have wi:∀i j,i<K→j<K→bw i=bw j→i=j:=λi j hi hj h=>by
   rcases Nat.lt_trichotomy i j with h1|h1|h1
   ·exact absurd h (WM.ne i j h1 hj)
   ·exact h1
   ·exact absurd h.symm (WM.ne j i h1 hi)
  have u:∀k k' c,((k=1∧c=bq)∨(k=2∧pc.2 c)∨(k=4∧c=bp)∨(k=5∧blk dv c)∨(k=9∧blk wv c)∨∃j,j<K∧k=10+j∧c=bw j)→((k'=1∧c=bq)∨(k'=2∧pc.2 c)∨(k'=4∧c=bp)∨(k'=5∧blk dv c)∨(k'=9∧blk wv c)∨∃j,j<K∧k'=10+j∧c=bw j)→k=k':=by
   intro k k' c h1 h2;have q1:pc.2 c→c<g.size∧c≠bq∧c≠bp∧¬blk dv c:=λh=>⟨(cM c h).2,λe=>M.qc bq pc rfl rfl (e▸h),λe=>a8 (e▸h),M.cd pc dv c rfl rfl h⟩
   have q2:blk dv c→c<g.size∧c≠bq∧c≠bp:=λh=>⟨ax c h,λe=>M.qd bq dv rfl rfl (e▸h),λe=>ar (e▸h)⟩
   have q3:blk wv c→g.size≤c∧∀j,j<K→c≠bw j:=λh=>WM.nw c h
   have q4:∀j,j<K→g.size≤bw j:=λj hj=>(WM.ws j hj).2
   rcases h1 with⟨a1,D⟩|⟨a1,D⟩|⟨a1,D⟩|⟨a1,D⟩|⟨a1,D⟩|⟨i,i1,a1,D⟩<;>rcases h2 with⟨a2,F⟩|⟨a2,F⟩|⟨a2,F⟩|⟨a2,F⟩|⟨a2,F⟩|⟨j,j1,a2,F⟩<;>
    first
    |omega
    |(exfalso;exact(q1 D).2.2.2 F)
    |(exfalso;exact(q1 F).2.2.2 D)
    |(exfalso;have:=q1 D;have:=q3 F;omega)
    |(exfalso;have:=q1 F;have:=q3 D;omega)
    |(exfalso;have:=q2 D;have:=q3 F;omega)
    |(exfalso;have:=q2 F;have:=q3 D;omega)
    |(exfalso;have:=q1 D;omega)
    |(exfalso;have:=q1 F;omega)
    |(exfalso;have:=q2 D;omega)
    |(exfalso;have:=q2 F;omega)
    |(exfalso;have:=(q3 D).1;omega)
    |(exfalso;have:=(q3 F).1;omega)
    |(exfalso;exact(q3 D).2 _ j1 F)
    |(exfalso;exact(q3 F).2 _ i1 D)
    |(exfalso;have:=q1 D;have:=q4 _ j1;omega)
    |(exfalso;have:=q1 F;have:=q4 _ i1;omega)
    |(exfalso;have:=q2 D;have:=q4 _ j1;omega)
    |(exfalso;have:=q2 F;have:=q4 _ i1;omega)
    |(exfalso;have:=q4 _ j1;omega)
    |(exfalso;have:=q4 _ i1;omega)
    |(have:=wi i j i1 j1 (D.symm.trans F);omega)
  obtain⟨o,ho⟩:=label (λc h=>by rcases h with⟨a,_⟩|⟨a,_⟩|⟨a,_⟩|⟨a,_⟩|⟨a,_⟩|⟨j,_,a,_⟩<;>omega) u;have A:∀c,o c≠0→h4.size≤c∧c<g2.size:=λc hc=>by
   rcases(ho _ hc c).1 rfl with⟨_,e⟩|⟨_,e⟩|⟨_,e⟩|⟨_,e⟩|⟨_,e⟩|⟨j,j1,_,e⟩
   ·omega
   ·have:=cM c e;omega
   ·omega
   ·have:=nd c e;have:=ax c e;omega
   ·have:=(WM.nw c e).1;have:=b3 c e;omega
   ·have:=(WM.ws j j1).2;have:=wl j j1;omega
  have cw:h4.size≤g2.size:=by omega
  have L:Ext h4 g2:=c0.then_fr e0 λc hc=>by have hc:c=bp:=hc;omega
  have E:=E4.trans L;obtain⟨C,hC⟩:∃C:C21,C=⟨0,0,0,0,bf,vf,bt,vt,pp,pq,.pointer none,bl,pp,pq,m,⟨s,tw,th⟩,0,bq⟩:=⟨_,rfl⟩
  have b0:cA g2 bt vt (qT s.x.lines.length s.y.lines.length m.c m.most):=(It.ext e4).ext L;have I0:=I.lt;have Iv:∀c,blk vf c→c<h.size:=λc hc=>I.ltv hc
  have Tv:∀c,blk vt c→c<h3.size:=λc hc=>It.ltv hc
  have ad:(qT s.x.lines.length s.y.lines.length m.c m.most).Wf:=Ab fit;have ab:ic s.x.lines.length s.y.lines.length m.c:=ad.fits;have hZ:∀c,(Z0 c∨c=bl)→c<g2.size∧c≠bt∧¬blk vt c:=λc hc=>by
   have h1:=a9 c;rcases hc with hc|hc
   ·have:=zl c hc;exact⟨by omega,by omega,λh=>by have:=h1 h;omega⟩
   ·exact⟨by omega,by omega,λh=>by have:=Tv c h;omega⟩
  have SU:xA (λc=>Z0 c∨c=bl) g2 C.bf C.vf C.bt C.vt C.p C.q C.m (qT s.x.lines.length s.y.lines.length m.c m.most) C.d.s:=by
   rw[hC];exact⟨I.ext E,b0,(by show bf≠bt;omega),(PL.x.ext L).mono λc _ hc=>.inl hc,(PL.y.ext L).mono λc _ hc=>.inl hc,⟨.inl zf.1,λc hc=>.inl (zf.2 c hc)⟩,λc hc=>(hZ c hc).2.2,λc hc=>(hZ c hc).2.1,λc hc=>(hZ c hc).1⟩
  have be:p8 (λc=>Z0 c∨c=bl) g2 C.bl C.d C.pp C.pq:=by
   rw[hC];exact⟨L.row PL.row,(PL.x.ext L).mono λc _ hc=>.inl hc,(PL.y.ext L).mono λc _ hc=>.inl hc⟩
  have CO:C.Ok:=by
   rw[hC];exact⟨W,⟨WS.wf,H.1,H.2⟩,WS⟩
  have SW:C.suits (qT s.x.lines.length s.y.lines.length m.c m.most):=by
   rw[hC];exact⟨ad,a7,rfl,rfl,rfl,rfl⟩
  have eC:C.m=m∧C.d=⟨s,tw,th⟩∧C.bf=bf∧C.bq=bq∧C.bt=bt∧C.bl=bl∧C.vt=vt∧C.pp=C.p∧C.pq=C.q:=by rw[hC];exact⟨rfl,rfl,rfl,rfl,rfl,rfl,rfl,rfl,rfl⟩
  clear hC
  obtain⟨k1,k2,k3,k4,k5,k6,k7,k8,k9⟩:=eC;have an:gO g2 (some C.E) (qT s.x.lines.length s.y.lines.length m.c m.most):=λE' hE=>by cases hE;exact⟨SU.out,ad⟩
  have aa:∀c,h4.size≤c→¬(Z0 c∨c=bl)∧xB (some C.E) c∧¬dd (some C.E) c:=λc hc=>by
   refine⟨λh=>?_,?_,λh=>?_⟩
   ·rcases h with h|h
    ·have:=zl c h;omega
    ·omega
   ·show c≠C.bt;omega
   ·have h:blk C.vt c:=h;rw[k7]at h;have:=Tv c h;omega
  have ca:∀c,c≠bp→¬(λc=>c=bp) c:=λc h=>h
  have PB:aL (λ_=>False) C (λc=>Z0 c∨c=bl) K h bw bp o (qT s.x.lines.length s.y.lines.length m.c m.most) ⟨pc.1,.slice none 0 0,wv,dv,.slice none 0 0,.slice none 0 0,.slice none 0 0⟩ (Bh K room) g2:=by
   refine⟨λ_=>?_,λ_=>?_,λ_=>⟨λ_=>False,Rp.Ow.nil,λc h=>h.elim,λc h=>h.elim⟩,λ_=>?_,λ_=>⟨?_,λc hc=>(ho 5 (by omega) c).2 (.inr (.inr (.inr (.inl ⟨rfl,hc⟩))))⟩,λ_=>⟨λ_=>False,Rp.Ow.nil,λc h=>h.elim,λc h=>h.elim⟩,λ_=>⟨λ_=>False,Rp.Ow.nil,λc h=>h.elim,λc h=>h.elim⟩,λ_=>Rp.Sl.nil,λ_=>⟨WM.own.sl,λc hc=>(ho 9 (by omega) c).2 (.inr (.inr (.inr (.inr (.inl ⟨rfl,hc⟩)))))⟩,λi hi _=>?_,(ho 4 (by omega) bp).2 (.inr (.inr (.inl ⟨rfl,rfl⟩))),SU,be,⟨.inr k6,k8,k9⟩,SW,λc hc=>⟨(A c hc).2,by have:=(A c hc).1;have:=E4.1;omega,aa c (A c hc).1⟩,E,U⟩
   ·rw[k4];exact(Qk.fr e0 λc hc h=>bc (h.symm.trans hc)).bmono (λc hc=>(ho 1 (by omega) c).2 (.inl ⟨rfl,hc⟩)) λc hc=>(A c (by rw[hc];omega)).2
   ·exact(Ck.fr e0 λc _ hc h=>a8 (by have h:c=bp:=h;rw[←h];exact hc)).bmono (λc hc=>(ho 2 (by omega) c).2 (.inr (.inl ⟨rfl,hc⟩))) λc hc=>(A c (by rw[hc];omega)).2
   ·have:=WM.p;unfold gk;rw[k3,k5,k6,k4];exact this
   ·exact Dk.fr e0 λc hc h=>ar (by have h:c=bp:=h;rw[←h];exact hc)
   ·have hw:=WM.ws i hi;have hn:=aa (bw i) (by omega);exact(IsW.new hw.1 hn.1 hn.2.1 hn.2.2 (λc hc=>(hZ c hc).1) an).bmono (λc hc=>(ho (10+i) (by omega) c).2 (.inr (.inr (.inr (.inr (.inr ⟨i,hi,rfl,hc⟩)))))) (λc hc=>(A c (by rw[hc];omega)).2) λc hc=>aa c (A c (by rw[hc];omega)).1
  have HP:dJ C (λc=>Z0 c∨c=bl) K h bw bp o _ (Bh K room) g2:=⟨_,PB⟩
  -- the two notes
  have c1:=cL W.fits;have cc:=cL ab;have m1:1≤m.w*m.h*m.c:=Int.mul_pos (Int.mul_pos (by omega) (by omega)) (by omega);have m2:1≤(s.x.lines.length:Int)*s.y.lines.length*m.c:=Int.mul_pos (Int.mul_pos (by omega) (by omega)) (by omega);refine ae.at (Cn (I.ext E) W.fits) ?_;refine(Co HP (who:=0) (by omega) (by show 0≤1000000;omega) (Int.le_refl 0) (Int.le_refl 0) m1 (by omega)).mono λr g3 ⟨_,o3,H3,q3,f3⟩=>?_
  have B3:=H3;obtain⟨V3,B3⟩:=B3;have ay:=B3.set.out;rw[k5,k7]at ay;refine ae.at (Cn ay ab) ?_;refine(Co H3 (who:=0) (by omega) (by show 1≤1000000;omega) (by omega) (Int.le_refl 0) m2 (by omega)).mono λr g4 ⟨_,o4,H4,q4,f4⟩=>?_
  refine fin ⟨bp,C,λc=>Z0 c∨c=bl,bw,o4,rfl,k1,k2,k3,CO,H4,λc hc=>?_,?_,λc hc=>?_,λc hc=>hc.elim .inl λh=>.inr (by omega),by omega⟩
  ·have hc:blk C.vt c:=hc;rw[k7]at hc;have:=a9 c hc;omega
  ·obtain⟨V4,B4⟩:=H4;exact B4.ext
  ·obtain⟨V4,B4⟩:=H4;exact(B4.ow c hc).2.1
 ·have er:=bg H;subst er;simp only[x0,x1,ah];have bk:ag .i .neq (.int .i64 9) (.int .i64 0)=some (.bool true):=rfl;rw[bk,ah,fI];exact⟨λ_=>⟨trivial,E4⟩,λh=>absurd h H,λh=>absurd h H⟩
end Go.Proofs.YtjljhnandbbldaaGreatDoor
