/- Several texts of this session, one behind the other, without what this claim does not need (put together by its program pack.py). Conditions: none. -/
import Derived.Test.YtcoimlclclnlkaaGreatDoorMs1
import Derived.Test.YtcoimlclclnlkaaGreatDoorRows
import Derived.Test.YtcoimlclclnlkaaGreatDoorProg
import Derived.Shelf.Bits.Mul64
import Derived.Shelf.Spec.BitsCarry
import Derived.Shelf.Strconv.Itoa0
import Derived.Lib.ItoaNum
set_option linter.unusedVariables false
set_option linter.unusedSimpArgs false
set_option maxRecDepth 100000
namespace Go.Proofs.YtcoimlclclnlkaaGreatDoor
open Go Go.Crisp
open _root_.Go.Proofs.Tryz
theorem UX {L:List (String×DataW Unit)}{h:af}(H:zG prog L h)(hn:(L.all λx=>x.2.handleName?.isNone)=true)
  (m1:("smalto/border.names",Rows.laid_smalto_border_names)∈L) (m2:("smalto/raw.kinds",Rows.laid_smalto_raw_kinds)∈L):dA h:=by
 let w:World:=⟨h,λ_ _=>0,0,default,#[]⟩
 refine⟨?_,?_⟩
 ·obtain⟨t,cs,fuel,p,_,hk,_,hc,ht⟩:=H.kind hn m1 w rfl (g:=lY) (k:=Nr Jp) (by kernel_rfl);obtain⟨b,o,cap,he,hx⟩:=SS (h:=h) rfl (zs:=[[99,108,97,109,112],[109,105,114,114,111,114],[119,114,97,112]]) (by simp) hk ht;have h0:=hc 0;obtain⟨l⟩:=cs;rw[show l=_ from he]at h0;refine⟨_,h0,by simp,some ⟨b,o,none⟩,cap,rfl,.inr ⟨b,o,rfl,λj hj=>?_⟩⟩;have:=hx j hj;rw[this]
  match j,hj with
  |0,_=>rfl
  |1,_=>rfl
  |2,_=>rfl
 ·obtain⟨t,cs,fuel,p,_,hk,_,hc,ht⟩:=H.kind hn m2 w rfl (g:=ed) (k:=UT 3 (QX Jp (Sd .i64))) (by kernel_rfl);have:=Qh (zs:=[([98,111,120],0),([99,117,98,105,99],2),([108,97,110,99,122,111,115],3)]) hk ht;intro i hi;have h1:=this i hi;rw[hc,hc];rw[Array.getElem?_toList,Array.getElem?_toList]at h1;rw[h1.1,h1.2]
  match i,hi with
  |0,_=>exact⟨rfl,rfl⟩
  |1,_=>exact⟨rfl,rfl⟩
  |2,_=>exact⟨rfl,rfl⟩
end Go.Proofs.YtcoimlclclnlkaaGreatDoor
namespace Go.Crisp
open Go
theorem gW (n:Int):I64 (IntKind.i64.wrap n):=by rw[gG];unfold I64;omega
theorem ri (a b:Int):IntKind.i64.wrap (IntKind.i64.wrap a+b)=IntKind.i64.wrap (a+b):=by rw[gG,gG,gG];omega
theorem mY (a b:Int):IntKind.i64.wrap (a+IntKind.i64.wrap b)=IntKind.i64.wrap (a+b):=by rw[gG,gG,gG];omega
theorem vJ (a b:Int):IntKind.i64.wrap (IntKind.i64.wrap a-b)=IntKind.i64.wrap (a-b):=by rw[gG,gG,gG];omega
theorem By (a b:Int):IntKind.i64.wrap (a-IntKind.i64.wrap b)=IntKind.i64.wrap (a-b):=by rw[gG,gG,gG];omega
def kQ (x n:Int):Int:=if n≤0 then x else if 64≤n then 0 else x/2^n.toNat+x/2^(n.toNat-1)%2
theorem WT {x:Int}{k:Nat}(D:I64 x): -9223372036854775808≤x/2^k∧x/2^k≤9223372036854775807:=by
 obtain⟨F,G⟩:=D;have A:(0:Int)<2^k:=Int.pow_pos (by omega);constructor
 ·rw[Int.le_ediv_iff_mul_le A];have: -9223372036854775808*(2:Int)^k≤ -9223372036854775808*1:=Int.mul_le_mul_of_nonpos_left (by omega) (by omega);omega
 ·apply Int.le_of_lt_add_one;rw[Int.ediv_lt_iff_lt_mul A];have:(9223372036854775807+1)*1≤(9223372036854775807+1)*(2:Int)^k:=Int.mul_le_mul_of_nonneg_left (by omega) (by omega);omega
theorem BB {x n:Int}(A:I64 x):I64 (kQ x n):=by
 unfold kQ;split
 ·exact A
 split
 ·unfold I64;omega
 ·have F:(2:Int)^n.toNat=2^(n.toNat-1)*2:=by
   obtain⟨j,H⟩:∃j,n.toNat=j+1:=⟨n.toNat-1,by omega⟩
   rw[H,Nat.add_sub_cancel,Int.pow_succ]
  have D:(0:Int)<2^(n.toNat-1):=Int.pow_pos (by omega);have G:x/2^n.toNat=x/2^(n.toNat-1)/2:=by rw[F,Int.ediv_ediv,if_neg (by omega),Int.sub_zero]
  have:=WT (k:=n.toNat-1) A;unfold I64;rw[G];omega
def dW (r:Int):Nat→Int×Int
 |0=>(1099511627776,1099511627776)
 | i+1=>(IntKind.i64.wrap (if i%2=0 then(dW r i).1-ch (dW r i).2 r (((i:Int)+1)*1099511627776)else(dW r i).1+ch (dW r i).2 r (((i:Int)+1)*1099511627776)),
   ch (dW r i).2 r (((i:Int)+1)*1099511627776))
def TC (t:Int):Int:=kQ (dW (max 0 t%762123384786) 16).1 (max 0 t/762123384786)
def BG (d sigma:Int):Int:=if sigma<1∨4194304<sigma∨d< -16384∨16384<d then 9223372036854775807 else ch (d*d*2147483648) 1099511627776 (sigma*sigma)
def zc (d sigma:Int):Int:=kQ (TC (BG d sigma)) 10
theorem eW (a b d:Int):I64 (ch a b d):=by
 unfold ch;split
 ·unfold I64;omega
 ·exact LW _ _
theorem zi (r:Int):∀i,I64 (dW r i).1∧I64 (dW r i).2
 |0=>⟨by unfold I64 dW;omega,by unfold I64 dW;omega⟩
 |i+1=>by simp only[dW];exact⟨gW _,eW _ _ _⟩
theorem JA (t:Int):I64 (TC t):=BB (zi _ _).1
theorem HN (d s:Int):I64 (BG d s):=by
 unfold BG;split
 ·unfold I64;omega
 ·exact eW _ _ _
theorem Q0 (d s:Int):I64 (zc d s):=BB (JA _)
theorem Lq {d B:Int}(h1: -B≤d)(A:d≤B):0≤d*d∧d*d≤B*B:=by
 refine⟨by rcases Int.le_total 0 d with h|h;exact Int.mul_nonneg h h;exact Int.mul_nonneg_of_nonpos_of_nonpos h h,?_⟩;rcases Int.le_total 0 d with h|h
 ·exact Int.mul_le_mul A A h (by omega)
 ·have: -d* -d≤B*B:=Int.mul_le_mul (by omega) (by omega) (by omega) (by omega)
  rwa [Int.neg_mul_neg]at this
def GG (p q:Int):Prop:=1≤q∧q≤1048576∧ -4*q≤p∧p≤4*q
instance (p q:Int):Decidable (GG p q):=by unfold GG;infer_instance
def bT (u:Int):Nat→Int×Int
 |0=>(1099511627776,1099511627776)
 | i+1=>(IntKind.i64.wrap (if i%2=0 then(bT u i).1-ch (bT u i).2 u (2*((i:Int)+1)*(2*((i:Int)+1)+1)*1099511627776)else(bT u i).1+ch (bT u i).2 u (2*((i:Int)+1)*(2*((i:Int)+1)+1)*1099511627776)),
   ch (bT u i).2 u (2*((i:Int)+1)*(2*((i:Int)+1)+1)*1099511627776))
def vU (p q:Int):Int:=(bT (ch (ch 10851744800547 (max p (-p)) q) (max p (-p)) q) 30).1
theorem vT (r:Int):∀i,I64 (bT r i).1∧I64 (bT r i).2
 |0=>⟨by unfold I64 bT;omega,by unfold I64 bT;omega⟩
 |i+1=>by simp only[bT];exact⟨gW _,eW _ _ _⟩
theorem tJ (p q:Int):I64 (vU p q):=(vT _ _).1
def Hb (m n:Nat)(below:Bool):Nat:=if n=0 then m else m/2^n+(if m/2^(n-1)%2=1∧¬(below=true∧m%2^(n-1)=0)then 1 else 0)
def nA (a b n:Int):Int:=if 128≤n then 0 else iy (Hb (a.natAbs*b.natAbs) n.toNat (jl a b)) (jl a b)
theorem uk (a b n:Int):I64 (nA a b n):=by
 unfold nA;split
 ·unfold I64;omega
 ·exact LW _ _
def rW (p q:Int):Int:=if¬GG p q∨3*q≤max p (-p)then 0 else kQ (nA (vU p q) (vU p (3*q)) 40) 10
theorem Nq (p q:Int):I64 (rW p q):=by
 unfold rW;split
 ·unfold I64;omega
 ·exact BB (uk _ _ _)
def gD (b w:Bool)(v:Value):Value:=bif b==w then v else undef
theorem gD_tt (v:Value):gD true true v=v:=Eq.trans rfl rfl
theorem gD_ff (v:Value):gD false false v=v:=Eq.trans rfl rfl
theorem gD_tf (v:Value):gD true false v=undef:=Eq.trans rfl rfl
theorem gD_ft (v:Value):gD false true v=undef:=Eq.trans rfl rfl
theorem gD_gD (b w:Bool)(v:Value):gD b w (gD b w v)=gD b w v:=by cases b<;>cases w<;>rfl
theorem gV_gD (b w:Bool)(v:Value):gV (.bool b) w (some v)=some (gD b w v):=by cases b<;>cases w<;>rfl
theorem gV_un (b w:Bool)(o:UnOp)(v:Value):gV (.bool b) w (unV o (gD b w v))=gV (.bool b) w (unV o v):=by cases b<;>cases w<;>rfl
theorem W9 (b w:Bool)(e:EK)(o:BinOp)(v u:Value):gV (.bool b) w (ag e o (gD b w v) u)=gV (.bool b) w (ag e o v u):=by cases b<;>cases w<;>rfl
theorem W8 (b w:Bool)(e:EK)(o:BinOp)(v u:Value):gV (.bool b) w (ag e o u (gD b w v))=gV (.bool b) w (ag e o u v):=by cases b<;>cases w<;>rfl
theorem Yu (b w:Bool)(k:IntKind)(v:Value):gV (.bool b) w (dY k (gD b w v))=gV (.bool b) w (dY k v):=by cases b<;>cases w<;>rfl
theorem Ys (b w:Bool)(n:Nat)(v:Value):gV (.bool b) w (am n (gD b w v))=gV (.bool b) w (am n v):=by cases b<;>cases w<;>rfl
theorem gV_ld (b w:Bool)(h:af)(v:Value):gV (.bool b) w (ldV h (gD b w v))=gV (.bool b) w (ldV h v):=by cases b<;>cases w<;>rfl
theorem Yr (b w:Bool)(n:Nat)(h:af)(v:Value):gV (.bool b) w (aH n h (gD b w v))=gV (.bool b) w (aH n h v):=by cases b<;>cases w<;>rfl
theorem W1 (b w:Bool)(n:Nat)(v u:Value):gV (.bool b) w (aR n (gD b w v) u)=gV (.bool b) w (aR n v u):=by cases b<;>cases w<;>rfl
theorem W0 (b w:Bool)(n:Nat)(v u:Value):gV (.bool b) w (aR n u (gD b w v))=gV (.bool b) w (aR n u v):=by cases b<;>cases w<;>rfl
theorem U6 (b w:Bool)(v:Value):gV (.bool b) w (aq (gD b w v))=gV (.bool b) w (aq v):=by cases b<;>cases w<;>rfl
theorem U5 (b w:Bool)(v:Value):gV (.bool b) w (Fa (gD b w v))=gV (.bool b) w (Fa v):=by cases b<;>cases w<;>rfl
theorem Yt (b w:Bool)(n:Nat)(v:Value):gV (.bool b) w (aF (gD b w v) n)=gV (.bool b) w (aF v n):=by cases b<;>cases w<;>rfl
theorem Yq (b w:Bool)(v:Value):gV (.bool b) w (aK (gD b w v))=gV (.bool b) w (aK v):=by cases b<;>cases w<;>rfl
theorem WZ (b w:Bool)(v u:Value):gV (.bool b) w (iG (gD b w v) u)=gV (.bool b) w (iG v u):=by cases b<;>cases w<;>rfl
theorem WY (b w:Bool)(v u:Value):gV (.bool b) w (iG u (gD b w v))=gV (.bool b) w (iG u v):=by cases b<;>cases w<;>rfl
theorem WX (b w:Bool)(v u:Value):gV (.bool b) w (pA (gD b w v) u)=gV (.bool b) w (pA v u):=by cases b<;>cases w<;>rfl
theorem WW (b w:Bool)(v u:Value):gV (.bool b) w (pA u (gD b w v))=gV (.bool b) w (pA u v):=by cases b<;>cases w<;>rfl
theorem WV (b w a:Bool)(n o:Nat)(v:Value):gV (.bool b) w (mT a n o (gD b w v))=gV (.bool b) w (mT a n o v):=by cases b<;>cases w<;>rfl
theorem U0 (b w:Bool)(v u x:Value):gV (.bool b) w (az (gD b w v) u x)=gV (.bool b) w (az v u x):=by cases b<;>cases w<;>rfl
theorem UZ (b w:Bool)(v u x:Value):gV (.bool b) w (az v (gD b w u) x)=gV (.bool b) w (az v u x):=by cases b<;>cases w<;>rfl
theorem UY (b w:Bool)(v u x:Value):gV (.bool b) w (az v u (gD b w x))=gV (.bool b) w (az v u x):=by cases b<;>cases w<;>rfl
theorem UD (b c:Bool):az (.bool b) (gD b true (.bool c)) (.bool false)=some (.bool (b&&c)):=by cases b<;>rfl
theorem WF (b c:Bool):az (.bool b) (.bool true) (gD b false (.bool c))=some (.bool (b||c)):=by cases b<;>rfl
theorem U7 (b w c A:Bool)(r:Option Value):gV (gD b w (.bool c)) A r=gV (.bool ((b==w)&&(c==A))) true r:=by cases b<;>cases w<;>cases c<;>cases A<;>rfl
theorem U8 (b w c A:Bool)(m:(Value→af→Prop)→Prop)(h:af)(K:Value→af→Prop):gK (gD b w (.bool c)) A m h K=gK (.bool ((b==w)&&(c==A))) true m h K:=by cases b<;>cases w<;>cases c<;>cases A<;>rfl
theorem Pm (b c d:Bool):gV (.bool b) true (az (.bool c) (gD (b&&c) true (.bool d)) (.bool false))=some (gD b true (.bool (c&&d))):=by cases b<;>cases c<;>rfl
theorem Pn (b c d:Bool):gV (.bool b) false (az (.bool c) (gD (!b&&c) true (.bool d)) (.bool false))=some (gD b false (.bool (c&&d))):=by cases b<;>cases c<;>rfl
theorem Sh (b c d:Bool):gV (.bool b) true (az (.bool c) (.bool true) (gD (b&& !c) true (.bool d)))=some (gD b true (.bool (c||d))):=by cases b<;>cases c<;>rfl
theorem Si (b c d:Bool):gV (.bool b) false (az (.bool c) (.bool true) (gD (!b&& !c) true (.bool d)))=some (gD b false (.bool (c||d))):=by cases b<;>cases c<;>rfl
theorem Ty (p q:Prop)[Decidable p][Decidable q](d:Bool):gV (.bool (decide p)) true (az (.bool (decide q)) (gD (decide (p∧q)) true (.bool d)) (.bool false))=some (gD (decide p) true (.bool (decide q&&d))):=by rw[Bool.decide_and];exact Pm _ _ _
theorem Tz (p q:Prop)[Decidable p][Decidable q](d:Bool):gV (.bool (decide p)) false (az (.bool (decide q)) (gD (decide (¬p∧q)) true (.bool d)) (.bool false))=some (gD (decide p) false (.bool (decide q&&d))):=by rw[Bool.decide_and,decide_not];exact Pn _ _ _
theorem U3 (p q:Prop)[Decidable p][Decidable q](d:Bool):gV (.bool (decide p)) true (az (.bool (decide q)) (.bool true) (gD (decide (p∧¬q)) true (.bool d)))=some (gD (decide p) true (.bool (decide q||d))):=by rw[Bool.decide_and,decide_not];exact Sh _ _ _
theorem U4 (p q:Prop)[Decidable p][Decidable q](d:Bool):gV (.bool (decide p)) false (az (.bool (decide q)) (.bool true) (gD (decide (¬p∧¬q)) true (.bool d)))=some (gD (decide p) false (.bool (decide q||d))):=by rw[Bool.decide_and,decide_not,decide_not];exact Si _ _ _
theorem beq_t (b:Bool):(b==true)=b:=by cases b<;>rfl
theorem beq_f (b:Bool):(b==false)= !b:=by cases b<;>rfl
theorem Xf (p q:Prop)[Decidable p][Decidable q]:(decide p&&decide q)=decide (p∧q):=(Bool.decide_and p q).symm
theorem YE (p q:Prop)[Decidable p][Decidable q]:(decide p||decide q)=decide (p∨q):=(Bool.decide_or p q).symm
theorem Sp (p:Prop)[Decidable p]:(!decide p)=decide (¬p):=decide_not.symm
theorem YD (p:Prop)[Decidable p]:decide (True∧p)=decide p:=by by_cases h:p<;>simp[h]
theorem YG (p:Prop)[Decidable p]:decide (p∧True)=decide p:=by by_cases h:p<;>simp[h]
theorem YF (p:Prop)[Decidable p]:decide (False∧p)=false:=by simp
theorem YH (p:Prop)[Decidable p]:decide (p∧False)=false:=by simp
theorem gK_f {b:Bool}{m:(Value→af→Prop)→Prop}{h:af}{K:Value→af→Prop}(h1:b=false→m K)(A:b=true→K undef h):gK (.bool b) false m h K:=by
 cases b
 ·exact h1 rfl
 ·exact A rfl
theorem iH {init:List Value}{h:af}{body:List Value→Env→af→(List Value→af→Prop)→Prop}(st:Nat→List Value)(N A:Nat)(hi:init=st A)(h0:A≤N)
  (step:∀i again ρj,A≤i→i≤N→(i<N→again (st (i+1)) h)→body (st i) ρj h again):aS init h body:=by
 refine cP (λd D h'=>∃i,d=N-i∧A≤i∧i≤N∧D=st i∧h'=h) (N-A) ⟨A,rfl,Nat.le_refl _,h0,hi,rfl⟩ ?_;rintro d D ρj h' again ⟨i,rfl,h1,F,rfl,rfl⟩ H;exact step i again ρj h1 F λG=>H _ _ (N-(i+1)) (by omega) ⟨i+1,rfl,by omega,G,rfl,rfl⟩
theorem bB {α:Type}{init:List Value}{h:af}{body:List Value→Env→af→(List Value→af→Prop)→Prop}(N A:Nat)(st:Nat→α→List Value)(I:Nat→α→af→Prop)(a0:α)(hi:init=st A a0)(h0:A≤N)(L:I A a0 h)
  (step:∀i a h again ρj,A≤i→i≤N→I i a h→(∀D h',i<N→I (i+1) D h'→again (st (i+1) D) h')→body (st i a) ρj h again):aS init h body:=by
 refine cP (λd G h'=>∃i a,d=N-i∧A≤i∧i≤N∧G=st i a∧I i a h') (N-A) ⟨A,a0,rfl,Nat.le_refl _,h0,hi,L⟩ ?_;rintro d G ρj h' again ⟨i,a,rfl,h1,U,rfl,hi⟩ H;exact step i a h' again ρj h1 U hi λD h' W F=>H _ _ (N-(i+1)) (by omega) ⟨i+1,D,rfl,by omega,W,rfl,F⟩
attribute [go_sem] gD_gD gD_tt gD_ff gD_tf gD_ft gV_gD gV_un W9 W8 Yu Ys gV_ld Yr W1 W0 U6 U5 Yt Yq WZ WY WX WW WV U0 UZ UY true_or or_true false_or or_false YD YG YF YH UD WF U7 U8 Pm Pn Sh Si Ty Tz U3 U4 beq_t beq_f Xf YE Sp
attribute [irreducible] gD
end Go.Crisp
namespace Go.Proofs.YtcoimlclclnlkaaGreatDoor
open Go Go.Crisp
attribute [local irreducible] ae cF aP stK aA vK qK bD gK dE aS mkK cG Cn DS Ad bsK
open _root_.Go.Proofs.Tryz
theorem lk {h:af}{x:Int}(A:I64 x):ae prog gF #[.int .i64 x] h λr h'=>r=.int .u64 (x.natAbs:Int)∧h'=h:=by
 apply K4;unfold Bg;simp only[go_sem];refine aj (λh0=>?_) (λh0=>?_)
 ·rw[Og A h0];exact⟨rfl,trivial⟩
 ·rw[Of A h0];exact⟨rfl,trivial⟩
theorem pI {h:af}{m:Nat}{b:Bool}(A:m<18446744073709551616):ae prog jV #[.int .u64 (m:Int),.bool b] h λr h'=>r=.int .i64 (iy m b)∧h'=h:=by
 apply K6;unfold Bh;unfold iy;cases b
 ·simp only[go_sem,Bool.false_eq_true,if_false];refine aj (λh0=>?_) (λh0=>?_)
  ·rw[if_pos (by omega)];exact⟨rfl,trivial⟩
  ·rw[if_neg (by omega),w64 (by omega) (by omega)];exact⟨rfl,trivial⟩
 ·simp only[go_sem,if_true];refine aj (λh0=>?_) (λh0=>?_)
  ·rw[if_pos (by omega)];exact⟨rfl,trivial⟩
  ·rw[if_neg (by omega),w64 (n:=(m:Int)) (by omega) (by omega),w64 (by omega) (by omega)];exact⟨by congr 1;omega,trivial⟩
theorem GL {a b:Nat}(D:0<b)(A:a<18446744073709551616):ag .i .quo (.int .u64 (a:Int)) (.int .u64 (b:Int))=some (.int .u64 ((a/b:Nat):Int)):=by
 have e:(a:Int).tdiv (b:Int)=((a/b:Nat):Int):=(Int.ofNat_tdiv a b).symm;rw[kr _ _ _ _ (by omega),e,eO (Nat.lt_of_le_of_lt (Nat.div_le_self _ _) A)]
theorem R0 {a b:Nat}(A:0<b):ag .i .rem (.int .u64 (a:Int)) (.int .u64 (b:Int))=some (.int .u64 ((a%b:Nat):Int)):=by
 have e:(a:Int).tmod (b:Int)=((a%b:Nat):Int):=(Int.ofNat_tmod a b).symm;rw[cV _ _ _ _ (by omega),e]
theorem ib {x:Int}(h:I64 x):x.natAbs<18446744073709551616:=by unfold I64 at h;omega
theorem ns {x:Int}(h:I64 x):x.natAbs≤9223372036854775808:=by unfold I64 at h;omega
theorem GU {h:af}{a b:Int}(F:I64 a)(H:I64 b):ae prog iY #[.int .i64 a,.int .i64 b] h λr h'=>r=.int .i64 (Fg a b)∧h'=h:=by
 apply IK;unfold yx;simp only[go_sem];unfold Fg;refine aj (λh0=>?_) (λh0=>?_)
 ·rw[if_pos h0];exact⟨rfl,trivial⟩
 rw[if_neg h0];refine aG (λh'=>h'=h) rfl ?_;refine(lk F).mono λv1 h1 ⟨U,w1⟩=>?_
 subst U w1
 try refine⟨rfl,?_⟩
 refine(lk H).mono λv2 h2 ⟨e2,w2⟩=>?_
 subst e2 w2
 try refine⟨rfl,?_⟩
 have D:0<b.natAbs:=by omega
 have W:=ns F;rw[GL D (ib F),ah];refine(lk F).mono λv3 h3 ⟨L,w3⟩=>?_
 subst L w3
 try refine⟨rfl,?_⟩
 refine(lk H).mono λv4 h4 ⟨I,w4⟩=>?_
 subst I w4
 try refine⟨rfl,?_⟩
 rw[R0 D,ah];simp only[go_sem];have hq:a.natAbs/b.natAbs≤a.natAbs:=Nat.div_le_self _ _;by_cases hd:jl a b=true
 ·have A:(!(decide (a<0)==decide (b<0)))=true:=hd;rw[A];simp only[go_sem];by_cases G:a.natAbs%b.natAbs=0
  ·have q:(((a.natAbs%b.natAbs:Nat):Int)=0)=True:=eq_true (by omega);simp only[go_sem,q];rw[hd];unfold Cl;rw[if_neg (by simp[G])];exact pI (by omega)
  ·have q:(((a.natAbs%b.natAbs:Nat):Int)=0)=False:=eq_false (by omega);simp only[go_sem,q];rw[hd,show((a.natAbs/b.natAbs:Nat):Int)+1=((a.natAbs/b.natAbs+1:Nat):Int)from rfl,eO (m:=a.natAbs/b.natAbs+1) (by omega)];unfold Cl;rw[if_pos ⟨rfl,G⟩];exact pI (m:=a.natAbs/b.natAbs+1) (by omega)
 ·have hd:jl a b=false:=by simpa using hd
  have A:(!(decide (a<0)==decide (b<0)))=false:=hd;rw[A];simp only[go_sem];rw[hd];unfold Cl;rw[if_neg (by simp)];exact pI (by omega)
theorem XP (a:Int):ag .i .and (.int .i64 a) (.int .i64 1)=some (.int .i64 (a%2)):=by
 have e:(BitVec.ofInt 64 a&&& BitVec.ofInt 64 1).toNat=(a%2).toNat:=by
  rw[BitVec.toNat_and,BitVec.toNat_ofInt,BitVec.toNat_ofInt];have h1:(1%((2^64:Nat):Int)).toNat=1:=by decide
  rw[h1,Nat.and_one_is_mod];omega
 show some (Value.int .i64 (IntKind.i64.wrap (((BitVec.ofInt 64 a&&& BitVec.ofInt 64 1).toNat:Nat):Int)))=_;rw[e,w64 (by omega) (by omega)]
 congr 2;omega
theorem RW (x:Int)(n:Nat)(A:n≤64):ag .i .shr (.int .i64 x) (.int .i64 (n:Int))=some (.int .i64 (x/2^n)):=by
 show(if(n:Int)<0 then none else some (Value.int .i64 (x.fdiv (2^(min (n:Int).toNat 64)))))=_;rw[if_neg (by omega),Int.toNat_natCast,Nat.min_eq_left A,Int.fdiv_eq_ediv_of_nonneg _ (Int.le_of_lt (Int.pow_pos (by omega)))]
theorem GT {h:af}{x n:Int}(F:I64 x)(G:I64 n):ae prog iX #[.int .i64 x,.int .i64 n] h λr h'=>r=.int .i64 (kQ x n)∧h'=h:=by
 apply IJ;unfold yw;simp only[go_sem];unfold kQ;refine aj (λh0=>?_) (λh0=>?_)
 ·rw[if_pos h0];exact⟨rfl,trivial⟩
 rw[if_neg h0];refine aj (λh1=>?_) (λh1=>?_)
 ·rw[if_pos h1];exact⟨rfl,trivial⟩
 rw[if_neg h1];obtain⟨k,rfl⟩:∃k:Nat,n=(k:Int):=⟨n.toNat,by omega⟩
 rw[w64 (n:=(k:Int)-1) (by omega) (by omega),show(k:Int)-1=((k-1:Nat):Int)by omega,RW x k (by omega),ah,RW x (k-1) (by omega),ah,XP,ah];simp only[go_sem,Int.toNat_natCast];refine⟨?_,trivial⟩
 congr 1
 have D:(2:Int)^k=2*2^(k-1):=by
  obtain⟨j,rfl⟩:∃j,k=j+1:=⟨k-1,by omega⟩
  rw[Nat.add_sub_cancel,Int.pow_succ,Int.mul_comm]
 have A:(0:Int)<2^(k-1):=Int.pow_pos (by omega);have L:x/2^k=x/2^(k-1)/2:=by rw[D,Int.mul_comm,Int.ediv_ediv,if_neg (by omega),Int.sub_zero]
 obtain⟨I,U⟩:=F;have H: -9223372036854775808≤x/2^(k-1)∧x/2^(k-1)≤9223372036854775807:=by
  constructor
  ·rw[Int.le_ediv_iff_mul_le A];have: -9223372036854775808*(2:Int)^(k-1)≤ -9223372036854775808*1:=Int.mul_le_mul_of_nonpos_left (by omega) (by omega);omega
  ·apply Int.le_of_lt_add_one;rw[Int.ediv_lt_iff_lt_mul A];have:(9223372036854775807+1)*1≤(9223372036854775807+1)*(2:Int)^(k-1):=Int.mul_le_mul_of_nonneg_left (by omega) (by omega);omega
 rw[w64 (by omega) (by omega)]
end Go.Proofs.YtcoimlclclnlkaaGreatDoor
namespace Go.Proofs.YtcoimlclclnlkaaGreatDoor
open Go Go.Crisp
open _root_.Go.Proofs.Tryz
def Ks:Go.Shelf.Ren:=⟨λn=>match n with|264=>317|n=>n,λn=>match n with|46=>310|53=>291|n=>n,λn=>n⟩
theorem Tr:Go.Proofs.Lays.n264 prog Ks where
 mixed:=by kernel_rfl
 f264:=by kernel_rfl
 t46:=by kernel_rfl
 a46:=λw=>bO (by kernel_rfl)
 z46:=λw=>bh (by kernel_rfl)
 v46:=λw=>aT (by kernel_rfl)
 t53:=by kernel_rfl
 a53:=λw=>bO (by kernel_rfl)
 z53:=λw=>bh (by kernel_rfl)
 v53:=λw=>aT (by kernel_rfl)
def Kt:Go.Shelf.Ren:=⟨λn=>match n with|129=>242|n=>n,λn=>match n with|3=>3|4=>4|5=>5|9=>9|46=>310|53=>291|n=>n,λn=>n⟩
theorem Ts:Go.Proofs.Lays.n129 prog Kt where
 mixed:=by kernel_rfl
 f129:=by kernel_rfl
 t3:=by kernel_rfl
 a3:=λw=>bO (by kernel_rfl)
 z3:=λw=>bh (by kernel_rfl)
 v3:=λw=>aT (by kernel_rfl)
 t4:=by kernel_rfl
 a4:=λw=>bO (by kernel_rfl)
 z4:=λw=>bh (by kernel_rfl)
 v4:=λw=>aT (by kernel_rfl)
 t5:=by kernel_rfl
 a5:=λw=>bO (by kernel_rfl)
 z5:=λw=>bh (by kernel_rfl)
 v5:=λw=>aT (by kernel_rfl)
 t9:=by kernel_rfl
 a9:=λw=>bO (by kernel_rfl)
 z9:=λw=>bh (by kernel_rfl)
 v9:=λw=>aT (by kernel_rfl)
 t46:=by kernel_rfl
 a46:=λw=>bO (by kernel_rfl)
 z46:=λw=>bh (by kernel_rfl)
 v46:=λw=>aT (by kernel_rfl)
 t53:=by kernel_rfl
 a53:=λw=>bO (by kernel_rfl)
 z53:=λw=>bh (by kernel_rfl)
 v53:=λw=>aT (by kernel_rfl)
def Ku:Go.Shelf.Ren:=⟨λn=>match n with|25=>303|n=>n,λn=>match n with|22=>291|n=>n,λn=>n⟩
theorem Tt:Go.Proofs.Lays7.n25 prog Ku where
 mixed:=by kernel_rfl
 f25:=by kernel_rfl
 t22:=by kernel_rfl
 a22:=λw=>bO (by kernel_rfl)
 z22:=λw=>bh (by kernel_rfl)
 v22:=λw=>aT (by kernel_rfl)
 i22:=by kernel_rfl
end Go.Proofs.YtcoimlclclnlkaaGreatDoor
namespace Go.Proofs.YtcoimlclclnlkaaGreatDoor
open Go Go.Crisp
attribute [local irreducible] ae cF aP stK aA vK qK bD gK dE aS mkK cG Cn DS Ad bsK
open _root_.Go.Proofs.Tryz
theorem Cq {h:af}{x:Int}(A:I64 x):ae prog pJ #[.int .i64 x] h λr h'=>r=.int .u64 (x.natAbs:Int)∧h'=h:=by
 apply ML;unfold CQ;simp only[go_sem];refine aj (λh0=>?_) (λh0=>?_)
 ·rw[Og A h0];exact⟨rfl,trivial⟩
 ·rw[Of A h0];exact⟨rfl,trivial⟩
section
attribute [local semireducible] ae
theorem NJ {h:af}{x y:Nat}(D:x<18446744073709551616)(A:y<18446744073709551616):
  ae prog jr #[.int .u64 (x:Int),.int .u64 (y:Int)] h λr h'=>r=.tuple #[.int .u64 ((x*y/18446744073709551616:Nat):Int),.int .u64 ((x*y%18446744073709551616:Nat):Int)]∧h'=h:=by
 refine ae.ofCalls (by kernel_rfl) λw F=>?_
 refine(Any.bits_Mul64 Tr x y D A w).mono ?_;rintro e w' ⟨rfl,rfl⟩;exact⟨_,rfl,cW.refl _,rfl,F⟩
end
theorem Mf {h:af}{a b:Int}(A:I64 a)(D:I64 b):ae prog ma #[.int .i64 a,.int .i64 b] h λr h'=>
  r=.tuple #[.int .u64 ((a.natAbs*b.natAbs/18446744073709551616:Nat):Int),.int .u64 ((a.natAbs*b.natAbs%18446744073709551616:Nat):Int),.bool (jl a b)]∧h'=h:=by
 apply Gp;unfold xa;refine(Cq A).mono λU h1 ⟨G,w1⟩=>?_
 subst G w1;refine(Cq D).mono λW h2 ⟨H,I⟩=>?_
 subst H;refine(NJ (ib A) (ib D)).mono λv3 h3 ⟨F,L⟩=>?_
 subst F;simp only[go_sem];exact⟨rfl,L.trans I⟩
section
attribute [local semireducible] ae
theorem SJ {h:af}{x y c:Nat}(hc:c≤1):ae prog ft #[.int .u64 (x:Int),.int .u64 (y:Int),.int .u64 (c:Int)] h λr h'=>
  r=.tuple #[.int .u64 (((x+y+c)%18446744073709551616:Nat):Int),.int .u64 (((x+y+c)/18446744073709551616:Nat):Int)]∧h'=h:=
 ae.ofRun λw A=>⟨_,w,Any7.bits_Add64 Tt x y c hc w,cW.refl _,rfl,A⟩
theorem XH {h:af}{x:Nat}(D:x<18446744073709551616):ae prog tZ #[.int .u64 (x:Int)] h λr h'=>r=.int .i64 (Lib.bitLen x:Int)∧h'=h:=by
 refine ae.ofCalls (by kernel_rfl) λw A=>?_
 refine(Any.bits_Len64 Ts (x:Int) w (by omega) (by omega)).mono ?_;rintro e w' ⟨rfl,rfl⟩;exact⟨_,rfl,cW.refl _,rfl,A⟩
end
theorem Fm {h:af}{x:Nat}(A:x<18446744073709551616):ae prog ga #[.int .u64 (x:Int)] h λr h'=>r=.int .i64 (64-(Lib.bitLen x:Int))∧h'=h:=by
 apply qJ;unfold jf;refine(XH A).mono λv h1 ⟨D,w1⟩=>?_
 subst D;have:=Lib.bitLen_le x 64 (Nat.le_refl _) A;have this:Lib.bitLen x≤64:=this;simp only[go_sem];rw[w64 (by omega) (by omega)];exact⟨rfl,w1⟩
theorem zt {h:af}{m:Nat}{b:Bool}(A:m<340282366920938463463374607431768211456):
  ae prog du #[.int .u64 ((m/18446744073709551616:Nat):Int),.int .u64 ((m%18446744073709551616:Nat):Int),.bool b] h λr h'=>r=.int .i64 (iy m b)∧h'=h:=by
 apply HZ;unfold xN;unfold iy;cases b
 ·simp only[go_sem,Bool.false_eq_true,if_false];refine aj (λh0=>?_) (λh0=>?_)
  ·rw[if_pos (by omega)];exact⟨rfl,trivial⟩
  ·rw[if_neg (by omega),w64 (by omega) (by omega)];exact⟨by congr 1;omega,trivial⟩
 ·simp only[go_sem,if_true];refine aj (λh0=>?_) (λh0=>?_)
  ·rw[if_pos (by omega)];exact⟨rfl,trivial⟩
  ·have e:IntKind.i64.wrap (IntKind.u64.wrap (0-((m%18446744073709551616:Nat):Int)))= -((m%18446744073709551616:Nat):Int):=by
    rw[dG,gG];omega
   rw[e];refine⟨?_,trivial⟩
   congr 1
   split<;>omega
end Go.Proofs.YtcoimlclclnlkaaGreatDoor
namespace Go.Crisp
open Go
section
structure Km (u d Y yn1 yn0 q r:Nat):Prop where
 eq:q*yn1+r=u
 up:(u*4294967296+d)/Y≤q
section
variable {u d Y yn1 yn0 q r:Nat}(hY:Y=yn1*4294967296+yn0)(h0:yn0<4294967296)(h1:2147483648≤yn1)(h1':yn1<4294967296)(hu:u<Y)(hd:d<4294967296)
theorem LX (hY:Y=yn1*4294967296+yn0)(g:Km u d Y yn1 yn0 q r):q*Y+r*4294967296=u*4294967296+q*yn0:=by
 have:=g.eq;rw[hY,Nat.mul_add,←Nat.mul_assoc,←this,Nat.add_mul];omega
theorem JG (hu:u<Y)(hd:d<4294967296):(u*4294967296+d)/Y<4294967296:=by
 rw[Nat.div_lt_iff_lt_mul (by omega)];have:(u+1)*4294967296≤Y*4294967296:=Nat.mul_le_mul_right _ hu;rw[Nat.add_mul]at this;rw[Nat.mul_comm 4294967296 Y];omega
theorem Pk (hY:Y=yn1*4294967296+yn0)(h1:2147483648≤yn1)(hu:u<Y)(hd:d<4294967296):Km u d Y yn1 yn0 (u/yn1) (u-u/yn1*yn1):=by
 have A:u/yn1*yn1≤u:=Nat.div_mul_le_self u yn1;refine⟨by omega,?_⟩;rw[Nat.le_div_iff_mul_le (by omega)];have hq:(u*4294967296+d)/Y*Y≤u*4294967296+d:=Nat.div_mul_le_self _ _;generalize(u*4294967296+d)/Y=Q at hq;rw[hY,Nat.mul_add,←Nat.mul_assoc]at hq;generalize Q*yn1=a at hq ⊢;omega
theorem Cg (hY:Y=yn1*4294967296+yn0)(h1:2147483648≤yn1)(hu:u<Y)(hd:d<4294967296)(g:Km u d Y yn1 yn0 q r)(h:4294967296≤q∨4294967296*r+d<q*yn0):1≤q∧Km u d Y yn1 yn0 (q-1) (r+yn1):=by
 have A:=JG hu hd;have F:(u*4294967296+d)/Y<q:=by
  rcases h with h|h
  ·exact Nat.lt_of_lt_of_le A h
  ·rw[Nat.div_lt_iff_lt_mul (by omega)];have:=LX hY g
   clear hY A
   generalize q*Y=a at this ⊢;omega
 have D:1≤q:=Nat.lt_of_le_of_lt (Nat.zero_le _) F;refine⟨D,⟨?_,Nat.le_sub_one_of_lt F⟩⟩;have:=g.eq;obtain⟨k,rfl⟩:∃k,q=k+1:=⟨q-1,by omega⟩
 rw[Nat.add_mul]at this;rw[Nat.add_sub_cancel];omega
theorem Ju (hY:Y=yn1*4294967296+yn0)(h1:2147483648≤yn1)(g:Km u d Y yn1 yn0 q r)(h:q*yn0≤4294967296*r+d):q=(u*4294967296+d)/Y:=by
 have:=LX hY g;have A:=g.up;have:q≤(u*4294967296+d)/Y:=by
  rw[Nat.le_div_iff_mul_le (by omega)]
  clear hY A
  generalize q*Y=a at this ⊢;omega
 exact Nat.le_antisymm this A
theorem QZ (hY:Y=yn1*4294967296+yn0)(h0:yn0<4294967296)(h1:2147483648≤yn1)(hu:u<Y)(g:Km u d Y yn1 yn0 q r)(h:4294967296≤r):q=(u*4294967296+d)/Y:=by
 refine Ju hY h1 g ?_;have e:=g.eq;have hq:q<4294967296:=by
  rcases Nat.lt_or_ge q 4294967296 with A|A
  ·exact A
  ·have:4294967296*yn1≤q*yn1:=Nat.mul_le_mul_right _ A;omega
 have:q*yn0≤q*4294967296:=Nat.mul_le_mul_left _ (by omega);omega
theorem UU (h1:2147483648≤yn1)(hY:Y=yn1*4294967296+yn0)(h0:yn0<4294967296)(hu:u<Y):u/yn1<4294967298:=by
 rw[Nat.div_lt_iff_lt_mul (by omega)];omega
end
theorem Rh {M Y d0 q r:Nat}(hY:0<Y)(hq:M/Y=q)(A:M%Y=r):
  (M*4294967296+d0)/Y=q*4294967296+(r*4294967296+d0)/Y∧(M*4294967296+d0)%Y=(r*4294967296+d0)%Y:=by
 have h:=Nat.div_add_mod M Y;rw[hq,A]at h;have e:M*4294967296+d0=(r*4294967296+d0)+Y*(q*4294967296):=by
  rw[←h,Nat.add_mul,Nat.mul_assoc,Nat.add_assoc,Nat.add_comm]
 rw[e];exact⟨by rw[Nat.add_mul_div_left _ _ hY,Nat.add_comm],by rw[Nat.add_mul_mod_self_left]⟩
end
end Go.Crisp
namespace Go.Proofs.YtcoimlclclnlkaaGreatDoor
open Go Go.Crisp
attribute [local irreducible] ae cF aP stK aA vK qK bD gK dE aS mkK cG Cn DS Ad bsK
open _root_.Go.Proofs.Tryz
theorem kA {a n:Nat}(k':IntKind)(A:n≤64):ag .i .shr (.int .u64 (a:Int)) (.int k' (n:Int))=some (.int .u64 ((a/2^n:Nat):Int)):=by
 show(if(n:Int)<0 then none else some (Value.int .u64 ((a:Int).fdiv (2^(min (n:Int).toNat 64)))))=_;rw[if_neg (by omega),Int.toNat_natCast,Nat.min_eq_left A,Int.fdiv_eq_ediv_of_nonneg _ (Int.le_of_lt (Int.pow_pos (by omega)))];simp
theorem sX {a n:Nat}(k':IntKind)(A:n≤64):ag .i .shl (.int .u64 (a:Int)) (.int k' (n:Int))=some (.int .u64 ((a*2^n%18446744073709551616:Nat):Int)):=by
 show(if(n:Int)<0 then none else some (Value.int .u64 (IntKind.u64.wrap ((a:Int)*(2^(min (n:Int).toNat 64))))))=_;rw[if_neg (by omega),Int.toNat_natCast,Nat.min_eq_left A,dG];simp
theorem kz (a:Nat)(h:a<18446744073709551616):(BitVec.ofInt 64 (a:Int)).toNat=a:=by
 rw[BitVec.toNat_ofInt];simp only[Nat.reducePow];omega
theorem UH {a b:Nat}(A:a<18446744073709551616)(D:b<18446744073709551616):ag .i .or (.int .u64 (a:Int)) (.int .u64 (b:Int))=some (.int .u64 ((a|||b:Nat):Int)):=by
 show some (Value.int .u64 (IntKind.u64.wrap (((BitVec.ofInt 64 (a:Int)|||BitVec.ofInt 64 (b:Int)).toNat:Nat):Int)))=_;rw[BitVec.toNat_or,kz a A,kz b D,eO];exact Nat.or_lt_two_pow (n:=64) A D
theorem NN {a b:Nat}(A:a<18446744073709551616)(D:b<18446744073709551616):ag .i .and (.int .u64 (a:Int)) (.int .u64 (b:Int))=some (.int .u64 ((a&&& b:Nat):Int)):=by
 show some (Value.int .u64 (IntKind.u64.wrap (((BitVec.ofInt 64 (a:Int)&&& BitVec.ofInt 64 (b:Int)).toNat:Nat):Int)))=_;rw[BitVec.toNat_and,kz a A,kz b D,eO];exact Nat.lt_of_le_of_lt Nat.and_le_left A
theorem Kk {a:Nat}(A:a<18446744073709551616):ag .i .and (.int .u64 (a:Int)) (.int .u64 4294967295)=some (.int .u64 ((a%4294967296:Nat):Int)):=by
 rw[show(4294967295:Int)=((4294967295:Nat):Int)from rfl,NN A (by omega)];have:=Nat.and_two_pow_sub_one_eq_mod a 32;simp only[Nat.reducePow,Nat.reduceSub]at this;rw[this]
theorem P7 {a:Nat}(A:a<18446744073709551616):ag .i .and (.int .u64 (a:Int)) (.int .u64 1)=some (.int .u64 ((a%2:Nat):Int)):=by
 rw[show(1:Int)=((1:Nat):Int)from rfl,NN A (by omega),Nat.and_one_is_mod]
theorem OG {a b s:Nat}(A:b<2^s):a*2^s|||b=a*2^s+b:=by
 rw[Nat.mul_comm,Nat.two_pow_add_eq_or_of_lt A]
theorem cvu {n:Nat}(k:IntKind)(h:n<18446744073709551616):dY .u64 (.int k (n:Int))=some (.int .u64 (n:Int)):=by
 rw[zn,eO h]
theorem Ph {H a b c u:Nat}(h:H=a*18446744073709551616+u)(hu:u=b*4294967296+c):H=(a*4294967296+b)*4294967296+c:=by
 rw[h,hu,Nat.add_mul,Nat.mul_assoc];simp only[Nat.reduceMul,Nat.add_assoc]
theorem Jt {u d Y yn1 yn0:Nat}{h:af}(hY:Y=yn1*4294967296+yn0)(h0:yn0<4294967296)(h1:2147483648≤yn1)(h1':yn1<4294967296)(hu:u<Y)(hd:d<4294967296)
  {init:List Value} {body:List Value→Env→af→(List Value→af→Prop)→Prop} (P:Nat→Nat→List Value) (hi:init=P (u/yn1) (u-u/yn1*yn1))
  (step:∀q r again ρj,q<4294967298→r<4294967296→(∀L D,L=q-1→D=r+yn1→1≤q→(4294967296≤q∨4294967296*r+d<q*yn0)→D<4294967296→again (P L D) h)→
   ((4294967296≤q∨4294967296*r+d<q*yn0)→1≤q→4294967296≤r+yn1→q-1=(u*4294967296+d)/Y)→(¬(4294967296≤q∨4294967296*r+d<q*yn0)→q=(u*4294967296+d)/Y)→((4294967296≤q∨4294967296*r+d<q*yn0)→1≤q)→
   body (P q r) ρj h again):aS init h body:=by
 have I:=UU h1 hY h0 hu;refine cP (λm xs h'=>h'=h∧∃q r,m=q∧xs=P q r∧Km u d Y yn1 yn0 q r∧q<4294967298∧r<4294967296) (u/yn1) ⟨rfl,u/yn1,u-u/yn1*yn1,rfl,hi,Pk hY h1 hu hd,I,?_⟩ ?_
 ·have:=Nat.div_add_mod u yn1;have h2:=Nat.mod_lt u (show yn1>0 by omega);rw[Nat.mul_comm]at this;omega
 ·rintro m xs ρj h' again ⟨hh,q,r,G,rfl,g,hq,hr⟩ H;have G:=G.symm;subst hh G;refine step q r again ρj hq hr (λL D F W U hc A=>?_) (λhc U A=>?_) (λhc=>?_) λhc=>(Cg hY h1 hu hd g hc).1
  ·subst F W;refine H _ _ (q-1) (by omega) ⟨rfl,q-1,r+yn1,rfl,rfl,(Cg hY h1 hu hd g hc).2,by omega,A⟩
  ·exact QZ hY h0 h1 hu (Cg hY h1 hu hd g hc).2 A
  ·exact Ju hY h1 g (by omega)
theorem XK {h:af}{hi lo y:Nat}(b8:hi<y)(cb:lo<18446744073709551616)(hy:y<18446744073709551616):
  ae prog mB #[.int .u64 (hi:Int),.int .u64 (lo:Int),.int .u64 (y:Int)] h λr h'=>
   r=.tuple #[.int .u64 (((hi*18446744073709551616+lo)/y:Nat):Int),.int .u64 (((hi*18446744073709551616+lo)%y:Nat):Int)]∧h'=h:=by
 apply BZ;unfold rL;have q1:((y:Int)=0)=False:=eq_false (by omega);have q2:((y:Int)≤(hi:Int))=False:=eq_false (by omega);simp only[go_sem,q1,q2];refine aV (λxs h'=>h'=h) rfl λxs ρj h' e=>?_
 subst e;refine aV (λxs b5=>b5=h') rfl λxs ρj b5 e=>?_
 subst e;refine aj (λh0=>?_) (λh0=>?_)
 ·have h0:hi=0:=by omega
  subst h0;rw[GL (by omega) cb,ah,R0 (by omega),ah];exact⟨by simp,rfl⟩
 refine(Fm hy).mono λv1 h1 ⟨e1,w1⟩=>?_
 subst e1 w1;obtain⟨b0,b1,b2⟩:=Lib.bitLenAux_bounds 64 y hy (by omega);have b3:=Lib.bitLen_le y 64 (Nat.le_refl _) hy;have cu:Lib.bitLen y=Lib.bitLenAux 64 y:=rfl;rw[←cu]at b0 b1 b2;generalize hL:Lib.bitLen y=L at b0 b1 b2 b3;obtain⟨s,hs⟩:∃s,s=64-L:=⟨_,rfl⟩
 rw[show(64:Int)-(L:Int)=(s:Int)by omega,cvu _ (by omega),ah,sX _ (by omega),ah];have hp:(0:Nat)<2^s:=Nat.pow_pos (by omega);have cp:2^L*2^s=18446744073709551616:=by
  rw[←Nat.pow_add,show L+s=64 by omega]
 have ci:2^(L-1)*2^s=9223372036854775808:=by
  rw[←Nat.pow_add,show L-1+s=63 by omega]
 have bk:y*2^s<18446744073709551616:=by rw[←cp];exact Nat.mul_lt_mul_of_pos_right b2 hp
 have es:9223372036854775808≤y*2^s:=by rw[←ci];exact Nat.mul_le_mul_right _ b1
 have bc:hi*2^s<18446744073709551616:=Nat.lt_trans (Nat.mul_lt_mul_of_pos_right b8 hp) bk;rw[Nat.mod_eq_of_lt bk];have aw:lo/2^(64-s)<2^s:=by
  rw[Nat.div_lt_iff_lt_mul (Nat.pow_pos (by omega)),←Nat.pow_add,show s+(64-s)=64 by omega];exact cb
 have c4:(32:Int)=((32:Nat):Int):=rfl;rw[c4,kA _ (by omega),ah,Kk bk,ah,sX _ (by omega),ah,Nat.mod_eq_of_lt bc,fU,ah,
  wu64 (n:=64-(s:Int)) (by omega) (by omega),show(64:Int)-(s:Int)=((64-s:Nat):Int)by omega,kA _ (by omega),ah,
  UH bc (Nat.lt_of_lt_of_le aw (by rw[←cp];exact Nat.le_mul_of_pos_left _ (Nat.pow_pos (by omega)))),ah,OG aw,sX _ (by omega),ah]
 -- what is divided, shifted
 have ei:(hi*18446744073709551616+lo)*2^s<y*2^s*18446744073709551616:=by
  have:hi*18446744073709551616+lo<y*18446744073709551616:=by omega
  rw[Nat.mul_right_comm];exact Nat.mul_lt_mul_of_pos_right this hp
 have au:lo*2^s=lo/2^(64-s)*18446744073709551616+lo*2^s%18446744073709551616:=by
  have e:lo*2^s/18446744073709551616=lo/2^(64-s):=by
   rw[show(18446744073709551616:Nat)=2^(64-s)*2^s by rw[←Nat.pow_add,show 64-s+s=64 by omega]];exact Nat.mul_div_mul_right _ _ hp
  rw[←e,Nat.mul_comm _ 18446744073709551616];exact(Nat.div_add_mod _ _).symm
 have F:(hi*18446744073709551616+lo)*2^s=(hi*2^s+lo/2^(64-s))*18446744073709551616+lo*2^s%18446744073709551616:=by
  rw[Nat.add_mul,au,Nat.mul_right_comm,Nat.add_mul,Nat.add_assoc]
  congr 2
  rw[←au]
 have ay:(hi*18446744073709551616+lo)/y=(hi*18446744073709551616+lo)*2^s/(y*2^s):=(Nat.mul_div_mul_right _ _ hp).symm;have b7:(hi*18446744073709551616+lo)%y=(hi*18446744073709551616+lo)*2^s%(y*2^s)/2^s:=by
  rw[Nat.mul_mod_mul_right,Nat.mul_div_cancel _ hp]
 have aa:(hi*18446744073709551616+lo)/y<18446744073709551616:=by
  rw[Nat.div_lt_iff_lt_mul (by omega),Nat.mul_comm];have:(hi+1)*18446744073709551616≤y*18446744073709551616:=Nat.mul_le_mul_right _ b8;omega
 rw[ay,b7];rw[ay]at aa;generalize(hi*18446744073709551616+lo)*2^s=HS at*;generalize eb:hi*2^s+lo/2^(64-s)=A at*;have bg:lo*2^s%18446744073709551616<18446744073709551616:=Nat.mod_lt _ (by omega);generalize lo*2^s%18446744073709551616=U at*;generalize eh:y*2^s=Y at*
 clear au bc aw
 have hu:A<Y:=by omega
 have be:U/4294967296<4294967296:=by omega
 have bd:U%4294967296<4294967296:=by omega
 have bo:(2:Nat)^32=4294967296:=rfl;rw[kA _ (by omega),ah,Kk bg,ah,bo];have bv:Y=Y/4294967296*4294967296+Y%4294967296:=by omega
 have b4:2147483648≤Y/4294967296:=by omega
 have a7:Y/4294967296<4294967296:=by omega
 have b6:Y%4294967296<4294967296:=by omega
 have ca:s≤64:=by omega
 generalize ej:Y/4294967296=yn1 at*;generalize ek:Y%4294967296=yn0 at*;generalize ee:U/4294967296=H at*;generalize eg:U%4294967296=G at*;have cw:U=H*4294967296+G:=by omega
 rw[GL (by omega) (by omega),ah,ks,ah];have ec:A/yn1*yn1≤A:=Nat.div_mul_le_self _ _;rw[show((A/yn1:Nat):Int)*(yn1:Int)=((A/yn1*yn1:Nat):Int)from(Int.natCast_mul _ _).symm,eO (by omega),fU,ah,
  show(A:Int)-((A/yn1*yn1:Nat):Int)=((A-A/yn1*yn1:Nat):Int)by omega,eO (by omega)]
 have body:∀{u d q r:Nat} {X Y:Prop} (hq:q<4294967298) (hr:r<4294967296) (hd:d<4294967296),
   ((4294967296≤q∨4294967296*r+d<q*yn0)→X)→(¬(4294967296≤q∨4294967296*r+d<q*yn0)→Y)→
   vK (ag .i .geq (.int .u64 (q:Int)) (.int .u64 4294967296)) λI=>
    vK (gV I false (some (.int .u64 (q:Int)))) λdl=>vK (gV I false (some (.int .u64 (yn0:Int)))) λc7=>vK (gV I false (ag .i .mul dl c7)) λdz=>
    vK (gV I false (some (.int .u64 (r:Int)))) λc9=>vK (gV I false (ag .i .mul (.int .u64 4294967296) c9)) λea=>vK (gV I false (some (.int .u64 (d:Int)))) λdq=>
    vK (gV I false (ag .i .add ea dq)) λc2=>vK (gV I false (ag .i .gtr dz c2)) λc1=>vK (az I (.bool true) c1) λc0=>aA c0 X Y:=by
  intro u d q r X Y hq hr hd hX hY;simp only[go_sem];by_cases hc:4294967296≤q
  ·have e:((4294967296:Int)≤(q:Int))=True:=eq_true (by omega);simp only[go_sem,e];exact hX (.inl hc)
  ·have e:((4294967296:Int)≤(q:Int))=False:=eq_false (by omega);simp only[go_sem,e];have ep:q*yn0≤q*4294967296:=Nat.mul_le_mul_left _ (by omega);rw[show(q:Int)*(yn0:Int)=((q*yn0:Nat):Int)from(Int.natCast_mul _ _).symm,eO (m:=q*yn0) (by omega),
    show(4294967296:Int)*(r:Int)=((4294967296*r:Nat):Int)by omega,eO (m:=4294967296*r) (by omega),
    show((4294967296*r:Nat):Int)+(d:Int)=((4294967296*r+d:Nat):Int)by omega,eO (m:=4294967296*r+d) (by omega)]
   refine aj (λh0=>hX (.inr (by omega))) (λh0=>hY (by omega))
 refine aV (λxs h'=>xs=[.int .u64 (((A*4294967296+H)/Y:Nat):Int)]∧h'=h1) ?_ ?_
 ·refine Jt (d:=H) bv b6 b4 a7 hu be (λq r=>[.int .u64 (q:Int),.int .u64 (r:Int)]) rfl λq r again ρj hq hr g1 g2 g3 g4=>?_
  simp only[gJ,vy];refine body (u:=0) hq hr be (λhc=>?_) (λhc=>?_)
  ·have ar:=g4 hc;rw[fU,ah,show(q:Int)-1=((q-1:Nat):Int)by omega,eO (by omega),cO,ah,show(r:Int)+(yn1:Int)=((r+yn1:Nat):Int)by omega,eO (by omega)];rw[Ke,ah];refine aj (λh0=>⟨by rw[g2 hc ar (by omega)],trivial⟩) (λh0=>g1 _ _ rfl rfl ar hc (by omega))
  ·exact⟨by rw[g3 hc],trivial⟩
 rintro xs ρj h2 ⟨rfl,e2⟩;subst e2;simp only[gJ];have c8:=JG hu be;have cc:=Nat.div_add_mod (A*4294967296+H) Y;have W:(A*4294967296+H)%Y<Y:=Nat.mod_lt _ (by omega);have hD:=Rh (M:=A*4294967296+H) (Y:=Y) (d0:=G) (by omega) rfl rfl;obtain⟨ad,ax⟩:∃q,q=(A*4294967296+H)/Y:=⟨_,rfl⟩
 obtain⟨D,a9⟩:∃q,q=(A*4294967296+H)%Y:=⟨_,rfl⟩
 rw[←ax,←a9]at cc hD;rw[←a9]at W;rw[←ax]at c8 ⊢;have c6:IntKind.u64.wrap (IntKind.u64.wrap (IntKind.u64.wrap ((A:Int)*4294967296)+(H:Int))-IntKind.u64.wrap ((ad:Int)*(Y:Int)))=(D:Int):=by
  rw[show(ad:Int)*(Y:Int)=((Y*ad:Nat):Int)by rw[Nat.mul_comm];exact(Int.natCast_mul _ _).symm];rw[dG,dG,dG,dG]
  clear hD F
  generalize Y*ad=P at*;omega
 rw[ks,ah,cO,ah,ks,ah,fU,ah,c6];have er:D/yn1*yn1≤D:=Nat.div_mul_le_self _ _;rw[GL (by omega) (by omega),ah,ks,ah,show((D/yn1:Nat):Int)*(yn1:Int)=((D/yn1*yn1:Nat):Int)from(Int.natCast_mul _ _).symm,eO (by omega),fU,ah,
  show(D:Int)-((D/yn1*yn1:Nat):Int)=((D-D/yn1*yn1:Nat):Int)by omega,eO (by omega)]
 refine aV (λxs h'=>xs=[.int .u64 (((D*4294967296+G)/Y:Nat):Int)]∧h'=h2) ?_ ?_
 ·refine Jt (d:=G) bv b6 b4 a7 W bd (λq r=>[.int .u64 (r:Int),.int .u64 (q:Int)]) rfl λq r again ρj hq hr g1 g2 g3 g4=>?_
  simp only[gJ,vy];refine body (u:=0) hq hr bd (λhc=>?_) (λhc=>?_)
  ·have ar:=g4 hc;rw[fU,ah,show(q:Int)-1=((q-1:Nat):Int)by omega,eO (by omega),cO,ah,show(r:Int)+(yn1:Int)=((r+yn1:Nat):Int)by omega,eO (by omega)];rw[Ke,ah];refine aj (λh0=>⟨by rw[g2 hc ar (by omega)],trivial⟩) (λh0=>g1 _ _ rfl rfl ar hc (by omega))
  ·exact⟨by rw[g3 hc],trivial⟩
 rintro xs ρj h3 ⟨rfl,e3⟩;subst e3;simp only[gJ];have c3:=JG W bd;have a8:=Nat.div_add_mod (D*4294967296+G) Y;have cr:(D*4294967296+G)%Y<Y:=Nat.mod_lt _ (by omega);have bi:HS=(A*4294967296+H)*4294967296+G:=Ph F cw;rw[bi]at aa ⊢;rw[hD.1]at aa ⊢;rw[hD.2];obtain⟨ab,an⟩:∃q,q=(D*4294967296+G)/Y:=⟨_,rfl⟩
 obtain⟨rr,al⟩:∃q,q=(D*4294967296+G)%Y:=⟨_,rfl⟩
 rw[←an,←al]at a8;rw[←al]at cr;rw[←an]at c3 aa;rw[←an,←al];have ct:IntKind.u64.wrap (IntKind.u64.wrap (IntKind.u64.wrap ((D:Int)*4294967296)+(G:Int))-IntKind.u64.wrap ((ab:Int)*(Y:Int)))=(rr:Int):=by
  rw[show(ab:Int)*(Y:Int)=((Y*ab:Nat):Int)by rw[Nat.mul_comm];exact(Int.natCast_mul _ _).symm];rw[dG,dG,dG,dG]
  clear hD F bi
  generalize Y*ab=P at*;omega
 have rq:IntKind.u64.wrap (IntKind.u64.wrap ((ad:Int)*4294967296)+(ab:Int))=((ad*4294967296+ab:Nat):Int):=by
  rw[dG,dG]
  clear hD F bi cc a8
  omega
 rw[ks,ah,cO,ah,ks,ah,cO,ah,ks,ah,fU,ah,ct,rq,kA _ ca,ah];exact⟨rfl,trivial⟩
theorem LU {m n:Nat}{b:Bool}(D:9223372036854775808≤m)(A:9223372036854775808≤n):iy m b=iy n b:=by
 unfold iy;cases b
 ·simp only[Bool.false_eq_true,if_false];rw[if_pos (by omega),if_pos (by omega)]
 ·simp only[if_true];rw[if_pos (by omega),if_pos (by omega)]
theorem MH {a b:Int}(A:I64 a)(D:I64 b):a.natAbs*b.natAbs≤85070591730234615865843651857942052864:=by
 have h1:=ns A;have F:=ns D;exact Nat.le_trans (Nat.mul_le_mul h1 F) (by decide)
theorem JF {m n:Nat}(h:m≤85070591730234615865843651857942052864):m/n≤85070591730234615865843651857942052864:=Nat.le_trans (Nat.div_le_self _ _) h
theorem lV {h:af}{a b d:Int}(ha:I64 a)(hb:I64 b)(hd:I64 d):ae prog dw #[.int .i64 a,.int .i64 b,.int .i64 d] h λr h'=>r=.int .i64 (ch a b d)∧h'=h:=by
 apply Ia;unfold xO;simp only[go_sem];unfold ch;refine aj (λh0=>?_) (λh0=>?_)
 ·rw[if_pos h0];exact⟨rfl,trivial⟩
 rw[if_neg h0];have hm:=MH ha hb;refine(Mf ha hb).mono λv1 h1 ⟨e1,w1⟩=>?_
 subst e1 w1;simp only[go_sem];refine(Cq hd).mono λv2 G ⟨e2,w2⟩=>?_
 subst e2 w2;have aa:=ns hd;have A:0<d.natAbs:=by omega
 obtain⟨m,al⟩:∃m,m=a.natAbs*b.natAbs:=⟨_,rfl⟩
 obtain⟨bl,F⟩:∃bl,bl=(jl a b != decide (d<0)):=⟨_,rfl⟩
 obtain⟨D,hD⟩:∃D,D=d.natAbs:=⟨_,rfl⟩
 have I:(!(jl a b==decide (d<0)))=bl:=F.symm;rw[←al]at hm ⊢;rw[←F,I,←hD];rw[←hD]at A aa;have hq:m/D≤85070591730234615865843651857942052864:=JF hm;simp only[go_sem];refine aj (λh1=>?_) (λh1=>?_)
 ·have ax:18446744073709551616≤m/D:=by
   rw[Nat.le_div_iff_mul_le A];have G:D≤m/18446744073709551616:=by omega
   have:=(Nat.le_div_iff_mul_le (show 0<18446744073709551616 by omega)).1 G;rw[Nat.mul_comm];exact this
  refine(zt (m:=18446744073709551616) (b:=bl) (by omega)).mono λv h' ⟨e,w⟩=>⟨?_,w⟩
  rw[e,LU (by omega) (n:=tO m D bl)];unfold tO;omega
 ·have L:m/18446744073709551616<D:=by omega
  have aw:m/D<18446744073709551616:=by
   rw[Nat.div_lt_iff_lt_mul A,Nat.mul_comm];exact(Nat.div_lt_iff_lt_mul (by omega)).1 L
  refine(XK L (Nat.mod_lt _ (by omega)) (by omega)).mono λv G ⟨e,w⟩=>?_
  subst e w;have ar:m/18446744073709551616*18446744073709551616+m%18446744073709551616=m:=by
   rw[Nat.mul_comm];exact Nat.div_add_mod _ _
  rw[ar];simp only[go_sem];have hr:m%D<D:=Nat.mod_lt _ A;rw[show(D:Int)-((m%D:Nat):Int)=((D-m%D:Nat):Int)by omega,eO (m:=D-m%D) (by omega)];have fin:∀up:Nat,up≤1→tO m D bl=m/D+up→ae prog ft #[.int .u64 ((m/D:Nat):Int),.int .u64 (up:Int),.int .u64 0] G λH W=>
    vK (aF H 0) λab=>vK (aF H 1) λau=>ae prog du #[au,ab,.bool bl] W λad an=>ad=.int .i64 (iy (tO m D bl) bl)∧an=G:=by
   intro up ay hn;refine(SJ (x:=m/D) (y:=up) (c:=0) (by omega)).mono λv h3 ⟨e,w⟩=>?_
   subst e w;simp only[go_sem];refine(zt (m:=m/D+up+0) (b:=bl) (by omega)).mono λv h' ⟨e,w⟩=>⟨?_,w⟩
   rw[e,hn];rfl
  cases U:bl
  ·rw[U]at fin;simp only[go_sem];refine aj (λh3=>?_) (λh3=>?_)
   ·refine fin 1 (by omega) ?_;unfold tO;simp only[Bool.false_eq_true,if_false];rw[if_pos (by omega)]
   ·refine fin 0 (by omega) ?_;unfold tO;simp only[Bool.false_eq_true,if_false];rw[if_neg (by omega)]
  ·rw[U]at fin;simp only[go_sem];by_cases h3:D-m%D<m%D
   ·have e3:(((D-m%D:Nat):Int)<((m%D:Nat):Int))=True:=eq_true (by omega);simp only[go_sem,e3];refine fin 1 (by omega) ?_;unfold tO;simp only[if_true];rw[if_pos (by omega)]
   ·have e3:(((D-m%D:Nat):Int)<((m%D:Nat):Int))=False:=eq_false (by omega);simp only[go_sem,e3];refine fin 0 (by omega) ?_;unfold tO;simp only[if_true];rw[if_neg (by omega)]
theorem F9 {h:af}{m n:Nat}(hm:m<340282366920938463463374607431768211456)(hn:n<128):
  ae prog qT #[.int .u64 ((m/18446744073709551616:Nat):Int),.int .u64 ((m%18446744073709551616:Nat):Int),.int .i64 (n:Int)] h λr h'=>
   r=.tuple #[.int .u64 ((m/2^n/18446744073709551616:Nat):Int),.int .u64 ((m/2^n%18446744073709551616:Nat):Int)]∧h'=h:=by
 apply Kx;unfold AI;simp only[go_sem];have I:m/18446744073709551616<18446744073709551616:=by omega
 refine aj (λh0=>?_) (λh0=>?_)
 ·rw[w64 (n:=(n:Int)-64) (by omega) (by omega),show(n:Int)-64=((n-64:Nat):Int)by omega,kA _ (by omega),ah];refine⟨?_,trivial⟩;have e:m/2^n=m/18446744073709551616/2^(n-64):=by
   rw[Nat.div_div_eq_div_mul,show(18446744073709551616:Nat)=2^64 from rfl,←Nat.pow_add,show 64+(n-64)=n by omega]
  have H:m/18446744073709551616/2^(n-64)<18446744073709551616:=Nat.lt_of_le_of_lt (Nat.div_le_self _ _) I;rw[e,Nat.div_eq_of_lt H,Nat.mod_eq_of_lt H];rfl
 ·have W:n<64:=by omega
  rw[kA _ (by omega),ah,kA _ (by omega),ah];rw[w64 (n:=64-(n:Int)) (by omega) (by omega),show(64:Int)-(n:Int)=((64-n:Nat):Int)by omega,sX _ (by omega),ah];have F:m%18446744073709551616<18446744073709551616:=Nat.mod_lt _ (by omega);have h2:m%18446744073709551616/2^n<18446744073709551616:=Nat.lt_of_le_of_lt (Nat.div_le_self _ _) F;rw[UH h2 (Nat.mod_lt _ (by omega)),ah];refine⟨?_,trivial⟩;have U:(0:Nat)<2^n:=Nat.pow_pos (by omega);have A:(18446744073709551616:Nat)=2^n*2^(64-n):=by rw[←Nat.pow_add,show n+(64-n)=64 by omega]
  have D:m%18446744073709551616/2^n<2^(64-n):=by
   rw[Nat.div_lt_iff_lt_mul U,Nat.mul_comm,←A];exact F
  -- the low half of what is above
  have e1:m/2^n=m/18446744073709551616*2^(64-n)+m%18446744073709551616/2^n:=by
   have e:=Nat.div_add_mod m 18446744073709551616;have e2:m=m%18446744073709551616+2^n*(m/18446744073709551616*2^(64-n)):=by
    have:2^n*(m/18446744073709551616*2^(64-n))=18446744073709551616*(m/18446744073709551616):=by
     rw[A,Nat.mul_left_comm,Nat.mul_comm]
    rw[this];omega
   conv=>lhs;rw[e2]
   rw[Nat.add_mul_div_left _ _ U,Nat.add_comm]
  have e3:m/18446744073709551616*2^(64-n)%18446744073709551616=m/18446744073709551616%2^n*2^(64-n):=by
   have:(18446744073709551616:Nat)=2^n*2^(64-n):=A
   conv=>lhs;rhs;rw[this]
   exact Nat.mul_mod_mul_right _ _ _
  rw[e3,Nat.or_comm,OG D];generalize L:m/18446744073709551616=G at*;have e4:m/2^n/18446744073709551616=G/2^n:=by
   rw[Nat.div_div_eq_div_mul,Nat.mul_comm,←Nat.div_div_eq_div_mul,L]
  have e5:m/2^n%18446744073709551616=G%2^n*2^(64-n)+m%18446744073709551616/2^n:=by
   rw[e1];have hd:=Nat.div_add_mod G (2^n);have:G*2^(64-n)=G%2^n*2^(64-n)+18446744073709551616*(G/2^n):=by
    conv=>lhs;rw[←hd]
    rw[Nat.add_mul,Nat.add_comm,Nat.mul_right_comm,←A]
   rw[this,Nat.add_right_comm,Nat.add_mul_mod_self_left,Nat.mod_eq_of_lt];have h6:G%2^n+1≤2^n:=Nat.mod_lt _ U;have h7:(G%2^n+1)*2^(64-n)≤2^n*2^(64-n):=Nat.mul_le_mul_right _ h6;rw[←A,Nat.add_mul,Nat.one_mul]at h7;exact Nat.lt_of_lt_of_le (Nat.add_lt_add_left D _) h7
  rw[e4,e5]
theorem Xx {h:af}{m n:Nat}(H:m<340282366920938463463374607431768211456)(I:n<128):
  ae prog wC #[.int .u64 ((m/18446744073709551616:Nat):Int),.int .u64 ((m%18446744073709551616:Nat):Int),.int .i64 (n:Int)] h λr h'=>r=.bool (decide (m%2^n=0))∧h'=h:=by
 apply Ky;unfold AJ;simp only[go_sem];have D:∀(a k:Nat),k≤64→(a*2^(64-k)%18446744073709551616=0↔a%2^k=0):=by
  intro a k L;have A:(18446744073709551616:Nat)=2^k*2^(64-k):=by rw[←Nat.pow_add,show k+(64-k)=64 by omega]
  rw[A,Nat.mul_mod_mul_right];have:0<2^(64-k):=Nat.pow_pos (by omega);constructor
  ·intro h;rcases Nat.mul_eq_zero.1 h with h|h<;>omega
  ·intro h;rw[h,Nat.zero_mul]
 refine aj (λh0=>?_) (λh0=>?_)
 ·-- n ≥ 64
  have e:(2:Nat)^n=18446744073709551616*2^(n-64):=by rw[show(18446744073709551616:Nat)=2^64 from rfl,←Nat.pow_add,show 64+(n-64)=n by omega]
  have key:m%2^n=0↔m%18446744073709551616=0∧m/18446744073709551616%2^(n-64)=0:=by
   rw[e,Nat.mod_mul];constructor
   ·intro h;have h1:m%18446744073709551616=0:=by omega
    refine⟨h1,?_⟩;rw[h1,Nat.zero_add]at h;rcases Nat.mul_eq_zero.1 h with h|h
    ·omega
    ·exact h
   ·rintro⟨h1,G⟩;rw[h1,G]
  by_cases F:m%18446744073709551616=0
  ·have q:(((m%18446744073709551616:Nat):Int)=0)=True:=eq_true (by omega);simp only[go_sem,q];rw[w64 (n:=128-(n:Int)) (by omega) (by omega),show(128:Int)-(n:Int)=((64-(n-64):Nat):Int)by omega,sX _ (by omega),ah];simp only[go_sem];refine⟨?_,trivial⟩
   congr 1
   rw[decide_eq_decide];have:=D (m/18446744073709551616) (n-64) (by omega);constructor
   ·intro h;exact key.2 ⟨F,this.1 (by omega)⟩
   ·intro h;have:=this.2 (key.1 h).2;omega
  ·have q:(((m%18446744073709551616:Nat):Int)=0)=False:=eq_false (by omega);simp only[go_sem,q];refine⟨?_,trivial⟩
   congr 1
   rw[Eq.comm,decide_eq_false_iff_not];exact λh=>F (key.1 h).1
 ·rw[w64 (n:=64-(n:Int)) (by omega) (by omega),show(64:Int)-(n:Int)=((64-n:Nat):Int)by omega,sX _ (by omega),ah];simp only[go_sem];refine⟨?_,trivial⟩
  congr 1
  rw[decide_eq_decide];have:=D (m%18446744073709551616) n (by omega);have e:m%18446744073709551616%2^n=m%2^n:=by
   have A:(18446744073709551616:Nat)=2^n*2^(64-n):=by rw[←Nat.pow_add,show n+(64-n)=64 by omega]
   rw[A,Nat.mod_mul_right_mod]
  rw[e]at this;constructor
  ·intro h;exact this.1 (by omega)
  ·intro h;have:=this.2 h;omega
theorem RE {h:af} {a b n:Int} (ha:I64 a) (hb:I64 b) (hn:I64 n):ae prog pW #[.int .i64 a,.int .i64 b,.int .i64 n] h λr h'=>r=.int .i64 (nA a b n)∧h'=h:=by
  apply EI;unfold uQ;simp only[go_sem];have hm:=MH ha hb;unfold nA;refine aj (λh0=>?_) (λh0=>?_)
  · rw[if_pos (by omega)];exact⟨rfl,trivial⟩
  rw[if_neg (by omega)];have al:max 0 n=((n.toNat:Nat):Int):=by omega
  rw[al]at h0 ⊢;obtain⟨k,hk⟩:∃k,k=n.toNat:=⟨_,rfl⟩
  rw[←hk]at h0 ⊢;refine(Mf ha hb).mono λv1 h1 ⟨e1,w1⟩=>?_
  subst e1 w1;obtain⟨m,ab⟩:∃m,m=a.natAbs*b.natAbs:=⟨_,rfl⟩
  obtain⟨bl,an⟩:∃bl,bl=jl a b:=⟨_,rfl⟩
  rw[←ab]at hm ⊢;rw[←an];simp only[go_sem];unfold Hb;refine aj (λh1=>?_) (λh1=>?_)
  · rw[if_pos (by omega)]
    exact zt (by omega)
  rw[if_neg (by omega)];refine(F9 (m:=m) (n:=k) (by omega) (by omega)).mono λv h2 ⟨e,w⟩=>?_
  subst e w;simp only[go_sem];rw[w64 (n:=(k:Int)-1) (by omega) (by omega),show(k:Int)-1=((k-1:Nat):Int)by omega];refine(F9 (m:=m) (n:=k-1) (by omega) (by omega)).mono λv U ⟨e,w⟩=>?_
  subst e w;simp only[go_sem];have au:m/2^k≤85070591730234615865843651857942052864:=JF hm;rw[P7 (Nat.mod_lt _ (by omega)),ah,show m/2^(k-1)%18446744073709551616%2=m/2^(k-1)%2 by omega];have D:ae prog du #[.int .u64 ((m/2^k/18446744073709551616:Nat):Int),.int .u64 ((m/2^k%18446744073709551616:Nat):Int),.bool bl] U λF G=>F=.int .i64 (iy (m/2^k+0) bl)∧G=U:=zt (by omega)
  have A:ae prog ft #[.int .u64 ((m/2^k%18446744073709551616:Nat):Int),.int .u64 1,.int .u64 0] U λI W=>
        vK (aF I 0) λaa=>vK (aF I 1) λar=>vK (ag .i .add (.int .u64 ((m/2^k/18446744073709551616:Nat):Int)) ar) λad=>
        ae prog du #[ad,aa,.bool bl] W λF G=>F=.int .i64 (iy (m/2^k+1) bl)∧G=U:=by
    refine(SJ (x:=m/2^k%18446744073709551616) (y:=1) (c:=0) (by omega)).mono λv h4 ⟨e,w⟩=>?_
    subst e w;simp only[go_sem];generalize m/2^k=M at*;have e1:(M%18446744073709551616+1+0)%18446744073709551616=(M+1)%18446744073709551616:=by omega
    have e2:((M/18446744073709551616:Nat):Int)+(((M%18446744073709551616+1+0)/18446744073709551616:Nat):Int)=(((M+1)/18446744073709551616:Nat):Int):=by omega
    rw[e1,e2,eO (by omega)];exact zt (by omega)
  by_cases hh:m/2^(k-1)%2=0
  · have q:(((m/2^(k-1)%2:Nat):Int)=0)=True:=eq_true (by omega)
    simp only[go_sem,q];rw[if_neg (λh=>by omega)];exact D
  · have q:(((m/2^(k-1)%2:Nat):Int)=0)=False:=eq_false (by omega)
    simp only[go_sem,q];have H:m/2^(k-1)%2=1:=by omega
    cases L:bl
    · rw[L]at A
      simp only[go_sem];rw[if_pos ⟨H,by simp⟩];exact A
    · rw[L]at D A
      simp only[go_sem];rw[w64 (n:=(k:Int)-1) (by omega) (by omega),show(k:Int)-1=((k-1:Nat):Int)by omega];refine(Xx (m:=m) (n:=k-1) (by omega) (by omega)).mono λv h4 ⟨e,w⟩=>?_
      subst e w
      try simp only[go_sem]
      refine aj (λh5=>?_) (λh5=>?_)
      · rw[if_neg (λh=>h.2 ⟨trivial,h5⟩)]
        exact D
      · rw[if_pos ⟨H,λh=>h5 h.2⟩]
        exact A
theorem RX {a:Int}{n:Nat}(k':IntKind)(A:n≤64):ag .i .shl (.int .i64 a) (.int k' (n:Int))=some (.int .i64 (IntKind.i64.wrap (a*2^n))):=by
 show(if(n:Int)<0 then none else some (Value.int .i64 (IntKind.i64.wrap (a*(2^(min (n:Int).toNat 64))))))=_;rw[if_neg (by omega),Int.toNat_natCast,Nat.min_eq_left A]
theorem Up {a:Int}(k':IntKind):ag .i .shl (.int .i64 a) (.int k' 40)=some (.int .i64 (IntKind.i64.wrap (a*1099511627776))):=RX (n:=40) k' (by omega)
theorem Yd {a:Int}(k':IntKind):ag .i .shl (.int .i64 a) (.int k' 31)=some (.int .i64 (IntKind.i64.wrap (a*2147483648))):=RX (n:=31) k' (by omega)
theorem VS {h:af}{a b:Int}(D:I64 a)(I:I64 b)(h0:0<b):ae prog pP #[.int .i64 a,.int .i64 b] h λr h'=>r=.int .i64 (a%b)∧h'=h:=by
 apply Ni;unfold Dm;have H:(b=0)=False:=eq_false (by omega);have U:(b= -1)=False:=eq_false (by omega);have G:(b<0)=False:=eq_false (by omega);simp only[go_sem,H,U];rw[cV _ _ _ _ (by omega),ah];simp only[go_sem,G];have e:= @Int.emod_eq_tmod a b;have W:=Int.emod_nonneg a (show b≠0 by omega);have L:=Int.emod_lt_of_pos a h0;unfold I64 at D I;by_cases hc:a.tmod b=0
 ·simp only[go_sem,hc];refine⟨?_,trivial⟩;rw[hc]at e;split at e
  ·rw[e];rfl
  ·rename_i F;exact absurd (Or.inr (Int.dvd_of_tmod_eq_zero hc)) F
 ·simp only[go_sem,hc];by_cases A:a.tmod b<0
  ·simp only[go_sem,A];split at e
   ·omega
   ·rw[w64 (by omega) (by omega)];refine⟨?_,trivial⟩
    congr 1;omega
  ·simp only[go_sem,A];refine⟨?_,trivial⟩
   congr 1
   split at e<;>omega
theorem SH {h:af}{x l u:Int}:ae prog oF #[.int .i64 x,.int .i64 l,.int .i64 u] h λr h'=>r=.int .i64 (max l (min x u))∧h'=h:=by
 apply IL;unfold yz;simp only[go_sem];exact⟨by simp,by simp⟩
theorem JX {h:af}{a b:Int}(A:I64 a)(D:I64 b):ae prog ub #[.int .i64 a,.int .i64 b] h λr h'=>r=.int .i64 (AE a b)∧h'=h:=by
 apply Nj;unfold Dn;simp only[go_sem,gG];unfold AE I64 at*;refine aj (λh0=>?_) (λh0=>?_)
 ·exact⟨by congr 1;omega,trivial⟩
 refine aj (λh1=>?_) (λh1=>?_)
 ·exact⟨by congr 1;omega,trivial⟩
 ·exact⟨by congr 1;omega,trivial⟩
theorem RC {h:af}{a b:Int}(A:I64 a)(D:I64 b):ae prog zV #[.int .i64 a,.int .i64 b] h λr h'=>r=.int .i64 (WL a b)∧h'=h:=by
 apply Nh;unfold Dl;refine(lk A).mono λU h1 ⟨G,w1⟩=>?_
 subst G w1;refine(lk D).mono λv2 h2 ⟨H,I⟩=>?_
 subst H I;refine(NJ (ib A) (ib D)).mono λv3 h3 ⟨F,L⟩=>?_
 subst F L;simp only[go_sem];unfold WL;have W:=MH A D;generalize a.natAbs*b.natAbs=m at*;refine aj (λh0=>?_) (λh0=>?_)
 ·refine(pI (m:=18446744073709551615) (b:=jl a b) (by omega)).mono λv h' ⟨e,w⟩=>⟨?_,w⟩
  rw[e,LU (n:=m) (by omega) (by omega)]
 ·rw[show m%18446744073709551616=m by omega];exact pI (by omega)
theorem c_Exp {h:af}{t:Int}(I:I64 t):ae prog CG #[.int .i64 t] h λr h'=>r=.int .i64 (TC t)∧h'=h:=by
 apply OX;unfold FL;simp only[go_sem];unfold TC;have A:0≤max 0 t∧max 0 t≤9223372036854775807:=by unfold I64 at I;omega
 generalize max 0 t=T at*;rw[kr _ _ _ _ (by omega),ah,cV _ _ _ _ (by omega),ah,Int.tdiv_eq_ediv_of_nonneg A.1,Int.tmod_eq_emod_of_nonneg A.1,w64 (by omega) (by omega)];have hr:0≤T%762123384786∧T%762123384786<762123384786:=by omega
 generalize D:T%762123384786=r at*;refine iH (λi=>[.int .i64 (dW r i).1,.int .i64 (dW r i).2,.int .i64 (i:Int)]) 16 0 rfl (by omega) λi again ρj _ hi H=>?_
 simp only[go_sem];obtain⟨U,G⟩:=zi r i;refine aj (λh0=>?_) (λh0=>?_)
 ·have H:=H (by omega);simp only[dW]at H;rw[w64 (n:=(i:Int)+1) (by omega) (by omega),Up,ah,w64 (by omega) (by omega)];refine(lV G (by unfold I64;omega) (by unfold I64;omega)).mono λW h1 ⟨F,w1⟩=>?_
  subst F w1;rw[cV _ _ _ _ (by omega),ah,Int.tmod_eq_emod_of_nonneg (by omega)];simp only[go_sem];refine aj (λL=>?_) (λL=>?_)
  ·rw[if_pos (by omega)]at H;rw[show((i+1:Nat):Int)=(i:Int)+1 by omega]at H;exact H
  ·rw[if_neg (by omega)]at H;rw[show((i+1:Nat):Int)=(i:Int)+1 by omega]at H;exact H
 ·have:i=16:=by omega
  subst this;exact GT U (by unfold I64;omega)
theorem XD {h:af}{d s:Int}(hd:I64 d)(A:I64 s):ae prog wW #[.int .i64 d,.int .i64 s] h λr h'=>r=.int .i64 (BG d s)∧h'=h:=by
 apply K7;unfold Bi;simp only[go_sem];unfold BG;refine aj (λh0=>?_) (λh0=>?_)
 ·rw[if_pos (by omega)];exact⟨rfl,trivial⟩
 ·rw[if_neg (by omega),Yd,ah];have h1:=Lq (d:=d) (B:=16384) (by omega) (by omega);have D:=Lq (d:=s) (B:=4194304) (by omega) (by omega);rw[w64 (n:=d*d) (by omega) (by omega),w64 (n:=d*d*2147483648) (by omega) (by omega),w64 (n:=s*s) (by omega) (by omega)];exact lV (by unfold I64;omega) (by unfold I64;omega) (by unfold I64;omega)
theorem XI {h:af}{d s:Int}(hd:I64 d)(D:I64 s):ae prog wY #[.int .i64 d,.int .i64 s] h λr h'=>r=.int .i64 (zc d s)∧h'=h:=by
 apply K8;unfold Bk;refine(XD hd D).mono λF h1 ⟨A,w1⟩=>?_
 subst A w1;refine(c_Exp (HN _ _)).mono λF h1 ⟨A,w1⟩=>?_
 subst A w1;exact GT (JA _) (by unfold I64;omega)
theorem Cs {h:af}{p:Int}(A:I64 p)(h0:p≠ -9223372036854775808):ae prog tS #[.int .i64 p] h λr h'=>r=.int .i64 (max p (-p))∧h'=h:=by
 apply MQ;unfold CV;unfold I64 at A;simp only[go_sem];rw[w64 (by omega) (by omega)];exact⟨by rw[Int.zero_sub],trivial⟩
theorem c_May {h:af}{p q:Int}(A:I64 p)(hq:I64 q):ae prog Cz #[.int .i64 p,.int .i64 q] h λr h'=>r=.bool (decide (GG p q))∧h'=h:=by
 apply OJ;unfold Fz;simp only[go_sem];refine⟨?_,trivial⟩
 congr 1
 rw[decide_eq_decide];unfold GG I64 at*;by_cases h1:1≤q∧q≤1048576
 ·rw[w64 (n:= -4*q) (by omega) (by omega),w64 (n:=4*q) (by omega) (by omega)];omega
 ·omega
theorem NY (x:Int):2*x*(2*x+1)=4*(x*x)+2*x:=by
 have e:2*x*(2*x)=4*(x*x):=by rw[Int.mul_assoc 2 x (2*x),Int.mul_left_comm x 2 x];omega
 rw[Int.mul_add,Int.mul_one,e]
theorem PF {h:af}{p q:Int}(L:I64 p)(h0:p≠ -9223372036854775808)(hq:I64 q):ae prog nZ #[.int .i64 p,.int .i64 q] h λr h'=>r=.int .i64 (vU p q)∧h'=h:=by
 apply Ib;unfold xP;unfold vU;refine(Cs L h0).mono λF h1 ⟨A,w1⟩=>?_
 subst A w1;have G:I64 (max p (-p)):=by unfold I64 at*;omega
 refine(lV (by unfold I64;omega) G hq).mono λF h1 ⟨A,w1⟩=>?_
 subst A w1;refine(lV (eW _ _ _) G hq).mono λF h1 ⟨A,w1⟩=>?_
 subst A w1;have hu:=eW (ch 10851744800547 (max p (-p)) q) (max p (-p)) q;generalize ch (ch 10851744800547 (max p (-p)) q) (max p (-p)) q=u at*;refine iH (λi=>[.int .i64 (bT u i).1,.int .i64 (bT u i).2,.int .i64 (if i%2=0 then 1 else-1),.int .i64 ((i:Int)+1)]) 30 0 rfl (by omega) λi again ρj _ hi H=>?_
 simp only[go_sem];obtain⟨s1,I⟩:=vT u i;refine aj (λh0=>?_) (λh0=>?_)
 ·have H:=H (by omega);simp only[bT]at H;have U:=Lq (d:=(i:Int)+1) (B:=30) (by omega) (by omega);have W:=NY ((i:Int)+1);rw[w64 (n:=2*((i:Int)+1)) (by omega) (by omega),w64 (n:=2*((i:Int)+1)+1) (by omega) (by omega),w64 (n:=2*((i:Int)+1)*(2*((i:Int)+1)+1)) (by omega) (by omega),Up,ah,w64 (by omega) (by omega)];refine(lV I hu (by unfold I64;omega)).mono λF h1 ⟨A,w1⟩=>?_
  subst A w1;rw[w64 (n:=(i:Int)+1+1) (by omega) (by omega)];have ht:=eW (bT u i).2 u (2*((i:Int)+1)*(2*((i:Int)+1)+1)*1099511627776);simp only[go_sem];by_cases D:i%2=0
  ·rw[if_pos D,if_neg (by omega)]at H;rw[if_pos D];have A:IntKind.i64.wrap ((bT u i).1+IntKind.i64.wrap (IntKind.i64.wrap (0-1)*ch (bT u i).2 u (2*((i:Int)+1)*(2*((i:Int)+1)+1)*1099511627776)))=IntKind.i64.wrap ((bT u i).1-ch (bT u i).2 u (2*((i:Int)+1)*(2*((i:Int)+1)+1)*1099511627776)):=by
    rw[mY,w64 (n:=0-1) (by omega) (by omega)];congr 1;omega
   rw[A];exact H
  ·rw[if_neg D,if_pos (by omega)]at H;rw[if_neg D];have A:IntKind.i64.wrap ((bT u i).1+IntKind.i64.wrap (IntKind.i64.wrap (0- -1)*ch (bT u i).2 u (2*((i:Int)+1)*(2*((i:Int)+1)+1)*1099511627776)))=IntKind.i64.wrap ((bT u i).1+ch (bT u i).2 u (2*((i:Int)+1)*(2*((i:Int)+1)+1)*1099511627776)):=by
    rw[mY,w64 (n:=0- -1) (by omega) (by omega)];congr 1;omega
   rw[A];exact H
 ·have:i=30:=by omega
  subst this;exact⟨rfl,trivial⟩
theorem T5 {h:af}{p q:Int}(F:I64 p)(hq:I64 q):ae prog sC #[.int .i64 p,.int .i64 q] h λr h'=>r=.int .i64 (rW p q)∧h'=h:=by
 apply Gs;unfold xd;unfold rW;refine(c_May F hq).mono λG h1 ⟨A,w1⟩=>?_
 subst A w1;by_cases D:GG p q
 ·have H:=D;unfold GG at H;by_cases h0:3*q≤max p (-p)
  ·rw[if_pos (.inr h0)];simp only[go_sem,D];refine(Cs F (by omega)).mono λG h1 ⟨A,w1⟩=>?_
   subst A w1;rw[w64 (n:=3*q) (by omega) (by omega)];simp only[go_sem,h0];exact⟨by simp,by simp⟩
  ·rw[if_neg (by rintro(I|I);exact I D;omega)];simp only[go_sem,D];refine(Cs F (by omega)).mono λG h1 ⟨A,w1⟩=>?_
   subst A w1;rw[w64 (n:=3*q) (by omega) (by omega)];simp only[go_sem,h0];refine(PF F (by omega) hq).mono λG h1 ⟨A,w1⟩=>?_
   subst A w1;refine(PF F (by omega) (by unfold I64;omega)).mono λG h1 ⟨A,w1⟩=>?_
   subst A w1;refine(RE (tJ _ _) (tJ _ _) (by unfold I64;omega)).mono λG h1 ⟨A,w1⟩=>?_
   subst A w1;exact GT (uk _ _ _) (by unfold I64;omega)
 ·rw[if_pos (.inl D)];simp only[go_sem,D];exact⟨by simp,by simp⟩
end Go.Proofs.YtcoimlclclnlkaaGreatDoor
namespace Go.Crisp
open Go
theorem vM (a b:Int):IntKind.i64.wrap (IntKind.i64.wrap a*b)=IntKind.i64.wrap (a*b):=by
 obtain⟨k,A⟩:∃k,IntKind.i64.wrap a=a+18446744073709551616*k:=⟨(IntKind.i64.wrap a-a)/18446744073709551616,by rw[gG];omega⟩
 rw[A,Int.add_mul,Int.mul_assoc,gG,gG];generalize k*b=c;omega
theorem vL (a b:Int):IntKind.i64.wrap (a*IntKind.i64.wrap b)=IntKind.i64.wrap (a*b):=by
 rw[Int.mul_comm,vM,Int.mul_comm]
theorem nF {a b:Int}(W:I64 a)(hb:0<b):Fg a b=a/b:=by
 unfold Fg Cl jl iy;rw[if_neg (by omega)];unfold I64 at W;have U:(b<0)=False:=eq_false (by omega);simp only[U,decide_false];obtain⟨B,rfl⟩:∃B:Nat,b=(B:Int):=⟨b.toNat,by omega⟩
 simp only[Int.natAbs_natCast];by_cases h:a<0
 ·simp only[h,decide_true];obtain⟨A,rfl⟩:∃A:Nat,a= -(A:Int):=⟨(-a).toNat,by omega⟩
  have e2:(-(A:Int)).natAbs=A:=by omega
  rw[e2];have L:0<B:=by omega
  have hd:=Nat.div_add_mod A B;have hm:=Nat.mod_lt A L;have F:A/B≤A:=Nat.div_le_self _ _;simp only[Bool.not_eq_true',beq_eq_false_iff_ne,ne_eq,Bool.true_eq_false,not_false_eq_true,true_and,if_true];by_cases I:A%B=0
  ·rw[if_neg (show¬ ¬A%B=0 from λh=>h I),Nat.add_zero];have D: -(A:Int)=(B:Int)* -((A/B:Nat):Int):=by
    have:(A:Int)=(B:Int)*((A/B:Nat):Int):=by exact_mod_cast (by omega:A=B*(A/B))
    rw[Int.mul_neg,←this]
   rw[D,Int.mul_ediv_cancel_left _ (by omega)];split<;>omega
  ·rw[if_pos I];have G:2≤B:=by omega
   have h2:=Nat.mul_le_mul_right (A/B) G;have D: -(A:Int)=((B:Int)-((A%B:Nat):Int))+(B:Int)* -((A/B+1:Nat):Int):=by
    have h3:(A:Int)=(B:Int)*((A/B:Nat):Int)+((A%B:Nat):Int):=by exact_mod_cast hd.symm
    rw[Int.mul_neg,show((A/B+1:Nat):Int)=((A/B:Nat):Int)+1 from rfl,Int.mul_add,Int.mul_one];omega
   rw[D,Int.add_mul_ediv_left _ _ (by omega),Int.ediv_eq_zero_of_lt (by omega) (by omega)];split<;>omega
 ·simp only[h,decide_false];obtain⟨A,rfl⟩:∃A:Nat,a=(A:Int):=⟨a.toNat,by omega⟩
  simp only[Int.natAbs_natCast];have H:(!(false==false))=false:=rfl;rw[H];simp only[Bool.false_eq_true,false_and,if_false,Nat.add_zero];have F:A/B≤A:=Nat.div_le_self _ _;rw[if_neg (by omega)];rfl
def sS (f n m i:Int):Prop:=0≤f∧f<3∧1≤n∧n≤65536∧1≤m∧m≤65536∧0≤i∧i<m
instance (f n m i:Int):Decidable (sS f n m i):=by unfold sS;infer_instance
def JH (a b:Int):Int:= -(-a/b)
def ck (f:Int):Int:=if f=0 then 0 else if f=1 then 2 else 3
def nB (f n m i:Int):Int:=if f=0 then i*n/m else((2*i+1)*n-m-ck f*2*max n m)/(2*m)+1
def lg (f n m i:Int):Int:=if f=0 then JH ((i+1)*n) m else JH ((2*i+1)*n-m+ck f*2*max n m) (2*m)
def Ri (p q:Int):Int:=if p≥q then 4*(q*q*q)+5*(p*p*q)-p*p*p-8*(p*q*q)else 3*(p*p*p)-5*(p*p*q)+2*(q*q*q)
def D4 (p q:Int):Int:=if q<1∨262144<q∨2*q≤p∨p≤ -2*q then 0 else ch (IntKind.i64.wrap (Ri (max p (-p)) q)) 1073741824 (IntKind.i64.wrap (2*(q*q*q)))
theorem Tx (p q:Int):I64 (D4 p q):=by
 unfold D4;split
 ·unfold I64;omega
 ·exact eW _ _ _
def vQ (f n m i j:Int):Int:=
 if f=0 then ch (min ((i+1)*n) ((j+1)*m)-max (i*n) (j*m)) 1073741824 n
 else if f=1 then D4 (2*m*j-(2*i+1)*n+m) (2*max n m)
 else rW (2*m*j-(2*i+1)*n+m) (2*max n m)
theorem Qf (f n m i j:Int):I64 (vQ f n m i j):=by
 unfold vQ;split
 ·exact eW _ _ _
 split
 ·exact Tx _ _
 ·exact Nq _ _
def BE (f n m i:Int):List Int:=(List.range (lg f n m i-nB f n m i).toNat).map λk:Nat=>vQ f n m i (nB f n m i+k)
theorem kT {a A b B:Int}(h0:0≤a)(h1:a≤A)(D:0≤b)(F:b≤B):0≤a*b∧a*b≤A*B:=
 ⟨Int.mul_nonneg h0 D,Int.mul_le_mul h1 F D (by omega)⟩
theorem GM {a A b B:Int}(h0: -A≤a)(h1:a≤A)(F:0≤b)(G:b≤B): -(A*B)≤a*b∧a*b≤A*B:=by
 have D:0≤A:=by omega
 rcases Int.le_total 0 a with h|h
 ·have:=kT h h1 F G;have H:0≤A*B:=Int.mul_nonneg D (by omega);omega
 ·have:=kT (a:= -a) (A:=A) (by omega) (by omega) F G;rw[Int.neg_mul]at this;have H:0≤A*B:=Int.mul_nonneg D (by omega);omega
theorem pG {a b L U:Int}(A:1≤b)(h1: -L≤a)(F:a≤U)(hL:0≤L)(D:0≤U): -L≤a/b∧a/b≤U:=by
 constructor
 ·rw[Int.le_ediv_iff_mul_le (by omega)];have: -L*b≤ -L*1:=Int.mul_le_mul_of_nonpos_left (by omega) A;omega
 ·apply Int.le_of_lt_add_one;rw[Int.ediv_lt_iff_lt_mul (by omega)];have:(U+1)*1≤(U+1)*b:=Int.mul_le_mul_of_nonneg_left A (by omega);omega
structure MayB (f n m i:Int):Prop where
 inb:0≤i*n∧i*n≤4294967296
 in1:(i+1)*n=i*n+n
 tin:(2*i+1)*n=2*(i*n)+n
 rr:ck f*2*max n m=2*(ck f*max n m)
 rb:0≤ck f*max n m∧ck f*max n m≤196608
theorem QP {f n m i:Int}(h:sS f n m i):MayB f n m i:=by
 obtain⟨f0,f1,H,L,I,m1,G,F⟩:=h;have:=kT (a:=i) (A:=65536) (b:=n) (B:=65536) (by omega) (by omega) (by omega) (by omega);have D:0≤ck f∧ck f≤3:=by unfold ck;split;omega;split<;>omega
 have:=kT (a:=ck f) (A:=3) (b:=max n m) (B:=65536) D.1 D.2 (by omega) (by omega);exact⟨by omega,by rw[Int.add_mul,Int.one_mul],by rw[Int.add_mul,Int.one_mul,Int.mul_assoc],by rw[Int.mul_right_comm,Int.mul_comm],by omega⟩
theorem Jd {f n m i:Int}(h:sS f n m i): -1048576*65536≤nB f n m i∧nB f n m i≤1048576*65536∧ -1048576*65536≤lg f n m i∧lg f n m i≤1048576*65536:=by
 have D:=QP h;obtain⟨b1,b2,A,G,I⟩:=D;obtain⟨f0,f1,n0,n1,H,m1,i0,W⟩:=h;unfold nB lg JH;split
 ·have h1:=pG (a:=i*n) (b:=m) (L:=0) (U:=4294967296) (by omega) (by omega) (by omega) (by omega) (by omega);have F:=pG (a:= -((i+1)*n)) (b:=m) (L:=4295032832) (U:=0) (by omega) (by omega) (by omega) (by omega) (by omega);omega
 ·rw[A,G];have h1:=pG (a:=2*(i*n)+n-m-2*(ck f*max n m)) (b:=2*m) (L:=8591000000) (U:=8591000000) (by omega) (by omega) (by omega) (by omega) (by omega);have F:=pG (a:= -(2*(i*n)+n-m+2*(ck f*max n m))) (b:=2*m) (L:=8591000000) (U:=8591000000) (by omega) (by omega) (by omega) (by omega) (by omega);omega
def New {α:Type}(e:Rp α)(h h':af)(v:Value)(l:List α):Prop:=Rp.Ow e (λ_=>False) h' v l∧Ext h h'∧∀b,blk v b→h.size≤b
theorem New.nil {α:Type}{e:Rp α}{h h':af}(k:Ext h h'):New e h h' (.slice none 0 0) []:=⟨Rp.Ow.nil,k,λb A=>A.elim⟩
theorem New.ext {α:Type}{e:Rp α}{h h' A:af}{v:Value}{l:List α}(H:New e h h' v l)(k:Ext h' A):New e h A v l:=⟨H.1.ext k,H.2.1.trans k,H.2.2⟩
theorem New.before {α:Type}{e:Rp α}{h0 h h':af}{v:Value}{l:List α}(H:New e h h' v l)(k:Ext h0 h):New e h0 h' v l:=⟨H.1,k.trans H.2.1,λb A=>Nat.le_trans k.1 (H.2.2 b A)⟩
theorem New.sl {α:Type}{e:Rp α}{h h':af}{v:Value}{l:List α}(H:New e h h' v l):Rp.Sl e (blk v) h' v l:=H.1.sl.mono λb _ A=>A.elim False.elim id
theorem New.isSl {α:Type}{e:Rp α}{h h':af}{v:Value}{l:List α}(H:New e h h' v l):∃a cap,v=.slice a l.length cap:=H.1.isSl
theorem New.push {α:Type}{e:Rp α}{z z' c:Value}{t t':TypeId}{bytes:Nat}{h h1:af}{v:Value}{l:List α}{x:α}{K:Value→af→Prop}(U:e.w=1)(H:New e h h1 v l)
  (hx:e.R (λ_=>False) h1 [c] x) (F:z.cells.size=1) (A:(l.length+1)*bytes≤140737488355328) (hn:l.length+1≤9223372036854775807)
  (L:∀D h',New e h h' D (l++[x])→K D h'):cF #[z'] t 1 [(0,1,c)] h1 λI W=>cG z t' 1 bytes v I W K:=by
 refine Rp.push_ow1 U H.1 hx F A hn (λb A=>A.elim) λD h' o' G n'=>L D h' ⟨o',H.2.1.then_fr G H.2.2,λb A=>?_⟩
 rcases n' b A with h1|h1
 ·exact H.2.2 b h1
 ·exact Nat.le_trans H.2.1.1 h1
theorem New.push_int {k:IntKind}{z W:Value}{t t':TypeId}{bytes:Nat}{h h1:af}{v:Value}{l:List Int}{x:Int}{K:Value→af→Prop}(H:New (Rp.int k) h h1 v l)
  (D:z.cells.size=1) (I:(l.length+1)*bytes≤140737488355328) (U:l.length+1≤9223372036854775807)
  (G:∀A h',New (Rp.int k) h h' A (l++[x])→K A h'):cF #[W] t 1 [(0,1,.int k x)] h1 λF L=>cG z t' 1 bytes v F L K:=
 H.push rfl rfl D I U G
theorem Rp.Sl.int_at {k:IntKind}{Z:Nat→Prop}{h:af}{v:Value}{l:List Int}(H:Rp.Sl (Rp.int k) Z h v l){k':IntKind}{i:Nat}(hi:i<l.length):∃p,aR 1 v (.int k' (i:Int))=some p∧ldV h p=some (.int k l[i]):=by
 obtain⟨p,c,h1,D,A⟩:=H.at1 rfl (k:=k') hi;have A:[c]=[Value.int k l[i]]:=A;cases A;exact⟨p,h1,D⟩
theorem Ao (k:IntKind)(i d most:Nat)(h:i≤most):bdV (some (.int k (i:Int))) d most=some i:=by
 show(if 0≤(i:Int)∧(i:Int)≤(most:Int)then some (i:Int).toNat else none)=_;rw[if_pos (by omega),Int.toNat_natCast]
theorem SlC.part {w:Nat}{h:af}{v:Value}{n:Nat}{cs:List Value}(H:SlC w h v n cs){lo hi:Nat}(h1:lo≤hi)(G:hi≤n){a:Option Addr}{cap:Nat}(L:v=.slice a n cap)(hc:n≤cap):
  SlC w h (.slice (if cap=lo then a else a.map (·.add (lo*w))) (hi-lo) (cap-lo)) (hi-lo) ((cs.drop (lo*w)).take ((hi-lo)*w)):=by
 subst L;obtain⟨hl,a',F,e,H⟩:=H;cases e;have W:lo*w+(hi-lo)*w=hi*w:=by rw[←Nat.add_mul];congr 1;omega
 have I:hi*w≤n*w:=Nat.mul_le_mul_right w G;refine⟨by rw[List.length_take,List.length_drop];omega,_,_,rfl,?_⟩;by_cases D:(cs.drop (lo*w)).take ((hi-lo)*w)=[]
 ·exact .inl D
 ·refine .inr ?_;rcases H with rfl|⟨b,o,rfl,H⟩
  ·exact absurd (by simp) D
  ·have A:cap≠lo:=by
    intro e;have h0:(hi-lo)*w=0:=by rw[show hi-lo=0 by omega,Nat.zero_mul]
    exact D (by rw[h0];rfl)
   rw[if_neg A];refine⟨b,o+lo*w,by rw[Option.map_some,kG],λj U=>?_⟩;rw[List.length_take,List.length_drop]at U;have:=H (lo*w+j) (by omega);rw[←Nat.add_assoc]at this;rw[this,List.getElem_take,List.getElem_drop]
theorem Lr {h:af}{v:Value}{n:Nat}{cs:List Value}(w:Nat)(H:Own w h v n cs){k:IntKind}{hi:Nat}(F:hi≤n):∃D,ue w v none (some (.int k (hi:Int)))=some D∧SlC w h D hi (cs.take (hi*w))∧∀b,blk D b→blk v b:=by
 have hc:∃a cap,v=.slice a n cap∧n≤cap:=by
  rcases H with⟨rfl,rfl,_⟩|⟨b,cap,r,e,rfl,hc,_⟩
  ·exact⟨none,0,rfl,Nat.le_refl _⟩
  ·exact⟨_,cap,rfl,hc⟩
 obtain⟨a,cap,e,hc⟩:=hc;have:=H.sl.part (Nat.zero_le hi) F e hc;subst e;refine⟨_,?_,by simpa using this,λb A=>?_⟩
 ·simp only[ue,Ao k hi n cap (show hi≤cap by omega)];simp only[bdV,Nat.zero_mul,Nat.sub_zero]
 ·cases a with
  |none=>simp at A;exact A
  | some a=>
   split at A
   ·exact A
   ·simp only[Option.map_some]at A;have e:(a.add 0).block=a.block:=by unfold Addr.add;split<;>rfl
    rw[show b=(a.add 0).block from A,e];rfl
theorem Vj {h:af}{v s:Value}{n m k:Nat}{cs ds:List Value}(H:Own 1 h v n cs)(hm:m<n)(L:SlC 1 h s k ds)(ho:∀x∈ds,aJ x=true){kk:IntKind}:
  ∃d,ue 1 v (some (.int kk (m:Int))) none=some d∧∀K:Value→af→Prop,(∀h',Own 1 h' v n (cs.take m++ds.take (n-m)++cs.drop (m+k))→Fr (blk v) h h'→K (.int .i64 (Nat.min k (n-m):Nat)) h')→Cn 1 d s h K:=by
 have F:=L.load_some (k:=Nat.min k (n-m)) (Nat.min_le_left ..);obtain⟨ad,a',W,rfl,aa⟩:=L;rcases H with⟨rfl,rfl,rfl⟩|⟨b,cap,r,e,rfl,hc,hl,hr,hb⟩
 ·omega
 ·refine⟨.slice (some ⟨b,m,none⟩) (n-m) (cap-m),?_,λK HK=>?_⟩
  ·simp only[ue,Ao kk m 0 cap (show m≤cap by omega)];have A:¬cap=m:=by omega
   have e0:bdV (some (Value.int kk (m:Int))) 0 n=some m:=Ao kk m 0 n (by omega);simp only[bdV,e0,if_neg A,Option.map_some,kG,Nat.zero_add,Nat.mul_one];rw[if_pos (by omega)];simp;exact λhh=>absurd hh A
  ·unfold Cn;simp only[Lg];rw[F];have I:ds.take (Nat.min k (n-m)*1)=ds.take (n-m):=by
    rw[Nat.mul_one];rcases Nat.le_total k (n-m)with h1|h1
    ·rw[show Nat.min k (n-m)=k from Nat.min_eq_left h1,List.take_of_length_le (by omega),List.take_of_length_le (by omega)]
    ·rw[show Nat.min k (n-m)=n-m from Nat.min_eq_right h1]
   rw[I];have ab:(ds.take (n-m)).length≤n-m:=by rw[List.length_take];omega
   have D:=kO (o:=m) (ds.take (n-m)) 0 h _ hb (by simp;omega) (λv hv=>ho v (List.mem_of_mem_take hv));simp only[D];have G:cs++r=cs.take m++(cs.drop m++r):=by rw[←List.append_assoc,List.take_append_drop]
   have lt:(cs.take m).length=m:=by rw[List.length_take];omega
   have U:=CI (ds.take (n-m)) (cs.take m) (cs.drop m++r) (by rw[List.length_append,List.length_drop];omega);rw[←G,lt]at U;rw[Nat.add_zero,U];refine HK _ (.inr ⟨b,cap,r,e,rfl,hc,?_,?_,?_⟩) Upd.set.fr
   ·simp only[List.length_append,List.length_take,List.length_drop];omega
   ·simp only[List.length_append,List.length_take,List.length_drop]at hr ⊢;omega
   ·rw[kB hb]
    congr 3
    rw[List.append_assoc,List.append_assoc,List.append_assoc]
    congr 2
    rw[List.length_take,List.drop_append];rcases Nat.le_total k (n-m)with h1|h1
    ·rw[List.drop_drop,show min (n-m) ds.length=k by omega,List.length_drop,show k-(cs.length-m)=0 by omega,List.drop_zero]
    ·rw[List.drop_drop,show min (n-m) ds.length=n-m by omega,List.length_drop,show n-m-(cs.length-m)=0 by omega,List.drop_zero,List.drop_eq_nil_of_le (show cs.length≤m+(n-m)by omega),List.drop_eq_nil_of_le (show cs.length≤m+k by omega)]
theorem Rp.Sl.part {α:Type}{e:Rp α}{Z:Nat→Prop}{h:af}{v:Value}{l:List α}(H:Rp.Sl e Z h v l){lo hi:Nat}(h1:lo≤hi)(h2:hi≤l.length){a:Option Addr}{n cap:Nat}(hv:v=.slice a n cap)(hc:n≤cap){k k':IntKind}:
  ∃v',ue e.w v (some (.int k (lo:Int))) (some (.int k' (hi:Int)))=some v'∧Rp.Sl e Z h v' ((l.drop lo).take (hi-lo)):=by
 obtain⟨ds,W,hz,he⟩:=H;obtain⟨a',aa,U⟩:=W.isSl;rw[U]at hv;cases hv;have hP:=W.part h1 h2 U hc;subst U;have A:((l.drop lo).take (hi-lo)).length=hi-lo:=by rw[List.length_take,List.length_drop];omega
 refine⟨_,?_,(ds.drop (lo*e.w)).take ((hi-lo)*e.w),by rw[A];exact hP,λI b F=>?_,λi D=>?_⟩
 ·simp only[ue,Ao k' hi _ cap (show hi≤cap by omega),Ao k lo 0 hi h1]
 ·have L:ds≠[]:=λh0=>I (by rw[h0];simp)
  refine hz L b ?_;cases a with
  |none=>simp only[Option.map_none,ite_self]at F;exact F
  | some a=>
   split at F
   ·exact F
   ·simp only[Option.map_some]at F;have ea:(a.add (lo*e.w)).block=a.block:=by unfold Addr.add;split<;>rfl
    rw[show b=(a.add (lo*e.w)).block from F,ea];rfl
 ·have G:lo+i<l.length:=by rw[A]at D;omega
  have:=he (lo+i) G;rw[List.getElem_take,List.getElem_drop];have e2:Rp.el e.w ((ds.drop (lo*e.w)).take ((hi-lo)*e.w)) i=Rp.el e.w ds (lo+i):=by
   show(((ds.drop (lo*e.w)).take ((hi-lo)*e.w)).drop (i*e.w)).take e.w=(ds.drop ((lo+i)*e.w)).take e.w;have hm:i*e.w+e.w≤(hi-lo)*e.w:=by rw[←Nat.succ_mul];exact Nat.mul_le_mul_right _ (by rw[A]at D;exact D)
   rw[List.drop_take,List.drop_drop,List.take_take,Nat.min_eq_left (by omega),←Nat.add_mul]
  rw[e2];exact this
def S (l:List UInt8):Value:=.string ⟨⟨l⟩⟩
theorem S_lit (l:List UInt8):Value.string ⟨l.toArray⟩=S l:=rfl
theorem SN:Value.string ⟨#[]⟩=S []:=rfl
theorem one_S (l:List UInt8):aJ (S l)=true:=rfl
theorem Kg (a b:List UInt8):ag .s .eql (S a) (S b)=some (.bool (decide (a=b))):=by
 show some (Value.bool ((ByteArray.mk (Array.mk a)).toList==(ByteArray.mk (Array.mk b)).toList))=_;rw[ByteArray.toList_eq,ByteArray.toList_eq]
 congr 2
 by_cases h:a=b
 ·subst h;simp
 ·rw[decide_eq_false h];simpa using h
theorem Kf (a b:List UInt8):ag .s .neq (S a) (S b)=some (.bool (!decide (a=b))):=by
 show some (Value.bool (!((ByteArray.mk (Array.mk a)).toList==(ByteArray.mk (Array.mk b)).toList)))=_;rw[ByteArray.toList_eq,ByteArray.toList_eq]
 congr 3
 by_cases h:a=b
 ·subst h;simp
 ·rw[decide_eq_false h];simpa using h
theorem lenS (l:List UInt8):Fa (S l)=some (.int .i64 l.length):=rfl
namespace Rp
def bs:Rp (List UInt8) where
 w:=1
 R:=λ_ _ cs n=>cs=[S n]
 len:=by rintro _ _ _ _ rfl;rfl
 one:=by rintro _ _ _ _ rfl;simp[one_S]
 fr:=λH _ _=>H
 mono:=λH _=>H
end Rp
attribute [go_sem] S_lit Kg Kf lenS
end Go.Crisp
namespace Go.Proofs.YtcoimlclclnlkaaGreatDoor
open Go Go.Crisp
attribute [local irreducible] ae cF aP stK aA vK qK bD gK dE aS mkK cG Cn
open _root_.Go.Proofs.Tryz
def Ki (b:Int):List UInt8:=if b=0 then[99,108,97,109,112]else if b=1 then[109,105,114,114,111,114]else if b=2 then[119,114,97,112]else[]
def Pv (b:Int):List UInt8:=if b=0 then[98,111,120]else if b=1 then[99,117,98,105,99]else if b=2 then[108,97,110,99,122,111,115]else[]
theorem Ej {h:af}(G:dA h){b:Int}:
  ae prog oH #[.int .i64 b] h λr h'=>r=S (Ki b)∧h'=h:=by
 apply IQ;unfold yD;obtain⟨v,D,H⟩:=G.names;obtain⟨a,cap,rfl⟩:=H.isSl;simp only[go_sem,D];refine aj (λh1=>?_) (λh1=>?_)
 ·refine⟨?_,trivial⟩;unfold Ki;rw[if_neg (by omega),if_neg (by omega),if_neg (by omega)]
 ·obtain⟨n,rfl⟩:∃n:Nat,b=(n:Int):=⟨b.toNat,by omega⟩
  obtain⟨p,F,A⟩:=H.at1 (k:=.i64) (i:=n) (by omega);simp only[go_sem,F,A];refine⟨?_,trivial⟩;have I:n<3:=by omega
  have key:∀(i:Nat) (hi:i< [Value.string (iK 0),Value.string (iK 1),Value.string (iK 2)].length),[Value.string (iK 0),Value.string (iK 1),Value.string (iK 2)][i]=S (Ki (i:Int)):=λi hi=>by
   match i,hi with
   |0,_=>rfl
   |1,_=>rfl
   |2,_=>rfl
  exact key n _
theorem L8 {h:af}(G:dA h){b:Int}:
  ae prog wO #[.int .i64 b] h λr h'=>r=S (Pv b)∧h'=h:=by
 apply OT;unfold FH;simp only[go_sem];refine aj (λh1=>?_) (λh1=>?_)
 ·refine⟨?_,trivial⟩;unfold Pv;rw[if_neg (by omega),if_neg (by omega),if_neg (by omega)]
 ·obtain⟨n,rfl⟩:∃n:Nat,b=(n:Int):=⟨b.toNat,by omega⟩
  have A:n<3:=by omega
  have D:=(G.kinds n A).1;have e:Jr 3 2 (.pointer (some ⟨ed,0,none⟩)) (.int .i64 (n:Int))=some (.pointer (some ⟨ed,2*n,none⟩)):=by
   show(if 0≤(n:Int)∧(n:Int)<((3:Nat):Int)then some (Value.pointer (some ((⟨ed,0,none⟩:Addr).add ((n:Int).toNat*2))))else none)=_;rw[if_pos (by omega),kG,Int.toNat_natCast,Nat.zero_add,Nat.mul_comm]
  simp only[go_sem,e,Nat.add_zero,D];refine⟨?_,trivial⟩
  clear h1 D e
  match n,A with
  |0,_=>rfl
  |1,_=>rfl
  |2,_=>rfl
end Go.Proofs.YtcoimlclclnlkaaGreatDoor
namespace Go.Proofs.YtcoimlclclnlkaaGreatDoor
open Go Go.Crisp
attribute [local irreducible] ae cF aP stK aA vK qK bD gK dE aS mkK cG Cn DS Ad bsK
open _root_.Go.Proofs.Tryz
theorem Vu {h:af}{f n m i:Int}:ae prog Fu #[.int .i64 f,.int .i64 n,.int .i64 m,.int .i64 i] h λr h'=>r=.bool (decide (sS f n m i))∧h'=h:=by
 apply QJ;unfold Hd
 try simp only[go_sem]
 refine⟨?_,trivial⟩
 congr 1
 rw[decide_eq_decide];unfold sS;omega
theorem VK {h:af}{a b:Int}(G: -9223372036854775807≤a∧a≤9223372036854775807)(F:0<b)(A:I64 b):ae prog wM #[.int .i64 a,.int .i64 b] h λr h'=>r=.int .i64 (JH a b)∧h'=h:=by
 apply OS;unfold FG
 try simp only[go_sem]
 rw[w64 (by omega) (by omega),Int.zero_sub];have hi:I64 (-a):=by unfold I64;omega
 refine(GU hi A).mono λH h1 ⟨D,w1⟩=>?_
 subst D w1
 try simp only[go_sem]
 rw[nF hi F];have:=pG (a:= -a) (b:=b) (L:=9223372036854775807) (U:=9223372036854775807) (by omega) (by omega) (by omega) (by omega) (by omega);rw[w64 (by omega) (by omega),Int.zero_sub];exact⟨rfl,trivial⟩
theorem Qw {h:af}(G:dA h){f:Int}(f0:0≤f)(f1:f<3):∃p,Jr 3 2 (.pointer (some ⟨ed,0,none⟩)) (.int .i64 f)=some (.pointer (some ⟨ed,p,none⟩))∧aB h ⟨ed,p+1,none⟩=some (.int .i64 (ck f)):=by
 obtain⟨n,rfl⟩:∃n:Nat,f=(n:Int):=⟨f.toNat,by omega⟩
 have A:n<3:=by omega
 refine⟨2*n,?_,?_⟩
 ·show(if 0≤(n:Int)∧(n:Int)<((3:Nat):Int)then some (Value.pointer (some ((⟨ed,0,none⟩:Addr).add ((n:Int).toNat*2))))else none)=_;rw[if_pos (by omega),kG,Int.toNat_natCast,Nat.zero_add,Nat.mul_comm]
 ·rw[(G.kinds n A).2]
  match n,A with
  |0,_=>rfl
  |1,_=>rfl
  |2,_=>rfl
def Ya (f n m i:Int):Value:=if sS f n m i then .tuple #[.int .i64 (nB f n m i),.int .i64 (lg f n m i-nB f n m i)]else .tuple #[.int .i64 0,.int .i64 0]
theorem VM {h:af}(G:dA h){f n m i:Int}:ae prog wN #[.int .i64 f,.int .i64 n,.int .i64 m,.int .i64 i] h λr h'=>r=Ya f n m i∧h'=h:=by
 apply KV;unfold A9 Ya;refine Vu.mono λH h1 ⟨A,w1⟩=>?_
 subst A w1
 try simp only[go_sem]
 refine aj (λh0=>?_) (λh0=>?_)
 ·rw[if_neg h0];exact⟨rfl,trivial⟩
 have I:sS f n m i:=Decidable.of_not_not h0;rw[if_pos I];have U:=Jd I;have hb:=QP I;obtain⟨b1,b2,b3,b4,b5⟩:=hb;obtain⟨f0,f1,n0,n1,m0,m1,i0,i1⟩:=I;have F:I64 m:=by unfold I64;omega
 rw[w64 (n:=i*n) (by omega) (by omega)];refine(GU (by unfold I64;omega) F).mono λH h1 ⟨A,w1⟩=>?_
 subst A w1;rw[nF (by unfold I64;omega) (by omega)]
 try simp only[go_sem]
 rw[w64 (n:=i+1) (by omega) (by omega),w64 (n:=(i+1)*n) (by omega) (by omega)];refine(VK (by omega) (by omega) F).mono λH h1 ⟨A,w1⟩=>?_
 subst A w1
 try simp only[go_sem]
 unfold nB lg at U ⊢;refine aj (λD=>?_) (λD=>?_)
 ·have D:f≠0:=D;rw[if_neg D,if_neg D]at*;obtain⟨p,L,W⟩:=Qw G f0 f1;simp only[go_sem,L,W];have hr:0≤ck f∧ck f≤3:=by unfold ck;split;omega;split<;>omega
  rw[w64 (n:=2*i) (by omega) (by omega),w64 (n:=2*i+1) (by omega) (by omega),w64 (n:=(2*i+1)*n) (by omega) (by omega),w64 (n:=(2*i+1)*n-m) (by omega) (by omega),w64 (n:=ck f*2) (by omega) (by omega),
   w64 (n:=ck f*2*max n m) (by omega) (by omega),w64 (n:=(2*i+1)*n-m-ck f*2*max n m) (by omega) (by omega),w64 (n:=2*m) (by omega) (by omega)]
  refine(GU (by unfold I64;omega) (by unfold I64;omega)).mono λH h1 ⟨A,w1⟩=>?_
  subst A w1;rw[nF (by unfold I64;omega) (by omega)]
  try simp only[go_sem]
  rw[w64 (n:=((2*i+1)*n-m-ck f*2*max n m)/(2*m)+1) (by omega) (by omega),w64 (n:=(2*i+1)*n-m+ck f*2*max n m) (by omega) (by omega)];refine(VK (by omega) (by omega) (by unfold I64;omega)).mono λH h1 ⟨A,w1⟩=>?_
  subst A w1
  try simp only[go_sem]
  rw[w64 (by omega) (by omega)];exact⟨rfl,trivial⟩
 ·have D:f=0:=Decidable.of_not_not D;rw[if_pos D,if_pos D]at*;rw[w64 (by omega) (by omega)];exact⟨rfl,trivial⟩
theorem RF {h:af}{p q:Int}(H: -4611686018427387904≤p∧p≤4611686018427387904)(hq:I64 q):ae prog sF #[.int .i64 p,.int .i64 q] h λr h'=>r=.int .i64 (D4 p q)∧h'=h:=by
 apply OU;unfold FI
 try simp only[go_sem]
 unfold D4;have D:(((q<1∨262144<q)∨IntKind.i64.wrap (2*q)≤p)∨p≤IntKind.i64.wrap (-2*q))↔(q<1∨262144<q∨2*q≤p∨p≤ -2*q):=by
  unfold I64 at hq;by_cases hc:q<1∨262144<q
  ·omega
  ·rw[w64 (n:=2*q) (by omega) (by omega),w64 (n:= -2*q) (by omega) (by omega)];omega
 refine aj (λh0=>?_) (λh0=>?_)
 ·rw[if_pos (D.1 h0)];exact⟨rfl,trivial⟩
 rw[if_neg λhh=>h0 (D.2 hh)];have G:IntKind.i64.wrap (0-p)= -p:=by rw[w64 (by omega) (by omega)];omega
 rw[G];generalize max p (-p)=a;simp only[vM,vL,ri,mY,vJ,By];have F:2*q*q*q=2*(q*q*q):=by grind
 rw[F];unfold Ri;refine aj (λh1=>?_) (λh1=>?_)
 ·rw[if_pos h1];have A:(0-a)*a*a+5*a*a*q-8*a*q*q+4*q*q*q=4*(q*q*q)+5*(a*a*q)-a*a*a-8*(a*q*q):=by grind
  rw[A];exact lV (gW _) (by unfold I64;omega) (gW _)
 ·rw[if_neg h1];have A:3*a*a*a-5*a*a*q+2*(q*q*q)=3*(a*a*a)-5*(a*a*q)+2*(q*q*q):=by grind
  rw[A];exact lV (gW _) (by unfold I64;omega) (gW _)
theorem Xh {h:af}{f n m i j:Int}(G:sS f n m i)(hj: -1048576*65536≤j∧j≤1048576*65536):ae prog zR #[.int .i64 f,.int .i64 n,.int .i64 m,.int .i64 i,.int .i64 j] h λr h'=>r=.int .i64 (vQ f n m i j)∧h'=h:=by
 apply M7;unfold Db
 try simp only[go_sem]
 have L:=QP G;obtain⟨b1,b2,W,b4,b5⟩:=L;obtain⟨f0,f1,n0,n1,m0,m1,i0,i1⟩:=G;unfold vQ;have H:=GM (a:=j) (A:=1048576*65536) (b:=m) (B:=65536) (by omega) (by omega) (by omega) (by omega);have U:(j+1)*m=j*m+m:=by rw[Int.add_mul,Int.one_mul]
 have I:2*m*j=2*(j*m):=by rw[Int.mul_assoc,Int.mul_comm m j]
 refine aj (λF=>?_) (λF=>?_)
 ·rw[if_pos F];rw[w64 (n:=i+1) (by omega) (by omega),w64 (n:=(i+1)*n) (by omega) (by omega),w64 (n:=j+1) (by omega) (by omega),w64 (n:=(j+1)*m) (by omega) (by omega),w64 (n:=i*n) (by omega) (by omega),w64 (n:=j*m) (by omega) (by omega),w64 (by omega) (by omega)];exact lV (by unfold I64;omega) (by unfold I64;omega) (by unfold I64;omega)
 rw[if_neg F,w64 (n:=2*m) (by omega) (by omega),w64 (n:=2*m*j) (by omega) (by omega),w64 (n:=2*i) (by omega) (by omega),w64 (n:=2*i+1) (by omega) (by omega),w64 (n:=(2*i+1)*n) (by omega) (by omega),
  w64 (n:=2*m*j-(2*i+1)*n) (by omega) (by omega),w64 (n:=2*m*j-(2*i+1)*n+m) (by omega) (by omega),w64 (n:=2*max n m) (by omega) (by omega)]
 refine aj (λD=>?_) (λD=>?_)
 ·rw[if_pos D];exact RF (by omega) (by unfold I64;omega)
 ·rw[if_neg D];exact T5 (by unfold I64;omega) (by unfold I64;omega)
def dS (f n m i:Int):Int:=if sS f n m i then nB f n m i else 0
def cL (f n m i:Int):List Int:=if sS f n m i then BE f n m i else[]
theorem lF {β:Type}(g:Nat→β)(n k:Nat)(h:k<n):((List.range n).map g).take (k+1)=((List.range n).map g).take k++[g k]:=by
 rw[List.take_succ_eq_append_getElem (by simpa using h)];simp
theorem PG {h:af}(G:dA h){f n m i:Int}:ae prog Aq #[.int .i64 f,.int .i64 n,.int .i64 m,.int .i64 i] h λr h'=>
  ∃v,r=.tuple #[.int .i64 (dS f n m i),v]∧New (Rp.int .i64) h h' v (cL f n m i):=by
 apply QK;unfold He;refine(VM G).mono λv1 h1 ⟨U,w1⟩=>?_
 subst U w1;unfold dS cL Ya;by_cases A:sS f n m i
 ·rw[if_pos A,if_pos A,if_pos A]
  try simp only[go_sem]
  have aa:=Jd A;obtain⟨N,W⟩:∃N,N=(lg f n m i-nB f n m i).toNat:=⟨_,rfl⟩
  refine bB N 0 (λk v=>[v,.int .i64 (k:Int)]) (λk v h'=>New (Rp.int .i64) h1 h' v ((BE f n m i).take k)) (.slice none 0 0) rfl (Nat.zero_le _) (New.nil (Ext.refl _)) λk v h2 again ρj _ hk F H=>?_
  try simp only[go_sem]
  have hl:(BE f n m i).length=N:=by unfold BE;rw[List.length_map,List.length_range,W]
  refine aj (λh0=>?_) (λh0=>?_)
  ·rw[w64 (n:=nB f n m i+(k:Int)) (by omega) (by omega)];refine(Xh A (by omega)).mono λv2 h3 ⟨e2,w2⟩=>?_
   subst e2 w2;have D:((BE f n m i).take k).length=k:=by rw[List.length_take];omega
   refine F.push_int rfl (by rw[D];omega) (by rw[D];omega) λL h' I=>?_
   try simp only[go_sem]
   rw[w64 (by omega) (by omega)];have:=H L h' (by omega) (by
    have e:=lF (λk:Nat=>vQ f n m i (nB f n m i+k)) (lg f n m i-nB f n m i).toNat k (by omega);unfold BE at I ⊢;rw[e];exact I)
   exact this
  ·rw[List.take_of_length_le (by omega)]at F;exact⟨v,rfl,F⟩
 ·rw[if_neg A,if_neg A,if_neg A]
  try simp only[go_sem]
  refine iH (λk=>[.slice none 0 0,.int .i64 (k:Int)]) 0 0 rfl (Nat.le_refl _) λk again ρj _ hk _=>?_
  have:k=0:=by omega
  subst this
  try simp only[go_sem]
  refine aj (λh0=>absurd h0 (by omega)) (λh0=>?_);exact⟨_,rfl,New.nil (Ext.refl _)⟩
end Go.Proofs.YtcoimlclclnlkaaGreatDoor
namespace Go.Crisp
def cN (r:Nat→Int)(i j:Nat):Prop:=r j<r i∨(r i=r j∧i<j)
instance (r:Nat→Int)(i j:Nat):Decidable (cN r i j):=by unfold cN;exact inferInstance
theorem FU (r:Nat→Int)(i:Nat):¬cN r i i:=by unfold cN;omega
theorem jx {r:Nat→Int}{i j k:Nat}(h1:cN r i j)(A:cN r j k):cN r i k:=by unfold cN at*;omega
theorem jy (r:Nat→Int){i j:Nat}(h:i≠j):cN r i j∨cN r j i:=by unfold cN;omega
theorem Jh {r:Nat→Int}{i j:Nat}(h1:cN r i j):¬cN r j i:=by unfold cN at*;omega
def jZ (r:Nat→Int)(n i:Nat):Nat:=(List.range n).countP λj=>decide (cN r j i)
theorem Rl {l:List Nat}{p:Nat→Bool}(h:∀x∈l,p x=true):l.countP p=l.length:=by
 rw[List.countP_eq_length];exact h
theorem PA {l:List Nat}{p:Nat→Bool}(h:∀x∈l,p x=false):l.countP p=0:=by
 rw[List.countP_eq_zero];intro x A;rw[h x A];simp
theorem FN {r:Nat→Int}{n:Nat}{l:List Nat}(G:l.Perm (List.range n))(D:l.Pairwise (cN r)){k:Nat}(F:k<l.length):jZ r n l[k]=k:=by
 unfold jZ;rw[←G.countP_eq];have A:∀(x:Nat),x=l[k]→((l.take k).countP λj=>decide (cN r j x))+((l.drop k).countP λj=>decide (cN r j x))=k:=by
  rintro x rfl;have h1:((l.take k).countP λj=>decide (cN r j l[k]))=(l.take k).length:=Rl λx A=>by
   obtain⟨i,hi,rfl⟩:=List.mem_iff_getElem.1 A;rw[List.getElem_take];rw[List.length_take]at hi;exact decide_eq_true (List.pairwise_iff_getElem.1 D i k (by omega) F (by omega))
  have H:((l.drop k).countP λj=>decide (cN r j l[k]))=0:=PA λx A=>by
   obtain⟨i,hi,rfl⟩:=List.mem_iff_getElem.1 A;rw[List.getElem_drop];rw[List.length_drop]at hi;rcases Nat.eq_zero_or_pos i with h0|h0
   ·subst h0;exact decide_eq_false (FU _ _)
   ·exact decide_eq_false (Jh (List.pairwise_iff_getElem.1 D k (k+i) F (by omega) (by omega)))
  rw[h1,H,List.length_take];omega
 have e:∀p:Nat→Bool,l.countP p=(l.take k).countP p+(l.drop k).countP p:=λp=>by rw[←List.countP_append,List.take_append_drop]
 rw[e];exact A _ rfl
theorem ME {r:Nat→Int}{n i j:Nat}(hi:i<n)(h:cN r i j):jZ r n i<jZ r n j:=by
 unfold jZ;have A:∀l:List Nat,(l.countP λk=>decide (cN r k i))≤l.countP λk=>decide (cN r k j):=λl=>
  List.countP_mono_left λx _ F=>decide_eq_true (jx (of_decide_eq_true F) h)
 obtain⟨a,b,D⟩:=List.append_of_mem (List.mem_range.2 hi);rw[D,List.countP_append,List.countP_append,List.countP_cons,List.countP_cons];have h1:=A a;have G:=A b;rw[if_neg (by simpa using FU r i),if_pos (decide_eq_true h)];omega
theorem Dy {r:Nat→Int}{n i j:Nat}(hi:i<n)(D:j<n)(h:jZ r n i=jZ r n j):i=j:=by
 by_cases A:i=j
 ·exact A
 ·rcases jy r A with h1|h1
  ·have:=ME hi h1;omega
  ·have:=ME D h1;omega
theorem Np {r:Nat→Int}{n i j:Nat}(hi:i<n)(D:j<n)(h:jZ r n i<jZ r n j):cN r i j:=by
 have A:i≠j:=λe=>by rw[e]at h;omega
 rcases jy r A with h1|h1
 ·exact h1
 ·have:=ME D h1;omega
theorem Td (r:Nat→Int)(n:Nat):∀k,k<n→∃i,i<n∧jZ r n i=k:=by
 let le:Nat→Nat→Bool:=λi j=>decide (cN r i j)||decide (i=j)
 have U:∀a b c:Nat,le a b=true→le b c=true→le a c=true:=λa b c h1 A=>by
  simp only[le,Bool.or_eq_true,decide_eq_true_eq]at*;rcases h1 with h1|rfl
  ·rcases A with A|rfl
   ·exact .inl (jx h1 A)
   ·exact .inl h1
  ·exact A
 have D:∀a b:Nat,(le a b||le b a)=true:=λa b=>by
  simp only[le,Bool.or_eq_true,decide_eq_true_eq];by_cases H:a=b
  ·exact .inl (.inr H)
  ·rcases jy r H with h|h
   ·exact .inl (.inl h)
   ·exact .inr (.inl h)
 let l:=(List.range n).mergeSort le
 have F:l.Perm (List.range n):=List.mergeSort_perm _ _;have L:l.Pairwise (λa b=>le a b=true):=List.pairwise_mergeSort (le:=le) U D _;have I:l.Nodup:=F.nodup_iff.2 List.nodup_range;have G:l.Pairwise (cN r):=by
  unfold List.Nodup at I;refine(L.and I).imp λ{a b} ⟨h1,A⟩=>?_
  simp only[le,Bool.or_eq_true,decide_eq_true_eq]at h1;rcases h1 with h1|h1
  ·exact h1
  ·exact absurd h1 A
 intro k hk;have W:l.length=n:=by rw[F.length_eq];simp
 refine⟨l[k]'(by omega),?_,FN F G _⟩;have:=F.mem_iff.1 (List.getElem_mem (l:=l) (n:=k) (by omega));simpa using this
def iE (r:Nat→Int)(n k:Nat)(i:Nat):Int:=if jZ r n i<k then-1 else r i
theorem OB (r:Nat→Int)(n:Nat):iE r n 0=r:=by funext i;unfold iE;rw[if_neg (by omega)]
theorem Ua {r:Nat→Int}{n k:Nat}(W:∀i,i<n→0≤r i)(hk:k<n){b:Nat}(L:b<n)
  (h1:∀i,i<n→iE r n k i≤iE r n k b) (h2:∀i,i<b→iE r n k i<iE r n k b):jZ r n b=k:=by
 obtain⟨m,G,D⟩:=Td r n k hk;have pm:iE r n k m=r m:=by unfold iE;rw[if_neg (by omega)]
 have aa:=W m G;have A:=h1 m G;rw[pm]at A;have H:iE r n k b=r b∧¬jZ r n b<k:=by
  unfold iE at A ⊢;split at A
  ·omega
  ·rename_i h;rw[if_neg h];exact⟨rfl,h⟩
 rw[H.1]at A;by_cases I:b=m
 ·rw[I];exact D
 ·have U:jZ r n b≠k:=λe=>I (Dy L G (e.trans D.symm))
  have F:cN r m b:=Np G L (by have:=H.2;omega);unfold cN at F;rcases F with F|⟨e,F⟩
  ·omega
  ·have:=h2 m F;rw[pm,H.1]at this;omega
theorem OC {r:Nat→Int}{n k b:Nat}(D:b<n)(F:jZ r n b=k){i:Nat}(hi:i<n):iE r n (k+1) i=if i=b then-1 else iE r n k i:=by
 unfold iE;by_cases A:i=b
 ·subst A;rw[if_pos (by omega),if_pos rfl]
 ·have:jZ r n i≠k:=λe=>A (Dy hi D (e.trans F.symm))
  rw[if_neg A];by_cases h:jZ r n i<k
  ·rw[if_pos h,if_pos (by omega)]
  ·rw[if_neg h,if_neg (by omega)]
end Go.Crisp
namespace Go.Crisp
open Go
def kN (l:List Int):Int:=l.foldl AE 0
def kW (x:Int):Int:=max x (WL x (-1))
def kP (l:List Int):Int:=l.foldl (λs x=>AE s (kW x)) 0
theorem CP {x:Int}(h:I64 x):kW x=min (x.natAbs:Int) 9223372036854775807:=by
 unfold kW WL iy jl;unfold I64 at h;have e:(-1:Int).natAbs=1:=rfl;rw[e,Nat.mul_one];have D:decide ((-1:Int)<0)=true:=rfl;rw[D];by_cases A:x<0
 ·rw[decide_eq_true A];have:(!(true==true))=false:=rfl;rw[this];simp only[Bool.false_eq_true,if_false];split<;>omega
 ·rw[decide_eq_false A];have:(!(false==true))=true:=rfl;rw[this];simp only[if_true];split<;>omega
theorem nE {f:Int→Int→Int}(A:∀a b,I64 (f a b)):∀(l:List Int) (s:Int),I64 s→I64 (l.foldl f s)
 | [],s,h=>h
 |x::l,s,_=>nE A l _ (A _ _)
theorem vH:I64 0:=by unfold I64;omega
theorem Oa (l:List Int):I64 (kN l):=nE vF l 0 vH
theorem G9 (l:List Int):I64 (kP l):=nE (λa b=>vF a (kW b)) l 0 vH
theorem Ls {x:Int}(h:I64 x):I64 (kW x):=by rw[CP h];unfold I64;omega
def Cw (l:List Int):Prop:=l.length=0∨1048576<l.length∨∃x∈l,1099511627776<kW x
instance (l:List Int):Decidable (Cw l):=by unfold Cw;infer_instance
def cn (l:List Int):Int:=if Cw l then 7 else if kN l<268435456 then 8 else 0
def fj (l:List Int)(i:Nat):Int:=l.getD i 0*16384/kN l
def dh (l:List Int)(i:Nat):Int:=l.getD i 0*16384%kN l
def rV (l:List Int):Nat→Int
 |0=>16384
 |k+1=>rV l k-fj l k
def vw (l:List Int):Int:=rV l l.length
def kM (l:List Int):List Int:=(List.range l.length).map λi=>fj l i+(if(jZ (dh l) l.length i:Int)<vw l then 1 else 0)
def bS (l:List Int):List Int:=if cn l=0 then kM l else[]
structure zH (l:List Int):Prop where
 pos:0<l.length
 len:l.length≤1048576
 small:∀i, -1099511627776≤l.getD i 0∧l.getD i 0≤1099511627776
 sum:268435456≤kN l
theorem FZ {l:List Int}:cn l=0↔ ¬Cw l∧268435456≤kN l:=by
 unfold cn;split
 ·rename_i h;simp[h]
 ·rename_i h;split
  ·rename_i A;simp[h];omega
  ·rename_i A;simp[h];omega
theorem UW {l:List Int}(A:∀x∈l,I64 x)(h:cn l=0):zH l:=by
 obtain⟨h1,G⟩:=FZ.1 h;unfold Cw at h1;refine⟨by omega,by omega,λi=>?_,G⟩;by_cases hi:i<l.length
 ·have e:l.getD i 0=l[i]:=by simp[List.getD_eq_getElem?_getD,hi]
  rw[e];have F:=List.getElem_mem hi;have D:¬1099511627776<kW l[i]:=λD=>h1 (.inr (.inr ⟨_,F,D⟩))
  rw[CP (A _ F)]at D;omega
 ·have e:l.getD i 0=0:=by simp[List.getD_eq_getElem?_getD,Nat.le_of_not_lt hi]
  rw[e];omega
def Gl (l:List Int):Nat→Int
 |0=>0
 |k+1=>Gl l k+l.getD k 0
theorem MG {l:List Int}(G:zH l):∀k:Nat, -(k*1099511627776:Int)≤Gl l k∧Gl l k≤k*1099511627776
 |0=>by simp[Gl]
 |k+1=>by
  have:=MG G k;have A:=G.small k;simp only[Gl];omega
theorem N0 {l:List Int}(G:zH l):∀k,k≤l.length→kN (l.take k)=Gl l k
 |0,_=>by simp[kN,Gl]
 |k+1,h=>by
  have A:=N0 G k (by omega);have D:=MG G k;have F:=G.small k;have e:l.getD k 0=l[k]:=by simp[List.getD_eq_getElem?_getD,show k<l.length by omega]
  have:=G.len;unfold kN at*;rw[List.take_succ_eq_append_getElem (by omega),List.foldl_append,A];simp only[List.foldl_cons,List.foldl_nil,Gl];unfold AE;rw[←e];omega
theorem Lm {l:List Int}(G:zH l):kN l=Gl l l.length:=by
 have:=N0 G l.length (Nat.le_refl _)
 rwa [List.take_of_length_le (Nat.le_refl _)]at this
def MC (l:List Int):Nat→Int
 |0=>0
 |k+1=>MC l k+dh l k
theorem HG {l:List Int}(G:zH l)(i:Nat):0≤dh l i∧dh l i<kN l:=by
 have:=G.sum;exact⟨Int.emod_nonneg _ (by omega),Int.emod_lt_of_pos _ (by omega)⟩
theorem vE {l:List Int}(G:zH l)(i:Nat): -67108864≤fj l i∧fj l i≤67108864:=by
 have h1:=G.sum;have A:=G.small i;unfold fj;constructor
 ·rw[Int.le_ediv_iff_mul_le (by omega)];omega
 ·apply Int.le_of_lt_add_one;rw[Int.ediv_lt_iff_lt_mul (by omega)];omega
theorem Jg {l:List Int}(G:zH l):∀k:Nat,16384-(k*67108864:Int)≤rV l k∧rV l k≤16384+k*67108864
 |0=>by simp[rV]
 |k+1=>by
  have:=Jg G k;have A:=vE G k;simp only[rV];omega
theorem RZ {l:List Int}(G:zH l):∀k:Nat,0≤MC l k∧MC l k+k≤k*kN l
 |0=>by simp[MC]
 |k+1=>by
  have:=RZ G k;have A:=HG G k;simp only[MC];rw[show((k+1:Nat):Int)=(k:Int)+1 from rfl,Int.add_mul,Int.one_mul];omega
theorem Pe {l:List Int}(G:zH l):∀k,rV l k*kN l+Gl l k*16384=16384*kN l+MC l k
 |0=>by simp[rV,Gl,MC]
 |k+1=>by
  have A:=Pe G k;have hd:kN l*fj l k+dh l k=l.getD k 0*16384:=Int.mul_ediv_add_emod _ _;simp only[rV,Gl,MC];rw[Int.sub_mul,Int.add_mul,Int.mul_comm (fj l k)];omega
theorem left_bd {l:List Int}(G:zH l):0≤vw l∧vw l<l.length:=by
 have h:=Pe G l.length;rw[←Lm G]at h;have F:=RZ G l.length;have A:=G.sum;have D:=G.pos;have e:vw l*kN l=MC l l.length:=by unfold vw;omega
 constructor
 ·rcases Int.lt_or_le (vw l) 0 with h1|h1
  ·have:vw l*kN l≤(-1)*kN l:=Int.mul_le_mul_of_nonneg_right (by omega) (by omega);omega
  ·exact h1
 ·rcases Int.lt_or_le (vw l) l.length with h1|h1
  ·exact h1
  ·have:(l.length:Int)*kN l≤vw l*kN l:=Int.mul_le_mul_of_nonneg_right h1 (by omega);omega
theorem nh (l:List Int):(kM l).length=l.length:=by simp[kM]
theorem SX {l:List Int}(G:zH l):∀x∈kM l, -67108864≤x∧x≤67108865:=by
 intro x A;unfold kM at A;obtain⟨i,_,rfl⟩:=List.mem_map.1 A;have:=vE G i;split<;>omega
theorem Bo {β:Type}(g:Nat→β)(n i:Nat)(x:β)(h:i<n):((List.range n).map g).set i x=(List.range n).map λj=>if j=i then x else g j:=by
 apply List.ext_getElem
 ·simp
 ·intro k h1 D;simp at h1 D;rw[List.getElem_set];simp;by_cases A:i=k
  ·subst A;simp
  ·rw[if_neg A,if_neg (Ne.symm A)]
theorem bH {β:Type}{g f:Nat→β}{n:Nat}(h:∀i,i<n→g i=f i):(List.range n).map g=(List.range n).map f:=by
 apply List.map_congr_left;intro i hi;exact h i (List.mem_range.1 hi)
end Go.Crisp
namespace Go.Proofs.YtcoimlclclnlkaaGreatDoor
open Go Go.Crisp
attribute [local irreducible] ae cF aP stK aA vK qK bD gK dE aS mkK cG Cn DS Ad bsK clK
open _root_.Go.Proofs.Tryz
abbrev SlI (Z:Nat→Prop)(h:af)(v:Value)(l:List Int):Prop:=Rp.Sl (Rp.int .i64) Z h v l
theorem zZ {f:Int→Int→Int}{l:List Int}{i:Nat}(h:i<l.length)(s:Int):(l.take (i+1)).foldl f s=f ((l.take i).foldl f s) l[i]:=by
 rw[List.take_succ_eq_append_getElem h,List.foldl_append];rfl
theorem JI {h:af}{x:Int}(D:I64 x):ae prog tP #[.int .i64 x] h λr h'=>r=.int .i64 (kW x)∧h'=h:=by
 apply MM;unfold CR;refine(RC D (by unfold I64;omega)).mono λF h1 ⟨A,w1⟩=>?_
 subst A w1;simp only[go_sem];exact⟨rfl,trivial⟩
theorem L7 {Z:Nat→Prop}{h:af}{v:Value}{l:List Int}(H:SlI Z h v l)(F:∀x∈l,I64 x)(hl:l.length<4611686018427387904):ae prog wE #[v] h λr h'=>r=.int .i64 (kN l)∧h'=h:=by
 apply OI;unfold Fy;obtain⟨a,cap,e⟩:=H.isSl;have U:aq v=some (.int .i64 (l.length:Int)):=by rw[e];rfl
 rw[U,ah];refine iH (λi=>[.int .i64 ((l.take i).foldl AE 0),.int .i64 (i:Int)]) l.length 0 rfl (Nat.zero_le _) λi again ρj _ hi D=>?_
 simp only[go_sem];refine aj (λh0=>?_) (λh0=>?_)
 ·have A:i<l.length:=by omega
  obtain⟨p,I,G⟩:=H.int_at (k':=.i64) A;simp only[go_sem,I,G];refine(JX (nE vF _ _ vH) (F _ (List.getElem_mem _))).mono λW h1 ⟨L,w1⟩=>?_
  subst L w1;rw[w64 (by omega) (by omega)];have:=D A;rw[zZ A]at this;exact this
 ·rw[List.take_of_length_le (by omega)];exact⟨rfl,trivial⟩
theorem Ga {Z:Nat→Prop}{h:af}{v:Value}{l:List Int}(H:SlI Z h v l)(F:∀x∈l,I64 x)(hl:l.length<4611686018427387904):ae prog tQ #[v] h λr h'=>r=.int .i64 (kP l)∧h'=h:=by
 apply MO;unfold CT;obtain⟨a,cap,e⟩:=H.isSl;have e2:aq v=some (.int .i64 (l.length:Int)):=by rw[e];rfl
 rw[e2,ah];refine iH (λi=>[.int .i64 ((l.take i).foldl (λs x=>AE s (kW x)) 0),.int .i64 (i:Int)]) l.length 0 rfl (Nat.zero_le _) λi again ρj _ hi D=>?_
 simp only[go_sem];refine aj (λh0=>?_) (λh0=>?_)
 ·have A:i<l.length:=by omega
  obtain⟨p,W,L⟩:=H.int_at (k':=.i64) A;simp only[go_sem,W,L];have I:=F _ (List.getElem_mem A);refine(JI I).mono λU h1 ⟨G,w1⟩=>?_
  subst G w1;refine(JX (nE (λa b=>vF a (kW b)) _ _ vH) (Ls I)).mono λU h1 ⟨G,w1⟩=>?_
  subst G w1
  try simp only[go_sem]
  rw[w64 (by omega) (by omega)];have:=D A;rw[zZ A]at this;exact this
 ·rw[List.take_of_length_le (by omega)];exact⟨rfl,trivial⟩
theorem VJ {h:af}{x:Int}(D:I64 x):ae prog kI #[.int .i64 x] h λr h'=>r=.bool (decide (1099511627776<kW x))∧h'=h:=by
 apply EJ;unfold uR;refine(JI D).mono λF h1 ⟨A,w1⟩=>?_
 subst A w1;simp only[go_sem];exact⟨by simp,by simp⟩
section
attribute [local semireducible] clK
theorem clK_0 {f:FuncId}{a:Value}{h:af}{K:Value→af→Prop}:clK prog (.func (.func f) #[] #[]) #[a] h K=ae prog f #[a] h K:=rfl
theorem clK_2 {f:FuncId}{a b c:Value}{h:af}{K:Value→af→Prop}:clK prog (.func (.func f) #[] #[c]) #[a,b] h K=ae prog f #[a,b,c] h K:=rfl
end
theorem NE {Z:Nat→Prop}{h:af}{v:Value}{l:List Int}(H:SlI Z h v l)(L:∀x∈l,I64 x)(hl:l.length<4611686018427387904):
  ae prog df #[v,.func (.func kI) #[] #[]] h λr h'=>r=.bool (decide (∃x∈l,1099511627776<kW x))∧h'=h:=by
 apply jM;unfold fi;refine ae.mono (K:=λr h'=>(∃n:Int,r=.int .i64 n∧(0≤n↔ ∃x∈l,1099511627776<kW x))∧h'=h) ?_ ?_
 ·apply kS;unfold fS;obtain⟨a,cap,e⟩:=H.isSl;have e2:aq v=some (.int .i64 (l.length:Int)):=by rw[e];rfl
  rw[e2,ah];refine bB l.length 0 (λi (_:Unit)=>[.int .i64 (i:Int)]) (λi _ h'=>h'=h∧∀x∈l.take i,¬1099511627776<kW x) () rfl (Nat.zero_le _) ⟨rfl,by simp⟩ λi _ h1 again ρj _ hi ⟨hh,G⟩ I=>?_
  subst hh;simp only[go_sem];refine aj (λh0=>?_) (λh0=>?_)
  ·have A:i<l.length:=by omega
   obtain⟨p,W,U⟩:=H.int_at (k':=.i64) A;simp only[go_sem,W,U];rw[clK_0];refine(VJ (L _ (List.getElem_mem A))).mono λv1 h2 ⟨e1,w1⟩=>?_
   subst e1 w1;refine aj (λF=>?_) (λF=>?_)
   ·exact⟨⟨i,rfl,λ_=>⟨_,List.getElem_mem A,F⟩,λ_=>by omega⟩,rfl⟩
   ·rw[w64 (by omega) (by omega)];refine I () _ A ⟨rfl,λx D=>?_⟩;rw[List.take_succ_eq_append_getElem A]at D;rcases List.mem_append.1 D with D|D
    ·exact G x D
    ·rw[List.mem_singleton.1 D];exact F
  ·rw[List.take_of_length_le (by omega)]at G;exact⟨⟨-1,rfl,λh=>by omega,λ⟨x,D,F⟩=>absurd F (G x D)⟩,by first|rfl|trivial⟩
 ·rintro r h' ⟨⟨n,rfl,hn⟩,rfl⟩;simp only[go_sem];refine⟨?_,trivial⟩
  congr 1
  rw[decide_eq_decide];exact hn
theorem PD {Z:Nat→Prop}{h:af}{v:Value}{l:List Int}(H:SlI Z h v l)(F:∀x∈l,I64 x)(W:l.length<4611686018427387904):ae prog wD #[v] h λr h'=>r=.int .i64 (cn l)∧h'=h:=by
 apply Kz;unfold AK;obtain⟨a,cap,e⟩:=H.isSl;have e2:aq v=some (.int .i64 (l.length:Int)):=by rw[e];rfl
 simp only[go_sem,e2];unfold cn;refine gK_f (λA=>?_) (λA=>?_)
 ·have A:=of_decide_eq_false A;have e3:decide ((l.length:Int)=0∨1048576<(l.length:Int))=false:=decide_eq_false A;simp only[go_sem,e3];refine(NE H F W).mono λv1 h1 ⟨I,w1⟩=>?_
  subst I w1;simp only[go_sem];refine aj (λh0=>?_) (λh0=>?_)
  ·have D:Cw l:=.inr (.inr h0);rw[if_pos D];exact⟨by simp,by simp⟩
  ·have D:¬Cw l:=by unfold Cw;rintro(G|G|G);omega;omega;exact h0 G
   rw[if_neg D];refine(L7 H F W).mono λv1 h1 ⟨I,w1⟩=>?_
   subst I w1;simp only[go_sem];refine aj (λL=>?_) (λL=>?_)
   ·rw[if_pos L];exact⟨by simp,by simp⟩
   ·rw[if_neg L];exact⟨by simp,by simp⟩
 ·have U:=of_decide_eq_true A;have D:Cw l:=by unfold Cw;rcases U with G|G;exact .inl (by omega);exact .inr (.inl (by omega))
  simp only[go_sem,A];rw[if_pos D];exact⟨by simp,by simp⟩
def iA (l:List Int):Prop:=l.length%2=0∨1024<l.length∨kP l<1∨1048576<kP l
instance (l:List Int):Decidable (iA l):=by unfold iA;infer_instance
def xM (l:List Int):Int:=if iA l then 7 else 0
def oJ (l:List Int):List Int:=if iA l then[]else l.map λx=>ch x 1073741824 (kP l)
theorem Bt {α β:Type}(g:α→β)(l:List α){k:Nat}(h:k<l.length):(l.map g).take (k+1)=(l.map g).take k++[g l[k]]:=by
 rw[List.take_succ_eq_append_getElem (by simpa using h)];simp
theorem Cr {Z:Nat→Prop}{h:af}{v:Value}{l:List Int}(H:SlI Z h v l)(F:∀x∈l,I64 x)(hl:l.length<4611686018427387904):
  ae prog pK #[v] h λr h'=>∃u,r=.tuple #[u,.int .i64 (xM l)]∧New (Rp.int .i64) h h' u (oJ l):=by
 apply MN;unfold CS;refine(Ga H F hl).mono λv1 h1 ⟨e1,w1⟩=>?_
 subst e1 w1;obtain⟨a,cap,e⟩:=H.isSl;have U:aq v=some (.int .i64 (l.length:Int)):=by rw[e];rfl
 simp only[go_sem,U];rw[cV _ _ _ _ (by omega),ah,Int.tmod_eq_emod_of_nonneg (by omega)];simp only[go_sem,U];unfold xM oJ;have W:=G9 l;refine aj (λh0=>?_) (λh0=>?_)
 ·have:iA l:=by unfold iA;omega
  rw[if_pos this,if_pos this];exact⟨_,rfl,New.nil (Ext.refl _)⟩
 ·have L:¬iA l:=by unfold iA;omega
  rw[if_neg L,if_neg L];refine bB l.length 0 (λk u=>[u,.int .i64 (k:Int)]) (λk u h'=>New (Rp.int .i64) h1 h' u ((l.map λx=>ch x 1073741824 (kP l)).take k)) (.slice none 0 0) rfl (Nat.zero_le _) (New.nil (Ext.refl _)) λk u h2 again ρj _ hk G I=>?_
  simp only[go_sem];refine aj (λh0=>?_) (λh0=>?_)
  ·have D:k<l.length:=by omega
   obtain⟨p,e3,e4⟩:=(H.ext G.2.1).int_at (k':=.i64) D;simp only[go_sem,e3,e4];refine(lV (F _ (List.getElem_mem _)) (by unfold I64;omega) W).mono λv2 h3 ⟨e5,w5⟩=>?_
   subst e5 w5;have A:((l.map λx=>ch x 1073741824 (kP l)).take k).length=k:=by rw[List.length_take,List.length_map];omega
   unfold iA at L;refine G.push_int rfl (by rw[A];omega) (by rw[A];omega) λs' h' H'=>?_
   try rw[cO,ah]
   rw[w64 (by omega) (by omega)];have:=I s' h' D (by rw[Bt _ _ D];exact H');exact this
  ·rw[List.take_of_length_le (by rw[List.length_map];omega)]at G;exact⟨u,rfl,G⟩
theorem Es (l:List Int):∀x∈oJ l,I64 x:=by
 unfold oJ;split
 ·simp
 ·intro x A;obtain⟨y,_,rfl⟩:=List.mem_map.1 A;exact eW _ _ _
def kq (s:Int):Prop:=s<1∨4194304<s
instance (s:Int):Decidable (kq s):=by unfold kq;infer_instance
def fD (s:Int):Int:=(3*s+65535)/65536
def Ci (s:Int):Int:=if kq s then 7 else 0
def lT (s:Int):List Int:=if kq s then[]else(List.range (2*fD s+1).toNat).map λk:Nat=>zc ((k:Int)-fD s) s
theorem Jw (s:Int):∀x∈lT s,I64 x:=by
 unfold lT;split
 ·simp
 ·intro x A;obtain⟨y,_,rfl⟩:=List.mem_map.1 A;exact Q0 _ _
theorem JZ {h:af}{s:Int}(L:I64 s):ae prog kJ #[.int .i64 s] h λr h'=>∃u,r=.tuple #[u,.int .i64 (Ci s)]∧New (Rp.int .i64) h h' u (lT s):=by
 apply EL;unfold uS;simp only[go_sem];unfold Ci lT;refine aj (λh0=>?_) (λh0=>?_)
 ·have:kq s:=h0;rw[if_pos this,if_pos this];exact⟨_,rfl,New.nil (Ext.refl _)⟩
 ·have I:¬kq s:=h0;rw[if_neg I,if_neg I];rw[w64 (n:=3*s) (by omega) (by omega),w64 (n:=3*s+65536) (by omega) (by omega),w64 (n:=3*s+65536-1) (by omega) (by omega)];have W:ag .i .shr (.int .i64 (3*s+65536-1)) (.int .u64 16)=some (.int .i64 (fD s)):=by
   show(if(16:Int)<0 then none else some (Value.int .i64 ((3*s+65536-1).fdiv (2^(min (16:Int).toNat 64)))))=_;rw[if_neg (by omega),Int.fdiv_eq_ediv_of_nonneg _ (by decide)];unfold fD
   congr 2
   rw[show 3*s+65536-1=3*s+65535 by omega];rfl
  rw[W,ah];have hr:0≤fD s∧fD s≤193:=by unfold fD;omega
  generalize fD s=q at*;simp only[go_sem];rw[w64 (n:=0-q) (by omega) (by omega)];obtain⟨N,hN⟩:∃N,N=(2*q+1).toNat:=⟨_,rfl⟩
  rw[←hN];refine bB N 0 (λk u=>[u,.int .i64 ((k:Int)-q)]) (λk u h'=>New (Rp.int .i64) h h' u (((List.range N).map λk:Nat=>zc ((k:Int)-q) s).take k)) (.slice none 0 0) rfl (Nat.zero_le _) (New.nil (Ext.refl _)) λk u h2 again ρj _ hk F G=>?_
  simp only[go_sem];refine aj (λH=>?_) (λH=>?_)
  ·have D:k<N:=by omega
   refine(XI (by unfold I64;omega) L).mono λv2 H ⟨e5,w5⟩=>?_
   subst e5 w5;have A:(((List.range N).map λk:Nat=>zc ((k:Int)-q) s).take k).length=k:=by rw[List.length_take,List.length_map,List.length_range];omega
   refine F.push_int rfl (by rw[A];omega) (by rw[A];omega) λU h' H'=>?_
   try rw[cO,ah]
   rw[w64 (by omega) (by omega)];have:=G U h' D (by rw[lF _ _ _ D];exact H');rw[show((k+1:Nat):Int)-q=(k:Int)-q+1 by omega]at this;exact this
  ·rw[List.take_of_length_le (by rw[List.length_map,List.length_range];omega)]at F;exact⟨u,rfl,F⟩
end Go.Proofs.YtcoimlclclnlkaaGreatDoor
namespace Go.Crisp
section
section
variable {α:Type}{lt:α→α→Prop}
theorem z8 (G:∀{a b c},lt a b→lt b c→lt a c){L:List α}(h:L.Pairwise lt){x:α}{i j:Nat}(F:i≤j)(D:j<L.length)(A:lt L[j] x):lt (L[i]'(by omega)) x:=by
 rcases Nat.lt_or_ge i j with h1|h1
 ·exact G (List.pairwise_iff_getElem.1 h i j (by omega) D h1) A
 ·have:i=j:=by omega
  subst this;exact A
theorem Aa (G:∀{a b c},lt a b→lt b c→lt a c){L:List α}(h:L.Pairwise lt){x:α}{i j:Nat}(F:i≤j)(D:j<L.length)(A:lt x (L[i]'(by omega))):lt x L[j]:=by
 rcases Nat.lt_or_ge i j with h1|h1
 ·exact G A (List.pairwise_iff_getElem.1 h i j (by omega) D h1)
 ·have:i=j:=by omega
  subst this;exact A
theorem cross (F:∀{a b c},lt a b→lt b c→lt a c){L R:List α}(hL:L.Pairwise lt)(G:R.Pairwise lt){i j:Nat}(hi:i≤L.length)(U:j≤R.length)
  (h1:∀(a:0<i) (b:j<R.length),lt (L[i-1]'(by omega)) R[j]) (H:∀(a:0<j) (b:i<L.length),lt (R[j-1]'(by omega)) L[i]):
  ∀x∈L.take i++R.take j,∀y∈L.drop i++R.drop j,lt x y:=by
 intro x D y A;rcases List.mem_append.1 D with D|D<;>rcases List.mem_append.1 A with A|A<;>
  obtain⟨p,I,rfl⟩:=List.mem_iff_getElem.1 D<;>obtain⟨q,hq,rfl⟩:=List.mem_iff_getElem.1 A<;>
  rw[List.length_take]at I<;>rw[List.length_drop]at hq<;>rw[List.getElem_take,List.getElem_drop]
 ·exact List.pairwise_iff_getElem.1 hL p (i+q) (by omega) (by omega) (by omega)
 ·exact z8 (lt:=lt) F (L:=L) hL (i:=p) (j:=i-1) (by omega) (by omega) (Aa (lt:=lt) F (x:=L[i-1]) (L:=R) G (i:=j) (j:=j+q) (by omega) (by omega) (h1 (by omega) (by omega)))
 ·exact z8 (lt:=lt) F (L:=R) G (i:=p) (j:=j-1) (by omega) (by omega) (Aa (lt:=lt) F (x:=R[j-1]) (L:=L) hL (i:=i) (j:=i+q) (by omega) (by omega) (H (by omega) (by omega)))
 ·exact List.pairwise_iff_getElem.1 G p (j+q) (by omega) (by omega) (by omega)
theorem Yl {L R A D:List α}{i j:Nat}(hc:∀x∈L.take i++R.take j,∀y∈L.drop i++R.drop j,lt x y)
  (G:A.Perm (L.take i++R.take j)) (F:D.Perm (L.drop i++R.drop j)) (W:A.Pairwise lt) (I:D.Pairwise lt):(A++D).Perm (L++R)∧(A++D).Pairwise lt:=by
 refine⟨?_,List.pairwise_append.2 ⟨W,I,λx U y H=>hc x (G.mem_iff.1 U) y (F.mem_iff.1 H)⟩⟩;refine(G.append F).trans ?_;have e:(L.take i++R.take j++(L.drop i++R.drop j)).Perm ((L.take i++L.drop i)++(R.take j++R.drop j)):=by
  rw[List.append_assoc,List.append_assoc];refine List.Perm.append_left _ ?_;rw[←List.append_assoc,←List.append_assoc];exact List.Perm.append_right _ List.perm_append_comm
 rwa [List.take_append_drop,List.take_append_drop]at e
end
end
end Go.Crisp
namespace Go.Proofs.YtcoimlclclnlkaaGreatDoor
open Go Go.Crisp
attribute [local irreducible] ae cF aP stK aA vK qK bD gK dE aS mkK cG Cn DS Ad bsK clK
open _root_.Go.Proofs.Tryz
section
abbrev iv (i:Nat):Value:=.int .i64 (i:Int)
structure Gg (v f:Value)(P:af→Prop)(r:Nat→Int)(n:Nat):Prop where
 call:∀{h:af} {a b:Nat} {K:Value→af→Prop},P h→a<n→b<n→(∀c:Int,(c<0↔r b<r a)→K (.int .i64 c) h)→clK prog f #[iv a,iv b] h K
 fr:∀{h h':af},P h→Fr (blk v) h h'→P h'
structure dj (v:Value)(P:af→Prop)(n:Nat)(h:af)(l:List Nat):Prop where
 own:Own 1 h v l.length (l.map iv)
 ok:P h
 small:l.length<4611686018427387904
 below:∀x∈l,x<n
section
variable {v f:Value}{P:af→Prop}{r:Nat→Int}{n:Nat}
theorem dj.at {h:af}{l:List Nat}(H:dj v P n h l){i:Nat}(hi:i<l.length):∃p,aR 1 v (iv i)=some p∧ldV h p=some (iv l[i]):=by
 obtain⟨p,h1,A,_⟩:=H.own.at1 (k:=.i64) hi;exact⟨p,h1,by rw[A,List.getElem_map]⟩
theorem dj.swap (C:Gg v f P r n){h:af}{A B D:List Nat}{x y:Nat}(H:dj v P n h (A++x::(B++y::D))){i j:Nat}(hi:i=A.length)(hj:j=A.length+1+B.length):
  ∃ p q,aR 1 v (iv i)=some p∧aR 1 v (iv j)=some q∧ldV h p=some (iv x)∧ldV h q=some (iv y)∧∀K:Value→af→Prop,
   (∀h',dj v P n h' (A++y::(B++x::D))→Fr (blk v) h h'→K undef h')→
    (stK 1 p (iv y) h λ_ F=>stK 1 q (iv x) F K)∧(stK 1 q (iv x) h λ_ F=>stK 1 p (iv y) F K):=by
 subst hi hj;have l1:A.length<(A++x::(B++y::D)).length:=by simp
 have l2:A.length+1+B.length<(A++x::(B++y::D)).length:=by simp;omega
 obtain⟨p,h1,F,G⟩:=H.own.at1 (k:=.i64) l1;obtain⟨q,g1,g2,g3⟩:=H.own.at1 (k:=.i64) l2;have e1:(A++x::(B++y::D))[A.length]=x:=by simp
 have e2:(A++x::(B++y::D))[A.length+1+B.length]=y:=by
  apply Option.some.inj;rw[←List.getElem?_eq_getElem,List.getElem?_append_right (by omega),show A.length+1+B.length-A.length=B.length+1 by omega,List.getElem?_cons_succ,List.getElem?_append_right (by omega)];simp
 rw[List.getElem_map,e1]at F;rw[List.getElem_map,e2]at g2;have fin:∀h',Own 1 h' v (A++x::(B++y::D)).length ((A++y::(B++x::D)).map iv)→Fr (blk v) h h'→dj v P n h' (A++y::(B++x::D)):=λh' o f'=>
  ⟨by rw[show(A++y::(B++x::D)).length=(A++x::(B++y::D)).length by simp];exact o,C.fr H.ok f',by have:=H.small;simpa using this,λz hz=>H.below z (by
   simp only[List.mem_append,List.mem_cons]at hz ⊢;rcases hz with h|h|h|h|h<;>simp[h])⟩
 have s1:((A++x::(B++y::D)).map iv).set A.length (iv y)=(A++y::(B++y::D)).map iv:=by simp
 have s2:((A++y::(B++y::D)).map iv).set (A.length+1+B.length) (iv x)=(A++y::(B++x::D)).map iv:=by
  rw[←List.map_set]
  congr 1
  rw[List.set_append_right _ _ (by omega),show A.length+1+B.length-A.length=B.length+1 by omega,List.set_cons_succ,List.set_append_right _ _ (by omega)];simp
 have s3:((A++x::(B++y::D)).map iv).set (A.length+1+B.length) (iv x)=(A++x::(B++x::D)).map iv:=by
  rw[←List.map_set]
  congr 1
  rw[List.set_append_right _ _ (by omega),show A.length+1+B.length-A.length=B.length+1 by omega,List.set_cons_succ,List.set_append_right _ _ (by omega)];simp
 have s4:((A++x::(B++x::D)).map iv).set A.length (iv y)=(A++y::(B++x::D)).map iv:=by simp
 refine⟨p,q,h1,g1,F,g2,λK HK=>⟨?_,?_⟩⟩
 ·refine G _ _ rfl λF o2 f2 z2=>?_
  rw[s1]at o2;obtain⟨q',I,_,W⟩:=o2.at1 (k:=.i64) l2;rw[g1]at I;cases I;refine W _ _ rfl λG L f3 z3=>?_
  rw[s2]at L;exact HK G (fin G L (f2.trans f3)) (f2.trans f3)
 ·refine g3 _ _ rfl λF o2 f2 z2=>?_
  rw[s3]at o2;obtain⟨p',h1',_,U⟩:=o2.at1 (k:=.i64) l1;rw[h1]at h1';cases h1';refine U _ _ rfl λG L f3 z3=>?_
  rw[s4]at L;exact HK G (fin G L (f2.trans f3)) (f2.trans f3)
theorem qM (a b:Nat)(h:a+b≤9223372036854775807):IntKind.i64.wrap ((a:Int)+(b:Int))=((a+b:Nat):Int):=by rw[w64 (by omega) (by omega)];omega
theorem jN (a b:Nat)(h:b≤a)(A:a≤9223372036854775807):IntKind.i64.wrap ((a:Int)-(b:Int))=((a-b:Nat):Int):=by rw[w64 (by omega) (by omega)];omega
theorem pu (a:Nat)(h:a+1≤9223372036854775807):IntKind.i64.wrap ((a:Int)+1)=((a+1:Nat):Int):=by rw[w64 (by omega) (by omega)];omega
theorem DT (a:Nat)(h:1≤a)(A:a≤9223372036854775807):IntKind.i64.wrap ((a:Int)-1)=((a-1:Nat):Int):=by rw[w64 (by omega) (by omega)];omega
theorem zq (C:Gg v f P r n){h:af}{A U M V D:List Nat}(H:dj v P n h (A++U++M++V++D)){a b k:Nat}(ha:a=A.length)(hb:b=A.length+U.length+M.length)(hU:U.length=k)(hV:V.length=k):
  ae prog cB #[v,iv a,iv b,iv k,f] h λ_ h'=>dj v P n h' (A++V++M++U++D)∧Fr (blk v) h h':=by
 apply nj;unfold gZ;have L:=H.small;simp only[List.length_append]at L;refine bB k 0 (λi (_:Unit)=>[iv i]) (λi _ h'=>dj v P n h' (A++V.take i++(U.drop i++M++U.take i++(V.drop i++D)))∧Fr (blk v) h h') () rfl (Nat.zero_le _) ⟨by simpa using H,Fr.refl _ _⟩ λi _ h1 again ρj _ hi ⟨F,W⟩ I=>?_
 try simp only[go_sem]
 refine aj (λh0=>?_) (λh0=>?_)
 ·have G:i<k:=by omega
  have dU:U.drop i=U[i]::U.drop (i+1):=List.drop_eq_getElem_cons (by omega);have dV:V.drop i=V[i]::V.drop (i+1):=List.drop_eq_getElem_cons (by omega);have tU:U.take (i+1)=U.take i++[U[i]]:=List.take_succ_eq_append_getElem (by omega);have tV:V.take (i+1)=V.take i++[V[i]]:=List.take_succ_eq_append_getElem (by omega);have H2:dj v P n h1 ((A++V.take i)++U[i]::((U.drop (i+1)++M++U.take i)++V[i]::(V.drop (i+1)++D))):=by
   rw[dU,dV]at F;simpa only[List.append_assoc,List.cons_append,List.nil_append]using F
  obtain⟨p,q,e1,e2,e3,e4,st⟩:=H2.swap C (i:=a+i) (j:=b+i) (by rw[List.length_append,List.length_take];omega) (by simp only[List.length_append,List.length_take,List.length_drop];omega);refine aG (λh'=>h'=h1) rfl ?_;rw[qM a i (by omega),qM b i (by omega)];simp only[go_sem,e1,e2];refine ao (iv V[i]) (λh' e=>by rw[e];exact e4) ?_;refine ao (iv U[i]) (λh' e=>by rw[e];exact e3) ?_;refine(st _ λh3 H3 F3=>?_).1;rw[pu i (by omega)];refine I () h3 G ⟨?_,W.trans F3⟩;rw[tU,tV];simpa only[List.append_assoc,List.cons_append,List.nil_append]using H3
 ·have:i=k:=by omega
  subst this;rw[List.take_of_length_le (by omega),List.take_of_length_le (by omega),List.drop_eq_nil_of_le (by omega),List.drop_eq_nil_of_le (by omega)]at F;exact⟨by simpa using F,W⟩
theorem Vt (C:Gg v f P r n){h:af}{A U V D:List Nat}(H:dj v P n h (A++U++V++D)){a m b:Nat}(ha:a=A.length)(hm:m=A.length+U.length)(hb:b=A.length+U.length+V.length)(hU:0<U.length)(hV:0<V.length):
  ae prog fY #[v,iv a,iv m,iv b,f] h λ_ h'=>dj v P n h' (A++V++U++D)∧Fr (blk v) h h':=by
 apply qI;unfold je;have al:=H.small;simp only[List.length_append]at al;simp only[fU,ah];rw[jN m a (by omega) (by omega),jN b m (by omega) (by omega)];refine cP (λd xs h'=>∃(P1 G F L:List Nat),d=G.length+F.length∧xs=[iv G.length,iv F.length]∧0<G.length∧0<F.length∧dj v P n h' (P1++G++F++L)∧Fr (blk v) h h'∧m=P1.length+G.length∧P1++F++G++L=A++V++U++D)
  (U.length+V.length) ⟨A,U,V,D,rfl,by rw[show m-a=U.length by omega,show b-m=V.length by omega],hU,hV,H,Fr.refl _ _,hm,rfl⟩ ?_
 rintro d xs ρj h1 again ⟨P1,G,F,L,rfl,rfl,u0,v0,H1,F1,an,hg⟩ ab;have aa:=H1.small;simp only[List.length_append]at aa;simp only[gJ,vy,vC,ah];by_cases ad:G.length=F.length
 ·have e:((G.length:Int)=(F.length:Int))=True:=eq_true (by omega);simp only[go_sem,e];rw[jN m G.length (by omega) (by omega)];refine(zq C (A:=P1) (U:=G) (M:=[]) (V:=F) (D:=L) (k:=G.length) (by simpa using H1) (by omega) (by simp;omega) rfl ad.symm).mono λw h2 ⟨H2,F2⟩=>?_
  refine⟨?_,F1.trans F2⟩;rw[←hg];simpa using H2
 ·have e:((G.length:Int)=(F.length:Int))=False:=eq_false (by omega);simp only[go_sem,e];refine aj (λh0=>?_) (λh0=>?_)
  ·rw[jN m G.length (by omega) (by omega)];have I:G=G.take F.length++G.drop F.length:=(List.take_append_drop _ _).symm;have W:(G.take F.length).length=F.length:=by rw[List.length_take];omega
   have l2:(G.drop F.length).length=G.length-F.length:=by rw[List.length_drop]
   refine(zq C (A:=P1) (U:=G.take F.length) (M:=G.drop F.length) (V:=F) (D:=L) (k:=F.length) (by rw[List.append_assoc P1,←I];exact H1) (by omega) (by omega) W rfl).mono λw h2 ⟨H2,F2⟩=>?_
   try simp only[go_sem]
   rw[jN G.length F.length (by omega) (by omega)];refine ab _ _ (G.length-F.length+F.length) (by omega) ⟨P1++F,G.drop F.length,G.take F.length,L,by rw[W,l2],by rw[W,l2],by omega,by omega,by simpa using H2,F1.trans F2,by rw[List.length_append];omega,?_⟩;rw[←hg];simp only[List.append_assoc];rw[←List.append_assoc (G.take _),←I]
  ·rw[jN m G.length (by omega) (by omega),qM m F.length (by omega),jN (m+F.length) G.length (by omega) (by omega)];have I:F=F.take (F.length-G.length)++F.drop (F.length-G.length):=(List.take_append_drop _ _).symm;have W:(F.take (F.length-G.length)).length=F.length-G.length:=by rw[List.length_take];omega
   have l2:(F.drop (F.length-G.length)).length=G.length:=by rw[List.length_drop];omega
   refine(zq C (A:=P1) (U:=G) (M:=F.take (F.length-G.length)) (V:=F.drop (F.length-G.length)) (D:=L) (k:=G.length) (by
    have e:P1++G++F.take (F.length-G.length)++F.drop (F.length-G.length)++L=P1++G++F++L:=by
     conv=>rhs;rw[I]
     simp only[List.append_assoc]
    rw[e];exact H1) (by omega) (by omega) rfl l2).mono λw h2 ⟨H2,F2⟩=>?_
   try simp only[go_sem]
   rw[jN F.length G.length (by omega) (by omega)];refine ab _ _ (G.length+(F.length-G.length)) (by omega) ⟨P1,F.drop (F.length-G.length),F.take (F.length-G.length),G++L,by rw[W,l2],by rw[W,l2],by omega,by omega,by simpa using H2,F1.trans F2,by omega,?_⟩;rw[←hg];simp only[List.append_assoc];rw[←List.append_assoc (F.take _),←I]
end
end
section
theorem D8 {i j:Nat}{K:Value→Prop}(h:i+j<9223372036854775808):(vK (ag .i .add (iv i) (iv j)) λD=>vK (dY .u64 D) λF=>vK (ag .i .shr F (.int .u64 1)) λA=>vK (dY .i64 A) K)=K (iv ((i+j)/2)):=by
 rw[cO,ah,qM i j (by omega),zn,ah,eO (by omega),show(1:Int)=((1:Nat):Int)from rfl,kA _ (by omega),ah,zn,ah,w64 (by omega) (by omega)]
section
variable {v f:Value}{P:af→Prop}{r:Nat→Int}{n:Nat}
theorem pD {x y:Nat}(h:x<y):cN r y x↔r x<r y:=by unfold cN;omega
theorem Qy {D F:List Nat}{x:Nat}(A:(D++F).Pairwise (cN r))(h1:∀y∈D,cN r y x)(I:∀y∈F,cN r x y):(D++x::F).Pairwise (cN r):=by
 rw[List.pairwise_append]at A ⊢;refine⟨A.1,List.pairwise_cons.2 ⟨I,A.2.1⟩,λy H z G=>?_⟩;rcases List.mem_cons.1 G with rfl|G
 ·exact h1 y H
 ·exact A.2.2 y H z G
theorem Tu {F:List Nat}{y x:Nat}(D:(F++[y]).Pairwise (cN r))(h:cN r y x):∀z∈F++[y],cN r z x:=by
 rw[List.pairwise_append]at D;intro z A;rcases List.mem_append.1 A with A|A
 ·exact jx (D.2.2 z A y (by simp)) h
 ·rw[List.mem_singleton.1 A];exact h
theorem Gd (C:Gg v f P r n){h:af}{A M D:List Nat}(H:dj v P n h (A++M++D)){a b:Nat}(ha:a=A.length)(hb:b=A.length+M.length)(au:M.Pairwise (· < ·)):
  ae prog cJ #[v,iv a,iv b,f] h λ_ h'=>∃M':List Nat,M'.Perm M∧M'.Pairwise (cN r)∧dj v P n h' (A++M'++D)∧Fr (blk v) h h':=by
 apply kR;unfold fR;have ay:=H.small;simp only[List.length_append]at ay;rw[cO,ah,pu a (by omega)];refine bB (M.length-1) 0 (λk (_:Unit)=>[iv (a+1+k)]) (λk _ h'=>∃S:List Nat,S.Perm (M.take (k+1))∧S.Pairwise (cN r)∧dj v P n h' (A++S++M.drop (k+1)++D)∧Fr (blk v) h h') () rfl (Nat.zero_le _)
  ⟨M.take 1,List.Perm.refl _,?_,by rw[List.append_assoc A,List.take_append_drop];exact H,Fr.refl _ _⟩ λk _ h1 again ρj _ hk ⟨S,hp,hs,H1,F1⟩ aw=>?_
 ·cases M with
  |nil=>simp
  |cons x M=>simp
 simp only[gJ,cj,ah];refine aj (λh0=>?_) (λh0=>?_)
 ·have W:k+1<M.length:=by omega
  have dM:M.drop (k+1)=M[k+1]::M.drop (k+1+1):=List.drop_eq_getElem_cons W;have tM:M.take (k+1+1)=M.take (k+1)++[M[k+1]]:=List.take_succ_eq_append_getElem W;have a7:S.length=k+1:=by rw[hp.length_eq,List.length_take];omega
  have a8:∀y∈S,y<M[k+1]:=λy hy=>by
   have:=hp.mem_iff.1 hy;obtain⟨i,hi,rfl⟩:=List.mem_iff_getElem.1 this;rw[List.length_take]at hi;rw[List.getElem_take];exact List.pairwise_iff_getElem.1 au i (k+1) (by omega) W (by omega)
  generalize M[k+1]=x at*;refine cP (λd xs h'=>∃F G:List Nat,d=F.length∧xs=[iv (a+F.length)]∧S=F++G∧(∀y∈G,cN r x y)∧dj v P n h' (A++F++x::(G++M.drop (k+1+1)++D))∧Fr (blk v) h h') S.length
   ⟨S,[],rfl,by rw[a7];congr 2;omega,by simp,by simp,by rw[dM]at H1;simpa only[List.append_assoc,List.cons_append,List.nil_append]using H1,F1⟩ ?_
  rintro d xs ρj2 L ar ⟨F,G,rfl,rfl,rfl,hx,U,F2⟩ an;simp only[gJ,vD,ah];have iU:(∀y∈F,cN r y x)→dj v P n L (A++F++x::(G++M.drop (k+1+1)++D))→Fr (blk v) h L→again [.int .i64 (IntKind.i64.wrap (((a+1+k:Nat):Int)+1))] L:=by
   intro g1 g2 g3;rw[pu (a+1+k) (by omega),show a+1+k+1=a+1+(k+1)by omega];refine aw () L (by omega) ⟨F++x::G,?_,Qy hs g1 hx,by simpa only[List.append_assoc,List.cons_append,List.nil_append]using g2,g3⟩;rw[tM];exact List.perm_middle.trans ((List.Perm.cons _ hp).trans (List.perm_append_comm (l₁:=[x])))
  refine aG (λh'=>h'=L) rfl ?_;rcases List.eq_nil_or_concat F with rfl|⟨F,y,rfl⟩
  ·have e:((a:Int)<((a+([]:List Nat).length:Nat):Int))=False:=eq_false (by simp);simp only[go_sem,e];refine ao undef (λ_ _=>rfl) ?_;refine ao undef (λ_ _=>rfl) ?_
   try simp only[go_sem]
   exact iU (by simp) U F2
  ·have ab:(F.concat y).length=F.length+1:=by simp
   have ad:y<x:=a8 y (by simp);have al:=U.small;simp only[List.length_append,List.length_cons,ab]at al;have H3:dj v P n L ((A++F)++y::([]++x::(G++M.drop (k+1+1)++D))):=by
    simpa only[List.concat_eq_append,List.append_assoc,List.cons_append,List.nil_append]using U
   obtain⟨p,q,e1,e2,e3,e4,st⟩:=H3.swap C (i:=a+F.length) (j:=a+(F.length+1)) (by rw[List.length_append];omega) (by rw[List.length_append,List.length_nil];omega);have e:((a:Int)<((a+(F.length+1):Nat):Int))=True:=eq_true (by omega);have es:IntKind.i64.wrap (((a+(F.length+1):Nat):Int)-1)=((a+F.length:Nat):Int):=by rw[DT _ (by omega) (by omega)];congr 1
   simp only[go_sem,e,ab,es,e1,e2];refine ao (iv x) (λh' e=>by rw[e];exact e4) ?_;refine ao (iv y) (λh' e=>by rw[e];exact e3) ?_;refine C.call U.ok (U.below x (by simp)) (U.below y (by simp)) λc hc=>?_
   simp only[go_sem];have ax:(F++[y]).Pairwise (cN r):=by
    have:=(List.pairwise_append.1 hs).1;simpa only[List.concat_eq_append]using this
   refine aj (λI=>?_) (λI=>?_)
   ·refine aG (λh'=>h'=L) rfl ?_
    try simp only[go_sem,e1,e2]
    refine ao (iv y) (λh' e=>by rw[e];exact e3) ?_;refine ao (iv x) (λh' e=>by rw[e];exact e4) ?_;refine(st _ λh3 H4 F3=>?_).2;refine an _ h3 F.length (by omega) ⟨F,y::G,rfl,rfl,by simp[List.concat_eq_append],λz hz=>?_,by simpa only[List.append_assoc,List.cons_append,List.nil_append]using H4,F2.trans F3⟩;rcases List.mem_cons.1 hz with rfl|hz
    ·exact(pD ad).2 (hc.1 I)
    ·exact hx z hz
   ·refine iU ?_ U F2;have hl:cN r y x:=by
     have:¬cN r x y:=λg=>I (hc.2 ((pD ad).1 g))
     exact(jy r (show y≠x by omega)).resolve_right this
    have:=Tu ax hl;simpa only[List.concat_eq_append]using this
 ·have aa:M.length≤k+1:=by omega
  refine⟨S,?_,hs,?_,F1⟩
  ·rw[List.take_of_length_le aa]at hp;exact hp
  ·rw[List.drop_eq_nil_of_le aa]at H1;simpa using H1
theorem JK (C:Gg v f P r n):∀(N:Nat) {h:af} {A L R D:List Nat} (H:dj v P n h (A++L++R++D)) {a m b:Nat} (ha:a=A.length) (hm:m=A.length+L.length) (hb:b=A.length+L.length+R.length)
  (hL:0<L.length) (hR:0<R.length) (sL:L.Pairwise (cN r)) (sR:R.Pairwise (cN r)) (al:∀x∈L,∀y∈R,x<y) (hN:L.length+R.length≤N),
  ae prog bK #[v,iv a,iv m,iv b,f] h λ_ h'=>∃S:List Nat,S.Perm (L++R)∧S.Pairwise (cN r)∧dj v P n h' (A++S++D)∧Fr (blk v) h h':=by
 intro N;induction N with
 |zero=>intro h A L R D H a m b ha hm hb hL hR sL sR al hN;omega
 |succ N ih=>
 intro h A L R D H a m b ha hm hb hL hR sL sR al hN;apply pe;unfold iq;have c3:=H.small;simp only[List.length_append]at c3
 -- elements of the two parts
 have bi:∀{h':af},dj v P n h' (A++L++R++D)→∀k (hk:k<L.length),∃p,aR 1 v (iv (a+k))=some p∧ldV h' p=some (iv L[k])∧L[k]<n:=λH' k hk=>by
  obtain⟨p,W,e2⟩:=H'.at (i:=a+k) (by simp only[List.length_append];omega);have e:(A++L++R++D)[a+k]'(by simp only[List.length_append];omega)=L[k]:=by
   apply Option.some.inj;rw[←List.getElem?_eq_getElem,List.append_assoc,List.append_assoc,List.getElem?_append_right (by omega),show a+k-A.length=k by omega,List.getElem?_append_left hk,List.getElem?_eq_getElem hk]
  exact⟨p,W,by rw[e2,e],H'.below _ (by simp[List.getElem_mem])⟩
 have ay:∀{h':af},dj v P n h' (A++L++R++D)→∀k (hk:k<R.length),∃p,aR 1 v (iv (m+k))=some p∧ldV h' p=some (iv R[k])∧R[k]<n:=λH' k hk=>by
  obtain⟨p,W,e2⟩:=H'.at (i:=m+k) (by simp only[List.length_append];omega);have e:(A++L++R++D)[m+k]'(by simp only[List.length_append];omega)=R[k]:=by
   apply Option.some.inj;rw[←List.getElem?_eq_getElem,List.append_assoc,List.getElem?_append_right (by simp only[List.length_append];omega),List.length_append,show m+k-(A.length+L.length)=k by omega,List.getElem?_append_left hk,List.getElem?_eq_getElem hk]
  exact⟨p,W,by rw[e2,e],H'.below _ (by simp[List.getElem_mem])⟩
 simp only[fU,si,ah];rw[jN m a (by omega) (by omega),jN b m (by omega) (by omega)];refine aj (λh1=>?_) (λh1=>?_)
 ·-- one on the left
  have ci:L.length=1:=by omega
  obtain⟨x,rfl⟩:=List.length_eq_one_iff.1 ci;refine cP (λd xs h'=>h'=h∧∃i j:Nat,d=j-i∧xs=[iv (m+i),iv (m+j)]∧i≤j∧j≤R.length∧(∀h0:0<i,∀hi:i-1<R.length,cN r R[i-1] x)∧(∀hj:j<R.length,¬cN r R[j] x)) R.length
   ⟨rfl,0,R.length,rfl,by rw[show b=m+R.length by omega];rfl,by omega,Nat.le_refl _,by omega,by omega⟩ ?_
  rintro d xs ρj h' again ⟨hh,i,j,rfl,rfl,b5,hj,c1,c2⟩ an;subst hh;simp only[gJ,vy,cj,ah];refine aj (λI=>?_) (λI=>?_)
  ·rw[D8 (by omega),show(m+i+(m+j))/2=m+(i+j)/2 by omega];have hk:(i+j)/2<R.length:=by omega
   obtain⟨p,W,e2,b1⟩:=ay H ((i+j)/2) hk;obtain⟨q,g1,g2,b2⟩:=bi H 0 (by omega);simp only[Nat.add_zero,List.getElem_cons_zero]at g1 g2 b2;refine aG (λI=>I=h') rfl ?_;simp only[W,g1,ah];refine ao _ (λI e=>by rw[e];exact e2) ?_;refine ao _ (λI e=>by rw[e];exact g2) ?_;refine C.call H.ok b1 b2 λc hc=>?_
   have ar:x<R[(i+j)/2]:=al x (by simp) _ (List.getElem_mem _)
   try simp only[go_sem]
   refine aj (λG=>?_) (λG=>?_)
   ·rw[pu _ (by omega)];refine an _ _ (j-((i+j)/2+1)) (by omega) ⟨rfl,(i+j)/2+1,j,rfl,rfl,by omega,hj,λ_ _=>?_,c2⟩;exact(pD ar).2 (hc.1 G)
   ·refine an _ _ ((i+j)/2-i) (by omega) ⟨rfl,i,(i+j)/2,rfl,rfl,by omega,by omega,c1,λ_ g=>G (hc.2 ((pD ar).1 g))⟩
  ·have au:i=j:=by omega
   subst au
   -- it goes to its place
   refine bB i 0 (λc (_:Unit)=>[iv (a+c)]) (λc _ I=>dj v P n I (A++R.take c++x::(R.drop c++D))∧Fr (blk v) h' I) () rfl (Nat.zero_le _) ⟨by simpa using H,Fr.refl _ _⟩ λc _ I a7 ρj2 _ hc ⟨H2,F2⟩ ax=>?_
   simp only[gJ,fU,cj,ah];rw[DT _ (by omega) (by omega)];have lA:A.length+[x].length=A.length+1:=rfl;refine aj (λG=>?_) (λG=>?_)
   ·have c4:c<i:=by omega
    have dR:R.drop c=R[c]::R.drop (c+1):=List.drop_eq_getElem_cons (by omega);have tR:R.take (c+1)=R.take c++[R[c]]:=List.take_succ_eq_append_getElem (by omega);have H3:dj v P n I ((A++R.take c)++x::([]++R[c]::(R.drop (c+1)++D))):=by
     rw[dR]at H2;simpa only[List.append_assoc,List.cons_append,List.nil_append]using H2
    obtain⟨p,q,W,e2,e3,e4,st⟩:=H3.swap C (i:=a+c) (j:=a+c+1) (by rw[List.length_append,List.length_take];omega) (by rw[List.length_append,List.length_take,List.length_nil];omega);refine aG (λG=>G=I) rfl ?_;rw[cO,ah,pu _ (by omega)];simp only[go_sem,W,e2];refine ao _ (λG e=>by rw[e];exact e4) ?_;refine ao _ (λG e=>by rw[e];exact e3) ?_;refine(st _ λG H4 F3=>?_).1
    try rw[pu _ (by omega)]
    refine ax () G c4 ⟨?_,F2.trans F3⟩;rw[tR];simpa only[List.append_assoc,List.cons_append,List.nil_append]using H4
   ·have:c=i:=by omega
    subst this;refine⟨R.take c++x::R.drop c,?_,?_,by simpa only[List.append_assoc,List.cons_append,List.nil_append]using H2,F2⟩
    ·refine List.perm_middle.trans ?_;rw[List.take_append_drop];exact List.Perm.refl _
    ·refine Qy (by rw[List.take_append_drop];exact sR) (λy hy=>?_) (λy hy=>?_)
     ·obtain⟨k,hk,rfl⟩:=List.mem_iff_getElem.1 hy;rw[List.length_take]at hk;rw[List.getElem_take];exact z8 (lt:=cN r) jx sR (i:=k) (j:=c-1) (by omega) (by omega) (c1 (by omega) (by omega))
     ·obtain⟨k,hk,rfl⟩:=List.mem_iff_getElem.1 hy;rw[List.length_drop]at hk;rw[List.getElem_drop];have hx:cN r x R[c]:=(jy r (show x≠R[c]by have:=al x (by simp) _ (List.getElem_mem (l:=R) (n:=c) (by omega));omega)).resolve_right (c2 (by omega));exact Aa (lt:=cN r) jx sR (i:=c) (j:=c+k) (by omega) (by omega) hx
 refine aj (λI=>?_) (λI=>?_)
 ·-- one on the right
  have c6:R.length=1:=by omega
  obtain⟨y,rfl⟩:=List.length_eq_one_iff.1 c6;refine cP (λd xs h'=>h'=h∧∃i j:Nat,d=j-i∧xs=[iv (a+i),iv (a+j)]∧i≤j∧j≤L.length∧(∀h0:0<i,∀hi:i-1<L.length,cN r L[i-1] y)∧(∀hj:j<L.length,¬cN r L[j] y)) L.length
   ⟨rfl,0,L.length,rfl,by rw[show m=a+L.length by omega];rfl,by omega,Nat.le_refl _,by omega,by omega⟩ ?_
  rintro d xs ρj h' again ⟨hh,i,j,rfl,rfl,b5,hj,c1,c2⟩ an;subst hh;simp only[gJ,vy,cj,ah];refine aj (λG=>?_) (λG=>?_)
  ·rw[D8 (by omega),show(a+i+(a+j))/2=a+(i+j)/2 by omega];have hk:(i+j)/2<L.length:=by omega
   obtain⟨p,W,e2,b1⟩:=bi H ((i+j)/2) hk;obtain⟨q,g1,g2,b2⟩:=ay H 0 (by simp);simp only[Nat.add_zero,List.getElem_cons_zero]at g1 g2 b2;refine aG (λI=>I=h') rfl ?_;simp only[W,g1,ah];refine ao _ (λI e=>by rw[e];exact g2) ?_;refine ao _ (λI e=>by rw[e];exact e2) ?_;refine C.call H.ok b2 b1 λc hc=>?_
   have ar:L[(i+j)/2]<y:=al _ (List.getElem_mem _) y (by simp);simp only[go_sem];refine aj (λU=>?_) (λU=>?_)
   ·rw[pu _ (by omega)];refine an _ _ (j-((i+j)/2+1)) (by omega) ⟨rfl,(i+j)/2+1,j,rfl,rfl,by omega,hj,λ_ _=>?_,c2⟩;have e:(i+j)/2+1-1=(i+j)/2:=by omega
    simp only[e];exact(jy r (by omega)).resolve_right λg=>U (hc.2 ((pD ar).1 g))
   ·refine an _ _ ((i+j)/2-i) (by omega) ⟨rfl,i,(i+j)/2,rfl,rfl,by omega,by omega,c1,λ_ g=>?_⟩;exact Jh g ((pD ar).2 (hc.1 (Decidable.of_not_not U)))
  ·have au:i=j:=by omega
   subst au;refine cP (λd xs I=>∃c:Nat,d=c∧xs=[iv (a+c)]∧i≤c∧c≤L.length∧dj v P n I (A++L.take c++y::(L.drop c++D))∧Fr (blk v) h' I) L.length
    ⟨L.length,rfl,by rw[show m=a+L.length by omega],hj,Nat.le_refl _,by rw[List.take_of_length_le (Nat.le_refl _),List.drop_eq_nil_of_le (Nat.le_refl _)];simpa using H,Fr.refl _ _⟩ ?_
   rintro d xs ρj2 I a7 ⟨c,be,rfl,dz,ea,H2,F2⟩ ax;have be:=be.symm;subst be;simp only[gJ,vD,ah];refine aj (λU=>?_) (λU=>?_)
   ·obtain⟨c,rfl⟩:∃e,c=e+1:=⟨c-1,by omega⟩
    have dL:L.drop c=L[c]::L.drop (c+1):=List.drop_eq_getElem_cons (by omega);have tL:L.take (c+1)=L.take c++[L[c]]:=List.take_succ_eq_append_getElem (by omega);have H3:dj v P n I ((A++L.take c)++L[c]::([]++y::(L.drop (c+1)++D))):=by
     rw[tL]at H2;simpa only[List.append_assoc,List.cons_append,List.nil_append]using H2
    obtain⟨p,q,W,e2,e3,e4,st⟩:=H3.swap C (i:=a+c) (j:=a+(c+1)) (by rw[List.length_append,List.length_take];omega) (by rw[List.length_append,List.length_take,List.length_nil];omega);have es:IntKind.i64.wrap (((a+(c+1):Nat):Int)-1)=((a+c:Nat):Int):=by rw[DT _ (by omega) (by omega)];congr 1
    refine aG (λG=>G=I) rfl ?_;simp only[go_sem,es,W,e2];refine ao _ (λG e=>by rw[e];exact e3) ?_;refine ao _ (λG e=>by rw[e];exact e4) ?_;refine(st _ λG H4 F3=>?_).2;refine ax _ G c (by omega) ⟨c,rfl,rfl,by omega,by omega,?_,F2.trans F3⟩;rw[dL];simpa only[List.append_assoc,List.cons_append,List.nil_append]using H4
   ·have:c=i:=by omega
    subst this;refine⟨L.take c++y::L.drop c,?_,?_,by simpa only[List.append_assoc,List.cons_append,List.nil_append]using H2,F2⟩
    ·refine List.perm_middle.trans ?_;rw[List.take_append_drop];exact List.perm_append_comm (l₁:=[y])
    ·refine Qy (by rw[List.take_append_drop];exact sL) (λz hz=>?_) (λz hz=>?_)
     ·obtain⟨k,hk,rfl⟩:=List.mem_iff_getElem.1 hz;rw[List.length_take]at hk;rw[List.getElem_take];exact z8 (lt:=cN r) jx sL (i:=k) (j:=c-1) (by omega) (by omega) (c1 (by omega) (by omega))
     ·obtain⟨k,hk,rfl⟩:=List.mem_iff_getElem.1 hz;rw[List.length_drop]at hk;rw[List.getElem_drop];have hx:cN r y L[c]:=(jy r (show y≠L[c]by have:=al _ (List.getElem_mem (l:=L) (n:=c) (by omega)) y (by simp);omega)).resolve_right (c2 (by omega));exact Aa (lt:=cN r) jx sL (i:=c) (j:=c+k) (by omega) (by omega) hx
 -- cut in the middle
 rw[D8 (by omega)];obtain⟨F,b7⟩:∃F,F=(a+b)/2:=⟨_,rfl⟩
 rw[←b7,cO,ah,qM F m (by omega)];obtain⟨s0,a9⟩:∃s0,s0=if F<m then F+m-b else a:=⟨_,rfl⟩
 obtain⟨r0,bd⟩:∃r0,r0=if F<m then F else m:=⟨_,rfl⟩
 have ab:(F<m→s0=F+m-b)∧(¬F<m→s0=a):=⟨λh=>by rw[a9,if_pos h],λh=>by rw[a9,if_neg h]⟩
 have aa:(F<m→r0=F)∧(¬F<m→r0=m):=⟨λh=>by rw[bd,if_pos h],λh=>by rw[bd,if_neg h]⟩
 clear a9 bd
 refine aV (λxs h'=>h'=h∧xs=[iv s0,iv r0]) ?_ ?_
 ·rw[vD,ah];refine aj (λG=>?_) (λG=>?_)
  ·rw[fU,ah,jN (F+m) b (by omega) (by omega)];exact⟨rfl,by rw[ab.1 (by omega),aa.1 (by omega)]⟩
  ·exact⟨rfl,by rw[ab.2 (by omega),aa.2 (by omega)]⟩
 rintro xs ρj h' ⟨hh,rfl⟩;subst hh;simp only[gJ,vy];rw[fU,ah,DT (F+m) (by omega) (by omega)];have cw:a≤s0∧s0≤r0∧r0≤m∧r0≤F∧F+m-b≤s0:=by
  by_cases G:F<m
  ·have W:=ab.1 G;have e2:=aa.1 G;omega
  ·have W:=ab.2 G;have e2:=aa.2 G;omega
 -- which ones come ahead
 have bg:∀c:Nat,s0≤c→c<r0→∃(h1:c-a<L.length) (I:F-1-c<R.length),∃p q,aR 1 v (iv c)=some p∧ldV h' p=some (iv L[c-a])∧aR 1 v (iv (F+m-1-c))=some q∧ldV h' q=some (iv R[F-1-c])∧L[c-a]<n∧R[F-1-c]<n:=by
  intro c h1 I;have l1:c-a<L.length:=by omega
  have l2:F-1-c<R.length:=by omega
  obtain⟨p,W,e2,b1⟩:=bi H (c-a) l1;obtain⟨q,g1,g2,b2⟩:=ay H (F-1-c) l2;rw[show a+(c-a)=c by omega]at W;rw[show m+(F-1-c)=F+m-1-c by omega]at g1;exact⟨l1,l2,p,q,W,e2,g1,g2,b1,b2⟩
 refine cP (λd xs I=>I=h'∧∃i j:Nat,d=j-i∧xs=[iv i,iv j]∧s0≤i∧i≤j∧j≤r0∧(∀h0:s0<i,∀(g1:i-1-a<L.length) (g2:F-i<R.length),cN r L[i-1-a] R[F-i])∧(j<r0→∀(g1:j-a<L.length) (g2:F-1-j<R.length),cN r R[F-1-j] L[j-a])) (r0-s0)
  ⟨rfl,s0,r0,rfl,rfl,Nat.le_refl _,cw.2.1,Nat.le_refl _,by omega,by omega⟩ ?_
 rintro d xs ρj2 I again ⟨hh,i,j,rfl,rfl,c8,b5,cp,c1,c2⟩ an;subst hh;simp only[gJ,vy,cj,ah];refine aj (λG=>?_) (λG=>?_)
 ·rw[D8 (by omega)];obtain⟨l1,l2,p,q,W,e2,g1,g2,b1,b2⟩:=bg ((i+j)/2) (by omega) (by omega);obtain⟨c,hc⟩:∃c,c=(i+j)/2:=⟨_,rfl⟩
  simp only[←hc]at l1 l2 W e2 g1 g2 b1 b2 ⊢;have ar:L[c-a]<R[F-1-c]:=al _ (List.getElem_mem _) _ (List.getElem_mem _);refine aG (λU=>U=I) rfl ?_;simp only[fU,ah];rw[jN (F+m-1) c (by omega) (by omega)];simp only[W,g1,ah];refine ao _ (λG e=>by rw[e];exact g2) ?_;refine ao _ (λG e=>by rw[e];exact e2) ?_;refine C.call H.ok b2 b1 λw hw=>?_
  simp only[go_sem];refine aj (λU=>?_) (λU=>?_)
  ·rw[pu _ (by omega)];refine an _ _ (j-(c+1)) (by omega) ⟨rfl,c+1,j,rfl,rfl,by omega,by omega,cp,λ_ _ _=>?_,c2⟩;have:cN r L[c-a] R[F-1-c]:=(jy r (by omega)).resolve_right λg=>U (hw.2 ((pD ar).1 g))
   have e:F-(c+1)=F-1-c:=by omega
   simp only[e,Nat.add_sub_cancel];exact this
  ·refine an _ _ (c-i) (by omega) ⟨rfl,i,c,rfl,rfl,c8,by omega,by omega,c1,λ_ _ _=>(pD ar).2 (hw.1 (Decidable.of_not_not U))⟩
 -- turned round
 have au:i=j:=by omega
 subst au;obtain⟨p,hp⟩:∃p,p=i-a:=⟨_,rfl⟩
 obtain⟨q,hq⟩:∃q,q=F-i:=⟨_,rfl⟩
 have cr:p≤L.length:=by omega
 have c9:q≤R.length:=by omega
 have x1:∀(g1:0<p) (g2:q<R.length),cN r (L[p-1]'(by omega)) R[q]:=λg1 g2=>by
  have hs:s0<i:=by
   by_cases U:F<m
   ·have:=ab.1 U;omega
   ·have:=ab.2 U;omega
  have:=c1 hs (by omega) (by omega);have W:i-1-a=p-1:=by omega
  simp only[W,←hq]at this;exact this
 have x2:∀(g1:0<q) (g2:p<L.length),cN r (R[q-1]'(by omega)) L[p]:=λg1 g2=>by
  have hs:i<r0:=by
   by_cases U:F<m
   ·have:=aa.1 U;omega
   ·have:=aa.2 U;omega
  have:=c2 hs (by omega) (by omega);have W:F-1-i=q-1:=by omega
  simp only[W,←hp]at this;exact this
 have cu:=cross (lt:=cN r) jx sL sR cr c9 x1 x2;have lp:(L.take p).length=p:=by rw[List.length_take];omega
 have lq:(R.take q).length=q:=by rw[List.length_take];omega
 have ld:(L.drop p).length=L.length-p:=by rw[List.length_drop]
 have lr:(R.drop q).length=R.length-q:=by rw[List.length_drop]
 have eL:L=L.take p++L.drop p:=(List.take_append_drop _ _).symm;have eR:R=R.take q++R.drop q:=(List.take_append_drop _ _).symm;have H0:dj v P n I ((A++L.take p)++L.drop p++R.take q++(R.drop q++D)):=by
  have e:(A++L.take p)++L.drop p++R.take q++(R.drop q++D)=A++L++R++D:=by
   conv=>rhs;rw[eL,eR]
   simp only[List.append_assoc]
  rw[e];exact H
 rw[fU,ah,jN (F+m) i (by omega) (by omega)];refine aV (λ_ G=>dj v P n G (A++L.take p++R.take q++(L.drop p++R.drop q++D))∧Fr (blk v) I G) ?_ ?_
 ·simp only[go_sem];refine aj (λU=>?_) (λU=>?_)
  ·refine(Vt C H0 (a:=i) (m:=m) (b:=F+m-i) (by rw[List.length_append];omega) (by rw[List.length_append];omega) (by rw[List.length_append];omega) (by omega) (by omega)).mono λw G ⟨H3,F3⟩=>?_
   exact⟨by simpa only[List.append_assoc]using H3,F3⟩
  ·refine⟨?_,Fr.refl _ _⟩;by_cases h5:p=L.length
   ·rw[List.drop_eq_nil_of_le (show L.length≤p by omega)]at H0 ⊢;simpa only[List.append_assoc,List.append_nil,List.nil_append]using H0
   ·have:q=0:=by omega
    subst this;simpa only[List.append_assoc,List.take_zero,List.append_nil,List.nil_append]using H0
 rintro xs ρj3 G ⟨H3,F3⟩
 -- the two halves
 have b3:∀x∈L.take p,∀y∈R.take q,x<y:=λx hx y hy=>al x (List.mem_of_mem_take hx) y (List.mem_of_mem_take hy)
 have b4:∀x∈L.drop p,∀y∈R.drop q,x<y:=λx hx y hy=>al x (List.mem_of_mem_drop hx) y (List.mem_of_mem_drop hy)
 have bv:=sL.sublist (List.take_sublist p L);have ca:=sL.sublist (List.drop_sublist p L);have b0:=sR.sublist (List.take_sublist q R);have bo:=sR.sublist (List.drop_sublist q R);have ad:∀(S1:List Nat) (U:af),S1.Perm (L.take p++R.take q)→S1.Pairwise (cN r)→dj v P n U (A++S1++(L.drop p++R.drop q++D))→Fr (blk v) I U→
   vK (ag .i .lss (iv F) (iv (F+m-i))) λaw=>vK (gV aw true (some (iv (F+m-i)))) λcc=>vK (gV aw true (some (iv b))) λb8=>vK (gV aw true (ag .i .lss cc b8)) λb6=>vK (az aw b6 (.bool false)) λbk=>
    aA bk (ae prog bK #[v,iv F,iv (F+m-i),iv b,f] U λdl a8=>∃S:List Nat,S.Perm (L++R)∧S.Pairwise (cN r)∧dj v P n a8 (A++S++D)∧Fr (blk v) I a8)
     (∃S:List Nat,S.Perm (L++R)∧S.Pairwise (cN r)∧dj v P n U (A++S++D)∧Fr (blk v) I U):=by
  intro S1 U cb ct H4 F4;have eb:S1.length=p+q:=by rw[cb.length_eq,List.length_append];omega
  have fin:∀(S2:List Nat) (h5:af),S2.Perm (L.drop p++R.drop q)→S2.Pairwise (cN r)→dj v P n h5 (A++S1++S2++D)→Fr (blk v) I h5→∃S:List Nat,S.Perm (L++R)∧S.Pairwise (cN r)∧dj v P n h5 (A++S++D)∧Fr (blk v) I h5:=by
   intro S2 h5 c0 c7 H5 F5;obtain⟨m1,m2⟩:=Yl (lt:=cN r) cu cb c0 ct c7;exact⟨S1++S2,m1,m2,by simpa only[List.append_assoc]using H5,F5⟩
  simp only[go_sem];refine aj (λh6=>?_) (λh6=>?_)
  ·refine(ih (A:=A++S1) (L:=L.drop p) (R:=R.drop q) (D:=D) (by simpa only[List.append_assoc]using H4) (by rw[List.length_append];omega) (by rw[List.length_append];omega) (by rw[List.length_append];omega) (by omega) (by omega) ca bo b4 (by omega)).mono λw h5 ⟨S2,g1,g2,g3,g4⟩=>?_
   exact fin S2 h5 g1 g2 g3 (F4.trans g4)
  ·by_cases h7:L.length≤p
   ·rw[List.drop_eq_nil_of_le h7]at H4 fin;exact fin (R.drop q) U (by simp) bo (by simpa only[List.append_assoc,List.nil_append]using H4) F4
   ·have h8:R.length≤q:=by omega
    rw[List.drop_eq_nil_of_le h8]at H4 fin;exact fin (L.drop p) U (by simp) ca (by simpa only[List.append_assoc,List.append_nil,List.nil_append]using H4) F4
 simp only[cj,ah];by_cases U:a<i∧i<F
 ·have W:((a:Int)<(i:Int))=True:=eq_true (by omega);have e2:((i:Int)<(F:Int))=True:=eq_true (by omega);simp only[go_sem,W,e2];refine(ih (A:=A) (L:=L.take p) (R:=R.take q) (D:=L.drop p++R.drop q++D) H3 (by omega) (by omega) (by omega) (by omega) (by omega) bv b0 b3 (by omega)).mono λw h5 ⟨S1,g1,g2,g3,g4⟩=>?_
  have:=ad S1 h5 g1 g2 g3 (F3.trans g4);simp only[go_sem]at this ⊢;exact this
 ·have W:((a:Int)<(i:Int)∧(i:Int)<(F:Int))=False:=eq_false (by omega);simp only[go_sem,W];by_cases h5:p=0
  ·subst h5;have:=ad (R.take q) G (by simp) b0 (by simpa only[List.append_assoc,List.take_zero,List.append_nil,List.nil_append]using H3) F3;simp only[go_sem]at this ⊢;exact this
  ·have bc:q=0:=by omega
   have dq:=bc;have:=ad (L.take p) G (by rw[bc];simp) bv (by rw[bc]at H3 ⊢;simpa only[List.append_assoc,List.take_zero,List.append_nil,List.nil_append]using H3) F3;simp only[go_sem]at this ⊢;exact this
end
end
section
def Srt (r:Nat→Int)(lo:Nat)(S:List Nat):Prop:=S.Perm (List.range' lo S.length)∧S.Pairwise (cN r)
theorem Srt.mem {r:Nat→Int}{lo:Nat}{S:List Nat}(H:Srt r lo S){x:Nat}(A:x∈S):lo≤x∧x<lo+S.length:=by
 have:=H.1.mem_iff.1 A;simpa using this
theorem Srt.join {r:Nat→Int}{lo:Nat}{A D S:List Nat}(h1:Srt r lo A)(H:Srt r (lo+A.length) D)(F:S.Perm (A++D))(G:S.Pairwise (cN r)):Srt r lo S:=by
 refine⟨?_,G⟩;have I:S.length=A.length+D.length:=by rw[F.length_eq,List.length_append]
 refine F.trans ((h1.1.append H.1).trans ?_);rw[I,List.range'_append_1]
inductive BS (r:Nat→Int)(B:Nat):Nat→List Nat→Prop
 |nil (lo:Nat):BS r B lo []
 |last (lo:Nat) (S:List Nat):0<S.length→S.length≤B→Srt r lo S→BS r B lo S
 |cons (lo:Nat) (S T:List Nat):S.length=B→Srt r lo S→BS r B (lo+B) T→BS r B lo (S++T)
theorem BS.one {r:Nat→Int}{B lo:Nat}{Y:List Nat}(F:0<B)(H:BS r B lo Y)(D:B≤Y.length):∃S T,Y=S++T∧S.length=B∧Srt r lo S∧BS r B (lo+B) T:=by
 cases H
 ·simp at D;omega
 ·rename_i h0 h1 A;exact⟨Y,[],by simp,by omega,A,.nil _⟩
 ·rename_i S T h0 h1 A;exact⟨S,T,rfl,h0,h1,A⟩
theorem BS.short {r:Nat→Int}{B lo:Nat}{Y:List Nat}(F:0<B)(H:BS r B lo Y)(D:Y.length≤B)(h0:0<Y.length):Srt r lo Y:=by
 cases H
 ·simp at h0
 ·rename_i h0 h1 A;exact A
 ·rename_i S T G h1 A;have:T=[]:=List.eq_nil_of_length_eq_zero (by simp at D;omega);subst this;simpa using h1
section
variable {v f:Value}{P:af→Prop}{r:Nat→Int}{n:Nat}
theorem Vr (C:Gg v f P r n){h:af}{N:Nat}(H:dj v P n h (List.range' 0 N))(hN:N≤1048576):
  ae prog fX #[v,iv N,f] h λ_ h'=>∃S:List Nat,S.Perm (List.range N)∧S.Pairwise (cN r)∧dj v P n h' S∧Fr (blk v) h h':=by
 apply qH;unfold jd;refine cP (λd W h'=>∃(X:List Nat),d=N-X.length∧W=[iv X.length,iv (X.length+20)]∧X.length≤N∧(∀T,BS r 20 X.length T→BS r 20 0 (X++T))∧dj v P n h' (X++List.range' X.length (N-X.length))∧Fr (blk v) h h') N
  ⟨[],rfl,rfl,Nat.zero_le _,λT h=>h,by simpa using H,Fr.refl _ _⟩ ?_
 rintro d W ρj h1 again ⟨X,rfl,rfl,hX,hT,H1,F1⟩ ay;simp only[gJ,vy,Kd,ah];refine aj (λh0=>?_) (λh0=>?_)
 ·have er:List.range' X.length (N-X.length)=List.range' X.length 20++List.range' (X.length+20) (N-(X.length+20)):=by
   rw[List.range'_append_1];congr 1;omega
  have H2:dj v P n h1 (X++List.range' X.length 20++List.range' (X.length+20) (N-(X.length+20))):=by rw[er]at H1;simpa only[List.append_assoc]using H1
  refine(Gd C H2 (a:=X.length) (b:=X.length+20) rfl (by simp) List.pairwise_lt_range').mono λw h2 ⟨M',hp,hs,H3,F2⟩=>?_
  have hM:M'.length=20:=by rw[hp.length_eq];simp
  have hl:(X++M').length=X.length+20:=by rw[List.length_append,hM]
  rw[cO,ah,show(20:Int)=((20:Nat):Int)from rfl,qM _ _ (by omega)];refine ay _ h2 (N-(X++M').length) (by omega) ⟨X++M',rfl,by rw[hl],by omega,λT G=>?_,by rw[hl];exact H3,F1.trans F2⟩;rw[hl]at G;rw[List.append_assoc];exact hT _ (.cons _ M' T hM ⟨by rw[hM];exact hp,hs⟩ G)
 ·refine(Gd C (A:=X) (M:=List.range' X.length (N-X.length)) (D:=[]) (by simpa using H1) (a:=X.length) (b:=N) rfl (by simp;omega) List.pairwise_lt_range').mono λw h2 ⟨M',hp,hs,H3,F2⟩=>?_
  have hM:M'.length=N-X.length:=by rw[hp.length_eq];simp
  rw[List.append_nil]at H3;have ax:BS r 20 0 (X++M'):=by
   refine hT _ ?_;rcases Nat.eq_zero_or_pos M'.length with h3|h3
   ·rw[List.eq_nil_of_length_eq_zero h3];exact .nil _
   ·exact .last _ _ h3 (by omega) ⟨by rw[hM];exact hp,hs⟩
  have ar:(X++M').length=N:=by rw[List.length_append];omega
  generalize X++M'=Y0 at*
  -- blocks that grow
  refine cP (λd W h'=>∃(B:Nat) (Y:List Nat),d=N-B∧W=[iv B]∧0<B∧B≤2097152∧Y.length=N∧BS r B 0 Y∧dj v P n h' Y∧Fr (blk v) h h') (N-20)
   ⟨20,Y0,rfl,rfl,by omega,by omega,ar,ax,H3,F1.trans F2⟩ ?_
  rintro d W ρj2 h3 U ⟨B,Y,rfl,rfl,hB,a8,aa,hY,H4,F3⟩ au;simp only[gJ,cj,ah];refine aj (λh4=>?_) (λh4=>?_)
  ·rw [ks,ah,show(2:Int)*(B:Int)=((2*B:Nat):Int)by omega,w64 (n:=((2*B:Nat):Int)) (by omega) (by omega)];refine cP (λd W h'=>∃(X Z:List Nat),d=Z.length∧W=[iv X.length,iv (X.length+2*B)]∧X.length+Z.length=N∧(∀T,BS r (2*B) X.length T→BS r (2*B) 0 (X++T))∧BS r B X.length Z∧dj v P n h' (X++Z)∧Fr (blk v) h h') N
    ⟨[],Y,aa.symm,by simp,by simpa using aa,λT h=>h,hY,H4,F3⟩ ?_
   rintro d W ρj3 h5 aw ⟨X,Z,rfl,rfl,ab,ad,hZ,H5,F5⟩ an;simp only[gJ,vy,Kd,ah];refine aj (λh6=>?_) (λh6=>?_)
   ·obtain⟨S1,T1,rfl,l1,s1,b1⟩:=hZ.one hB (by omega);rw[List.length_append]at ab;obtain⟨S2,T2,rfl,l2,s2,b2⟩:=b1.one hB (by omega);rw[List.length_append]at ab;rw[cO,ah,qM _ _ (by omega)];refine(JK C (S1.length+S2.length) (A:=X) (L:=S1) (R:=S2) (D:=T2) (by simpa only[List.append_assoc]using H5) (a:=X.length) (m:=X.length+B) (b:=X.length+2*B) rfl (by omega) (by omega) (by omega) (by omega) s1.2 s2.2 (λx hx y hy=>by
     have:=s1.mem hx;have:=s2.mem hy;omega) (Nat.le_refl _)).mono λw h7 ⟨S,F,al,H7,F7⟩=>?_
    have hS:S.length=2*B:=by rw[F.length_eq,List.length_append];omega
    have hl:(X++S).length=X.length+2*B:=by rw[List.length_append,hS]
    rw[cO,ah,qM _ _ (by omega)];refine an _ h7 T2.length (by simp;omega) ⟨X++S,T2,rfl,by rw[hl],by rw[hl];omega,λT G=>?_,by rw[hl,show X.length+2*B=X.length+B+B by omega];exact b2,H7,F5.trans F7⟩;rw[hl]at G;rw[List.append_assoc];exact ad _ (.cons _ S T hS (Srt.join s1 (by rw[l1];exact s2) F al) G)
   ·rw[cO,ah,qM _ _ (by omega),cj,ah];have go:∀(Y':List Nat) (h8:af),Y'.length=N→BS r (2*B) 0 Y'→dj v P n h8 Y'→Fr (blk v) h h8→vK (ag .i .mul (iv B) (.int .i64 2)) λa7=>U [a7] h8:=by
     intro Y' h8 g1 g2 g3 g4;rw[ks,ah,show(B:Int)*2=((2*B:Nat):Int)by omega,w64 (n:=((2*B:Nat):Int)) (by omega) (by omega)];exact au _ h8 (N-2*B) (by omega) ⟨2*B,Y',rfl,rfl,by omega,by omega,g1,g2,g3,g4⟩
    refine aj (λh8=>?_) (λh8=>?_)
    ·obtain⟨S1,T1,rfl,l1,s1,b1⟩:=hZ.one hB (by omega);rw[List.length_append]at ab;have s2:=b1.short hB (by omega) (by omega);refine(JK C (S1.length+T1.length) (A:=X) (L:=S1) (R:=T1) (D:=[]) (by simpa only[List.append_assoc,List.append_nil]using H5) (a:=X.length) (m:=X.length+B) (b:=N) rfl (by omega) (by omega) (by omega) (by omega) s1.2 s2.2 (λx hx y hy=>by
      have:=s1.mem hx;have:=s2.mem hy;omega) (Nat.le_refl _)).mono λw I ⟨S,F,al,H7,F7⟩=>?_
     have hS:S.length=S1.length+T1.length:=by rw[F.length_eq,List.length_append]
     rw[List.append_nil]at H7;exact go (X++S) I (by rw[List.length_append];omega) (ad _ (.last _ S (by omega) (by omega) (Srt.join s1 (by rw[l1];exact s2) F al))) H7 (F5.trans F7)
    ·refine go (X++Z) h5 (by rw[List.length_append];omega) (ad _ ?_) H5 F5;rcases Nat.eq_zero_or_pos Z.length with I|I
     ·rw[List.eq_nil_of_length_eq_zero I];exact .nil _
     ·exact .last _ _ I (by omega) (hZ.short hB (by omega) I)
  ·have:Srt r 0 Y:=by
    rcases Nat.eq_zero_or_pos Y.length with I|I
    ·have:Y=[]:=List.eq_nil_of_length_eq_zero I;subst this;exact⟨by simp,List.Pairwise.nil⟩
    ·exact hY.short hB (by omega) I
   refine⟨Y,?_,this.2,H4,F3⟩;have hp:=this.1;rw[aa]at hp;rw[List.range_eq_range'];exact hp
theorem Ny (C:Gg v f P r n){h:af}{N:Nat}(H:dj v P n h (List.range' 0 N))(F:N≤1048576):
  ae prog dD #[v,f] h λ_ h'=>∃S:List Nat,S.Perm (List.range N)∧S.Pairwise (cN r)∧dj v P n h' S∧Fr (blk v) h h':=by
 apply ko;unfold fO;have A:=H.own;rw[List.length_range']at A;obtain⟨a,cap,e⟩:=A.isSl;have D:aq v=some (iv N):=by rw[e];rfl
 rw[D,ah];exact Vr C H F
end
end
abbrev Lk:Value:=.int .i64 0
structure Mk3 (n:Nat)(h0:af)(rows:List Value)(vr:Option (Nat×TypeId×Value))(h:af):Prop where
 ext:Ext h0 h
 own:∀r∈rows,Own 1 h r n (List.replicate n Lk)∧∀b,blk r b→h0.size≤b
 dis:rows.Pairwise λr s=>∀b,blk r b→¬blk s b
 var:∀p,vr=some p→h[p.1]? =some (.cells #[p.2.2] p.2.1 (0,0))∧h0.size≤p.1∧∀r∈rows,¬blk r p.1
theorem Mk3.start (n:Nat)(h:af):Mk3 n h [] none h:=⟨Ext.refl _,by simp,List.Pairwise.nil,by simp⟩
theorem Mk3.mkr {n:Nat}{h0 h:af}{rows:List Value}{G:Option (Nat×TypeId×Value)}{t:TypeId}{K:Value→af→Prop}(M:Mk3 n h0 rows G h)(hn:n≤1048576)
  (H:∀v h',Mk3 n h0 (rows++[v]) G h'→K v h'):mkK Lk t 1 8 (.int .i64 (n:Int)) (.int .i64 (n:Int)) h K:=by
 refine lQ rfl (by omega) (by omega) λv h' o e f=>H v h' ⟨M.ext.trans e,?_,?_,?_⟩
 ·intro r A;rcases List.mem_append.1 A with A|A
  ·exact⟨(M.own r A).1.fr (M:=λ_=>False) e.fr λ_ _=>id,(M.own r A).2⟩
  ·rw[List.mem_singleton.1 A];exact⟨o,λb D=>Nat.le_trans M.ext.1 (f b D)⟩
 ·rw[List.pairwise_append];refine⟨M.dis,by simp,λr A s L b D F=>?_⟩;rw[List.mem_singleton.1 L]at F;have h1:=(M.own r A).1.lt D;have I:=f b F;omega
 ·intro p W;obtain⟨h1,I,U⟩:=M.var p W;refine⟨e.row h1,I,λr A=>?_⟩;rcases List.mem_append.1 A with A|A
  ·exact U r A
  ·rw[List.mem_singleton.1 A];intro D;have:=f _ D;have:=aU h1;omega
theorem Mk3.nw {n:Nat}{h0 h:af}{rows:List Value}{t:TypeId}{c:Value}{K:Value→af→Prop}(M:Mk3 n h0 rows none h)
  (H:∀b h',Mk3 n h0 rows (some (b,t,c)) h'→K (.pointer (some ⟨b,0,none⟩)) h'):aP #[c] t h K:=by
 refine aC λb h' r e f=>H b h' ⟨M.ext.trans e,λs A=>⟨(M.own s A).1.fr (M:=λ_=>False) e.fr λ_ _=>id,(M.own s A).2⟩,M.dis,?_⟩
 rintro p F;cases F;refine⟨r,Nat.le_trans M.ext.1 f,λs A D=>?_⟩;have:=(M.own s A).1.lt D;simp only at this;omega
theorem Mk3.st {n:Nat}{h0 h:af}{rows:List Value}{t:TypeId}{b:Nat}{c v:Value}{K:Value→af→Prop}(M:Mk3 n h0 rows (some (b,t,c)) h)(I:v∈rows)
  (H:∀h',Mk3 n h0 rows (some (b,t,v)) h'→K undef h'):stK 1 (.pointer (some ⟨b,0,none⟩)) v h K:=by
 obtain⟨h1,D,F⟩:=M.var _ rfl;simp only at h1 D F;obtain⟨a,cap,e⟩:=(M.own v I).1.isSl;refine bJ h1 (by simp) (by rw[e];rfl) λh' r u=>H h' ⟨M.ext.upd D u,?_,M.dis,?_⟩
 ·intro s A;exact⟨(M.own s A).1.fr u.fr λk L G=>F s A (G▸L),(M.own s A).2⟩
 ·rintro p U;cases U;exact⟨by simpa using r,D,F⟩
def X8 (n:Nat)(h0:af)(xs:List Value)(h:af):Prop:=
 ∃(x y z:Value) (b:Nat) (t:TypeId),xs=[x,y,.pointer (some ⟨b,0,none⟩)]∧Ext h0 h∧(Own 1 h x n (List.replicate n Lk)∧∀b,blk x b→h0.size≤b)∧(Own 1 h y n (List.replicate n Lk)∧∀b,blk y b→h0.size≤b)∧
  (Own 1 h z n (List.replicate n Lk)∧∀b,blk z b→h0.size≤b)∧(∀b,blk x b→¬blk y b)∧(∀b,blk x b→¬blk z b)∧(∀b,blk y b→¬blk z b)∧
  h[b]? =some (.cells #[z] t (0,0))∧h0.size≤b∧¬blk x b∧¬blk y b∧¬blk z b
theorem Mk3.made {n:Nat}{h0 h:af}{rows:List Value}{t:TypeId}{b:Nat}{z:Value}(M:Mk3 n h0 rows (some (b,t,z)) h)(i j k:Nat){x y:Value}(D:rows[i]? =some x)(A:rows[j]? =some y)(G:rows[k]? =some z)(h1:i≠j)(h2:i≠k)(h3:j≠k):
  X8 n h0 [x,y,.pointer (some ⟨b,0,none⟩)] h:=by
 obtain⟨L,U,H⟩:=M.var _ rfl;simp only at L U H;have dis:∀(i j:Nat) (x y:Value),rows[i]? =some x→rows[j]? =some y→i≠j→∀b,blk x b→¬blk y b:=by
  intro i j x y D A aa b hb F;obtain⟨li,I⟩:=List.getElem?_eq_some_iff.1 D;obtain⟨W,ej⟩:=List.getElem?_eq_some_iff.1 A;rcases Nat.lt_or_ge i j with h|h
  ·have:=List.pairwise_iff_getElem.1 M.dis i j li W h b (by rw[I];exact hb);rw[ej]at this;exact this F
  ·have:=List.pairwise_iff_getElem.1 M.dis j i W li (by omega) b (by rw[ej];exact F);rw[I]at this;exact this hb
 exact⟨x,y,z,b,t,rfl,M.ext,M.own x (List.mem_of_getElem? D),M.own y (List.mem_of_getElem? A),M.own z (List.mem_of_getElem? G),dis i j x y D A h1,dis i k x z D G h2,dis j k y z A G h3,L,U,H x (List.mem_of_getElem? D),H y (List.mem_of_getElem? A),H z (List.mem_of_getElem? G)⟩
theorem Own.at_map {h:af}{v:Value}{n:Nat}{g:Nat→Int}(H:Own 1 h v n ((List.range n).map λi=>Value.int .i64 (g i))){k:IntKind}{i:Nat}(hi:i<n):
  ∃p,aR 1 v (.int k (i:Int))=some p∧ldV h p=some (.int .i64 (g i))∧∀(x:Int) (K:Value→af→Prop),
   (∀h',Own 1 h' v n ((List.range n).map λj=>Value.int .i64 (if j=i then x else g j))→Fr (blk v) h h'→K undef h')→stK 1 p (.int .i64 x) h K:=by
 obtain⟨p,h1,D,F⟩:=Own.at1 H (k:=k) hi;refine⟨p,h1,by rw[D];simp,λx K A=>F _ _ rfl λh' o f _=>A h' ?_ f⟩;rw[Bo _ _ _ _ hi]at o;have e:(λj=>if j=i then Value.int .i64 x else Value.int .i64 (g j))=λj=>Value.int .i64 (if j=i then x else g j):=by
  funext j;split<;>rfl
 rw[e]at o;exact o
theorem GK (n:Nat):List.replicate n Lk=(List.range n).map λi=>Value.int .i64 ((λ_=>0:Nat→Int) i):=by
 apply List.ext_getElem<;>simp
theorem TY {h:af}{a b:Int}:ae prog kj #[.int .i64 a,.int .i64 b] h λr h'=>(∃c:Int,r=.int .i64 c∧(c<0↔a<b))∧h'=h:=by
 have A:∀{x:Int} {h:af},ae prog js #[.int .i64 x] h λr h'=>r=.bool false∧h'=h:=by
  intro x h;apply B5;unfold rM
  try simp only[go_sem]
  exact⟨by simp,by simp⟩
 apply yX;unfold oV;refine A.mono λF h1 ⟨D,w1⟩=>?_
 subst D w1;refine A.mono λF h1 ⟨D,w1⟩=>?_
 subst D w1
 try simp only[go_sem]
 refine aj (λh0=>⟨⟨-1,rfl,by omega⟩,by first|rfl|trivial⟩) (λh0=>?_);refine aj (λh0=>⟨⟨1,rfl,by omega⟩,by first|rfl|trivial⟩) (λh0=>⟨⟨0,rfl,by omega⟩,by first|rfl|trivial⟩)
def X6 (b:Nat)(t:TypeId)(z:Value)(n:Nat)(r:Nat→Int)(h:af):Prop:=h[b]? =some (.cells #[z] t (0,0))∧Own 1 h z n ((List.range n).map λi=>Value.int .i64 (r i))
theorem Vl {v z:Value}{b n:Nat}{t:TypeId}{r:Nat→Int}(h1:¬blk v b)(h2:∀b,blk v b→¬blk z b):Gg v (.func (.func kf) #[] #[.pointer (some ⟨b,0,none⟩)]) (X6 b t z n r) r n where
 call:=λ{h a c K} ⟨D,A⟩ W hc H=>by
  rw[clK_2];apply yO;unfold oM;obtain⟨p,U,e2,_⟩:=Own.at_map A (k:=.i64) W;obtain⟨q,I,G,_⟩:=Own.at_map A (k:=.i64) hc;have F:ldV h (.pointer (some ⟨b,0,none⟩))=some z:=by rw[wj,ai D];rfl
  refine aG (λh'=>h'=h) rfl ?_;refine ao z (λh' e=>by rw[e];exact F) ?_;simp only[go_sem,I];refine ao _ (λh' e=>by rw[e];exact G) ?_;refine ao z (λh' e=>by rw[e];exact F) ?_;simp only[go_sem,U];refine ao _ (λh' e=>by rw[e];exact e2) ?_;refine TY.mono λw h' ⟨⟨m,e,L⟩,hh⟩=>?_
  subst e hh;exact H m L
 fr:=λ{h h'} ⟨D,A⟩ f=>⟨f.row D h1,A.fr f λk hk hb=>h2 k hb hk⟩
theorem Wz {l:List Int}{S:List Nat}(G:S.Perm (List.range l.length))(I:S.Pairwise (cN (dh l))){k i:Nat}(F:k<S.length)(hi:i<l.length):(if(jZ (dh l) l.length i:Int)<((k+1:Nat):Int)then(1:Int)else 0)=if i=S[k]then(if(jZ (dh l) l.length i:Int)<(k:Int)then(1:Int)else 0)+1 else if(jZ (dh l) l.length i:Int)<(k:Int)then 1 else 0:=by
 have H:=FN G I F;have D:S[k]<l.length:=by have:=G.mem_iff.1 (List.getElem_mem F);simpa using this
 by_cases A:i=S[k]
 ·rw[if_pos A,A,H,if_pos (by omega),if_neg (by omega)];rfl
 ·rw[if_neg A];have:jZ (dh l) l.length i≠k:=λe=>A (Dy hi D (e.trans H.symm))
  by_cases h:jZ (dh l) l.length i<k
  ·rw[if_pos (by omega),if_pos (by omega)]
  ·rw[if_neg (by omega),if_neg (by omega)]
theorem zD {Z:Nat→Prop}{h:af}{v:Value}{l:List Int}(H:SlI Z h v l)(W:∀x∈l,I64 x)(hl:l.length<4611686018427387904):
  ae prog ig #[v] h λr h'=>∃u,r=.tuple #[u,.int .i64 (cn l)]∧New (Rp.int .i64) h h' u (bS l):=by
 apply DB;unfold sY;refine(PD H W hl).mono λv1 h1 ⟨e1,w1⟩=>?_
 subst e1 w1;obtain⟨a,cap,e⟩:=H.isSl;have e2:aq v=some (.int .i64 (l.length:Int)):=by rw[e];rfl
 simp only[vC,ah];unfold bS;by_cases hc:¬cn l=0
 ·have q:(cn l=0)=False:=eq_false hc;rw[if_neg hc];simp only[go_sem,q];exact⟨_,rfl,New.nil (Ext.refl _)⟩
 have hc:cn l=0:=Decidable.of_not_not hc;have G:=UW W hc;have q:(cn l=0)=True:=eq_true hc;rw[if_pos hc];simp only[go_sem,q];refine(L7 H W hl).mono λv1 h1 ⟨e1,w1⟩=>?_
 subst e1 w1;have hn:=G.len;refine aV (X8 l.length h1) ?_ ?_
 ·refine aG (Ext h1) (Ext.refl _) ?_;refine ao _ (λh' _=>e2) ?_;refine ao _ (λh' _=>e2) ?_;refine ao _ (λh' _=>e2) ?_;have M0:=Mk3.start l.length h1
  repeat' first
   |exact Mk3.ext ‹Mk3 _ _ _ _ _›
   |exact Mk3.made ‹Mk3 _ _ _ _ _› 0 1 2 rfl rfl rfl (by decide) (by decide) (by decide)
   |exact Mk3.made ‹Mk3 _ _ _ _ _› 0 2 1 rfl rfl rfl (by decide) (by decide) (by decide)
   |exact Mk3.made ‹Mk3 _ _ _ _ _› 1 0 2 rfl rfl rfl (by decide) (by decide) (by decide)
   |exact Mk3.made ‹Mk3 _ _ _ _ _› 1 2 0 rfl rfl rfl (by decide) (by decide) (by decide)
   |exact Mk3.made ‹Mk3 _ _ _ _ _› 2 0 1 rfl rfl rfl (by decide) (by decide) (by decide)
   |exact Mk3.made ‹Mk3 _ _ _ _ _› 2 1 0 rfl rfl rfl (by decide) (by decide) (by decide)
   |refine And.intro ?_ ?_
   |refine Mk3.mkr ‹Mk3 _ _ _ _ _› hn λv' h' M=>?_
   |refine Mk3.nw ‹Mk3 _ _ _ _ _› λb' h' M=>?_
   |refine Mk3.st ‹Mk3 _ _ _ _ _› (by simp) λh' M=>?_
 rintro xs ρj I ⟨x,y,z,b,t,rfl,E2,⟨ox,fx⟩,⟨oy,fy⟩,⟨oz,fz⟩,F,ab,L,hb,b8,nx,ny,nz⟩;simp only[gJ,vy,WR,e2,ah];have s1:=G.sum;have au:=Oa l
 -- quotients and rests
 refine bB l.length 0 (λk (_:Unit)=>[.int .i64 (rV l k),.int .i64 (k:Int)]) (λk _ h'=>Ext h1 h'∧Own 1 h' x l.length ((List.range l.length).map λi=>Value.int .i64 (if i<k then fj l i else 0))∧
   Own 1 h' y l.length ((List.range l.length).map λi=>Value.int .i64 (if i<k then(i:Int)else 0))∧Own 1 h' z l.length ((List.range l.length).map λi=>Value.int .i64 (if i<k then dh l i else 0))∧h'[b]? =some (.cells #[z] t (0,0))) () rfl (Nat.zero_le _)
  ⟨E2,by rw[GK]at ox;simpa using ox,by rw[GK]at oy;simpa using oy,by rw[GK]at oz;simpa using oz,hb⟩ λk _ h3 again ρj2 _ hk ⟨E3,o1,o2,o3,D⟩ bc=>?_
 try simp only[go_sem]
 refine aj (λh0=>?_) (λh0=>?_)
 ·have A:k<l.length:=by omega
  have H3:=H.ext E3;obtain⟨p,e3,e4⟩:=H3.int_at (k':=.i64) A;simp only[go_sem,e3,e4];have eg:l.getD k 0=l[k]:=by simp[List.getD_eq_getElem?_getD,A]
  have U:=G.small k;rw[eg]at U;refine aG (λh'=>h'[b]? =some (.cells #[z] t (0,0))) D ?_;refine ao z (λh' e=>by rw[ai e];rfl) ?_;rw[w64 (n:=l[k]*16384) (by omega) (by omega)];refine(GU (by unfold I64;omega) au).mono λv1 h4 ⟨e5,w5⟩=>?_
  subst e5 w5;refine⟨D,?_⟩;rw[nF (by unfold I64;omega) (by omega)];refine(VS (by unfold I64;omega) au (by omega)).mono λv1 h4 ⟨e5,w5⟩=>?_
  subst e5 w5;refine⟨D,?_⟩;have eb:l[k]*16384/kN l=fj l k:=by unfold fj;rw[eg]
  have er:l[k]*16384%kN l=dh l k:=by unfold dh;rw[eg]
  rw[eb,er];obtain⟨px,x1,x2,x3⟩:=Own.at_map o1 (k:=.i64) A;simp only[go_sem,x1];refine x3 _ _ λh5 b0 f5=>?_
  have bg:=o3.fr f5 λc hc U=>ab c U hc
  have bv:=o2.fr f5 λc hc U=>F c U hc
  have aw:=f5.row D nx;refine⟨aw,?_⟩;obtain⟨pz,z1,z2,z3⟩:=Own.at_map bg (k:=.i64) A;simp only[go_sem,z1];refine z3 _ _ λh6 b4 f6=>?_
  have bo:=bv.fr f6 λc hc hz=>L c hc hz
  have bk:=b0.fr f6 λc hc hz=>ab c hc hz
  have be:=f6.row aw nz;obtain⟨py,y1,y2,y3⟩:=Own.at_map bo (k:=.i64) A;simp only[go_sem,y1];refine y3 _ _ λh7 b1 f7=>?_
  have ar:=bk.fr f7 λc hc hy=>F c hc hy
  have bd:=b4.fr f7 λc hc hy=>L c hy hc
  have b2:=f7.row be ny;obtain⟨b6,al,aa,_⟩:=Own.at_map ar (k:=.i64) A;rw[x1]at al;cases al;simp only[if_true]at aa;have a7:=vE G k;have ca:=Jg G k;simp only[go_sem,x1,aa];rw[w64 (n:=rV l k-fj l k) (by omega) (by omega),w64 (n:=(k:Int)+1) (by omega) (by omega)];have E7:Ext h1 h7:=((E3.then_fr f5 fx).then_fr f6 fz).then_fr f7 fy;refine bc () h7 A ⟨E7,?_,?_,?_,b2⟩
  ·have e:(List.range l.length).map (λj=>Value.int .i64 (if j=k then fj l k else if j<k then fj l j else 0))=(List.range l.length).map λi=>Value.int .i64 (if i<k+1 then fj l i else 0):=bH λi _=>by
    congr 1
    by_cases h1:i=k
    ·subst h1;simp
    ·rw[if_neg h1];by_cases I:i<k
     ·rw[if_pos I,if_pos (by omega)]
     ·rw[if_neg I,if_neg (by omega)]
   rw[←e];exact ar
  ·have e:(List.range l.length).map (λj=>Value.int .i64 (if j=k then(k:Int)else if j<k then(j:Int)else 0))=(List.range l.length).map λi=>Value.int .i64 (if i<k+1 then(i:Int)else 0):=bH λi _=>by
    congr 1
    by_cases h1:i=k
    ·subst h1;simp
    ·rw[if_neg h1];by_cases I:i<k
     ·rw[if_pos I,if_pos (by omega)]
     ·rw[if_neg I,if_neg (by omega)]
   rw[←e];exact b1
  ·have e:(List.range l.length).map (λj=>Value.int .i64 (if j=k then dh l k else if j<k then dh l j else 0))=(List.range l.length).map λi=>Value.int .i64 (if i<k+1 then dh l i else 0):=bH λi _=>by
    congr 1
    by_cases h1:i=k
    ·subst h1;simp
    ·rw[if_neg h1];by_cases I:i<k
     ·rw[if_pos I,if_pos (by omega)]
     ·rw[if_neg I,if_neg (by omega)]
   rw[←e];exact bd
 ·have b3:k=l.length:=by omega
  subst b3;have o1:Own 1 h3 x l.length ((List.range l.length).map λi=>Value.int .i64 (fj l i)):=by
   rw[←bH (g:=λi=>Value.int .i64 (if i<l.length then fj l i else 0)) (λi hi=>by rw[if_pos hi])];exact o1
  have o3:Own 1 h3 z l.length ((List.range l.length).map λi=>Value.int .i64 (dh l i)):=by
   rw[←bH (g:=λi=>Value.int .i64 (if i<l.length then dh l i else 0)) (λi hi=>by rw[if_pos hi])];exact o3
  have o2:Own 1 h3 y (List.range' 0 l.length).length ((List.range' 0 l.length).map iv):=by
   rw[List.length_range',←List.range_eq_range',←bH (g:=λi=>Value.int .i64 (if i<l.length then(i:Int)else 0)) (λi hi=>by rw[if_pos hi])];exact o2
  have IX:dj y (X6 b t z l.length (dh l)) l.length h3 (List.range' 0 l.length):=⟨o2,⟨D,o3⟩,by simpa using hl,λi hi=>by simpa using hi⟩
  refine(Ny (Vl ny L) IX hn).mono λw h4 ⟨S,hp,hs,a8,f4⟩=>?_
  obtain⟨L0,L1⟩:=left_bd G;obtain⟨m,hm⟩:∃m:Nat,vw l=(m:Int):=⟨(vw l).toNat,by omega⟩
  have b7:S.length=l.length:=by rw[hp.length_eq];simp
  obtain⟨v',q1,q2,q3⟩:=Lr 1 a8.own (k:=.i64) (hi:=m) (by omega);have o1:=o1.fr f4 λc hc hy=>F c hc hy
  have ay:rV l l.length=(m:Int):=hm;rw[ay,q1,ah];obtain⟨a',b5,e'⟩:=q2.isSl;have bi:aq v'=some (.int .i64 (m:Int)):=by rw[e'];rfl
  rw[bi,ah];refine bB m 0 (λk (_:Unit)=>[.int .i64 (k:Int)]) (λk _ h'=>Ext h1 h'∧Own 1 h' x l.length ((List.range l.length).map λi=>Value.int .i64 (fj l i+(if(jZ (dh l) l.length i:Int)<(k:Int)then 1 else 0)))∧Fr (blk x) h4 h') () rfl (Nat.zero_le _)
   ⟨E3.then_fr f4 fy,by
    rw[bH (f:=λi=>Value.int .i64 (fj l i)) (λi hi=>by rw[if_neg (by omega),Int.add_zero])];exact o1,Fr.refl _ _⟩ λk _ h5 ax ρj5 _ hk ⟨E5,o5,f5⟩ an=>?_
  try simp only[go_sem]
  refine aj (λh6=>?_) (λh6=>?_)
  ·have A:k<m:=by omega
   have q5:=q2.fr f5 λc _ hc U=>F c U (q3 c hc)
   obtain⟨p,p1,p2⟩:=q5.at1 (k:=.i64) A;have ad:k<S.length:=by omega
   have p2:ldV h5 p=some (iv S[k]):=by
    rw[p2];simp
   have a9:S[k]<l.length:=by have:=hp.mem_iff.1 (List.getElem_mem ad);simpa using this
   obtain⟨px,x1,x2,x3⟩:=Own.at_map o5 (k:=.i64) a9;simp only[go_sem,p1,p2,x1,x2];have a7:=vE G S[k];rw[w64 (n:=fj l S[k]+(if(jZ (dh l) l.length S[k]:Int)<(k:Int)then 1 else 0)+1) (by split<;>omega) (by split<;>omega)];refine x3 _ _ λh7 o7 f7=>?_
   rw[w64 (n:=(k:Int)+1) (by omega) (by omega)];refine an () h7 A ⟨E5.then_fr f7 fx,?_,f5.trans f7⟩;rw[bH (f:=λj=>Value.int .i64 (if j=S[k]then fj l S[k]+(if(jZ (dh l) l.length S[k]:Int)<(k:Int)then 1 else 0)+1 else fj l j+if(jZ (dh l) l.length j:Int)<(k:Int)then 1 else 0)) (λi hi=>by
    rw[Wz hp hs ad hi]
    congr 1
    by_cases he:i=S[k]
    ·rw[if_pos he,if_pos he,←he];omega
    ·rw[if_neg he,if_neg he])]
   exact o7
  ·have:k=m:=by omega
   subst this;refine⟨x,by rw[hc],⟨(kM l).map λn=>Value.int .i64 n,?_,λc _=>id,λi hi=>?_⟩,E5,fx⟩
   ·rw[nh];unfold kM;rw[List.map_map];simp only[←hm]at o5;exact o5
   ·have e:Rp.el (Rp.int .i64).w ((kM l).map λn=>Value.int .i64 n) i=[Value.int .i64 (kM l)[i]]:=by
     have:=Rp.el_one (ds:=(kM l).map λn=>Value.int .i64 n) (i:=i) (by simpa using hi);rw[List.getElem_map]at this;exact this
    exact e
theorem TZ {h:af}{x y:Nat}(D:x<18446744073709551616)(A:y<18446744073709551616):
  ae prog qa #[.int .u64 (x:Int),.int .u64 (y:Int)] h λr h'=>r=.tuple #[.int .u64 ((x*y/18446744073709551616:Nat):Int),.int .u64 ((x*y%18446744073709551616:Nat):Int)]∧h'=h:=by
 apply ET;unfold vd;rw[cf];refine(NJ D A).mono λv h1 ⟨e,w⟩=>?_
 subst e w
 try simp only[go_sem]
 exact⟨by simp,by simp⟩
theorem Uv (n:Nat)(x:Int):List.replicate n (Value.int .i64 x)=(List.replicate n x).map λn=>Value.int .i64 n:=by simp
theorem R8 {k:IntKind}{h:af}{v:Value}{l:List Int}(H:Own 1 h v l.length (l.map λn=>Value.int k n)):Rp.Ow (Rp.int k) (λ_=>False) h v l:=
 ⟨l.map λn=>Value.int k n,H,λc _=>id,λi hi=>by
  have:=Rp.el_one (ds:=l.map λn=>Value.int k n) (i:=i) (by simpa using hi);rw[List.getElem_map]at this;exact this⟩
theorem T4 {Z:Nat→Prop}{h:af}{v:Value}{x:Int}{n:Nat}(H:SlI Z h v [x])(hn:1≤n)(an:n≤4096):
  ae prog eI #[v,.int .i64 (n:Int)] h λr h'=>New (Rp.int .i64) h h' r (List.replicate n x):=by
 apply mD;unfold gN;have D:((n:Int)<0)=False:=eq_false (by omega);simp only[go_sem,D];refine aV (λ_ h'=>h'=h) rfl λI ρj h' e=>?_
 subst e;obtain⟨ds,L,hz,he⟩:=H;have ab:=L.1;have hd:ds=[Value.int .i64 x]:=by
  have h1:=he 0 (by simp);have ad:ds.length=1:=by simpa[Rp.int]using ab
  obtain⟨d,rfl⟩:=List.length_eq_one_iff.1 ad;exact h1
 subst hd;obtain⟨a,cap,ev⟩:=L.isSl;have e2:aq v=some (.int .i64 ((1:Nat):Int)):=by rw[ev];rfl
 simp only[go_sem,e2];rw[eO (by omega),eO (m:=n) (by omega)];refine(TZ (x:=1) (y:=n) (by omega) (by omega)).mono λw h1 ⟨e,hh⟩=>?_
 subst e hh
 try simp only[go_sem]
 rw[show 1*n/18446744073709551616=0 by omega,show 1*n%18446744073709551616=n by omega];refine aV (λ_ h'=>h'=h1) ?_ λI ρj2 h2 e=>?_
 ·refine aj (λh0=>absurd h0 (by omega)) (λ_=>rfl)
 subst e
 try simp only[go_sem]
 rw[w64 (n:=(n:Int)) (by omega) (by omega)];refine lQ rfl (by omega) (by omega) λu h3 o e f=>?_
 have W:SlC 1 h3 v 1 [Value.int .i64 x]:=L.ext e;refine Ef o W (by simp[aJ]) λh4 o4 f4 z4=>?_
 have E4:Ext h2 h4:=e.then_fr f4 f;have F:Nat.min 1 n=1:=Nat.min_eq_left hn;rw[F];obtain⟨a2,al,eu⟩:=o4.isSl;have e3:aq u=some (.int .i64 (n:Int)):=by rw[eu];rfl
 have st:Own 1 h4 u n (List.replicate 1 (Value.int .i64 x)++List.replicate (n-1) (.int .i64 0)):=by
  have e:[Value.int .i64 x].take n++(List.replicate n (Value.int .i64 0)).drop 1=List.replicate 1 (Value.int .i64 x)++List.replicate (n-1) (.int .i64 0):=by
   rw[List.take_of_length_le (by simpa using hn),List.drop_replicate];rfl
  rw[←e];exact o4
 refine cP (λd I h'=>∃m:Nat,d=n-m∧I=[.int .i64 (m:Int)]∧1≤m∧m≤n∧Ext h2 h'∧Own 1 h' u n (List.replicate m (Value.int .i64 x)++List.replicate (n-m) (.int .i64 0))) (n-1) ⟨1,rfl,rfl,Nat.le_refl _,hn,E4,st⟩ ?_;rintro d I ρj3 h5 again ⟨m,rfl,rfl,ar,aa,E5,o5⟩ U;simp only[gJ,e3,ah,cj];refine aj (λh0=>?_) (λh0=>?_)
 ·refine aG (λh'=>h'=h5) rfl ?_;obtain⟨w,w1,G,w3⟩:=Lr 1 o5 (k:=.i64) (hi:=m) aa;have G:SlC 1 h5 w m (List.replicate m (Value.int .i64 x)):=by
   have e:(List.replicate m (Value.int .i64 x)++List.replicate (n-m) (Value.int .i64 0)).take (m*1)=List.replicate m (Value.int .i64 x):=by
    rw[Nat.mul_one,List.take_append_of_le_length (by simp),List.take_of_length_le (by simp)]
   rw[e]at G;exact G
  obtain⟨d,d1,d2⟩:=Vj o5 (show m<n by omega) G (λy hy=>by rw[(List.mem_replicate.1 hy).2];rfl) (kk:=.i64);rw[d1,ah,w1,ah];refine d2 _ λh6 o6 f6=>?_
  have A:Nat.min m (n-m)=min m (n-m):=rfl;rw[A,cO,ah,w64 (by omega) (by omega),show(m:Int)+((min m (n-m):Nat):Int)=((m+min m (n-m):Nat):Int)by omega];refine U _ h6 (n-(m+min m (n-m))) (by omega) ⟨m+min m (n-m),rfl,rfl,by omega,by omega,E5.then_fr f6 f,?_⟩;have e:(List.replicate m (Value.int .i64 x)++List.replicate (n-m) (Value.int .i64 0)).take m++(List.replicate m (Value.int .i64 x)).take (n-m)++(List.replicate m (Value.int .i64 x)++List.replicate (n-m) (Value.int .i64 0)).drop (m+m)
    =List.replicate (m+min m (n-m)) (Value.int .i64 x)++List.replicate (n-(m+min m (n-m))) (.int .i64 0):=by
   rw[List.take_append_of_le_length (by simp),List.take_of_length_le (by simp),List.take_replicate,List.drop_append,List.drop_eq_nil_of_le (by simp),List.nil_append,List.drop_replicate,List.length_replicate,List.replicate_append_replicate,Nat.min_comm]
   congr 2;omega
  rw[←e];exact o6
 ·have:m=n:=by omega
  subst this;refine⟨R8 ?_,E5,f⟩;rw[List.length_replicate,←Uv];simpa using o5
def qQ (r:Int):Prop:=r<0∨511<r
instance (r:Int):Decidable (qQ r):=by unfold qQ;infer_instance
def Mr (r:Int):Int:=if qQ r then 7 else xM (List.replicate (2*r+1).toNat 1)
def vB (r:Int):List Int:=if qQ r then[]else oJ (List.replicate (2*r+1).toNat 1)
theorem Mq (r:Int):∀x∈vB r,I64 x:=by
 unfold vB;split
 ·simp
 ·exact Es _
theorem Y4 {h:af}{r:Int}(U:I64 r):ae prog zI #[.int .i64 r] h λw h'=>∃u,w=.tuple #[u,.int .i64 (Mr r)]∧New (Rp.int .i64) h h' u (vB r):=by
 apply MP;unfold CU
 try simp only[go_sem]
 unfold Mr vB;refine aj (λh0=>?_) (λh0=>?_)
 ·have:qQ r:=h0;rw[if_pos this,if_pos this];exact⟨_,rfl,New.nil (Ext.refl _)⟩
 ·have D:¬qQ r:=h0;rw[if_neg D,if_neg D];refine cH (Rp.fill_one rfl) λb h1 r1 H n1=>?_
  rw[w64 (n:=2*r) (by omega) (by omega)]
  try simp only[go_sem]
  rw[w64 (n:=2*r+1) (by omega) (by omega)];have F:SlI (λ_=>True) h1 (.slice (some ⟨b,0,none⟩) 1 1) [1]:=⟨[Value.int .i64 1],Rp.SlC.single (cs:=[Value.int .i64 1]) r1,λ_ _ _=>trivial,λi hi=>by
   have:i=0:=by simpa using hi
   subst this;rfl⟩
  obtain⟨N,I⟩:∃N:Nat,N=(2*r+1).toNat:=⟨_,rfl⟩
  rw[←I,show 2*r+1=(N:Int)by omega];refine(T4 F (n:=N) (by omega) (by omega)).mono λv W A=>?_
  refine(Cr A.sl (λx L=>by rw[(List.mem_replicate.1 L).2];unfold I64;omega) (by rw[List.length_replicate];omega)).mono λw h3 ⟨u,e,G⟩=>?_
  subst e
  try simp only[go_sem]
  exact⟨u,rfl,G.before (H.trans A.2.1)⟩
end Go.Proofs.YtcoimlclclnlkaaGreatDoor
namespace Go.Crisp
open Go
theorem fB (c:Array Value):aE c []=some c:=rfl
theorem wz {a b x y:Value}(A:aJ a=true)(D:aJ b=true):aE #[x,y] [(0,1,a),(1,1,b)]=some #[a,b]:=by
 simp only[aE,bU A,bU D];rfl
theorem Sm {a x y z w:Value}(A:aJ a=true):aE #[x,y,z,w] [(0,1,a)]=some #[a,y,z,w]:=by
 simp only[aE,bU A];rfl
def bX (ls:List (Int×List Int)):Int:=ls.foldl (λm x=>max m (x.2.length:Int)) 0
def Ha (ls:List (Int×List Int)):Int:=ls.foldl (λm x=>max m (kP x.2)) 0
theorem Cc (ls:List (Int×List Int))(x:Int×List Int):bX (ls++[x])=max (bX ls) (x.2.length:Int):=by unfold bX;rw[List.foldl_append];rfl
theorem Qq (ls:List (Int×List Int))(x:Int×List Int):Ha (ls++[x])=max (Ha ls) (kP x.2):=by unfold Ha;rw[List.foldl_append];rfl
def km:Rp (Int×List Int) where
 w:=2
 R:=λZ h cs x=>∃v,cs=[.int .i64 x.1,v]∧Rp.Sl (Rp.int .i64) Z h v x.2
 len:=by rintro _ _ _ _ ⟨v,rfl,_⟩;rfl
 one:=by
  rintro _ _ _ _ ⟨v,rfl,H⟩ u hu;rcases List.mem_cons.1 hu with rfl|hu
  ·rfl
  ·rw[List.mem_singleton.1 hu];exact H.one
 fr:=by rintro _ _ _ _ _ _ ⟨v,rfl,H⟩ f q;exact⟨v,rfl,H.fr f q⟩
 mono:=by rintro _ _ _ _ _ ⟨v,rfl,H⟩ q;exact⟨v,rfl,H.mono q⟩
def Wa (v:Value):Prop:=∃a n c,v=.slice a n c∧n≤c
theorem Rp.Ow.cap {α:Type}{e:Rp α}{Z:Nat→Prop}{h:af}{v:Value}{l:List α}(H:Rp.Ow e Z h v l):Wa v:=by
 obtain⟨ds,o,_⟩:=H;rcases o with⟨rfl,_,_⟩|⟨b,cap,r,e,rfl,hc,_⟩
 ·exact⟨_,_,_,rfl,Nat.le_refl _⟩
 ·exact⟨_,_,_,rfl,hc⟩
structure Tbl where
 n:Int
 lines:List (Int×List Int)
def rTbl:Rp Tbl where
 w:=4
 R:=λZ h cs t=>∃lv,cs=[.int .i64 t.n,lv,.int .i64 (bX t.lines),.int .i64 (Ha t.lines)]∧Rp.Sl km Z h lv t.lines∧Wa lv
 len:=by rintro _ _ _ _ ⟨v,rfl,_⟩;rfl
 one:=by
  rintro _ _ _ _ ⟨v,rfl,H,_⟩;exact ak rfl (ak H.one (ak rfl (ak rfl aQ)))
 fr:=by rintro _ _ _ _ _ _ ⟨v,rfl,H,c⟩ f q;exact⟨v,rfl,H.fr f q,c⟩
 mono:=by rintro _ _ _ _ _ ⟨v,rfl,H,c⟩ q;exact⟨v,rfl,H.mono q,c⟩
abbrev dZ (Z:Nat→Prop)(h:af)(p:Value)(t:Tbl):Prop:=Rp.Pt rTbl Z h p t
theorem dZ.open {Z:Nat→Prop}{h:af}{p:Value}{t:Tbl}(H:dZ Z h p t):∃b lv,p=.pointer (some ⟨b,0,none⟩)∧aB h ⟨b,0,none⟩=some (.int .i64 t.n)∧aB h ⟨b,1,none⟩=some lv∧aB h ⟨b,2,none⟩=some (.int .i64 (bX t.lines))∧
  aB h ⟨b,3,none⟩=some (.int .i64 (Ha t.lines))∧Rp.Sl km Z h lv t.lines∧Z b∧b<h.size∧Wa lv:=by
 obtain⟨b,ds,ty,rfl,r,A,lv,rfl,D,hc⟩:=H;exact⟨b,lv,rfl,ai r,ai r,ai r,ai r,D,A,aU r,hc⟩
structure Bx (h0:af)(Z:Nat→Prop)(h:af)(b:Nat)(ty:TypeId)(lv:Value)(n:Int)(ls:List (Int×List Int)):Prop where
 ext:Ext h0 h
 row:h[b]? =some (.cells #[.int .i64 n,lv,.int .i64 (bX ls),.int .i64 (Ha ls)] ty (0,0))
 ow:Rp.Ow km Z h lv ls
 nb:h0.size≤b
 nl:∀c,blk lv c→h0.size≤c
 zb:¬Z b
 lb:¬blk lv b
 zf:∀c,Z c→h0.size≤c∧c<h.size
theorem Bx.more {h0 h:af}{Z Z':Nat→Prop}{b:Nat}{ty:TypeId}{lv:Value}{n:Int}{ls:List (Int×List Int)}{h':af}(T:Bx h0 Z h b ty lv n ls)(e:Ext h h')(q:∀c,Z c→Z' c)(D:∀c,Z' c→¬Z c→h.size≤c∧c<h'.size):Bx h0 Z' h' b ty lv n ls where
 ext:=T.ext.trans e
 row:=e.row T.row
 ow:=(T.ow.ext e).mono (λc _ A=>q c A) λc hc A=>by
  by_cases h1:Z c
  ·obtain⟨ds,_,F,_⟩:=T.ow;exact F c hc h1
  ·have:=D c A h1;have:=T.ow.lt hc;omega
 nb:=T.nb
 nl:=T.nl
 zb:=λA=>by
  by_cases h1:Z b
  ·exact T.zb h1
  ·have:=D b A h1;have:=aU T.row;omega
 lb:=T.lb
 zf:=λc A=>by
  by_cases h1:Z c
  ·have:=T.zf c h1;have:=e.1;omega
  ·have:=D c A h1;have:=T.ext.1;omega
theorem Bx.done {h0 h:af}{Z:Nat→Prop}{b:Nat}{ty:TypeId}{lv:Value}{n:Int}{ls:List (Int×List Int)}(T:Bx h0 Z h b ty lv n ls):dZ (λc=>h0.size≤c∧c<h.size) h (.pointer (some ⟨b,0,none⟩)) ⟨n,ls⟩:=
 ⟨b,[_,_,_,_],ty,rfl,T.row,⟨T.nb,aU T.row⟩,lv,rfl,T.ow.sl.mono λc _ hc=>by
  rcases hc with hc|hc
  ·exact T.zf c hc
  ·exact⟨T.nl c hc,T.ow.lt hc⟩,T.ow.cap⟩
end Go.Crisp
namespace Go.Proofs.YtcoimlclclnlkaaGreatDoor
open Go Go.Crisp
attribute [local irreducible] ae cF aP stK aA vK qK bD gK dE aS mkK cG Cn DS Ad bsK clK
open _root_.Go.Proofs.Tryz
theorem zo {h:af}{n:Int}:ae prog mc #[.int .i64 n] h λr h'=>r=.bool (decide (1≤n∧n≤65536))∧h'=h:=by
 apply KA;unfold AL
 try simp only[go_sem]
 exact⟨by simp,by simp⟩
theorem JJ {h0 h:af}{Z:Nat→Prop}{b:Nat}{ty:TypeId}{lv u:Value}{n first:Int}{ls:List (Int×List Int)}{l:List Int}(T:Bx h0 Z h b ty lv n ls)(H:SlI Z h u l)(W:∀x∈l,I64 x)(hl:l.length<1048577)(ab:ls.length≤65536):
  ae prog jp #[.pointer (some ⟨b,0,none⟩),.int .i64 first,u] h λ_ h'=>∃D,Bx h0 Z h' b ty D n (ls++[(first,l)])∧Fr (λc=>c=b∨blk lv c) h h':=by
 apply BM;unfold ry;have c1:aB h ⟨b,1,none⟩=some lv:=ai T.row;obtain⟨au,cu,eu⟩:=H.isSl;have aa:aq u=some (.int .i64 (l.length:Int)):=by rw[eu];rfl
 simp only[go_sem,c1,wz (a:=.int .i64 first) (b:=u) rfl H.one,Option.map_some];refine Rp.push_ow (e:=km) (cs:=[.int .i64 first,u]) (x:=(first,l)) T.ow ⟨u,rfl,H⟩ rfl rfl (by omega) (by omega) (λc hc=>(T.zf c hc).2) λD h1 o1 f1 n1=>?_
 have r1:=f1.row T.row T.lb;have G:¬blk D b:=λhb=>by
  rcases n1 b hb with A|A
  ·exact T.lb A
  ·have:=aU T.row;omega
 obtain⟨al,cl,el⟩:=o1.isSl
 try simp only[go_sem]
 refine bJ r1 (by simp) (by rw[el];rfl) λA r2 u2=>?_
 have c2:aB A ⟨b,2,none⟩=some (.int .i64 (bX ls)):=ai r2;simp only[go_sem,c2,aa];refine bJ r2 (by simp) rfl λI r3 u3=>?_
 have c3:aB I ⟨b,3,none⟩=some (.int .i64 (Ha ls)):=ai r3;refine aG (λh'=>h'=I) rfl ?_
 try simp only[go_sem]
 refine ao _ (λh' e=>by rw[e];exact c3) ?_;have F3:Fr (λc=>c=b∨blk lv c) h I:=((f1.mono λc _ hc=>.inr hc).trans (u2.fr.mono λc _ hc=>.inl hc)).trans (u3.fr.mono λc _ hc=>.inl hc);have H3:SlI Z I u l:=H.fr F3 λc hc F U=>by
  rcases U with rfl|U
  ·exact T.zb F
  ·obtain⟨ds,_,A,_⟩:=T.ow;exact A c U F
 refine(Ga H3 W (by omega)).mono λw h4 ⟨e4,w4⟩=>?_
 subst e4 w4;refine⟨rfl,?_⟩;refine ao _ (λh' _=>I9 _ _ _) ?_;refine bJ r3 (by simp) rfl λh5 r5 u5=>?_
 have L:=F3.trans (u5.fr.mono (M':=λc=>c=b∨blk lv c) λc _ hc=>.inl hc);refine⟨D,⟨?_,?_,?_,T.nb,?_,T.zb,G,?_⟩,L⟩
 ·exact T.ext.then_fr L λc hc=>by
   rcases hc with rfl|hc
   ·exact T.nb
   ·exact T.nl c hc
 ·rw[Cc,Qq];simpa using r5
 ·have g:Fr (λc=>c=b) h1 h5:=(u2.fr.trans u3.fr).trans u5.fr;exact o1.fr g (λc _ F he=>T.zb (he▸F)) λc hc he=>G (he▸hc)
 ·intro c hc;rcases n1 c hc with A|A
  ·exact T.nl c A
  ·exact Nat.le_trans T.ext.1 A
 ·intro c F;have:=T.zf c F;have:=L.1;omega
end Go.Proofs.YtcoimlclclnlkaaGreatDoor
namespace Go.Proofs.YtcoimlclclnlkaaGreatDoor
open Go Go.Crisp
attribute [local irreducible] ae cF aP stK aA vK qK bD gK dE aS mkK cG Cn DS Ad bsK
open _root_.Go.Proofs.Tryz
abbrev Two (h:af)(b:Nat)(t:TypeId)(x y:Value):Prop:=h[b]? =some (.cells #[x,y] t (0,0))
theorem Two.a {h:af}{b:Nat}{t:TypeId}{x y:Value}(r:Two h b t x y):aB h ⟨b,0,none⟩=some x:=ai r
theorem Two.b {h:af}{b:Nat}{t:TypeId}{x y:Value}(r:Two h b t x y):aB h ⟨b,1,none⟩=some y:=ai r
theorem Two.all {h:af}{b:Nat}{t:TypeId}{x y:Value}(r:Two h b t x y):aH 2 h (.pointer (some ⟨b,0,none⟩))=some (.agg #[x,y]):=aI (l:=[x,y]) r 2 rfl
abbrev Big (h:af)(b:Nat)(t:TypeId)(n:Nat):Prop:=Two h b t (.int .u64 ((n/18446744073709551616:Nat):Int)) (.int .u64 ((n%18446744073709551616:Nat):Int))
theorem Big.all {h:af}{b:Nat}{t:TypeId}{n:Nat}(r:Big h b t n):aH 2 h (.pointer (some ⟨b,0,none⟩))=some (lX n):=Two.all r
theorem fV (n:Nat):Value.cells (lX n)=#[.int .u64 ((n/18446744073709551616:Nat):Int),.int .u64 ((n%18446744073709551616:Nat):Int)]:=rfl
theorem Af {n:Nat}(h:n<18446744073709551616):lX n=.agg #[.int .u64 0,.int .u64 (n:Int)]:=by
 unfold lX;rw[Nat.div_eq_of_lt h,Nat.mod_eq_of_lt h];rfl
theorem zX:lX 0=.agg #[.int .u64 0,.int .u64 0]:=rfl
theorem vk:lX 1=.agg #[.int .u64 0,.int .u64 1]:=rfl
theorem gH {t:TypeId}{b:Nat}{h:af}{x y:Value}{n:Nat}{K:Value→af→Prop}(r:Two h b t x y)(A:∀h',Big h' b t n→Upd b h h'→K undef h'):stK 2 (.pointer (some ⟨b,0,none⟩)) (lX n) h K:=
 ce (l:=[.int .u64 ((n/18446744073709551616:Nat):Int),.int .u64 ((n%18446744073709551616:Nat):Int)]) r rfl (ak rfl (ak rfl aQ)) rfl A
theorem ji {t:TypeId}{h:af}{n:Nat}{K:Value→af→Prop}(H:∀b h',Big h' b t n→Ext h h'→h.size≤b→K (.pointer (some ⟨b,0,none⟩)) h'):aP #[.int .u64 0,.int .u64 0] t h λv A=>stK 2 v (lX n) A λ_ D=>K v D:=
 cD (cs:=[.int .u64 ((n/18446744073709551616:Nat):Int),.int .u64 ((n%18446744073709551616:Nat):Int)]) rfl (ak rfl (ak rfl aQ)) rfl H
theorem jk {a b x y:Int}:aE #[(.int .u64 x),(.int .u64 y)] [(0,1,(.int .u64 a)),(1,1,(.int .u64 b))]=some #[.int .u64 a,.int .u64 b]:=wz rfl rfl
theorem Xc {b x y:Int}:aE #[(.int .u64 x),(.int .u64 y)] [(1,1,(.int .u64 b))]=some #[.int .u64 x,.int .u64 b]:=by
 simp only[aE,bU (v:=.int .u64 b) rfl];rfl
theorem bA (c:Array Value):(some c).map Value.agg=some (.agg c):=rfl
theorem Ek {n:Nat}{x y:Int}(D:x=((n/18446744073709551616:Nat):Int))(A:y=((n%18446744073709551616:Nat):Int)):(Value.agg #[.int .u64 x,.int .u64 y])=lX n:=by rw[D,A];rfl
theorem lh {h:af}{n bit:Nat}(L:bit≤1)(hn:2*n+bit<340282366920938463463374607431768211456):
  ae prog dN #[lX n,.int .u64 (bit:Int)] h λr h'=>r=lX (2*n+bit)∧Ext h h':=by
 apply Ik;unfold xX;rw[fV];refine aC λI h1 r1 A n1=>?_
 refine aC λb2 U r2 D F=>?_
 have r1:=D.row r1;simp only[go_sem,Two.a r1,Two.b r1];rw[show(1:Int)=((1:Nat):Int)from rfl,show(63:Int)=((63:Nat):Int)from rfl,sX _ (by omega),ah,kA _ (by omega),ah,cO,ah,sX _ (by omega),ah,cO,ah,jk,bA,ah];rw[Ek (n:=2*n+bit) (by rw[dG];omega) (by rw[dG];omega)];refine gH r2 λW H G=>?_
 rw[H.all,ah];exact⟨rfl,(A.trans D).upd (Nat.le_trans A.1 F) G⟩
theorem zu {h:af}{m n:Nat}(hn:m+n<340282366920938463463374607431768211456):
  ae prog gx #[lX m,lX n] h λr h'=>r=lX (m+n)∧Ext h h':=by
 apply KQ;unfold A3;rw[fV,fV];refine aC λb1 h1 r1 I n1=>?_
 refine aC λb2 h2 r2 G n2=>?_
 refine aC λb3 h3 A F n3=>?_
 have r1:=(G.trans F).row r1;have r2:=F.row r2;have l3:=aU A;simp only[go_sem,Two.a r1,Two.b r1,Two.a r2,Two.b r2];rw[jk,bA,ah];refine aC λb4 h4 r4 e4 n4=>?_
 refine ce (l:=[_,_]) r4 rfl (ak rfl (ak rfl aQ)) rfl λh5 D u5=>?_
 have L:=e4.upd n4 u5;have r1:=L.row r1;have A:=L.row A;simp only[dG]at D;simp only[go_sem,Two.a D,Two.b D,Two.b r1,dG];have e0:=I.trans (G.trans (F.trans L));have k3:h.size≤b3:=Nat.le_trans (I.trans G).1 n3;have k4:h.size≤b4:=Nat.le_trans (I.trans (G.trans F)).1 n4;have W:b3≠b4:=by omega
 refine aj (λhc=>?_) (λhc=>?_)
 ·refine bJ D (by simp) rfl λh6 U u6=>?_
  have A:=u6.row W A;have U:Two h6 b4 _ (.int .u64 _) (.int .u64 _):=U;rw[Two.all U,ah];rw[Ek (n:=m+n) (by omega) (by omega)];refine gH A λh7 H u7=>?_
  rw[H.all,ah];exact⟨rfl,(e0.upd k4 u6).upd k3 u7⟩
 ·rw[Two.all D,ah];rw[Ek (n:=m+n) (by omega) (by omega)];refine gH A λh7 H u7=>?_
  rw[H.all,ah];exact⟨rfl,e0.upd k3 u7⟩
theorem Mb {h:af}{m n:Nat}(hm:m<340282366920938463463374607431768211456)(hn:n≤m):
  ae prog oh #[lX m,lX n] h λr h'=>r=lX (m-n)∧Ext h h':=by
 apply Io;unfold yb;rw[fV,fV];refine aC λb1 h1 r1 L n1=>?_
 refine aC λb2 h2 r2 H n2=>?_
 refine aC λb3 h3 A F n3=>?_
 have r1:=(H.trans F).row r1;have r2:=F.row r2;have l3:=aU A;simp only[go_sem,Two.a r1,Two.b r1,Two.a r2,Two.b r2];rw[jk,bA,ah];refine aC λb4 h4 r4 e4 n4=>?_
 refine ce (l:=[_,_]) r4 rfl (ak rfl (ak rfl aQ)) rfl λh5 D u5=>?_
 have G:=e4.upd n4 u5;have r1:=G.row r1;have r2:=G.row r2;have A:=G.row A;simp only[dG]at D;simp only[go_sem,Two.a D,Two.b D,Two.b r1,Two.b r2,dG];have e0:=L.trans (H.trans (F.trans G));have k3:h.size≤b3:=Nat.le_trans (L.trans H).1 n3;have k4:h.size≤b4:=Nat.le_trans (L.trans (H.trans F)).1 n4;have W:b3≠b4:=by omega
 refine aj (λhc=>?_) (λhc=>?_)
 ·refine bJ D (by simp) rfl λh6 U u6=>?_
  have A:=u6.row W A;have U:Two h6 b4 _ (.int .u64 _) (.int .u64 _):=U;rw[Two.all U,ah];rw[Ek (n:=m-n) (by omega) (by omega)];refine gH A λh7 I u7=>?_
  rw[I.all,ah];exact⟨rfl,(e0.upd k4 u6).upd k3 u7⟩
 ·rw[Two.all D,ah];rw[Ek (n:=m-n) (by omega) (by omega)];refine gH A λh7 I u7=>?_
  rw[I.all,ah];exact⟨rfl,e0.upd k3 u7⟩
theorem zv {h:af}{m n:Nat}:ae prog iM #[lX m,lX n] h λr h'=>r=.bool (decide (m<n))∧Ext h h':=by
 apply KT;unfold A7;rw[fV,fV];refine aC λG h1 r1 D I=>?_
 refine aC λL H r2 A F=>?_
 have r1:=A.row r1;simp only[go_sem,Two.a r1,Two.b r1,Two.a r2,Two.b r2];refine aj (λhc=>?_) (λhc=>?_)
 ·exact⟨by congr 1;exact decide_eq_decide.2 (by omega),D.trans A⟩
 ·exact⟨by congr 1;exact decide_eq_decide.2 (by omega),D.trans A⟩
theorem Fq {a:Nat}(A:a<18446744073709551616):ag .i .and (.int .u64 (a:Int)) (.int .u64 1)=some (.int .u64 ((a%2:Nat):Int)):=by
 have:=NN A (b:=1) (by omega);rw[Nat.and_one_is_mod]at this;exact this
theorem Al {h:af}{m i:Nat}(I:m<340282366920938463463374607431768211456)(hi:i<128):ae prog gy #[lX m,.int .i64 (i:Int)] h λr h'=>r=.int .u64 ((m/2^i%2:Nat):Int)∧Ext h h':=by
 apply M6;unfold Da;rw[fV];refine aC λH h1 r1 D L=>?_
 simp only[go_sem,Two.a r1,Two.b r1];refine aj (λhc=>?_) (λhc=>?_)
 ·rw[w64 (n:=(i:Int)-64) (by omega) (by omega),show(i:Int)-64=((i-64:Nat):Int)by omega,kA _ (by omega),ah];rw[Fq (Nat.lt_of_le_of_lt (Nat.div_le_self _ _) (by omega)),ah];refine⟨?_,D⟩;have e:m/2^i=m/18446744073709551616/2^(i-64):=by
   rw[Nat.div_div_eq_div_mul,show(18446744073709551616:Nat)=2^64 from rfl,←Nat.pow_add,show 64+(i-64)=i by omega]
  rw[e]
 ·rw [kA _ (by omega),ah];rw[Fq (Nat.lt_of_le_of_lt (Nat.div_le_self _ _) (Nat.mod_lt _ (by omega))),ah];refine⟨?_,D⟩;have F:(0:Nat)<2^i:=Nat.pow_pos (by omega);have A:(18446744073709551616:Nat)=2^i*(2*2^(63-i)):=by rw[←Nat.pow_succ',←Nat.pow_add,show i+(63-i+1)=64 by omega]
  have D:m/2^i=m/18446744073709551616*(2*2^(63-i))+m%18446744073709551616/2^i:=by
   have e:=Nat.div_add_mod m 18446744073709551616;have G:m=m%18446744073709551616+2^i*(m/18446744073709551616*(2*2^(63-i))):=by
    have:2^i*(m/18446744073709551616*(2*2^(63-i)))=18446744073709551616*(m/18446744073709551616):=by
     conv=>rhs;rw[A]
     rw[Nat.mul_left_comm,Nat.mul_comm,←A]
    rw[this];omega
   conv=>lhs;rw[G]
   rw[Nat.add_mul_div_left _ _ F,Nat.add_comm]
  rw[D,Nat.mul_left_comm,Nat.mul_add_mod]
theorem pH {h:af}{x:Int}(A:I64 x):ae prog eT #[.int .i64 x] h λr h'=>r=.int .u64 (x.natAbs:Int)∧h'=h:=by
 apply KP;unfold A2;simp only[go_sem,dG,gG];unfold I64 at A;refine aj (λh0=>?_) (λh0=>?_)
 ·exact⟨by congr 1;omega,trivial⟩
 ·exact⟨by congr 1;omega,trivial⟩
theorem lU {h:af}{m:Nat}{b:Bool}(F:m<340282366920938463463374607431768211456):ae prog dc #[lX m,.bool b] h λr h'=>r=.int .i64 (iy m b)∧Ext h h':=by
 apply KU;unfold A8;rw[fV];refine aC λD h1 r1 A G=>?_
 unfold iy;cases b
 ·simp only[go_sem,Two.a r1,Two.b r1,Bool.false_eq_true,if_false];refine aj (λh0=>?_) (λh0=>?_)
  ·rw[if_pos (by omega)];exact⟨rfl,A⟩
  ·rw[if_neg (by omega),w64 (by omega) (by omega)];exact⟨by congr 1;omega,A⟩
 ·simp only[go_sem,Two.a r1,Two.b r1,if_true];refine aj (λh0=>?_) (λh0=>?_)
  ·rw[if_pos (by omega)];exact⟨rfl,A⟩
  ·rw[w64 (n:=((m%18446744073709551616:Nat):Int)) (by omega) (by omega),w64 (by omega) (by omega)];refine⟨?_,A⟩
   congr 1
   split<;>omega
theorem DU {a b:Nat}(A:a<18446744073709551616)(D:b<18446744073709551616):a*b<340282366920938463463374607431768211456:=by
 have:=Nat.mul_lt_mul'' A D;exact this
theorem Ma {h:af}{a b:Nat}(W:a<18446744073709551616)(I:b<18446744073709551616):
  ae prog og #[.int .u64 (a:Int),.int .u64 (b:Int)] h λr h'=>r=lX (a*b)∧Ext h h':=by
 apply Il;unfold xY;refine aC λb1 h1 r1 e1 n1=>?_
 have l1:=aU r1;rw[aE,bA,ah,←zX];refine ji (n:=0) λb2 h2 r2 e2 n2=>?_
 refine bB (α:=Unit) 64 0 (λi _=>[.int .i64 (63-(i:Int))]) (λi _ h'=>Big h' b2 293 (a*(b/2^(64-i)))∧Ext h1 h') () rfl (by omega) ⟨by rw[Nat.div_eq_of_lt I];exact r2,e2⟩ λi _ h3 again ρj _ hi ⟨D,U⟩ H=>?_
 simp only[go_sem];have aa:b/2^(64-i)≤b:=Nat.div_le_self _ _;have hm:=DU W (Nat.lt_of_le_of_lt aa I);refine aj (λh0=>?_) (λh0=>?_)
 ·have hi:i<64:=by omega
  have hv:=Pj b (63-i);rw[show 63-i+1=64-i by omega]at hv;have F:a*(b/2^(63-i))=2*(a*(b/2^(64-i)))+a*(b/2^(63-i)%2):=by
   conv=>lhs;rw[hv]
   rw[Nat.mul_add,Nat.mul_left_comm]
  have G:=DU W (Nat.lt_of_le_of_lt (Nat.div_le_self b (2^(63-i))) I);have H:=λh'=>H () h' hi
  rw[show 64-(i+1)=63-i by omega,F]at H;rw[F]at G;generalize a*(b/2^(64-i))=p at*;rw[D.all,ah];refine(lh (n:=p) (bit:=0) (by omega) (by omega)).mono λv h4 ⟨e,e4⟩=>?_
  subst e;have D:=e4.row D;refine gH D λh5 L u5=>?_
  have e5:Ext h1 h5:=(U.trans e4).upd n2 u5;rw[show(63:Int)-(i:Int)=((63-i:Nat):Int)by omega,kA _ (by omega),ah];rw[Fq (Nat.lt_of_le_of_lt (Nat.div_le_self _ _) I),ah,si,ah];refine aj (λA=>?_) (λA=>?_)
  ·have A:b/2^(63-i)%2=1:=by omega
   rw[A,Nat.mul_one]at G H;rw[L.all,ah,jk,bA,ah,←Af W];refine(zu (m:=2*p+0) (n:=a) (by omega)).mono λv A ⟨e,e6⟩=>?_
   subst e;refine gH (e6.row L) λh7 r7 u7=>?_
   rw[w64 (by omega) (by omega)];have:=H h7 ⟨r7,(e5.trans e6).upd n2 u7⟩;rw[show(63:Int)-((i+1:Nat):Int)=((63-i:Nat):Int)-1 by omega]at this;exact this
  ·have A:b/2^(63-i)%2=0:=by omega
   rw[A,Nat.mul_zero]at H;rw[w64 (by omega) (by omega)];have:=H h5 ⟨L,e5⟩;rw[show(63:Int)-((i+1:Nat):Int)=((63-i:Nat):Int)-1 by omega]at this;exact this
 ·have:i=64:=by omega
  subst this;rw[show b/2^(64-64)=b by simp]at D;rw[D.all,ah];refine gH (U.row r1) λh4 r4 u4=>?_
  rw[r4.all,ah];exact⟨rfl,(e1.trans U).upd n1 u4⟩
theorem PN {h:af}{m d:Nat}(hm:m<340282366920938463463374607431768211456)(hd:d<18446744073709551616)(ab:0<d):
  ae prog qZ #[lX m,.int .u64 (d:Int)] h λr h'=>r=.tuple #[lX (m/d),.int .u64 ((m%d:Nat):Int)]∧Ext h h':=by
 apply KR;unfold A5;rw[fV];refine aC λb1 h1 r1 e1 n1=>?_
 refine aC λb2 h2 r2 e2 n2=>?_
 have r1:=e2.row r1;have l1:=aU r1;have l2:=aU r2;rw[aE,bA,ah,←zX];refine ji (n:=0) λb3 h3 A e3 n3=>?_
 have l3:=aU A;rw[ah];refine ji (n:=0) λb4 h4 D e4 n4=>?_
 rw[si,ah,show decide ((d:Int)=0)=false from decide_eq_false (by omega),cf];have ax:Ext h h4:=e1.trans (e2.trans (e3.trans e4));have k2:h.size≤b2:=Nat.le_trans e1.1 n2;have k3:h.size≤b3:=Nat.le_trans (e1.trans e2).1 n3;have k4:h.size≤b4:=Nat.le_trans (e1.trans (e2.trans e3)).1 n4;refine bB (α:=Unit) 128 0 (λi _=>[.int .i64 (127-(i:Int))]) (λi _ h'=>Big h' b1 293 m∧Two h' b2 293 (.int .u64 0) (.int .u64 0)∧Big h' b3 293 (m/2^(128-i)/d)∧Big h' b4 293 (m/2^(128-i)%d)∧Ext h h')
  () rfl (by omega) ?_ λi _ h5 again ρj _ hi ⟨r1,r2,A,D,e5⟩ H=>?_
 ·have q:m/2^(128-0)=0:=Nat.div_eq_of_lt (Nat.lt_of_lt_of_le hm (by decide));rw[q,Nat.zero_div,Nat.zero_mod];exact⟨(e3.trans e4).row r1,(e3.trans e4).row r2,e4.row A,D,ax⟩
 simp only[go_sem];have hr:m/2^(128-i)%d<d:=Nat.mod_lt _ ab;refine aj (λh0=>?_) (λh0=>?_)
 ·have hi:i<128:=by omega
  have H:=λh'=>H () h' hi
  have hv:=Pj m (127-i);rw[show 127-i+1=128-i by omega]at hv;rw[show 128-(i+1)=127-i by omega]at H;have hb:m/2^(127-i)%2≤1:=by omega
  have hs:=Te (n:=m/2^(128-i)) ab rfl rfl hb;rw[←hv]at hs;rw[hs.1,hs.2]at H;have hq:2*(m/2^(128-i)/d)+(if d≤2*(m/2^(128-i)%d)+m/2^(127-i)%2 then 1 else 0)<340282366920938463463374607431768211456:=by
   rw[←hs.1];exact Nat.lt_of_le_of_lt (Nat.le_trans (Nat.div_le_self _ _) (Nat.div_le_self _ _)) hm
  rw[show(127:Int)-((i+1:Nat):Int)=((127-i:Nat):Int)-1 by omega]at H;rw[show(127:Int)-(i:Int)=((127-i:Nat):Int)by omega];have aa:∀h',ae prog gy #[lX m,.int .i64 ((127-i:Nat):Int)] h' λr ar=>r=.int .u64 ((m/2^(127-i)%2:Nat):Int)∧Ext h' ar:=λh'=>Al hm (by omega)
  generalize m/2^(127-i)%2=bit at*;generalize m/2^(128-i)/d=q at*;generalize m/2^(128-i)%d=r at*;refine aG (Ext h5) (Ext.refl _) ?_;refine ao _ (λh' e=>Big.all (e.row D)) ?_;refine ao _ (λh' e=>Big.all (e.row r1)) ?_;refine(aa h5).mono λv h6 ⟨e,e6⟩=>?_
  subst e;refine⟨e6,?_⟩;refine(lh (n:=r) (bit:=bit) hb (by omega)).mono λv h7 ⟨e,e7⟩=>?_
  subst e;have I:=e6.trans e7;refine gH (I.row D) λh8 D u8=>?_
  have r1:=u8.row (by omega) (I.row r1);have r2:=u8.row (by omega) (I.row r2);have A:=u8.row (by omega) (I.row A);have e8:=(e5.trans I).upd k4 u8;rw[Big.all A,ah];refine(lh (n:=q) (bit:=0) (by omega) (by omega)).mono λv h9 ⟨e,e9⟩=>?_
  subst e;refine gH (e9.row A) λa7 A U=>?_
  have r1:=U.row (by omega) (e9.row r1);have r2:=U.row (by omega) (e9.row r2);have D:=U.row (by omega) (e9.row D);have au:=(e8.trans e9).upd k3 U;rw[Big.all D,ah,jk,bA,ah,←Af hd];refine zv.mono λv aw ⟨e,F⟩=>?_
  subst e;have r1:=F.row r1;have r2:=F.row r2;have A:=F.row A;have D:=F.row D;have ad:=au.trans F;rw[RS,ah,Sp];refine aj (λhc=>?_) (λhc=>?_)
  ·rw[if_pos (by omega),if_pos (by omega)]at H;rw[if_pos (by omega)]at hq;rw[Big.all D,ah,ah];refine(Mb (m:=2*r+bit) (n:=d) (by omega) (by omega)).mono λv a8 ⟨e,G⟩=>?_
   subst e;refine gH (G.row D) λay D L=>?_
   have r1:=L.row (by omega) (G.row r1);have r2:=L.row (by omega) (G.row r2);have A:=L.row (by omega) (G.row A);have an:=(ad.trans G).upd k4 L;simp only[go_sem,Two.b A];refine bJ A (by simp) rfl λal A W=>?_
   have A:Two al b3 _ (.int .u64 _) (.int .u64 _):=A;have r1:=W.row (by omega) r1;have r2:=W.row (by omega) r2;have D:=W.row (by omega) D;rw[w64 (by omega) (by omega)];refine H al ⟨r1,r2,?_,D,an.upd k3 W⟩;have a1:(((2*q+0)/18446744073709551616:Nat):Int)=(((2*q+1)/18446744073709551616:Nat):Int):=by omega
   have a2:IntKind.u64.wrap ((((2*q+0)%18446744073709551616:Nat):Int)+1)=(((2*q+1)%18446744073709551616:Nat):Int):=by rw[dG];omega
   rw[a1,a2]at A;exact A
  ·rw[if_neg (by omega),if_neg (by omega)]at H;rw[w64 (by omega) (by omega)];exact H aw ⟨r1,r2,A,D,ad⟩
 ·have:i=128:=by omega
  subst this;rw[show m/2^(128-128)=m by simp]at A D hr;refine aG (λh'=>Two h' b4 293 (.int .u64 ((m%d/18446744073709551616:Nat):Int)) (.int .u64 ((m%d%18446744073709551616:Nat):Int))∧(Big h' b3 293 (m/d))) ⟨D,A⟩ ?_;refine ao _ (λh' e=>Big.all e.2) ?_;simp only[go_sem];refine ao _ (λh' e=>Two.b e.1) ?_;refine gH r2 λh6 r6 u6=>?_
  refine⟨⟨u6.row (by omega) D,u6.row (by omega) A⟩,?_⟩;rw[r6.all,ah];refine⟨?_,e5.upd k2 u6⟩;rw[Nat.mod_eq_of_lt (Nat.lt_trans hr hd)]
end Go.Proofs.YtcoimlclclnlkaaGreatDoor
namespace Go.Crisp
def upS (m n:Nat)(below:Bool):Bool:=if below then decide (2^(n-1)<m%2^n)else decide (2^(n-1)≤m%2^n)
theorem S6 {x:Int}{n:Nat}(hx:I64 x)(h1:1≤n)(h2:n≤64):
  iy (x.natAbs/2^n+(if upS x.natAbs n (decide (x<0))then 1 else 0)) (decide (x<0))=kQ x n:=by
 obtain⟨b1,b2⟩:=hx;have al:(0:Nat)<2^(n-1):=Nat.pow_pos (by omega);have W:2^n=2*2^(n-1):=by
  obtain⟨j,rfl⟩:∃j,n=j+1:=⟨n-1,by omega⟩
  rw[Nat.add_sub_cancel,Nat.pow_succ,Nat.mul_comm]
 have U:(2:Int)^n=2*((2^(n-1):Nat):Int):=by
  rw[show(2:Int)^n=((2^n:Nat):Int)by simp,W];simp
 have L:(2:Int)^(n-1)=((2^(n-1):Nat):Int):=by simp
 have G:64≤n→9223372036854775808≤2^(n-1):=λh=>by rw[show n=64 by omega];decide
 have hq:x.natAbs/2^n≤4611686018427387904:=by
  rw[W];refine Nat.le_trans (Nat.div_le_div_left (c:=2) (by omega) (by omega)) ?_;omega
 have hs:kQ x n=if(64:Int)≤n then 0 else x/2^n+x/2^(n-1)%2:=by
  unfold kQ;rw[if_neg (by omega),Int.toNat_natCast]
 rw[hs,U,L];unfold upS;have hm:=Nat.div_add_mod x.natAbs (2^n);have hr:=Nat.mod_lt x.natAbs (show 0<2^n by omega);rw[W]at hm hr hq ⊢;generalize ab:x.natAbs/(2*2^(n-1))=q at*;generalize an:x.natAbs%(2*2^(n-1))=r at*;generalize 2^(n-1)=p at*;have aa:(2*p)*q=2*(p*q):=Nat.mul_assoc _ _ _;rw[aa]at hm;have ci:((p*q:Nat):Int)=(p:Int)*q:=Int.natCast_mul _ _;by_cases H:x<0
 ·rw [decide_eq_true H];simp only[if_true,decide_eq_true_eq];unfold iy
  try simp only[if_true]
  by_cases A:(64:Int)≤n
  ·rw[if_pos A];have:=G (by omega);have I:q=0:=by
    rcases Nat.eq_zero_or_pos q with h|h
    ·exact h
    ·have:=Nat.le_mul_of_pos_right p h;omega
   subst I;rw[if_neg (show¬p<r by omega),if_neg (by omega)];rfl
  ·rw [if_neg A,if_neg (by split<;>omega)];by_cases ad:r=0
   ·have e:x=0+2*(p:Int)*(-(q:Int)):=by rw[Int.mul_assoc,Int.mul_neg];omega
    have F:x=0+(p:Int)*(-(2*(q:Int))):=by rw[Int.mul_neg,Int.mul_left_comm];omega
    have d1:x/(2*(p:Int))= -(q:Int):=by
     conv=>lhs;rw[e]
     rw[Int.add_mul_ediv_left _ _ (by omega)];simp
    have d2:x/(p:Int)= -(2*(q:Int)):=by
     conv=>lhs;rw[F]
     rw[Int.add_mul_ediv_left _ _ (by omega)];simp
    rw[d1,d2];rw[if_neg (by omega)];omega
   ·have e:x=(2*p-r:Int)+2*(p:Int)*(-(q:Int)-1):=by rw[Int.mul_assoc,Int.mul_sub,Int.mul_neg];omega
    have d1:x/(2*(p:Int))= -(q:Int)-1:=by
     conv=>lhs;rw[e]
     rw[Int.add_mul_ediv_left _ _ (by omega),Int.ediv_eq_zero_of_lt (by omega) (by omega)];simp
    by_cases D:p<r
    ·have F:x=(2*p-r:Int)+(p:Int)*(2*(-(q:Int)-1)):=by rw[Int.mul_left_comm,Int.mul_sub,Int.mul_neg];omega
     have d2:x/(p:Int)=2*(-(q:Int)-1):=by
      conv=>lhs;rw[F]
      rw[Int.add_mul_ediv_left _ _ (by omega),Int.ediv_eq_zero_of_lt (by omega) (by omega)];simp
     rw[d1,d2,if_pos D];omega
    ·have F:x=(p-r:Int)+(p:Int)*(2*(-(q:Int)-1)+1):=by rw[Int.mul_add,Int.mul_left_comm,Int.mul_sub,Int.mul_neg];omega
     have d2:x/(p:Int)=2*(-(q:Int)-1)+1:=by
      conv=>lhs;rw[F]
      rw[Int.add_mul_ediv_left _ _ (by omega),Int.ediv_eq_zero_of_lt (by omega) (by omega)];simp
     rw[d1,d2,if_neg D];omega
 ·rw [decide_eq_false H];simp only[Bool.false_eq_true,if_false,decide_eq_true_eq];unfold iy
  try simp only[Bool.false_eq_true,if_false]
  rw[if_neg (by split<;>omega)];by_cases A:(64:Int)≤n
  ·rw[if_pos A];have:=G (by omega);have I:q=0:=by
    rcases Nat.eq_zero_or_pos q with h|h
    ·exact h
    ·have:=Nat.le_mul_of_pos_right p h;omega
   subst I;rw[if_neg (by omega)];rfl
  ·rw[if_neg A];have e:x=(r:Int)+2*(p:Int)*(q:Int):=by rw[Int.mul_assoc];omega
   have d1:x/(2*(p:Int))=(q:Int):=by
    conv=>lhs;rw[e]
    rw[Int.add_mul_ediv_left _ _ (by omega),Int.ediv_eq_zero_of_lt (by omega) (by omega)];simp
   by_cases D:p≤r
   ·have F:x=(r-p:Int)+(p:Int)*(2*(q:Int)+1):=by rw[Int.mul_add,Int.mul_left_comm];omega
    have d2:x/(p:Int)=2*(q:Int)+1:=by
     conv=>lhs;rw[F]
     rw[Int.add_mul_ediv_left _ _ (by omega),Int.ediv_eq_zero_of_lt (by omega) (by omega)];simp
    rw[d1,d2,if_pos D];omega
   ·have F:x=(r:Int)+(p:Int)*(2*(q:Int)):=by rw[Int.mul_left_comm];omega
    have d2:x/(p:Int)=2*(q:Int):=by
     conv=>lhs;rw[F]
     rw[Int.add_mul_ediv_left _ _ (by omega),Int.ediv_eq_zero_of_lt (by omega) (by omega)];simp
    rw[d1,d2,if_neg D];omega
theorem Tc (m n i:Nat):m%2^n+m/2^i*2^i=m%2^n+m/2^(i+1)*2^(i+1)+m/2^i%2*2^i:=by
 have:=Pj m i
 conv=>lhs;rw[this]
 rw[Nat.add_mul,Nat.pow_succ,Nat.mul_assoc 2,Nat.mul_left_comm 2,Nat.mul_comm 2];omega
theorem UM (m i:Nat):m%2^(i+1)=m%2^i+m/2^i%2*2^i:=by
 rw[Nat.pow_succ,Nat.mod_mul,Nat.mul_comm]
end Go.Crisp
namespace Go.Proofs.YtcoimlclclnlkaaGreatDoor
open Go Go.Crisp
attribute [local irreducible] ae cF aP stK aA vK qK bD gK dE aS mkK cG Cn DS Ad bsK
open _root_.Go.Proofs.Tryz
theorem PO {h:af}{m d:Nat}{bl:Bool}(hm:m<340282366920938463463374607431768211456)(hd:d<18446744073709551616)(H:0<d):
  ae prog p8 #[lX m,.int .u64 (d:Int),.bool bl] h λr h'=>r=.int .i64 (iy (tO m d bl) bl)∧Ext h h':=by
 apply EQ;unfold uX;rw[fV];refine aC λb1 h1 r1 e1 n1=>?_
 rw[Big.all r1,ah];refine(PN hm hd H).mono λv h2 ⟨e,e2⟩=>?_
 subst e;simp only[go_sem];refine ji (n:=m/d) λb2 h3 r3 e3 n3=>?_
 have hr:m%d<d:=Nat.mod_lt _ H;rw[jk,bA,ah,←Af (n:=m%d) (by omega)];refine(lh (n:=m%d) (bit:=0) (by omega) (by omega)).mono λv h4 ⟨e,e4⟩=>?_
 subst e;refine ji (n:=2*(m%d)+0) λb3 h5 r5 e5 n5=>?_
 rw[Big.all r5,ah,jk,bA,ah,←Af hd];refine zv.mono λv h6 ⟨e,U⟩=>?_
 subst e;have F:Ext h h6:=e1.trans (e2.trans (e3.trans (e4.trans (e5.trans U))));have r2:=(e4.trans (e5.trans U)).row r3;have r3:=U.row r5;have k2:h.size≤b2:=Nat.le_trans (e1.trans e2).1 n3;simp only[go_sem];have hq:m/d≤m:=Nat.div_le_self _ _;have A:d≤2*(m%d)→m/d+1<340282366920938463463374607431768211456:=λhh=>by
  have:=Nat.div_le_div_left (a:=m) (c:=2) (b:=d) (by omega) (by omega);omega
 refine aV (λxs h'=>xs=[.bool (if bl then decide (d<2*(m%d))else decide (d≤2*(m%d)))]∧Ext h h'∧Big h' b2 293 (m/d)) ?_ ?_
 ·cases bl
  ·rw[cf];refine⟨?_,F,r2⟩
   congr 2
   simp only[Bool.false_eq_true,if_false];exact decide_eq_decide.2 (by omega)
  ·rw[fP];rw[Big.all r3];simp only[go_sem];refine zv.mono λv h7 ⟨e,G⟩=>?_
   subst e;exact⟨by simp only[if_true,Nat.add_zero],F.trans G,G.row r2⟩
 ·rintro xs ρj h7 ⟨rfl,G,I⟩;simp only[go_sem];refine iI (λhc=>?_) (λhc=>?_)
  ·have W:tO m d bl=m/d+1:=by
    unfold tO;cases bl
    ·simp only[Bool.false_eq_true,if_false,decide_eq_true_eq]at hc ⊢;rw[if_pos hc]
    ·simp only[if_true,decide_eq_true_eq]at hc ⊢;rw[if_pos hc]
   have A:=A (by
    cases bl
    ·simp only[Bool.false_eq_true,if_false,decide_eq_true_eq]at hc;exact hc
    ·simp only[if_true,decide_eq_true_eq]at hc;omega)
   rw[Big.all I,ah,jk,bA,ah,←vk];refine(zu (m:=m/d) (n:=1) A).mono λv h8 ⟨e,e8⟩=>?_
   subst e;refine gH (e8.row I) λh9 r9 u9=>?_
   rw[r9.all,ah];refine(lU (m:=m/d+1) (b:=bl) A).mono λv L ⟨e,D⟩=>?_
   exact⟨by rw[e,W],((G.trans e8).upd k2 u9).trans D⟩
  ·have W:tO m d bl=m/d:=by
    unfold tO;cases bl
    ·simp only[Bool.false_eq_true,if_false,decide_eq_false_iff_not]at hc ⊢;rw[if_neg hc];rfl
    ·simp only[if_true,decide_eq_false_iff_not]at hc ⊢;rw[if_neg hc];rfl
   rw[Big.all I,ah];refine(lU (m:=m/d) (b:=bl) (by omega)).mono λv L ⟨e,D⟩=>?_
   exact⟨by rw[e,W],G.trans D⟩
theorem RI (a b:Int):(!(decide (a<0)==decide (b<0)))=jl a b:=rfl
theorem Md {h:af}{a b:Int}(L:I64 a)(U:I64 b):ae prog oA #[.int .i64 a,.int .i64 b] h λr h'=>r=.int .i64 (Fg a b)∧Ext h h':=by
 apply Ip;unfold yc;simp only[go_sem];unfold Fg;refine aj (λh0=>?_) (λh0=>?_)
 ·rw[if_pos h0];exact⟨rfl,Ext.refl _⟩
 rw[if_neg h0];have aa:=ns L;have ab:=ns U;refine(pH L).mono λv1 h1 ⟨F,w1⟩=>?_
 subst F w1;rw[jk,bA,ah,←Af (n:=a.natAbs) (by omega)];refine(pH U).mono λv1 h1 ⟨F,w1⟩=>?_
 subst F w1;refine(PN (m:=a.natAbs) (d:=b.natAbs) (by omega) (by omega) (by omega)).mono λv h2 ⟨e,W⟩=>?_
 subst e;simp only[go_sem];refine ji (n:=a.natAbs/b.natAbs) λb2 h3 H e3 n3=>?_
 have hq:a.natAbs/b.natAbs≤a.natAbs:=Nat.div_le_self _ _;simp only[go_sem,RI];have D:=W.trans e3;have k2:=Nat.le_trans W.1 n3;by_cases hd:jl a b=true∧0<a.natAbs%b.natAbs
 ·have q:(jl a b&&decide ((0:Int)<((a.natAbs%b.natAbs:Nat):Int)))=true:=by rw[hd.1,decide_eq_true (by omega)];rfl
  rw[q,fP];unfold Cl;rw[if_pos ⟨hd.1,by omega⟩];rw[Big.all H,ah,jk,bA,ah,←vk];refine(zu (m:=a.natAbs/b.natAbs) (n:=1) (by omega)).mono λv h8 ⟨e,I⟩=>?_
  subst e;refine gH (I.row H) λh9 r9 u9=>?_
  rw[r9.all,ah];refine(lU (m:=a.natAbs/b.natAbs+1) (b:=jl a b) (by omega)).mono λv G ⟨e,A⟩=>?_
  exact⟨e,((D.trans I).upd k2 u9).trans A⟩
 ·have q:(jl a b&&decide ((0:Int)<((a.natAbs%b.natAbs:Nat):Int)))=false:=by
   rw[←Bool.not_eq_true,Bool.and_eq_true,decide_eq_true_eq];rintro⟨x,y⟩;exact hd ⟨x,by omega⟩
  rw[q,cf];unfold Cl;rw[if_neg (by rintro⟨x,y⟩;exact hd ⟨x,by omega⟩)];rw[Big.all H,ah];refine(lU (m:=a.natAbs/b.natAbs) (b:=jl a b) (by omega)).mono λv G ⟨e,A⟩=>?_
  exact⟨e,D.trans A⟩
theorem gL {h:af}{a b d:Int}(L:I64 a)(U:I64 b)(hd:I64 d):ae prog cI #[.int .i64 a,.int .i64 b,.int .i64 d] h λr h'=>r=.int .i64 (ch a b d)∧Ext h h':=by
 apply Gx;unfold xi;simp only[go_sem];unfold ch;refine aj (λh0=>?_) (λh0=>?_)
 ·rw[if_pos h0];exact⟨rfl,Ext.refl _⟩
 rw[if_neg h0];have A:=ib L;have D:=ib U;have F:=ib hd;refine(pH L).mono λI h1 ⟨G,w1⟩=>?_
 subst G w1;refine(pH U).mono λI h1 ⟨G,w1⟩=>?_
 subst G w1;refine(Ma A D).mono λv h2 ⟨e,e2⟩=>?_
 subst e;refine ji (n:=a.natAbs*b.natAbs) λb2 h3 r3 e3 n3=>?_
 simp only[go_sem,RI];refine aG (Ext h3) (Ext.refl _) ?_;refine ao _ (λh' e=>Big.all (e.row r3)) ?_;refine(pH hd).mono λI h4 ⟨W,w4⟩=>?_
 subst W w4;refine⟨Ext.refl _,?_⟩;refine(PO (bl:= !(jl a b==decide (d<0))) (DU A D) F (by omega)).mono λv aa ⟨e,H⟩=>?_
 refine⟨?_,e2.trans (e3.trans H)⟩;rw[e];rfl
theorem GX {i:Nat}(h:i<128):2^i<340282366920938463463374607431768211456:=by
 have:=Nat.pow_lt_pow_right (a:=2) (by omega) h;exact this
theorem Ak {h:af}{x n:Int}(hx:I64 x)(hn:I64 n):ae prog iW #[.int .i64 x,.int .i64 n] h λr h'=>r=.int .i64 (kQ x n)∧Ext h h':=by
 apply Im;unfold xZ;simp only[go_sem];refine aj (λh0=>?_) (λh0=>?_)
 ·unfold kQ;rw[if_pos (by omega)];exact⟨rfl,Ext.refl _⟩
 refine aj (λh1=>?_) (λh1=>?_)
 ·unfold kQ;rw[if_neg (by omega),if_pos (by omega)];exact⟨rfl,Ext.refl _⟩
 obtain⟨k,rfl⟩:∃k:Nat,n=(k:Int):=⟨n.toNat,by omega⟩
 rw[w64 (n:=(k:Int)-1) (by omega) (by omega)];rw[jk,bA,ah,←vk];refine ji (n:=1) λb1 h1 r1 e1 n1=>?_
 -- half
 refine bB (α:=Unit) (k-1) 0 (λi _=>[.int .i64 (i:Int)]) (λi _ h'=>Big h' b1 293 (2^i)∧Ext h h') () rfl (by omega) ⟨r1,e1⟩ λi _ h2 again ρj _ hi ⟨r2,e2⟩ H=>?_
 simp only[go_sem];refine aj (λhc=>?_) (λhc=>?_)
 ·rw[Big.all r2,ah];have hp:=GX (i:=i+1) (by omega);have aw:2^(i+1)=2*2^i:=Nat.pow_succ';refine(lh (n:=2^i) (bit:=0) (by omega) (by omega)).mono λv h3 ⟨e,e3⟩=>?_
  subst e;refine gH (e3.row r2) λh4 r4 u4=>?_
  rw[w64 (by omega) (by omega)];rw[Nat.add_zero,←aw]at r4;exact H () h4 (by omega) ⟨r4,(e2.trans e3).upd n1 u4⟩
 have:i=k-1:=by omega
 subst this;have A:=e2;refine(pH hx).mono λv1 h3 ⟨e3,w3⟩=>?_
 subst e3 w3;have bc:=ib hx;rw[jk,bA,ah,←Af bc];refine ji (n:=x.natAbs) λb2 h4 r4 e4 n4=>?_
 try simp only[go_sem]
 rw[fB,bA,ah,←zX];refine ji (n:=0) λb3 h5 r5 e5 n5=>?_
 have l1:=aU r2;have l2:=aU r4;have k2:h.size≤b2:=Nat.le_trans A.1 n4;have k3:h.size≤b3:=Nat.le_trans (A.trans e4).1 n5;have ar:x.natAbs<340282366920938463463374607431768211456:=by omega
 have D:=S6 hx (n:=k) (by omega) (by omega);have bv:x.natAbs≤9223372036854775808:=ns hx;generalize bo:x.natAbs=m at*
 -- the quotient
 refine bB (α:=Unit) (128-k) 0 (λi _=>[.int .i64 (127-(i:Int))])
  (λi _ h'=>Big h' b1 293 (2^(k-1))∧Big h' b2 293 m∧Big h' b3 293 (m/2^(128-i))∧Ext h h')
  () rfl (by omega) ⟨(e4.trans e5).row r2,e5.row r4,by rw[show m/2^(128-0)=0 from Nat.div_eq_of_lt (by simpa using ar)];exact r5,A.trans (e4.trans e5)⟩ λi _ h6 again ρj _ hi ⟨U,W,G,e6⟩ H=>?_
 simp only[go_sem];refine aj (λhc=>?_) (λhc=>?_)
 ·have H:=λh'=>H () h' (by omega)
  have hv:=Pj m (127-i);rw[show 127-i+1=128-i by omega]at hv;rw[show 128-(i+1)=127-i by omega,show(127:Int)-((i+1:Nat):Int)=((127-i:Nat):Int)-1 by omega]at H;have a8:m/2^(127-i)≤m:=Nat.div_le_self _ _;have hb:m/2^(127-i)%2≤1:=by omega
  rw[show(127:Int)-(i:Int)=((127-i:Nat):Int)by omega];refine aG (Ext h6) (Ext.refl _) ?_;refine ao _ (λh' e=>Big.all (e.row G)) ?_;refine ao _ (λh' e=>Big.all (e.row W)) ?_;refine(Al ar (i:=127-i) (by omega)).mono λv h7 ⟨e,e7⟩=>?_
  subst e;refine⟨e7,?_⟩;refine(lh (n:=m/2^(128-i)) (bit:=m/2^(127-i)%2) hb (by omega)).mono λv h8 ⟨e,e8⟩=>?_
  subst e;have an:=e7.trans e8;refine gH (an.row G) λh9 r9 u9=>?_
  rw[w64 (by omega) (by omega)];rw[←hv]at r9;exact H h9 ⟨u9.row (by omega) (an.row U),u9.row (by omega) (an.row W),r9,(e6.trans an).upd k3 u9⟩
 have ax:i=128-k:=by omega
 subst ax;rw[show 128-(128-k)=k by omega]at G;rw[Big.all W,ah];refine ji (n:=m) λb4 h7 r7 e7 n7=>?_
 have l3:=aU G;have l1:=aU U;have l2:=aU W;have k4:h.size≤b4:=Nat.le_trans e6.1 n7
 -- the rest
 refine bB (α:=Unit) 128 k (λi _=>[.int .i64 (i:Int)])
  (λi _ h'=>Big h' b1 293 (2^(k-1))∧Big h' b2 293 m∧Big h' b3 293 (m/2^k)∧Big h' b4 293 (m%2^k+m/2^i*2^i)∧Ext h h')
  () rfl (by omega) ⟨e7.row U,e7.row W,e7.row G,by rw[show m%2^k+m/2^k*2^k=m by rw[Nat.mul_comm];exact Nat.mod_add_div _ _];exact r7,e6.trans e7⟩ λi _ h8 again ρj ax hi ⟨U,W,G,q4,e8⟩ H=>?_
 simp only[go_sem];refine aj (λhc=>?_) (λhc=>?_)
 ·have H:=λh'=>H () h' (by omega)
  rw[Big.all W,ah];have al:=Tc m k i;have a8:m%2^k+m/2^i*2^i≤2*m:=by
   have a1:=Nat.mod_le m (2^k);have a2:=Nat.div_mul_le_self m (2^i);omega
  refine(Al ar (i:=i) (by omega)).mono λv h9 ⟨e,L⟩=>?_
  subst e;simp only[go_sem];have U:=L.row U;have W:=L.row W;have G:=L.row G;have q4:=L.row q4;have L:=e8.trans L;have l4:=aU q4;refine aj (λhd=>?_) (λhd=>?_)
  ·have hd:m/2^i%2=1:=by omega
   rw[hd,Nat.one_mul]at al
   try rw[jk,bA,ah,←vk]
   refine ji (n:=1) λb5 ay bd F n10=>?_
   have k5:h.size≤b5:=Nat.le_trans L.1 n10;refine bB (α:=Unit) i 0 (λj _=>[.int .i64 (j:Int)]) (λj _ h'=>Big h' b1 293 (2^(k-1))∧Big h' b2 293 m∧Big h' b3 293 (m/2^k)∧Big h' b4 293 (m%2^k+m/2^i*2^i)∧Big h' b5 293 (2^j)∧Ext h h')
    () rfl (by omega) ⟨F.row U,F.row W,F.row G,F.row q4,bd,L.trans F⟩ λj _ be a9 ρj2 _ hj ⟨U,W,G,q4,q5,ab⟩ H2=>?_
   simp only[go_sem];refine aj (λbg=>?_) (λbg=>?_)
   ·rw[Big.all q5,ah];have hp:=GX (i:=j+1) (by omega);have aw:2^(j+1)=2*2^j:=Nat.pow_succ';refine(lh (n:=2^j) (bit:=0) (by omega) (by omega)).mono λv a7 ⟨e,A⟩=>?_
    subst e;refine gH (A.row q5) λad aa I=>?_
    rw[w64 (by omega) (by omega)];rw[Nat.add_zero,←aw]at aa;exact H2 () ad (by omega) ⟨I.row (by omega) (A.row U),I.row (by omega) (A.row W),I.row (by omega) (A.row G),I.row (by omega) (A.row q4),aa,(ab.trans A).upd k5 I⟩
   ·have:j=i:=by omega
    subst this;rw[Big.all q4,ah,Big.all q5,ah];refine(Mb (m:=m%2^k+m/2^j*2^j) (n:=2^j) (by omega) (by omega)).mono λv a7 ⟨e,A⟩=>?_
    subst e;refine gH (A.row q4) λad aa I=>?_
    rw[w64 (by omega) (by omega)];rw[al,Nat.add_sub_cancel]at aa;exact H ad ⟨I.row (by omega) (A.row U),I.row (by omega) (A.row W),I.row (by omega) (A.row G),aa,(ab.trans A).upd k4 I⟩
  ·have hd:m/2^i%2=0:=by omega
   rw[hd,Nat.zero_mul,Nat.add_zero]at al;rw[w64 (by omega) (by omega)];exact H h9 ⟨U,W,G,by rw[←al];exact q4,L⟩
 have:i=128:=by omega
 subst this;rw[show m%2^k+m/2^128*2^128=m%2^k by rw[Nat.div_eq_of_lt (a:=m) (b:=2^128) (by simpa using ar)];simp]at q4;rw[Big.all q4,ah,Big.all U,ah];refine zv.mono λv h9 ⟨e,L⟩=>?_
 subst e;have U:=L.row U;have G:=L.row G;have q4:=L.row q4;have L:=e8.trans L;have k1:=n1;simp only[go_sem];refine aV (λxs h'=>xs=[.bool (upS m k (decide (x<0)))]∧Ext h h'∧Big h' b3 293 (m/2^k)) ?_ ?_
 ·unfold upS;refine aj (λhc=>?_) (λhc=>?_)
  ·rw[Big.all U,ah,Big.all q4,ah];refine zv.mono λv ay ⟨e,F⟩=>?_
   subst e;rw[decide_eq_true hc];exact⟨by simp only[if_true],L.trans F,F.row G⟩
  ·rw[decide_eq_false hc];refine⟨?_,L,G⟩;simp only[Bool.false_eq_true,if_false]
   congr 2
   exact decide_eq_decide.2 (by omega)
 ·rintro xs ρj ay ⟨rfl,F,G⟩;simp only[go_sem];have a8:m/2^k≤m:=Nat.div_le_self _ _;refine iI (λhc=>?_) (λhc=>?_)
  ·rw[hc,if_pos rfl]at D;rw[Big.all G,ah]
   try rw[jk,bA,ah,←vk]
   try rw[ah]
   refine(zu (m:=m/2^k) (n:=1) (by omega)).mono λv be ⟨e,ab⟩=>?_
   subst e;refine gH (ab.row G) λa7 bk bi=>?_
   rw[bk.all,ah];refine(lU (m:=m/2^k+1) (b:=decide (x<0)) (by omega)).mono λv ad ⟨e,au⟩=>?_
   exact⟨by rw[e,D],((F.trans ab).upd k3 bi).trans au⟩
  ·rw[hc]at D;simp only[Bool.false_eq_true,if_false,Nat.add_zero]at D;rw[Big.all G,ah];refine(lU (m:=m/2^k) (b:=decide (x<0)) (by omega)).mono λv ad ⟨e,au⟩=>?_
   exact⟨by rw[e,D],F.trans au⟩
theorem NB {h:af}{a b n:Int}(ha:I64 a)(hb:I64 b)(hn:I64 n):ae prog nP #[.int .i64 a,.int .i64 b,.int .i64 n] h λr h'=>r=.int .i64 (nA a b n)∧Ext h h':=by
 apply DH;unfold tj;simp only[go_sem];have au:=ib ha;have an:=ib hb;refine aV (λxs h'=>xs=[.int .i64 (n.toNat:Int)]∧h'=h) ?_ ?_
 ·refine aj (λhc=>?_) (λhc=>?_)
  ·exact⟨by rw[Int.toNat_of_nonpos (by omega)];rfl,rfl⟩
  ·exact⟨by rw[Int.toNat_of_nonneg (by omega)],rfl⟩
 rintro xs ρj h1 ⟨rfl,hh⟩;have hh:=hh.symm;subst hh;simp only[go_sem,RI];unfold nA;refine aj (λh0=>?_) (λh0=>?_)
 ·rw[if_pos (by omega)];exact⟨rfl,Ext.refl _⟩
 rw[if_neg (by omega)];generalize n.toNat=k at*;refine(pH ha).mono λv1 h1 ⟨e1,w1⟩=>?_
 have w1:=w1.symm;subst e1 w1;refine(pH hb).mono λv1 h1 ⟨e1,w1⟩=>?_
 have w1:=w1.symm;subst e1 w1;refine(Ma au an).mono λv G ⟨e,e2⟩=>?_
 subst e;have D:=DU au an;generalize jl a b=bl at*;generalize a.natAbs*b.natAbs=m at*;refine ji (n:=m) λb2 h3 r3 e3 n3=>?_
 have W:=e2.trans e3
 try simp only[go_sem]
 refine aj (λhk=>?_) (λhk=>?_)
 ·obtain rfl:k=0:=by omega
  rw[Big.all r3,ah];refine(lU (m:=m) (b:=bl) D).mono λv h4 ⟨e,e4⟩=>?_
  exact⟨by rw[e];rfl,W.trans e4⟩
 rw[fB,bA,ah,←zX];refine ji (n:=0) λb3 h5 r5 e5 n5=>?_
 have l2:=aU r3;have k2:h.size≤b2:=Nat.le_trans e2.1 n3;have k3:h.size≤b3:=Nat.le_trans W.1 n5;refine bB (α:=Unit) (128-k) 0 (λi _=>[.int .i64 (127-(i:Int))])
  (λi _ h'=>Big h' b2 293 m∧Big h' b3 293 (m/2^(128-i))∧Ext h h')
  () rfl (by omega) ⟨e5.row r3,by rw[show m/2^(128-0)=0 from Nat.div_eq_of_lt (by simpa using D)];exact r5,W.trans e5⟩ λi _ h6 again ρj _ hi ⟨I,A,e6⟩ H=>?_
 simp only[go_sem];refine aj (λhc=>?_) (λhc=>?_)
 ·have H:=λh'=>H () h' (by omega)
  have hv:=Pj m (127-i);rw[show 127-i+1=128-i by omega]at hv;rw[show 128-(i+1)=127-i by omega,show(127:Int)-((i+1:Nat):Int)=((127-i:Nat):Int)-1 by omega]at H;have be:m/2^(127-i)≤m:=Nat.div_le_self _ _;have hb:m/2^(127-i)%2≤1:=by omega
  rw[show(127:Int)-(i:Int)=((127-i:Nat):Int)by omega];refine aG (Ext h6) (Ext.refl _) ?_;refine ao _ (λh' e=>Big.all (e.row A)) ?_;refine ao _ (λh' e=>Big.all (e.row I)) ?_;refine(Al D (i:=127-i) (by omega)).mono λv h7 ⟨e,e7⟩=>?_
  subst e;refine⟨e7,?_⟩;refine(lh (n:=m/2^(128-i)) (bit:=m/2^(127-i)%2) hb (by omega)).mono λv h8 ⟨e,F⟩=>?_
  subst e;have L:=e7.trans F;refine gH (L.row A) λh9 r9 u9=>?_
  rw[w64 (by omega) (by omega)];rw[←hv]at r9;exact H h9 ⟨u9.row (by omega) (L.row I),r9,(e6.trans L).upd k3 u9⟩
 have ay:i=128-k:=by omega
 subst ay;rw[show 128-(128-k)=k by omega]at A;rw[w64 (n:=(k:Int)-1) (by omega) (by omega)];refine bB (α:=Unit) (k-1) 0 (λi _=>[.bool (decide (m%2^i≠0)),.int .i64 (i:Int)])
  (λi _ h'=>Big h' b2 293 m∧Big h' b3 293 (m/2^k)∧Ext h h')
  () (by simp[Nat.mod_one]) (by omega) ⟨I,A,e6⟩ λi _ h7 again ρj _ hi ⟨I,A,e7⟩ H=>?_
 simp only[go_sem];refine aj (λhc=>?_) (λhc=>?_)
 ·have H:=λh'=>H () h' (by omega)
  have ab:=UM m i;have hp:0<2^i:=Nat.pow_pos (by omega);rw[Big.all I];by_cases hz:m%2^i=0
  ·have q:decide (m%2^i≠0)=false:=decide_eq_false (by omega);rw[q];simp only[go_sem];refine(Al D (i:=i) (by omega)).mono λv h8 ⟨e,F⟩=>?_
   subst e;simp only[go_sem];rw[w64 (by omega) (by omega)];have qq:decide (m%2^(i+1)≠0)=decide (((m/2^i%2:Nat):Int)=1):=decide_eq_decide.2 (by
    rw[ab,hz];rcases Nat.mod_two_eq_zero_or_one (m/2^i)with hh|hh
    ·rw[hh];simp
    ·rw[hh];simp)
   have H:=H h8 ⟨F.row I,F.row A,e7.trans F⟩;rw[qq]at H;exact H
  ·have q:decide (m%2^i≠0)=true:=decide_eq_true hz;rw[q];simp only[go_sem];rw[w64 (by omega) (by omega)];have H:=H h7 ⟨I,A,e7⟩;rw[show decide (m%2^(i+1)≠0)=true from decide_eq_true (by rw[ab];omega)]at H;exact H
 have:i=k-1:=by omega
 subst this;rw[Big.all I,ah,show(k:Int)-1=((k-1:Nat):Int)by omega];refine(Al D (i:=k-1) (by omega)).mono λv h8 ⟨e,F⟩=>?_
 subst e;have A:=F.row A;have F:=e7.trans F;have be:m/2^k≤m/2:=by
  refine Nat.div_le_div_left ?_ (by omega);have:=Nat.pow_le_pow_right (n:=2) (by omega) (show 1≤k by omega);omega
 have al:∀c:Bool,(c=true↔(m/2^(k-1)%2=1∧¬(bl=true∧m%2^(k-1)=0)))→aA (.bool c)
   (ae prog gx #[lX (m/2^k),lX 1] h8 λax bd=>stK 2 (.pointer (some ⟨b3,0,none⟩)) ax bd λbo ad=>vK (aH 2 ad (.pointer (some ⟨b3,0,none⟩))) λbk=>
    ae prog dc #[bk,.bool bl] ad λa8 aw=>a8=.int .i64 (iy (Hb m k bl) bl)∧Ext h aw)
   (ae prog dc #[lX (m/2^k),.bool bl] h8 λa9 a7=>a9=.int .i64 (iy (Hb m k bl) bl)∧Ext h a7):=by
  intro c ar;unfold Hb;rw[if_neg (by omega)];refine iI (λhc=>?_) (λhc=>?_)
  ·rw[if_pos (ar.1 hc)];refine(zu (m:=m/2^k) (n:=1) (by omega)).mono λv bv ⟨e,aa⟩=>?_
   subst e;refine gH (aa.row A) λb0 bi bc=>?_
   rw[bi.all,ah];refine(lU (m:=m/2^k+1) (b:=bl) (by omega)).mono λv bg ⟨e,U⟩=>?_
   exact⟨e,((F.trans aa).upd k3 bc).trans U⟩
  ·rw[if_neg (λhh=>by rw[ar.2 hh]at hc;cases hc)];refine(lU (m:=m/2^k) (b:=bl) (by omega)).mono λv bg ⟨e,U⟩=>?_
   exact⟨e,F.trans U⟩
 simp only[go_sem,Big.all A];rw[Xc,bA,ah,←vk];refine al _ ?_;rw[Bool.and_eq_true,Bool.or_eq_true,decide_eq_true_eq,decide_eq_true_eq];constructor
 ·rintro⟨h1,G⟩;refine⟨by omega,?_⟩;rintro⟨h3,h4⟩;rcases G with G|G
  ·exact G h4
  ·rw[h3]at G;cases G
 ·rintro⟨h1,G⟩;refine⟨by omega,?_⟩;by_cases h3:bl=true
  ·exact .inl λh4=>G ⟨h3,h4⟩
  ·exact .inr (by simpa using h3)
theorem N9 (p m t:Int):IntKind.i64.wrap (p-IntKind.i64.wrap (m+t))=IntKind.i64.wrap (IntKind.i64.wrap (p-m)-t):=by
 rw[By,vJ];congr 1;omega
theorem N8 (p m t:Int):IntKind.i64.wrap (IntKind.i64.wrap (p+t)-m)=IntKind.i64.wrap (IntKind.i64.wrap (p-m)+t):=by
 rw[vJ,ri];congr 1;omega
theorem Xp {h:af}{t:Int}(ht:I64 t):ae prog zQ #[.int .i64 t] h λr h'=>r=.int .i64 (TC t)∧Ext h h':=by
 apply M5;unfold C9
 try simp only[go_sem]
 unfold TC;have ab:0≤max 0 t∧max 0 t≤9223372036854775807:=by unfold I64 at ht;omega
 refine aV (λW h'=>W=[.int .i64 (max 0 t)]∧h'=h) ?_ ?_
 ·refine aj (λhc=>?_) (λhc=>?_)
  ·exact⟨by rw[show max 0 t=0 by omega],rfl⟩
  ·exact⟨by rw[show max 0 t=t by omega],rfl⟩
 rintro W ρj h1 ⟨rfl,hh⟩;have hh:=hh.symm;subst hh;generalize max 0 t=T at*
 try simp only[go_sem]
 refine(Md (by unfold I64;omega) (by unfold I64;omega)).mono λU h1 ⟨e,e1⟩=>?_
 subst e;rw[nF (by unfold I64;omega) (by omega)];simp only[go_sem];rw[w64 (n:=T/762123384786*762123384786) (by omega) (by omega),w64 (n:=T-T/762123384786*762123384786) (by omega) (by omega)];rw[show T-T/762123384786*762123384786=T%762123384786 by omega];have hr:0≤T%762123384786∧T%762123384786<762123384786:=by omega
 generalize aa:T%762123384786=r at*;refine bB (α:=Int×Int) 16 0 (λi a=>[.int .i64 a.1,.int .i64 a.2,.int .i64 (dW r i).2,.int .i64 ((i:Int)+1)]) (λi a h'=>IntKind.i64.wrap (a.1-a.2)=(dW r i).1∧Ext h h') (1099511627776,0) rfl (by omega) ⟨show IntKind.i64.wrap (1099511627776-0)=1099511627776 from w64 (by omega) (by omega),e1⟩ λi a h2 again ρj _ hi ⟨L,G⟩ H=>?_
 obtain⟨P,M⟩:=a;simp only[go_sem];obtain⟨s1,s2⟩:=zi r i;refine aj (λh0=>?_) (λh0=>?_)
 ·rw[w64 (n:=((i:Int)+1)*1099511627776) (by omega) (by omega)];refine(gL s2 (by unfold I64;omega) (by unfold I64;omega)).mono λU I ⟨e,D⟩=>?_
  subst e;rw[cV _ _ _ _ (by omega),ah,Int.tmod_eq_emod_of_nonneg (by omega)];simp only[go_sem];have A:(dW r (i+1)).1=IntKind.i64.wrap (if i%2=0 then(dW r i).1-(dW r (i+1)).2 else(dW r i).1+(dW r (i+1)).2):=rfl;have F:(dW r (i+1)).2=ch (dW r i).2 r (((i:Int)+1)*1099511627776):=rfl;rw[←F];rw[w64 (n:=(i:Int)+1+1) (by omega) (by omega),show(i:Int)+1+1=((i+1:Nat):Int)+1 by omega];refine aj (λh4=>?_) (λh4=>?_)
  ·refine H (P,_) I (by omega) ⟨?_,G.trans D⟩;rw[A,if_pos (by omega),←L];exact N9 _ _ _
  ·refine H (_,M) I (by omega) ⟨?_,G.trans D⟩;rw[A,if_neg (by omega),←L];exact N8 _ _ _
 ·have:i=16:=by omega
  subst this;rw[L];refine(Ak s1 (by unfold I64;omega)).mono λU I ⟨e,D⟩=>?_
  exact⟨e,G.trans D⟩
theorem TJ {h:af}{d s:Int}(hd:I64 d)(A:I64 s):ae prog uw #[.int .i64 d,.int .i64 s] h λr h'=>r=.int .i64 (BG d s)∧Ext h h':=by
 apply Ii;unfold xV;simp only[go_sem];unfold BG;refine aj (λh0=>?_) (λh0=>?_)
 ·rw[if_pos (by omega)];exact⟨rfl,Ext.refl _⟩
 ·rw[if_neg (by omega)];have h1:=Lq (d:=d) (B:=16384) (by omega) (by omega);have D:=Lq (d:=s) (B:=4194304) (by omega) (by omega);rw[w64 (n:=d*d) (by omega) (by omega),w64 (n:=d*d*2147483648) (by omega) (by omega),w64 (n:=s*s) (by omega) (by omega)];exact gL (by unfold I64;omega) (by unfold I64;omega) (by unfold I64;omega)
theorem TK {h:af}{d s:Int}(hd:I64 d)(D:I64 s):ae prog uz #[.int .i64 d,.int .i64 s] h λr h'=>r=.int .i64 (zc d s)∧Ext h h':=by
 apply Ij;unfold xW;refine(TJ hd D).mono λA h1 ⟨e,F⟩=>?_
 subst e;refine(Xp (HN _ _)).mono λA I ⟨e,G⟩=>?_
 subst e;refine(Ak (JA _) (by unfold I64;omega)).mono λA L ⟨e,H⟩=>?_
 exact⟨e,F.trans (G.trans H)⟩
theorem Xo {h:af}{p q:Int}(A:I64 p)(hq:I64 q):ae prog zP #[.int .i64 p,.int .i64 q] h λr h'=>r=.bool (decide (GG p q))∧h'=h:=by
 apply M4;unfold C8;simp only[go_sem];unfold I64 at*;refine aj (λh0=>?_) (λh0=>?_)
 ·exact⟨by rw[decide_eq_false];unfold GG;omega,trivial⟩
 ·refine⟨?_,trivial⟩
  congr 1
  rw[decide_eq_decide,w64 (n:= -4*q) (by omega) (by omega),w64 (n:=4*q) (by omega) (by omega)];unfold GG;omega
theorem JP {h:af}{p q:Int}(hp:I64 p)(h0:p≠ -9223372036854775808)(hq:I64 q):ae prog my #[.int .i64 p,.int .i64 q] h λr h'=>r=.int .i64 (vU p q)∧Ext h h':=by
 apply Gw;unfold xh;unfold vU;simp only[go_sem];unfold I64 at hp;refine aV (λW h'=>W=[.int .i64 (max p (-p))]∧h'=h) ?_ ?_
 ·refine aj (λhc=>?_) (λhc=>?_)
  ·rw[w64 (by omega) (by omega)];exact⟨by rw[show max p (-p)=0-p by omega],rfl⟩
  ·exact⟨by rw[show max p (-p)=p by omega],rfl⟩
 rintro W ρj h1 ⟨rfl,hh⟩;have hh:=hh.symm;subst hh;have U:I64 (max p (-p)):=by unfold I64 at*;omega
 simp only[go_sem];refine(gL (by unfold I64;omega) U hq).mono λL h1 ⟨e,e1⟩=>?_
 subst e;refine(gL (eW _ _ _) U hq).mono λL h2 ⟨e,e2⟩=>?_
 subst e;have hu:=eW (ch 10851744800547 (max p (-p)) q) (max p (-p)) q;generalize ch (ch 10851744800547 (max p (-p)) q) (max p (-p)) q=u at*;refine bB (α:=Int×Int) 30 0 (λi a=>[.int .i64 a.1,.int .i64 a.2,.int .i64 (bT u i).2,.int .i64 ((i:Int)+1)]) (λi a h'=>IntKind.i64.wrap (a.1-a.2)=(bT u i).1∧Ext h h') (1099511627776,0) rfl (by omega) ⟨show IntKind.i64.wrap (1099511627776-0)=1099511627776 from w64 (by omega) (by omega),e1.trans e2⟩ λi a h3 again ρj _ hi ⟨G,D⟩ H=>?_
 obtain⟨P,M⟩:=a;simp only[go_sem];obtain⟨s1,s2⟩:=vT u i;refine aj (λh0=>?_) (λh0=>?_)
 ·have aa:=Lq (d:=(i:Int)+1) (B:=30) (by omega) (by omega);have he:=NY ((i:Int)+1);rw[w64 (n:=2*((i:Int)+1)) (by omega) (by omega),w64 (n:=2*((i:Int)+1)+1) (by omega) (by omega),w64 (n:=2*((i:Int)+1)*(2*((i:Int)+1)+1)) (by omega) (by omega),
   w64 (n:=2*((i:Int)+1)*(2*((i:Int)+1)+1)*1099511627776) (by omega) (by omega)]
  refine(gL s2 hu (by unfold I64;omega)).mono λL h4 ⟨e,I⟩=>?_
  subst e;rw[cV _ _ _ _ (by omega),ah,Int.tmod_eq_emod_of_nonneg (by omega)];simp only[go_sem];have A:(bT u (i+1)).1=IntKind.i64.wrap (if i%2=0 then(bT u i).1-(bT u (i+1)).2 else(bT u i).1+(bT u (i+1)).2):=rfl;have F:(bT u (i+1)).2=ch (bT u i).2 u (2*((i:Int)+1)*(2*((i:Int)+1)+1)*1099511627776):=rfl;rw[←F];rw[w64 (n:=(i:Int)+1+1) (by omega) (by omega),show(i:Int)+1+1=((i+1:Nat):Int)+1 by omega];refine aj (λh5=>?_) (λh5=>?_)
  ·refine H (P,_) h4 (by omega) ⟨?_,D.trans I⟩;rw[A,if_pos (by omega),←G];exact N9 _ _ _
  ·refine H (_,M) h4 (by omega) ⟨?_,D.trans I⟩;rw[A,if_neg (by omega),←G];exact N8 _ _ _
 ·have:i=30:=by omega
  subst this;exact⟨by rw[G],D⟩
theorem PM {h:af}{p q:Int}(H:I64 p)(hq:I64 q):ae prog pZ #[.int .i64 p,.int .i64 q] h λr h'=>r=.int .i64 (rW p q)∧Ext h h':=by
 apply EP;unfold uW;unfold rW;refine(Xo H hq).mono λA h1 ⟨F,w1⟩=>?_
 have w1:=w1.symm;subst F w1;by_cases D:GG p q
 ·have G:=D;unfold GG at G;simp only[go_sem,D];rw[w64 (n:=3*q) (by omega) (by omega),w64 (n:= -3*q) (by omega) (by omega)];refine aj (λh0=>?_) (λh0=>?_)
  ·rw[if_pos (by omega)];exact⟨rfl,Ext.refl _⟩
  ·rw[if_neg (by omega)];refine(JP H (by omega) hq).mono λA h1 ⟨e,F⟩=>?_
   subst e;refine(JP H (by omega) (by unfold I64;omega)).mono λA W ⟨e,U⟩=>?_
   subst e;refine(NB (tJ _ _) (tJ _ _) (by unfold I64;omega)).mono λA h3 ⟨e,L⟩=>?_
   subst e;refine(Ak (uk _ _ _) (by unfold I64;omega)).mono λA h4 ⟨e,I⟩=>?_
   exact⟨e,F.trans (U.trans (L.trans I))⟩
 ·simp only[go_sem,D];rw[if_pos trivial];exact⟨rfl,Ext.refl _⟩
end Go.Proofs.YtcoimlclclnlkaaGreatDoor
namespace Go.Crisp
def inW (f n m i j:Int):Prop:=if f=0 then i*n<(j+1)*m∧j*m<(i+1)*n else
 2*m*j-(2*i+1)*n+m<ck f*(2*max n m)∧ -(ck f*(2*max n m))<2*m*j-(2*i+1)*n+m
instance (f n m i j:Int):Decidable (inW f n m i j):=by unfold inW;infer_instance
theorem Sf {f n m i j:Int}(h:sS f n m i):inW f n m i j↔nB f n m i≤j∧j<lg f n m i:=by
 obtain⟨f0,f1,G,I,H,m1,F,D⟩:=h;unfold inW nB lg JH;split
 ·have a1:= @Int.ediv_lt_iff_lt_mul (i*n) (j+1) m (by omega);have a2:= @Int.ediv_lt_iff_lt_mul (-((i+1)*n)) (-j) m (by omega);rw[Int.neg_mul]at a2;constructor
  ·rintro⟨h1,A⟩;have:=a1.2 h1;have:=a2.2 (by omega);omega
  ·rintro⟨h1,A⟩;have:=a1.1 (by omega);have:=a2.1 (by omega);omega
 ·have a1:= @Int.ediv_lt_iff_lt_mul ((2*i+1)*n-m-ck f*2*max n m) j (2*m) (by omega);have a2:= @Int.ediv_lt_iff_lt_mul (-((2*i+1)*n-m+ck f*2*max n m)) (-j) (2*m) (by omega);rw[Int.neg_mul]at a2;rw[Int.mul_comm j]at a1 a2;rw[Int.mul_assoc (ck f)]at a1 a2;rw[Int.mul_assoc (ck f)];constructor
  ·rintro⟨h1,A⟩;have:=a1.2 (by omega);have:=a2.2 (by omega);omega
  ·rintro⟨h1,A⟩;have:=a1.1 (by omega);have:=a2.1 (by omega);omega
theorem Oe {f n m i:Int}(h:sS f n m i):nB f n m i≤i*n/m∧i*n/m<lg f n m i:=by
 rw[←Sf h];obtain⟨f0,f1,n0,n1,W,m1,i0,i1⟩:=h;have hq:=Int.mul_ediv_add_emod (i*n) m;have hr:=Int.emod_nonneg (i*n) (show m≠0 by omega);have G:=Int.emod_lt_of_pos (i*n) (show 0<m by omega);generalize i*n/m=j at*;generalize i*n%m=r at*;unfold inW;have H:(j+1)*m=m*j+m:=by rw[Int.add_mul,Int.one_mul,Int.mul_comm]
 have U:(i+1)*n=i*n+n:=by rw[Int.add_mul,Int.one_mul]
 have F:(2*i+1)*n=2*(i*n)+n:=by rw[Int.add_mul,Int.one_mul,Int.mul_assoc]
 have D:2*m*j=2*(m*j):=Int.mul_assoc _ _ _;have I:j*m=m*j:=Int.mul_comm _ _;split
 ·rw[H,U,I];omega
 ·rw[F,D];have A:ck f=2∨ck f=3:=by unfold ck;rename_i L;rw[if_neg L];split<;>omega
  rcases A with A|A<;>rw[A]<;>omega
end Go.Crisp
namespace Go.Proofs.YtcoimlclclnlkaaGreatDoor
open Go Go.Crisp
attribute [local irreducible] ae cF aP stK aA vK qK bD gK dE aS mkK cG Cn DS Ad bsK
open _root_.Go.Proofs.Tryz
theorem Xl {h:af}{f n m i:Int}:ae prog zO #[.int .i64 f,.int .i64 n,.int .i64 m,.int .i64 i] h λr h'=>r=.bool (decide (sS f n m i))∧h'=h:=by
 apply MZ;unfold C7;simp only[go_sem];refine⟨?_,trivial⟩
 congr 1
 rw[decide_eq_decide];unfold sS;omega
abbrev jB (j:Int):Prop:= -137438953472≤j∧j≤137438953472
theorem Eh {h:af}{f n m i j:Int}(D:sS f n m i)(hj:jB j):ae prog jT #[.int .i64 n,.int .i64 m,.int .i64 i,.int .i64 j] h λr h'=>
  r=.tuple #[.int .i64 (2*m*j-(2*i+1)*n+m),.int .i64 (2*max n m)]∧h'=h:=by
 apply DG;unfold tg;simp only[go_sem];have I:=QP D;obtain⟨b1,b2,L,b4,W⟩:=I;obtain⟨f0,f1,n0,n1,U,m1,i0,i1⟩:=D;have G:=GM (a:=j) (A:=137438953472) (b:=m) (B:=65536) (by omega) (by omega) (by omega) (by omega);have H:2*m*j=2*(j*m):=by rw[Int.mul_assoc,Int.mul_comm m j]
 rw[w64 (n:=2*m) (by omega) (by omega),w64 (n:=2*n) (by omega) (by omega),w64 (n:=2*m*j) (by omega) (by omega),w64 (n:=2*i) (by omega) (by omega),w64 (n:=2*i+1) (by omega) (by omega),w64 (n:=(2*i+1)*n) (by omega) (by omega),
  w64 (n:=2*m*j-(2*i+1)*n) (by omega) (by omega),w64 (n:=2*m*j-(2*i+1)*n+m) (by omega) (by omega)]
 refine aV (λF h'=>F=[.int .i64 (2*max n m)]∧h'=h) ?_ ?_
 ·refine aj (λhc=>?_) (λhc=>?_)
  ·exact⟨by rw[show max n m=m by omega],rfl⟩
  ·exact⟨by rw[show max n m=n by omega],rfl⟩
 rintro F ρj h1 ⟨rfl,hh⟩;exact⟨rfl,hh⟩
theorem Xm {h:af}{f n m i j:Int}(F:sS f n m i)(W:jB j):ae prog nO #[.int .i64 f,.int .i64 n,.int .i64 m,.int .i64 i,.int .i64 j] h λr h'=>
  r=.bool (decide (inW f n m i j))∧h'=h:=by
 apply OR;unfold FF;simp only[go_sem];have G:=F;have L:=QP F;obtain⟨b1,b2,b3,b4,b5⟩:=L;obtain⟨f0,f1,n0,n1,m0,m1,i0,i1⟩:=F;have H:=GM (a:=j) (A:=137438953472) (b:=m) (B:=65536) (by omega) (by omega) (by omega) (by omega);have U:(j+1)*m=j*m+m:=by rw[Int.add_mul,Int.one_mul]
 refine aj (λD=>?_) (λD=>?_)
 ·rw[w64 (n:=i+1) (by omega) (by omega),w64 (n:=(i+1)*n) (by omega) (by omega),w64 (n:=j+1) (by omega) (by omega),w64 (n:=(j+1)*m) (by omega) (by omega),w64 (n:=i*n) (by omega) (by omega),w64 (n:=j*m) (by omega) (by omega)];refine⟨?_,trivial⟩
  congr 1
  rw[decide_eq_decide];unfold inW;rw[if_pos D]
 ·refine(Eh G W).mono λv1 h1 ⟨I,w1⟩=>?_
  have w1:=w1.symm;subst I w1;simp only[go_sem];rw[w64 (n:=2*(2*max n m)) (by omega) (by omega),w64 (n:=3*(2*max n m)) (by omega) (by omega),w64 (n:=0-2*(2*max n m)) (by omega) (by omega),w64 (n:=0-3*(2*max n m)) (by omega) (by omega)];refine aj (λhc=>?_) (λhc=>?_)
  ·refine⟨?_,trivial⟩
   congr 1
   rw[decide_eq_decide];unfold inW ck;rw[if_neg D,if_neg D,if_neg (by omega)];omega
  ·refine⟨?_,trivial⟩
   congr 1
   rw[decide_eq_decide];unfold inW ck;rw[if_neg D,if_neg D,if_pos (by omega)];omega
theorem Ro {h:af}{f n m i j:Int}(A:sS f n m i)(D:jB j):ae prog nO #[.int .i64 f,.int .i64 n,.int .i64 m,.int .i64 i,.int .i64 j] h λr h'=>
  r=.bool (decide (nB f n m i≤j∧j<lg f n m i))∧h'=h:=
 (Xm A D).mono λv h1 ⟨e,w⟩=>⟨by rw[e];congr 1;exact decide_eq_decide.2 (Sf A),w⟩
theorem Vy {h:af}{p q:Int}(F: -4611686018427387904≤p∧p≤4611686018427387904)(hq:I64 q):ae prog wL #[.int .i64 p,.int .i64 q] h λr h'=>r=.int .i64 (D4 p q)∧Ext h h':=by
 apply KO;unfold AZ
 try simp only[go_sem]
 unfold D4;refine aj (λh0=>?_) (λh0=>?_)
 ·rw[if_pos (by omega)];exact⟨rfl,Ext.refl _⟩
 rw[w64 (n:=2*q) (by omega) (by omega),w64 (n:= -2*q) (by omega) (by omega)];refine aj (λh1=>?_) (λh1=>?_)
 ·rw[if_pos (by omega)];exact⟨rfl,Ext.refl _⟩
 rw[if_neg (by omega)];refine aV (λD h'=>D=[.int .i64 (max p (-p))]∧h'=h) ?_ ?_
 ·refine aj (λhc=>?_) (λhc=>?_)
  ·rw[w64 (by omega) (by omega)];exact⟨by rw[show max p (-p)=0-p by omega],rfl⟩
  ·exact⟨by rw[show max p (-p)=p by omega],rfl⟩
 rintro D ρj G ⟨rfl,hh⟩;have hh:=hh.symm;subst hh;generalize max p (-p)=a
 try simp only[go_sem]
 simp only[vM,vL,ri,mY,vJ,By];unfold Ri;refine aj (λh1=>?_) (λh1=>?_)
 ·rw[if_neg (by omega)];have A:3*(a*a*a)-5*(a*a)*q+2*(q*q*q)=3*(a*a*a)-5*(a*a*q)+2*(q*q*q):=by grind
  rw[A];exact gL (gW _) (by unfold I64;omega) (gW _)
 ·rw[if_pos (by omega)];have A:5*(a*a)*q-a*a*a-8*a*(q*q)+4*(q*q*q)=4*(q*q*q)+5*(a*a*q)-a*a*a-8*(a*q*q):=by grind
  rw[A];exact gL (gW _) (by unfold I64;omega) (gW _)
theorem Rn {h:af}{f n m i j:Int}(F:sS f n m i)(hj:jB j):ae prog sD #[.int .i64 f,.int .i64 n,.int .i64 m,.int .i64 i,.int .i64 j] h λr h'=>
  r=.int .i64 (vQ f n m i j)∧Ext h h':=by
 apply Gv;unfold xg
 try simp only[go_sem]
 have H:=F;have hb:=QP F;obtain⟨b1,b2,b3,b4,b5⟩:=hb;obtain⟨f0,f1,n0,n1,m0,m1,i0,i1⟩:=F;unfold vQ;have L:=GM (a:=j) (A:=137438953472) (b:=m) (B:=65536) (by omega) (by omega) (by omega) (by omega);have aa:(j+1)*m=j*m+m:=by rw[Int.add_mul,Int.one_mul]
 have W:2*m*j=2*(j*m):=by rw[Int.mul_assoc,Int.mul_comm m j]
 refine aj (λG=>?_) (λG=>?_)
 ·rw[if_pos G];rw[w64 (n:=i+1) (by omega) (by omega),w64 (n:=(i+1)*n) (by omega) (by omega),w64 (n:=j+1) (by omega) (by omega),w64 (n:=(j+1)*m) (by omega) (by omega),w64 (n:=i*n) (by omega) (by omega),w64 (n:=j*m) (by omega) (by omega)];refine aV (λI h'=>I=[.int .i64 (max (i*n) (j*m))]∧h'=h) ?_ ?_
  ·refine aj (λhc=>?_) (λhc=>?_)
   ·exact⟨by rw[show max (i*n) (j*m)=j*m by omega],rfl⟩
   ·exact⟨by rw[show max (i*n) (j*m)=i*n by omega],rfl⟩
  rintro I ρj h2 ⟨rfl,hh⟩;have hh:=hh.symm;subst hh;simp only[go_sem];refine aj (λhc=>?_) (λhc=>?_)
  ·rw[w64 (by omega) (by omega),show min ((i+1)*n) ((j+1)*m)=(j+1)*m by omega];exact gL (by unfold I64;omega) (by unfold I64;omega) (by unfold I64;omega)
  ·rw[w64 (by omega) (by omega),show min ((i+1)*n) ((j+1)*m)=(i+1)*n by omega];exact gL (by unfold I64;omega) (by unfold I64;omega) (by unfold I64;omega)
 rw[if_neg G];refine(Eh H hj).mono λv1 h1 ⟨U,w1⟩=>?_
 have w1:=w1.symm;subst U w1;simp only[go_sem];refine aj (λD=>?_) (λD=>?_)
 ·rw[if_pos D];exact Vy (by omega) (by unfold I64;omega)
 ·rw[if_neg D];exact PM (by unfold I64;omega) (by unfold I64;omega)
theorem Xk {h:af}{f n m i:Int}:ae prog tT #[.int .i64 f,.int .i64 n,.int .i64 m,.int .i64 i] h λr h'=>
  ∃v,r=.tuple #[.int .i64 (dS f n m i),v]∧New (Rp.int .i64) h h' v (cL f n m i):=by
 apply MY;unfold C6;refine Xl.mono λv1 h1 ⟨I,w1⟩=>?_
 have w1:=w1.symm;subst I w1;unfold dS cL;by_cases A:sS f n m i
 ·rw[if_pos A,if_pos A];simp only[go_sem,A];have ar:=Jd A;have an:=Oe A;have ad:=QP A;obtain⟨b1,b2,b3,b4,b5⟩:=ad;have ab:=A;obtain⟨f0,f1,n0,n1,m0,m1,i0,i1⟩:=ab;have au:=pG (a:=i*n) (b:=m) (L:=0) (U:=4294967296) (by omega) (by omega) (by omega) (by omega) (by omega);rw[w64 (n:=i*n) (by omega) (by omega),kr _ _ _ _ (by omega),ah,Int.tdiv_eq_ediv_of_nonneg b1.1,w64 (by omega) (by omega)];generalize D:nB f n m i=lo at*;generalize F:lg f n m i=hi at*;generalize i*n/m=W at*;refine iH (λk=>[.int .i64 (W-(k:Int))]) (W-lo).toNat 0 (by simp) (Nat.zero_le _) λk again ρj _ hk H=>?_
  simp only[go_sem];rw[w64 (n:=W-(k:Int)-1) (by omega) (by omega)];refine(Ro A (by omega)).mono λv1 h1 ⟨I,w1⟩=>?_
  have w1:=w1.symm;subst I w1;rw[D,F];refine aj (λhc=>?_) (λhc=>?_)
  ·have H:=H (by omega);rw[show W-((k+1:Nat):Int)=W-(k:Int)-1 by omega]at H;exact H
  have hk:W-(k:Int)=lo:=by omega
  rw[hk];refine iH (λk=>[.int .i64 lo]) 0 0 rfl (Nat.le_refl _) λk2 aa ρj2 _ al _=>?_
  simp only[go_sem];refine(Ro A (by omega)).mono λv1 h1 ⟨I,w1⟩=>?_
  have w1:=w1.symm;subst I w1;rw[D,F,decide_eq_true (by omega)];simp only[go_sem];refine bB (hi-lo).toNat 0 (λk v=>[.int .i64 (lo+(k:Int)),v]) (λk v h'=>New (Rp.int .i64) h h' v ((BE f n m i).take k)) (.slice none 0 0) (by simp) (Nat.zero_le _) (New.nil (Ext.refl _)) λk v h2 again ρj _ hk hI H=>?_
  simp only[go_sem];have hl:(BE f n m i).length=(hi-lo).toNat:=by unfold BE;rw[List.length_map,List.length_range,D,F]
  refine(Ro A (by omega)).mono λv1 h3 ⟨I,w1⟩=>?_
  have w1:=w1.symm;subst I w1;rw[D,F];refine aj (λh0=>?_) (λh0=>?_)
  ·refine(Rn A (by omega)).mono λv2 h3 ⟨e2,w2⟩=>?_
   subst e2;have G:((BE f n m i).take k).length=k:=by rw[List.length_take];omega
   refine(hI.ext w2).push_int rfl (by rw[G];omega) (by rw[G];omega) λs' h' H'=>?_
   try simp only[go_sem]
   rw[w64 (by omega) (by omega)];have:=H s' h' (by omega) (by
    have e:=lF (λk:Nat=>vQ f n m i (nB f n m i+k)) (lg f n m i-nB f n m i).toNat k (by omega);unfold BE at H' ⊢;rw[e,D];rw[D]at H';exact H')
   rw[show lo+((k+1:Nat):Int)=lo+(k:Int)+1 by omega]at this;exact this
  ·rw[List.take_of_length_le (by omega)]at hI;exact⟨v,rfl,hI⟩
 ·rw[if_neg A,if_neg A];simp only[go_sem,A];exact⟨_,rfl,New.nil (Ext.refl _)⟩
end Go.Proofs.YtcoimlclclnlkaaGreatDoor
namespace Go.Proofs.YtcoimlclclnlkaaGreatDoor
open Go Go.Crisp
attribute [local irreducible] ae cF aP stK aA vK qK bD gK dE aS mkK cG Cn DS Ad bsK clK
open _root_.Go.Proofs.Tryz
theorem PI {h:af}{a b:Int}(A:I64 a)(D:I64 b):ae prog qW #[.int .i64 a,.int .i64 b] h λr h'=>r=.int .i64 (AE a b)∧h'=h:=by
 apply KJ;unfold AU;simp only[go_sem,gG];unfold AE I64 at*;refine aj (λh0=>?_) (λh0=>?_)
 ·exact⟨by congr 1;omega,trivial⟩
 refine aj (λh1=>?_) (λh1=>?_)
 ·exact⟨by congr 1;omega,trivial⟩
 ·exact⟨by congr 1;omega,trivial⟩
theorem PJ {h:af}{x:Int}(A:I64 x):ae prog qX #[.int .i64 x] h λr h'=>r=.int .i64 (kW x)∧h'=h:=by
 apply KL;unfold AW;rw[CP A];simp only[go_sem,gG];unfold I64 at*;refine aj (λh0=>?_) (λh0=>?_)
 ·exact⟨by congr 1;omega,trivial⟩
 refine aj (λh1=>?_) (λh1=>?_)
 ·exact⟨by congr 1;omega,trivial⟩
 ·exact⟨by congr 1;omega,trivial⟩
theorem Xj {Z:Nat→Prop}{h:af}{v:Value}{l:List Int}(H:SlI Z h v l)(F:∀x∈l,I64 x)(hl:l.length<4611686018427387904):ae prog zN #[v] h λr h'=>r=.int .i64 (kN l)∧h'=h:=by
 apply MX;unfold C5;obtain⟨a,cap,e⟩:=H.isSl;have U:aq v=some (.int .i64 (l.length:Int)):=by rw[e];rfl
 rw[U,ah];refine iH (λi=>[.int .i64 ((l.take i).foldl AE 0),.int .i64 (i:Int)]) l.length 0 rfl (Nat.zero_le _) λi again ρj _ hi D=>?_
 simp only[go_sem];refine aj (λh0=>?_) (λh0=>?_)
 ·have A:i<l.length:=by omega
  obtain⟨p,I,G⟩:=H.int_at (k':=.i64) A;simp only[go_sem,I,G];refine(PI (nE vF _ _ vH) (F _ (List.getElem_mem _))).mono λW h1 ⟨L,w1⟩=>?_
  subst L w1;rw[w64 (by omega) (by omega)];have:=D A;rw[zZ A]at this;exact this
 ·rw[List.take_of_length_le (by omega)];exact⟨rfl,trivial⟩
theorem TI {Z:Nat→Prop}{h:af}{v:Value}{l:List Int}(H:SlI Z h v l)(F:∀x∈l,I64 x)(hl:l.length<4611686018427387904):ae prog uv #[v] h λr h'=>r=.int .i64 (kP l)∧h'=h:=by
 apply Ih;unfold xU;obtain⟨a,cap,e⟩:=H.isSl;have e2:aq v=some (.int .i64 (l.length:Int)):=by rw[e];rfl
 rw[e2,ah];refine iH (λi=>[.int .i64 ((l.take i).foldl (λs x=>AE s (kW x)) 0),.int .i64 (i:Int)]) l.length 0 rfl (Nat.zero_le _) λi again ρj _ hi D=>?_
 simp only[go_sem];refine aj (λh0=>?_) (λh0=>?_)
 ·have A:i<l.length:=by omega
  obtain⟨p,W,L⟩:=H.int_at (k':=.i64) A;simp only[go_sem,W,L];have I:=F _ (List.getElem_mem A);refine(PJ I).mono λU h1 ⟨G,w1⟩=>?_
  subst G w1;refine(PI (nE (λa b=>vF a (kW b)) _ _ vH) (Ls I)).mono λU h1 ⟨G,w1⟩=>?_
  subst G w1
  try simp only[go_sem]
  rw[w64 (by omega) (by omega)];have:=D A;rw[zZ A]at this;exact this
 ·rw[List.take_of_length_le (by omega)];exact⟨rfl,trivial⟩
theorem Kr (l:List Int):0≤kP l∨¬ ∀x∈l,I64 x:=by
 by_cases h:∀x∈l,I64 x
 ·left;unfold kP;have:∀(l:List Int) (s:Int),(∀x∈l,I64 x)→0≤s→0≤l.foldl (λs x=>AE s (kW x)) s:=by
   intro l;induction l with
   |nil=>intro s _ A;exact A
   |cons x l D=>
    intro s h A;refine D _ (λy F=>h y (by simp[F])) ?_;have G:=CP (h x (by simp));show 0≤AE s (kW x);rw[G];unfold AE;omega
  exact this l 0 h (Int.le_refl _)
 ·exact .inr h
theorem JO {Z:Nat→Prop}{h:af}{v:Value}{l:List Int}(H:SlI Z h v l)(D:∀x∈l,I64 x)(hl:l.length<4611686018427387904):
  ae prog mx #[v] h λr h'=>∃u,r=.tuple #[u,.int .i64 (xM l)]∧New (Rp.int .i64) h h' u (oJ l):=by
 apply KK;unfold AV;refine(TI H D hl).mono λv1 h1 ⟨e1,w1⟩=>?_
 have w1:=w1.symm;subst e1 w1;obtain⟨a,cap,e⟩:=H.isSl;have U:aq v=some (.int .i64 (l.length:Int)):=by rw[e];rfl
 simp only[go_sem,U];rw[cV _ _ _ _ (by omega),ah,Int.tmod_eq_emod_of_nonneg (by omega)];simp only[go_sem,U];unfold xM oJ;have W:=G9 l;have aa:0≤kP l:=(Kr l).resolve_right λhh=>hh D
 refine aj (λh0=>?_) (λh0=>?_)
 ·have:iA l:=by unfold iA;omega
  rw[if_pos this,if_pos this];exact⟨_,rfl,New.nil (Ext.refl _)⟩
 ·have L:¬iA l:=by unfold iA;omega
  rw[if_neg L,if_neg L];refine bB l.length 0 (λk u=>[u,.int .i64 (k:Int)]) (λk u h'=>New (Rp.int .i64) h h' u ((l.map λx=>ch x 1073741824 (kP l)).take k)) (.slice none 0 0) rfl (Nat.zero_le _) (New.nil (Ext.refl _)) λk u h2 again ρj _ hk G I=>?_
  simp only[go_sem];refine aj (λh0=>?_) (λh0=>?_)
  ·have F:k<l.length:=by omega
   obtain⟨p,e3,e4⟩:=(H.ext G.2.1).int_at (k':=.i64) F;simp only[go_sem,e3,e4];refine(gL (D _ (List.getElem_mem _)) (by unfold I64;omega) W).mono λv2 h3 ⟨e5,w5⟩=>?_
   subst e5;have A:((l.map λx=>ch x 1073741824 (kP l)).take k).length=k:=by rw[List.length_take,List.length_map];omega
   unfold iA at L;refine(G.ext w5).push_int rfl (by rw[A];omega) (by rw[A];omega) λs' h' H'=>?_
   try rw[cO,ah]
   rw[w64 (by omega) (by omega)];have:=I s' h' F (by rw[Bt _ _ F];exact H');exact this
  ·rw[List.take_of_length_le (by rw[List.length_map];omega)]at G;exact⟨u,rfl,G⟩
theorem Nz {h:af}{s:Int}(U:I64 s):ae prog nN #[.int .i64 s] h λr h'=>∃u,r=.tuple #[u,.int .i64 (Ci s)]∧New (Rp.int .i64) h h' u (lT s):=by
 apply DF;unfold tf;simp only[go_sem];unfold Ci lT;refine aj (λh0=>?_) (λh0=>?_)
 ·have:kq s:=h0;rw[if_pos this,if_pos this];exact⟨_,rfl,New.nil (Ext.refl _)⟩
 ·have L:¬kq s:=h0;rw[if_neg L,if_neg L];have hr:0≤fD s∧fD s≤193∧65536*fD s≥3*s∧65536*(fD s-1)<3*s:=by unfold fD;omega
  generalize fD s=q at*;refine iH (λk=>[.int .i64 (k:Int)]) q.toNat 0 rfl (Nat.zero_le _) λk again ρj _ hk D=>?_
  simp only[go_sem];rw[w64 (n:=(k:Int)*65536) (by omega) (by omega),w64 (n:=3*s) (by omega) (by omega)];refine aj (λh1=>?_) (λh1=>?_)
  ·rw[w64 (by omega) (by omega)];exact D (by omega)
  have H:(k:Int)=q:=by omega
  rw[H,w64 (n:=0-q) (by omega) (by omega)];obtain⟨N,hN⟩:∃N,N=(2*q+1).toNat:=⟨_,rfl⟩
  rw[←hN];refine bB N 0 (λk u=>[u,.int .i64 ((k:Int)-q)]) (λk u h'=>New (Rp.int .i64) h h' u (((List.range N).map λk:Nat=>zc ((k:Int)-q) s).take k)) (.slice none 0 0) rfl (Nat.zero_le _) (New.nil (Ext.refl _)) λk u h2 again ρj _ hk G D=>?_
  simp only[go_sem];refine aj (λI=>?_) (λI=>?_)
  ·have F:k<N:=by omega
   refine(TK (by unfold I64;omega) U).mono λv2 I ⟨e5,w5⟩=>?_
   subst e5;have A:(((List.range N).map λk:Nat=>zc ((k:Int)-q) s).take k).length=k:=by rw[List.length_take,List.length_map,List.length_range];omega
   refine(G.ext w5).push_int rfl (by rw[A];omega) (by rw[A];omega) λW h' H'=>?_
   try rw[cO,ah]
   rw[w64 (by omega) (by omega)];have:=D W h' F (by rw[lF _ _ _ F];exact H');rw[show((k+1:Nat):Int)-q=(k:Int)-q+1 by omega]at this;exact this
  ·rw[List.take_of_length_le (by rw[List.length_map,List.length_range];omega)]at G;exact⟨u,rfl,G⟩
theorem Vx {h:af}{r:Int}(hr:I64 r):ae prog wK #[.int .i64 r] h λw h'=>∃u,w=.tuple #[u,.int .i64 (Mr r)]∧New (Rp.int .i64) h h' u (vB r):=by
 apply KN;unfold AY
 try simp only[go_sem]
 unfold Mr vB;refine aj (λh0=>?_) (λh0=>?_)
 ·have:qQ r:=h0;rw[if_pos this,if_pos this];exact⟨_,rfl,New.nil (Ext.refl _)⟩
 ·have H:¬qQ r:=h0;rw[if_neg H,if_neg H];rw[w64 (n:=2*r) (by omega) (by omega)]
  try simp only[go_sem]
  rw[w64 (n:=2*r+1) (by omega) (by omega)];obtain⟨N,U⟩:∃N:Nat,N=(2*r+1).toNat:=⟨_,rfl⟩
  rw[←U,show 2*r+1=(N:Int)by omega];refine bB N 0 (λk u=>[u,.int .i64 (k:Int)]) (λk u h'=>New (Rp.int .i64) h h' u (List.replicate k 1)) (.slice none 0 0) rfl (Nat.zero_le _) (New.nil (Ext.refl _)) λk u h2 again ρj _ hk A D=>?_
  simp only[go_sem];refine aj (λG=>?_) (λG=>?_)
  ·refine A.push_int rfl (by rw[List.length_replicate];omega) (by rw[List.length_replicate];omega) λL h' F=>?_
   try rw[cO,ah]
   rw[w64 (by omega) (by omega)];rw[←List.replicate_succ']at F;exact D L h' (by omega) F
  ·have:k=N:=by omega
   subst this;refine(JO A.sl (λx W=>by rw[(List.mem_replicate.1 W).2];unfold I64;omega) (by rw[List.length_replicate];omega)).mono λw G ⟨u,e,I⟩=>?_
   subst e
   try simp only[go_sem]
   exact⟨u,rfl,I.before A.2.1⟩
theorem MK {k:IntKind}{Z:Nat→Prop}{h:af}{v:Value}{l:List Int}(H:Rp.Ow (Rp.int k) Z h v l):Own 1 h v l.length (l.map λn=>Value.int k n):=by
 obtain⟨ds,A,_,F⟩:=H;have L:ds.length=l.length*1:=A.sl.1;have e:ds=l.map λn=>Value.int k n:=by
  apply List.ext_getElem
  ·simp;omega
  ·intro i h1 I;have G:=F i (by omega);have D:Rp.el 1 ds i=[Value.int k (l[i]'(by omega))]:=G;rw[Rp.el_one h1]at D;simpa using D
 rw[←e];exact A
structure Kl (h0 h:af)(x y:Value)(l m:List Int):Prop where
 ext:Ext h0 h
 ox:Rp.Ow (Rp.int .i64) (λ_=>False) h x l
 oy:Rp.Ow (Rp.int .i64) (λ_=>False) h y m
 nx:∀b,blk x b→h0.size≤b
 ny:∀b,blk y b→h0.size≤b
 dis:∀b,blk x b→¬blk y b
theorem Kl.more {h0 h h':af}{x y:Value}{l m:List Int}(T:Kl h0 h x y l m)(e:Ext h h'):Kl h0 h' x y l m:=⟨T.ext.trans e,T.ox.ext e,T.oy.ext e,T.nx,T.ny,T.dis⟩
theorem Kl.push_x {h0 h:af}{x y:Value}{l m:List Int}{n:Int}{t t':TypeId}{bytes:Nat}{K:Value→af→Prop}(T:Kl h0 h x y l m)(A:(l.length+1)*bytes≤140737488355328)(hn:l.length+1≤9223372036854775807)
  (H:∀G h',Kl h0 h' G y (l++[n]) m→K G h'):cF #[.int .i64 0] t 1 [(0,1,.int .i64 n)] h λL U=>cG (.int .i64 0) t' 1 bytes x L U K:=by
 refine Rp.push_ow1 (e:=Rp.int .i64) rfl T.ox (x:=n) rfl rfl A hn (λb A=>A.elim) λI h' o' F n'=>H I h' ⟨T.ext.then_fr F T.nx,o',T.oy.fr F (λ_ _=>False.elim) λb A W=>T.dis b W A,λb A=>?_,T.ny,λb A D=>?_⟩
 ·rcases n' b A with h1|h1
  ·exact T.nx b h1
  ·exact Nat.le_trans T.ext.1 h1
 ·rcases n' b A with h1|h1
  ·exact T.dis b h1 D
  ·have:=T.oy.lt D;omega
theorem Kl.swap {h0 h:af}{x y:Value}{l m:List Int}(T:Kl h0 h x y l m):Kl h0 h y x m l:=⟨T.ext,T.oy,T.ox,T.ny,T.nx,λb A D=>T.dis b D A⟩
theorem pR {β:Type}(g:Nat→β)(n k:Nat)(h:k<n):(List.range (k+1)).map g=(List.range k).map g++[g k]:=by
 rw[List.range_succ,List.map_append];rfl
theorem Bw {Z:Nat→Prop}{h:af}{v:Value}{l:List Int}(H:SlI Z h v l)(ad:∀x∈l,I64 x)(hl:l.length<4611686018427387904):
  ae prog gw #[v] h λr h'=>∃u,r=.tuple #[u,.int .i64 (cn l)]∧New (Rp.int .i64) h h' u (bS l):=by
 apply BR;unfold rD;obtain⟨a,cap,e⟩:=H.isSl;have e2:aq v=some (.int .i64 (l.length:Int)):=by rw[e];rfl
 simp only[go_sem,e2];refine aj (λh0=>?_) (λh0=>?_)
 ·have hB:Cw l:=by unfold Cw;rcases h0 with h2|h2;exact .inl (by omega);exact .inr (.inl (by omega))
  have hc:cn l=7:=by unfold cn;rw[if_pos hB]
  unfold bS;rw[hc,if_neg (by omega)];exact⟨_,rfl,New.nil (Ext.refl _)⟩
 refine bB (α:=Unit) l.length 0 (λi _=>[.int .i64 (i:Int)]) (λi _ h'=>(∀j (U:j<l.length),j<i→¬1099511627776<kW l[j])∧h'=h) () rfl (Nat.zero_le _) ⟨λj _ U=>absurd U (by omega),rfl⟩ λi _ h1 again ρj _ hi ⟨hs,eh⟩ ab=>?_
 have eh:=eh.symm;subst eh;simp only[go_sem];refine aj (λh2=>?_) (λh2=>?_)
 ·have F:i<l.length:=by omega
  obtain⟨p,e3,e4⟩:=H.int_at (k':=.i64) F;simp only[go_sem,e3,e4];have hx:=ad _ (List.getElem_mem F);refine(PJ hx).mono λv1 h1 ⟨e1,w1⟩=>?_
  have w1:=w1.symm;subst e1 w1;simp only[go_sem];refine aj (λD=>?_) (λD=>?_)
  ·have hB:Cw l:=.inr (.inr ⟨_,List.getElem_mem F,D⟩);have hc:cn l=7:=by unfold cn;rw[if_pos hB]
   unfold bS;rw[hc,if_neg (by omega)];exact⟨_,rfl,New.nil (Ext.refl _)⟩
  ·rw[w64 (by omega) (by omega)];refine ab () h F ⟨λj U b6=>?_,rfl⟩;by_cases a8:j=i
   ·subst a8;exact D
   ·exact hs j U (by omega)
 have b5:i=l.length:=by omega
 subst b5;have hB:¬Cw l:=by
  unfold Cw;rintro(D|D|⟨x,hx,D⟩)
  ·omega
  ·omega
  ·obtain⟨j,U,rfl⟩:=List.getElem_of_mem hx;exact hs j U U D
 refine(Xj H ad hl).mono λv1 h1 ⟨e1,w1⟩=>?_
 have w1:=w1.symm;subst e1 w1;simp only[go_sem];refine aj (λD=>?_) (λD=>?_)
 ·have hc:cn l=8:=by unfold cn;rw[if_neg hB,if_pos D]
  unfold bS;rw[hc,if_neg (by omega)];exact⟨_,rfl,New.nil (Ext.refl _)⟩
 have hc:cn l=0:=FZ.2 ⟨hB,by omega⟩;have G:=UW ad hc;have s1:=G.sum;have bk:=Oa l;have hn:=G.len;have bg:=G.pos;unfold bS;rw[if_pos hc,hc];refine bB (α:=Value×Value) l.length 0 (λk a=>[a.1,a.2,.int .i64 (rV l k),.int .i64 (k:Int)]) (λk a h'=>Kl h h' a.1 a.2 ((List.range k).map (fj l)) ((List.range k).map (dh l))) (.slice none 0 0,.slice none 0 0) rfl (Nat.zero_le _)
  ⟨Ext.refl _,Rp.Ow.nil,Rp.Ow.nil,λb A=>A.elim,λb A=>A.elim,λb A=>A.elim⟩ λk a h1 again ρj _ hk T ab=>?_
 obtain⟨x,y⟩:=a;have T:Kl h h1 x y ((List.range k).map (fj l)) ((List.range k).map (dh l)):=T;simp only[go_sem];refine aj (λh4=>?_) (λh4=>?_)
 ·have W:k<l.length:=by omega
  obtain⟨p,e3,e4⟩:=(H.ext T.ext).int_at (k':=.i64) W;simp only[go_sem,e3,e4];have eg:l.getD k 0=l[k]:=by simp[List.getD_eq_getElem?_getD,W]
  have hx:=G.small k;rw[eg]at hx;rw[w64 (n:=l[k]*16384) (by omega) (by omega)];refine(Md (by unfold I64;omega) bk).mono λv1 h4 ⟨e5,w5⟩=>?_
  subst e5;rw[nF (by unfold I64;omega) (by omega)];have eb:l[k]*16384/kN l=fj l k:=by unfold fj;rw[eg]
  have er:dh l k=l[k]*16384-fj l k*kN l:=by unfold dh;rw[←eb,eg,Int.emod_def,Int.mul_comm (kN l)]
  rw[eb];have a7:=vE G k;have b8:=Jg G k;have bi:=HG G k;refine(T.more w5).push_x (by rw[List.length_map,List.length_range];omega) (by rw[List.length_map,List.length_range];omega) λx' h5 T=>?_
  try simp only[go_sem]
  have cc:fj l k*kN l=l[k]*16384-dh l k:=by rw[er];omega
  have b7:dh l k<kN l:=bi.2;have ci:kN l≤1152921504606846976:=by
   have h6:=MG G l.length;rw[←Lm G]at h6;have:(l.length:Int)*1099511627776≤1048576*1099511627776:=by omega
   omega
  rw[w64 (n:=fj l k*kN l) (by omega) (by omega),←er,w64 (n:=dh l k) (by omega) (by omega)];refine T.swap.push_x (by rw[List.length_map,List.length_range];omega) (by rw[List.length_map,List.length_range];omega) λy' h6 T=>?_
  try simp only[go_sem]
  rw[w64 (n:=rV l k-fj l k) (by omega) (by omega),w64 (n:=(k:Int)+1) (by omega) (by omega)];refine ab (x',y') h6 W ?_;rw[pR _ (k+1) k (by omega),pR _ (k+1) k (by omega)];exact T.swap
 have b4:k=l.length:=by omega
 subst b4;obtain⟨L0,L1⟩:=left_bd G;obtain⟨m,hm⟩:∃m:Nat,vw l=(m:Int):=⟨(vw l).toNat,by omega⟩
 have ay:rV l l.length=(m:Int):=hm;rw[ay];have o1:=MK T.ox;have o2:=MK T.oy;rw[List.length_map,List.length_range,List.map_map]at o1 o2;have an:=T.dis;have nx:=T.nx;have ny:=T.ny;have E1:=T.ext;obtain⟨ya,ar,ey⟩:=o2.isSl;have ey:y=.slice ya l.length ar:=ey;have be:aq y=some (.int .i64 (l.length:Int)):=by rw[ey];rfl
 refine bB (α:=Unit) m 0 (λk _=>[.int .i64 ((m:Int)-(k:Int))])
  (λk _ h'=>Ext h h'∧Own 1 h' x l.length ((List.range l.length).map λi=>Value.int .i64 (fj l i+(if(jZ (dh l) l.length i:Int)<(k:Int)then 1 else 0)))∧Own 1 h' y l.length ((List.range l.length).map λi=>Value.int .i64 (iE (dh l) l.length k i)))
  () (by simp) (Nat.zero_le _) ⟨E1,by
   rw[bH (f:=λi=>Value.int .i64 (fj l i)) (λi hi=>by rw[if_neg (by omega),Int.add_zero])];exact o1,by rw[OB];exact o2⟩ λk _ h2 ax ρj2 _ hk ⟨E2,q1,q2⟩ au=>?_
 simp only[go_sem];refine aj (λh5=>?_) (λh5=>?_)
 ·have a9:k<m:=by omega
  rw[be,ah];have bd:∀i,i<l.length→0≤dh l i:=λi _=>(HG G i).1
  refine bB (α:=Nat) l.length 0 (λj b=>[.int .i64 (b:Int),.int .i64 (j:Int)])
   (λj b h'=>h'=h2∧b<l.length∧(∀i,i<j→iE (dh l) l.length k i≤iE (dh l) l.length k b)∧(∀i,i<b→iE (dh l) l.length k i<iE (dh l) l.length k b)∧b≤j) 0 rfl (Nat.zero_le _)
   ⟨rfl,bg,λi hi=>absurd hi (by omega),λi hi=>absurd hi (by omega),Nat.le_refl _⟩ λj b D aw ρj3 _ U ⟨eh,A,p1,p2,cb⟩ L=>?_
  have eh:=eh.symm;subst eh;simp only[go_sem];refine aj (λh6=>?_) (λh6=>?_)
  ·have I:j<l.length:=by omega
   obtain⟨pj,j1,j2,_⟩:=Own.at_map q2 (k:=.i64) I;obtain⟨pb,b1,b2,_⟩:=Own.at_map q2 (k:=.i64) A;simp only[go_sem,j1,j2,b1,b2];rw[w64 (n:=(j:Int)+1) (by omega) (by omega)];refine aj (λh7=>?_) (λh7=>?_)
   ·refine L j h2 I ⟨rfl,I,λi hi=>?_,λi hi=>?_,by omega⟩
    ·by_cases aa:i=j
     ·rw[aa];exact Int.le_refl _
     ·have:=p1 i (by omega);omega
    ·have:=p1 i hi;omega
   ·refine L b h2 I ⟨rfl,A,λi hi=>?_,p2,by omega⟩;by_cases aa:i=j
    ·rw[aa];omega
    ·exact p1 i (by omega)
  have bc:j=l.length:=by omega
  subst bc;have al:=Ua bd (k:=k) (by omega) A p1 p2;obtain⟨px,x1,x2,x3⟩:=Own.at_map q1 (k:=.i64) A;simp only[go_sem,x1,x2];have a7:=vE G b;rw[w64 (n:=fj l b+(if(jZ (dh l) l.length b:Int)<(k:Int)then 1 else 0)+1) (by split<;>omega) (by split<;>omega)];refine x3 _ _ λD b3 f3=>?_
  have b0:=q2.fr f3 λc hc hx=>an c hx hc
  obtain⟨py,y1,y2,y3⟩:=Own.at_map b0 (k:=.i64) A;simp only[go_sem,y1];refine y3 _ _ λh4 bv f4=>?_
  have bo:=b3.fr f4 λc hc hy=>an c hc hy
  rw[w64 (by omega) (by omega),show(m:Int)-(k:Int)-1=(m:Int)-((k+1:Nat):Int)by omega];refine au () h4 a9 ⟨(E2.then_fr f3 nx).then_fr f4 ny,?_,?_⟩
  ·rw[bH (f:=λj=>Value.int .i64 (if j=b then fj l b+(if(jZ (dh l) l.length b:Int)<(k:Int)then 1 else 0)+1 else fj l j+if(jZ (dh l) l.length j:Int)<(k:Int)then 1 else 0)) (λi hi=>by
    congr 1
    by_cases he:i=b
    ·rw[if_pos he,he,if_pos (by omega),if_neg (by omega)];omega
    ·rw[if_neg he];have ca:jZ (dh l) l.length i≠k:=λe=>he (Dy hi A (e.trans al.symm))
     by_cases h8:jZ (dh l) l.length i<k
     ·rw[if_pos (by omega),if_pos (by omega)]
     ·rw[if_neg (by omega),if_neg (by omega)])]
   exact bo
  ·rw[bH (f:=λj=>Value.int .i64 (if j=b then-1 else iE (dh l) l.length k j)) (λi hi=>by rw[OC A al hi])];exact bv
 ·have:k=m:=by omega
  subst this;refine⟨x,rfl,⟨(kM l).map λn=>Value.int .i64 n,?_,λc _=>id,λi hi=>?_⟩,E2,nx⟩
  ·rw[nh];unfold kM;rw[List.map_map];simp only[←hm]at q1;exact q1
  ·have e:Rp.el (Rp.int .i64).w ((kM l).map λn=>Value.int .i64 n) i=[Value.int .i64 (kM l)[i]]:=by
    have:=Rp.el_one (ds:=(kM l).map λn=>Value.int .i64 n) (i:=i) (by simpa using hi);rw[List.getElem_map]at this;exact this
   exact e
end Go.Proofs.YtcoimlclclnlkaaGreatDoor
namespace Go.Proofs.YtcoimlclclnlkaaGreatDoor
open Go Go.Crisp
attribute [local irreducible] ae cF aP stK aA vK qK bD gK dE aS mkK cG Cn DS Ad bsK
open _root_.Go.Proofs.Tryz
theorem Ms (a:Option Addr)(n c:Nat):ag .sl .eql (.slice a n c) (.slice none 0 0)=some (.bool a.isNone):=by cases a<;>rfl
theorem T6 {h:af}{Z:Nat→Prop}{v:Value}{l:List Int}(H:Rp.Sl rI Z h v l)(hl:l.length≤1000000000):
  ae prog cC #[v] h λr h'=>Rp.Sl rI (λb=>h.size≤b) h' r l∧Ext h h':=by
 apply ia;unfold eE;obtain⟨ds,⟨D,a,cap,rfl,F⟩,A,he⟩:=H;rw[Ms,ah];cases a with
 | none=>
  have:l=[]:=by
   rcases F with F|⟨b,o,h0,_⟩
   ·subst F;have h2:([]:List Value).length=l.length*1:=D;exact List.eq_nil_of_length_eq_zero (by simpa using h2.symm)
   ·cases h0
  subst this;simp only[Option.isNone_none,go_sem];exact⟨Rp.Sl.nil,Ext.refl _⟩
 | some a=>
  simp only[Option.isNone_some,go_sem];refine cH (c':=#[]) rfl λb h1 r1 I n1=>?_
  have O:Rp.Ow rI (λ_=>False) h1 (.slice (some ⟨b,0,none⟩) 0 0) []:=⟨[],.inr ⟨b,0,[],_,rfl,Nat.le_refl _,rfl,rfl,r1⟩,λb W G=>G,λi hi=>absurd hi (by simp)⟩
  have S1:SlC 1 h1 (.slice (some a) l.length cap) l.length ds:=SlC.ext ⟨D,some a,cap,rfl,F⟩ I;refine Rp.app_ow (e:=rI) (l:=[]) (l2:=l) O S1 (λi hi=>he i hi) rfl (by simp;omega) (by simp;omega) (λb W=>W.elim) λv2 h2 U f2 n2=>?_
  rw[List.nil_append]at U;have nb:∀k,blk (.slice (some ⟨b,0,none⟩) 0 0) k→h.size≤k:=λk hk=>by have:k=b:=hk;omega
  refine⟨U.sl.mono λk hk A=>?_,I.then_fr f2 nb⟩;rcases A with A|A
  ·exact A.elim
  ·rcases n2 k A with L|L
   ·exact nb k L
   ·exact Nat.le_trans I.1 L
end Go.Proofs.YtcoimlclclnlkaaGreatDoor
namespace Go.Crisp
open Go
def cT (g:Nat→Int):Nat→Int
 |0=>0
 |k+1=>if cT g k≠0 then cT g k else g k
theorem Bu {g:Nat→Int}{k n:Nat}(h:cT g k≠0)(D:k≤n):cT g n=cT g k:=by
  induction n with
  | zero => have:k=0:=by omega
            rw[this]
  | succ n A=>
    rcases Nat.lt_or_ge n k with h1|h1
    · have:k=n+1:=by omega
      rw[this]
    · have:=A h1
      show(if cT g n≠0 then cT g n else g n)=_;rw[this,if_pos h]
end Go.Crisp
namespace Go.Proofs.YtcoimlclclnlkaaGreatDoor
open Go Go.Crisp
attribute [local irreducible] ae cF aP stK aA vK qK bD gK dE aS mkK cG Cn DS Ad bsK clK
open _root_.Go.Proofs.Tryz
def aZ (n:Int):Prop:=1≤n∧n≤65536
instance (n:Int):Decidable (aZ n):=by unfold aZ;infer_instance
theorem Pu (f:Int):Pv f=[]↔ ¬(0≤f∧f<3):=by
 unfold Pv;split
 ·constructor
  ·intro h;cases h
  ·intro h;omega
 split
 ·constructor
  ·intro h;cases h
  ·intro h;omega
 split
 ·constructor
  ·intro h;cases h
  ·intro h;omega
 ·constructor
  ·intro _;omega
  ·intro _;rfl
def dx (f n m:Int):Int:=if¬(0≤f∧f<3)∨¬aZ n∨¬aZ m then 6 else cT (λi=>cn (cL f n m i)) m.toNat
def eS (f n m:Int):Tbl:=⟨n,(List.range m.toNat).map λi:Nat=>(dS f n m i,bS (cL f n m i))⟩
theorem rR (f n m i:Int):∀x∈cL f n m i,I64 x:=by
 unfold cL;split
 ·intro x A;unfold BE at A;obtain⟨k,_,rfl⟩:=List.mem_map.1 A;exact Qf _ _ _ _ _
 ·simp
theorem HF (f n m i:Int):(cL f n m i).length<4611686018427387904:=by
 unfold cL;split
 ·rename_i h;unfold BE;rw[List.length_map,List.length_range];have:=Jd h;omega
 ·simp
theorem nH {l:List Int}(A:∀x∈l,I64 x):(bS l).length≤1048576∧∀x∈bS l, -67108864≤x∧x≤67108865:=by
 unfold bS;split
 ·rename_i h;have G:=UW A h;exact⟨by rw[nh];exact G.len,SX G⟩
 ·simp
theorem Gf {l:List Int}(A:∀x∈l,I64 x):∀x∈bS l,I64 x:=λx D=>by
 have:=(nH A).2 x D;unfold I64;omega
def RM (h:af)(code:Int)(t:Tbl)(r:Value)(h':af):Prop:=∃p,r=.tuple #[p,.int .i64 code]∧Ext h h'∧(code≠0→p=.pointer none)∧(code=0→dZ (λc=>h.size≤c∧c<h'.size) h' p t)
theorem JY {h:af}(G:dA h){f n m:Int}(hf:I64 f)(hn:I64 n)(hm:I64 m):ae prog jD #[.int .i64 f,.int .i64 n,.int .i64 m] h (RM h (dx f n m) (eS f n m)):=by
 apply Gq;unfold xb;refine(L8 G).mono λv1 h1 ⟨W,w1⟩=>?_
 subst W w1;rw[SN,Kg,ah];unfold dx;have ad:=Pu f;have I:(¬(0≤f∧f<3)∨¬aZ n∨¬aZ m)→RM h1 (if¬(0≤f∧f<3)∨¬aZ n∨¬aZ m then 6 else cT (λi=>cn (cL f n m i)) m.toNat) (eS f n m) (.tuple #[.pointer none,.int .i64 6]) h1:=by
  intro hb;rw[if_pos hb];exact⟨_,rfl,Ext.refl _,λ_=>rfl,λh=>by cases h⟩
 by_cases h0:Pv f=[]
 ·have A:=I (.inl (ad.1 h0));simp only[go_sem,h0];exact A
 have au:0≤f∧f<3:=Decidable.of_not_not λh=>h0 (ad.2 h)
 simp only[go_sem,h0];refine zo.mono λv1 h2 ⟨W,w1⟩=>?_
 subst W w1;by_cases F:¬aZ n
 ·have A:=I (.inr (.inl F));have q:(1≤n∧n≤65536)=False:=eq_false F;simp only[go_sem,q];exact A
 have F:aZ n:=Decidable.of_not_not F;have q:(1≤n∧n≤65536)=True:=eq_true F;simp only[go_sem,q];refine zo.mono λv1 h3 ⟨W,w1⟩=>?_
 subst W w1;by_cases H:¬aZ m
 ·have A:=I (.inr (.inr H));have q:(1≤m∧m≤65536)=False:=eq_false H;simp only[go_sem,q];exact A
 have H:aZ m:=Decidable.of_not_not H;have q:(1≤m∧m≤65536)=True:=eq_true H;simp only[go_sem,q,Sm (a:=.int .i64 n) rfl,Option.map_some];rw[if_neg (by rintro(h|h|h);exact h au;exact h F;exact h H)]
 clear I q
 refine aC λb h4 r4 e4 n4=>?_
 have ab:=F;have U:=H;unfold aZ at ab U;have D:∀k:Nat,((List.range k).map λi:Nat=>(dS f n m i,bS (cL f n m i))).length=k:=λk=>by simp
 refine bB m.toNat 0 (λk (_:Unit)=>[.int .i64 (k:Int)]) (λk _ h'=>cT (λi=>cn (cL f n m i)) k=0∧∃Z lv,Bx h3 Z h' b 154 lv n ((List.range k).map λi:Nat=>(dS f n m i,bS (cL f n m i)))) () rfl (Nat.zero_le _)
  ⟨rfl,λ_=>False,_,e4,r4,Rp.Ow.nil,n4,λc hc=>hc.elim,id,id,λc hc=>hc.elim⟩ λk _ h5 again ρj _ hk ⟨hg,Z,lv,T⟩ an=>?_
 try simp only[go_sem]
 refine aj (λh6=>?_) (λh6=>?_)
 ·have aa:k<m.toNat:=by omega
  have G5:=G.ext T.ext;refine(PG G5).mono λw h7 ⟨v,e,Nw⟩=>?_
  subst e
  try simp only[go_sem]
  refine(zD Nw.sl (rR _ _ _ _) (HF _ _ _ _)).mono λw h8 ⟨u,e,Nu⟩=>?_
  subst e
  try simp only[go_sem]
  refine aj (λL=>?_) (λL=>?_)
  ·have hc:cT (λi=>cn (cL f n m i)) (k+1)=cn (cL f n m k):=by
    show(if cT (λi=>cn (cL f n m i)) k≠0 then _ else _)=_;rw[if_neg (by rw[hg];simp)]
   have hs:=Bu (g:=λi=>cn (cL f n m i)) (k:=k+1) (n:=m.toNat) (by rw[hc];exact L) aa;rw[hs,hc];exact⟨_,rfl,(T.ext.trans Nw.2.1).trans Nu.2.1,λ_=>rfl,λh=>absurd h L⟩
  ·have L:cn (cL f n m k)=0:=Decidable.of_not_not L;have bd:=nH (rR f n m k);have T2:Bx h3 (λc=>Z c∨blk u c) h8 b 154 lv n _:=T.more (Z':=λc=>Z c∨blk u c) (Nw.2.1.trans Nu.2.1) (λc=>.inl) λc hc hz=>by
    rcases hc with hc|hc
    ·exact absurd hc hz
    ·exact⟨Nat.le_trans Nw.2.1.1 (Nu.2.2 c hc),Nu.1.lt hc⟩
   refine(JJ T2 (Nu.sl.mono λc _ hc=>.inr hc) (Gf (rR _ _ _ _)) (by omega) (by rw[D];omega)).mono λw ar ⟨al,T3,_⟩=>?_
   rw[w64 (by omega) (by omega)];refine an () ar aa ⟨?_,λc=>Z c∨blk u c,al,?_⟩
   ·show(if cT (λi=>cn (cL f n m i)) k≠0 then _ else _)=_;rw[if_neg (by rw[hg];simp)];exact L
   ·rw[List.range_succ,List.map_append];exact T3
 ·have:k=m.toNat:=by omega
  subst this;exact⟨_,by rw[hg],T.ext,λh=>absurd hg h,λ_=>T.done⟩
def iJ (l:List Int)(n:Int):Int:=if¬aZ n then 6 else if l.length%2=0 then 7 else cn l
def jP (l:List Int)(n:Int):Tbl:=⟨n,(List.range n.toNat).map λi:Nat=>((i:Int)-(l.length/2:Nat),bS l)⟩
theorem PX {h:af}{Z:Nat→Prop}{v:Value}{l:List Int}{n:Int}(H:SlI Z h v l)(F:∀x∈l,I64 x)(hl:l.length<4611686018427387904)(hn:I64 n):ae prog me #[v,.int .i64 n] h (RM h (iJ l n) (jP l n)):=by
 apply Gr;unfold xc;refine zo.mono λv1 h1 ⟨e1,w1⟩=>?_
 subst e1 w1;unfold iJ;obtain⟨a,cap,e⟩:=H.isSl;have e2:aq v=some (.int .i64 (l.length:Int)):=by rw[e];rfl
 by_cases D:¬aZ n
 ·rw[if_pos D];have q:(1≤n∧n≤65536)=False:=eq_false D;simp only[go_sem,q];exact⟨_,rfl,Ext.refl _,λ_=>rfl,λh=>by cases h⟩
 rw[if_neg D];have D:aZ n:=Decidable.of_not_not D;have q:(1≤n∧n≤65536)=True:=eq_true D;have L:=D;unfold aZ at L;simp only[go_sem,q,e2];rw[cV _ _ _ _ (by omega),ah,Int.tmod_eq_emod_of_nonneg (by omega)];simp only[go_sem];refine aj (λh0=>?_) (λh0=>?_)
 ·rw[if_pos (by omega)];exact⟨_,rfl,Ext.refl _,λ_=>rfl,λh=>by cases h⟩
 rw[if_neg (by omega)];refine(zD H F hl).mono λw h2 ⟨u,e,G⟩=>?_
 subst e;simp only[go_sem];refine aj (λI=>?_) (λI=>?_)
 ·exact⟨_,rfl,G.2.1,λ_=>rfl,λh=>absurd h I⟩
 have I:cn l=0:=Decidable.of_not_not I;have W:(bS l).length=l.length:=by unfold bS;rw[if_pos I,nh]
 have bd:=nH F;simp only[Sm (a:=.int .i64 n) rfl,Option.map_some,ah,bC];refine aC λb h4 r4 U n4=>?_
 have A:∀k:Nat,((List.range k).map λi:Nat=>((i:Int)-(l.length/2:Nat),bS l)).length=k:=λk=>by simp
 refine bB n.toNat 0 (λk (_:Unit)=>[.int .i64 (k:Int)]) (λk _ h'=>∃lv,Bx h1 (blk u) h' b 154 lv n ((List.range k).map λi:Nat=>((i:Int)-(l.length/2:Nat),bS l))∧SlI (blk u) h' u (bS l)) () rfl (Nat.zero_le _)
  ⟨_,⟨G.2.1.trans U,r4,Rp.Ow.nil,Nat.le_trans G.2.1.1 n4,λc hc=>hc.elim,λhc=>by have:=G.1.lt hc;omega,id,λc hc=>⟨G.2.2 c hc,by have:=G.1.lt hc;have:=U.1;omega⟩⟩,G.sl.ext U⟩ λk _ h5 again ρj _ hk ⟨lv,T,Hu⟩ ab=>?_
 try simp only[go_sem]
 refine aj (λh6=>?_) (λh6=>?_)
 ·have ad:k<n.toNat:=by omega
  obtain⟨au,cu,eu⟩:=Hu.isSl;have an:aq u=some (.int .i64 (l.length:Int)):=by rw[eu,W];rfl
  simp only[go_sem,an];rw[kr _ _ _ _ (by omega),ah,Int.tdiv_eq_ediv_of_nonneg (by omega),w64 (n:=(l.length:Int)/2) (by omega) (by omega)];simp only[go_sem];rw[w64 (n:=(k:Int)-(l.length:Int)/2) (by omega) (by omega),show(k:Int)-(l.length:Int)/2=(k:Int)-(l.length/2:Nat)by omega];refine(JJ T Hu (Gf F) (by omega) (by rw[A];omega)).mono λw al ⟨aa,T3,F3⟩=>?_
  try simp only[go_sem]
  rw[w64 (by omega) (by omega)];have hd:∀c,blk u c→¬(c=b∨blk lv c):=λc hc hm=>by
   rcases hm with rfl|hm
   ·exact T.zb hc
   ·obtain⟨ds,_,h2,_⟩:=T.ow;exact h2 c hm hc
  refine ab () al ad ⟨aa,?_,Hu.fr F3 λc _ hc=>hd c hc⟩;rw[List.range_succ,List.map_append];exact T3
 ·have:k=n.toNat:=by omega
  subst this;exact⟨_,by rw[I],T.ext,λh=>absurd I h,λ_=>T.done⟩
theorem NL {Z:Nat→Prop}{h:af}{p:Value}{t:Tbl}(H:dZ Z h p t):ae prog eG #[p] h λr h'=>r=.int .i64 t.n∧h'=h:=by
 apply Aw;unfold qn;obtain⟨b,lv,rfl,A,I,D,F,G,_⟩:=H.open;simp only[go_sem,A];exact⟨by simp,by simp⟩
theorem AD {Z:Nat→Prop}{h:af}{p:Value}{t:Tbl}(H:dZ Z h p t):ae prog bF #[p] h λr h'=>r=.int .i64 (t.lines.length:Int)∧h'=h:=by
 apply DC;unfold sZ;obtain⟨b,lv,rfl,I,F,L,G,D,_⟩:=H.open;obtain⟨a,cap,e⟩:=D.isSl;have A:aq lv=some (.int .i64 (t.lines.length:Int)):=by rw[e];rfl
 simp only[go_sem,F,A];exact⟨by simp,by simp⟩
theorem NK {Z:Nat→Prop}{h:af}{p:Value}{t:Tbl}(H:dZ Z h p t):ae prog eF #[p] h λr h'=>r=.int .i64 (bX t.lines)∧h'=h:=by
 apply Au;unfold qi;obtain⟨b,lv,rfl,G,I,A,D,F,_⟩:=H.open;simp only[go_sem,A];exact⟨by simp,by simp⟩
structure _root_.Go.Crisp.Tbl.Wf (t:Tbl):Prop where
 len:t.lines.length≤65536
 taps:∀x∈t.lines,x.2.length≤1048576∧ -70368744177664≤x.1∧x.1≤70368744177664
def aW (t:Tbl)(i:Int):Int×List Int:=if 0≤i then t.lines.getD i.toNat (0,[])else(0,[])
theorem zy {Z:Nat→Prop}{h:af}{p:Value}{t:Tbl}(H:dZ Z h p t)(W:t.Wf){i:Int}:ae prog bu #[p,.int .i64 i] h λr h'=>∃u,r=.agg #[.int .i64 (aW t i).1,u]∧SlI (λb=>h.size≤b∧b<h'.size) h' u (aW t i).2∧Ext h h':=by
 apply Av;unfold qk;refine aC λbv h1 r1 F n1=>?_
 obtain⟨b,lv,rfl,c0,c1,c2,c3,hl,_⟩:=dZ.open (H.ext F);obtain⟨a,cap,e⟩:=hl.isSl;have e2:aq lv=some (.int .i64 (t.lines.length:Int)):=by rw[e];rfl
 simp only[go_sem,c1,e2];unfold aW;refine aj (λh0=>?_) (λh0=>?_)
 ·have I:(if 0≤i then t.lines.getD i.toNat (0,[])else((0,[]):Int×List Int))=(0,[]):=by
   split
   ·rw[List.getD_eq_getElem?_getD,List.getElem?_eq_none (by omega)];rfl
   ·rfl
  rw[I,fB,Option.map_some,ah];refine ce (l:=[.int .i64 0,.slice none 0 0]) r1 rfl (ak rfl (ak rfl aQ)) rfl λh2 r2 u2=>?_
  rw[aI r2 2 rfl,ah];exact⟨_,rfl,Rp.Sl.nil,F.upd n1 u2⟩
 ·obtain⟨k,rfl⟩:∃k:Nat,i=(k:Int):=⟨i.toNat,by omega⟩
  have U:k<t.lines.length:=by omega
  have I:(if(0:Int)≤(k:Int)then t.lines.getD (k:Int).toNat (0,[])else((0,[]):Int×List Int))=t.lines[k]:=by
   rw[if_pos (by omega),Int.toNat_natCast,List.getD_eq_getElem?_getD,List.getElem?_eq_getElem U];rfl
  rw[I];obtain⟨b2,o2,cs,D,i2,i3,⟨u,rfl,hu⟩,A⟩:=Rp.Sl.atp (e:=km) hl (show 0<2 by omega) (k:=.i64) U;have D:aR 2 lv (.int .i64 (k:Int))=some (.pointer (some ⟨b2,o2,none⟩)):=D;have j0:=i3 0 (by simp);have j1:=i3 1 (by simp);simp only[List.getElem_cons_zero,List.getElem_cons_succ]at j0 j1;refine aG (λh'=>Ext h1 h') (Ext.refl _) ?_;refine ao lv (λh' e=>e.cell c1) ?_;rw[D];simp only[go_sem];refine ao _ (λh' e=>e.cell j0) ?_;refine ao lv (λh' e=>e.cell c1) ?_;rw[D];simp only[go_sem];refine ao _ (λh' e=>e.cell j1) ?_;have aa:=(W.taps _ (List.getElem_mem U)).1;refine(T6 hu (by omega)).mono λw h3 ⟨hw,G⟩=>?_
  refine⟨G,?_⟩;have one:=hw.one;rw[wz (a:=.int .i64 t.lines[k].1) rfl one,Option.map_some,ah];refine ce (l:=[.int .i64 t.lines[k].1,w]) (G.row r1) rfl (ak rfl (ak one aQ)) rfl λh5 r5 u5=>?_
  rw[aI r5 2 rfl,ah];have hb:=aU r1;refine⟨w,rfl,?_,(F.trans G).upd n1 u5⟩;obtain⟨ds,hs,A,L⟩:=hw.fr (M:=λc=>c=bv) u5.fr λc hc A L=>by have:=L▸A;omega
  refine⟨ds,hs,λh0 c hc=>⟨?_,?_⟩,λi hi=>L i hi⟩
  ·have:=A h0 c hc;have:=F.1;omega
  ·exact hs.lt h0 hc
def BF (ls:List (Int×List Int))(x0:Int):Int:=ls.foldl (λm x=>min m x.1) x0
def EA (ls:List (Int×List Int))(x0:Int):Int:=ls.foldl (λm x=>max m (x.1+(x.2.length:Int))) x0
def Mz (t:Tbl)(i k:Nat):List (Int×List Int):=(t.lines.drop i).take (k-i)
def uf (t:Tbl)(i k:Int):Int×Int:=
 if(min k (t.lines.length:Int))≤max i 0 then(0,0)
 else let i':=(max i 0).toNat;let k':=(min k (t.lines.length:Int)).toNat;let x0:=(t.lines.getD i' (0,[])).1
  (BF (Mz t i' k') x0,EA (Mz t i' k') x0-BF (Mz t i' k') x0)
theorem zh {β γ:Type}(f:γ→β→γ)(l:List β){k:Nat}(h:k<l.length)(s:γ):(l.take (k+1)).foldl f s=f ((l.take k).foldl f s) l[k]:=by
 rw[List.take_succ_eq_append_getElem h,List.foldl_append];rfl
theorem Uw {ls:List (Int×List Int)}{x0:Int}(h0: -70368744177664≤x0∧x0≤70368744177664)(h:∀x∈ls,x.2.length≤1048576∧ -70368744177664≤x.1∧x.1≤70368744177664):
  (-70368744177664≤BF ls x0∧BF ls x0≤70368744177664)∧ -70368744177664≤EA ls x0∧EA ls x0≤70369000000000:=by
 unfold BF EA;have G:∀(ls:List (Int×List Int)) (m:Int),(∀x∈ls,x.2.length≤1048576∧ -70368744177664≤x.1∧x.1≤70368744177664)→ -70368744177664≤m∧m≤70368744177664→ -70368744177664≤ls.foldl (λm x=>min m x.1) m∧ls.foldl (λm x=>min m x.1) m≤70368744177664:=by
  intro ls;induction ls with
  |nil=>intro m _ h;exact h
  |cons x ls A=>intro m h H;have:=h x (by simp);exact A _ (λy D=>h y (by simp[D])) (by dsimp only;omega)
 have F:∀(ls:List (Int×List Int)) (m:Int),(∀x∈ls,x.2.length≤1048576∧ -70368744177664≤x.1∧x.1≤70368744177664)→ -70368744177664≤m∧m≤70369000000000→ -70368744177664≤ls.foldl (λm x=>max m (x.1+(x.2.length:Int))) m∧ls.foldl (λm x=>max m (x.1+(x.2.length:Int))) m≤70369000000000:=by
  intro ls;induction ls with
  |nil=>intro m _ h;exact h
  |cons x ls A=>intro m h H;have:=h x (by simp);exact A _ (λy D=>h y (by simp[D])) (by dsimp only;omega)
 exact⟨G ls x0 h h0,F ls x0 h (by omega)⟩
theorem NH {Z:Nat→Prop}{h:af}{p:Value}{t:Tbl}(H:dZ Z h p t)(W:t.Wf){i k:Int}(hi:I64 i)(hk:I64 k):ae prog fF #[p,.int .i64 i,.int .i64 k] h λr h'=>r=.tuple #[.int .i64 (uf t i k).1,.int .i64 (uf t i k).2]∧Ext h h':=by
 apply yP;unfold oN;obtain⟨b,lv,rfl,c0,c1,c2,c3,hl,_,_,⟨la,ln,lc,el,ar⟩⟩:=H.open;have e2:aq lv=some (.int .i64 (t.lines.length:Int)):=by
  obtain⟨a,cap,e⟩:=hl.isSl;rw[e];rfl
 simp only[go_sem,c1,e2];unfold uf;refine aj (λh0=>?_) (λh0=>?_)
 ·rw[if_pos h0];exact⟨rfl,Ext.refl _⟩
 rw[if_neg h0];obtain⟨A,ad⟩:∃A:Nat,max i 0=(A:Int):=⟨(max i 0).toNat,by omega⟩
 obtain⟨k',an⟩:∃k':Nat,min k (t.lines.length:Int)=(k':Int):=⟨(min k (t.lines.length:Int)).toNat,by omega⟩
 simp only[ad,an,Int.toNat_natCast]at h0 ⊢;have a7:A<k':=by omega
 have al:k'≤t.lines.length:=by omega
 have I:A<t.lines.length:=by omega
 have eg:t.lines.getD A (0,[])=t.lines[A]:=by rw[List.getD_eq_getElem?_getD,List.getElem?_eq_getElem I];rfl
 rw[eg];obtain⟨b2,o2,cs,q1,q2,q3,⟨u,rfl,hu⟩,hz⟩:=Rp.Sl.atp (e:=km) hl (show 0<2 by omega) (k:=.i64) I;have q1:aR 2 lv (.int .i64 (A:Int))=some (.pointer (some ⟨b2,o2,none⟩)):=q1;have j0:=q3 0 (by simp);simp only[List.getElem_cons_zero]at j0;obtain⟨L,s1,s2⟩:=hl.part (show A≤k' by omega) al el ar (k:=.i64) (k':=.i64);have s1:ue 2 lv (some (.int .i64 (A:Int))) (some (.int .i64 (k':Int)))=some L:=s1;simp only[go_sem,q1,j0,c1,s1];have aa:(t.lines.drop A).take (k'-A)=Mz t A k':=rfl;rw[aa]at s2;have a9:(Mz t A k').length=k'-A:=by unfold Mz;rw[List.length_take,List.length_drop];omega
 have G:∀x∈Mz t A k',x∈t.lines:=λx hx=>List.mem_of_mem_drop (List.mem_of_mem_take hx)
 obtain⟨a3,bd,e3⟩:=s2.isSl;have e4:aq L=some (.int .i64 ((Mz t A k').length:Int)):=by rw[e3];rfl
 rw[e4,ah];generalize ay:t.lines[A].1=x0;have ab:=W.taps _ (List.getElem_mem I);rw[ay]at ab;generalize bc:Mz t A k'=F at*;refine bB F.length 0 (λk (_:Unit)=>[.int .i64 (BF (F.take k) x0),.int .i64 (EA (F.take k) x0),.int .i64 (k:Int)]) (λk _ h'=>Ext h h') () rfl (Nat.zero_le _) (Ext.refl _) λk _ h2 again ρj _ hk E2 ax=>?_
 simp only[go_sem];refine aj (λh3=>?_) (λh3=>?_)
 ·have D:k<F.length:=by omega
  obtain⟨p2,a8,z1,z2,⟨u2,rfl,U⟩⟩:=Rp.Sl.atw (e:=km) (s2.ext E2) (show 0<2 by omega) (k:=.i64) D;have z1:aR 2 L (.int .i64 (k:Int))=some p2:=z1;have z2:aH 2 h2 p2=some (.agg #[.int .i64 F[k].1,u2]):=z2;rw[z1,ah,z2,ah];refine cD (cs:=[.int .i64 F[k].1,u2]) rfl (ak rfl (ak U.one aQ)) rfl λbv h4 r4 e5 n5=>?_
  obtain⟨au,cu,eu⟩:=U.isSl;have aw:aq u2=some (.int .i64 (F[k].2.length:Int)):=by rw[eu];rfl
  have d0:aB h4 ⟨bv,0,none⟩=some (.int .i64 F[k].1):=ai r4;have d1:aB h4 ⟨bv,1,none⟩=some u2:=ai r4;have hw:=W.taps _ (G _ (List.getElem_mem D));simp only[go_sem,d0,d1,aw];rw[w64 (n:=F[k].1+(F[k].2.length:Int)) (by omega) (by omega),w64 (n:=(k:Int)+1) (by have:=W.len;omega) (by have:=W.len;omega)];have:=ax () h4 D (E2.trans e5);unfold BF EA at this ⊢;rw[zh _ _ D,zh _ _ D]at this;exact this
 ·rw[List.take_of_length_le (by omega)];have:=Uw (ls:=F) (x0:=x0) ab.2 (λx hx=>W.taps x (G x hx));rw[w64 (by omega) (by omega)];exact⟨rfl,E2⟩
end Go.Proofs.YtcoimlclclnlkaaGreatDoor
