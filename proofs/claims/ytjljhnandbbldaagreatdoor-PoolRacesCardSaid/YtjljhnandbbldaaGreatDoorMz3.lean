/- Several texts of this session, one behind the other, without what this claim does not need (put together by its program pack.py). Conditions: none. -/
import Derived.Test.YtjljhnandbbldaaGreatDoorMz2
import Derived.MapKept
import Derived.Test.YtjljhnandbbldaaGreatDoorProg
import Derived.Shelf.SlIterI.Sorted
import Derived.Shelf.Slices.Delete
set_option linter.unusedVariables false
set_option linter.unusedSimpArgs false
set_option maxRecDepth 100000
namespace Go.Proofs.YtjljhnandbbldaaGreatDoor
open Go Go.Crisp
attribute [local irreducible] ag du bh stK aE vK qK bO gK fR bA mkK dy GQ IQ DT bsK clK
open _root_.Go.Proofs.Tryz
theorem DS {k:IntKind}{h:ah}{b:Nat}{t:TypeId}{l:List Int}{n:Nat}(F:l.length=n)(G:h[b]? =some (.cells (l.map λn=>Value.int k n).toArray t (0,0))):Rp.Sl (Rp.int k) (λk=>k=b) h (.slice (some ⟨b,0,none⟩) n n) l:=by
 subst F;refine⟨l.map (Value.int k),⟨by simp[Rp.int],_,_,rfl,.inr ⟨b,0,rfl,λj A=>?_⟩⟩,λ_ k H=>H,λi hi=>?_⟩
 ·rw[aO,am G];simp at A;simp[A]
 ·show Rp.el 1 _ i=[.int k l[i]];rw[Rp.el_one (by simpa using hi),dX]
theorem zay {h:ah}(G:eW h):ag prog yW #[] h λr h'=>r=.bool true∧Ext h h':=by
 apply NU;unfold Cr;refine(VM G).mono λw h1 ⟨u,e,N⟩=>?_
 subst e;have e1:fW 0 4 2 1=2:=by decide+kernel
 have e2:dw 0 4 2 1=[536870912,536870912]:=by decide+kernel
 rw[e1];rw[e2]at N;obtain⟨a,c,U⟩:=N.isSl;have e3:aC u=some (af 2):=by rw[U];rfl
 obtain⟨p,H,L⟩:=N.sl.int_at (k':=.i64) (i:=0) (by simp);obtain⟨q,I,F⟩:=N.sl.int_at (k':=.i64) (i:=1) (by simp);have H:bu 1 u ai=some p:=H;have I:bu 1 u aG=some q:=I;have L:ldV h1 p=some (af 536870912):=L;have F:ldV h1 q=some (af 536870912):=F;simp only[go_sem,e3,H,L,I,F,lM,gM];refine(XP ae (by unfold I64;omega)).mono λw h2 ⟨e,A⟩=>?_
 have A:=A.symm;subst e A;have k1:Jz 0 1=1073741824:=by decide+kernel
 have W:Jz 1 2=603979776:=by decide+kernel
 rw[k1];simp only[go_sem,lM,gM];refine(XP ae (by unfold I64;omega)).mono λw h2 ⟨e,A⟩=>?_
 have A:=A.symm;subst e A;rw[W];simp only[go_sem,lM,gM];exact⟨by simp,N.2.1⟩
theorem zax {h:ah}:ag prog yV #[] h λr h'=>r=.bool true∧Ext h h':=by
 apply NQ;unfold Cq;refine di (c':=#[af 536870912,af 536870912,af 536870912]) rfl λb1 h1 r1 L n1=>?_
 have W:=DS (k:=.i64) (l:=[536870912,536870912,536870912]) (n:=3) rfl r1;have w1:∀x∈[(536870912:Int),536870912,536870912],I64 x:=by simp[I64]
 refine(Dt W w1 (by simp)).mono λw h2 ⟨u,e,N⟩=>?_
 subst e;have a1:df [536870912,536870912,536870912]=0:=by decide+kernel
 have a2:cD [536870912,536870912,536870912]=[5462,5461,5461]:=by decide+kernel
 rw[a1];rw[a2]at N;simp only[go_sem];refine(Pp (by unfold I64;omega)).mono λw h3 ⟨x,e,M⟩=>?_
 subst e;have H:GK 65536=0:=by decide+kernel
 have G:(pS 65536).length=7:=by decide+kernel
 rw[H];obtain⟨ax,cx,ex⟩:=M.isSl;have A:aC x=some (af 7):=by rw[ex,G];rfl
 simp only[go_sem,lM,gM];refine di (c':=#[af 5462,af 5461,af 5461]) rfl λb4 h4 U I n4=>?_
 have S4:=DS (k:=.i64) (l:=[5462,5461,5461]) (n:=3) rfl U;refine(VX (N.sl.ext (M.2.1.trans I)) S4 (by simp)).mono λw h5 ⟨e,F⟩=>?_
 have F:=F.symm;subst e F;simp only[go_sem,lM,gM,A];exact⟨by simp,L.trans (N.2.1.trans (M.2.1.trans I))⟩
theorem Re:gn 0 4 2=⟨4,[(0,[8192,8192]),(2,[8192,8192])]⟩:=by
 have e:(gn 0 4 2).lines=[(0,[8192,8192]),(2,[8192,8192])]:=by decide+kernel
 show(⟨4,(gn 0 4 2).lines⟩:Tbl)=_;rw[e]
theorem Kw:(⟨4,[(0,[8192,8192]),(2,[8192,8192])]⟩:Tbl).Wf:=by
 constructor<;>simp
theorem zaw {h:ah}(G:eW h):ag prog yU #[] h λr h'=>r=.bool true∧Ext h h':=by
 apply NO;unfold Co;refine(zay G).mono λw h1 ⟨e,e1⟩=>?_
 subst e;simp only[go_sem];refine zax.mono λw h2 ⟨e,e2⟩=>?_
 subst e;simp only[go_sem];refine(Po (G.ext (e1.trans e2)) (by unfold I64;omega) (by unfold I64;omega) (by unfold I64;omega)).mono λw h3 ⟨p,e,e3,_,s1⟩=>?_
 subst e;have a1:dH 0 4 2=0:=by decide+kernel
 have T:=s1 a1;rw[Re]at T;rw[a1];obtain⟨pb,_,_,hp,_⟩:=T;have T:=s1 a1;rw[Re]at T;have np:ak .p .eql p (.pointer none)=some (.bool false):=by rw[hp];rfl
 simp only[go_sem,lM,gM,np];refine(Ds T Kw).mono λw h4 ⟨u,e,U,H⟩=>?_
 subst e;have l1:bG ⟨4,[(0,[8192,8192]),(2,[8192,8192])]⟩ 1=(2,[8192,8192]):=by rfl
 rw[l1]at U ⊢;refine dh (cs:=[af 2,u]) rfl (az rfl (az U.one bi)) rfl λb5 h5 r5 A n5=>?_
 refine(Ub (T.ext (H.trans A)) Kw (by unfold I64;omega) (by unfold I64;omega)).mono λw h6 ⟨e,F⟩=>?_
 subst e;have l2:yv ⟨4,[(0,[8192,8192]),(2,[8192,8192])]⟩ 0 2=(0,4):=by decide+kernel
 rw[l2];simp only[go_sem];refine(Ds (T.ext (H.trans (A.trans F))) Kw).mono λw h7 ⟨u2,e,U2,W⟩=>?_
 subst e;have l0:bG ⟨4,[(0,[8192,8192]),(2,[8192,8192])]⟩ 0=(0,[8192,8192]):=by rfl
 rw[l0];have pv:qV false 1 0 (.agg #[ai,u2])=some ai:=rfl;have L:=(F.trans W).row r5;simp only[go_sem,pv,lM,gM,am L];refine di (c':=#[af 8192,af 8192]) rfl λb8 h8 r8 e8 n8=>?_
 have S8:=DS (k:=.i64) (l:=[8192,8192]) (n:=2) rfl r8;refine(VX (U.ext (A.trans (F.trans (W.trans e8)))) S8 (by simp)).mono λw h9 ⟨e,I⟩=>?_
 have I:=I.symm;subst e I;simp only[go_sem,lM,gM];exact⟨by simp,e1.trans (e2.trans (e3.trans (H.trans (A.trans (F.trans (W.trans e8))))))⟩
theorem CM {Z:Nat→Prop}{h:ah}{k b s r f w hh:Int}:rOp.R Z h [af k,af b,af s,af r,.slice none 0 0,.slice none 0 0,af f,af w,af hh] ⟨k,b,s,r,[],[],f,w,hh⟩:=⟨_,_,rfl,Rp.Sl.nil,Rp.Sl.nil⟩
theorem CL {k b s r f w hh:Int}(h:∀x∈[k,b,s,r,f,w,hh],I64 x):OpD.Wf ⟨k,b,s,r,[],[],f,w,hh⟩:=by
 constructor<;>first|exact h _ (by simp)|simp
theorem Pj {h:ah}(G:eW h):ag prog sJ #[] h λr h'=>r=.bool true∧Ext h h':=by
 apply NM;unfold Cl;have hf:(aQ #[ai,ai,ai,ai,(.slice none 0 0),(.slice none 0 0),ai,ai,ai] [(0,1,(af 3)),(7,1,(af 2)),(8,1,aG),(6,1,ai)])=some #[af 3,ai,ai,ai,.slice none 0 0,.slice none 0 0,ai,af 2,aG]:=rfl;rw[hf,bJ,aj];have wf:OpD.Wf ⟨3,0,0,0,[],[],0,2,1⟩:=CL (by simp[I64]);refine(KJ (Z:=λ_=>True) G CM wf (by simp) (by simp) (by unfold I64;omega) (by unfold I64;omega)).mono λw h1 ⟨sv,e,e1,_,s1⟩=>?_
 subst e;have a1:fF ⟨3,0,0,0,[],[],0,2,1⟩ 4 3=0:=by decide+kernel
 obtain⟨p,q,rfl,tp,tq⟩:=s1 a1;rw[a1];simp only[go_sem];refine dh (cs:=[p,q,af _]) rfl (az (nC tp) (az (nC tq) (az rfl bi))) rfl λb2 h2 r2 W n2=>?_
 refine(zaw (G.ext (e1.trans W))).mono λw h3 ⟨e,e3⟩=>?_
 subst e;have F:=e3.row r2;have I:=tp.ext (W.trans e3);have H:=tq.ext (W.trans e3);have L:ak .p .neq p (.pointer none)=some (.bool true):=by obtain⟨_,_,_,hp,_⟩:=tp;rw[hp];rfl
 have U:ak .p .neq q (.pointer none)=some (.bool true):=by obtain⟨_,_,_,hp,_⟩:=tq;rw[hp];rfl
 simp only[go_sem,lM,gM,am F,L,U];refine(Ue I).mono λw h4 ⟨e,A⟩=>?_
 have A:=A.symm;subst e A;have t1:(cz ⟨3,0,0,0,[],[],0,2,1⟩ 4 3).x.n=4:=rfl;have t2:((cz ⟨3,0,0,0,[],[],0,2,1⟩ 4 3).x.lines.length:Int)=2:=by decide+kernel
 have t3:(cz ⟨3,0,0,0,[],[],0,2,1⟩ 4 3).y.n=3:=rfl;have t4:((cz ⟨3,0,0,0,[],[],0,2,1⟩ 4 3).y.lines.length:Int)=1:=by decide+kernel
 rw[t1];simp only[go_sem,lM,gM,am F,L,U];refine(EN I).mono λw h4 ⟨e,A⟩=>?_
 have A:=A.symm;subst e A;rw[t2];simp only[go_sem,lM,gM,am F,L,U];refine(Ue H).mono λw h4 ⟨e,A⟩=>?_
 have A:=A.symm;subst e A;rw[t3];simp only[go_sem,lM,gM,am F,L,U];refine(EN H).mono λw h4 ⟨e,A⟩=>?_
 have A:=A.symm;subst e A;rw[t4];simp only[go_sem,lM,gM];exact⟨by simp,e1.trans (W.trans e3)⟩
theorem zav {h:ah}:ag prog yT #[] h λr h'=>r=.bool true∧Ext h h':=by
 apply NN;unfold Cm;refine zL.mono λw h1 ⟨p,e,L,_,U⟩=>?_
 subst e;have a1:C9 2 1 3 255=0:=by decide+kernel
 obtain⟨b,v,rfl,I,nb,nv,_⟩:=U a1;have W:=Ek a1;rw[a1];have H:ak .p .neq (ptr b) (.pointer none)=some (.bool true):=rfl;simp only[go_sem,lM,gM,H];refine(zaE I W).mono λu h2 N=>?_
 obtain⟨au,cu,G⟩:=N.isSl;have A:aC u=some (af 6):=by rw[G];rfl
 simp only[go_sem,lM,gM,A];refine(Za (I.ext N.2.1) W ae ae).mono λr h3 ⟨e,F,f3,s3⟩=>?_
 subst e;have a2:¬(inP (vD 2 1 3 255) 1 0 2∧(256:Int)≤(vD 2 1 3 255).most):=by decide+kernel
 rw[aq a2]at F;rw[cE a2];simp only[go_sem];refine(Za F W ae ae).mono λr h4 ⟨e,I4,f4,s4⟩=>?_
 subst e;have a3:inP (vD 2 1 3 255) 1 0 2∧(255:Int)≤(vD 2 1 3 255).most:=by decide+kernel
 rw[cL a3];simp only[go_sem];exact⟨by simp,((L.trans N.2.1).then_fr f3 nv).then_fr f4 nv⟩
def atZ (p j n:Int):Int:=if n<1∨65536<n then 0 else if p=0 then max 0 (min j (n-1))else if p=1 then min (j%(2*n)) (2*n-1-j%(2*n))else if p=2 then j%n else 0
theorem zft {p j n:Int}(h1:1≤n)(A:n≤65536):0≤atZ p j n∧atZ p j n<n:=by
 unfold atZ;rw[aq ae];have a1:=kA j (show 2*n≠0 by omega);have a2:=iJ j (show 0<2*n by omega);have a3:=kA j (show n≠0 by omega);have a4:=iJ j (show 0<n by omega);split
 ·omega
 ·split
  ·omega
  ·split<;>omega
theorem w6 {h:ah}{p j n:Int}(G:I64 j):ag prog lZ #[.int .i64 p,.int .i64 j,.int .i64 n] h λr h'=>r=.int .i64 (atZ p j n)∧h'=h:=by
 apply SS;unfold Im atZ;simp only[go_sem];refine ao (λh0=>?_) (λh0=>?_)
 ·rw[if_pos h0];exact⟨rfl,trivial⟩
 rw[if_neg h0];have a1:=Int.emod_nonneg j (show 2*n≠0 by omega);have a2:=Int.emod_lt_of_pos j (show 0<2*n by omega);refine ao (λh1=>?_) (λh1=>?_)
 ·rw[if_pos h1,w64 (by omega) (by omega)];exact Ze
 rw[if_neg h1];refine ao (λF=>?_) (λF=>?_)
 ·rw[if_pos F,w64 (n:=2*n) (by omega) (by omega)];refine(zcu G (by unfold I64;omega) (by omega)).mono λv h' ⟨e,w⟩=>?_
  subst e;simp only[go_sem];rw[w64 (n:=2*n-1) (by omega) (by omega),w64 (by omega) (by omega)];exact⟨rfl,w⟩
 rw[if_neg F];refine ao (λA=>?_) (λA=>?_)
 ·rw[if_pos A];exact zcu G (by unfold I64;omega) (by omega)
 ·rw[if_neg A];exact⟨rfl,trivial⟩
end Go.Proofs.YtjljhnandbbldaaGreatDoor
namespace Go.Crisp
open Go
def z7 (f:Nat→Int):Nat→Int
 |0=>0
 |n+1=>z7 f n+f n
theorem QM (A a v:Int):IntKind.i64.wrap (IntKind.i64.wrap A+IntKind.i64.wrap (a*v))=IntKind.i64.wrap (A+a*v):=by rw[vR,q8]
theorem Wp (A a b v:Int):IntKind.i64.wrap (IntKind.i64.wrap A+IntKind.i64.wrap (IntKind.i64.wrap (a*b)*v))=IntKind.i64.wrap (A+b*(a*v)):=by
 rw[zU,vR,q8]
 congr 1
 rw[fM a b,pI]
def Ac (s most:Int):Int:=max 0 (min (oT s 28) (max 0 (min most 65535)))
theorem QW (s:Int){most:Int}(h:0≤most):0≤Ac s most∧Ac s most≤65535∧Ac s most≤most:=by unfold Ac;omega
end Go.Crisp
namespace Go.Proofs.YtjljhnandbbldaaGreatDoor
open Go Go.Crisp
attribute [local irreducible] ag du bh stK aE vK qK bO gK fR bA mkK dy GQ IQ DT bsK clK
open _root_.Go.Proofs.Tryz
def vF (m:Pic)(s:Stg)(x row c:Int):Int:=z7 (λi=>(bG s.x x).2.getD i 0*atP m (atZ s.border ((bG s.x x).1+i) m.w) row c) (bG s.x x).2.length
def MF (m:Pic)(s:Stg)(x y c:Int):Int:=z7 (λk=>(bG s.y y).2.getD k 0*vF m s x (atZ s.border ((bG s.y y).1+k) m.h) c) (bG s.y y).2.length
def yx (m:Pic)(s:Stg)(x y c:Int):Int:=Ac (IntKind.i64.wrap (MF m s x y c)) m.most
structure Stg.Wf (s:Stg):Prop where
 x:s.x.Wf
 y:s.y.Wf
def oS (m:Pic)(s:Stg):Prop:=s.x.n=m.w∧s.y.n=m.h∧0≤s.border∧s.border<3
instance (m:Pic)(s:Stg):Decidable (oS m s):=by unfold oS;infer_instance
theorem Zb {h:ah}{n most:Int}(F:I64 n):ag prog qD #[af n,af most] h λr h'=>r=.int .u16 (Ac n most)∧h'=h:=by
 apply LU;unfold Bq;refine(MA F (by unfold I64;omega)).mono λr h1 ⟨e,A⟩=>?_
 have A:=A.symm;subst e A;simp only[go_sem];refine Ze.mono λr h1 ⟨e,A⟩=>?_
 have A:=A.symm;subst e A;simp only[go_sem];rw[wu16 ae ae];exact⟨rfl,trivial⟩
theorem jQ {Z:Nat→Prop}{h:ah}{sv:Value}{s:Stg}(H:qX Z h sv s):∃p q,sv=.agg #[p,q,af s.border]∧gi Z h p s.x∧gi Z h q s.y∧(∀v∈[p,q,af s.border],aV v=true):=by
 obtain⟨p,q,e,A,hq⟩:=H;exact⟨p,q,e,A,hq,az (nC A) (az (nC hq) (az rfl bi))⟩
theorem JY {Z:Nat→Prop}{h:ah}{p:Value}{t:Tbl}(H:gi Z h p t):ak .p .neq p (.pointer none)=some (.bool true)∧ak .p .eql p (.pointer none)=some (.bool false):=by
 obtain⟨_,_,_,A,_⟩:=H;rw[A];exact⟨rfl,rfl⟩
theorem Mz {h:ah}(G:eW h){Z:Nat→Prop}{b:Nat}{v sv:Value}{m:Pic}{s:Stg}(H:dp h b v m)(HS:qX Z h sv s):ag prog kf #[ptr b,sv] h λr h'=>r=.bool (decide (oS m s))∧Ext h h':=by
 apply LS;unfold Bp;obtain⟨p,q,rfl,U,hq,aa⟩:=jQ HS;simp only[bT];refine aJ λb1 h1 r1 L n1=>?_
 have np:=(JY U).1;have nq:=(JY hq).1;have U:=U.ext L;have hq:=hq.ext L;have H:=H.ext L;have q0:aH h1 ⟨b1,0,none⟩=some p:=am r1;have q1:aH h1 ⟨b1,1,none⟩=some q:=am r1;have q2:aH h1 ⟨b1,2,none⟩=some (af s.border):=am r1;simp only[go_sem,aO,q0,q1,q2,np,nq];refine(Ue U).mono λr W ⟨e,A⟩=>?_
 have A:=A.symm;subst e A;refine(sA H).mono λr W ⟨e,A⟩=>?_
 have A:=A.symm;subst e A;simp only[go_sem];by_cases h1':s.x.n=m.w
 ·simp only[go_sem,h1',q1,q2];refine(Ue hq).mono λr W ⟨e,A⟩=>?_
  have A:=A.symm;subst e A;refine(pV H).mono λr W ⟨e,A⟩=>?_
  have A:=A.symm;subst e A;simp only[go_sem];by_cases I:s.y.n=m.h
  ·simp only[go_sem,I,q2];refine(JO (G.ext L)).mono λr W ⟨e,A⟩=>?_
   have A:=A.symm;subst e A
   try rw[Zo,Py]
   simp only[go_sem];refine⟨?_,L⟩
   congr 1
   have hb:=Wa s.border;by_cases F:PA s.border=[]
   ·rw[cE (by simpa using F),cE];unfold oS;have:=hb.1 F;rintro⟨_,_,a,b⟩;exact this ⟨a,b⟩
   ·rw[cL (by simpa using F),cL];have:=cq λhh=>F (hb.2 hh)
    exact⟨h1',I,this.1,this.2⟩
  ·simp only[go_sem,I];refine⟨?_,L⟩;rw[cE];rintro⟨_,a,_⟩;exact I a
 ·simp only[go_sem,h1'];refine⟨?_,L⟩;rw[cE];rintro⟨a,_⟩;exact h1' a
abbrev LV:Type:=Option (Nat×Option Bool)
abbrev XX:Array Value:=#[.int .i64 0,.slice none 0 0]
def IU (h:ah)(Lx Ly:Int×List Int)(ux uy:Option Value)(b:Nat):Option Bool→Prop
 |none=>h[b]? =some (.cells XX 189 (0,0))
 |some true=>∃u,ux=some u∧Two h b 189 (.int .i64 Lx.1) u
 |some false=>∃u,uy=some u∧Two h b 189 (.int .i64 Ly.1) u
theorem IU.row {h:ah}{G I:Int×List Int}{F A:Option Value}{b:Nat}:∀{s:Option Bool},IU h G I F A b s→b<h.size
 |none,H=>bD H
 |some true,⟨u,_,r⟩=>bD r
 |some false,⟨u,_,r⟩=>bD r
theorem IU.up {h h':ah}{L U:Int×List Int}{I G F A:Option Value}{b:Nat}(e:h'[b]? =h[b]?)(kx:∀u,I=some u→F=some u)(W:∀u,G=some u→A=some u):∀{s:Option Bool},IU h L U I G b s→IU h' L U F A b s
 |none,H=>by show h'[b]? =_;rw[e];exact H
 |some true,⟨u,hu,r⟩=>⟨u,kx u hu,by show h'[b]? =_;rw[e];exact r⟩
 |some false,⟨u,hu,r⟩=>⟨u,W u hu,by show h'[b]? =_;rw[e];exact r⟩
def apart (v1 v2:LV)(c:Nat):Prop:=(∀p,v1=some p→p.1≠c)∧(∀p,v2=some p→p.1≠c)
structure gu (h0:ah)(Lx Ly:Int×List Int)(ux uy:Option Value)(v1 v2:LV)(h:ah):Prop where
 ext:Ext h0 h
 lx:∀u,ux=some u→SlI (apart v1 v2) h u Lx.2
 ly:∀u,uy=some u→SlI (apart v1 v2) h u Ly.2
 at1:∀p,v1=some p→h0.size≤p.1∧IU h Lx Ly ux uy p.1 p.2
 at2:∀p,v2=some p→h0.size≤p.1∧IU h Lx Ly ux uy p.1 p.2
 dis:∀p q,v1=some p→v2=some q→p.1≠q.1
theorem gu.start (h:ah)(F A:Int×List Int):gu h F A none none none none h:=⟨Ext.refl _,by simp,by simp,by simp,by simp,by simp⟩
theorem gu.line_x {h0 h:ah}{G:Option Value}{U v2:LV}{F:Int×List Int}{Z:Nat→Prop}{p:Value}{t:Tbl}{x:Int}{K:Value→ah→Prop}(M:gu h0 (bG t x) F none G U v2 h)(T:gi Z h0 p t)(W:t.Wf)
  (H:∀u h',gu h0 (bG t x) F (some u) G U v2 h'→K (.agg #[af (bG t x).1,u]) h'):ag prog bI #[p,af x] h K:=by
 refine(Ds (T.ext M.ext) W (i:=x)).mono λr h' ⟨u,e,S,E⟩=>?_
 subst e;have L:∀(v:LV),(∀p,v=some p→h0.size≤p.1∧IU h (bG t x) F none G p.1 p.2)→∀p,v=some p→h0.size≤p.1∧IU h' (bG t x) F (some u) G p.1 p.2:=λv a p A=>
  ⟨(a p A).1,(a p A).2.up (E.2 _ (a p A).2.row) (by simp) λ_=>id⟩
 refine H u h' ⟨M.ext.trans E,λw I=>?_,λw I=>(M.ly w I).ext E,L _ M.at1,L _ M.at2,M.dis⟩;cases I;refine S.mono λc _ hz=>⟨λp A he=>?_,λp A he=>?_⟩
 ·have:=(M.at1 p A).2.row;omega
 ·have:=(M.at2 p A).2.row;omega
theorem gu.line_y {h0 h:ah}{F:Option Value}{U v2:LV}{G:Int×List Int}{Z:Nat→Prop}{p:Value}{t:Tbl}{x:Int}{K:Value→ah→Prop}(M:gu h0 G (bG t x) F none U v2 h)(T:gi Z h0 p t)(W:t.Wf)
  (H:∀u h',gu h0 G (bG t x) F (some u) U v2 h'→K (.agg #[af (bG t x).1,u]) h'):ag prog bI #[p,af x] h K:=by
 refine(Ds (T.ext M.ext) W (i:=x)).mono λr h' ⟨u,e,S,E⟩=>?_
 subst e;have L:∀(v:LV),(∀p,v=some p→h0.size≤p.1∧IU h G (bG t x) F none p.1 p.2)→∀p,v=some p→h0.size≤p.1∧IU h' G (bG t x) F (some u) p.1 p.2:=λv a p A=>
  ⟨(a p A).1,(a p A).2.up (E.2 _ (a p A).2.row) (λ_=>id) (by simp)⟩
 refine H u h' ⟨M.ext.trans E,λw I=>(M.lx w I).ext E,λw I=>?_,L _ M.at1,L _ M.at2,M.dis⟩;cases I;refine S.mono λc _ hz=>⟨λp A he=>?_,λp A he=>?_⟩
 ·have:=(M.at1 p A).2.row;omega
 ·have:=(M.at2 p A).2.row;omega
theorem gu.new_1 {h0 h:ah}{G I:Int×List Int}{F L:Option Value}{K:Value→ah→Prop}(M:gu h0 G I F L none none h)
  (H:∀b h',gu h0 G I F L (some (b,none)) none h'→K (ptr b) h'):bh XX 189 h K:=by
 refine aJ λb h' r e n=>H b h' ⟨M.ext.trans e,λu hu=>?_,λu hu=>?_,λp A=>?_,by simp,by simp⟩
 ·exact((M.lx u hu).mono (Z':=apart (some (b,none)) none) λc hc _=>⟨λp A=>by cases A;show b≠c;omega,by simp⟩).ext e
 ·exact((M.ly u hu).mono (Z':=apart (some (b,none)) none) λc hc _=>⟨λp A=>by cases A;show b≠c;omega,by simp⟩).ext e
 ·cases A;exact⟨bB M.ext.1 n,r⟩
theorem gu.new_2 {h0 h:ah}{I L:Int×List Int}{G U:Option Value}{a:Nat}{K:Value→ah→Prop}(M:gu h0 I L G U (some (a,none)) none h)
  (H:∀b h',gu h0 I L G U (some (a,none)) (some (b,none)) h'→K (ptr b) h'):bh XX 189 h K:=by
 have a1:=M.at1 _ rfl;have W:a<h.size:=a1.2.row;refine aJ λb h' r e n=>H b h' ⟨M.ext.trans e,λu hu=>?_,λu hu=>?_,λp A=>?_,λp A=>?_,λp q A hq=>?_⟩
 ·exact((M.lx u hu).mono (Z':=apart (some (a,none)) (some (b,none))) λc hc F=>⟨F.1,λp A=>by cases A;show b≠c;omega⟩).ext e
 ·exact((M.ly u hu).mono (Z':=apart (some (a,none)) (some (b,none))) λc hc F=>⟨F.1,λp A=>by cases A;show b≠c;omega⟩).ext e
 ·cases A;exact⟨a1.1,a1.2.up (e.2 _ W) (λ_=>id) λ_=>id⟩
 ·cases A;exact⟨bB M.ext.1 n,r⟩
 ·cases A;cases hq;show a≠b;omega
theorem gu.st {h0 h:ah}{Lx Ly:Int×List Int}{W uy:Option Value}{v1 v2 G F:LV}{b:Nat}{f:Bool}{l:List Value}{K:Value→ah→Prop}(M:gu h0 Lx Ly W uy v1 v2 h)(hr:h[b]? =some (.cells XX 189 (0,0)))(hn:h0.size≤b)
  (hl:l.length=2) (ho:∀v∈l,aV v=true) (hf:∀h',h'[b]? =some (.cells l.toArray 189 (0,0))→IU h' Lx Ly W uy b (some f))
  (h1:(v1=some (b,none)∧G=some (b,some f)∧F=v2∧∀q,v2=some q→q.1≠b)∨(v2=some (b,none)∧F=some (b,some f)∧G=v1∧∀q,v1=some q→q.1≠b))
  (H:∀h',gu h0 Lx Ly W uy G F h'→K undef h'):stK 2 (ptr b) (.agg l.toArray) h K:=by
 refine da hr (by rw[hl];rfl) ho hl λh' r u=>H h' ?_
 have E:=M.ext.upd hn u;have I:∀{v:LV},(∀p,v=some p→h0.size≤p.1∧IU h Lx Ly W uy p.1 p.2)→(∀q,v=some q→q.1≠b)→∀p,v=some p→h0.size≤p.1∧IU h' Lx Ly W uy p.1 p.2:=λa d p A=>⟨(a p A).1,(a p A).2.up (u.2 _ (d p A)) (λ_=>id) λ_=>id⟩
 rcases h1 with⟨rfl,rfl,rfl,d⟩|⟨rfl,rfl,rfl,d⟩
 ·have za:∀c,apart (some (b,none)) F c→¬c=b:=λc hc U=>hc.1 _ rfl U.symm
  have zb:∀c,apart (some (b,none)) F c→apart (some (b,some f)) F c:=λc hc=>⟨λp A=>by cases A;exact hc.1 (b,none) rfl,hc.2⟩
  refine⟨E,λw L=>((M.lx w L).fr u.fr λc _=>za c).mono λc _=>zb c,λw L=>((M.ly w L).fr u.fr λc _=>za c).mono λc _=>zb c,λp A=>?_,I M.at2 d,λp q A hq=>?_⟩
  ·cases A;exact⟨hn,hf h' r⟩
  ·cases A;exact λU=>d q hq U.symm
 ·have za:∀c,apart G (some (b,none)) c→¬c=b:=λc hc U=>hc.2 _ rfl U.symm
  have zb:∀c,apart G (some (b,none)) c→apart G (some (b,some f)) c:=λc hc=>⟨hc.1,λp A=>by cases A;exact hc.2 (b,none) rfl⟩
  refine⟨E,λw L=>((M.lx w L).fr u.fr λc _=>za c).mono λc _=>zb c,λw L=>((M.ly w L).fr u.fr λc _=>za c).mono λc _=>zb c,I M.at1 d,λp A=>?_,λp q A hq=>?_⟩
  ·cases A;exact⟨hn,hf h' r⟩
  ·cases hq;exact d p A
theorem gu.st1x {h0 h:ah}{A G:Int×List Int}{u:Value}{F:Option Value}{I:LV}{b:Nat}{K:Value→ah→Prop}(M:gu h0 A G (some u) F (some (b,none)) I h)
  (H:∀h',gu h0 A G (some u) F (some (b,some true)) I h'→K undef h'):stK 2 (ptr b) (.agg #[af A.1,u]) h K:=
 M.st (f:=true) (l:=[af A.1,u]) (M.at1 _ rfl).2 (M.at1 _ rfl).1 rfl (az rfl (az (M.lx u rfl).one bi)) (λh' r=>⟨u,rfl,r⟩) (.inl ⟨rfl,rfl,rfl,λq hq L=>M.dis _ _ rfl hq L.symm⟩) H
theorem gu.st2x {h0 h:ah}{A G:Int×List Int}{u:Value}{F:Option Value}{I:LV}{b:Nat}{K:Value→ah→Prop}(M:gu h0 A G (some u) F I (some (b,none)) h)
  (H:∀h',gu h0 A G (some u) F I (some (b,some true)) h'→K undef h'):stK 2 (ptr b) (.agg #[af A.1,u]) h K:=
 M.st (f:=true) (l:=[af A.1,u]) (M.at2 _ rfl).2 (M.at2 _ rfl).1 rfl (az rfl (az (M.lx u rfl).one bi)) (λh' r=>⟨u,rfl,r⟩) (.inr ⟨rfl,rfl,rfl,λq hq=>M.dis _ _ hq rfl⟩) H
theorem gu.st1y {h0 h:ah}{G A:Int×List Int}{u:Value}{F:Option Value}{I:LV}{b:Nat}{K:Value→ah→Prop}(M:gu h0 G A F (some u) (some (b,none)) I h)
  (H:∀h',gu h0 G A F (some u) (some (b,some false)) I h'→K undef h'):stK 2 (ptr b) (.agg #[af A.1,u]) h K:=
 M.st (f:=false) (l:=[af A.1,u]) (M.at1 _ rfl).2 (M.at1 _ rfl).1 rfl (az rfl (az (M.ly u rfl).one bi)) (λh' r=>⟨u,rfl,r⟩) (.inl ⟨rfl,rfl,rfl,λq hq L=>M.dis _ _ rfl hq L.symm⟩) H
theorem gu.st2y {h0 h:ah}{G A:Int×List Int}{u:Value}{F:Option Value}{I:LV}{b:Nat}{K:Value→ah→Prop}(M:gu h0 G A F (some u) I (some (b,none)) h)
  (H:∀h',gu h0 G A F (some u) I (some (b,some false)) h'→K undef h'):stK 2 (ptr b) (.agg #[af A.1,u]) h K:=
 M.st (f:=false) (l:=[af A.1,u]) (M.at2 _ rfl).2 (M.at2 _ rfl).1 rfl (az rfl (az (M.ly u rfl).one bi)) (λh' r=>⟨u,rfl,r⟩) (.inr ⟨rfl,rfl,rfl,λq hq=>M.dis _ _ hq rfl⟩) H
def zfw (h0:ah)(Lx Ly:Int×List Int)(xs:List Value)(h:ah):Prop:=∃a b u w,xs=[ptr a,ptr b]∧Ext h0 h∧Two h a 189 (.int .i64 Lx.1) u∧Two h b 189 (.int .i64 Ly.1) w∧SlI (λ_=>True) h u Lx.2∧SlI (λ_=>True) h w Ly.2
theorem gu.fin {h0 h:ah}{A F:Int×List Int}{u w:Value}{a b:Nat}(M:gu h0 A F (some u) (some w) (some (a,some true)) (some (b,some false)) h):zfw h0 A F [ptr a,ptr b] h:=by
 obtain⟨_,I,G,r1⟩:=M.at1 _ rfl;obtain⟨_,w',H,r2⟩:=M.at2 _ rfl;cases G;cases H;exact⟨a,b,u,w,rfl,M.ext,r1,r2,(M.lx u rfl).mono λ_ _ _=>trivial,(M.ly w rfl).mono λ_ _ _=>trivial⟩
theorem gu.fin2 {h0 h:ah}{A F:Int×List Int}{u w:Value}{a b:Nat}(M:gu h0 A F (some u) (some w) (some (b,some false)) (some (a,some true)) h):zfw h0 A F [ptr a,ptr b] h:=by
 obtain⟨_,w',H,r2⟩:=M.at1 _ rfl;obtain⟨_,I,G,r1⟩:=M.at2 _ rfl;cases G;cases H;exact⟨a,b,u,w,rfl,M.ext,r1,r2,(M.lx u rfl).mono λ_ _ _=>trivial,(M.ly w rfl).mono λ_ _ _=>trivial⟩
theorem rY {t:Tbl}(W:t.Wf)(i:Int):(bG t i).2.length≤1048576∧ -70368744177664≤(bG t i).1∧(bG t i).1≤70368744177664:=by
 unfold bG;split
 ·by_cases h:i.toNat<t.lines.length
  ·have e:t.lines.getD i.toNat (0,[])=t.lines[i.toNat]:=by simp[dA,h]
   rw[e];exact W.taps _ (cG h)
  ·have e:t.lines.getD i.toNat (0,[])=(0,[]):=by simp[dA,Jm h]
   rw[e];simp
 ·simp
theorem zcD {m:Pic}(W:m.Wf)(x y c:Int):0≤atP m x y c∧atP m x y c≤m.most:=by
 have:=W.m1;unfold atP;split
 ·rename_i h;by_cases hi:(qE m x y c).toNat<m.l.length
  ·have e:m.l.getD (qE m x y c).toNat 0=m.l[(qE m x y c).toNat]:=by simp[dA,hi]
   rw[e];exact W.smp _ (cG hi)
  ·have e:m.l.getD (qE m x y c).toNat 0=0:=by simp[dA,Jm hi]
   rw[e];omega
 ·omega
theorem c_Sum {h:ah}(G:eW h){Z:Nat→Prop}{b:Nat}{v sv:Value}{m:Pic}{s:Stg}(H:dp h b v m)(W:m.Wf)(HS:qX Z h sv s)(WS:s.Wf)(hs:oS m s){x y c:Int}(hc:0≤c∧c<m.c):
  ag prog A2 #[ptr b,sv,af x,af y,af c] h λr h'=>r=af (IntKind.i64.wrap (MF m s x y c))∧Ext h h':=by
 apply Qz;unfold FD;obtain⟨p,q,rfl,hp,hq,a8⟩:=jQ HS;simp only[bT];refine aJ λb1 h1 r1 e1 n1=>?_
 rw[aW (l:=[p,q,af s.border]) r1 3 rfl,aj];refine(Mz (G.ext e1) (H.ext e1) (HS.ext e1)).mono λr h2 ⟨e,e2⟩=>?_
 subst e;rw[cL hs];have ar:(c<0)=False:=gm ae;simp only[go_sem,ar];have H2:=H.ext (e1.trans e2);refine(eB H2).mono λr h3 ⟨e,I⟩=>?_
 have I:=I.symm;subst e I;simp only[go_sem];rw[cE ae,cA];have r2:=e2.row r1;have p2:=hp.ext (e1.trans e2);have q2:=hq.ext (e1.trans e2);refine bF (zfw h2 (bG s.x x) (bG s.y y)) ?_ ?_
 ·try simp only[go_sem,aO]
  refine aS (Ext h2) (Ext.refl _) ?_;refine aD p (λh' e=>am (e.row r2)) ?_;refine aD q (λh' e=>am (e.row r2)) ?_;have M0:=gu.start h2 (bG s.x x) (bG s.y y);have wx:=WS.x;have wy:=WS.y
  repeat' first
   |exact gu.fin ‹gu _ _ _ _ _ _ _ _›
   |exact gu.fin2 ‹gu _ _ _ _ _ _ _ _›
   |exact gu.ext ‹gu _ _ _ _ _ _ _ _›
   |refine And.intro ?_ ?_
   |refine gu.line_x ‹gu _ _ _ _ _ _ _ _› p2 wx λu' h' M=>?_
   |refine gu.line_y ‹gu _ _ _ _ _ _ _ _› q2 wy λu' h' M=>?_
   |refine gu.new_1 ‹gu _ _ _ _ _ _ _ _› λb' h' M=>?_
   |refine gu.new_2 ‹gu _ _ _ _ _ _ _ _› λb' h' M=>?_
   |refine gu.st1x ‹gu _ _ _ _ _ _ _ _› λh' M=>?_
   |refine gu.st2x ‹gu _ _ _ _ _ _ _ _› λh' M=>?_
   |refine gu.st1y ‹gu _ _ _ _ _ _ _ _› λh' M=>?_
   |refine gu.st2y ‹gu _ _ _ _ _ _ _ _› λh' M=>?_
 rintro xs ρj h3 ⟨a,d,u,w,rfl,e3,ra,rd,Su,Sw⟩;have bx:=rY WS.x x;have a9:=rY WS.y y;unfold MF;unfold vF;generalize bG s.x x=F at*;generalize bG s.y y=U at*;have hf:=dx W.fits;have c1:aH h3 ⟨d,1,none⟩=some w:=am rd;obtain⟨aw,cw,ew⟩:=Sw.isSl;have a7:aC w=some (af (U.2.length:Int)):=by rw[ew];rfl
 obtain⟨au,cu,eu⟩:=Su.isSl;have ay:aC u=some (af (F.2.length:Int)):=by rw[eu];rfl
 simp only[go_sem,aO,c1,a7];refine me (λk=>[af (IntKind.i64.wrap (z7 (λk=>U.2.getD k 0*z7 (λi=>F.2.getD i 0*atP m (atZ s.border (F.1+i) m.w) (atZ s.border (U.1+k) m.h) c) F.2.length) k)),af (k:Int)]) U.2.length 0 rfl (b9 _) λk again ρk _ hk aa=>?_
 simp only[go_sem];refine ao (λh4=>?_) (λh4=>?_)
 ·have ab:k<U.2.length:=ae;have aa:=aa ab;obtain⟨pk,k1,k2⟩:=Sw.int_at (k':=.i64) ab;have eb:U.2.getD k 0=U.2[k]:=by simp[dA,ab]
  rw[k1,aj,k2,aj,←eb];have rs:=e3.row r2;refine aS (λh'=>h'=h3) rfl ?_;simp only[go_sem,aO];refine aD (af s.border) (λh' e=>by rw[e];exact am rs) ?_;refine aD (af U.1) (λh' e=>by rw[e];exact am rd) ?_;simp only[go_sem];rw[w64 (n:=U.1+(k:Int)) ae ae];have H3:=H2.ext e3;refine(pV H3).mono λr h5 ⟨e,I⟩=>?_
  have I:=I.symm;subst e I;refine⟨rfl,?_⟩;refine(w6 (by unfold I64;omega)).mono λr h5 ⟨e,I⟩=>?_
  have I:=I.symm;subst e I;have c2:aH h3 ⟨a,1,none⟩=some u:=am ra;simp only[go_sem,aO,c2,ay];generalize al:atZ s.border (U.1+(k:Int)) m.h=row at*;generalize hA:z7 (λk=>U.2.getD k 0*z7 (λi=>F.2.getD i 0*atP m (atZ s.border (F.1+i) m.w) (atZ s.border (U.1+k) m.h) c) F.2.length) k=A at*;have ax:z7 (λk=>U.2.getD k 0*z7 (λi=>F.2.getD i 0*atP m (atZ s.border (F.1+i) m.w) (atZ s.border (U.1+k) m.h) c) F.2.length) (k+1)=A+U.2.getD k 0*z7 (λi=>F.2.getD i 0*atP m (atZ s.border (F.1+i) m.w) row c) F.2.length:=by
   simp only[z7];rw[hA,al]
  rw[ax]at aa;generalize U.2.getD k 0=bk at*;refine me (λi=>[af (IntKind.i64.wrap (A+bk*z7 (λi=>F.2.getD i 0*atP m (atZ s.border (F.1+i) m.w) row c) i)),af (i:Int)]) F.2.length 0 (by simp[z7]) (b9 _) λi an ρi _ hi L=>?_
  simp only[go_sem];refine ao (λh5=>?_) (λh5=>?_)
  ·have ad:i<F.2.length:=ae;have L:=L ad;obtain⟨pi,i1,i2⟩:=Su.int_at (k':=.i64) ad;have ea:F.2.getD i 0=F.2[i]:=by simp[dA,ad]
   rw[i1,aj,i2,aj,←ea];refine aS (λh'=>h'=h3) rfl ?_;simp only[go_sem,aO];refine aD (af s.border) (λh' e=>by rw[e];exact am rs) ?_;refine aD (af F.1) (λh' e=>by rw[e];exact am ra) ?_;simp only[go_sem];rw[w64 (n:=F.1+(i:Int)) ae ae];refine(sA H3).mono λr h5 ⟨e,I⟩=>?_
   have I:=I.symm;subst e I;refine⟨rfl,?_⟩;refine(w6 (by unfold I64;omega)).mono λr h5 ⟨e,I⟩=>?_
   have I:=I.symm;subst e I
   try simp only[go_sem]
   refine(zd6 H3 W).mono λr h5 ⟨e,I⟩=>?_
   have I:=I.symm;subst e I;have hv:=zcD W (atZ s.border (F.1+(i:Int)) m.w) row c;have hm:=W.m2;simp only[go_sem];rw[w64 (n:=atP m (atZ s.border (F.1+(i:Int)) m.w) row c) ae ae,Wp,w64 (n:=(i:Int)+1) ae ae];simp only[z7,Jb]at L;rw[←Int.add_assoc]at L;exact L
  ·have:i=F.2.length:=ae;subst this;rw[w64 (n:=(k:Int)+1) ae ae];exact aa
 ·have:k=U.2.length:=ae;subst this;exact⟨rfl,e1.trans (e2.trans e3)⟩
theorem FU {A B C c d:Int}(h:A*C+c=B*C+d)(G:0≤c)(H:c<C)(d0:0≤d)(d1:d<C):A=B∧c=d:=by
 have F:(c+A*C)/C=A:=by rw[Ti _ _ ae,rZ G H];omega
 have L:(d+B*C)/C=B:=by rw[Ti _ _ ae,rZ d0 d1];omega
 have I:c+A*C=d+B*C:=ae;rw[I,L]at F;refine⟨F.symm,?_⟩;subst F;omega
theorem zc5 {m:Pic}{x y c I G c':Int}(h:inP m x y c)(h':inP m I G c')(e:qE m x y c=qE m I G c'):x=I∧y=G∧c=c':=by
 obtain⟨x0,x1,y0,y1,c0,c1⟩:=h;obtain⟨H,L,aa,U,A,F⟩:=h';unfold qE at e;obtain⟨e1,e2⟩:=FU e c0 c1 A F;obtain⟨e3,W⟩:=FU e1 x0 x1 H L;exact⟨W,e3,e2⟩
theorem Wb {m:Pic}(W:m.Wf){x y c n F A c':Int}(h:inP m x y c):atP (UD m x y c n) F A c'=if F=x∧A=y∧c'=c then n else atP m F A c':=by
 have U:=Nf W h;by_cases hi:inP m F A c'
 ·have L:=Nf W hi;have G:inP (UD m x y c n) F A c':=hi;unfold atP;rw[aA G,aA hi];show(m.l.set (qE m x y c).toNat n).getD (qE m F A c').toNat 0=_;by_cases H:F=x∧A=y∧c'=c
  ·rw[aA H];obtain⟨rfl,rfl,rfl⟩:=H;have:(qE m F A c').toNat<m.l.length:=ae;simp[dA,this]
  ·rw[aq H];have I:(qE m x y c).toNat≠(qE m F A c').toNat:=λhh=>H (by
    obtain⟨a,b,d⟩:=zc5 hi h ae;exact⟨a,b,d⟩)
   simp[dA,List.getElem?_set_ne I]
 ·have G:¬inP (UD m x y c n) F A c':=hi;have H:¬(F=x∧A=y∧c'=c):=by rintro⟨rfl,rfl,rfl⟩;exact hi h
  unfold atP;rw[aq G,aq hi,aq H]
def ahead (x y c x' y' c':Int):Prop:=y'<y∨(y'=y∧(x'<x∨(x'=x∧c'<c)))
structure Wj (h0 h:ah)(b:Nat)(v:Value)(n:Pic)(w hh c most:Int):Prop where
 img:dp h b v n
 wf:n.Wf
 pw:n.w=w
 ph:n.h=hh
 pc:n.c=c
 pm:n.most=most
 ext:Ext h0 h
 nb:h0.size≤b
 nv:∀c,blk v c→h0.size≤c
theorem Wj.before {h1 h0 h:ah}{b:Nat}{v:Value}{n:Pic}{w hh c most:Int}(M:Wj h0 h b v n w hh c most)(e:Ext h1 h0):Wj h1 h b v n w hh c most:=
 ⟨M.img,M.wf,M.pw,M.ph,M.pc,M.pm,e.trans M.ext,bB e.1 M.nb,λc hc=>bB e.1 (M.nv c hc)⟩
theorem zd7 {h:ah}(G:eW h){Z:Nat→Prop}{b:Nat}{v sv:Value}{m:Pic}{s:Stg}(H:dp h b v m)(W:m.Wf)(HS:qX Z h sv s)(WS:s.Wf)(hs:oS m s)(aa:jZ s.x.lines.length s.y.lines.length m.c):
  ag prog xh #[ptr b,sv] h λr h'=>∃b' v' n,r=.tuple #[ptr b',ai]∧Wj h h' b' v' n s.x.lines.length s.y.lines.length m.c m.most∧∀x y c,inP n x y c→atP n x y c=yx m s x y c:=by
 apply LW;unfold Br;obtain⟨p,q,rfl,hp,hq,be⟩:=jQ HS;simp only[bT];refine aJ λb1 h1 r1 e1 n1=>?_
 rw[aW (l:=[p,q,af s.border]) r1 3 rfl,aj];refine(Mz (G.ext e1) (H.ext e1) (HS.ext e1)).mono λr h2 ⟨e,e2⟩=>?_
 subst e;rw[cL hs];simp only[go_sem,aO];have U:=e1.trans e2;have r2:=e2.row r1;refine aS (Ext h2) (Ext.refl _) ?_;refine aD p (λh' e=>am (e.row r2)) ?_;refine aD q (λh' e=>am (e.row r2)) ?_;refine(EN (hp.ext U)).mono λr h3 ⟨e,A⟩=>?_
 have A:=A.symm;subst e A;refine⟨Ext.refl _,?_⟩;refine(EN (hq.ext U)).mono λr h3 ⟨e,A⟩=>?_
 have A:=A.symm;subst e A;refine(eB (H.ext U)).mono λr h3 ⟨e,A⟩=>?_
 have A:=A.symm;subst e A;refine(vP (H.ext U)).mono λr h3 ⟨e,A⟩=>?_
 have A:=A.symm;subst e A;have ad:C9 s.x.lines.length s.y.lines.length m.c m.most=0:=zK.2 ⟨aa,W.m1,W.m2⟩;refine zL.mono λr h3 ⟨pp,e,e3,_,s3⟩=>?_
 subst e;obtain⟨nb,nv,rfl,I,a8,a9,_⟩:=s3 ad;have hz:((0:Int)=0)=True:=jW rfl;rw[ad];simp only[go_sem,hz];refine(pV I).mono λr h4 ⟨e,A⟩=>?_
 have A:=A.symm;subst e A;have bo:=W.m1;have bk:=W.m2;have M0:Wj h2 h3 nb nv (vD s.x.lines.length s.y.lines.length m.c m.most) s.x.lines.length s.y.lines.length m.c m.most:=⟨I,Ek ad,rfl,rfl,rfl,rfl,e3,a8,a9⟩
 obtain⟨X,hX⟩:∃X,X=s.x.lines.length:=⟨_,rfl⟩
 obtain⟨Y,hY⟩:∃Y,Y=s.y.lines.length:=⟨_,rfl⟩
 rw[←hX,←hY]at M0 aa ⊢;have hf:=dx aa;obtain⟨C,hC⟩:∃C:Nat,m.c=(C:Int):=⟨m.c.toNat,ae⟩
 rw[show(vD (X:Int) (Y:Int) m.c m.most).h=(Y:Int)from rfl]
 -- what holds at a place of the walk
 refine bK (α:=Pic) Y 0 (λy _=>[af (y:Int)]) (λy n h'=>Wj h2 h' nb nv n X Y m.c m.most∧∀L F c',inP n L F c'→ahead 0 y 0 L F c'→atP n L F c'=yx m s L F c') _ rfl (b9 _)
  ⟨M0,λL F c' hi ha=>by unfold ahead inP at*;omega⟩ λy n h4 again ρ1 _ hy ⟨M,D⟩ bc=>?_
 simp only[go_sem];refine ao (λh5=>?_) (λh5=>?_)
 ·refine(sA M.img).mono λr h5 ⟨e,A⟩=>?_
  have A:=A.symm;subst e A;rw[M.pw];refine bK (α:=Pic) X 0 (λx _=>[af (x:Int)]) (λx n h'=>Wj h2 h' nb nv n X Y m.c m.most∧∀L F c',inP n L F c'→ahead x y 0 L F c'→atP n L F c'=yx m s L F c') n rfl (b9 _)
   ⟨M,D⟩ λx n h5 a7 ρ2 _ hx ⟨M,D⟩ al=>?_
  simp only[go_sem];refine ao (λh6=>?_) (λh6=>?_)
  ·refine(eB M.img).mono λr h6 ⟨e,A⟩=>?_
   have A:=A.symm;subst e A;rw[M.pc,hC];refine bK (α:=Pic) C 0 (λc _=>[af (c:Int)]) (λc n h'=>Wj h2 h' nb nv n X Y m.c m.most∧∀L F c',inP n L F c'→ahead x y c L F c'→atP n L F c'=yx m s L F c') n rfl (b9 _)
    ⟨M,D⟩ λc n h6 ay ρ3 _ hc ⟨M,D⟩ an=>?_
   simp only[go_sem];refine ao (λh7=>?_) (λh7=>?_)
   ·rw[aW (l:=[p,q,af s.border]) (M.ext.row r2) 3 rfl,aj];have E0:=U.trans M.ext;refine(c_Sum (G.ext E0) (H.ext E0) W (HS.ext E0) WS hs (x:=x) (y:=y) (c:=c) ae).mono λr h8 ⟨e,e8⟩=>?_
    subst e;have E8:=E0.trans e8;refine(vP (H.ext E8)).mono λr h9 ⟨e,A⟩=>?_
    have A:=A.symm;subst e A;refine(Zb (kF _)).mono λr h9 ⟨e,A⟩=>?_
    have A:=A.symm;subst e A;have hr:=QW (IntKind.i64.wrap (MF m s x y c)) (most:=m.most) ae;have Mi:=M.img.ext e8;refine(Za Mi M.wf hr.1 hr.2.1).mono λr au ⟨e,ax,f10,bg⟩=>?_
    subst e;have ar:inP n x y c:=⟨ae,by rw[M.pw];omega,ae,by rw[M.ph];omega,ae,by rw[M.pc];omega⟩
    have ab:inP n x y c∧Ac (IntKind.i64.wrap (MF m s x y c)) m.most≤n.most:=⟨ar,by rw[M.pm];omega⟩
    rw[aA ab]at ax;have bd:Ext h2 au:=(M.ext.trans e8).then_fr f10 M.nv
    try simp only[go_sem]
    rw[w64 ae ae];refine an (UD n x y c (Ac (IntKind.i64.wrap (MF m s x y c)) m.most)) au ae ⟨⟨ax,X9 M.wf hr.1 ab.2,M.pw,M.ph,M.pc,M.pm,bd,M.nb,M.nv⟩,λL F c' hi ha=>?_⟩;rw[Wb M.wf ar];by_cases he:L=x∧F=y∧c'=c
    ·rw[aA he,he.1,he.2.1,he.2.2];rfl
    ·rw[aq he];exact D L F c' hi (by unfold ahead at*;omega)
   ·have:c=C:=ae;subst this;rw[w64 ae ae];refine al n h6 ae ⟨M,λL F c' hi ha=>D L F c' hi ?_⟩;have h1:=M.pc;unfold ahead inP at*;omega
  ·have:x=X:=ae;subst this;rw[w64 ae ae];refine bc n h5 ae ⟨M,λL F c' hi ha=>D L F c' hi ?_⟩;have h1:=M.pw;unfold ahead inP at*;omega
 ·have:y=Y:=ae;subst this;refine⟨nb,nv,n,rfl,M.before U,λL F c' hi=>D L F c' hi ?_⟩;have h1:=M.ph;unfold ahead inP at*;omega
theorem Na (f n:Int){m:Int}(A:bE m):(gn f n m).Wf:=by
 unfold bE at A;refine⟨?_,λx G=>?_⟩
 ·show(List.map _ (List.range m.toNat)).length≤65536;rw[cS,ft];omega
 ·obtain⟨i,_,rfl⟩:=fO.1 G;have F:=rJ (wF f n m i);refine⟨F.1,?_⟩;show _≤fW f n m i∧fW f n m i≤_;unfold fW;split
  ·rename_i h;have:=Om h;omega
  ·omega
theorem ON {l:List Int}(A:∀x∈l,I64 x)(I:l.length≤1024){n:Int}(F:bE n):(lz l n).Wf:=by
 unfold bE at F;refine⟨?_,λx H=>?_⟩
 ·show(List.map _ (List.range n.toNat)).length≤65536;rw[cS,ft];omega
 ·obtain⟨i,hi,rfl⟩:=fO.1 H;have G:=rJ A;have:=mE.1 hi;refine⟨G.1,?_⟩;show _≤(i:Int)-(l.length/2:Nat)∧(i:Int)-(l.length/2:Nat)≤_;omega
theorem BK (o:OpD):(eM o).length≤1024∧(dm o).length≤1024:=by
 have:=GJ o.sigma;have:=KL o.radius;have:=y4 o.x;have:=y4 o.y;unfold eM dm;constructor<;>split<;>(try split)<;>omega
theorem zE {o:OpD}{w h:Int}(hc:fF o w h=0):(cz o w h).Wf∧lh o∧bE w∧bE h:=by
 unfold fF at hc;split at hc
 ·cases hc
 ·rename_i A;have h1:lh o:=cq λhh=>A (.inl hh)
  have G:bE w:=cq λhh=>A (.inr (.inl hh))
  have H:bE h:=cq λhh=>A (.inr (.inr hh))
  refine⟨⟨?_,?_⟩,h1,G,H⟩
  ·show(kQ o w).Wf;unfold kQ;split
   ·rename_i F;exact Na _ _ (h1.2.2 F).1
   ·exact ON (zX o) (BK o).1 G
  ·show(fU o h).Wf;unfold fU;split
   ·rename_i F;exact Na _ _ (h1.2.2 F).2.1
   ·exact ON (zW o) (BK o).2 H
theorem Kv {o:OpD}{w h:Int}(hc:fF o w h=0):((cz o w h).x.lines.length:Int)=qL o w∧((cz o w h).y.lines.length:Int)=uH o h:=by
 obtain⟨_,F,G,hh⟩:=zE hc;unfold bE at G hh;constructor
 ·show((kQ o w).lines.length:Int)=_;unfold kQ qL;split
  ·rename_i A;have:=(F.2.2 A).1;unfold bE at this;show((List.map _ (List.range o.w.toNat)).length:Int)=_;rw[cS,ft];omega
  ·show((List.map _ (List.range w.toNat)).length:Int)=_;rw[cS,ft];omega
 ·show((fU o h).lines.length:Int)=_;unfold fU uH;split
  ·rename_i A;have:=(F.2.2 A).2.1;unfold bE at this;show((List.map _ (List.range o.hh.toNat)).length:Int)=_;rw[cS,ft];omega
  ·show((List.map _ (List.range h.toNat)).length:Int)=_;rw[cS,ft];omega
theorem zdf (o:OpD)(w h:Int):(cz o w h).x.n=w∧(cz o w h).y.n=h:=by
 constructor
 ·show(kQ o w).n=w;unfold kQ;split<;>rfl
 ·show(fU o h).n=h;unfold fU;split<;>rfl
theorem Le {o:OpD}{m:Pic}(hc:fF o m.w m.h=0):oS m (cz o m.w m.h):=by
 obtain⟨_,A,_,_⟩:=zE hc;obtain⟨h1,F⟩:=zdf o m.w m.h;exact⟨h1,F,A.2.1.1,A.2.1.2⟩
def Q0:Pic:=⟨1,1,1,255,[7]⟩
def WT:OpD:=⟨1,0,0,2,[],[],0,0,0⟩
theorem XI {h:ah}(G:eW h):ag prog yR #[] h λr h'=>r=.bool true∧Ext h h':=by
 apply NK;unfold Ci;refine di (c':=#[.int .u16 7]) rfl λb1 h1 r1 e1 n1=>?_
 have S1:=DS (k:=.u16) (l:=[7]) (n:=1) rfl r1;have a0:C9 1 1 1 255=0:=by decide+kernel
 refine(T7 S1 a0 (by decide) (by simp)).mono λr h2 ⟨p,e,N⟩=>?_
 subst e;obtain⟨b,v,rfl,I,nb,nv,e2⟩:=N;have I:dp h2 b v Q0:=I;have W:Q0.Wf:=⟨by decide+kernel,by decide,by decide,by decide,by simp[Q0]⟩
 have hf:(aQ #[ai,ai,ai,ai,(.slice none 0 0),(.slice none 0 0),ai,ai,ai] [(0,1,aG),(3,1,(af 2))])=some #[aG,ai,ai,af 2,.slice none 0 0,.slice none 0 0,ai,ai,ai]:=rfl;simp only[go_sem];rw[hf,bJ,aj];have wf:WT.Wf:=CL (by simp[I64]);have G2:=G.ext (e1.trans e2);refine(KJ (Z:=λ_=>True) (o:=WT) G2 CM wf (by simp[WT]) (by simp[WT]) (by unfold I64;omega) (by unfold I64;omega)).mono λw h3 ⟨sv,e,e3,_,s1⟩=>?_
 subst e;have a1:fF WT 1 1=0:=by decide+kernel
 have HS:=s1 a1;rw[a1];obtain⟨p,q,rfl,hp,hq,A⟩:=jQ HS;simp only[go_sem];refine dh (cs:=[p,q,af _]) rfl A rfl λb4 h4 r4 L n4=>?_
 refine zav.mono λr h5 ⟨e,F⟩=>?_
 subst e;simp only[go_sem];have E5:=(e1.trans e2).trans (e3.trans (L.trans F));refine(Pj (G.ext E5)).mono λr h6 ⟨e,H⟩=>?_
 subst e;have z0:((0:Int)=0)=True:=jW rfl;have np:ak .p .eql (ptr b) (.pointer none)=some (.bool false):=rfl;have ad:∀b,ak .p .neq (ptr b) (.pointer none)=some (.bool true):=λ_=>rfl
 simp only[go_sem,z0,np,gM];have E6:=E5.trans H;have ab:=e3.trans (L.trans (F.trans H));rw[aW (l:=[p,q,af _]) ((F.trans H).row r4) 3 rfl,aj];have hs:oS Q0 (cz WT 1 1):=Le (m:=Q0) a1;refine(zd7 (G.ext E6) (I.ext ab) W (HS.ext (L.trans (F.trans H))) (zE a1).1 hs (by decide+kernel)).mono λr h7 ⟨b',v',n,e,M,U⟩=>?_
 subst e;simp only[go_sem,z0,ad,gM];refine(zd6 M.img M.wf).mono λr h8 ⟨e,wq⟩=>?_
 have wq:=wq.symm;subst e wq;have aa:inP n 0 0 0:=⟨ae,by rw[M.pw];decide+kernel,ae,by rw[M.ph];decide+kernel,ae,by rw[M.pc];decide⟩
 rw[U 0 0 0 aa];have hv:yx Q0 (cz WT 1 1) 0 0 0=7:=by decide+kernel
 rw[hv];simp only[go_sem,lM,gM];exact⟨by simp,E6.trans M.ext⟩
structure uv where
 w:Int
 h:Int
 c:Int
 most:Int
 l:List Int
structure uv.Wf (a:uv):Prop where
 w:U16 a.w
 h:U16 a.h
 c:U16 a.c
 most:U16 a.most
 l:∀x∈a.l,U16 x
 len:a.l.length≤4611686018427387904
def pg:Rp uv where
 w:=5
 R:=λZ h cs a=>∃u,cs=[.int .u16 a.w,.int .u16 a.h,.int .u16 a.c,.int .u16 a.most,u]∧Rp.Sl rU Z h u a.l
 len:=by rintro _ _ _ _ ⟨x,rfl,_⟩;rfl
 one:=by
  rintro _ _ _ _ ⟨x,rfl,H⟩;exact az rfl (az rfl (az rfl (az rfl (az H.one bi))))
 fr:=by rintro _ _ _ _ _ _ ⟨x,rfl,H⟩ f q;exact⟨x,rfl,H.fr f q⟩
 mono:=by rintro _ _ _ _ _ ⟨x,rfl,H⟩ q;exact⟨x,rfl,H.mono q⟩
def eS (a:uv):Pic:=Dh (a.w%12) (a.h%12) a.c a.most a.l
theorem wY (a:uv):(eS a).Wf:=VF _ _ _ _ _
theorem Di (a:uv):1≤(eS a).w∧(eS a).w≤12∧1≤(eS a).h∧(eS a).h≤12:=by
 show 1≤1+a.w%12%20∧1+a.w%12%20≤12∧1≤1+a.h%12%20∧1+a.h%12%20≤12;omega
theorem uw.before {h0 h h':ah}{p:Value}{m:Pic}(N:uw h h' p m)(e:Ext h0 h):uw h0 h' p m:=by
 obtain⟨b,v,A,I,nb,nv,E⟩:=N;exact⟨b,v,A,I,bB e.1 nb,λc hc=>bB e.1 (nv c hc),e.trans E⟩
theorem KH {Z:Nat→Prop}{h:ah}{cs:List Value}{a:uv}(H:pg.R Z h cs a)(W:a.Wf):ag prog fI #[.agg cs.toArray] h λr h'=>uw h h' r (eS a):=by
 apply BI;unfold qT;obtain⟨u,rfl,I⟩:=H;simp only[bT];refine aJ λA h1 r1 F n1=>?_
 have q0:aH h1 ⟨A,0,none⟩=some (.int .u16 a.w):=am r1;have U:aH h1 ⟨A,1,none⟩=some (.int .u16 a.h):=am r1;have G:aH h1 ⟨A,2,none⟩=some (.int .u16 a.c):=am r1;have q3:aH h1 ⟨A,3,none⟩=some (.int .u16 a.most):=am r1;have L:aH h1 ⟨A,4,none⟩=some u:=am r1;have w0:=W.w;have w1:=W.h;simp only[go_sem,aO,q0];rw[em _ _ _ _ ae,aj];simp only[go_sem,aO,U];rw[em _ _ _ _ ae,aj];simp only[go_sem,aO,G,q3,L];rw[kz w0.1,kz w1.1];exact(zck (I.ext F) (by unfold U16;omega) (by unfold U16;omega) W.c W.most W.l W.len).mono λr h' N=>N.before F
theorem ka.since {α:Type}{e:Rp α}{h0 h h':ah}{v:Value}{l:List α}(H:ka e h h' v l)(k:Ext h0 h):Rp.Sl e (gq h0 h') h' v l:=H.sl.mono λc hc A=>⟨bB k.1 A.1,hc⟩
theorem VW {Z:Nat→Prop}{h:ah}(G:eW h){v:Value}{l:List OpD}{b:Nat}{iv:Value}{m:Pic}(H:Rp.Sl rOp Z h v l)(few:l.length≤4)(WO:FR l)(I:dp h b iv m)(W:m.Wf):
  ag prog iS #[v,ptr b] h λr h'=>Ext h h'∧∃sv rv ok,r=.tuple #[sv,rv,.bool ok]∧aV sv=true∧(ok=true↔oF 12 l∧BA l m.w m.h m.c=0)∧
   (ok=true→Rp.Sl FI (gq h h') h' sv (yH l m.w m.h)∧Rp.Sl yw (gq h h') h' rv (yH l m.w m.h)):=by
 apply LQ;unfold Bn;obtain⟨a,cap,e⟩:=H.isSl;have e2:aC v=some (af (l.length:Int)):=by rw[e];rfl
 have np:ak .p .eql (ptr b) (.pointer none)=some (.bool false):=rfl;simp only[go_sem,e2,np];have h4:((4:Int)<(l.length:Int))=False:=gm ae;simp only[go_sem,h4];refine(zcv (side:=12) H ae).mono λr h1 ⟨e,L⟩=>?_
 subst e;simp only[go_sem];refine ao (λU=>?_) (λU=>?_)
 ·exact⟨L,_,_,false,rfl,rfl,⟨λh=>(by cases h),λh=>absurd h.1 U⟩,λh=>(by cases h)⟩
 have U:oF 12 l:=cq U;have hf:=dx W.fits;have hW:I64 m.w:=by unfold I64;omega
 have hH:I64 m.h:=by unfold I64;omega
 have F:∀(h2:ah) (E:Ext h h2) (K:Value→Value→Value→ah→Prop),K (af m.w) (af m.h) (af m.c) h2→
   ag prog bL #[ptr b] h2 λay ax=>ag prog bN #[ptr b] ax λan ab=>ag prog aU #[ptr b] ab λaa au=>K ay an aa au:=by
  intro h2 E K HK;refine(sA (I.ext E)).mono λr h3 ⟨e,A⟩=>?_
  have A:=A.symm;subst e A;refine(pV (I.ext E)).mono λr h3 ⟨e,A⟩=>?_
  have A:=A.symm;subst e A;refine(eB (I.ext E)).mono λr h3 ⟨e,A⟩=>?_
  have A:=A.symm;subst e A;exact HK
 refine F h1 L _ ?_;refine(zdN (G.ext L) (H.ext L) WO hW hH (c:=m.c)).mono λr h2 ⟨sv,e,ad,s0,s1⟩=>?_
 subst e;simp only[go_sem];have E2:=L.trans ad;refine(zff (H.ext E2) ae).mono λlv h3 ⟨HR,e3⟩=>?_
 have E3:=E2.trans e3;refine F h3 E3 _ ?_;refine(zch HR WO hW hH (c:=m.c)).mono λr h5 ⟨rv,e,e5,t0,t1⟩=>?_
 subst e;simp only[go_sem];have E5:=E3.trans e5;by_cases hc:BA l m.w m.h m.c=0
 ·have S:=(s1 hc).ext (e3.trans e5);have T:=t1 hc;obtain⟨a7,a8,es⟩:=S.isSl;obtain⟨at_,ct,et⟩:=T.isSl;have ar:aC sv=some (af ((yH l m.w m.h).length:Int)):=by rw[es];rfl
  have al:aC rv=some (af ((yH l m.w m.h).length:Int)):=by rw[et];rfl
  simp only[go_sem,hc,ar,al];refine⟨E5,sv,rv,true,by simp,by rw[es];rfl,⟨λ_=>⟨U,trivial⟩,λ_=>rfl⟩,λ_=>⟨?_,?_⟩⟩
  ·exact S.since L
  ·exact T.since E3
 ·simp only[go_sem,hc];exact⟨E5,sv,rv,false,by simp,by rw[s0 hc];rfl,⟨λh=>(by cases h),λh=>h.2.elim⟩,λh=>(by cases h)⟩
end Go.Proofs.YtjljhnandbbldaaGreatDoor
namespace Go.Proofs.YtjljhnandbbldaaGreatDoor
open Go Go.Crisp
open _root_.Go.Proofs.Tryz
structure XW (L:List (String×DataW Unit)):Prop where
 plain:(L.all λx=>x.2.handleName?.isNone)=true
 names:("smalto/border.names",Rows.laid_smalto_border_names)∈L
 kinds:("smalto/raw.kinds",Rows.laid_smalto_raw_kinds)∈L
theorem XW.glob {L:List (String×DataW Unit)}(l:XW L){h:ah}(H:Dx prog L h):eW h:=zbF H l.plain l.names l.kinds
theorem MC {n:Int}(h:(Lit.int .u16 n).wf=true):0≤n∧n≤65535:=by
 have h:(decide (IntKind.u16.min≤n)&&decide (n≤IntKind.u16.max))=true:=h;rw[dj,dd,dd]at h;exact h
abbrev Wu:TS:=.int .u16
abbrev Zy:TS:=.pair Wu (.pair Wu (.pair Wu (.pair Wu (.pair (.sl Wu 2) .unit))))
def Yh (x:Zy.T):uv:=⟨x.1,x.2.1,x.2.2.1,x.2.2.2.1,x.2.2.2.2.1⟩
theorem Wv {h:ah}{v:Value}{l:List Int}(H:SlC 1 h v l.length (l.map (Value.int .u16))):Rp.Sl rU (λ_=>True) h v l:=
 ⟨_,H,λ_ _ _=>trivial,λi hi=>by
  show Rp.el 1 _ i=[.int .u16 l[i]];rw[Rp.el_one (by simpa using hi),dX]⟩
theorem zcQ {h:ah}{cs:List Value}{l:List Int}(H:Rd (.sl Wu 2) h cs l):∃v,cs=[v]∧Rp.Sl rU (λ_=>True) h v l∧(∀n∈l,U16 n)∧l.length*2≤140737488351232:=by
 obtain⟨v,rfl,h1,F,G⟩:=Wx (e:=Wu) (Value.int .u16) U16 rfl (λds x A=>⟨A.1,MC A.2⟩) H;exact⟨v,rfl,Wv h1,F,G⟩
theorem zeE {h:ah}{cs:List Value}{x:Zy.T}(H:Rd Zy h cs x):pg.R (λ_=>True) h cs (Yh x)∧(Yh x).Wf:=by
 obtain⟨_,_,rfl,⟨rfl,a1⟩,_,_,rfl,⟨rfl,a2⟩,_,_,rfl,⟨rfl,a3⟩,_,_,rfl,⟨rfl,a4⟩,_,_,rfl,a5,rfl⟩:=H;obtain⟨s,rfl,G,F,A⟩:=zcQ a5;have A:(Yh x).l.length*2≤140737488351232:=A;exact⟨⟨s,rfl,G⟩,⟨MC a1,MC a2,MC a3,MC a4,F,ae⟩⟩
theorem zc8 {h:ah}{cs:List Value}{x:tOp.T}(H:Rd tOp h cs x):FR [UY x]:=by
 have h1:=(zej H).2;have F:=zeG H;refine⟨λo A=>?_,λo A=>?_,by simp⟩<;>(rw[dc.1 A])
 ·exact h1
 ·exact F
end Go.Proofs.YtjljhnandbbldaaGreatDoor
namespace Go.Proofs.YtjljhnandbbldaaGreatDoor
open Go Go.Crisp
attribute [local irreducible] ag du bh stK aE vK qK bO gK fR bA mkK dy GQ IQ DT bsK clK
open _root_.Go.Proofs.Tryz
theorem JG (o:Nat):∀(l:List Value) (c:Array Value) (k:Nat),(l.zipIdx k).foldl (λcs (p:Value×Nat)=>cs.setIfInBounds (o+p.2) p.1) c=wrL c (o+k) l
 | [],_,_=>rfl
 |v::l,c,k=>by
  simp only[List.zipIdx_cons,xY,wrL];exact JG o l _ (k+1)
theorem bX {c:Array Value}{o n:Nat}{v:Value}{l:List Value}{rest:List (Nat×Nat×Value)}(F:v.cells=l.toArray)(A:l.length=n)(G:o+n≤c.size):aQ c ((o,n,v)::rest)=aQ (wrL c o l) rest:=by
 simp only[aQ,F];rw[aq (by simp[A];omega)]
 congr 1
 rw[YF,YE]
 ·exact JG o l c 0
 ·simp
structure dn where
 s:Stg
 w:Int
 h:Int
def fP (n:Int):Prop:=1≤n∧n≤4096
instance (n:Int):Decidable (fP n):=by unfold fP;infer_instance
structure dn.Wf (d:dn):Prop where
 s:d.s.Wf
 w:fP d.w
 h:fP d.h
def dn.X (d:dn):Int:=d.s.x.lines.length
def dn.Y (d:dn):Int:=d.s.y.lines.length
structure uz (Z:Nat→Prop)(h:ah)(b:Nat)(d:dn)(p q:Value):Prop where
 row:h[b]? =some (.cells #[p,q,.int .i64 d.s.border,.int .i64 d.w,.int .i64 d.h] 184 (0,0))
 x:gi Z h p d.s.x
 y:gi Z h q d.s.y
theorem uz.ext {Z:Nat→Prop}{h h':ah}{b:Nat}{d:dn}{p q:Value}(H:uz Z h b d p q)(e:Ext h h'):uz Z h' b d p q:=⟨e.row H.row,H.x.ext e,H.y.ext e⟩
def dS (n size:Int):Int:=(n+size-1)/size
def dB (d:dn):Int:=dS d.X d.w
def bU (d:dn):Int:=dB d*dS d.Y d.h
def jM (d:dn)(i:Int):Int:=i%dB d*d.w
def jT (d:dn)(i:Int):Int:=i/dB d*d.h
def tz (d:dn)(i:Int):Int:=min d.w (d.X-jM d i)
def uZ (d:dn)(i:Int):Int:=min d.h (d.Y-jT d i)
theorem pB {n size:Int}(F:0≤n∧n≤65536)(A:fP size):0≤dS n size∧dS n size≤65536∧(1≤n→1≤dS n size):=by
 unfold fP at A;unfold dS;refine⟨vj ae ae,?_,λh=>?_⟩
 ·have:=tP (a:=n+size-1) (b:=size) (L:=0) (U:=70000) ae ae ae ae ae;apply Jf;rw[uk ae];omega
 ·rw[wN ae];omega
theorem dn.bd {d:dn}(W:d.Wf):(0≤d.X∧d.X≤65536)∧(0≤d.Y∧d.Y≤65536):=by
 have h1:=W.s.x.len;have A:=W.s.y.len;unfold dn.X dn.Y;omega
theorem Y9 {h:ah}{n size:Int}(F:0≤n∧n≤65536)(A:fP size):ag prog vO #[af n,af size] h λr h'=>r=af (dS n size)∧h'=h:=by
 apply Qp;unfold Ft;have G:=pB F A;unfold fP at A;unfold dS at*;simp only[go_sem];rw[w64 (n:=n+size) ae ae,w64 (n:=n+size-1) ae ae,mU _ _ _ _ ae,aj,xW ae,w64 ae ae];exact⟨rfl,trivial⟩
theorem KI {Z:Nat→Prop}{h:ah}{b:Nat}{d:dn}{p q:Value}(H:uz Z h b d p q)(W:d.Wf):ag prog ij #[ptr b] h λr h'=>r=af (dB d)∧h'=h:=by
 apply CX;unfold sZ;simp only[go_sem,aO];refine aS (λh'=>h'=h) rfl ?_;refine aD p (λh' e=>by rw[e];exact am H.row) ?_;refine aD (af d.w) (λh' e=>by rw[e];exact am H.row) ?_;refine(EN H.x).mono λr h1 ⟨e,A⟩=>?_
 have A:=A.symm;subst e A;exact⟨rfl,Y9 (dn.bd W).1 W.w⟩
theorem Ep {Z:Nat→Prop}{h:ah}{b:Nat}{d:dn}{p q:Value}(H:uz Z h b d p q)(W:d.Wf):ag prog eK #[ptr b] h λr h'=>r=af (bU d)∧h'=h:=by
 apply Gt;unfold wz;simp only[go_sem,aO];refine aS (λh'=>h'=h) rfl ?_;refine aD q (λh' e=>by rw[e];exact am H.row) ?_;refine aD (af d.h) (λh' e=>by rw[e];exact am H.row) ?_;refine(KI H W).mono λr h1 ⟨e,F⟩=>?_
 have F:=F.symm;subst e F;refine⟨rfl,?_⟩;refine(EN H.y).mono λr h1 ⟨e,F⟩=>?_
 have F:=F.symm;subst e F;refine⟨rfl,?_⟩;refine(Y9 (dn.bd W).2 W.h).mono λr h1 ⟨e,F⟩=>?_
 have F:=F.symm;subst e F;simp only[go_sem];have h1:=pB (dn.bd W).1 W.w;have I:=pB (dn.bd W).2 W.h;have G:=nR (a:=dB d) (A:=65536) (b:=dS d.Y d.h) (B:=65536) h1.1 h1.2.1 I.1 I.2.1;have e:dB d*dS (d.s.y.lines.length:Int) d.h=bU d:=rfl;have G:0≤dB d*dS (d.s.y.lines.length:Int) d.h∧dB d*dS (d.s.y.lines.length:Int) d.h≤65536*65536:=G;rw[w64 ae ae];exact⟨rfl,trivial⟩
theorem Ph {h:ah}{n:Int}:ag prog yo #[af n] h λr h'=>r=.bool (decide (fP n))∧h'=h:=by
 apply SK;unfold Ie;simp only[go_sem];exact⟨rfl,trivial⟩
theorem RH {Z:Nat→Prop}{h:ah}{sv:Value}{s:Stg}{w hh:Int}(HS:qX Z h sv s):ag prog AS #[sv,af w,af hh] h λr h'=>
  Ext h h'∧((fP w∧fP hh)→∃b p q,r=.tuple #[ptr b,ai]∧h.size≤b∧uz Z h' b ⟨s,w,hh⟩ p q)∧(¬(fP w∧fP hh)→r=.tuple #[.pointer none,af 9]):=by
 apply Vb;unfold K6;obtain⟨p,q,rfl,L,hq,U⟩:=jQ HS;simp only[bT];refine aJ λb1 h1 r1 F n1=>?_
 have np:=(JY L).2;have nq:=(JY hq).2;have q0:aH h1 ⟨b1,0,none⟩=some p:=am r1;have q1:aH h1 ⟨b1,1,none⟩=some q:=am r1;simp only[go_sem,aO,q0,q1,np,nq];refine Ph.mono λr W ⟨e,A⟩=>?_
 have A:=A.symm;subst e A;by_cases hw:fP w
 ·simp only[go_sem,hw];refine Ph.mono λr W ⟨e,A⟩=>?_
  have A:=A.symm;subst e A;by_cases G:fP hh
  ·simp only[go_sem,G];rw[aW (l:=[p,q,af s.border]) r1 3 rfl,aj];have hf:aQ #[(.pointer none),(.pointer none),ai,ai,ai] [(0,3,.agg #[p,q,af s.border]),(3,1,af w),(4,1,af hh)]=some #[p,q,af s.border,af w,af hh]:=rfl;rw[hf,bJ,aj];refine aJ (c:=#[p,q,af s.border,af w,af hh]) λb2 W r2 I n2=>?_
   exact⟨F.trans I,λ_=>⟨b2,p,q,rfl,bB F.1 n2,r2,L.ext (F.trans I),hq.ext (F.trans I)⟩,λH=>absurd ⟨trivial,trivial⟩ H⟩
  ·simp only[go_sem,G];exact⟨F,λH=>H.2.elim,λ_=>by simp⟩
 ·simp only[go_sem,hw];exact⟨F,λH=>H.1.elim,λ_=>by simp⟩
structure cP where
 number:Int
 x:Int
 y:Int
 w:Int
 h:Int
 fx:Int
 fy:Int
 cx:Int
 cy:Int
 ring:Int
abbrev dK (t:cP):List Value:=[.int .i64 t.number,.int .i64 t.x,.int .i64 t.y,.int .i64 t.w,.int .i64 t.h,.int .i64 t.fx,.int .i64 t.fy,.int .i64 t.cx,.int .i64 t.cy,.int .i64 t.ring]
theorem kM (t:cP):∀v∈dK t,aV v=true:=by
 intro v A;simp only[dK,fC,uh,or_false]at A;rcases A with rfl|rfl|rfl|rfl|rfl|rfl|rfl|rfl|rfl|rfl<;>rfl
theorem MG {d:dn}(W:d.Wf){i:Int}(h0:0≤i)(h1:i<bU d):0≤jM d i∧jM d i<d.X∧0≤jT d i∧jT d i<d.Y:=by
 have A:=dn.bd W;have I:=W.w;have hh:=W.h;unfold fP at I hh;have h2:=pB A.1 W.w;have h3:=pB A.2 W.h;have hc:0<dB d:=by
  rcases nT 0 (dB d)with h|h
  ·exact h
  ·have h4:0≤dB d:=h2.1;have:dB d=0:=ae;unfold bU at h1;rw[this,Th]at h1;omega
 have L:=kA i (show dB d≠0 by omega);have m1:=iJ i hc;have q0:=vj h0 (show 0≤dB d by omega);have q1:i/dB d<dS d.Y d.h:=by
  rw[uk hc,fM];exact h1
 have key:∀(n size k:Int),0≤n→1≤size→0≤k→k<dS n size→0≤k*size∧k*size<n:=by
  intro n size k hn hs U F;refine⟨nU U ae,?_⟩;have h5:k+1≤(n+size-1)/size:=F;rw[wN ae,iZ,kR]at h5;omega
 have H:=key d.X d.w (i%dB d) A.1.1 I.1 L m1;have G:=key d.Y d.h (i/dB d) A.2.1 hh.1 q0 q1;exact⟨H.1,H.2,G.1,G.2⟩
theorem RG {Z:Nat→Prop}{h:ah}{b:Nat}{d:dn}{p q:Value}(H:uz Z h b d p q)(W:d.Wf){i:Int}(h0:0≤i)(h1:i<bU d):ag prog nI #[ptr b,af i] h λr h'=>
  r=.agg #[af (jM d i),af (jT d i),af (tz d i),af (uZ d i)]∧Ext h h':=by
 apply Ko;unfold zj;have ti:=MG W h0 h1;have hb:=dn.bd W;have hw:=W.w;have hh:=W.h;unfold fP at hw hh;have h2:=pB hb.1 W.w;have I:=pB hb.2 W.h;have al:0≤dB d∧dB d≤65536:=⟨h2.1,h2.2.1⟩
 have ad:=nR (a:=dB d) (A:=65536) (b:=dS d.Y d.h) (B:=65536) h2.1 h2.2.1 I.1 I.2.1;have ab:bU d=dB d*dS d.Y d.h:=rfl;have hc:0<dB d:=by
  rcases nT 0 (dB d)with h|h
  ·exact h
  ·have:dB d=0:=ae;rw[ab,this,Th]at h1;omega
 have hq:=tP (a:=i) (b:=dB d) (L:=0) (U:=4294967296) ae ae ae ae ae;refine aJ λb1 aa r1 e1 n1=>?_
 have G:=H.ext e1;simp only[go_sem,aO];refine aS (λh'=>h'=aa) rfl ?_;refine aD (af d.w) (λh' e=>by rw[e];exact am G.row) ?_;refine aD (af d.h) (λh' e=>by rw[e];exact am G.row) ?_;refine(KI G W).mono λr I ⟨e,F⟩=>?_
 have F:=F.symm;subst e F;refine⟨rfl,?_⟩;rw[em _ _ _ _ ae,aj,kz h0];simp only[go_sem];refine(KI G W).mono λr I ⟨e,F⟩=>?_
 have F:=F.symm;subst e F;refine⟨rfl,?_⟩;rw[mU _ _ _ _ ae,aj,xW h0];simp only[go_sem];have ex:i%dB d*d.w=jM d i:=rfl;have ey:i/dB d*d.h=jT d i:=rfl;rw[w64 (n:=i/dB d) ae ae,ex,ey,w64 (n:=jM d i) ae ae,w64 (n:=jT d i) ae ae];refine aS (λh'=>h'=aa) rfl ?_;simp only[go_sem,aO];refine aD (af d.w) (λh' e=>by rw[e];exact am G.row) ?_;refine aD p (λh' e=>by rw[e];exact am G.row) ?_;refine aD (af d.h) (λh' e=>by rw[e];exact am G.row) ?_;refine aD q (λh' e=>by rw[e];exact am G.row) ?_;refine(EN G.x).mono λr I ⟨e,F⟩=>?_
 have F:=F.symm;subst e F;refine⟨rfl,?_⟩;simp only[go_sem];have eX:(d.s.x.lines.length:Int)=d.X:=rfl;have eY:(d.s.y.lines.length:Int)=d.Y:=rfl;rw[eX,w64 (n:=d.X-jM d i) ae ae];refine aD (af (min d.w (d.X-jM d i))) (λh' e=>by first|exact Og _ _ _|rfl) ?_;refine(EN G.y).mono λr I ⟨e,F⟩=>?_
 have F:=F.symm;subst e F;refine⟨rfl,?_⟩;simp only[go_sem];rw[eY,w64 (n:=d.Y-jT d i) ae ae];refine aD (af (min d.h (d.Y-jT d i))) (λh' e=>by first|exact Og _ _ _|rfl) ?_;have hf:aQ #[ai,ai,ai,ai] [(0,1,af (jM d i)),(1,1,af (jT d i)),(2,1,af (min d.w (d.X-jM d i))),(3,1,af (min d.h (d.Y-jT d i)))]=some #[af (jM d i),af (jT d i),af (tz d i),af (uZ d i)]:=rfl;rw[hf,bJ,aj];refine da (l:=[af (jM d i),af (jT d i),af (tz d i),af (uZ d i)]) r1 rfl (az rfl (az rfl (az rfl (az rfl bi)))) rfl λh5 r5 u5=>?_
 rw[aW r5 4 rfl,aj];exact⟨rfl,e1.upd n1 u5⟩
theorem zaf (a b c d e f:Int):aQ #[ai,ai,ai,ai,ai,ai,ai,ai,ai,ai] [(0,1,af a),(1,4,.agg #[af b,af c,af d,af e]),(9,1,af f)]=some (dK ⟨a,b,c,d,e,0,0,0,0,f⟩).toArray:=by
 refine(bX (n:=1) (l:=[af a]) rfl rfl (by simp)).trans ?_;refine(bX (n:=4) (l:=[af b,af c,af d,af e]) rfl rfl (by simp[cO])).trans ?_;refine(bX (n:=1) (l:=[af f]) rfl rfl (by simp[cO])).trans ?_;rw[ia];simp[wrL,dK]
def aL (d:dn)(i:Int):cP:=
 ⟨i,jM d i,jT d i,tz d i,uZ d i,(yv d.s.x (jM d i) (jM d i+tz d i)).1,(yv d.s.y (jT d i) (jT d i+uZ d i)).1,
  (yv d.s.x (jM d i) (jM d i+tz d i)).2,(yv d.s.y (jT d i) (jT d i+uZ d i)).2,cJ d.s.y.lines⟩
theorem wZ {Z:Nat→Prop}{h:ah}{b:Nat}{d:dn}{p q:Value}(H:uz Z h b d p q)(W:d.Wf){i:Int}(h0:0≤i)(h1:i<bU d):ag prog gC #[ptr b,af i] h λr h'=>
  r=.tuple #[.agg (dK (aL d i)).toArray,.bool true]∧Ext h h':=by
 apply IM;unfold xJ;have ti:=MG W h0 h1;have hb:=dn.bd W;have hw:=W.w;have hh:=W.h;unfold fP at hw hh;refine aJ λb1 h2 r1 e1 n1=>?_
 have L:=H.ext e1;have hi:(i<0)=False:=gm ae;simp only[go_sem,hi];refine(Ep L W).mono λr h3 ⟨e,G⟩=>?_
 have G:=G.symm;subst e G;simp only[go_sem];rw[cE ae,cA];have ax:=bD r1;refine bF (λxs h'=>∃b2,xs=[ptr b2]∧Ext h2 h'∧h2.size≤b2∧h'[b2]? =some (.cells (dK ⟨i,jM d i,jT d i,tz d i,uZ d i,0,0,0,0,cJ d.s.y.lines⟩).toArray 116 (0,0))) ?_ ?_
 ·simp only[go_sem,aO];refine aS (Ext h2) (Ext.refl _) ?_;refine aD q (λh' e=>am (e.row L.row)) ?_;have hf:aQ #[ai,ai,ai,ai,ai,ai,ai,ai,ai,ai] [(0,1,af i),(1,4,.agg #[af (jM d i),af (jT d i),af (tz d i),af (uZ d i)]),(9,1,af (cJ d.s.y.lines))]=some (dK ⟨i,jM d i,jT d i,tz d i,uZ d i,0,0,0,0,cJ d.s.y.lines⟩).toArray:=zaf _ _ _ _ _ _;refine⟨?_,?_⟩
  ·refine(RG L W h0 h1).mono λr h3 ⟨e,F⟩=>?_
   subst e;refine⟨F,?_,?_⟩
   ·refine(Ud (L.y.ext F)).mono λr h4 ⟨e,G⟩=>?_
    have G:=G.symm;subst e G;refine⟨F,?_⟩;rw[hf,bJ,aj];refine aJ λb4 h4 r4 A n4=>⟨F.trans A,?_⟩
    have I:=bB F.1 n4;refine da (l:=dK _) r4 rfl (kM _) rfl λh5 r5 u5=>?_
    have E:=(F.trans A).upd I u5;exact⟨E,b4,rfl,E,I,r5⟩
   ·refine aJ λb4 h4 r4 A n4=>⟨F.trans A,?_⟩
    have I:=bB F.1 n4;refine(Ud (L.y.ext (F.trans A))).mono λr h5 ⟨e,G⟩=>?_
    have G:=G.symm;subst e G;refine⟨F.trans A,?_⟩;rw[hf,bJ,aj];refine da (l:=dK _) r4 rfl (kM _) rfl λh5 r5 u5=>?_
    have E:=(F.trans A).upd I u5;exact⟨E,b4,rfl,E,I,r5⟩
  ·refine aJ λb4 h4 r4 A n4=>⟨A,?_⟩
   refine(RG (L.ext A) W h0 h1).mono λr h3 ⟨e,F⟩=>?_
   subst e;refine⟨A.trans F,?_⟩;refine(Ud (L.y.ext (A.trans F))).mono λr h5 ⟨e,G⟩=>?_
   have G:=G.symm;subst e G;refine⟨A.trans F,?_⟩;rw[hf,bJ,aj];refine da (l:=dK _) (F.row r4) rfl (kM _) rfl λh5 r5 u5=>?_
   have E:=(A.trans F).upd n4 u5;exact⟨E,b4,rfl,E,n4,r5⟩
 rintro xs ρj h3 ⟨b2,rfl,E3,U,r3⟩;have H3:=L.ext E3;have ar:=L.row;have ad:b≠b2:=by have:=bD L.row;omega
 have al:b1≠b2:=ae;have an:0≤jM d i+tz d i∧jM d i+tz d i≤65536:=by unfold tz;omega
 have ay:0≤jT d i+uZ d i∧jT d i+uZ d i≤65536:=by unfold uZ;omega
 refine aS (λh'=>h'=h3) rfl ?_;simp only[go_sem,aO];refine aD p (λh' e=>by rw[e];exact am H3.row) ?_;refine aD (af (jM d i)) (λh' e=>by rw[e];exact am r3) ?_;refine aD (af (jM d i)) (λh' e=>by rw[e];exact am r3) ?_;refine aD (af (tz d i)) (λh' e=>by rw[e];exact am r3) ?_;simp only[go_sem];rw[w64 ae ae];refine(Ub H3.x W.s.x (by unfold I64;omega) (by unfold I64;omega)).mono λr h4 ⟨e,A⟩=>?_
 subst e;simp only[go_sem,aO];refine ck (A.row r3) (by simp) rfl λh5 r5 u5=>?_
 refine ck r5 (by simp) rfl λh6 r6 u6=>?_
 have E6:Ext h2 h6:=((E3.trans A).upd U u5).upd U u6;have H6:=L.ext E6;have r6:h6[b2]? =some (.cells (dK ⟨i,jM d i,jT d i,tz d i,uZ d i,(yv d.s.x (jM d i) (jM d i+tz d i)).1,0,(yv d.s.x (jM d i) (jM d i+tz d i)).2,0,cJ d.s.y.lines⟩).toArray 116 (0,0)):=r6;refine aS (λh'=>h'=h6) rfl ?_
 try simp only[go_sem,aO]
 refine aD q (λh' e=>by rw[e];exact am H6.row) ?_;refine aD (af (jT d i)) (λh' e=>by rw[e];exact am r6) ?_;refine aD (af (jT d i)) (λh' e=>by rw[e];exact am r6) ?_;refine aD (af (uZ d i)) (λh' e=>by rw[e];exact am r6) ?_;simp only[go_sem];rw[w64 ae ae];refine(Ub H6.y W.s.y (by unfold I64;omega) (by unfold I64;omega)).mono λr h7 ⟨e,e7⟩=>?_
 subst e;simp only[go_sem,aO];refine ck (e7.row r6) (by simp) rfl λh8 r8 u8=>?_
 refine ck r8 (by simp) rfl λh9 r9 u9=>?_
 have E9:Ext h2 h9:=((E6.trans e7).upd U u8).upd U u9;have r9:h9[b2]? =some (.cells (dK (aL d i)).toArray 116 (0,0)):=r9;rw[aW r9 10 rfl,aj];refine da (l:=dK (aL d i)) (E9.row r1) rfl (kM _) rfl λau ab aa=>?_
 rw[aW ab 10 rfl,aj];exact⟨rfl,(e1.trans E9).upd n1 aa⟩
def Nk:OpD:=⟨3,0,0,0,[],[],0,5,3⟩
theorem XJ {h:ah}(G:eW h):ag prog yS #[] h λr h'=>r=.bool true∧Ext h h':=by
 apply NL;unfold Cj;have hf:(aQ #[ai,ai,ai,ai,(.slice none 0 0),(.slice none 0 0),ai,ai,ai] [(0,1,(af 3)),(7,1,(af 5)),(8,1,(af 3)),(6,1,ai)])=some #[af 3,ai,ai,ai,.slice none 0 0,.slice none 0 0,ai,af 5,af 3]:=rfl;rw[hf,bJ,aj];have wf:Nk.Wf:=CL (by simp[I64]);refine(KJ (Z:=λ_=>True) (o:=Nk) G CM wf (by simp[Nk]) (by simp[Nk]) (by unfold I64;omega) (by unfold I64;omega)).mono λw h1 ⟨sv,e,e1,_,s1⟩=>?_
 subst e;have a1:fF Nk 9 9=0:=by decide+kernel
 have HS:=s1 a1;rw[a1];obtain⟨p,q,rfl,hp,hq,F⟩:=jQ HS;simp only[go_sem];refine dh (cs:=[p,q,af _]) rfl F rfl λb2 h2 r2 H n2=>?_
 refine(Pj (G.ext (e1.trans H))).mono λr h3 ⟨e,e3⟩=>?_
 subst e;have z0:((0:Int)=0)=True:=jW rfl;simp only[go_sem,z0,gM];rw[aW (l:=[p,q,af _]) (e3.row r2) 3 rfl,aj];refine(RH (HS.ext (H.trans e3))).mono λr h4 ⟨e4,hy,_⟩=>?_
 obtain⟨b4,p4,q4,e,aa,P⟩:=hy ⟨by decide,by decide⟩;subst e;have np:ak .p .eql (ptr b4) (.pointer none)=some (.bool false):=rfl;simp only[go_sem,z0,np,gM];have PW:dn.Wf ⟨cz Nk 9 9,2,2⟩:=⟨(zE a1).1,by decide,by decide⟩
 have A:bU ⟨cz Nk 9 9,2,2⟩=6:=by decide+kernel
 refine(wZ P PW (i:=5) ae (by rw[A];omega)).mono λr h5 ⟨e,e5⟩=>?_
 subst e;simp only[go_sem];refine dh (cs:=dK _) rfl (kM _) rfl λb6 h6 r6 e6 n6=>?_
 refine(Ep (P.ext (e5.trans e6)) PW).mono λr h7 ⟨e,I⟩=>?_
 have I:=I.symm;subst e I;rw[A];have t1:jM ⟨cz Nk 9 9,2,2⟩ 5=4:=by decide+kernel
 have t2:jT ⟨cz Nk 9 9,2,2⟩ 5=2:=by decide+kernel
 have t3:tz ⟨cz Nk 9 9,2,2⟩ 5=1:=by decide+kernel
 have t4:uZ ⟨cz Nk 9 9,2,2⟩ 5=1:=by decide+kernel
 have U:aR 4 h6 (.pointer (some ⟨b6,1,none⟩))=some (.agg #[af 4,af 2,aG,aG]):=by
  refine Jx [af 4,af 2,aG,aG] 4 rfl λj hj=>?_
  rw[am r6]
  match j,hj with
  |0,_=>exact congrArg (λn=>some (af n)) t1
  |1,_=>exact congrArg (λn=>some (af n)) t2
  |2,_=>exact congrArg (λn=>some (af n)) t3
  |3,_=>exact congrArg (λn=>some (af n)) t4
 have L:aQ #[ai,ai,ai,ai] [(0,1,(af 4)),(1,1,(af 2)),(2,1,aG),(3,1,aG)]=some #[af 4,af 2,aG,aG]:=rfl;have W:ak (.st [(0,1,.i),(1,1,.i),(2,1,.i),(3,1,.i)]) .eql (.agg #[af 4,af 2,aG,aG]) (.agg #[af 4,af 2,aG,aG])=some (.bool true):=rfl;simp only[go_sem,lM,gM,aO,U,L,bJ,W];exact⟨by simp,e1.trans (H.trans (e3.trans (e4.trans (e5.trans e6))))⟩
end Go.Proofs.YtjljhnandbbldaaGreatDoor
namespace Go.Crisp
open Go Go.MapKept
section
section
variable {α:Type}
def ga (j:Int):List (Int×α)→Option α
 | []=>none
 |(k,v)::r=>if k=j then some v else ga j r
def GD (j:Int)(v:α):List (Int×α)→List (Int×α)
 | []=>[(j,v)]
 |(k,u)::r=>if k=j then(j,v)::r else(k,u)::GD j v r
def qI (j:Int):List (Int×α)→List (Int×α)
 | []=>[]
 |(k,u)::r=>if k=j then r else(k,u)::qI j r
def C8 (j:Int):List (Int×α)→Nat→Option (Nat×α)
 | [],_=>none
 |(k,v)::r,i=>if k=j then some (i,v)else C8 j r (i+1)
def rF {β:Type}(f:α→β)(l:List (Int×α)):List (Int×β):=l.map λp=>(p.1,f p.2)
theorem zH {β:Type}(f:α→β)(l:List (Int×α)):(rF f l).map Prod.fst=l.map Prod.fst:=by simp[rF,yg,YO]
theorem tN {β:Type}(f:α→β)(j:Int):∀l:List (Int×α),ga j (rF f l)=(ga j l).map f
 | []=>rfl
 |(k,v)::r=>by
  have A:=tN f j r;unfold rF at A ⊢;simp only[sq,ga];split
  ·rfl
  ·exact A
theorem OC {β:Type}(f:α→β)(j:Int):∀l:List (Int×α),qI j (rF f l)=rF f (qI j l)
 | []=>rfl
 |(k,v)::r=>by
  have A:=OC f j r;unfold rF at A ⊢;simp only[sq,qI];split
  ·rfl
  ·simp[A]
end
def GN (es:List MapEntry)(kv:List (Int×Value)):Prop:=es.map (λe=>(e.key,e.val))=kv.map λp=>(Value.int .i64 p.1,p.2)
def qJ (h:ah)(b:Nat)(kv:List (Int×Value)):Prop:=∃es c,h[b]? =some (.map es c)∧Stamped es c∧GN es.toList kv
theorem GN.length {A:List MapEntry}{kv:List (Int×Value)}(H:GN A kv):A.length=kv.length:=by
 have:=congrArg List.length H;simpa using this
theorem qJ.nodup {h:ah}{b:Nat}{kv:List (Int×Value)}(H:qJ h b kv):(kv.map Prod.fst).Nodup:=by
 obtain⟨G,c,_,I,F⟩:=H;have h1:G.toList.map (·.key)=(kv.map Prod.fst).map (Value.int .i64):=by
  have:=congrArg (List.map Prod.fst) F;simpa[yg,YO]using this
 have A:=I.2.2;rw[h1]at A;unfold List.Nodup at A ⊢;rw[List.pairwise_map]at A;exact A.imp λh e=>h (by rw[e])
theorem qJ.row {h h':ah}{b:Nat}{kv:List (Int×Value)}(H:qJ h b kv)(r:h'[b]? =h[b]?):qJ h' b kv:=by
 obtain⟨A,c,h1,F⟩:=H;exact⟨A,c,r.trans h1,F⟩
theorem qJ.lt {h:ah}{b:Nat}{kv:List (Int×Value)}(H:qJ h b kv):b<h.size:=by
 obtain⟨A,c,h1,_⟩:=H;exact bD h1
theorem qJ.fr {M:Nat→Prop}{h h':ah}{b:Nat}{kv:List (Int×Value)}(H:qJ h b kv)(f:Fr M h h')(A:¬M b):qJ h' b kv:=H.row (f.2 b H.lt A)
theorem qJ.ext {h h':ah}{b:Nat}{kv:List (Int×Value)}(H:qJ h b kv)(e:Ext h h'):qJ h' b kv:=H.row (e.2 b H.lt)
theorem JH (j:Int):∀(A:List MapEntry) (kv:List (Int×Value)) (i:Nat),GN A kv→Instr.findNow (.int .i64) (af j) A i=some (C8 j kv i)
 | [],kv,i,H=>by
  have:kv=[]:=nZ (by rw[←GN.length H];rfl);subst this;rfl
 |e::A,[],i,H=>by have:=GN.length H;simp at this
 | e::A,(k,v)::kv,i,H=>by
  unfold GN at H;simp only[sq,List.cons.injEq,zdh]at H;obtain⟨⟨h1,L⟩,H⟩:=H;unfold Instr.findNow C8;rw[h1];have I:Instr.sameNow (.int .i64) (af j) (af k)=some (j==k):=by simp[Instr.sameNow]
  rw[I];by_cases G:k=j
  ·subst G;simp[L]
  ·have F:(j==k)=false:=by simp;exact λh=>G h.symm
   rw[F,aq G];exact JH j A kv (i+1) H
theorem KA {α:Type}(j:Int):∀(kv:List (Int×α)) (i:Nat),(C8 j kv i).map Prod.snd=ga j kv
 | [],_=>rfl
 |(k,v)::r,i=>by
  unfold C8 ga;split
  ·rfl
  ·exact KA j r (i+1)
theorem oG {α:Type}{j:Int}:∀{kv:List (Int×α)},ga j kv=none↔j∉kv.map Prod.fst
 | []=>by simp[ga]
 |(k,v)::r=>by
  unfold ga;by_cases A:k=j
  ·simp[A]
  ·simp[A,oG (kv:=r),iu A]
theorem OA {α:Type}{j:Int}{kv:List (Int×α)}{i:Nat}(h:C8 j kv i=none):ga j kv=none:=by
 rw[←KA j kv i,h];rfl
theorem GE {α:Type}{j:Int}:∀{kv:List (Int×α)} {i m:Nat} {v:α},C8 j kv i=some (m,v)→i≤m∧kv[m-i]? =some (j,v)∧(∀u,GD j u kv=kv.set (m-i) (j,u))∧qI j kv=kv.eraseIdx (m-i)
 | [],_,_,_,h=>by cases h
 | (k,v)::r,i,m,u,h=>by
  unfold C8 at h;split at h
  ·rename_i A;cases h;subst A;simp[GD,qI]
  ·rename_i A;obtain⟨h1,H,I,G⟩:=GE h;have F:m-i=(m-(i+1))+1:=ae;refine⟨ae,?_,λu=>?_,?_⟩
   ·rw[F];simpa using H
   ·rw[F];simp[GD,A,I u]
   ·rw[F];simp[qI,A,G]
theorem KB {α:Type}{j:Int}{v:α}:∀{kv:List (Int×α)},ga j kv=some v→kv.Perm ((j,v)::qI j kv)
 | (k,u)::r,h=>by
  unfold ga at h;unfold qI;split at h
  ·rename_i A;cases h;subst A;rw[aA rfl]
  ·rename_i A;rw[aq A];exact((KB h).cons (k,u)).trans (List.Perm.swap ..)
theorem Oz {α:Type}{j:Int}{v:α}:∀{kv:List (Int×α)},ga j kv=some v→(j,v)∈kv
 | (k,u)::r,h=>by
  unfold ga at h;split at h
  ·rename_i A;cases h;subst A;exact Js ..
  ·exact uo _ (Oz h)
theorem C7 {α:Type}{j:Int}{v:α}:∀{kv:List (Int×α)},(kv.map Prod.fst).Nodup→(j,v)∈kv→ga j kv=some v
 | (k,u)::r,hn,h=>by
  unfold ga;rw[sq,List.nodup_cons]at hn;rcases fC.1 h with h|h
  ·cases h;rw[aA rfl]
  ·rw[aq]
   ·exact C7 hn.2 h
   ·rintro rfl;exact hn.1 (fO.2 ⟨_,h,rfl⟩)
theorem JB {α:Type}{j i:Int}:∀{kv:List (Int×α)},(kv.map Prod.fst).Nodup→ga i (qI j kv)=if i=j then none else ga i kv
 | [],_=>by simp[qI,ga]
 | (k,u)::r,hn=>by
  rw[sq,List.nodup_cons]at hn;unfold qI;by_cases F:k=j
  ·subst F;rw[aA rfl];by_cases hi:i=k
   ·subst hi;rw[aA rfl];exact oG.2 hn.1
   ·rw[aq hi,ga,aq (iu hi)]
  ·rw[aq F];unfold ga;by_cases A:k=i
   ·subst A;rw[aA rfl,aq F,aA rfl]
   ·rw[aq A,aq A];exact JB hn.2
theorem OB {α:Type}{j:Int}:∀{kv:List (Int×α)},(qI j kv).Sublist kv
 | []=>List.Sublist.refl _
 |(k,u)::r=>by
  unfold qI;split
  ·exact List.sublist_cons_self ..
  ·exact OB.cons_cons _
def Vk (ok:Bool)(z:Value):Option Value→Value
 |some v=>bif ok then .tuple #[v,.bool true]else v
 |none=>bif ok then .tuple #[z,.bool false]else z
theorem C6 {h:ah}{b:Nat}{kv:List (Int×Value)}(H:qJ h b kv)(z:Value)(ok:Bool)(j:Int):Bv (.int .i64) z ok h (.map (some b)) (af j)=some (Vk ok z (ga j kv)):=by
 obtain⟨A,c,I,_,F⟩:=H;have G:Vh h (.map (some b))=some (A,c):=by unfold Vh;simp[I]
 unfold Bv;simp only[G,JH j A.toList kv 0 F];rw[←KA j kv 0];cases C8 j kv 0 with
 |none=>rfl
 |some p=>rfl
theorem Mv {h:ah}{b:Nat}{kv:List (Int×Value)}(H:qJ h b kv):Oq h (.map (some b))=some (af (kv.length:Nat)):=by
 obtain⟨G,c,F,_,A⟩:=H;unfold Oq;simp only[F];rw[←A.length,Jv]
theorem JA {α:Type}{j:Int}{v:α}:∀{kv:List (Int×α)},ga j kv=none→GD j v kv=kv++[(j,v)]
 | [],_=>rfl
 | (k,u)::r,h=>by
  unfold ga at h;split at h
  ·cases h
  ·rename_i A;simp[GD,A,JA h]
theorem Rk {α:Type}{j:Int}:∀{kv:List (Int×α)},ga j kv=none→qI j kv=kv
 | [],_=>rfl
 | (k,u)::r,h=>by
  unfold ga at h;split at h
  ·cases h
  ·rename_i A;simp[qI,A,Rk h]
theorem Sc {h:ah}{b:Nat}{kv:List (Int×Value)}{j:Int}{v:Value}{K:Value→ah→Prop}(H:qJ h b kv)(HK:∀h',qJ h' b (GD j v kv)→Upd b h h'→K undef h'):
  pG (.int .i64) (.map (some b)) (af j) v h K:=by
 obtain⟨es,c,hb,hs,F⟩:=H;unfold pG;simp only[hb,JH j es.toList kv 0 F];cases hf:C8 j kv 0 with
 | none=>
  have hg:=OA hf;simp only;refine HK _ ⟨_,_,ns hb,stamped_push hs λx W aa=>?_,?_⟩ Upd.set
  ·have h1:j∈kv.map Prod.fst:=by
    have:(x.key,x.val)∈kv.map λp=>(af p.1,p.2):=by rw[←F];exact fO.2 ⟨x,W,rfl⟩
    obtain⟨p,hp,L⟩:=fO.1 this;rw[aa]at L;have I:=congrArg Prod.fst L;simp at I;exact fO.2 ⟨p,hp,I⟩
   exact oG.1 hg h1
  ·unfold GN at F ⊢;rw[JA hg,Array.toList_push,jA,F,jA];rfl
 | some p=>
  obtain⟨i,u⟩:=p;obtain⟨_,I,h3,_⟩:=GE hf;rw[Ap]at I h3;have hi:i<kv.length:=(Mb.1 I).1;have A:i<es.size:=by rw[←Jv,F.length];exact hi
  have G:es[i].key=af j:=by
   have h4:=congrArg (λl=>(l[i]?).map Prod.fst) F;simp only[yb,I,cR,vB,rD A]at h4;exact un h4
  simp only;refine⟨?_,HK _ ⟨_,_,ns hb,stamped_modify hs i _ (λe _=>rfl) (λe _ W=>?_),?_⟩ Upd.set⟩
  ·rw[rD A];simp only[cR,Option.getD_some,G];simp[Instr.sameBits]
  ·rw[rD A]at W;cases W;exact G.symm
  ·rw[h3];unfold GN at F ⊢;apply List.ext_getElem?;intro m;have U:=congrArg (λl=>l[m]?) F;simp only[yb,vB]at U ⊢;rw[Mo,List.getElem?_set];by_cases hm:i=m
   ·subst hm;rw[aA rfl,aA rfl,aA hi,rD A];rfl
   ·rw[aq hm,aq hm];exact U
theorem Kt {α β:Type}(f:α→β):∀(l:List α) (i:Nat),(l.eraseIdx i).map f=(l.map f).eraseIdx i
 | [],_=>rfl
 |a::l,0=>rfl
 |a::l,i+1=>by simp[Kt f l i]
theorem GN.key {F:List MapEntry}{kv:List (Int×Value)}(H:GN F kv){e:MapEntry}(L:e∈F):∃j,e.key=af j∧(j,e.val)∈kv:=by
 have:(e.key,e.val)∈kv.map λp=>(af p.1,p.2):=by rw[←H];exact fO.2 ⟨e,L,rfl⟩
 obtain⟨p,I,A⟩:=fO.1 this;have h1:=congrArg Prod.fst A;have G:=congrArg Prod.snd A;simp only at h1 G;exact⟨p.1,h1.symm,by rw[←G];exact I⟩
theorem zbY {h:ah}{b:Nat}{kv:List (Int×Value)}{j:Int}{K:Value→ah→Prop}(H:qJ h b kv)
  (HK:∀h',qJ h' b (qI j kv)→Upd b h h'→(∀F c,h[b]? =some (.map F c)→∃A,h'[b]? =some (.map A c)∧∀e∈A,e∈F∧e.key≠af j)→K (.tuple #[]) h'):
  pH (.int .i64) (.map (some b)) (af j) h K:=by
 have H0:=H;have ab:=H.nodup;obtain⟨F,c,I,hs,L⟩:=H;have sub:∃h',qJ h' b (qI j kv)∧Upd b h h'∧(∃A,h'[b]? =some (.map A c)∧(∀e∈A,e∈F)∧GN A.toList (qI j kv))∧∀K:Value→ah→Prop,K (.tuple #[]) h'→pH (.int .i64) (.map (some b)) (af j) h K:=by
  cases hf:C8 j kv 0 with
  |none=>
   have hk:GN F.toList (qI j kv):=by rw[Rk (OA hf)];exact L
   refine⟨_,⟨F,c,ns I,hs,hk⟩,Upd.set,⟨F,ns I,λe h=>h,hk⟩,λK U=>?_⟩;unfold pH;simp only[I,JH j F.toList kv 0 L,hf];exact U
  | some p=>
   obtain⟨i,u⟩:=p;obtain⟨_,h2,_,h4⟩:=GE hf;rw[Ap]at h2 h4;have hi:i<kv.length:=(Mb.1 h2).1;have G:i<F.size:=by rw[←Jv,L.length];exact hi
   have hk:GN (F.eraseIdxIfInBounds i).toList (qI j kv):=by
    rw[h4];unfold GN at L ⊢;rw[Array.eraseIdxIfInBounds,Jh G];have:(F.eraseIdx i G).toList=F.toList.eraseIdx i:=by simp
    rw[this,Kt,L,←Kt]
   refine⟨_,⟨_,_,ns I,stamped_erase hs i,hk⟩,Upd.set,⟨_,ns I,λe h=>?_,hk⟩,λK U=>?_⟩
   ·rw[Array.eraseIdxIfInBounds,Jh G,←Tg,Array.toList_eraseIdx]at h;rw[←Tg];exact(List.eraseIdx_sublist ..).subset h
   ·unfold pH;simp only[I,JH j F.toList kv 0 L,hf];exact U
 obtain⟨h',m',u',⟨A,ad,W,al⟩,U⟩:=sub;refine U K (HK h' m' u' λan c0 h0=>?_);rw[I]at h0;cases h0;refine⟨A,ad,λe h=>⟨W e h,λaa=>?_⟩⟩;obtain⟨i,hi,hm⟩:=al.key (Tg.2 h);rw[aa]at hi;cases hi;have h1:=C7 m'.nodup hm;rw[JB ab,aA rfl]at h1;cases h1
theorem SV {h:ah}{K:Value→ah→Prop}(A:∀b h',qJ h' b []→Ext h h'→h.size≤b→K (.map (some b)) h'):Q9 h K:=
 A h.size _ ⟨#[],0,tm,stamped_empty 0,rfl⟩ (Ext.push h _) (cf _)
end
end Go.Crisp
namespace Go.Proofs.YtjljhnandbbldaaGreatDoor
open Go Go.Crisp
open _root_.Go.Proofs.Tryz
def Iw:Go.Shelf.Ren:=⟨λn=>match n with|8=>290|11=>305|n=>n,λn=>match n with|0=>0|24=>28|26=>2|28=>368|33=>332|n=>n,λn=>n⟩
theorem QI:Go.Proofs.SlLaysZI.n8 prog Iw where
 mixed:=by kernel_rfl
 f8:=⟨"slices.Collect[int64]",by kernel_rfl,by kernel_rfl⟩
 f11:=⟨"slices.AppendSeq[[]int64,int64]",by kernel_rfl,by kernel_rfl⟩
 t0:=by kernel_rfl
 a0:=λw=>aZ (by kernel_rfl)
 z0:=λw=>aM (by kernel_rfl)
 v0:=λw=>aI (by kernel_rfl)
 t24:=by kernel_rfl
 a24:=λw=>aZ (by kernel_rfl)
 z24:=λw=>aM (by kernel_rfl)
 v24:=λw=>aI (by kernel_rfl)
 t26:=by kernel_rfl
 a26:=λw=>aZ (by kernel_rfl)
 z26:=λw=>aM (by kernel_rfl)
 v26:=λw=>aI (by kernel_rfl)
 t28:=by kernel_rfl
 a28:=λw=>aZ (by kernel_rfl)
 z28:=λw=>aM (by kernel_rfl)
 v28:=λw=>aI (by kernel_rfl)
 i26:=by kernel_rfl
def CF:Go.Shelf.Ren:=⟨λn=>match n with|10=>306|n=>n,λn=>match n with|0=>0|3=>28|4=>4|23=>284|26=>2|33=>332|n=>n,λn=>n⟩
theorem Oy:Go.Proofs.SlLaysZI.n10 prog CF where
 mixed:=by kernel_rfl
 f10:=⟨"maps.Keys[map[int64][]int64,int64,[]int64]$1",by kernel_rfl,by kernel_rfl⟩
 t0:=by kernel_rfl
 a0:=λw=>aZ (by kernel_rfl)
 z0:=λw=>aM (by kernel_rfl)
 v0:=λw=>aI (by kernel_rfl)
 t4:=by kernel_rfl
 a4:=λw=>aZ (by kernel_rfl)
 z4:=λw=>aM (by kernel_rfl)
 v4:=λw=>aI (by kernel_rfl)
 t23:=by kernel_rfl
 a23:=λw=>aZ (by kernel_rfl)
 z23:=λw=>aM (by kernel_rfl)
 v23:=λw=>aI (by kernel_rfl)
 t26:=by kernel_rfl
 a26:=λw=>aZ (by kernel_rfl)
 z26:=λw=>aM (by kernel_rfl)
 v26:=λw=>aI (by kernel_rfl)
 t33:=by kernel_rfl
 a33:=λw=>aZ (by kernel_rfl)
 z33:=λw=>aM (by kernel_rfl)
 v33:=λw=>aI (by kernel_rfl)
def vi (x:Int):Value:=.int .i64 x
def kh (h:ah)(v:Value)(l:List Int):Prop:=
 ∃a cap,v=.slice a l.length cap∧(l=[]∨∃b o,a=some ⟨b,o,none⟩∧∀i (hi:i<l.length),aH h ⟨b,o+i,none⟩=some (vi l[i]))
theorem kh.ext {h h':ah}{v:Value}{l:List Int}(H:kh h v l)(e:Ext h h'):kh h' v l:=by
 obtain⟨a,cap,rfl,A⟩:=H;refine⟨a,cap,rfl,A.imp id ?_⟩;rintro⟨b,o,rfl,hc⟩;exact⟨b,o,rfl,λi hi=>e.cell (hc i hi)⟩
def KN (a b:List Int):Bool:=decide (a.length=b.length)&&(a.zip b).all λp=>decide (p.1≤p.2)
theorem GY {a b:List Int}(h:a.length=b.length):KN a b=true↔ ∀i (hi:i<a.length),a[i]≤b[i]'(h▸hi):=by
 simp only[KN,h,gM,xZ,Eh,dd];constructor
 ·intro H i hi;have:=H (a[i],b[i]'(h▸hi)) (by rw[nW];exact⟨i,by simp;omega,by simp⟩);exact this
 ·intro H p A;obtain⟨i,hi,rfl⟩:=nW.1 A;simp only[List.length_zip]at hi;simpa using H i ae
theorem zdT {h:ah}{a b:Value}{F lb:List Int}(ha:kh h a F)(hb:kh h b lb)(hn:F.length≤9223372036854775807):
  ag prog yX #[a,b] h λv h'=>v=.bool (KN F lb)∧h'=h:=by
 apply NZ;unfold Cv;obtain⟨A,ca,rfl,U⟩:=ha;obtain⟨B,cb,rfl,W⟩:=hb;simp only[Ej,aj,pW];refine iK (λaa=>?_) (λhe=>?_)
 ·refine⟨?_,trivial⟩;have:¬F.length=lb.length:=by simp at aa;omega
  simp[KN,this]
 ·have hl:F.length=lb.length:=by simp at he;omega
  refine c5 (λd xs h'=>h'=h∧∃k:Nat,k+d=F.length∧xs=[af k]∧∀i (hi:i<k) (h1:i<F.length),F[i]≤lb[i]'(hl▸h1)) F.length ⟨rfl,0,ae,rfl,λi hi=>ae⟩ ?_;rintro d _ ρj _ again ⟨rfl,k,hk,rfl,H⟩ ab;simp only[iz,cC,aj];refine ao (λal=>?_) (λan=>?_)
  ·have G:k<F.length:=ae;have I:k<lb.length:=ae;rcases U with rfl|⟨b1,o1,rfl,U⟩
   ·simp at G
   rcases W with rfl|⟨b2,o2,rfl,W⟩
   ·simp at I
   simp only[mS G,mS I,aj,mf,lN,U k G,W k I,vi,mW];refine ao (λad=>?_) (λar=>?_)
   ·refine⟨?_,trivial⟩
    congr 1
    rw[D0,Jq];intro L;have:=(GY hl).1 L k G;omega
   ·simp only[dC,aj];rw[w64 ae ae];refine ab _ _ (d-1) ae ⟨rfl,k+1,ae,rfl,λi hi h1=>?_⟩;rcases Tf.1 hi with hi|rfl
    ·exact H i hi h1
    ·omega
  ·refine⟨?_,trivial⟩
   congr 1
   rw[D0,GY hl];intro i hi;exact H i ae hi
theorem My {a b:List Int}(h:a.length=b.length):a=b↔ ∀i (hi:i<a.length),a[i]=b[i]'(h▸hi):=
 ⟨λe i hi=>by subst e;rfl,λH=>rE h λi h1 A=>H i h1⟩
theorem zam {h:ah}{a b:Value}{F lb:List Int}(ha:kh h a F)(hb:kh h b lb)(hn:F.length≤9223372036854775807):
  ag prog gA #[a,b] h λv h'=>v=.bool (decide (F=lb))∧h'=h:=by
 apply qG;unfold jH;obtain⟨A,ca,rfl,U⟩:=ha;obtain⟨B,cb,rfl,W⟩:=hb;simp only[Ej,aj,pW];refine iK (λad=>?_) (λhe=>?_)
 ·refine⟨?_,trivial⟩;have:¬F=lb:=λe=>by subst e;simp at ad
  simp[this]
 ·have hl:F.length=lb.length:=by simp at he;omega
  refine c5 (λd xs h'=>h'=h∧∃k:Nat,k+d=F.length∧xs=[af k]∧∀i (hi:i<k) (h1:i<F.length),F[i]=lb[i]'(hl▸h1)) F.length ⟨rfl,0,ae,rfl,λi hi=>ae⟩ ?_;rintro d _ ρj _ again ⟨rfl,k,hk,rfl,H⟩ al;simp only[iz,cC,aj];refine ao (λan=>?_) (λar=>?_)
  ·have G:k<F.length:=ae;have I:k<lb.length:=ae;rcases U with rfl|⟨b1,o1,rfl,U⟩
   ·simp at G
   rcases W with rfl|⟨b2,o2,rfl,W⟩
   ·simp at I
   simp only[mS G,mS I,aj,mf,lN,U k G,W k I,vi,pW];refine iK (λaa=>?_) (λab=>?_)
   ·refine⟨?_,trivial⟩
    congr 1
    rw[D0,D7];intro L;have:=(My hl).1 L k G;simp[this]at aa
   ·simp only[dC,aj];rw[w64 ae ae];refine al _ _ (d-1) ae ⟨rfl,k+1,ae,rfl,λi hi h1=>?_⟩;rcases Tf.1 hi with hi|rfl
    ·exact H i hi h1
    ·simpa using ab
  ·refine⟨?_,trivial⟩
   congr 1
   rw[D0,dd,My hl];intro i hi;exact H i ae hi
theorem zd4 {h:ah}{a b:Value}{A lb:List Int}(F:kh h a A)(H:kh h b lb)(G:A.length≤9223372036854775807):
  ag prog yY #[a,b] h λv h'=>v=.bool (decide (A=lb))∧h'=h:=by
 apply N0;unfold Cw;refine(zam F H G).mono ?_;rintro _ _ ⟨rfl,rfl⟩;exact⟨rfl,rfl⟩
def uu (a b:List Int):Bool:=KN a b&& !decide (a=b)
theorem Zf {h:ah}{a b:Value}{F lb:List Int}(G:kh h a F)(I:kh h b lb)(H:F.length≤9223372036854775807):
  ag prog sN #[a,b] h λv h'=>v=.bool (uu F lb)∧h'=h:=by
 apply N8;unfold Cx;refine(zdT G I H).mono ?_;rintro _ _ ⟨rfl,rfl⟩;cases A:KN F lb with
 |false=>simp only[go_sem];exact⟨by simp[uu,A],trivial⟩
 |true=>
  simp only[go_sem];refine(zd4 G I H).mono ?_;rintro _ _ ⟨rfl,rfl⟩;simp only[go_sem];exact⟨by simp[uu,A],trivial⟩
end Go.Proofs.YtjljhnandbbldaaGreatDoor
namespace Go.Proofs.YtjljhnandbbldaaGreatDoor
open Go Go.Crisp
attribute [local irreducible] ag du bh stK aE vK qK bO gK fR bA mkK dy GQ
open _root_.Go.Proofs.Tryz
def jE (h:ah)(v:Value)(l:List Int):Prop:=Own 1 h v l.length (l.map vi)
theorem kh.sl {h:ah}{v:Value}{l:List Int}(H:kh h v l):SlC 1 h v l.length (l.map vi):=by
 obtain⟨a,cap,rfl,H⟩:=H;refine⟨by simp,a,cap,rfl,?_⟩;rcases H with rfl|⟨b,o,rfl,H⟩
 ·exact .inl rfl
 ·exact .inr ⟨b,o,rfl,λj A=>by rw[dX];exact H j (by simpa using A)⟩
theorem YR {h:ah}{v:Value}{l:List Int}(H:SlC 1 h v l.length (l.map vi)):kh h v l:=by
 obtain⟨_,a,cap,rfl,H⟩:=H;refine⟨a,cap,rfl,?_⟩;rcases H with H|⟨b,o,rfl,H⟩
 ·exact .inl (by simpa using H)
 ·refine .inr ⟨b,o,rfl,λj A=>?_⟩;have:=H j (by simpa using A);rw[dX]at this;exact this
theorem jE.ints {h:ah}{v:Value}{l:List Int}(H:jE h v l):kh h v l:=YR (Own.sl H)
theorem Ws {l:List Int}:∀v∈l.map vi,aV v=true:=by
 intro v A;obtain⟨x,_,rfl⟩:=fO.1 A;rfl
def zI (a b:List Int):List Int:=(List.range (max a.length b.length)).map λi=>max (a.getD i 0) (b.getD i 0)
theorem pR (a b:List Int):(zI a b).length=max a.length b.length:=by simp[zI]
theorem QU (n:Nat)(f:Nat→Int)(i:Nat)(x:Int):(((List.range n).map f).map vi).set i (vi x)=((List.range n).map λk=>if k=i then x else f k).map vi:=by
 apply rE
 ·simp
 ·intro k h1 A;rw[D4];simp only[dX,ur, @eq_comm _ k i];split<;>rfl
theorem Mx {l:List Int}{k:Nat}(h:k<l.length):l.getD k 0=l[k]:=by simp[List.getD,h]
theorem OL {l:List Int}{k:Nat}(h:l.length≤k):l.getD k 0=0:=by simp[List.getD,D3 h]
theorem zfm {h:ah}{v u:Value}{a b:List Int}(ha:kh h v a)(hb:kh h u b)(la:a.length≤4398046511104)(lb:b.length≤4398046511104):
  ag prog A3 #[v,u] h λr h'=>jE h' r (zI a b)∧Ext h h'∧∀k,blk r k→h.size≤k:=by
 apply QA;unfold FE;obtain⟨aa,ac,rfl,_⟩:=ha;obtain⟨ba,bc,rfl,_⟩:=hb;have ad:kh h (.slice aa a.length ac) a:=⟨_,_,rfl,by assumption⟩
 have al:kh h (.slice ba b.length bc) b:=⟨_,_,rfl,by assumption⟩
 simp only[go_sem];rw[show max (a.length:Int) (b.length:Int)=((max a.length b.length:Nat):Int)by omega];generalize hn:max a.length b.length=n;refine pF rfl (by omega) (by omega) λs h1 o1 e1 n1=>?_
 refine JL o1 (ad.ext e1).sl Ws λF o2 f2 _=>?_
 have e2:Ext h F:=e1.then_fr f2 n1;have an:Own 1 F s n (((List.range n).map λk=>a.getD k 0).map vi):=by
  have:(a.map vi).take n++(List.replicate n (Value.int .i64 0)).drop a.length=((List.range n).map λk=>a.getD k 0).map vi:=by
   apply List.ext_getElem
   ·simp;omega
   ·intro k h1 F;simp only[List.getElem_map,List.getElem_range,List.getElem_append,List.getElem_take,List.getElem_drop,List.getElem_replicate];split
    ·rename_i A;rw[List.length_take,List.length_map]at A;rw[Mx (show k<a.length by omega)]
    ·rename_i A;rw[List.length_take,List.length_map]at A;simp at F;rw[OL (show a.length≤k by omega)];rfl
  rw[←this];exact o2
 refine Al b.length (λk h'=>k≤b.length∧Own 1 h' s n (((List.range n).map λj=>if j<k then max (a.getD j 0) (b.getD j 0)else a.getD j 0).map vi)∧Ext h h') ⟨Nat.zero_le _,by simpa using an,e2⟩ ?_;rintro k h3 again ρj ⟨au,o3,W⟩ U;simp only[go_sem];refine ao (λA=>?_) (λA=>?_)
 ·have A:k<b.length:=by omega
  obtain⟨p,hp,hq⟩:=(al.ext W).sl.at1 (k:=.i64) A;rw[List.getElem_map]at hq;obtain⟨p',G,I,L⟩:=o3.at1 (k:=.i64) (i:=k) (by omega);have H:∀x:Int,x=max (a.getD k 0) (b.getD k 0)→stK 1 p' (.int .i64 x) h3 λa7 ar=>again [.int .i64 (IntKind.i64.wrap ((k:Int)+1))] ar:=by
   intro x hx;refine L _ _ rfl λh4 o4 f4 _=>?_
   rw[w64 (by omega) (by omega)];refine U h4 A ⟨A,?_,W.then_fr f4 n1⟩;rw[show(Value.int .i64 x)=vi x from rfl,QU]at o4;refine(congrArg (λl:List Int=>Own 1 h4 s n (l.map vi)) ?_).mp o4;apply List.map_congr_left;intro j _;subst hx;by_cases h1:j=k
   ·subst h1;simp
   ·simp only[h1,if_false];by_cases F:j<k
    ·simp[F,Nat.lt_succ_of_lt F]
    ·simp[F,show¬j<k+1 by omega]
  simp only[go_sem,hp,hq,vi];refine ao (λay=>?_) (λax=>?_)
  ·simp only[go_sem,G];refine H _ ?_;rw[OL (show a.length≤k by omega),Mx A]
  ·simp only[go_sem,G,I];rw[List.getElem_map,List.getElem_map,List.getElem_range,if_neg (Nat.lt_irrefl k)];simp only[vi,go_sem];exact H _ (by rw[Mx A])
 ·obtain rfl:k=b.length:=by omega
  refine Rc a.length b.length (λk h'=>Own 1 h' s n (((List.range n).map λj=>if j<k then max (a.getD j 0) (b.getD j 0)else a.getD j 0).map vi)∧Ext h h') ⟨o3,W⟩ ?_;rintro k h3 again ρj ab ⟨o3,W⟩ U;simp only[go_sem];refine ao (λA=>?_) (λA=>?_)
  ·have A:k<a.length:=by omega
   obtain⟨p',G,I,L⟩:=o3.at1 (k:=.i64) (i:=k) (by omega);simp only[go_sem,G,I];rw[List.getElem_map,List.getElem_map,List.getElem_range,if_neg (Nat.lt_irrefl k)];simp only[vi,go_sem];refine L _ _ rfl λh4 o4 f4 _=>?_
   rw[w64 (by omega) (by omega)];refine U h4 A ⟨?_,W.then_fr f4 n1⟩;rw[show(Value.int .i64 (max 0 (a.getD k 0)))=vi (max 0 (a.getD k 0))from rfl,QU]at o4;refine(congrArg (λl:List Int=>Own 1 h4 s n (l.map vi)) ?_).mp o4;apply List.map_congr_left;intro j _;by_cases h1:j=k
   ·subst h1;rw[if_pos rfl,if_pos (Nat.lt_succ_self j),OL ab,Int.max_comm]
   ·simp only[h1,if_false];by_cases F:j<k
    ·simp[F,Nat.lt_succ_of_lt F]
    ·simp[F,show¬j<k+1 by omega]
  ·refine⟨?_,W,n1⟩;unfold jE;rw[pR,hn];refine(congrArg (λl:List Int=>Own 1 h3 s n (l.map vi)) ?_).mp o3;unfold zI;rw[hn];apply List.map_congr_left;intro j hj;rw[if_pos (by have:=List.mem_range.1 hj;omega)]
end Go.Proofs.YtjljhnandbbldaaGreatDoor
namespace Go.Proofs.YtjljhnandbbldaaGreatDoor
open Go Go.Crisp Go.MapKept Go.RowKit
attribute [local irreducible] du bh stK aE vK qK bO gK fR bA mkK dy GQ
open _root_.Go.Proofs.Tryz
theorem Nj {w:World}{F:Nat}{e:TypeId}{v:Value}{A:List Int}(H:w.ownsRow F e 1 v A.length (A.map encZ)):jE w.heap v A∧∀b,blk v b→F≤b:=by
 obtain⟨_,H⟩:=H;rcases H with⟨rfl,W⟩|⟨g,cap,cur,rfl,I,U,hc,_,L,G⟩
 ·have:A=[]:=nZ W;subst this;exact⟨.inl ⟨rfl,rfl,rfl⟩,λb I=>I.elim⟩
 ·refine⟨.inr ⟨g,cap,cur.toList.drop A.length,e,rfl,hc,by simp,?_,?_⟩,λb h=>by rw[show b=g from h];exact I⟩
  ·rw[lN]at G;rw[show A.map vi=A.map encZ from rfl,←G,mC,Jv];exact L
  ·rw[lN]at G;rw[show A.map vi=A.map encZ from rfl,←G,mC,Ef];exact U
theorem RP {w w':World}(H:Below w.heap.size w w'):dO w w'∧Ext w.heap w'.heap:=⟨⟨H.os,H.tape,H.output⟩,H.size,λb A=>H.block b A⟩
def noR:Value→Option (DataW Unit×List MemPlace):=λ_=>some (.nil,[])
theorem Lh (x:Lit×DataW Unit):∀l:List (Lit×DataW Unit),(DataW.insert x l).Perm (x::l)
 | []=>I9 _
 |y::r=>by
  unfold DataW.insert;split
  ·exact I9 _
  ·exact((Lh x r).cons y).trans (List.Perm.swap x y r)
theorem GL:∀l:List (Lit×DataW Unit),(l.foldr DataW.insert []).Perm l
 | []=>I9 _
 |x::l=>by
  rw[List.foldr_cons];exact(Lh x _).trans ((GL l).cons x)
theorem UW {P:Program}{k:TypeId}{w:World}{b:Nat}{kv:List (Int×Value)}(hk:P.underlying k=some (.int .i64))(H:qJ w.heap b kv)(hw:∀p∈kv,(Lit.int .i64 p.1).wf=true)(hl:kv.length≤maxLen):
  ∃D:DataW Unit,w.ownsMap P k noR b kv.length D∧(intKeys D).Perm (kv.map Prod.fst)∧Go.Maps.size D=kv.length:=by
 obtain⟨W,c,hb,hs,he⟩:=H;have A:=he.length;have G:∀x∈W.toList,∃j,x.key=.int .i64 j∧(Lit.int .i64 j).wf=true:=λx I=>by
  have:(x.key,x.val)∈kv.map λp=>(Value.int .i64 p.1,p.2):=by rw[←he];exact List.mem_map.2 ⟨x,I,rfl⟩
  obtain⟨p,hp,aa⟩:=List.mem_map.1 this;exact⟨p.1,(congrArg Prod.fst aa).symm,hw p hp⟩
 have U:∀x∈W.toList,∀j,x.key=.int .i64 j→(Lit.int .i64 j).wf=true→WideElems.rd P k noR x=some (.int .i64 j,.nil):=λx I j L F=>by
  unfold WideElems.rd;rw[L];simp[keyOf,hk,mapKey,F,noR]
 refine⟨.map ((W.toList.map (WideElems.rg P k noR)).foldr DataW.insert []),⟨W,c,hb,⟨by rw[←Array.length_toList,A];exact hl,hs,λx I=>?_⟩,by rw[←Array.length_toList,A];exact Nat.le_refl _,rfl⟩,?_,?_⟩
 ·obtain⟨j,L,F⟩:=G x I;exact⟨_,U x I j L F⟩
 ·have h1:(W.toList.map (WideElems.rg P k noR)).map (λp=>_root_.Go.intOf p.1)=kv.map Prod.fst:=by
   have h2:kv.map Prod.fst=(kv.map λp=>(Value.int .i64 p.1,p.2)).map λq=>match q.1 with| .int _ n=>n|_=>0:=by simp[List.map_map,Function.comp_def]
   rw[h2,←he,List.map_map,List.map_map];refine List.map_congr_left λx I=>?_
   obtain⟨j,L,F⟩:=G x I;simp only[Function.comp_def];rw[WideElems.rg_of (U x I j L F),L];rfl
  rw[←h1];exact(GL _).map _
 ·show(List.foldr DataW.insert [] _).length=_;rw[(GL _).length_eq,List.length_map,A]
theorem OZ {P:Program}{f:FuncId}{args:Array Value}{w:World}{n:Nat}{R A:Ending→World→Prop}(H:CallsIn Fence.wide n P f args w R)(F:∀e w',R e w'→A e w'):Calls P f args w A:=(Te.1 H).mono F
theorem V2 {h:ah}{F b:Nat}{t:TypeId}{kv:List (Int×Value)}(r1:h[F]? =some (.cells #[.map (some b)] t (0,0)))(W:qJ h b kv)(hw:∀p∈kv,(Lit.int .i64 p.1).wf=true)(hl:kv.length≤1000000):
  ag prog qg #[.func (.func dQ) #[] #[.pointer (some ⟨F,0,none⟩)]] h λr h'=>∃ss:List Int,ss.Perm (kv.map Prod.fst)∧jE h' r ss∧Ext h h'∧∀k,blk r k→h.size≤k:=by
 refine ag.ofCalls (by kernel_rfl) λw hh=>?_
 subst hh;obtain⟨D,L,I,G⟩:=UW (P:=prog) (k:=(CF).t 26) Oy.t26 W hw (by unfold maxLen;omega);have seq:=AnyZI.keys_gives Oy Fence.wide 3 trivial rfl ae F b kv.length D w (bD r1) (show aH w.heap ⟨F,0,none⟩=_ from by rw[am r1];rfl) L;have:=AnyZI.collect_in QI Fence.wide 5 trivial trivial rfl ae _ #[.pointer (some ⟨F,0,none⟩)] trivial (λargs w=>pe (by kernel_rfl)) _ _ (by rw[G];unfold maxLen;omega) (by rw[G];omega) w seq;refine OZ this ?_;rintro e w' ⟨v,ss,rfl,U,A,_,H⟩;obtain⟨o,n⟩:=Nj A;obtain⟨s,e⟩:=RP H;exact⟨v,rfl,s,ss,U.trans I,o,e,n⟩
end Go.Proofs.YtjljhnandbbldaaGreatDoor
namespace Go.Proofs.YtjljhnandbbldaaGreatDoor
open Go Go.Crisp
attribute [local irreducible] ag du bh stK aE vK qK bO gK fR bA mkK dy GQ
open _root_.Go.Proofs.Tryz
theorem Sh {h:ah}:jE h (.slice none 0 0) []:=.inl ⟨rfl,rfl,rfl⟩
theorem JJ (a:Addr)(n c n' c':Nat):ak .sl .eql (.slice (some a) n c) (.slice none n' c')=some (.bool false):=cW rfl rfl
theorem JK (n c n' c':Nat):ak .sl .eql (.slice none n c) (.slice none n' c')=some (.bool true):=cW rfl rfl
theorem Rv {e:TypeId}{h:ah}{v:Value}{l:List Int}{K:Value→ah→Prop}(W:kh h v l)(hl:l.length≤4398046511104)
  (H:∀r h',jE h' r l→Ext h h'→(∀b,blk r b→h.size≤b)→K r h'):du #[] e 0 [] h λv2 A=>dy ai e 1 8 v2 v A K:=by
 refine di (c':=#[]) (by kernel_rfl) λb h1 r1 F G=>?_
 refine w8 (n:=0) (cs:=[]) (.inr ⟨b,0,[],e,rfl,cf _,rfl,rfl,r1⟩) (W.ext F).sl Ws rfl ae ae λI h2 o2 f2 L=>?_
 rw[aO,fX]at o2;refine H I h2 o2 (F.then_fr f2 λi hi=>by rw[show i=b from hi];exact G) λk U=>?_
 rcases L k U with A|A
 ·rw[show k=b from A];exact G
 ·exact bB F.1 A
theorem Zc {h:ah}{v:Value}{l:List Int}(A:kh h v l)(G:l.length≤4398046511104):
  ag prog dZ #[v] h λr h'=>jE h' r l∧Ext h h'∧∀b,blk r b→h.size≤b:=by
 apply qH;unfold jI;have F:=A;obtain⟨a,cap,rfl,A⟩:=A;cases a with
 |none=>
  simp only[JK,go_sem];rcases A with rfl|⟨b,o,h1,_⟩
  ·exact⟨Sh,Ext.refl h,λb H=>H.elim⟩
  ·cases h1
 |some a=>
  simp only[JJ,go_sem];exact Rv F G λr h' o e n=>⟨o,e,n⟩
structure ms (M:Nat→Prop)(h:ah)(bc:Nat)(sl:Value)(sv:Nat→Value)(t:TypeId)(n:Nat)(rows:Nat→List Int):Prop where
 var:h[bc]? =some (.cells #[sl] t (0,0))
 arr:Own 1 h sl n ((List.range n).map sv)
 row:∀i,i<n→jE h (sv i) (rows i)
 len:∀i,i<n→(rows i).length=n
 pos:1≤n∧n≤512
 inM:M bc∧(∀b,blk sl b→M b)∧∀i,i<n→∀b,blk (sv i) b→M b
 ap1:¬blk sl bc
 ap2:∀i,i<n→∀b,blk (sv i) b→b≠bc∧¬blk sl b
 ap3:∀i j,i<n→j<n→i≠j→∀b,blk (sv i) b→¬blk (sv j) b
 lt:∀b,M b→b<h.size
def fZ (M:Nat→Prop)(h:ah)(v:Value)(n:Nat)(rows:Nat→List Int):Prop:=
 ∃bc sl sv t,v=.pointer (some ⟨bc,0,none⟩)∧ms M h bc sl sv t n rows
theorem ms.fr {M Q:Nat→Prop}{h h':ah}{F:Nat}{sl:Value}{sv:Nat→Value}{t:TypeId}{n:Nat}{rows:Nat→List Int}(C:ms M h F sl sv t n rows)(f:Fr Q h h')(hq:∀b,b<h.size→M b→¬Q b):ms M h' F sl sv t n rows:=
 {C with
  var:=f.row C.var (hq F (C.lt _ C.inM.1) C.inM.1)
  arr:=C.arr.fr f λb A=>hq b (C.lt _ (C.inM.2.1 b A)) (C.inM.2.1 b A)
  row:=λi hi=>(C.row i hi).fr f λb A=>hq b (C.lt _ (C.inM.2.2 i hi b A)) (C.inM.2.2 i hi b A)
  lt:=λb A=>ce (C.lt b A) f.1}
theorem ms.ext {M:Nat→Prop}{h h':ah}{A:Nat}{sl:Value}{sv:Nat→Value}{t:TypeId}{n:Nat}{rows:Nat→List Int}(C:ms M h A sl sv t n rows)(e:Ext h h'):ms M h' A sl sv t n rows:=C.fr (Q:=λ_=>False) e.fr λ_ _ _=>id
theorem fZ.fr {M Q:Nat→Prop}{h h':ah}{v:Value}{n:Nat}{rows:Nat→List Int}(H:fZ M h v n rows)(f:Fr Q h h')(hq:∀b,b<h.size→M b→¬Q b):fZ M h' v n rows:=by
 obtain⟨A,sl,sv,t,rfl,C⟩:=H;exact⟨A,sl,sv,t,rfl,C.fr f hq⟩
theorem fZ.ext {M:Nat→Prop}{h h':ah}{v:Value}{n:Nat}{rows:Nat→List Int}(H:fZ M h v n rows)(e:Ext h h'):fZ M h' v n rows:=H.fr (Q:=λ_=>False) e.fr λ_ _ _=>id
theorem zfc {M:Nat→Prop}{h:ah}{v:Value}{n:Nat}{rows:Nat→List Int}(H:fZ M h v n rows)(i:Int):
  ag prog kg #[v,af i] h λr h'=>r=.bool (decide (0≤i∧i<n))∧h'=h:=by
 obtain⟨F,sl,sv,t,rfl,C⟩:=H;apply IN;unfold xK;have A:=C.arr.sl;obtain⟨_,a,cap,rfl,_⟩:=A;by_cases h0:0≤i
 ·simp only[go_sem,h0,am C.var,Av,and_true]
 ·simp only[go_sem,h0,false_and,and_true]
def LX (n:Nat)(rows:Nat→List Int)(i:Int):List Int:=if 0≤i∧i<n then rows i.toNat else[]
theorem zeq {M:Nat→Prop}{h:ah}{v:Value}{n:Nat}{rows:Nat→List Int}(H:fZ M h v n rows)(i:Int):
  ag prog lJ #[v,af i] h λr h'=>jE h' r (LX n rows i)∧Ext h h'∧∀b,blk r b→h.size≤b:=by
 apply Gx;unfold wD;refine(zfc H i).mono ?_;rintro _ h' ⟨rfl,rfl⟩;by_cases hi:0≤i∧i<n
 ·obtain⟨k,rfl⟩:=Td hi.1;have A:k<n:=ae;obtain⟨I,sl,sv,t,rfl,C⟩:=H;obtain⟨p,F,hq⟩:=C.arr.sl.at1 (k:=.i64) A;rw[dX,ur]at hq;simp only[go_sem,hi,am C.var,F,hq,Ao];rw[show LX n rows (k:Int)=rows k by unfold LX;rw[aA hi];rfl];refine(Zc (C.row k A).ints (by rw[C.len k A];have:=C.pos;omega)).mono ?_;rintro r h1 H;exact H
 ·simp only[go_sem,hi];rw[show LX n rows i=[]by unfold LX;rw[aq hi]];exact⟨Sh,Ext.refl _,λb G=>G.elim⟩
theorem ms.put {M:Nat→Prop}{h h':ah}{I:Nat}{sl:Value}{sv:Nat→Value}{t:TypeId}{n:Nat}{rows:Nat→List Int}(C:ms M h I sl sv t n rows){k:Nat}(G:k<n){l:List Int}
  (o:jE h' (sv k) l) (L:l.length=n) (f:Fr (blk (sv k)) h h'):ms M h' I sl sv t n (λj=>if j=k then l else rows j):=
 { C with
  var:=f.row C.var λF=>(C.ap2 k G _ F).1 rfl
  arr:=C.arr.fr f λb F H=>(C.ap2 k G b H).2 F
  row:=λi hi=>by
   by_cases A:i=k
   ·subst A;simpa using o
   ·simp only[A,cH];exact(C.row i hi).fr f λb F=>C.ap3 i k hi G A b F
  len:=λi hi=>by
   by_cases A:i=k
   ·subst A;simpa using L
   ·simp only[A,cH];exact C.len i hi
  lt:=λb F=>ce (C.lt b F) f.1}
def jP (n:Nat)(rows:Nat→List Int)(i:Int):Nat→List Int:=
 if 0≤i∧i<n then λj=>if j=i.toNat then(rows i.toNat).set i.toNat (IntKind.i64.wrap ((rows i.toNat).getD i.toNat 0+1))else rows j else rows
theorem XM {M:Nat→Prop}{h:ah}{v:Value}{n:Nat}{rows:Nat→List Int}(H:fZ M h v n rows)(i:Int):
  ag prog iT #[v,af i] h λr h'=>jE h' r (LX n rows i)∧fZ M h' v n (jP n rows i)∧Fr M h h'∧∀b,blk r b→h.size≤b:=by
 apply EJ;unfold uS;refine(zeq H i).mono ?_;rintro r h1 ⟨o1,I,n1⟩;refine(zfc (H.ext I) i).mono ?_;rintro _ h2 ⟨rfl,rfl⟩;by_cases hi:0≤i∧i<n
 ·obtain⟨k,rfl⟩:=Td hi.1;have A:k<n:=ae;obtain⟨bc,sl,sv,t,rfl,C0⟩:=H;have C:=C0.ext I;obtain⟨p,hp,hq⟩:=C.arr.sl.at1 (k:=.i64) A;rw[dX,ur]at hq;have F:k<(rows k).length:=by rw[C.len k A];exact A
  obtain⟨p',L,G,U⟩:=Own.at1 (C.row k A) (k:=.i64) F;rw[dX]at G;simp only[go_sem,hi,am C.var,hp,hq,Ao,L,G,vi];refine U _ _ rfl λh3 o3 f3 _=>?_
  have o4:jE h3 (sv k) ((rows k).set k (IntKind.i64.wrap ((rows k)[k]+1))):=by
   unfold jE;rw[IY,Mf];exact o3
  have C':=C.put A o4 (by rw[IY];exact C.len k A) f3;refine⟨o1.fr f3 λb W aa=>?_,⟨bc,sl,sv,t,rfl,?_⟩,?_,n1⟩
  ·have h5:=n1 b W;have:=C0.lt b (C0.inM.2.2 k A b aa);omega
  ·unfold jP;rw[aA hi];simp only[dW];rw[Mx F];exact C'
  ·exact I.fr.trans (f3.mono λb _ W=>C.inM.2.2 k A b W)
 ·simp only[go_sem,hi];refine⟨o1,?_,I.fr,n1⟩;unfold jP;rw[aq hi];exact H.ext I
theorem c_Min {h:ah}{v:Value}{l:List Int}(hv:kh h v l)(h0:l≠[])(hl:l.length≤4398046511104):
  ag prog ib #[v] h λr h'=>(∃m,r=af m∧(decide (m<0)=l.any λx=>decide (x<0)))∧h'=h:=by
 apply tD;unfold kj;have hp:0<l.length:=vw.2 h0;have hs:=hv.sl;obtain⟨a,cap,rfl,_⟩:=hv;refine bF (λL h'=>L=[]∧h'=h) ?_ ?_
 ·simp only[go_sem];refine ao (λh1=>ae) (λ_=>⟨trivial,trivial⟩)
 ·rintro _ ρj h' ⟨rfl,hh⟩;subst hh;obtain⟨p,G,A⟩:=hs.at1 (k:=.i64) (i:=0) hp;rw[dX]at A;rw[show((0:Nat):Int)=0 from rfl]at G;simp only[go_sem,G,A];refine c5 (λd L U=>U=h'∧∃(k:Nat) (m:Int),1≤k∧k≤l.length∧d=l.length-k∧L=[af m,af (k:Int)]∧decide (m<0)=(l.take k).any λx=>decide (x<0)) (l.length-1)
   ⟨rfl,1,l[0],ae,ae,rfl,rfl,?_⟩ ?_
  ·cases l with
   |nil=>exact absurd rfl h0
   |cons x l=>simp
  ·rintro d _ ρj _ again ⟨rfl,k,m,h1,hk,rfl,rfl,hm⟩ W;simp only[go_sem];refine ao (λaa=>?_) (λab=>?_)
   ·have F:k<l.length:=ae;obtain⟨p,I,H⟩:=hs.at1 (k:=.i64) F;rw[dX]at H;simp only[go_sem,I,H,vi];rw[w64 ae ae];refine W _ _ (l.length-(k+1)) ae ⟨rfl,k+1,_,ae,ae,rfl,rfl,?_⟩;rw[iY F,List.any_append,←hm];simp only[List.any_cons,List.any_nil,Bool.or_false];rw[←Bool.decide_or,ir];omega
   ·refine⟨⟨m,rfl,?_⟩,trivial⟩;rw[hm,fB ae]
def GC (n:Nat)(i:Int)(s:List Int):Bool:=decide (0≤i∧i<n)&&(decide (s.length=n)&& !s.any λx=>decide (x<0))
def eI (n:Nat)(rows:Nat→List Int)(i:Int)(s:List Int):Nat→List Int:=
 if GC n i s=true then λj=>if j=i.toNat then zI (rows i.toNat) s else rows j else rows
theorem ms.swap {M:Nat→Prop}{h h':ah}{bc:Nat}{sl:Value}{sv:Nat→Value}{t:TypeId}{n:Nat}{rows:Nat→List Int}(C:ms M h bc sl sv t n rows){k:Nat}(hk:k<n){l:List Int}{v:Value}
  (o:jE h' v l) (hl:l.length=n) (f:Fr (blk sl) h h') (a:Own 1 h' sl n ((List.range n).map λj=>if j=k then v else sv j)) (I:∀b,blk v b→b<h'.size∧¬M b):
  ms (λb=>M b∨blk v b) h' bc sl (λj=>if j=k then v else sv j) t n (λj=>if j=k then l else rows j) where
 var:=f.row C.var C.ap1
 arr:=a
 row:=λi hi=>by
  by_cases A:i=k
  ·simp only[A,cN];exact o
  ·simp only[A,cH];exact(C.row i hi).fr f λb F=>(C.ap2 i hi b F).2
 len:=λi hi=>by
  by_cases A:i=k
  ·simp only[A,cN];exact hl
  ·simp only[A,cH];exact C.len i hi
 pos:=C.pos
 inM:=⟨.inl C.inM.1,λb F=>.inl (C.inM.2.1 b F),λi hi b F=>by
  by_cases A:i=k
  ·simp only[A,cN]at F;exact .inr F
  ·simp only[A,cH]at F;exact .inl (C.inM.2.2 i hi b F)⟩
 ap1:=C.ap1
 ap2:=λi hi b F=>by
  by_cases A:i=k
  ·simp only[A,cN]at F;exact⟨λU=>(I b F).2 (U▸C.inM.1),λhs=>(I b F).2 (C.inM.2.1 b hs)⟩
  ·simp only[A,cH]at F;exact C.ap2 i hi b F
 ap3:=λi j hi W H b F G=>by
  by_cases A:i=k
  ·subst A;simp only[cN,iu H,cH]at F G;exact(I b F).2 (C.inM.2.2 j W b G)
  ·simp only[A,cH]at F;by_cases L:j=k
   ·simp only[L,cN]at G;exact(I b G).2 (C.inM.2.2 i hi b F)
   ·simp only[L,cH]at G;exact C.ap3 i j hi W H b F G
 lt:=λb F=>by
  rcases F with F|F
  ·exact ce (C.lt b F) f.1
  ·exact(I b F).1
theorem MT (n:Nat)(f:Nat→Value)(i:Nat)(x:Value):((List.range n).map f).set i x=(List.range n).map λk=>if k=i then x else f k:=by
 apply rE
 ·simp
 ·intro k h1 A;rw[D4];simp only[dX,ur, @eq_comm _ k i]
theorem DU {h:ah}{v:Value}{l:List Int}(o:jE h v l):aV v=true:=by
 rcases o with⟨rfl,_⟩|⟨b,cap,r,e,rfl,_⟩<;>rfl
theorem zfk {M:Nat→Prop}{h:ah}{v u:Value}{n:Nat}{rows:Nat→List Int}(H:fZ M h v n rows)(i:Int){s:List Int}(hu:kh h u s)(hs:s.length≤4398046511104):
  ag prog gE #[v,af i,u] h λr h'=>r=.bool (GC n i s)∧∃M',fZ M' h' v n (eI n rows i s)∧Fr M h h'∧∀b,M' b→M b∨h.size≤b:=by
 apply EL;unfold uT;refine(zfc H i).mono ?_;rintro _ h' ⟨rfl,hh⟩;subst hh;have no:GC n i s=false→∃M',fZ M' h' v n (eI n rows i s)∧Fr M h' h'∧∀b,M' b→M b∨h'.size≤b:=λhm=>
  ⟨M,by unfold eI;rw[hm];exact H,Fr.refl _ _,λb F=>.inl F⟩
 have aa:=hu;obtain⟨ua,uc,rfl,_⟩:=hu;by_cases hi:0≤i∧i<n
 ·obtain⟨bc,sl,sv,t,rfl,C⟩:=H;have au:=C.pos;have an:=C.arr.sl;obtain⟨_,sa,sc,rfl,_⟩:=an;by_cases hn:s.length=n
  ·have I:((s.length:Int)=(n:Int)):=ae;simp only[go_sem,hi,am C.var,Ao,I];refine(c_Min aa (by intro h0;subst h0;simp at hn;omega) hs).mono ?_;rintro _ h1 ⟨⟨m,rfl,hm⟩,hh⟩;subst hh;simp only[go_sem,hm];cases G:s.any λx=>decide (x<0)with
   |true=>
    have A:GC n i s=false:=by simp[GC,G]
    simp only[go_sem];exact⟨by rw[A],no A⟩
   | false=>
    have A:GC n i s=true:=by simp[GC,G,hi,hn]
    obtain⟨k,rfl⟩:=Td hi.1;have L:k<n:=ae;simp only[go_sem];refine KE ?_;obtain⟨p,hp,hq⟩:=C.arr.sl.at1 (k:=.i64) L;rw[dX,ur]at hq;refine aD (.slice sa n sc) (λh2 e=>by rw[am (e.row C.var)];rfl) ?_;refine aD (.slice sa n sc) (λh2 e=>by rw[am (e.row C.var)];rfl) ?_;rw[hp,aj];refine aD (sv k) (λh2 e=>?_) ?_
    ·obtain⟨p2,ab,ad⟩:=(C.ext e).arr.sl.at1 (k:=.i64) L;rw[dX,ur]at ad;rw[hp]at ab;cases ab;exact ad
    refine(zfm (C.row k L).ints aa (by rw[C.len k L];omega) hs).mono ?_;rintro r h2 ⟨o2,e2,n2⟩;refine⟨e2,?_⟩;have C2:=C.ext e2;obtain⟨p3,W,ax,al⟩:=C2.arr.at1 (k:=.i64) L;rw[hp]at W;cases W;rw[aj];refine al _ _ (DU o2) λh3 o3 f3 _=>?_
    rw[MT]at o3;have U:∀b,blk r b→¬M b:=λb F hm=>by have:=C.lt b hm;have:=n2 b F;omega
    have o4:jE h3 r (zI (rows k) s):=o2.fr f3 λb F ar=>U b F (C.inM.2.1 b ar)
    have C3:=C2.swap L o4 (by rw[pR,C.len k L,hn];exact Nat.max_self n) f3 o3 λb F=>⟨Own.lt o4 F,U b F⟩
    have CC:fZ (λb=>M b∨blk r b) h3 (.pointer (some ⟨bc,0,none⟩)) n (eI n rows k s):=by
     unfold eI;rw[aA A];exact⟨bc,_,_,t,rfl,C3⟩
    refine⟨by rw[A],(λb=>M b∨blk r b),CC,e2.fr.trans (f3.mono λb _ F=>C.inM.2.1 b F),λb F=>Or.imp (λh=>h) (n2 b) F⟩
  ·have I:¬((s.length:Int)=(n:Int)):=ae;have A:GC n i s=false:=by simp[GC,hn]
   simp only[go_sem,hi,am C.var,Ao,I];exact⟨by rw[A],no A⟩
 ·have A:GC n i s=false:=by simp[GC,hi]
  simp only[go_sem,hi];exact⟨by rw[A],no A⟩
end Go.Proofs.YtjljhnandbbldaaGreatDoor
namespace Go.Proofs.YtjljhnandbbldaaGreatDoor
open Go Go.Crisp
attribute [local irreducible] ag du bh stK aE vK qK bO gK fR bA mkK dy GQ pG pH Q9
open _root_.Go.Proofs.Tryz
section
structure Bag (M:Nat→Prop)(h:ah)(bx bm:Nat)(fr:Value)(w:Nat)(all:List (Value×List Int)):Prop where
 own:∀p∈all,jE h p.1 p.2∧p.2.length=w∧∀k,blk p.1 k→k≠bx∧k≠bm∧¬blk fr k∧M k
 apart:all.Pairwise λa b=>∀k,blk a.1 k→¬blk b.1 k
theorem Bag.perm {M:Nat→Prop}{h:ah}{bx bm:Nat}{fr:Value}{w:Nat}{all A:List (Value×List Int)}(B:Bag M h bx bm fr w all)(p:A.Perm all):Bag M h bx bm fr w A where
 own:=λq hq=>B.own q (p.mem_iff.1 hq)
 apart:=(p.pairwise_iff (λ{x y} G k H F=>G k F H)).2 B.apart
theorem Bag.fr {M Q:Nat→Prop}{h h':ah}{bx bm:Nat}{fr:Value}{w:Nat}{all:List (Value×List Int)}(B:Bag M h bx bm fr w all)(f:Fr Q h h')(q:∀p∈all,∀k,blk p.1 k→¬Q k):Bag M h' bx bm fr w all where
 own:=λp A=>⟨(B.own p A).1.fr f (q p A),(B.own p A).2⟩
 apart:=B.apart
theorem Bag.ext {M:Nat→Prop}{h h':ah}{bx bm:Nat}{fr:Value}{w:Nat}{all:List (Value×List Int)}(B:Bag M h bx bm fr w all)(e:Ext h h'):Bag M h' bx bm fr w all:=B.fr (Q:=λ_=>False) e.fr λ_ _ _ _=>id
theorem Bag.mono {M M':Nat→Prop}{h:ah}{bx bm:Nat}{fr F:Value}{w:Nat}{all:List (Value×List Int)}(B:Bag M h bx bm fr w all)(H:∀k,M k→M' k)(I:∀p∈all,∀k,blk p.1 k→¬blk F k):Bag M' h bx bm F w all where
 own:=λp A=>⟨(B.own p A).1,(B.own p A).2.1,λk G=>⟨((B.own p A).2.2 k G).1,((B.own p A).2.2 k G).2.1,I p A k G,H k ((B.own p A).2.2 k G).2.2.2⟩⟩
 apart:=B.apart
structure AF (M:Nat→Prop)(h:ah)(bx bm:Nat)(fr:Value)(t:TypeId)(room w:Nat)(es:List (Int×(Value×List Int)))(fv xs:List (Value×List Int)):Prop where
 var:h[bx]? =some (.cells #[.int .i64 room,.int .i64 w,.map (some bm),fr] t (0,0))
 map:qJ h bm (rF Prod.fst es)
 free:Own 1 h fr fv.length (fv.map Prod.fst)
 bag:Bag M h bx bm fr w (es.map Prod.snd++fv++xs)
 ap:bx≠bm∧¬blk fr bx∧¬blk fr bm
 inM:M bx∧M bm∧∀k,blk fr k→M k
 lt:∀k,M k→k<h.size
 nums:1≤room∧room≤65536∧w≤262144
 keys:∀e∈es,(Lit.int .i64 e.1).wf=true
 len:es.length≤room
 tot:es.length+fv.length+xs.length≤room+1
def iN (M:Nat→Prop)(h:ah)(v:Value)(room w:Nat)(rs:List (Int×List Int)):Prop:=
 ∃bx bm fr t es fv,v=.pointer (some ⟨bx,0,none⟩)∧AF M h bx bm fr t room w es fv []∧rs=rF Prod.snd es∧es.length+fv.length≤room
theorem AF.fr {M Q:Nat→Prop}{h h':ah}{bx bm:Nat}{fr:Value}{t:TypeId}{room w:Nat}{I:List (Int×(Value×List Int))}{F H:List (Value×List Int)}(R:AF M h bx bm fr t room w I F H)(f:Fr Q h h')(q:∀b,b<h.size→M b→¬Q b):AF M h' bx bm fr t room w I F H:=
 {R with
  var:=f.row R.var (q bx (R.lt _ R.inM.1) R.inM.1)
  map:=R.map.fr f (q bm (R.lt _ R.inM.2.1) R.inM.2.1)
  free:=R.free.fr f λk A=>q k (R.lt _ (R.inM.2.2 k A)) (R.inM.2.2 k A)
  bag:=R.bag.fr f λp G k A=>q k (R.lt _ ((R.bag.own p G).2.2 k A).2.2.2) ((R.bag.own p G).2.2 k A).2.2.2
  lt:=λk A=>ce (R.lt k A) f.1}
theorem iN.fr {M Q:Nat→Prop}{h h':ah}{v:Value}{room w:Nat}{rs:List (Int×List Int)}(H:iN M h v room w rs)(f:Fr Q h h')(q:∀b,b<h.size→M b→¬Q b):iN M h' v room w rs:=by
 obtain⟨bx,bm,fr,t,F,A,rfl,R,h1,G⟩:=H;exact⟨bx,bm,fr,t,F,A,rfl,R.fr f q,h1,G⟩
theorem iN.ext {M:Nat→Prop}{h h':ah}{v:Value}{room w:Nat}{rs:List (Int×List Int)}(H:iN M h v room w rs)(e:Ext h h'):iN M h' v room w rs:=H.fr (Q:=λ_=>False) e.fr λ_ _ _=>id
theorem iN.lt {M:Nat→Prop}{h:ah}{v:Value}{room w:Nat}{rs:List (Int×List Int)}(H:iN M h v room w rs){b:Nat}(A:M b):b<h.size:=by
 obtain⟨bx,bm,fr,t,G,F,rfl,R,h1,I⟩:=H;exact R.lt b A
theorem iN.nodup {M:Nat→Prop}{h:ah}{v:Value}{room w:Nat}{rs:List (Int×List Int)}(H:iN M h v room w rs):(rs.map Prod.fst).Nodup:=by
 obtain⟨bx,bm,fr,t,G,A,rfl,R,rfl,F⟩:=H;rw[zH,←zH Prod.fst];exact R.map.nodup
theorem iN.nums {M:Nat→Prop}{h:ah}{v:Value}{room w:Nat}{rs:List (Int×List Int)}(H:iN M h v room w rs):1≤room∧room≤65536∧w≤262144∧rs.length≤room∧(∀p∈rs,p.2.length=w∧(Lit.int .i64 p.1).wf=true):=by
 obtain⟨bx,bm,fr,t,I,G,rfl,R,rfl,L⟩:=H;refine⟨R.nums.1,R.nums.2.1,R.nums.2.2,by simpa[rF]using R.len,λp F=>?_⟩;obtain⟨e,A,rfl⟩:=fO.1 F;exact⟨(R.bag.own e.2 (by simp;exact .inl ⟨e.1,A⟩)).2.1,R.keys e A⟩
def lg (a:Int):Nat:=(min (max 1 a) 65536).toNat
def iq (a:Int):Nat:=(min (max 0 a) 262144).toNat
theorem zfi {h:ah}(a b:Int):ag prog G8 #[af a,af b] h λr h'=>∃M,iN M h' r (lg a) (iq b) []∧Ext h h'∧∀k,M k→h.size≤k:=by
 apply U4;unfold KW;have W:min (max 1 a) 65536=((lg a:Nat):Int):=by unfold lg;omega
 have hb:min (max 0 b) 262144=((iq b:Nat):Int):=by unfold iq;omega
 have h1:1≤lg a∧lg a≤65536:=by unfold lg;omega
 have L:iq b≤262144:=by unfold iq;omega
 simp only[go_sem,W,hb];generalize lg a=room at h1;generalize iq b=w at L;refine SV λbm h3 F U n3=>?_
 rw[JW _ #[af room,af w,.map (some bm),.slice none 0 0] (by kernel_rfl)];refine aJ (c:=#[af room,af w,.map (some bm),.slice none 0 0]) λbx h4 H A n4=>?_
 obtain⟨t,I⟩:∃t,h4[bx]? =some (.cells #[af room,af w,.map (some bm),.slice none 0 0] t (0,0)):=⟨_,H⟩
 have lm:=F.lt;refine⟨λk=>k=bx∨k=bm,⟨bx,bm,.slice none 0 0,t,[],[],rfl,?_,rfl,by simp⟩,U.trans A,?_⟩
 ·exact{
   var:=I,map:=F.ext A,free:=.inl ⟨rfl,rfl,rfl⟩,bag:=⟨λp hp=>absurd hp (by simp),List.Pairwise.nil⟩
   ap:=⟨ae,λh=>h.elim,λh=>h.elim⟩,inM:=⟨.inl rfl,.inr rfl,λk G=>G.elim⟩
   lt:=λk G=>by
    rcases G with rfl|rfl
    ·exact bD I
    ·exact(F.ext A).lt
   nums:=⟨h1.1,h1.2,L⟩,keys:=λe he=>absurd he (by simp),len:=by simp,tot:=by simp}
 ·rintro k (rfl|rfl)
  ·exact bB U.1 n4
  ·exact n3
section
variable {M:Nat→Prop}{h:ah}{v:Value}{room w:Nat}{rs:List (Int×List Int)}
theorem zcs (H:iN M h v room w rs):ag prog qk #[v] h λr h'=>r=af (w:Nat)∧h'=h:=by
 obtain⟨bx,bm,fr,t,G,A,rfl,R,rfl,F⟩:=H;apply Gk;unfold we;simp only[go_sem,am R.var];exact⟨trivial,trivial⟩
theorem zcr (H:iN M h v room w rs):ag prog qi #[v] h λr h'=>r=af ((room:Int)*w)∧h'=h:=by
 obtain⟨bx,bm,fr,t,I,G,rfl,R,rfl,U⟩:=H;apply Gj;unfold vZ;have A:=R.nums;have L:room*w≤65536*262144:=vu A.2.1 A.2.2;have F:((room*w:Nat):Int)=(room:Int)*w:=mB ..;simp only[go_sem,am R.var];rw[w64 ae ae];exact⟨rfl,trivial⟩
theorem zct (H:iN M h v room w rs)(j:Int):ag prog nH #[v,af j] h λr h'=>r=.bool (ga j rs).isSome∧h'=h:=by
 obtain⟨bx,bm,fr,t,A,F,rfl,R,rfl,G⟩:=H;apply Kl;unfold zg;simp only[go_sem,am R.var,C6 R.map];rw[tN,tN];cases ga j A with
 |none=>simp only[Mr,Vk,uq,go_sem];exact⟨rfl,trivial⟩
 |some p=>simp only[cR,Vk,uq,go_sem];exact⟨rfl,trivial⟩
theorem Pq {h:ah}{v:Value}{l:List Int}(A:kh h v l)(G:l.length≤4398046511104):
  ag prog dt #[v] h λr h'=>jE h' r l∧Ext h h'∧∀b,blk r b→h.size≤b:=by
 apply jU;unfold gv;have F:=A;obtain⟨a,cap,rfl,A⟩:=A;cases a with
 |none=>
  simp only[JK,go_sem];rcases A with rfl|⟨b,o,h1,_⟩
  ·exact⟨Sh,Ext.refl h,λb H=>H.elim⟩
  ·cases h1
 |some a=>
  simp only[JJ,go_sem];exact Rv F G λr h' o e n=>⟨o,e,n⟩
theorem zfg (H:iN M h v room w rs)(j:Int):ag prog uB #[v,af j] h λr h'=>∃u,r=.tuple #[u,.bool (ga j rs).isSome]∧jE h' u ((ga j rs).getD [])∧Ext h h'∧∀b,blk u b→h.size≤b:=by
 have F:=H.nums;obtain⟨bx,bm,fr,t,G,L,rfl,R,rfl,U⟩:=H;apply Kj;unfold y9;simp only[go_sem,am R.var,C6 R.map];rw[tN,tN];cases I:ga j G with
 |none=>
  simp only[Mr,Vk,uq,go_sem];refine(Pq (v:=.slice none 0 0) (l:=[]) ⟨none,0,rfl,.inl rfl⟩ (by simp)).mono ?_;rintro u h1 ⟨o,e,n⟩;exact⟨u,rfl,o,e,n⟩
 |some p=>
  simp only[cR,Vk,uq,go_sem];have A:=R.bag.own p (by simp;exact .inl ⟨j,Oz I⟩);refine(Pq A.1.ints (by rw[A.2.1];omega)).mono ?_;rintro u h1 ⟨o,e,n⟩;exact⟨u,rfl,o,e,n⟩
def yD:List Int→Int
 | []=>0
 |x::l=>l.foldl min x
theorem ZX {a b:List Int}(h:a.Perm b):yD a=yD b:=by
 have key:∀(l:List Int) (x:Int),(∀y∈x::l,l.foldl min x≤y)∧l.foldl min x∈x::l:=by
  intro l;induction l with
  |nil=>intro x;simp
  | cons z l H=>
   intro x;rw[xY];obtain⟨h1,G⟩:=H (min x z);have U:=h1 (min x z) (Js ..);refine⟨λy F=>?_,?_⟩
   ·rcases fC.1 F with rfl|F
    ·omega
    ·rcases fC.1 F with rfl|F
     ·omega
     ·exact h1 y (uo _ F)
   ·rcases fC.1 G with G|G
    ·rw[G];rcases D8 x z with A|A
     ·rw[Int.min_eq_left A];simp
     ·rw[Int.min_eq_right A];simp
    ·exact uo _ (uo _ G)
 cases a with
 |nil=>have:=h.nil_eq;subst this;rfl
 | cons x l=>
  cases b with
  |nil=>have:=h.symm.nil_eq;cases this
  |cons y m=>
   obtain⟨a1,a2⟩:=key l x;obtain⟨L,I⟩:=key m y;exact Int.le_antisymm (a1 _ (h.mem_iff.2 I)) (L _ (h.mem_iff.1 a2))
theorem ZW {l:List Int}(h:l≠[])(x:Int):yD (l++[x])=min (yD l) x:=by
 cases l with
 |nil=>exact absurd rfl h
 |cons y l=>simp[yD]
theorem zd0 {h:ah}{v:Value}{l:List Int}(hv:kh h v l)(h0:l≠[])(hl:l.length≤4398046511104):
  ag prog iA #[v] h λr h'=>r=af (yD l)∧h'=h:=by
 apply ug;unfold kH;have hp:0<l.length:=vw.2 h0;have hs:=hv.sl;obtain⟨a,cap,rfl,_⟩:=hv;refine bF (λL h'=>L=[]∧h'=h) ?_ ?_
 ·simp only[go_sem];refine ao (λh1=>ae) (λ_=>⟨trivial,trivial⟩)
 ·rintro _ ρj h' ⟨rfl,hh⟩;subst hh;obtain⟨p,G,A⟩:=hs.at1 (k:=.i64) (i:=0) hp;rw[dX]at A;rw[show((0:Nat):Int)=0 from rfl]at G;simp only[go_sem,G,A];refine c5 (λd L U=>U=h'∧∃(k:Nat),1≤k∧k≤l.length∧d=l.length-k∧L=[af (yD (l.take k)),af (k:Int)]) (l.length-1)
   ⟨rfl,1,ae,ae,rfl,?_⟩ ?_
  ·cases l with
   |nil=>exact absurd rfl h0
   |cons x l=>rfl
  ·rintro d _ ρj _ again ⟨rfl,k,h1,hk,rfl,rfl⟩ aa;simp only[go_sem];refine ao (λab=>?_) (λad=>?_)
   ·have F:k<l.length:=ae;obtain⟨p,I,H⟩:=hs.at1 (k:=.i64) F;rw[dX]at H;simp only[go_sem,I,H,vi];rw[w64 ae ae];refine aa _ _ (l.length-(k+1)) ae ⟨rfl,k+1,ae,ae,rfl,?_⟩;have W:l.take k≠[]:=λh=>by
     have h9:=congrArg List.length h;rw[de,kS]at h9;omega
    rw[iY F,ZW W];rfl
   ·rw[fB ae];exact⟨rfl,trivial⟩
theorem VY (H:iN M h v room w rs):ag prog qn #[v] h λr h'=>r=.tuple #[af (yD (rs.map Prod.fst)),.bool (!decide (rs=[]))]∧Ext h h':=by
 have L:=H.nums;obtain⟨bx,bm,fr,t,G,fv,rfl,R,rfl,h2⟩:=H;apply Gl;unfold wg;by_cases h0:G=[]
 ·subst h0;simp only[go_sem,am R.var,Mv R.map,rF,List.map_nil,kS,Int.natCast_zero];exact⟨rfl,Ext.refl h⟩
 ·have hl:¬(((rF Prod.fst G).length:Nat):Int)=0:=by
   simp only[rF,cS];have:=vw.2 h0;omega
  simp only[go_sem,am R.var,Mv R.map,hl];apply jz;unfold eN;refine aJ λb1 h1 r1 U n1=>?_
  have F:(rF Prod.fst G).length≤1000000:=by
   have:=R.len;have:=R.nums;simp only[rF,cS];omega
  refine(V2 r1 (R.map.ext U) (λp W=>?_) F).mono ?_
  ·obtain⟨e,he,rfl⟩:=fO.1 W;exact R.keys e he
  rintro u h3 ⟨ss,A,o3,e3,n3⟩;have I:ss.length=G.length:=by rw[A.length_eq];simp[rF]
  refine(zd0 o3.ints (by intro h;subst h;simp at I;exact h0 (nZ I.symm)) (by have:=R.len;have:=R.nums;omega)).mono ?_;rintro _ h4 ⟨rfl,rfl⟩;refine⟨?_,U.trans e3⟩;rw[ZX A,zH,zH];have:¬rF Prod.snd G=[]:=by simpa[rF]using h0
  simp[this]
end
end
theorem JC {α:Type}{j:Int}{p:α}{A:List (Int×α)}(F:ga j A=some p):(qI j A).length+1=A.length:=by
 have:=(KB F).length_eq;simpa using this.symm
theorem zfe {M:Nat→Prop}{h:ah}{bx bm:Nat}{fr:Value}{t:TypeId}{room w:Nat}{W:List (Int×(Value×List Int))}{H:List (Value×List Int)}(R:AF M h bx bm fr t room w W H []){j:Int}{p:Value×List Int}(hg:ga j W=some p):
  ag prog rM #[.pointer (some ⟨bx,0,none⟩),af j] h λ_ h'=>∃M' L,AF M' h' bx bm L t room w (qI j W) (H++[p]) []∧Fr M h h'∧(∀k,M' k→M k∨h.size≤k)∧
   ∀U c,h[bm]? =some (.map U c)→∃ar,h'[bm]? =some (.map ar c)∧∀e∈ar,e∈U∧e.key≠af j:=by
 apply IA;unfold xx;refine aS (λhh=>hh[bx]? =some (.cells #[af room,af w,.map (some bm),fr] t (0,0))∧hh[bm]? =h[bm]?) ⟨R.var,rfl⟩ ?_
 try simp only[go_sem]
 refine aD fr (λhh S=>by rw[am S.1];rfl) ?_;refine aD (.map (some bm)) (λhh S=>by rw[am S.1];rfl) ?_;refine aD p.1 (λhh S=>by rw[C6 (R.map.row S.2),tN,hg];rfl) ?_;have an:p∈W.map Prod.snd++H++[]:=by simp;exact .inl ⟨j,Oz hg⟩
 have hp:=R.bag.own p an;have ad:=DU hp.1;refine di (Rp.fill_one ad) λb1 h1 r1 I n1=>?_
 have a9:=bD R.var;have aa:=R.map.lt;refine⟨⟨I.row R.var,I.2 bm aa⟩,?_⟩;have S1:=Rp.SlC.single (cs:=[p.1]) r1;have a8:=R.nums;have ax:=R.tot;simp only[kS,gN]at ax;refine w8 (R.free.fr (M:=λ_=>False) I.fr λ_ _=>id) S1 (az ad bi) rfl ae ae λL h2 o2 f2 n2=>?_
 have v2:=f2.row (I.row R.var) R.ap.2.1;have m2:h2[bm]? =h[bm]? :=(f2.2 bm (ce aa I.1) R.ap.2.2).trans (I.2 bm aa);refine⟨⟨v2,m2⟩,?_⟩;have G:∀k,blk L k→k≠bx∧k≠bm:=λk A=>by
  rcases n2 k A with h3|h3
  ·exact⟨λh4=>R.ap.2.1 (h4▸h3),λh4=>R.ap.2.2 (h4▸h3)⟩
  ·have:=I.1;exact⟨ae,ae⟩
 obtain⟨fa,fc,rfl⟩:∃a c,L=.slice a (H.length+1) c:=o2.isSl
 try simp only[go_sem]
 refine ck (o:=3) v2 (by simp) rfl λh3 r3 u3=>?_
 have r3:h3[bx]? =some (.cells #[af room,af w,.map (some bm),.slice fa (H.length+1) fc] t (0,0)):=r3;have m3:h3[bm]? =h[bm]? :=(u3.2 bm (iu R.ap.1)).trans m2;simp only[go_sem,am r3];refine zbY (R.map.row m3) λh4 m4 u4 d4=>?_
 have al:Fr (λk=>M k) h h4:=((I.fr.trans (f2.mono λk _ A=>R.inM.2.2 k A)).trans (u3.fr.mono λk _ A=>by rw[show k=bx from A];exact R.inM.1)).trans (u4.fr.mono λk _ A=>by rw[show k=bm from A];exact R.inM.2.1);have bc:∀k,M k→k<h.size:=R.lt;have ab:(((qI j W).map Prod.snd++(H++[p]))++[]).Perm (W.map Prod.snd++H++[]):=by
  have h5:=(KB hg).map Prod.snd;rw[sq]at h5;rw[fN,fN,←cj];exact(Ja (l₁:=(qI j W).map Prod.snd++H) (l₂:=[p])).trans (h5.symm.append_right H)
 have F:∀q∈W.map Prod.snd++H++[],∀k,blk q.1 k→k≠bx∧k≠bm∧¬blk fr k∧M k:=λq hq=>(R.bag.own q hq).2.2
 have au:Bag M h4 bx bm fr w (W.map Prod.snd++H++[]):=by
  refine(((R.bag.ext I).fr f2 λq hq k A=>(F q hq k A).2.2.1).fr u3.fr λq hq k A=>(F q hq k A).1).fr u4.fr λq hq k A=>(F q hq k A).2.1
 refine⟨λk=>M k∨blk (.slice fa (H.length+1) fc) k,.slice fa (H.length+1) fc,?_,al,λk A=>?_,?_⟩
 ·exact{
   var:=u4.row (λh=>R.ap.1 h) r3
   map:=by rw[OC]at m4;exact m4
   free:=by
    have:=(o2.fr u3.fr λk A=>(G k A).1).fr u4.fr λk A=>(G k A).2
    rw[co,jA];exact this
   bag:=(au.mono (λk A=>.inl A) λq hq k A ay=>by
    rcases n2 k ay with h5|h5
    ·exact(F q hq k A).2.2.1 h5
    ·have:=R.lt k (F q hq k A).2.2.2;have:=I.1;omega).perm ab
   ap:=⟨R.ap.1,λA=>(G _ A).1 rfl,λA=>(G _ A).2 rfl⟩
   inM:=⟨.inl R.inM.1,.inl R.inM.2.1,λk A=>.inr A⟩
   lt:=λk A=>by
    rcases A with A|A
    ·exact ce (R.lt k A) al.1
    ·have:=o2.lt A;have:=u3.1;have:=u4.1;omega
   nums:=R.nums
   keys:=λe he=>R.keys e (OB.subset he)
   len:=by have:=JC hg;have:=R.len;omega
   tot:=by have:=JC hg;simp;omega}
 ·rcases A with A|A
  ·exact .inl A
  ·rcases n2 k A with h5|h5
   ·exact .inl (R.inM.2.2 k h5)
   ·exact .inr (bB I.1 h5)
 ·intro U c a7;exact d4 U c (m3.trans a7)
theorem Own.shrink {h:ah}{v:Value}{n:Nat}{cs:List Value}(H:Own 1 h v n cs)(hn:0<n):∃F,yu 1 v none (some (af ((n-1:Nat):Int)))=some F∧Own 1 h F (n-1) cs.dropLast∧(∀k,blk F k→blk v k):=by
 rcases H with⟨rfl,rfl,rfl⟩|⟨b,cap,r,e,rfl,hc,G,W,I⟩
 ·omega
 ·have A:cs≠[]:=λh0=>by rw[h0]at G;simp at G;omega
  refine⟨.slice (some ⟨b,0,none⟩) (n-1) cap,?_,.inr ⟨b,cap,cs.getLast A::r,e,rfl,ae,by simp;omega,?_,?_⟩,λk L=>L⟩
  ·have h1:(0:Int)≤((n-1:Nat):Int)∧((n-1:Nat):Int)≤(cap:Int):=ae;have U:¬cap=0:=ae;simp only[yu,bdV,aA h1,dW,aq U,cR,nD,Ap,Ar,gN]
  ·rw[←W]
   conv=>rhs;rw[←Tc A]
   simp
  ·rw[I]
   conv=>lhs;rw[←Tc A]
   simp
theorem Bag.last {M:Nat→Prop}{h h':ah}{bx bm:Nat}{fr:Value}{w:Nat}{all:List (Value×List Int)}{u:Value}{F l:List Int}(B:Bag M h bx bm fr w (all++[(u,F)]))(f:Fr (blk u) h h')(o:jE h' u l)(H:l.length=w):Bag M h' bx bm fr w (all++[(u,l)]) where
 own:=λp A=>by
  rcases cQ.1 A with A|A
  ·have h1:=B.own p (xT _ A);have U:=(pN.1 B.apart).2.2 p A (u,F) (by simp);exact⟨h1.1.fr f λk L=>U k L,h1.2⟩
  ·rw[dc.1 A];exact⟨o,H,(B.own (u,F) (by simp)).2.2⟩
 apart:=by
  have h1:=pN.1 B.apart;refine pN.2 ⟨h1.1,by simp,λa G b I=>?_⟩;rw[dc.1 I];exact h1.2.2 a G (u,F) (by simp)
theorem zdD {M:Nat→Prop}{h:ah}{bx bm:Nat}{fr:Value}{t:TypeId}{room w:Nat}{U:List (Int×(Value×List Int))}{F:List (Value×List Int)}(R:AF M h bx bm fr t room w U F [])(h1:U.length<room)(h2:U.length+F.length≤room):
  ag prog qh #[.pointer (some ⟨bx,0,none⟩)] h λu h'=>∃M' ay aa l0,AF M' h' bx bm ay t room w U aa [(u,l0)]∧Fr M h h'∧(∀k,M' k→M k∨h.size≤k)∧U.length+1+aa.length≤room:=by
 apply Gi;unfold vY;have bc:=R.nums;obtain⟨fa,fc,rfl⟩:=R.free.isSl;simp only[go_sem,am R.var];refine ao (λhp=>?_) (λhz=>?_)
 ·have hp:0<F.length:=ae;have ab:IntKind.i64.wrap ((F.length:Int)-1)=((F.length-1:Nat):Int):=by rw[w64 ae ae];omega
  obtain⟨p,al,a8⟩:=R.free.sl.at1 (k:=.i64) (i:=F.length-1) ae;obtain⟨v',a7,ad,G⟩:=Own.shrink R.free hp;rw[ab,al,aj,a8,aj,a7,aj];have I:F≠[]:=vw.1 hp;have W:(F.map Prod.fst)[F.length-1]'(by simp;omega)=(F.getLast I).1:=by
   rw[dX];congr 1;rw[List.getLast_eq_getElem]
  rw[W];refine ck (o:=3) R.var (by simp) (by obtain⟨_,_,rfl⟩:=ad.isSl;rfl) λh3 r3 u3=>?_
  have r3:h3[bx]? =some (.cells #[af room,af w,.map (some bm),v'] t (0,0)):=r3;have au:F.dropLast.map Prod.fst=(F.map Prod.fst).dropLast:=by simp
  refine⟨M,v',F.dropLast,(F.getLast I).2,?_,u3.fr.mono λk _ A=>by rw[show k=bx from A];exact R.inM.1,λk A=>.inl A,by simp;omega⟩;have ar:∀k,blk v' k→k≠bx:=λk A an=>R.ap.2.1 (an▸G k A)
  have L:(U.map Prod.snd++F.dropLast++[F.getLast I]).Perm (U.map Prod.snd++F++[]):=by
   rw[cj,Tc I,fN]
  exact{
   var:=r3
   map:=R.map.row (u3.2 bm (iu R.ap.1))
   free:=by rw[List.length_dropLast,au];exact ad.fr u3.fr λk A=>ar k A
   bag:=((R.bag.fr u3.fr λq hq k A=>((R.bag.own q hq).2.2 k A).1).mono (λk A=>A) λq hq k A H=>((R.bag.own q hq).2.2 k A).2.2.1 (G k H)).perm L
   ap:=⟨R.ap.1,λA=>R.ap.2.1 (G _ A),λA=>R.ap.2.2 (G _ A)⟩
   inM:=⟨R.inM.1,R.inM.2.1,λk A=>R.inM.2.2 k (G k A)⟩
   lt:=λk A=>by rw[u3.1];exact R.lt k A
   nums:=R.nums,keys:=R.keys,len:=R.len
   tot:=by simp;omega}
 ·have a9:F=[]:=nZ ae;subst a9;refine pF rfl ae ae λu h3 o3 e3 n3=>?_
  have ax:jE h3 u (List.replicate w 0):=by
   unfold jE;rw[pM,Tj];exact o3
  have R3:=R.fr (Q:=λ_=>False) e3.fr λ_ _ _=>id
  refine⟨λk=>M k∨blk u k,.slice fa ([]:List (Value×List Int)).length fc,[],List.replicate w 0,?_,e3.fr,λk A=>A.imp id (n3 k),by simp;omega⟩;have hu:∀k,blk u k→¬M k:=λk A hm=>by have:=R.lt k hm;have:=n3 k A;omega
  exact{R3 with
   bag:=by
    refine⟨λq hq=>?_,?_⟩
    ·rcases cQ.1 hq with hq|hq
     ·have h5:=R3.bag.own q (by simpa using hq);exact⟨h5.1,h5.2.1,λk A=>⟨(h5.2.2 k A).1,(h5.2.2 k A).2.1,(h5.2.2 k A).2.2.1,.inl (h5.2.2 k A).2.2.2⟩⟩
     ·rw[dc.1 hq];exact⟨ax,by simp,λk A=>⟨λh=>hu k A (h▸R.inM.1),λh=>hu k A (h▸R.inM.2.1),λh=>hu k A (R.inM.2.2 k h),.inr A⟩⟩
    ·refine pN.2 ⟨by simpa using R3.bag.apart,by simp,λa ha b hb k A H=>?_⟩;rw[dc.1 hb]at H;exact hu k H ((R3.bag.own a (by simpa using ha)).2.2 k A).2.2.2
   inM:=⟨.inl R.inM.1,.inl R.inM.2.1,λk A=>.inl (R.inM.2.2 k A)⟩
   lt:=λk A=>by
    rcases A with A|A
    ·exact R3.lt k A
    ·exact o3.lt A
   tot:=by simp;omega}
def De (room:Nat)(rs:List (Int×List Int)):Bool:=decide (room≤rs.length)
def wI (room w:Nat)(rs:List (Int×List Int))(j:Int)(l:List Int):Bool:=decide (l.length=w)&&((ga j rs).isNone&& !(De room rs&&decide (j<yD (rs.map Prod.fst))))
def nB (room:Nat)(rs:List (Int×List Int)):List (Int×List Int):=if De room rs=true then qI (yD (rs.map Prod.fst)) rs else rs
def UP (room w:Nat)(rs:List (Int×List Int))(j:Int)(l:List Int):List (Int×List Int):=if wI room w rs j l=true then nB room rs++[(j,l)]else rs
theorem Vg {l:List Int}(h:l≠[]):yD l∈l:=by
 have key:∀(l:List Int) (x:Int),l.foldl min x∈x::l:=by
  intro l;induction l with
  |nil=>intro x;simp
  | cons z l G=>
   intro x;rw[xY];rcases fC.1 (G (min x z))with F|F
   ·rw[F];rcases D8 x z with A|A
    ·rw[Int.min_eq_left A];simp
    ·rw[Int.min_eq_right A];simp
   ·exact uo _ (uo _ F)
 cases l with
 |nil=>exact absurd rfl h
 |cons x l=>exact key l x
theorem zfh {M:Nat→Prop} {h:ah} {v u:Value} {room w:Nat} {rs:List (Int×List Int)} (H:iN M h v room w rs) {j:Int} (hj:(Lit.int .i64 j).wf=true) {l:List Int} (hu:kh h u l) (cc:l.length≤9223372036854775807) (hn:∀b,blk u b→¬M b):
  ag prog uC #[v,af j,u] h λr h'=>r=.bool (wI room w rs j l)∧∃M',iN M' h' v room w (UP room w rs j l)∧Fr M h h'∧∀k,M' k→M k∨h.size≤k:=by
 have H0:=H;have b4:=H.nodup;have ca:=H.nums;have bo:=λh' (e:Ext h h')=>VY (H.ext e)
 obtain⟨bx,bm,fr,t,es,fv,rfl,R,L,bk⟩:=H;apply Kk;unfold zc;have b7:=hu;obtain⟨ua,uc,rfl,_⟩:=hu;have no:wI room w rs j l=false→∀h',Ext h h'→∃M',iN M' h' (.pointer (some ⟨bx,0,none⟩)) room w (UP room w rs j l)∧Fr M h h'∧∀k,M' k→M k∨h.size≤k:=λI h' e=>
  ⟨M,by unfold UP;rw[I];exact H0.ext e,e.fr,λk A=>.inl A⟩
 by_cases hw:l.length=w
 ·have ar:(l.length:Int)=(w:Int):=ae;simp only[go_sem,am R.var,ar];refine(zct H0 j).mono ?_;rintro _ h1 ⟨rfl,hh⟩;subst hh
  try simp only[go_sem]
  cases hg:ga j rs with
  |some q=>
   simp only[Option.isSome_some,go_sem];have I:wI room w rs j l=false:=by simp[wI,hg]
   exact⟨by rw[I],no I _ (Ext.refl _)⟩
  | none=>
   simp only[Option.isSome_none,go_sem];refine bF (λxs h'=>xs=[]∧wI room w rs j l=true∧∃M' au ab be,AF M' h' bx bm au t room w ab be []∧ab.length<room∧ab.length+be.length≤room∧rF Prod.snd ab=nB room rs∧Fr M h1 h'∧∀k,M' k→M k∨h1.size≤k) ?_ ?_
   ·refine(VY H0).mono ?_;rintro _ h2 ⟨rfl,e2⟩;have R2:=R.fr (Q:=λ_=>False) e2.fr λ_ _ _=>id
    have b0:(rF Prod.fst es).length=rs.length:=by rw[L];simp[rF]
    simp only[go_sem,am R2.var,Mv R2.map,b0];refine ao (λF=>?_) (λbd=>?_)
    ·have F:room≤rs.length:=ae;have hf:De room rs=true:=by simp[De,F]
     refine ao (λb6=>?_) (λb1=>?_)
     ·have I:wI room w rs j l=false:=by simp[wI,hf,b6]
      exact⟨by rw[I],no I _ e2⟩
     ·have I:wI room w rs j l=true:=by simp[wI,hf,b1,hg,hw]
      have b3:rs.map Prod.fst≠[]:=λh0=>by
       have:=congrArg List.length h0;simp at this;rw[this]at F;simp at F;omega
      have aa:=Vg b3;generalize hm:yD (rs.map Prod.fst)=m at aa;have A:∃p,ga m es=some p:=by
       cases hc:ga m es with
       |some p=>exact⟨p,rfl⟩
       |none=>
        have:=oG.1 hc;rw[L,zH]at aa;exact absurd aa this
      obtain⟨p,A⟩:=A;refine(zfe R2 A).mono ?_;rintro _ h3 ⟨M',au,G,f3,n3,_⟩;have cb:=JC A;have b2:es.length=rs.length:=by rw[L];simp[rF]
      refine⟨trivial,I,M',au,qI m es,fv++[p],G,by have:=R.len;omega,by simp;omega,?_,e2.fr.trans f3,λk A=>(n3 k A).imp id λW=>bB e2.1 W⟩;unfold nB;rw[aA hf,hm,L,OC]
    ·have bd:¬room≤rs.length:=ae;have hf:De room rs=false:=by simp[De];omega
     have b2:es.length=rs.length:=by rw[L];simp[rF]
     refine⟨trivial,by simp[wI,hf,hg,hw],M,fr,es,fv,R2,ae,bk,?_,e2.fr,λk A=>.inl A⟩;unfold nB;rw[hf];exact L.symm
   ·rintro _ ρj h2 ⟨rfl,I,M2,cp,U,ci,R2,l2,t2,a7,f2,n2⟩;refine(zdD R2 l2 t2).mono ?_;rintro x h3 ⟨M3,bc,a9,l0,G,f3,n3,t3⟩;have al:=G.bag.own (x,l0) (by simp);have f13:Fr (λk=>M k∨h1.size≤k) h1 h3:=(f2.mono λk _ A=>.inl A).trans (f3.mono λk _ A=>n2 k A);have bg:Fr M h1 h3:=⟨f13.1,λb hb hm=>f13.2 b hb λhc=>hc.elim hm λW=>ae⟩
    have us:SlC 1 h3 (.slice ua l.length uc) l.length (l.map vi):=b7.sl.fr bg λb _ hb=>hn b hb
    have xo:Own 1 h3 x w (l0.map vi):=by
     have W:=al.1;unfold jE at W;rw[al.2.1]at W;exact W
    have xl:(l0.map vi).length=w:=by rw[cS];exact al.2.1
    refine JL xo us Ws λh4 o4 f4 s4=>?_
    have b5:jE h4 x l:=by
     have h6:(l.map vi).take w++(l0.map vi).drop l.length=l.map vi:=by
      rw[fB (by rw[cS];omega),rC ae,fN]
     rw[h6]at o4;unfold jE;rw[hw];exact o4
    have an:=G.bag.last (l:=l) f4 b5 hw;have ad:=al.2.2;have v4:=f4.row G.var λhb=>(ad _ hb).1 rfl
    have m4:=G.map.fr f4 λhb=>(ad _ hb).2.1 rfl
    have bv:=G.free.fr f4 λk A ax=>(ad k ax).2.2.1 A
    simp only[go_sem,am v4];refine Sc m4 λW m5 u5=>?_
    have ay:ga j U=none:=by
     cases hc:ga j U with
     |none=>rfl
     | some p=>
      exfalso;have h6:ga j (nB room rs)=some p.2:=by rw[←a7,tN,hc];rfl
      unfold nB at h6;split at h6
      ·rw[JB b4,hg]at h6;split at h6<;>cases h6
      ·rw[hg]at h6;cases h6
    have a8:GD j x (rF Prod.fst U)=rF Prod.fst (U++[(j,(x,l))]):=by
     rw[JA (by rw[tN,ay];rfl)];simp[rF]
    rw[a8]at m5;have f35:Fr M3 h3 W:=(f4.mono λk _ A=>(ad k A).2.2.2).trans (u5.fr.mono λk _ A=>by rw[show k=bm from A];exact G.inM.2.1);have f15:Fr M h1 W:=by
     have h7:Fr (λk=>M k∨h1.size≤k) h1 W:=f13.trans (f35.mono λk _ A=>(n3 k A).elim (n2 k) λh8=>.inr (bB f2.1 h8));exact⟨h7.1,λb hb hm=>h7.2 b hb λhc=>hc.elim hm λW=>ae⟩
    refine⟨by rw[I],M3,⟨bx,bm,bc,t,U++[(j,(x,l))],a9,rfl,?_,?_,by simp;omega⟩,f15,λk A=>(n3 k A).elim (n2 k) λh8=>.inr (bB f2.1 h8)⟩
    ·have b8:Bag M3 W bx bm bc w (U.map Prod.snd++a9++[(x,l)]):=an.fr u5.fr λq hq k A=>((an.own q hq).2.2 k A).2.1
     exact{
      var:=u5.row (λh=>G.ap.1 h) v4
      map:=m5
      free:=bv.fr u5.fr λk A ax=>G.ap.2.2 (ax▸A)
      bag:=b8.perm (by
       rw[fN,jA,cj,cj];exact(Ja (l₁:=[(x,l)])).append_left _)
      ap:=G.ap,inM:=G.inM
      lt:=λk A=>ce (G.lt k A) f35.1
      nums:=G.nums
      keys:=λe he=>by
       rcases cQ.1 he with he|he
       ·exact G.keys e he
       ·rw[dc.1 he];exact hj
      len:=by simp;omega
      tot:=by simp;omega}
    ·unfold UP;rw[aA I,←a7];simp[rF]
 ·have ar:¬(l.length:Int)=(w:Int):=ae;have I:wI room w rs j l=false:=by simp[wI,hw]
  simp only[go_sem,am R.var,ar];exact⟨by rw[I],no I _ (Ext.refl _)⟩
def KP (rs:List (Int×List Int))(a b n:Int)(is:Bool):Prop:=
 (is=true∧a≤n∧n<b∧ga n rs=none∧∀i,a≤i→i<n→(ga i rs).isSome=true)∨(is=false∧n=0∧∀i,a≤i→i<b→(ga i rs).isSome=true)
theorem zdZ {M:Nat→Prop}{h:ah}{v:Value}{room w:Nat}{rs:List (Int×List Int)}(H:iN M h v room w rs){a b:Int}(ha: -9223372036854775808≤a)(hb:b≤9223372036854775807):
  ag prog rN #[v,af a,af b] h λr h'=>(∃n U,r=.tuple #[af n,.bool U]∧KP rs a b n U)∧h'=h:=by
 apply IB;unfold xy;refine c5 (λd xs h'=>h'=h∧∃j,a≤j∧d=(b-j).toNat∧xs=[af j]∧∀i,a≤i→i<j→(ga i rs).isSome=true) (b-a).toNat ⟨rfl,a,ae,rfl,rfl,λi h1 G=>ae⟩ ?_;rintro d _ ρj h1 again ⟨hh,j,I,rfl,rfl,A⟩ L;subst hh;simp only[go_sem];refine ao (λF=>?_) (λaa=>?_)
 ·refine(zct H j).mono ?_;rintro _ G ⟨rfl,hh⟩;subst hh
  try simp only[go_sem]
  cases W:ga j rs with
  |none=>
   simp only[Option.isSome_none,go_sem];exact⟨⟨j,true,rfl,.inl ⟨rfl,I,F,W,A⟩⟩,trivial⟩
  |some p=>
   simp only[Option.isSome_some,go_sem];rw[w64 ae ae];refine L _ _ (b-(j+1)).toNat ae ⟨rfl,j+1,ae,rfl,rfl,λi h1 G=>?_⟩;by_cases hi:i=j
   ·rw[hi,W];rfl
   ·exact A i h1 ae
 ·exact⟨⟨0,false,rfl,.inr ⟨rfl,rfl,λi h1 G=>A i h1 ae⟩⟩,trivial⟩
theorem wf64 {n:Int}(h1: -9223372036854775808≤n)(A:n≤9223372036854775807):(Lit.int .i64 n).wf=true:=by
 show(decide (IntKind.i64.min≤n)&&decide (n≤IntKind.i64.max))=true;rw[dj,dd,dd];exact⟨h1,A⟩
end Go.Proofs.YtjljhnandbbldaaGreatDoor
namespace Go.Proofs.YtjljhnandbbldaaGreatDoor
open Go Go.Crisp
attribute [local irreducible] ag du bh stK aE vK qK bO gK fR bA mkK dy GQ IQ DT bsK clK pG pH Q9
open _root_.Go.Proofs.Tryz
section
structure gb where
 m:Pic
 s:Stg
 t:cP
structure gb.Wf (d:gb):Prop where
 m:d.m.Wf
 s:d.s.Wf
 su:oS d.m d.s
 w1:1≤d.t.w
 h1:1≤d.t.h
 x0:0≤d.t.x
 y0:0≤d.t.y
 xw:d.t.x+d.t.w≤d.s.x.lines.length
 yh:d.t.y+d.t.h≤d.s.y.lines.length
abbrev Xe (bf bt:Nat)(p q rv:Value)(d:gb)(y:Int):List Value:=[ptr bf,ptr bt,p,q,.int .i64 d.s.border]++dK d.t++[rv,.int .i64 y]
structure fS (Z M:Nat→Prop)(h:ah)(bj bf:Nat)(vf:Value)(bt:Nat)(vt p q rv:Value)(d:gb)(y:Int)(n:Pic)(room w:Nat)(rs:List (Int×List Int)):Prop where
 row:h[bj]? =some (.cells (Xe bf bt p q rv d y).toArray 246 (0,0))
 src:dp h bf vf d.m
 tx:gi Z h p d.s.x
 ty:gi Z h q d.s.y
 ring:iN M h rv room w rs
 out:dp h bt vt n
 zf:Z bf∧∀c,blk vf c→Z c
 zz:∀c,Z c→¬M c∧c≠bj∧¬blk vt c
 mj:¬M bj∧¬M bt∧(∀c,blk vt c→¬M c)
 jt:bj≠bt∧¬blk vt bj
 y0:d.t.y≤y
 y1:y≤d.t.y+d.t.h
 zl:∀c,Z c→c<h.size
section
variable {Z M:Nat→Prop}{h:ah}{bj bf:Nat}{vf:Value}{bt:Nat}{vt p q rv:Value}{d:gb}{y:Int}{n:Pic}{room w:Nat}{rs:List (Int×List Int)}
theorem fS.ext {h':ah}(J:fS Z M h bj bf vf bt vt p q rv d y n room w rs)(e:Ext h h'):fS Z M h' bj bf vf bt vt p q rv d y n room w rs:=
 ⟨e.row J.row,J.src.ext e,J.tx.ext e,J.ty.ext e,J.ring.ext e,J.out.ext e,J.zf,J.zz,J.mj,J.jt,J.y0,J.y1,λc hc=>ce (J.zl c hc) e.1⟩
theorem gb.bd (W:d.Wf):d.t.x+d.t.w≤65536∧d.t.y+d.t.h≤65536:=by
 have:=W.s.x.len;have:=W.s.y.len;have:=W.xw;have:=W.yh;omega
theorem ze8 (J:fS Z M h bj bf vf bt vt p q rv d y n room w rs)(W:d.Wf):ag prog p9 #[ptr bj] h λr h'=>r=.bool (decide (d.t.y+d.t.h≤y))∧h'=h:=by
 apply Gd;unfold vT;have A:=gb.bd W;have h1:=W.y0;have F:=W.h1;simp only[go_sem,aO,am J.row];simp only[Xe,dK,oe,fX,Am,yf,Ei,go_sem];rw[w64 (n:=d.t.y+d.t.h) ae ae];exact⟨rfl,trivial⟩
theorem fS.c2 {h':ah}(J:fS Z M h bj bf vf bt vt p q rv d y n room w rs)(e:Ext h h'):aH h' ⟨bj,2,none⟩=some p:=by rw[am (e.row J.row)];rfl
theorem fS.c3 {h':ah}(J:fS Z M h bj bf vf bt vt p q rv d y n room w rs)(e:Ext h h'):aH h' ⟨bj,3,none⟩=some q:=by rw[am (e.row J.row)];rfl
theorem fS.c4 {h':ah}(J:fS Z M h bj bf vf bt vt p q rv d y n room w rs)(e:Ext h h'):aH h' ⟨bj,4,none⟩=some (af d.s.border):=by rw[am (e.row J.row)];rfl
theorem fS.c0 {h':ah}(J:fS Z M h bj bf vf bt vt p q rv d y n room w rs)(e:Ext h h'):aH h' ⟨bj,0,none⟩=some (ptr bf):=by rw[am (e.row J.row)];rfl
theorem fS.c1 {h':ah}(J:fS Z M h bj bf vf bt vt p q rv d y n room w rs)(e:Ext h h'):aH h' ⟨bj,1,none⟩=some (ptr bt):=by rw[am (e.row J.row)];rfl
theorem fS.c6 {h':ah}(J:fS Z M h bj bf vf bt vt p q rv d y n room w rs)(e:Ext h h'):aH h' ⟨bj,6,none⟩=some (af d.t.x):=by rw[am (e.row J.row)];rfl
theorem fS.c8 {h':ah}(J:fS Z M h bj bf vf bt vt p q rv d y n room w rs)(e:Ext h h'):aH h' ⟨bj,8,none⟩=some (af d.t.w):=by rw[am (e.row J.row)];rfl
theorem fS.c15 {h':ah}(J:fS Z M h bj bf vf bt vt p q rv d y n room w rs)(e:Ext h h'):aH h' ⟨bj,15,none⟩=some rv:=by rw[am (e.row J.row)];rfl
theorem fS.c16 {h':ah}(J:fS Z M h bj bf vf bt vt p q rv d y n room w rs)(e:Ext h h'):aH h' ⟨bj,16,none⟩=some (af y):=by rw[am (e.row J.row)];rfl
theorem RI (J:fS Z M h bj bf vf bt vt p q rv d y n room w rs)(W:d.Wf):ag prog lE #[ptr bj] h λr h'=>
  ∃u,r=.agg #[af (bG d.s.y y).1,u]∧SlI (gq h h') h' u (bG d.s.y y).2∧Ext h h':=by
 apply Ge;unfold vU;refine aJ λb1 h1 r1 A I=>?_
 have l1:=bD r1;simp only[go_sem,aO];refine aS (λh'=>h'=h1) rfl ?_;refine aD q (λh' e=>by rw[e];exact J.c3 A) ?_;refine aD (af y) (λh' e=>by rw[e];exact J.c16 A) ?_;refine(Ds (J.ty.ext A) W.s.y).mono λr h2 ⟨u,e,S,H⟩=>?_
 subst e;refine da (l:=[af (bG d.s.y y).1,u]) (H.row r1) rfl (az rfl (az S.one bi)) rfl λh3 L G=>?_
 rw[aW L 2 rfl,aj];refine⟨u,rfl,?_,(A.trans H).upd I G⟩;refine(S.fr G.fr λc _ F U=>?_).mono λc hc F=>⟨bB A.1 F.1,hc⟩
 have:=F.1;omega
abbrev C5 (k j:Int):Value:=.agg #[.int .i64 k,.int .i64 j]
def Wi (d:gb)(y:Int)(rs:List (Int×List Int))(k j:Int):Prop:=
 if d.t.y+d.t.h≤y then k=0∧j=0 else
  (k=1∧KP rs (bG d.s.y y).1 ((bG d.s.y y).1+((bG d.s.y y).2.length:Int)) j true)∨(k=2∧j=y∧KP rs (bG d.s.y y).1 ((bG d.s.y y).1+((bG d.s.y y).2.length:Int)) 0 false)
theorem zaz (J:fS Z M h bj bf vf bt vt p q rv d y n room w rs)(W:d.Wf):ag prog ji #[ptr bj] h λr h'=>∃k j,r=C5 k j∧Wi d y rs k j∧Ext h h':=by
 apply Gg;unfold vW;refine aJ λb1 h1 r1 I n1=>?_
 have l1:=bD r1;have H:=J.ext I;refine(ze8 H W).mono λr U ⟨e,A⟩=>?_
 have A:=A.symm;subst e A;refine ao (λU=>?_) (λU=>?_)
 ·rw[ia,bJ,aj];refine da (l:=[ai,ai]) r1 rfl (az rfl (az rfl bi)) rfl λh3 r3 u3=>?_
  rw[aW r3 2 rfl,aj];exact⟨0,0,rfl,by unfold Wi;rw[aA U];exact⟨rfl,rfl⟩,I.upd n1 u3⟩
 refine(RI H W).mono λr h3 ⟨u,e,S,e3⟩=>?_
 subst e;refine dh (cs:=[af (bG d.s.y y).1,u]) rfl (az rfl (az S.one bi)) rfl λb4 h4 r4 e4 n4=>?_
 have F:=e3.trans e4;have J4:=H.ext F;have hl:=rY W.s.y y;obtain⟨au,cu,eu⟩:=S.isSl;have aa:aC u=some (af ((bG d.s.y y).2.length:Int)):=by rw[eu];rfl
 have hN:∀k j,Wi d y rs k j↔((k=1∧KP rs (bG d.s.y y).1 ((bG d.s.y y).1+((bG d.s.y y).2.length:Int)) j true)∨(k=2∧j=y∧KP rs (bG d.s.y y).1 ((bG d.s.y y).1+((bG d.s.y y).2.length:Int)) 0 false)):=λk j=>by unfold Wi;rw[aq U]
 generalize bG d.s.y y=L at*;refine aS (λh'=>h'=h4) rfl ?_;simp only[go_sem,aO];refine aD rv (λh' e=>by rw[e];exact H.c15 F) ?_;refine aD (af L.1) (λh' e=>by rw[e];exact am r4) ?_;refine aD (af L.1) (λh' e=>by rw[e];exact am r4) ?_;refine aD u (λh' e=>by rw[e];exact am r4) ?_;refine aD (af (L.2.length:Int)) (λh' e=>aa) ?_;simp only[go_sem];rw[w64 (n:=L.1+(L.2.length:Int)) ae ae];refine(zdZ J4.ring (a:=L.1) (b:=L.1+(L.2.length:Int)) ae ae).mono λr h5 ⟨⟨j,is,e,hn⟩,A⟩=>?_
 have A:=A.symm;subst e A;simp only[go_sem];have G:=F.row r1;refine iK (λhi=>?_) (λhi=>?_)
 ·subst hi;have hf:aQ #[ai,ai] [(0,1,af 1),(1,1,af j)]=some #[aG,af j]:=AD rfl rfl;rw[hf,bJ,aj];refine da (l:=[aG,af j]) G rfl (az rfl (az rfl bi)) rfl λh6 r6 u6=>?_
  rw[aW r6 2 rfl,aj];exact⟨1,j,rfl,(hN 1 j).2 (.inl ⟨rfl,hn⟩),(I.trans F).upd n1 u6⟩
 ·subst hi;have hj:j=0:=by rcases hn with⟨hh,_⟩|⟨_,hh,_⟩;cases hh;exact hh
  subst hj;rw[H.c16 F,aj];have hf:aQ #[ai,ai] [(0,1,af 2),(1,1,af y)]=some #[af 2,af y]:=AD rfl rfl;rw[hf,bJ,aj];refine da (l:=[af 2,af y]) G rfl (az rfl (az rfl bi)) rfl λh6 r6 u6=>?_
  rw[aW r6 2 rfl,aj];exact⟨2,y,rfl,(hN 2 y).2 (.inr ⟨rfl,rfl,hn⟩),(I.trans F).upd n1 u6⟩
end
end
section
section
variable {Z M:Nat→Prop}{h:ah}{bj bf:Nat}{vf:Value}{bt:Nat}{vt p q rv:Value}{d:gb}{y:Int}{n:Pic}{room w:Nat}{rs:List (Int×List Int)}
def zai (d:gb)(x row:Int):List Int:=(List.range d.m.c.toNat).map λc:Nat=>IntKind.i64.wrap (vF d.m d.s x row c)
theorem zco {h0:ah}{u:Value}{l:List Int}{x row:Int}(J:fS Z M h0 bj bf vf bt vt p q rv d y n room w rs)(W:d.Wf)(N:New (Rp.int .i64) h0 h u l)(hl:l.length≤1000000):
  ag prog mH #[ptr bj,af x,af row,u] h λr h'=>New (Rp.int .i64) h0 h' r (l++zai d x row):=by
 apply CQ;unfold sS;have E0:=N.2.1;simp only[go_sem,aO,J.c2 E0];refine(Ds (J.tx.ext E0) W.s.x).mono λr h1 ⟨v,e,S,e1⟩=>?_
 subst e;refine dh (cs:=[af (bG d.s.x x).1,v]) rfl (az rfl (az S.one bi)) rfl λb2 h2 r2 e2 n2=>?_
 have E2:=E0.trans (e1.trans e2);simp only[go_sem,aO,J.c0 E2];refine(eB (J.src.ext E2)).mono λr h3 ⟨e,A⟩=>?_
 have A:=A.symm;subst e A;have hf:=dx W.m.fits;have ay:=rY W.s.x x;unfold zai vF;obtain⟨C,hC⟩:∃C:Nat,d.m.c=(C:Int):=⟨d.m.c.toNat,ae⟩
 rw[hC,dW];have S2:=S.ext e2;have Sz:SlI (λc=>¬blk u c∧c≠b2∧c<h2.size) h2 v (bG d.s.x x).2:=S2.mono λc hc H=>⟨λhu=>by have:=N.lt hu;have:=H.1;omega,λhe=>by have:=H.2;omega,hc⟩
 have an:¬blk u b2:=λhu=>by have:=N.lt hu;have:=e1.1;omega
 generalize bG d.s.x x=L at*;obtain⟨av,cv,ev⟩:=S.isSl;have al:aC v=some (af (L.2.length:Int)):=by rw[ev];rfl
 obtain⟨g,hg⟩:∃g:Nat→Int,g=λc:Nat=>IntKind.i64.wrap (z7 (λi=>L.2.getD i 0*atP d.m (atZ d.s.border (L.1+i) d.m.w) row c) L.2.length):=⟨_,rfl⟩
 rw[←hg];refine bK (α:=Value) C 0 (λc u=>[u,af (c:Int)]) (λc u h'=>New (Rp.int .i64) h0 h' u (l++(List.range c).map g)∧SlI (λc=>¬blk u c∧c≠b2∧c<h2.size) h' v L.2∧h2.size≤h'.size∧h'[b2]? =some (.cells #[af L.1,v] 189 (0,0))∧¬blk u b2∧Ext h0 h') u rfl (b9 _)
  ⟨by simpa using N.ext (e1.trans e2),Sz,cf _,r2,an,E2⟩ λc u h4 again ρ1 _ hc ⟨N4,S4,au,r4,u4,E4⟩ ar=>?_
 simp only[go_sem];refine ao (λh5=>?_) (λh5=>?_)
 ·have c1:aH h4 ⟨b2,1,none⟩=some v:=am r4;simp only[go_sem,aO,c1,al];have J4:=J.ext E4;refine me (λi=>[af (IntKind.i64.wrap (z7 (λi=>L.2.getD i 0*atP d.m (atZ d.s.border (L.1+i) d.m.w) row c) i)),af (i:Int)]) L.2.length 0 rfl (b9 _) λi ab ρ2 _ hi G=>?_
  simp only[go_sem];refine ao (λh6=>?_) (λh6=>?_)
  ·have aa:i<L.2.length:=ae;have G:=G aa;obtain⟨pi,i1,i2⟩:=S4.int_at (k':=.i64) aa;have ea:L.2.getD i 0=L.2[i]:=by simp[dA,aa]
   rw[i1,aj,i2,aj,←ea];refine aS (λh'=>h'=h4) rfl ?_
   try simp only[go_sem,aO]
   refine aD (af d.s.border) (λh' e=>by rw[e];exact J.c4 E4) ?_;refine aD (af L.1) (λh' e=>by rw[e];exact am r4) ?_
   try simp only[go_sem,aO]
   refine aD (ptr bf) (λh' e=>by rw[e];exact J.c0 E4) ?_;rw[w64 (n:=L.1+(i:Int)) ae ae];refine(sA J4.src).mono λr F ⟨e,A⟩=>?_
   have A:=A.symm;subst e A;refine⟨rfl,?_⟩;refine(w6 (by unfold I64;omega)).mono λr F ⟨e,A⟩=>?_
   have A:=A.symm;subst e A;simp only[go_sem,aO,J.c0 E4];refine(zd6 J4.src W.m).mono λr F ⟨e,A⟩=>?_
   have A:=A.symm;subst e A;have hv:=zcD W.m (atZ d.s.border (L.1+(i:Int)) d.m.w) row c;have hm:=W.m.m2;simp only[go_sem];rw[w64 (n:=atP d.m (atZ d.s.border (L.1+(i:Int)) d.m.w) row c) ae ae,QM,w64 (n:=(i:Int)+1) ae ae];exact G
  ·have ax:i=L.2.length:=ae;subst ax;have ad:IntKind.i64.wrap (z7 (λi=>L.2.getD i 0*atP d.m (atZ d.s.border (L.1+i) d.m.w) row c) L.2.length)=g c:=by rw[hg]
   rw[ad];have I:(l++(List.range c).map g).length=l.length+c:=by simp
   refine Rp.push_ow1 (e:=Rp.int .i64) rfl N4.1 (x:=g c) rfl rfl (by rw[I];omega) (by rw[I];omega) (λb hb=>hb.elim) λs' h' o' f' n'=>?_
   try simp only[go_sem]
   rw[w64 ae ae];have E':Ext h0 h':=E4.then_fr f' N4.2.2;have U:∀b,blk s' b→blk u b∨h4.size≤b:=n';refine ar s' h' ae ⟨⟨by rw[uf _ (c+1) c ae,←cj];exact o',E',λb hb=>?_⟩,?_,bB au f'.1,f'.row r4 u4,λhb=>?_,E'⟩
   ·rcases U b hb with F|F
    ·exact N4.2.2 b F
    ·exact bB E4.1 F
   ·refine(S4.fr f' λb _ H=>H.1).mono λb hb H=>⟨λhs=>?_,H.2⟩
    rcases U b hs with F|F
    ·exact H.1 F
    ·have:=H.2.2;omega
   ·rcases U _ hb with F|F
    ·exact u4 F
    ·have:=bD r4;omega
 ·have:c=C:=ae;subst this;exact N4
def M7 (d:gb)(real:Int):Nat→List Int
 |0=>[]
 |x+1=>M7 d real x++zai d (d.t.x+x) real
def FZ (d:gb)(j:Int):List Int:=M7 d (atZ d.s.border j d.m.h) d.t.w.toNat
theorem zb0 (d:gb)(x row:Int):(zai d x row).length=d.m.c.toNat:=by unfold zai;simp
theorem CD (d:gb)(real:Int):∀k,(M7 d real k).length=k*d.m.c.toNat
 |0=>by simp[M7]
 |k+1=>by unfold M7;rw[co,CD,zb0,eO,uj]
theorem UL (d:gb)(real:Int){x c:Nat}(hc:c<d.m.c.toNat):∀{k:Nat},x<k→(M7 d real k).getD (x*d.m.c.toNat+c) 0=IntKind.i64.wrap (vF d.m d.s (d.t.x+x) real c)
 |0,h=>absurd h ae
 | k+1,h=>by
  unfold M7;have G:=CD d real k;by_cases F:x<k
  ·have h1:x*d.m.c.toNat+c<(M7 d real k).length:=by
    rw[G];have:(x+1)*d.m.c.toNat≤k*d.m.c.toNat:=ja _ F;rw[eO,uj]at this;omega
   have:=UL d real hc F;rw[dA]at this ⊢;rw[vy h1];exact this
  ·have A:x=k:=ae;subst A;rw[dA,vk ae,G,Yt];unfold zai;simp[hc]
theorem zcl {j:Int}(J:fS Z M h bj bf vf bt vt p q rv d y n room w rs)(W:d.Wf)(hj:I64 j)(hs:d.t.w≤300):
  ag prog mG #[ptr bj,af j] h λr h'=>∃M',fS Z M' h' bj bf vf bt vt p q rv d y n room w (UP room w rs j (FZ d j))∧Fr M h h'∧∀k,M' k→M k∨h.size≤k:=by
 apply CP;unfold sQ;have hf:=dx W.m.fits;have hb:=gb.bd W;have an:=W.w1;have ar:=W.x0;simp only[go_sem,aO];refine aS (λh'=>h'=h) rfl ?_;refine aD (af d.s.border) (λh' e=>by rw[e];exact J.c4 (Ext.refl _)) ?_;refine aD (ptr bf) (λh' e=>by rw[e];exact J.c0 (Ext.refl _)) ?_;refine(pV J.src).mono λr h1 ⟨e,H⟩=>?_
 have H:=H.symm;subst e H;refine⟨rfl,?_⟩;refine(w6 hj).mono λr h1 ⟨e,H⟩=>?_
 have H:=H.symm;subst e H;simp only[go_sem,aO,J.c8 (Ext.refl _)];unfold FZ;generalize atZ d.s.border j d.m.h=real;obtain⟨N,hN⟩:∃N:Nat,d.t.w=(N:Int):=⟨d.t.w.toNat,ae⟩
 rw[hN,dW];have hC:d.m.c.toNat≤3:=ae;have F:∀k,k≤N→(M7 d real k).length≤900:=λk hk=>by
  rw[CD];have:=vu (show k≤300 by omega) hC;omega
 refine bK (α:=Value) N 0 (λk u=>[u,af (k:Int)]) (λk u h'=>New (Rp.int .i64) h h' u (M7 d real k)) (.slice none 0 0) rfl (b9 _) (New.nil (Ext.refl _)) λk u h2 again ρ1 _ hk A ad=>?_
 simp only[go_sem];refine ao (λh3=>?_) (λh3=>?_)
 ·simp only[go_sem,aO,J.c6 A.2.1];rw[w64 (n:=d.t.x+(k:Int)) ae ae];refine(zco J W A (by have:=F k hk;omega)).mono λr h4 N4=>?_
  rw[w64 ae ae];exact ad r h4 ae N4
 ·have aa:k=N:=ae;subst aa;have U:=J.ext A.2.1;simp only[go_sem,aO,J.c15 A.2.1];have ab:kh h2 u (M7 d real k):=by
   obtain⟨a,cap,e⟩:=A.isSl;refine⟨a,cap,e,?_⟩;have o:=(Si A.1).sl;obtain⟨_,a',c',e',ho⟩:=o;rw[e]at e';cases e';rcases ho with ho|⟨b,o,ha,ho⟩
   ·left;simpa using ho
   ·refine .inr ⟨b,o,ha,λi hi=>?_⟩;have:=ho i (by simpa using hi);rw[this,dX];rfl
  refine(zfh U.ring (by unfold I64 at hj;exact wf64 hj.1 hj.2) ab (by have:=F k hk;omega) λb hb hm=>?_).mono λr h5 ⟨e,M',R',L,m'⟩=>?_
  ·have G:=A.2.2 b hb;have h7:=J.ring.lt hm;omega
  have lt:∀c,c<h.size→¬M c→¬M' c:=λc hc hm al=>by
   rcases m' c al with G|G
   ·exact hm G
   ·have:=A.2.1.1;omega
  have zl:=J.zl;have zM:∀c,Z c→¬M c:=λc hc=>(J.zz c hc).1
  refine⟨M',⟨L.row U.row J.mj.1,U.src.fr L (zM _ J.zf.1) λc hc=>zM _ (J.zf.2 c hc),U.tx.fr L λc _ I=>zM c I,U.ty.fr L λc _ I=>zM c I,R',U.out.fr L J.mj.2.1 J.mj.2.2,J.zf,
   λc I=>⟨lt c (zl c I) (zM c I),(J.zz c I).2⟩,⟨lt _ (bD J.row) J.mj.1,lt _ J.out.lt J.mj.2.1,λc hc=>lt c (J.out.ltv hc) (J.mj.2.2 c hc)⟩,J.jt,J.y0,J.y1,λc hc=>?_⟩,A.2.1.fr.trans L,λk hk=>?_⟩
  ·have G:=zl c hc;have h7:=A.2.1.1;have h8:=L.1;omega
  ·rcases m' k hk with G|G
   ·exact .inl G
   ·exact .inr (bB A.2.1.1 G)
end
end
section
structure JT (d:gb)(n:Pic):Prop where
 wf:n.Wf
 w:n.w=d.s.x.lines.length
 h:n.h=d.s.y.lines.length
 c:n.c=d.m.c
 m:n.most=d.m.most
section
variable {Z M:Nat→Prop}{h:ah}{bj bf:Nat}{vf:Value}{bt:Nat}{vt p q rv:Value}{d:gb}{y:Int}{n:Pic}{room w:Nat}{rs:List (Int×List Int)}
theorem fS.set {h':ah}{n':Pic}(J:fS Z M h bj bf vf bt vt p q rv d y n room w rs)(f:Fr (blk vt) h h')(I:dp h' bt vt n'):fS Z M h' bj bf vf bt vt p q rv d y n' room w rs:=
 ⟨f.row J.row J.jt.2,J.src.fr f (J.zz _ J.zf.1).2.2 λc hc=>(J.zz _ (J.zf.2 c hc)).2.2,J.tx.fr f λc _ A=>(J.zz c A).2.2,J.ty.fr f λc _ A=>(J.zz c A).2.2,J.ring.fr f λc _ F G=>J.mj.2.2 c G F,I,J.zf,J.zz,J.mj,J.jt,J.y0,J.y1,
  λc hc=>ce (J.zl c hc) f.1⟩
def yZ (d:gb)(y:Int)(i:Int)(x' y' c':Int):Prop:=y'=y∧d.t.x≤x'∧x'<d.t.x+d.t.w∧(x'-d.t.x)*d.m.c+c'<i
instance (d:gb)(y i A F c':Int):Decidable (yZ d y i A F c'):=by unfold yZ;infer_instance
theorem zdB (J:fS Z M h bj bf vf bt vt p q rv d y n room w rs)(W:d.Wf)(O:JT d n)(hs:d.t.w≤300)(hy:y<d.t.y+d.t.h)(hw:(w:Int)=d.t.w*d.m.c)
  (be:∀k:Nat,k<(bG d.s.y y).2.length→ga ((bG d.s.y y).1+(k:Int)) rs=some (FZ d ((bG d.s.y y).1+(k:Int)))):
  ag prog og #[ptr bj] h λr h'=>∃n',fS Z M h' bj bf vf bt vt p q rv d (y+1) n' room w rs∧JT d n'∧(∀F G c',inP n F G c'→atP n' F G c'=if yZ d y w F G c' then yx d.m d.s F G c' else atP n F G c')∧Fr (λc=>blk vt c∨c=bj) h h':=by
 apply Ew;unfold uI;have hf:=dx W.m.fits;have hb:=gb.bd W;have dq:=W.w1;have ep:=W.x0;have eg:=W.y0;refine(RI J W).mono λr h1 ⟨u,e,S,e1⟩=>?_
 subst e;have hl:=rY W.s.y y;refine dh (cs:=[af (bG d.s.y y).1,u]) rfl (az rfl (az S.one bi)) rfl λb2 h2 r2 e2 n2=>?_
 have E2:=e1.trans e2;have S2:=S.ext e2;obtain⟨au,cu,eu⟩:=S.isSl;have cr:aC u=some (af ((bG d.s.y y).2.length:Int)):=by rw[eu];rfl
 have bc:∀x c,z7 (λk=>(bG d.s.y y).2.getD k 0*vF d.m d.s x (atZ d.s.border ((bG d.s.y y).1+k) d.m.h) c) (bG d.s.y y).2.length=MF d.m d.s x y c:=λx c=>rfl
 generalize bG d.s.y y=L at*;obtain⟨C,hC⟩:∃C:Nat,d.m.c=(C:Int):=⟨d.m.c.toNat,ae⟩
 have b6:1≤C∧C≤3:=ae;obtain⟨Wn,a7⟩:∃Wn:Nat,d.t.w=(Wn:Int):=⟨d.t.w.toNat,ae⟩
 have ab:w=Wn*C:=by
  rw[a7,hC]at hw
  exact_mod_cast hw
 have dz:w≤900:=by
  rw[ab];have:=vu (show Wn≤300 by omega) b6.2;omega
 simp only[go_sem,aO,J.c15 E2];refine(zcs (J.ring.ext E2)).mono λr h3 ⟨e,I⟩=>?_
 have I:=I.symm;subst e I;refine pF rfl ae ae λsv h3 o3 e3 n3=>?_
 have E3:=E2.trans e3;have c1:aH h3 ⟨b2,1,none⟩=some u:=am (e3.row r2);simp only[go_sem,aO,c1,cr]
 -- the sums
 obtain⟨g,hg⟩:∃g:Nat→Nat→Int,g=λk i=>z7 (λk=>L.2.getD k 0*vF d.m d.s (d.t.x+((i/C:Nat):Int)) (atZ d.s.border (L.1+k) d.m.h) ((i%C:Nat):Int)) k:=⟨_,rfl⟩
 refine bK (α:=Unit) L.2.length 0 (λk _=>[af (k:Int)]) (λk _ h'=>Ext h2 h'∧Own 1 h' sv w ((List.range w).map λi=>af (IntKind.i64.wrap (g k i)))) () rfl (b9 _)
  ⟨e3,by
   rw[L2]at o3;rw[←bS (g:=λi=>af ((λ_=>0:Nat→Int) i)) λi _=>by rw[hg];rfl];exact o3⟩ λk _ h4 again ρ1 _ hk ⟨E4,o4⟩ a8=>?_
 have aa:=E2.trans E4;simp only[go_sem];refine ao (λh5=>?_) (λh5=>?_)
 ·have ax:k<L.2.length:=ae;obtain⟨pk,k1,k2⟩:=(S2.ext E4).int_at (k':=.i64) ax;have eb:L.2.getD k 0=L.2[k]:=by simp[dA,ax]
  rw[k1,aj,k2,aj,←eb];refine aS (λh'=>h'=h4) rfl ?_
  try simp only[go_sem,aO]
  refine aD rv (λh' e=>by rw[e];exact J.c15 aa) ?_;refine aD (af L.1) (λh' e=>by rw[e];exact am (E4.row r2)) ?_;simp only[go_sem];rw[w64 (n:=L.1+(k:Int)) ae ae];refine(zfg (J.ring.ext aa) (L.1+(k:Int))).mono λr h5 ⟨v,e,ov,e5,nv⟩=>?_
  subst e;rw[be k ax]at ov;have ov:jE h5 v (FZ d (L.1+(k:Int))):=ov;have ca:(FZ d (L.1+(k:Int))).length=w:=by
   unfold FZ;rw[CD,a7,hC,dW,dW,ab]
  have Sv:=Gb (k:=.i64) ov;obtain⟨av,cv,ev⟩:=Sv.isSl;have ct:aC v=some (af (w:Int)):=by rw[ev,ca];rfl
  simp only[go_sem,ct];have o5:=o4.fr (M:=λ_=>False) e5.fr λ_ _=>id
  have bk:∀i,i<w→(FZ d (L.1+(k:Int))).getD i 0=IntKind.i64.wrap (vF d.m d.s (d.t.x+((i/C:Nat):Int)) (atZ d.s.border (L.1+(k:Int)) d.m.h) ((i%C:Nat):Int)):=λi hi=>by
   have h6:i%C<C:=iy _ ae;have h7:i/C<Wn:=by rw[wQ ae,←ab];exact hi
   have h8:=UL d (atZ d.s.border (L.1+(k:Int)) d.m.h) (x:=i/C) (c:=i%C) (by rw[hC,dW];exact h6) (k:=Wn) h7;rw[hC,dW,fu,nV]at h8;unfold FZ;rw[a7,dW];exact h8
  have bo:∀c,blk sv c→¬blk v c:=λc hc hv=>by
   have:=nv c hv;have:=o4.lt hc;omega
  refine bK (α:=Unit) w 0 (λi _=>[af (i:Int)]) (λi _ h'=>Ext h2 h'∧Rp.Sl (Rp.int .i64) (blk v) h' v (FZ d (L.1+(k:Int)))∧Own 1 h' sv w ((List.range w).map λj=>af (IntKind.i64.wrap (if j<i then g (k+1) j else g k j)))) () rfl (b9 _)
   ⟨E4.trans e5,Sv,by
    rw[←bS (g:=λi=>af (IntKind.i64.wrap (g k i))) λi _=>by rw[aq ae]];exact o5⟩ λi _ h6 b5 ρ2 _ hi ⟨E6,b0,o6⟩ a9=>?_
  simp only[go_sem];refine ao (λh7=>?_) (λh7=>?_)
  ·have H:i<w:=ae;obtain⟨pv,v1,v2⟩:=b0.int_at (k':=.i64) (i:=i) ae;have cw:(FZ d (L.1+(k:Int)))[i]'ae=(FZ d (L.1+(k:Int))).getD i 0:=by simp[dA,show i<(FZ d (L.1+(k:Int))).length by omega]
   rw[cw,bk i H]at v2;obtain⟨ps,s1,s2,s3⟩:=Own.at_map o6 (k:=.i64) H;simp only[go_sem,v1,v2,s1,s2];rw[aq ae,FT,QM];have b7:g k i+L.2.getD k 0*vF d.m d.s (d.t.x+((i/C:Nat):Int)) (atZ d.s.border (L.1+(k:Int)) d.m.h) ((i%C:Nat):Int)=g (k+1) i:=by rw[hg];rfl
   rw[b7];refine s3 _ _ λh8 o8 f8=>?_
   rw[w64 ae ae];refine a9 () h8 H ⟨E6.then_fr f8 λc hc=>n3 c hc,b0.fr f8 λc _ hz hs=>bo c hs hz,?_⟩;rw[←bS (g:=λj=>af (if j=i then IntKind.i64.wrap (g (k+1) i)else IntKind.i64.wrap (if j<i then g (k+1) j else g k j))) λj _=>by
    congr 1
    by_cases h1:j=i
    ·rw[aA h1,aA ae,h1]
    ·rw[aq h1];by_cases h2:j<i
     ·rw[aA h2,aA ae]
     ·rw[aq h2,aq ae]]
   exact o8
  ·have ay:i=w:=ae;subst ay;rw[w64 ae ae];refine a8 () h6 ae ⟨E6,?_⟩;rw[←bS (g:=λj=>af (IntKind.i64.wrap (if j<i then g (k+1) j else g k j))) λj hj=>by rw[aA hj]];exact o6
 have ci:k=L.2.length:=ae;subst ci;have J4:=J.ext aa;have b3:Own 1 h4 sv w ((List.range w).map λi=>af (IntKind.i64.wrap (MF d.m d.s (d.t.x+((i/C:Nat):Int)) y ((i%C:Nat):Int)))):=by
  rw[←bS (g:=λi=>af (IntKind.i64.wrap (g L.2.length i))) λi _=>by rw[hg];rw[←bc]];exact o4
 have b8:∀c,blk sv c→¬blk vt c:=λc hc hv=>by
  have h6:=n3 c hc;have h7:=J.out.ltv hv;have h8:=E2.1;omega
 obtain⟨eh,ek,es⟩:=b3.isSl;have c0:aC sv=some (af (w:Int)):=by rw[es];rfl
 simp only[go_sem,aO,J.c1 aa];refine(eB J4.out).mono λr h5 ⟨e,I⟩=>?_
 have I:=I.symm;subst e I;rw[O.c,hC];simp only[go_sem,c0];refine bK (α:=Pic) w 0 (λi _=>[af (i:Int)]) (λi n' h'=>fS Z M h' bj bf vf bt vt p q rv d y n' room w rs∧JT d n'∧(∀F G c',inP n F G c'→atP n' F G c'=if yZ d y i F G c' then yx d.m d.s F G c' else atP n F G c')∧
   Own 1 h' sv w ((List.range w).map λi=>af (IntKind.i64.wrap (MF d.m d.s (d.t.x+((i/C:Nat):Int)) y ((i%C:Nat):Int))))∧Fr (blk vt) h4 h') n rfl (b9 _)
  ⟨J4,O,λF G c' hi=>by
   rw[aq];unfold yZ inP at*;rintro⟨a1,a2,a3,a4⟩;have:=nU (show 0≤F-d.t.x by omega) (show 0≤d.m.c by omega);omega,b3,Fr.refl _ _⟩ λi n' h6 again ρ3 _ hi ⟨A,U,A6,o6,f6⟩ a8=>?_
 simp only[go_sem];refine ao (λh7=>?_) (λh7=>?_)
 ·have H:i<w:=ae;obtain⟨ps,s1,s2,_⟩:=Own.at_map o6 (k:=.i64) H;simp only[go_sem,s1,s2];refine aS (λh'=>h'=h6) rfl ?_
  try simp only[go_sem,aO]
  refine aD (ptr bt) (λh' e=>by rw[e];exact A.c1 (Ext.refl _)) ?_;refine aD (af d.t.x) (λh' e=>by rw[e];exact A.c6 (Ext.refl _)) ?_;rw[mU _ _ _ _ ae,aj,xW ae,show(i:Int)/(C:Int)=((i/C:Nat):Int)by omega];have c7:i/C<Wn:=by rw[wQ ae,←ab];exact H
  have c4:i%C<C:=iy _ ae;have c9:=nV i C;have c2:((i/C:Nat):Int)*(C:Int)+((i%C:Nat):Int)=(i:Int):=by
   rw[←mB,fu];omega
  have b4:(i:Int)%(C:Int)=((i%C:Nat):Int):=ae;have c3:=A6;generalize dl:i/C=qd at*;generalize ej:i%C=rd at*;simp only[go_sem];rw[w64 (n:=(qd:Int)) ae ae,w64 (n:=d.t.x+(qd:Int)) ae ae];refine aD (af y) (λh' e=>by rw[e];exact A.c16 (Ext.refl _)) ?_;rw[em _ _ _ _ ae,aj,kz ae,b4];refine aD (ptr bt) (λh' e=>by rw[e];exact A.c1 (Ext.refl _)) ?_;refine(vP A.out).mono λr h8 ⟨e,I⟩=>?_
  have I:=I.symm;subst e I;refine⟨rfl,?_⟩;refine(Zb (kF _)).mono λr h8 ⟨e,I⟩=>?_
  have I:=I.symm;subst e I;refine⟨rfl,?_⟩;have ee:=W.m.m1;have ea:=W.m.m2;rw[U.m];have hr:=QW (IntKind.i64.wrap (MF d.m d.s (d.t.x+(qd:Int)) y (rd:Int))) (most:=d.m.most) ae;refine(Za A.out U.wf hr.1 hr.2.1).mono λr h8 ⟨e,I8,f8,s8⟩=>?_
  subst e;have ec:=W.xw;have ei:=W.yh;have cp:=J.y0;have bg:inP n' (d.t.x+(qd:Int)) y (rd:Int):=⟨ae,by rw[U.w];omega,ae,by rw[U.h];omega,ae,by rw[U.c];omega⟩
  have an:inP n' (d.t.x+(qd:Int)) y (rd:Int)∧Ac (IntKind.i64.wrap (MF d.m d.s (d.t.x+(qd:Int)) y (rd:Int))) d.m.most≤n'.most:=⟨bg,by rw[U.m];omega⟩
  rw[aA an]at I8
  try simp only[go_sem]
  rw[w64 ae ae];refine a8 _ h8 H ⟨A.set f8 I8,⟨X9 U.wf hr.1 an.2,U.w,U.h,U.c,U.m⟩,λF G c' bv=>?_,o6.fr f8 b8,f6.trans f8⟩;rw[Wb U.wf bg,A6 F G c' bv];by_cases he:F=d.t.x+(qd:Int)∧G=y∧c'=(rd:Int)
  ·rw[aA he];obtain⟨rfl,rfl,rfl⟩:=he;rw[aA]
   ·rfl
   ·refine⟨rfl,ae,ae,?_⟩;rw[hC,show d.t.x+(qd:Int)-d.t.x=(qd:Int)by omega];omega
  ·rw [aq he];have ar:yZ d y ((i+1:Nat):Int) F G c'↔yZ d y (i:Int) F G c':=by
    unfold yZ;constructor
    ·rintro⟨a1,a2,a3,a4⟩;refine⟨a1,a2,a3,?_⟩;rcases nT ((F-d.t.x)*d.m.c+c') i with h9|h9
     ·exact h9
     ·exfalso;have cc:(F-d.t.x)*d.m.c+c'=(qd:Int)*d.m.c+(rd:Int):=by rw[hC]at*;omega
      have cb:=bv.2.2.2.2;have c8:=O.c;obtain⟨b1,b2⟩:=FU cc cb.1 ae ae ae;exact he ⟨ae,a1,b2⟩
    ·rintro⟨a1,a2,a3,a4⟩;exact⟨a1,a2,a3,ae⟩
   by_cases ad:yZ d y (i:Int) F G c'
   ·rw[aA ad,aA (ar.2 ad)]
   ·rw[aq ad,aq λhh=>ad (ar.1 hh)]
 ·have ay:i=w:=ae;subst ay;simp only[go_sem,aO,A.c16 (Ext.refl _)];have cp:=J.y0;rw[w64 (n:=y+1) ae ae];refine ck A.row (by simp[Xe,dK]) rfl λh8 r8 u8=>?_
  have r8:h8[bj]? =some (.cells (Xe bf bt p q rv d (y+1)).toArray 246 (0,0)):=r8;have al:∀c,Z c→¬c=bj:=λc hc=>(A.zz c hc).2.1
  refine⟨n',⟨r8,A.src.fr u8.fr (al _ A.zf.1) λc hc=>al _ (A.zf.2 c hc),A.tx.fr u8.fr λc _ hz=>al c hz,A.ty.fr u8.fr λc _ hz=>al c hz,A.ring.fr u8.fr λc _ hm he=>A.mj.1 (he▸hm),A.out.fr u8.fr (iu A.jt.1) λc hc he=>A.jt.2 (he▸hc),A.zf,A.zz,A.mj,A.jt,ae,ae,
   λc hc=>by rw[u8.1];exact A.zl c hc⟩,U,A6,?_⟩
  exact((aa.fr (M:=λc=>blk vt c∨c=bj)).trans (f6.mono λc _ hc=>.inl hc)).trans (u8.fr.mono λc _ hc=>.inr hc)
end
end
end Go.Proofs.YtjljhnandbbldaaGreatDoor
namespace Go.Proofs.YtjljhnandbbldaaGreatDoor
open Go Go.Crisp
theorem C1:∀(k:Nat) (l:List Nat),l.Nodup→(∀x∈l,x<k)→l.length≤k
 |0,[],_,_=>by simp
 |0,x::_,_,h=>absurd (h x (by simp)) ae
 | k+1,l,hn,h=>by
  by_cases F:k∈l
  ·have h1:=C1 k (l.erase k) (hn.erase k) λx A=>by
    have G:=h x (List.mem_of_mem_erase A);have H:x≠k:=λe=>by rw[e]at A;exact(List.Nodup.not_mem_erase hn) A
    omega
   rw[List.length_erase_of_mem F]at h1;omega
  ·have:=C1 k l hn λx A=>by
    have G:=h x A;have H:x≠k:=λe=>F (e▸A)
    omega
   omega
theorem nodup_range {l:List Int}{a b:Int}(H:l.Nodup)(h:∀x∈l,a≤x∧x<b):(l.length:Int)≤max 0 (b-a):=by
 have h1:(l.map λx=>(x-a).toNat).Nodup:=by
  rw[Tb,List.pairwise_map];have L:=(Tb.1 H)
  refine List.Pairwise.imp_of_mem ?_ L;intro x y A G F W;have:=h x A;have:=h y G;omega
 have I:=C1 (b-a).toNat _ h1 λx A=>by
  obtain⟨z,U,rfl⟩:=fO.1 A;have:=h z U;omega
 rw[cS]at I;omega
theorem Rj {α:Type}(j i:Int)(v:α):∀kv:List (Int×α),ga i (kv++[(j,v)])=match ga i kv with|some u=>some u|none=>if i=j then some v else none
 | []=>by
  simp only[fX,ga];by_cases h:j=i
  ·subst h;simp
  ·rw[aq h,aq (iu h)]
 | (k,u)::kv=>by
  simp only[oe,ga];by_cases h:k=i
  ·rw[aA h,aA h]
  ·rw[aq h,aq h];exact Rj j i v kv
theorem AC:∀(l:List Int) (a:Int),l.foldl min a≤a∧∀x∈l,l.foldl min a≤x
 | [],a=>⟨dT _,λx A=>absurd A (by simp)⟩
 |y::l,a=>by
  have h:=AC l (min a y);rw[xY];refine⟨by have:=h.1;omega,λx A=>?_⟩;rcases fC.1 A with rfl|A
  ·have:=h.1;omega
  ·exact h.2 x A
theorem zde {l:List Int}{x:Int}(h:x∈l):yD l≤x:=by
 cases l with
 |nil=>simp at h
 |cons y l=>
  rcases fC.1 h with rfl|h
  ·exact(AC l _).1
  ·exact(AC l y).2 x h
structure JU (row:Int→List Int)(rs:List (Int×List Int))(F e:Int):Prop where
 nd:(rs.map Prod.fst).Nodup
 inn:∀j,F≤j→j<e→ga j rs=some (row j)
 lt:∀x∈rs.map Prod.fst,x<e
theorem JU.none {row:Int→List Int}{rs:List (Int×List Int)}{F e:Int}(H:JU row rs F e){j:Int}(G:e≤j):ga j rs=none:=oG.2 λA=>by have:=H.lt j A;omega
theorem JU.start (row:Int→List Int)(F:Int):JU row [] F F:=⟨by simp,λj h1 A=>absurd A ae,by simp⟩
theorem JU.move {row:Int→List Int}{rs:List (Int×List Int)}{F e A:Int}(H:JU row rs F e)(I:F≤A):JU row rs A (max e A):=
 ⟨H.nd,λj h1 L=>H.inn j ae ae,λx G=>by have:=H.lt x G;omega⟩
theorem JU.next {row:Int→List Int}{rs:List (Int×List Int)}{F e E n:Int}{A:Bool}(H:JU row rs F e)(h1:F≤e)(L:e≤E)(G:KP rs F E n A):(e<E∧A=true∧n=e)∨(e=E∧A=false∧n=0):=by
 rcases G with⟨rfl,a1,a2,a3,a4⟩|⟨rfl,rfl,a4⟩
 ·left;have U:¬n<e:=λh=>by rw[H.inn n a1 h]at a3;cases a3
  have I:¬e<n:=λh=>by have:=a4 e h1 h;rw[H.none (dT _)]at this;cases this
  exact⟨ae,rfl,ae⟩
 ·right;refine⟨?_,rfl,rfl⟩;rcases nT e E with h|h
  ·have:=a4 e h1 h;rw[H.none (dT _)]at this;cases this
  ·omega
theorem JU.put {row:Int→List Int}{rs:List (Int×List Int)}{F e E:Int}{room w:Nat}(H:JU row rs F e)(h1:F≤e)(h2:e<E)(hr:E-F≤room)(ar:1≤room)(hl:rs.length≤room)(hw:(row e).length=w):
  JU row (UP room w rs e (row e)) F (e+1)∧(UP room w rs e (row e)).length≤room:=by
 have U:=H.none (dT e);have G:(rs.map Prod.fst).length=rs.length:=by simp
 have I:De room rs=true→yD (rs.map Prod.fst)∈rs.map Prod.fst:=λA=>Vg λh0=>by
  have:rs.length=0:=by rw[←G,h0];rfl
  unfold De at A;have:=Aw A;omega
 have ad:wI room w rs e (row e)=true:=by
  unfold wI;rw[U,cL hw];by_cases A:De room rs=true
  ·have:=H.lt _ (I A);rw[A,cE (show¬e<yD (rs.map Prod.fst)by omega)];rfl
  ·have A:De room rs=false:=by simpa using A
   rw[A];rfl
 unfold UP;rw[aA ad]
 -- what is left of the rows
 have key:((nB room rs).map Prod.fst).Nodup∧(∀x∈(nB room rs).map Prod.fst,x<e)∧(∀j,F≤j→j<e→ga j (nB room rs)=some (row j))∧(nB room rs).length+1≤room:=by
  unfold nB;by_cases A:De room rs=true
  ·rw [aA A];have hm:=I A;have al:room≤rs.length:=Aw A;have au:yD (rs.map Prod.fst)<F:=by
    rcases nT (yD (rs.map Prod.fst)) F with h|h
    ·exact h
    ·have aa:∀x∈rs.map Prod.fst,F≤x∧x<e:=λx W=>by
      have h3:yD (rs.map Prod.fst)≤x:=zde W;have:=H.lt x W;omega
     have:=nodup_range H.nd aa;rw[G]at this;omega
   have L:(qI (yD (rs.map Prod.fst)) rs).Sublist rs:=OB;have hg:∃v,ga (yD (rs.map Prod.fst)) rs=some v:=by
    cases hg:ga (yD (rs.map Prod.fst)) rs with
    |none=>exact absurd hm (oG.1 hg)
    |some v=>exact⟨v,rfl⟩
   obtain⟨v,hg⟩:=hg;have an:=JC hg;refine⟨(L.map Prod.fst).nodup H.nd,λx W=>H.lt x ((L.map Prod.fst).subset W),λj j1 j2=>?_,ae⟩;rw[JB H.nd,aq ae];exact H.inn j j1 j2
  ·rw[aq A];have:¬room≤rs.length:=λh=>A (cL h)
   exact⟨H.nd,H.lt,H.inn,ae⟩
 obtain⟨k1,k2,k3,k4⟩:=key;refine⟨⟨?_,λj j1 j2=>?_,λx W=>?_⟩,by simp;omega⟩
 ·rw[jA,Ta];refine⟨k1,by simp,λa ha b hb he=>?_⟩;have:=k2 a ha;simp at hb;omega
 ·rw[Rj];by_cases hj:j<e
  ·rw[k3 j j1 hj]
  ·have ab:j=e:=ae;subst ab;have:ga j (nB room rs)=Option.none:=oG.2 λhm=>by have:=k2 j hm;omega
   rw[this];simp
 ·rw[jA]at W;rcases cQ.1 W with h|h
  ·have:=k2 x h;omega
  ·simp at h;omega
theorem Em {a b c:Int}(h:a≤b)(hc:0<c):a/c≤b/c:=Int.ediv_le_ediv hc h
theorem ZZ {f n m i k:Int}(A:1≤n)(F:1≤m)(h:i≤k):rA f n m i≤rA f n m k:=by
 unfold rA;have h1:i*n≤k*n:=ui h ae;have G:(2*i+1)*n≤(2*k+1)*n:=ui ae ae;split
 ·exact Em h1 ae
 ·have:=Em (a:=(2*i+1)*n-m-db f*2*max n m) (b:=(2*k+1)*n-m-db f*2*max n m) (c:=2*m) ae ae;omega
theorem Xh {f n m i k:Int}(A:1≤n)(F:1≤m)(h:i≤k):oH f n m i≤oH f n m k:=by
 unfold oH OY;have h1:(i+1)*n≤(k+1)*n:=ui ae ae;have G:(2*i+1)*n≤(2*k+1)*n:=ui ae ae;split
 ·have:=Em (a:= -((k+1)*n)) (b:= -((i+1)*n)) (c:=m) ae ae;omega
 ·have:=Em (a:= -((2*k+1)*n-m+db f*2*max n m)) (b:= -((2*i+1)*n-m+db f*2*max n m)) (c:=2*m) ae ae;omega
theorem sw {g:Nat→Int}:∀{n:Nat},dN g n=0→∀i,i<n→g i=0
 |0,_,i,h=>absurd h ae
 | n+1,hz,i,h=>by
  have e:dN g (n+1)=if dN g n≠0 then dN g n else g n:=rfl
  rw[e]at hz;by_cases h0:dN g n=0
  ·rw[aq (by simpa using h0)]at hz;by_cases hi:i=n
   ·rw[hi];exact hz
   ·exact sw h0 i ae
  ·rw[aA h0]at hz;exact absurd hz h0
abbrev lnF (t:Tbl)(y:Int):Int:=(bG t y).1
abbrev lnE (t:Tbl)(y:Int):Int:=(bG t y).1+((bG t y).2.length:Int)
structure Es (t:Tbl):Prop where
 f:∀i k:Int,0≤i→i≤k→k<t.lines.length→lnF t i≤lnF t k
 e:∀i k:Int,0≤i→i≤k→k<t.lines.length→lnE t i≤lnE t k
 m:∀i:Int,(((bG t i).2.length:Nat):Int)≤cJ t.lines
theorem Vl {n:Int}{N:Nat}{g:Nat→Int×List Int}{i:Int}(h0:0≤i)(h1:i<N):bG ⟨n,(List.range N).map g⟩ i=g i.toNat:=by
 unfold bG;rw[aA h0];have:i.toNat<N:=ae;simp[dA,this]
theorem L6:∀(ls:List (Int×List Int)) (a:Int),a≤ls.foldl (λm x=>max m (x.2.length:Int)) a∧∀x∈ls,((x.2.length:Nat):Int)≤ls.foldl (λm x=>max m (x.2.length:Int)) a
 | [],a=>⟨dT _,λx A=>absurd A (by simp)⟩
 |y::l,a=>by
  have h:=L6 l (max a (y.2.length:Int));rw[xY];refine⟨by have:=h.1;omega,λx A=>?_⟩;rcases fC.1 A with rfl|A
  ·have:=h.1;omega
  ·exact h.2 x A
theorem Kx (t:Tbl)(i:Int):(((bG t i).2.length:Nat):Int)≤cJ t.lines:=by
 have h:=L6 t.lines 0;unfold bG;split
 ·by_cases hi:i.toNat<t.lines.length
  ·have e:t.lines.getD i.toNat (0,[])=t.lines[i.toNat]:=by simp[dA,hi]
   rw[e];exact h.2 _ (cG hi)
  ·have e:t.lines.getD i.toNat (0,[])=(0,[]):=by simp[dA,Jm hi]
   rw[e];exact h.1
 ·exact h.1
theorem w7 {l:List Int}(h:df l=0):(cD l).length=l.length:=by unfold cD;rw[aA h,ri]
theorem UN {f n m:Int}(hc:dH f n m=0):Es (gn f n m):=by
 have h0:¬(¬(0≤f∧f<3)∨¬bE n∨¬bE m):=λh=>by unfold dH at hc;rw[aA h]at hc;cases hc
 have hz:=hc;unfold dH at hz;rw[aq h0]at hz;have hf:0≤f∧f<3:=cq λh=>h0 (.inl h)
 have U:bE n:=cq λh=>h0 (.inr (.inl h))
 have L:bE m:=cq λh=>h0 (.inr (.inr h))
 unfold bE at U L;have I:(gn f n m).lines.length=m.toNat:=by show(List.map _ (List.range m.toNat)).length=_;rw[cS,ft]
 have G:∀i:Int,0≤i→i<m→bG (gn f n m) i=(fW f n m i,cD (dw f n m i)):=λi A H=>by
  have:=Vl (n:=n) (N:=m.toNat) (g:=λi:Nat=>(fW f n m i,cD (dw f n m i))) A ae;rw[show((i.toNat:Nat):Int)=i by omega]at this;exact this
 have F:∀i:Int,0≤i→i<m→wK f n m i:=λi A H=>⟨hf.1,hf.2,U.1,U.2,L.1,L.2,A,H⟩
 have hF:∀i:Int,0≤i→i<m→lnF (gn f n m) i=rA f n m i:=λi A H=>by
  unfold lnF;rw[G i A H];show fW f n m i=_;unfold fW;rw[aA (F i A H)]
 have hE:∀i:Int,0≤i→i<m→lnE (gn f n m) i=oH f n m i:=λi A H=>by
  have h1:=hF i A H;unfold lnF at h1;unfold lnE;rw[h1,G i A H];have h2:=sw hz i.toNat ae;rw[show((i.toNat:Nat):Int)=i by omega]at h2;show rA f n m i+(((cD (dw f n m i)).length:Nat):Int)=_;rw[w7 h2];unfold dw;rw[aA (F i A H)];unfold Ev;rw[cS,ft];have:=MK (F i A H);omega
 refine⟨λi k A W k1=>?_,λi k A W k1=>?_,Kx _⟩
 ·rw[I]at k1;rw[hF i A ae,hF k ae ae];exact ZZ U.1 L.1 W
 ·rw[I]at k1;rw[hE i A ae,hE k ae ae];exact Xh U.1 L.1 W
theorem Vw (l:List Int)(n:Int):Es (lz l n):=by
 have F:(lz l n).lines.length=n.toNat:=by show(List.map _ (List.range n.toNat)).length=_;rw[cS,ft]
 have A:∀i:Int,0≤i→i<n.toNat→bG (lz l n) i=(i-(l.length/2:Nat),cD l):=λi H L=>by
  have:=Vl (n:=n) (N:=n.toNat) (g:=λi:Nat=>((i:Int)-(l.length/2:Nat),cD l)) H L;rw[show((i.toNat:Nat):Int)=i by omega]at this;exact this
 refine⟨λi k H I G=>?_,λi k H I G=>?_,Kx _⟩
 ·rw[F]at G;unfold lnF;rw[A i H ae,A k ae G];show i-_≤k-_;omega
 ·rw[F]at G;unfold lnE;rw[A i H ae,A k ae G];show i-((l.length/2:Nat):Int)+((cD l).length:Int)≤k-((l.length/2:Nat):Int)+((cD l).length:Int);omega
theorem Xa {o:OpD}{w h:Int}(hc:fF o w h=0):Es (cz o w h).y:=by
 have A:jd o w h=0:=by
  unfold fF at hc;split at hc
  ·cases hc
  ·exact hc
 show Es (fU o h);unfold jd at A;unfold fU;split
 ·rename_i F;rw[aA F]at A;by_cases h1:dH o.filter w o.w=0
  ·rw[aq (by simpa using h1)]at A;exact UN A
  ·rw[aA h1]at A;exact absurd A h1
 ·exact Vw _ _
end Go.Proofs.YtjljhnandbbldaaGreatDoor
namespace Go.Crisp
open Go
theorem ag.at {P:Program}{f:FuncId}{args:Array Value}{h:ah}{v:Value}{K:Value→ah→Prop}(H:ag P f args h λr h'=>r=v∧h'=h)(k:K v h):ag P f args h K:=
 H.mono λr h' ⟨e,w⟩=>by rw[e,w];exact k
theorem ag.to {P:Program}{f:FuncId}{args:Array Value}{h:ah}{v:Value}{K:Value→ah→Prop}(H:ag P f args h λr h'=>r=v∧Ext h h')(k:∀h',Ext h h'→K v h'):ag P f args h K:=
 H.mono λr h' ⟨e,w⟩=>by rw[e];exact k h' w
theorem Fr.after {M N:Nat→Prop}{a b c:ah}(f:Fr M a b)(k:Fr N b c)(n:∀i,i<a.size→N i→M i):Fr M a c:=
 ⟨bB f.1 k.1,λi hi A=>(k.2 i (ce hi f.1) λx=>A (n i hi x)).trans (f.2 i hi A)⟩
theorem Ext.after {N:Nat→Prop}{a b c:ah}(f:Ext a b)(k:Fr N b c):Fr N a c:=(f.fr (M:=N)).after k λ_ _ x=>x
theorem Fr.ext_r {M:Nat→Prop}{a b c:ah}(f:Fr M a b)(k:Ext b c):Fr M a c:=f.trans k.fr
theorem Fr.upd_new {M:Nat→Prop}{a b c:ah}{x:Nat}(f:Fr M a b)(u:Upd x b c)(n:a.size≤x):Fr M a c:=f.after u.fr λi hi e=>ae
theorem Rp.push_ow1S {α:Type}{e:Rp α}{Z P:Nat→Prop}{Q:ah→Prop}{z z' c:Value}{t G:TypeId}{bytes:Nat}{s:Value}{h:ah}{l:List α}{x:α}{K:Value→ah→Prop}(L:e.w=1)
  (hs:Rp.Ow e Z h s l) (U:e.R Z h [c] x) (hz:z.cells.size=1) (hb:(l.length+1)*bytes≤140737488355328) (hn:l.length+1≤9223372036854775807) (hZ:∀b,Z b→b<h.size) (hQ:∀h',Ext h h'→Q h')
  (H:∀F h',Rp.Ow e Z h' F (l++[x])→Fr (blk s) h h'→(∀b,blk F b→blk s b∨h.size≤b)→K F h'):du #[z'] t 1 [(0,1,c)] h λv2 h3=>Q h3∧dy z G 1 bytes s v2 h3 K:=by
 refine di (fill_one (e.one U c (by simp))) λb h1 r1 A n1=>⟨hQ h1 A,?_⟩
 have W:=SlC.single (cs:=[c]) r1;rw[show[c].length=e.w by rw[L];rfl]at W;have ee:dy z G 1 bytes s (.slice (some ⟨b,0,none⟩) 1 1) h1 K=dy z G e.w bytes s (.slice (some ⟨b,0,none⟩) 1 1) h1 K:=by rw[L]
 rw[ee];refine Rp.app_ow (l2:=[x]) (hs.ext A) W (λi hi=>?_) (hz.trans L.symm) (by simpa using hb) (by simpa using hn) (λk I=>ce (hZ k I) A.1) λF h' o' f' n'=>
  H F h' o' (A.fr.trans f') λk I=>(n' k I).imp id λh2=>bB A.1 h2
 have hi:i=0:=by simpa using hi
 subst hi;rw[Rp.el_self (e.len U)];exact e.ext U A
theorem New.fr {α:Type}{e:Rp α}{M:Nat→Prop}{h h1 h':ah}{v:Value}{l:List α}(H:New e h h1 v l)(f:Fr M h1 h')(A:∀b,M b→h.size≤b)(q:∀b,blk v b→¬M b):New e h h' v l:=
 ⟨H.1.fr f (λb _ F=>F.elim) q,H.2.1.then_fr f A,H.2.2⟩
theorem eqT (a:Int):(a=a)=True:=jW rfl
theorem WQ (a:Nat):ak .p .neq (.pointer (some ⟨a,0,none⟩)) (.pointer none)=some (.bool true):=rfl
theorem WR (a:Nat):ak .p .eql (.pointer (some ⟨a,0,none⟩)) (.pointer none)=some (.bool false):=rfl
theorem zeH:ak .p .neq (.pointer none) (.pointer none)=some (.bool false):=rfl
theorem zeI:ak .p .eql (.pointer none) (.pointer none)=some (.bool true):=rfl
end Go.Crisp
namespace Go.Proofs.YtjljhnandbbldaaGreatDoor
open Go Go.Crisp
attribute [local irreducible] ag du bh stK aE vK qK bO gK fR bA mkK dy GQ IQ DT bsK clK pG pH Q9
open _root_.Go.Proofs.Tryz
section
def rL (B:Nat→Prop)(h h':ah):Nat→Prop:=λc=>B c∨(h.size≤c∧c<h'.size)
structure lD (Z B:Nat→Prop)(h:ah)(bj bf:Nat)(vf:Value)(bt:Nat)(vt p q rv:Value)(d:gb)(y e:Int)(n:Pic)(room w:Nat):Prop where
 at_:∃M rs,fS Z M h bj bf vf bt vt p q rv d y n room w rs∧(∀c,M c→B c)∧(y<d.t.y+d.t.h→JU (FZ d) rs (lnF d.s.y y) e∧lnF d.s.y y≤e∧e≤lnE d.s.y y)
 bj0:B bj
 bl:∀c,B c→c<h.size
 bz:∀c,B c→¬Z c∧c≠bt∧¬blk vt c
 out:JT d n
theorem lD.ext {Z B:Nat→Prop}{h h':ah}{bj bf:Nat}{vf:Value}{bt:Nat}{vt p q rv:Value}{d:gb}{y e:Int}{n:Pic}{room w:Nat}(S:lD Z B h bj bf vf bt vt p q rv d y e n room w)(k:Ext h h'):lD Z B h' bj bf vf bt vt p q rv d y e n room w:=by
 obtain⟨⟨M,rs,J,a,b⟩,c,f,g,o⟩:=S;exact⟨⟨M,rs,J.ext k,a,b⟩,c,λc hc=>ce (f c hc) k.1,g,o⟩
theorem fS.chg {Z M Q:Nat→Prop}{h h':ah}{bj bf:Nat}{vf:Value}{bt:Nat}{vt p q rv:Value}{d:gb}{y:Int}{n n':Pic}{room w:Nat}{rs:List (Int×List Int)}(J:fS Z M h bj bf vf bt vt p q rv d y n room w rs)(f:Fr Q h h')
  (A:∀c,Z c→¬Q c) (G:∀c,M c→¬Q c) (H:¬Q bj) (I:dp h' bt vt n'):fS Z M h' bj bf vf bt vt p q rv d y n' room w rs:=
 ⟨f.row J.row H,J.src.fr f (A _ J.zf.1) λc hc=>A _ (J.zf.2 c hc),J.tx.fr f λc _ F=>A c F,J.ty.fr f λc _ F=>A c F,J.ring.fr f λc _ L=>G c L,I,J.zf,J.zz,J.mj,J.jt,J.y0,J.y1,λc hc=>ce (J.zl c hc) f.1⟩
theorem lD.other {Z B Q:Nat→Prop}{h h':ah}{bj bf:Nat}{vf:Value}{bt:Nat}{vt p q rv:Value}{d:gb}{y e:Int}{n n':Pic}{room w:Nat}(S:lD Z B h bj bf vf bt vt p q rv d y e n room w)(f:Fr Q h h')
  (F:∀c,Z c→¬Q c) (qb:∀c,B c→¬Q c) (I:dp h' bt vt n') (O:JT d n'):lD Z B h' bj bf vf bt vt p q rv d y e n' room w:=by
 obtain⟨⟨M,rs,J,a,b⟩,c,l,g,o⟩:=S;exact⟨⟨M,rs,J.chg f F (λk A=>qb k (a k A)) (qb _ c) I,a,b⟩,c,λc hc=>ce (l c hc) f.1,g,O⟩
theorem lD.img {Z B:Nat→Prop}{h:ah}{bj bf:Nat}{vf:Value}{bt:Nat}{vt p q rv:Value}{d:gb}{y e:Int}{n:Pic}{room w:Nat}(S:lD Z B h bj bf vf bt vt p q rv d y e n room w):dp h bt vt n:=by
 obtain⟨⟨M,rs,J,a,b⟩,_⟩:=S;exact J.out
theorem lD.src {Z B:Nat→Prop}{h:ah}{bj bf:Nat}{vf:Value}{bt:Nat}{vt p q rv:Value}{d:gb}{y e:Int}{n:Pic}{room w:Nat}(S:lD Z B h bj bf vf bt vt p q rv d y e n room w):dp h bf vf d.m:=by
 obtain⟨⟨M,rs,J,a,b⟩,_⟩:=S;exact J.src
theorem fS.frq {Z M Q:Nat→Prop}{h h':ah}{bj bf:Nat}{vf:Value}{bt:Nat}{vt p q rv:Value}{d:gb}{y:Int}{n:Pic}{room w:Nat}{rs:List (Int×List Int)}(J:fS Z M h bj bf vf bt vt p q rv d y n room w rs)(f:Fr Q h h')
  (A:∀c,Z c→¬Q c) (G:∀c,M c→¬Q c) (H:¬Q bj) (U:¬Q bt) (I:∀c,blk vt c→¬Q c):fS Z M h' bj bf vf bt vt p q rv d y n room w rs:=
 ⟨f.row J.row H,J.src.fr f (A _ J.zf.1) λc hc=>A _ (J.zf.2 c hc),J.tx.fr f λc _ F=>A c F,J.ty.fr f λc _ F=>A c F,J.ring.fr f λc _ L=>G c L,J.out.fr f U I,J.zf,J.zz,J.mj,J.jt,J.y0,J.y1,λc hc=>ce (J.zl c hc) f.1⟩
structure zcG (d:gb)(room w:Nat):Prop where
 mono:Es d.s.y
 fit:cJ d.s.y.lines≤room
 one:1≤room
 wid:(w:Int)=d.t.w*d.m.c
 small:d.t.w≤300
def bR (d:gb)(y e:Int):Int:=if d.t.y+d.t.h≤y then 0 else if e<lnE d.s.y y then 1 else 2
def gh (d:gb)(y e:Int):Int:=if d.t.y+d.t.h≤y then 0 else if e<lnE d.s.y y then e else y
def dP (d:gb)(y e:Int):Int:=if bR d y e=2 then y+1 else y
def fm (d:gb)(y e:Int):Int:=if bR d y e=1 then e+1 else if bR d y e=2 then max e (lnF d.s.y (y+1))else e
section
variable {Z B:Nat→Prop}{h:ah}{bj bf:Nat}{vf:Value}{bt:Nat}{vt p q rv:Value}{d:gb}{y e:Int}{n:Pic}{room w:Nat}
theorem Pl (S:lD Z B h bj bf vf bt vt p q rv d y e n room w)(W:d.Wf):ag prog ji #[ptr bj] h λr h'=>r=C5 (bR d y e) (gh d y e)∧Ext h h':=by
 obtain⟨⟨M,rs,J,a,b⟩,c,f,g,o⟩:=S;refine(zaz J W).mono λr h' ⟨k,j,I,A,E⟩=>⟨?_,E⟩
 rw[I];unfold Wi at A;unfold bR gh;by_cases F:d.t.y+d.t.h≤y
 ·rw[aA F]at A;rw[aA F,aA F,A.1,A.2]
 ·rw[aq F]at A;rw[aq F,aq F];obtain⟨H,h1,G⟩:=b ae;rcases A with⟨rfl,A⟩|⟨rfl,rfl,A⟩
  ·rcases H.next h1 G A with⟨a1,_,a3⟩|⟨_,a2,_⟩
   ·rw[aA a1,aA a1,a3]
   ·cases a2
  ·rcases H.next h1 G A with⟨_,a2,_⟩|⟨a1,_,_⟩
   ·cases a2
   ·rw[aq ae,aq ae]
theorem T9 (S:lD Z B h bj bf vf bt vt p q rv d y e n room w)(W:d.Wf)(R:zcG d room w):ag prog gU #[ptr bj] h λr h'=>
  r=C5 (bR d y e) (gh d y e)∧∃n',lD Z (rL B h h') h' bj bf vf bt vt p q rv d (dP d y e) (fm d y e) n' room w∧Fr (λc=>blk vt c∨B c) h h'∧
   (bR d y e≠2→n'=n)∧(bR d y e=2→∀U L c',inP n U L c'→atP n' U L c'=if yZ d y w U L c' then yx d.m d.s U L c' else atP n U L c'):=by
 apply Gf;unfold vV;refine aJ λb1 h1 r1 e1 n1=>?_
 have S1:=S.ext e1;refine(Pl S1 W).mono λr h2 ⟨er,e2⟩=>?_
 subst er;refine dh (cs:=[af (bR d y e),af (gh d y e)]) rfl (az rfl (az rfl bi)) rfl λb3 h3 r3 e3 n3=>?_
 have E3:=e1.trans (e2.trans e3);have S3:=S.ext E3;have b2:b1<b3:=by have:=bD r1;have:=e2.1;omega
 have l3:=bD r3;have l1:b1<h3.size:=ae;have bg:=(e2.trans e3).row r1;have cb:=E3.1
 -- the end of a step: the move is handed on
 have fin:∀{h4:ah} {n':Pic},Fr (λc=>(blk vt c∨B c)∧c≠b1∧c≠b3) h3 h4→
   ((bR d y e≠2→n'=n)∧(bR d y e=2→∀U L c',inP n U L c'→atP n' U L c'=if yZ d y w U L c' then yx d.m d.s U L c' else atP n U L c'))→(∀F,Upd b1 h4 F→lD Z (rL B h F) F bj bf vf bt vt p q rv d (dP d y e) (fm d y e) n' room w)→
   vK (aR 2 h4 (ptr b3)) λa9=>stK 2 (ptr b1) a9 h4 λ_ ab=>vK (aR 2 ab (ptr b1)) λbd=>bd=C5 (bR d y e) (gh d y e)∧∃n',lD Z (rL B h ab) ab bj bf vf bt vt p q rv d (dP d y e) (fm d y e) n' room w∧Fr (λc=>blk vt c∨B c) h ab∧
    (bR d y e≠2→n'=n)∧(bR d y e=2→∀U L c',inP n U L c'→atP n' U L c'=if yZ d y w U L c' then yx d.m d.s U L c' else atP n U L c'):=by
  intro h4 n' f4 au a8;have bc:=f4.row r3 λG=>G.2.2 rfl
  have be:=f4.row bg λG=>G.2.1 rfl
  rw[aW (l:=[af (bR d y e),af (gh d y e)]) bc 2 rfl,aj];refine da (l:=[af (bR d y e),af (gh d y e)]) be rfl (az rfl (az rfl bi)) rfl λF r5 u5=>?_
  rw[aW r5 2 rfl,aj];exact⟨rfl,n',a8 F u5,((E3.fr (M:=λc=>blk vt c∨B c)).after f4 λc _ hc=>hc.1).after u5.fr (λc hc he=>ae),au.1,au.2⟩
 obtain⟨⟨M,rs,J,ad,hH⟩,aa,bv,bk,hO⟩:=S;have J3:=J.ext E3
 -- a block that is new lies apart from a job
 have ap:∀{b:Nat} {M':Nat→Prop},h.size≤b→b<h3.size→(∀c,M' c→M c∨h3.size≤c)→(∀c,Z c→¬c=b)∧(∀c,M' c→¬c=b)∧¬bj=b∧¬bt=b∧∀c,blk vt c→¬c=b:=by
  intro b M' hb cr ax;refine⟨λc hc he=>?_,λc hc he=>?_,λhe=>?_,λhe=>?_,λc hc he=>?_⟩
  ·have:=J.zl c hc;omega
  ·rcases ax c hc with h4|h4
   ·have:=J.ring.lt h4;omega
   ·omega
  ·have:=bD J.row;omega
  ·have:=J.out.lt;omega
  ·have:=J.out.ltv hc;omega
 have ar:h.size≤b1:=n1;have b8:h.size≤b3:=ae
 -- what is its own, at last
 have gz:∀{F:ah},∀c,rL B h F c→¬Z c∧c≠bt∧¬blk vt c:=λc hc=>by
  rcases hc with hc|hc
  ·exact bk c hc
  ·refine⟨λhz=>?_,λhe=>?_,λhv=>?_⟩
   ·have:=J.zl c hz;omega
   ·have:=J.out.lt;omega
   ·have:=J.out.ltv hv;omega
 have gl:∀{F:ah},h.size≤F.size→∀c,rL B h F c→c<F.size:=λhs c hc=>by
  rcases hc with hc|hc
  ·exact ce (bv c hc) hs
  ·exact hc.2
 simp only[go_sem,aO];have c0:aH h3 ⟨b3,0,none⟩=some (af (bR d y e)):=am r3;have c1:aH h3 ⟨b3,1,none⟩=some (af (gh d y e)):=am r3;simp only[go_sem,c0,c1];refine ao (λI=>?_) (λI=>?_)
 ·-- a row is filtered
  have an:¬d.t.y+d.t.h≤y:=λh=>by unfold bR at I;rw[aA h]at I;cases I
  have al:e<lnE d.s.y y:=by
   unfold bR at I;rw[aq an]at I;rcases nT e (lnE d.s.y y)with h|h
   ·exact h
   ·rw[aq ae]at I;cases I
  have hj:gh d y e=e:=by unfold gh;rw[aq an,aA al]
  have hy:dP d y e=y:=by unfold dP;rw[aq ae]
  have he:fm d y e=e+1:=by unfold fm;rw[aA I]
  obtain⟨H,a1,a2⟩:=hH ae;have hl:=rY W.s.y y;rw[hy,he]at fin ⊢;rw[hj]at fin ⊢;refine(zcl J3 W (j:=e) (by unfold lnF at a1;unfold lnE at al;unfold I64;omega) R.small).mono λr h4 ⟨M',J4,f4,m4⟩=>?_
  have b6:=R.fit;have b5:=R.mono.m y;have ay:=J3.ring.nums;have a7:(FZ d e).length=w:=by
   have F:=R.wid;have hf:=dx W.m.fits;have b7:=W.w1;unfold FZ;rw[CD];have:((d.t.w.toNat*d.m.c.toNat:Nat):Int)=d.t.w*d.m.c:=by rw[mB,xU ae,xU ae]
   omega
  have HP:=H.put (E:=lnE d.s.y y) (room:=room) (w:=w) a1 al (by unfold lnF lnE;omega) R.one ay.2.2.2.1 a7;have ap1:=ap ar l1 m4;have bo:=f4.1;refine fin (f4.mono λc hc G=>⟨.inr (ad c G),λF=>by have:=J.ring.lt G;omega,λF=>by have:=J.ring.lt G;omega⟩) ⟨λ_=>rfl,λF=>ae⟩ λF u5=>
   ⟨⟨M',_,J4.frq u5.fr ap1.1 ap1.2.1 ap1.2.2.1 ap1.2.2.2.1 ap1.2.2.2.2,λc hc=>?_,λ_=>⟨HP.1,ae,ae⟩⟩,.inl aa,gl (by rw[u5.1];omega),gz,hO⟩
  rcases m4 c hc with h6|h6
  ·exact .inl (ad c h6)
  ·have:=J4.ring.lt hc;exact .inr ⟨ae,by rw[u5.1];exact this⟩
 refine ao (λA=>?_) (λA=>?_)
 ·-- a row is written
  have an:¬d.t.y+d.t.h≤y:=λh=>by unfold bR at A;rw[aA h]at A;cases A
  obtain⟨H,a1,a2⟩:=hH ae;have b0:e=lnE d.s.y y:=by
   unfold bR at I;rw[aq an]at I;rcases nT e (lnE d.s.y y)with h|h
   ·rw[aA h]at I;exact absurd rfl I
   ·omega
  have hy:dP d y e=y+1:=by unfold dP;rw[aA A]
  have he:fm d y e=max e (lnF d.s.y (y+1)):=by unfold fm;rw[aq I,aA A]
  rw[hy,he]at fin ⊢;refine(zdB J3 W hO R.small ae R.wid λk ci=>H.inn _ (by unfold lnF;omega) (by rw[b0];unfold lnE;omega)).mono λr h4 ⟨n',J4,O4,A4,f4⟩=>?_
  have ap1:=ap (M':=M) ar l1 λc hc=>.inl hc
  have G:=R.mono;have cc:=J.y0;have b4:=W.y0;have cp:=W.yh;have bo:=f4.1;refine fin (f4.mono λc hc G=>?_) ⟨λF=>absurd A F,λ_=>A4⟩ λF u5=>
   ⟨⟨M,_,J4.frq u5.fr ap1.1 ap1.2.1 ap1.2.2.1 ap1.2.2.2.1 ap1.2.2.2.2,λc hc=>.inl (ad c hc),λal=>?_⟩,.inl aa,gl (by rw[u5.1];omega),gz,O4⟩
  ·rcases G with G|G
   ·have:=J.out.ltv G;exact⟨.inl G,ae,ae⟩
   ·have:=bD J.row;exact⟨.inr (G▸aa),ae,ae⟩
  ·have g1:=G.f y (y+1) ae ae ae;have g2:=G.e y (y+1) ae ae ae;refine⟨H.move g1,ae,?_⟩;have:lnF d.s.y (y+1)≤lnE d.s.y (y+1):=by unfold lnF lnE;omega
   omega
 ·-- it is over
  have ca:bR d y e=0:=by
   unfold bR at*;by_cases h4:d.t.y+d.t.h≤y
   ·rw[aA h4]
   ·rw[aq h4]at*;by_cases F:e<lnE d.s.y y
    ·rw[aA F]at I;exact absurd rfl I
    ·rw[aq F]at A;exact absurd rfl A
  have hy:dP d y e=y:=by unfold dP;rw[aq A]
  have he:fm d y e=e:=by unfold fm;rw[aq I,aq A]
  rw[hy,he]at fin ⊢;have ap1:=ap (M':=M) ar l1 λc hc=>.inl hc
  exact fin (Fr.refl _ _) ⟨λ_=>rfl,λF=>absurd F A⟩ λF u5=>⟨⟨M,rs,J3.frq u5.fr ap1.1 ap1.2.1 ap1.2.2.1 ap1.2.2.2.1 ap1.2.2.2.2,λc hc=>.inl (ad c hc),hH⟩,.inl aa,gl (by rw[u5.1];omega),gz,hO⟩
end
end
theorem pe_ne {h:ah}{a b:Nat}{c c':Array Value}{t I:TypeId}(F:h[a]? =some (.cells c t (0,0)))(H:h[b]? =some (.cells c' I (0,0)))(A:a≠b):peV h .neq (ptr a) (ptr b)=some (.bool true):=by
 have h1:¬(⟨a,0,none⟩:Addr)=⟨b,0,none⟩:=λhh=>A (by injection hh)
 have L:pA h a=true:=by unfold pA;rw[F];rfl
 have G:pA h b=true:=by unfold pA;rw[H];rfl
 show(if(⟨a,0,none⟩:Addr)=⟨b,0,none⟩then some (Value.bool false)else if pA h a&&pA h b then some (.bool true)else none)=_;rw[aq h1,L,G];rfl
def l8 (m n:Pic)(s:Stg):Prop:=oS m s∧n.w=s.x.lines.length∧n.h=s.y.lines.length∧n.c=m.c∧n.most=m.most
instance (m n:Pic)(s:Stg):Decidable (l8 m n s):=by unfold l8;infer_instance
theorem zb6 {h:ah}(G:eW h){Z:Nat→Prop}{bf bt:Nat}{vf vt sv:Value}{m n:Pic}{s:Stg}(I:dp h bf vf m)(O:dp h bt vt n)(aa:bf≠bt)(HS:qX Z h sv s):
  ag prog w9 #[ptr bf,ptr bt,sv] h λr h'=>r=.bool (decide (l8 m n s))∧Ext h h':=by
 apply LB;unfold A8;obtain⟨p,q,rfl,hp,hq,ab⟩:=jQ HS;simp only[bT];refine aJ λb1 h1 r1 H n1=>?_
 refine aS (λh'=>h'=h1) rfl ?_;simp only[go_sem,WQ];refine aD (.bool true) (λh' e=>by rw[e];exact pe_ne (H.row I.row) (H.row O.row) aa) ?_
 try simp only[go_sem]
 refine aD (.agg #[p,q,af s.border]) (λh' e=>by rw[e];exact aW (l:=[p,q,af s.border]) r1 3 rfl) ?_;refine ag.to (Mz (G.ext H) (I.ext H) (HS.ext H)) λL e2=>?_
 have A:=H.trans e2;have r2:=e2.row r1;have c0:aH L ⟨b1,0,none⟩=some p:=am r2;have c1:aH L ⟨b1,1,none⟩=some q:=am r2;by_cases g1:oS m s
 case neg=>
  rw[cE g1,cE λF:l8 m n s=>g1 F.1];refine aS (λh'=>h'=L) rfl ?_;simp only[go_sem];refine aD undef (λ_ _=>rfl) ?_
  try simp only[go_sem]
  refine⟨trivial,?_⟩
  try simp only[go_sem]
  refine aS (λh'=>h'=L) rfl ?_;simp only[go_sem];refine aD undef (λ_ _=>rfl) ?_
  try simp only[go_sem]
  refine⟨trivial,?_⟩
  try simp only[go_sem]
  exact⟨trivial,A⟩
 rw[cL g1];refine aS (λh'=>h'=L) rfl ?_;simp only[go_sem,aO];refine aD p (λh' e=>by rw[e];exact c0) ?_
 try simp only[go_sem]
 refine ag.at (sA (O.ext A)) ?_;refine⟨rfl,?_⟩
 try simp only[go_sem]
 refine ag.at (EN (hp.ext A)) ?_;refine aS (λh'=>h'=L) rfl ?_;by_cases g2:n.w=s.x.lines.length
 case neg=>
  rw[cE λF:l8 m n s=>g2 F.2.1];simp only[go_sem,cE g2];refine aD undef (λ_ _=>rfl) ?_
  try simp only[go_sem]
  refine⟨trivial,?_⟩
  try simp only[go_sem]
  exact⟨trivial,A⟩
 simp only[go_sem,aO,g2,eqT];refine aD q (λh' e=>by rw[e];exact c1) ?_
 try simp only[go_sem]
 refine ag.at (pV (O.ext A)) ?_;refine⟨rfl,?_⟩
 try simp only[go_sem]
 refine ag.at (EN (hq.ext A)) ?_;by_cases W:n.h=s.y.lines.length
 case neg=>
  rw[cE λF:l8 m n s=>W F.2.2.1];simp only[go_sem,cE W];exact⟨trivial,A⟩
 simp only[go_sem,aO,W,eqT];refine ag.at (eB (O.ext A)) (ag.at (eB (I.ext A)) ?_);by_cases U:n.c=m.c
 case neg=>
  rw[cE λF:l8 m n s=>U F.2.2.2.1];simp only[go_sem,cE U];exact⟨trivial,A⟩
 simp only[go_sem,aO,U,eqT];refine ag.at (vP (O.ext A)) (ag.at (vP (I.ext A)) ?_);simp only[go_sem];refine⟨?_,A⟩
 congr 1
 rw[ir];exact⟨λg5=>⟨g1,g2,W,U,g5⟩,λF=>F.2.2.2.2⟩
abbrev rectV (x y w hh:Int):Value:=.agg #[.int .i64 x,.int .i64 y,.int .i64 w,.int .i64 hh]
def eF (s:Stg)(x y w hh:Int):Prop:=1≤w∧1≤hh∧0≤x∧0≤y∧x<s.x.lines.length∧y<s.y.lines.length∧w≤s.x.lines.length-x∧hh≤s.y.lines.length-y
instance (s:Stg)(x y w hh:Int):Decidable (eF s x y w hh):=by unfold eF;infer_instance
theorem VI {h:ah}{Z:Nat→Prop}{sv:Value}{s:Stg}(HS:qX Z h sv s)(WS:s.Wf){x y w hh:Int}:
  ag prog nE #[sv,rectV x y w hh] h λr h'=>r=.bool (decide (eF s x y w hh))∧Ext h h':=by
 apply Kf;unfold y5;obtain⟨p,q,rfl,U,hq,aa⟩:=jQ HS;have lx:=WS.x.len;have ly:=WS.y.len;simp only[bT];refine aJ λb1 h1 r1 e1 n1=>aJ λb2 h2 r2 W n2=>?_
 have r1:=W.row r1;have E:=e1.trans W;have np:=(JY U).1;have nq:=(JY hq).1;refine aS (λh'=>h'=h2) rfl ?_;simp only[go_sem,aO];refine aD p (λh' e=>by rw[e];exact am r1) ?_;simp only[go_sem,aO,np];refine aD q (λh' e=>by rw[e];exact am r1) ?_;simp only[go_sem,aO,nq];refine aD (af w) (λh' e=>by rw[e];exact am r2) ?_;by_cases g1:1≤w
 case neg=>
  rw[cE λA:eF s x y w hh=>g1 A.1];simp only[go_sem,cE g1]
  repeat(first|refine aD undef (λ_ _=>rfl) ?_ |(refine⟨trivial,?_⟩)|simp only[go_sem])
  first|exact E|exact⟨trivial,E⟩|exact⟨rfl,E⟩
 simp only[go_sem,aO,cL g1];refine aD (af hh) (λh' e=>by rw[e];exact am r2) ?_;by_cases g2:1≤hh
 case neg=>
  rw[cE λA:eF s x y w hh=>g2 A.2.1];simp only[go_sem,cE g2]
  repeat(first|refine aD undef (λ_ _=>rfl) ?_ |(refine⟨trivial,?_⟩)|simp only[go_sem])
  first|exact E|exact⟨trivial,E⟩|exact⟨rfl,E⟩
 simp only[go_sem,aO,cL g2];refine aD (af x) (λh' e=>by rw[e];exact am r2) ?_;by_cases H:0≤x
 case neg=>
  rw[cE λA:eF s x y w hh=>H A.2.2.1];simp only[go_sem,cE H]
  repeat(first|refine aD undef (λ_ _=>rfl) ?_ |(refine⟨trivial,?_⟩)|simp only[go_sem])
  first|exact E|exact⟨trivial,E⟩|exact⟨rfl,E⟩
 simp only[go_sem,aO,cL H];refine aD (af y) (λh' e=>by rw[e];exact am r2) ?_;by_cases G:0≤y
 case neg=>
  rw[cE λA:eF s x y w hh=>G A.2.2.2.1];simp only[go_sem,cE G]
  repeat(first|refine aD undef (λ_ _=>rfl) ?_ |(refine⟨trivial,?_⟩)|simp only[go_sem])
  first|exact E|exact⟨trivial,E⟩|exact⟨rfl,E⟩
 simp only[go_sem,aO,cL G];refine aD (af x) (λh' e=>by rw[e];exact am r2) ?_;refine aD p (λh' e=>by rw[e];exact am r1) ?_
 try simp only[go_sem]
 refine ag.at (EN (U.ext E)) ?_;refine⟨rfl,?_⟩;by_cases L:x<(s.x.lines.length:Int)
 case neg=>
  rw[cE λA:eF s x y w hh=>L A.2.2.2.2.1];simp only[go_sem,cE L]
  repeat(first|refine aD undef (λ_ _=>rfl) ?_ |(refine⟨trivial,?_⟩)|simp only[go_sem])
  first|exact E|exact⟨trivial,E⟩|exact⟨rfl,E⟩
 simp only[go_sem,aO,cL L];refine aD (af y) (λh' e=>by rw[e];exact am r2) ?_;refine aD q (λh' e=>by rw[e];exact am r1) ?_
 try simp only[go_sem]
 refine ag.at (EN (hq.ext E)) ?_;refine⟨rfl,?_⟩;by_cases F:y<(s.y.lines.length:Int)
 case neg=>
  rw[cE λA:eF s x y w hh=>F A.2.2.2.2.2.1];simp only[go_sem,cE F]
  repeat(first|refine aD undef (λ_ _=>rfl) ?_ |(refine⟨trivial,?_⟩)|simp only[go_sem])
  first|exact E|exact⟨trivial,E⟩|exact⟨rfl,E⟩
 simp only[go_sem,aO,cL F];refine aD (af w) (λh' e=>by rw[e];exact am r2) ?_;refine aD p (λh' e=>by rw[e];exact am r1) ?_;refine aD (af x) (λh' e=>by rw[e];exact am r2) ?_
 try simp only[go_sem]
 refine ag.at (EN (U.ext E)) ?_;refine⟨rfl,?_⟩;simp only[go_sem,aO];rw[w64 ae ae];by_cases I:w≤(s.x.lines.length:Int)-x
 case neg=>
  rw[cE λA:eF s x y w hh=>I A.2.2.2.2.2.2.1];simp only[go_sem,cE I]
  repeat(first|refine aD undef (λ_ _=>rfl) ?_ |(refine⟨trivial,?_⟩)|simp only[go_sem])
  first|exact E|exact⟨trivial,E⟩|exact⟨rfl,E⟩
 simp only[go_sem,aO,cL I];refine aD (af hh) (λh' e=>by rw[e];exact am r2) ?_;refine aD q (λh' e=>by rw[e];exact am r1) ?_;refine aD (af y) (λh' e=>by rw[e];exact am r2) ?_
 try simp only[go_sem]
 refine ag.at (EN (hq.ext E)) ?_;refine⟨rfl,?_⟩;simp only[go_sem,aO];rw[w64 ae ae];refine⟨?_,E⟩
 congr 1
 rw[ir];exact⟨λg8=>⟨g1,g2,H,G,L,F,I,g8⟩,λA=>A.2.2.2.2.2.2.2⟩
abbrev zef:Array Value:=#[(.pointer none),(.pointer none),(.pointer none),(.pointer none),(.int .i64 0),(.int .i64 0),(.int .i64 0),(.int .i64 0),(.int .i64 0),(.int .i64 0),(.int .i64 0),(.int .i64 0),(.int .i64 0),(.int .i64 0),(.int .i64 0),(.pointer none),(.int .i64 0)]
theorem zbS {bf bt:Nat}{p q rv:Value}{d:gb}{y:Int}(A:aV rv=true):
  aQ zef [(0,1,ptr bf),(1,1,ptr bt),(2,3,.agg #[p,q,af d.s.border]),(5,10,.agg (dK d.t).toArray),(15,1,rv),(16,1,af y)]=some (Xe bf bt p q rv d y).toArray:=by
 refine(bX (n:=1) (l:=[ptr bf]) rfl rfl (by simp)).trans ?_;refine(bX (n:=1) (l:=[ptr bt]) rfl rfl (by simp[cO])).trans ?_;refine(bX (n:=3) (l:=[p,q,af d.s.border]) rfl rfl (by simp[cO])).trans ?_;refine(bX (n:=10) (l:=dK d.t) rfl rfl (by simp[cO])).trans ?_;refine(bX (n:=1) (l:=[rv]) (cI A) rfl (by simp[cO])).trans ?_;refine(bX (n:=1) (l:=[af y]) rfl rfl (by simp[cO])).trans ?_;rw[ia];simp[wrL,dK,Xe]
theorem Ox {h:ah}{b:Nat}{l:List Value}{t:TypeId}{f:Nat×Nat}(r:h[b]? =some (.cells l.toArray t f))(o n:Nat)(m:List Value)(F:(l.drop o).take n=m)(A:m.length=n):aR n h (.pointer (some ⟨b,o,none⟩))=some (.agg m.toArray):=by
 subst F;refine Jx _ n A λj G=>?_
 rw[am r];rw[de,jC]at G;have H:o+j<l.length:=ae;rw[yE,ye];simp[H]
def oQ (m n:Pic)(s:Stg)(t:cP):Int:=if¬l8 m n s then 6 else if¬eF s t.x t.y t.w t.h then 9 else 0
theorem rh {m n:Pic}{s:Stg}{t:cP}:oQ m n s t=0↔l8 m n s∧eF s t.x t.y t.w t.h:=by
 unfold oQ;by_cases h1:l8 m n s
 ·rw[aq (by simpa using h1)];by_cases A:eF s t.x t.y t.w t.h
  ·rw[aq (by simpa using A)];exact⟨λ_=>⟨h1,A⟩,λ_=>rfl⟩
  ·rw[aA A];exact⟨λh=>absurd h (by decide),λh=>absurd h.2 A⟩
 ·rw[aA h1];exact⟨λh=>absurd h (by decide),λh=>absurd h.1 h1⟩
theorem OD {m n:Pic}{s:Stg}{t:cP}(W:m.Wf)(A:s.Wf)(hc:oQ m n s t=0):gb.Wf ⟨m,s,t⟩:=by
 obtain⟨h1,F⟩:=rh.1 hc;obtain⟨a1,a2,a3,a4,a5,a6,H,G⟩:=F;exact⟨W,A,h1.1,a1,a2,a3,a4,by show t.x+t.w≤(s.x.lines.length:Int);omega,by show t.y+t.h≤(s.y.lines.length:Int);omega⟩
theorem YP {m n:Pic}{s:Stg}{t:cP}(W:n.Wf)(hc:oQ m n s t=0):JT ⟨m,s,t⟩ n:=by
 obtain⟨h1,A⟩:=rh.1 hc;exact⟨W,h1.2.1,h1.2.2.1,h1.2.2.2.1,h1.2.2.2.2⟩
def XU (Z:Nat→Prop)(h:ah)(bf:Nat)(vf:Value)(bt:Nat)(vt p q:Value)(m n:Pic)(s:Stg)(t:cP)(r:Value)(h':ah):Prop:=
 Ext h h'∧∃v,r=.tuple #[v,.int .i64 (oQ m n s t)]∧(oQ m n s t≠0→v=.pointer none)∧
  (oQ m n s t=0→∃bj rv,v=ptr bj∧lD Z (rL (λ_=>False) h h') h' bj bf vf bt vt p q rv ⟨m,s,t⟩ t.y (lnF s.y t.y) n (lg (cJ s.y.lines)) (iq (t.w*m.c)))
theorem ze6 {h:ah}(G:eW h){Z:Nat→Prop}{bf bt:Nat}{vf vt p q:Value}{m n:Pic}{s:Stg}{t:cP}(I:dp h bf vf m)(O:dp h bt vt n)(ad:bf≠bt)(W:m.Wf)(WO:n.Wf)(hp:gi Z h p s.x)(hq:gi Z h q s.y)(WS:s.Wf)
  (zf:Z bf∧∀c,blk vf c→Z c) (zz:∀c,Z c→¬blk vt c) (zl:∀c,Z c→c<h.size):
  ag prog p8 #[ptr bf,ptr bt,.agg #[p,q,af s.border],.agg (dK t).toArray] h (XU Z h bf vf bt vt p q m n s t):=by
 apply PR;unfold EQ;simp only[bT];have HS:qX Z h (.agg #[p,q,af s.border]) s:=⟨p,q,rfl,hp,hq⟩
 refine aJ λb1 h1 r1 e1 n1=>aJ λb2 h2 r2 e2 n2=>?_
 have E2:=e1.trans e2;have r1:=e2.row r1;rw[aW (l:=[p,q,af s.border]) r1 3 rfl,aj];refine ag.to (zb6 (G.ext E2) (I.ext E2) (O.ext E2) ad (HS.ext E2)) λh3 e3=>?_
 have E3:=E2.trans e3;by_cases g1:l8 m n s
 case neg=>
  have hc:oQ m n s t=6:=by unfold oQ;rw[aA g1]
  simp only[go_sem,cE g1];exact⟨E3,_,by rw[hc],λ_=>rfl,λh0=>absurd (h0.symm.trans hc) (by decide)⟩
 simp only[go_sem,cL g1];have r1:=e3.row r1;have r2:=e3.row r2;rw[aW (l:=[p,q,af s.border]) r1 3 rfl,aj,Ox r2 (0+1) 4 [af t.x,af t.y,af t.w,af t.h] rfl rfl,aj];refine ag.to (VI (HS.ext E3) WS) λh4 e4=>?_
 have L:=E3.trans e4;by_cases g2:eF s t.x t.y t.w t.h
 case neg=>
  have hc:oQ m n s t=9:=by unfold oQ;rw[aq (by simpa using g1),aA g2]
  simp only[go_sem,cE g2];exact⟨L,_,by rw[hc],λ_=>rfl,λh0=>absurd (h0.symm.trans hc) (by decide)⟩
 simp only[go_sem,cL g2];have hc:oQ m n s t=0:=rh.2 ⟨g1,g2⟩;have r1:=e4.row r1;have r2:=e4.row r2;have WJ:=OD (t:=t) W WS hc;have hb:=gb.bd WJ;have aa:=WJ.w1;have al:=WJ.x0;have hf:=dx W.fits;refine aS (Ext h4) (Ext.refl _) ?_;refine aD (.agg #[p,q,af s.border]) (λh' e=>aW (l:=[p,q,af s.border]) (e.row r1) 3 rfl) ?_;refine aD (.agg (dK t).toArray) (λh' e=>aW (e.row r2) 10 rfl) ?_
 try simp only[go_sem,aO]
 refine aD q (λh' e=>am (e.row r1)) ?_
 try simp only[go_sem,aO]
 refine aD (af t.w) (λh' e=>am (e.row r2)) ?_
 try simp only[go_sem,aO]
 refine aD (af t.y) (λh' e=>am (e.row r2)) ?_;refine ag.at (Ud (hq.ext L)) ?_;refine⟨Ext.refl _,?_⟩;refine ag.at (eB (I.ext L)) ?_;refine⟨Ext.refl _,?_⟩;have au:0≤t.w*m.c∧t.w*m.c≤65536*3:=by
  have h1:(1:Int)≤t.w:=aa;have h2:t.x+t.w≤65536:=hb.1;have h3:0≤t.x:=al;have:=rB (show t.w≤65536 by omega) hf.2.2.2.2.2.1 ae ae;exact⟨nU ae ae,this⟩
 simp only[go_sem];rw[w64 (n:=t.w*m.c) ae ae];refine(zfi (cJ s.y.lines) (t.w*m.c)).mono λrv h5 ⟨M,R,e5,hM⟩=>?_
 refine⟨e5,?_⟩;have E5:=L.trans e5;have hr:aV rv=true:=by obtain⟨_,_,_,_,_,_,e,_⟩:=R;rw[e];rfl
 have ab:aQ zef [(0,1,ptr bf),(1,1,ptr bt),(2,3,.agg #[p,q,af s.border]),(5,10,.agg (dK t).toArray),(15,1,rv),(16,1,af t.y)]=some (Xe bf bt p q rv ⟨m,s,t⟩ t.y).toArray:=zbS (d:=⟨m,s,t⟩) hr;rw[ab,bJ,aj];refine aJ λbj h6 r6 e6 n6=>?_
 have H:=E5.trans e6;have an:=O.lt;have ax:=E5.1;have ar:=L.1;refine⟨H,_,by rw[hc],λh0=>absurd hc h0,λ_=>⟨bj,rv,rfl,⟨M,[],⟨r6,I.ext H,hp.ext H,hq.ext H,R.ext e6,O.ext H,zf,λc F=>⟨λA=>?_,λhe=>?_,zz c F⟩,⟨λA=>?_,λA=>?_,λc U A=>?_⟩,⟨ae,λU=>?_⟩,dT _,?_,λc F=>ce (zl c F) H.1⟩,λc A=>.inr ⟨?_,?_⟩,λ_=>⟨JU.start _ _,dT _,?_⟩⟩,.inr ⟨ae,bD r6⟩,λc hc=>hc.elim (λh=>h.elim) λh=>h.2,λc hc=>?_,YP WO hc⟩⟩
 ·have:=hM c A;have:=zl c F;omega
 ·have:=zl c F;omega
 ·have:=R.lt A;omega
 ·have:=hM bt A;omega
 ·have:=hM c A;have:=O.ltv U;omega
 ·have:=O.ltv U;omega
 ·show t.y≤t.y+t.h;have:=WJ.h1;have:(1:Int)≤t.h:=this;omega
 ·have:=hM c A;omega
 ·have:=R.lt A;have:=e6.1;omega
 ·show lnF s.y t.y≤lnE s.y t.y;unfold lnF lnE;omega
 ·rcases hc with h|h
  ·exact h.elim
  ·exact⟨λF=>by have:=zl c F;omega,ae,λU=>by have:=O.ltv U;omega⟩
section
theorem ME {a b:Int}(A:1≤a)(F:1≤b):max a b≤a*b:=by
 have h1:a*1≤a*b:=sf F ae;have G:1*b≤a*b:=ui A ae;omega
theorem span0 (X:Int){n m:Int}(I:1≤n)(W:1≤m): -(-(X+n)/m)-X/m≤6*n+4:=by
 have a1:=pP (-(X+n)) m;have a2:=pP X m;have G:=iJ (-(X+n)) (show 0<m by omega);have H:=iJ X (show 0<m by omega);have aa:=ME I W
 revert a1 a2 G H
 generalize-(X+n)/m=A;generalize X/m=F;generalize-(X+n)%m=r1;generalize X%m=r2;intro a1 a2 G H;rcases nT (6*n+4) (-A-F)with h|h
 ·exfalso;have h1:m*(6*n+5)≤m*(-A-F):=sf ae ae;have U:m*(6*n+5)=6*(n*m)+5*m:=by grind
  have L:m*(-A-F)= -(m*A)-m*F:=by grind
  rw[U,L]at h1;omega
 ·omega
theorem span1 (X R:Int){n m:Int}(hn:1≤n)(W:1≤m)(U:R≤6*(n*m)): -(-(X+R)/(2*m))-((X-R)/(2*m)+1)≤6*n+4:=by
 have a1:=pP (-(X+R)) (2*m);have a2:=pP (X-R) (2*m);have H:=iJ (-(X+R)) (show 0<2*m by omega);have G:=iJ (X-R) (show 0<2*m by omega)
 revert a1 a2 H G
 generalize-(X+R)/(2*m)=F;generalize(X-R)/(2*m)=A;generalize-(X+R)%(2*m)=r1;generalize(X-R)%(2*m)=r2;intro a1 a2 H G;rcases nT (6*n+4) (-F-(A+1))with h|h
 ·exfalso;have h1:2*m*(6*n+5)≤2*m*(-F-(A+1)):=sf ae ae;have I:2*m*(6*n+5)=12*(n*m)+10*m:=by grind
  have L:2*m*(-F-(A+1))= -(2*m*F)-2*m*A-2*m:=by grind
  rw[I,L]at h1;omega
 ·omega
theorem zcT {f n m i:Int}(I:0≤f∧f<3)(A:1≤n)(F:1≤m):oH f n m i-rA f n m i≤6*n+4:=by
 have G:=ME A F;unfold oH rA OY;by_cases h0:f=0
 ·rw[aA h0,aA h0];rw[show(i+1)*n=i*n+n by rw[iZ,kR]];exact span0 (i*n) A F
 ·rw[aq h0,aq h0];have H:db f*2*max n m≤6*(n*m)∧0≤db f*2*max n m:=by
   have:(db f=2∨db f=3):=by unfold db;rw[aq h0];split<;>simp
   rcases this with h|h<;>rw[h]<;>omega
  generalize db f*2*max n m=R at*;exact span1 _ _ A F H.1
theorem Gz {ls:List (Int×List Int)}{c:Int}(h0:0≤c)(h:∀x∈ls,(x.2.length:Int)≤c):cJ ls≤c:=by
 unfold cJ;have:∀(l:List (Int×List Int)) (a:Int),a≤c→(∀x∈l,(x.2.length:Int)≤c)→l.foldl (λm x=>max m (x.2.length:Int)) a≤c:=by
  intro l;induction l with
  |nil=>intro a A _;exact A
  |cons y l G=>
   intro a A F;rw[xY];exact G _ (by have:=F y (by simp);omega) λx H=>F x (by simp[H])
 exact this ls 0 h0 h
theorem Yl (ls:List (Int×List Int)):0≤cJ ls:=(L6 ls 0).1
theorem Iu {f n m:Int}(hc:dH f n m=0):cJ (gn f n m).lines≤6*n+4:=by
 have h0:¬(¬(0≤f∧f<3)∨¬bE n∨¬bE m):=λh=>by unfold dH at hc;rw[aA h]at hc;cases hc
 have H:=hc;unfold dH at H;rw[aq h0]at H;have G:0≤f∧f<3:=cq λh=>h0 (.inl h)
 have A:bE n:=cq λh=>h0 (.inr (.inl h))
 have F:bE m:=cq λh=>h0 (.inr (.inr h))
 unfold bE at A F;refine Gz ae λx I=>?_
 obtain⟨i,hi,rfl⟩:=fO.1 I;have hi:=mE.1 hi;have L:=sw H i hi;show((cD (dw f n m i)).length:Int)≤_;rw[w7 L];unfold dw;rw[aA ⟨G.1,G.2,A.1,A.2,F.1,F.2,ae,ae⟩];unfold Ev;rw[cS,ft];have:=zcT (i:=i) G A.1 F.1;omega
theorem UM {f n m:Int}(hc:dH f n m=0)(A:n≤10000):cJ (gn f n m).lines≤65536:=by have:=Iu hc;omega
theorem JI (l:List Int)(n:Int)(hc:jh l n=0):cJ (lz l n).lines≤l.length:=by
 refine Gz ae λx A=>?_
 obtain⟨i,hi,rfl⟩:=fO.1 A;show((cD l).length:Int)≤_;have h0:df l=0:=by
  unfold jh at hc;split at hc
  ·cases hc
  ·split at hc
   ·cases hc
   ·exact hc
 rw[w7 h0];omega
theorem Vv (l:List Int)(A:l.length≤1024)(n:Int)(hc:jh l n=0):cJ (lz l n).lines≤65536:=by have:=JI l n hc;omega
theorem W9 {o:OpD}{w h:Int}(hc:fF o w h=0)(G:h≤10000):cJ (cz o w h).y.lines≤65536:=by
 have A:jd o w h=0:=by
  unfold fF at hc;split at hc
  ·cases hc
  ·exact hc
 show cJ (fU o h).lines≤_;unfold jd at A;unfold fU;split
 ·rename_i F;rw[aA F]at A;by_cases h1:dH o.filter w o.w=0
  ·rw[aq (by simpa using h1)]at A;exact UM A G
  ·rw[aA h1]at A;exact absurd A h1
 ·rename_i F;rw[aq F]at A;refine Vv _ (BK o).2 _ ?_;split at A
  ·exact absurd A (by assumption)
  ·split at A
   ·exact absurd A (by assumption)
   ·exact A
structure Dw (s:Stg):Prop where
 wf:s.Wf
 mono:Es s.y
 most:cJ s.y.lines≤65536
 side:s.x.lines.length≤300
theorem Ol {o:OpD}{w h:Int}(hc:fF o w h=0)(A:h≤10000)(F:qL o w≤300):Dw (cz o w h):=
 ⟨(zE hc).1,Xa hc,W9 hc A,by have:=(Kv hc).1;omega⟩
theorem Dw.room {s:Stg}(H:Dw s){m n:Pic}{t:cP}(W:m.Wf)(hc:oQ m n s t=0):zcG ⟨m,s,t⟩ (lg (cJ s.y.lines)) (iq (t.w*m.c)):=by
 have A:=OD (t:=t) W H.wf hc;have F:=dx W.fits;have h1:1≤t.w:=A.w1;have U:0≤t.x:=A.x0;have h3:t.x+t.w≤s.x.lines.length:=A.xw;have I:=H.side;have L:=H.most;have G:0≤t.w*m.c∧t.w*m.c≤300*3:=⟨nU ae ae,rB (show t.w≤300 by omega) F.2.2.2.2.2.1 ae ae⟩
 refine⟨H.mono,?_,?_,?_,?_⟩
 ·unfold lg;show cJ s.y.lines≤_;omega
 ·unfold lg;omega
 ·unfold iq;show _=t.w*m.c;omega
 ·show t.w≤300;omega
def mR (d:gb):Nat→Int→Int→Nat
 |0,_,_=>0
 |k+1,y,e=>(lnE d.s.y y-e).toNat+1+mR d k (y+1) (max (lnE d.s.y y) (lnF d.s.y (y+1)))
def tJ (d:gb)(y e:Int):Nat:=mR d (d.t.y+d.t.h-y).toNat y e
theorem Rg {d:gb}{y e:Int}(h:d.t.y+d.t.h≤y):tJ d y e=0:=by
 unfold tJ;rw[show(d.t.y+d.t.h-y).toNat=0 by omega];rfl
theorem Kz {d:gb}{y e:Int}(h:y<d.t.y+d.t.h):tJ d y e=(lnE d.s.y y-e).toNat+1+tJ d (y+1) (max (lnE d.s.y y) (lnF d.s.y (y+1))):=by
 unfold tJ;rw[show(d.t.y+d.t.h-y).toNat=(d.t.y+d.t.h-(y+1)).toNat+1 by omega];rfl
theorem Z5 {d:gb}{y e:Int}(W:bR d y e≠0)(he:e≤lnE d.s.y y):tJ d (dP d y e) (fm d y e)+1=tJ d y e:=by
 have A:¬d.t.y+d.t.h≤y:=λh=>W (by unfold bR;rw[aA h])
 have I:=Kz (e:=e) (show y<d.t.y+d.t.h by omega);by_cases h1:e<lnE d.s.y y
 ·have U:bR d y e=1:=by unfold bR;rw[aq A,aA h1]
  have F:dP d y e=y:=by unfold dP;rw[aq ae]
  have H:fm d y e=e+1:=by unfold fm;rw[aA U]
  rw[F,H,I,Kz (e:=e+1) ae];omega
 ·have L:bR d y e=2:=by unfold bR;rw[aq A,aq h1]
  have F:dP d y e=y+1:=by unfold dP;rw[aA L]
  have H:fm d y e=max e (lnF d.s.y (y+1)):=by unfold fm;rw[aq ae,aA L]
  have G:e=lnE d.s.y y:=ae;rw[F,H,I,G];omega
theorem zby {d:gb}{y e:Int}:tJ d y e=0↔bR d y e=0:=by
 unfold bR;by_cases h:d.t.y+d.t.h≤y
 ·rw[aA h,Rg h];simp
 ·rw[aq h,Kz ae];constructor
  ·intro h;omega
  ·split<;>intro h<;>cases h
theorem Jw {d:gb}(W:d.s.y.Wf):∀(k:Nat) (y e:Int),lnF d.s.y y≤e→mR d k y e≤k*1048577
 |0,_,_,_=>cf _
 |k+1,y,e,he=>by
  have h1:=Jw W k (y+1) (max (lnE d.s.y y) (lnF d.s.y (y+1))) ae;have A:=rY W y;unfold mR;unfold lnE lnF at*;omega
theorem left_bd {d:gb}(W:d.Wf){y e:Int}(F:d.t.y≤y)(A:y<d.t.y+d.t.h→lnF d.s.y y≤e):tJ d y e≤68719542272:=by
 by_cases h:y<d.t.y+d.t.h
 ·have h1:=Jw W.s.y (d.t.y+d.t.h-y).toNat y e (A h);have G:=gb.bd W;have H:=W.y0;unfold tJ;omega
 ·rw[Rg ae];omega
theorem El {B:Nat→Prop}{h:ah}:rL B h h=B:=by
 funext c
 unfold rL;apply propext;constructor
 ·rintro(h|h)
  ·exact h
  ·omega
 ·exact .inl
section
variable {Z B:Nat→Prop}{h:ah}{bj bf:Nat}{vf:Value}{bt:Nat}{vt p q rv:Value}{d:gb}{y e:Int}{n:Pic}{room w:Nat}
theorem Pk (S:lD Z B h bj bf vf bt vt p q rv d y e n room w):ag prog kC #[ptr bj] h λr h'=>r=af ((room:Int)*w)∧h'=h:=by
 apply Ey;unfold uJ;obtain⟨⟨M,rs,J,a,b⟩,_⟩:=S;simp only[go_sem,J.c15 (Ext.refl _)];exact zcr J.ring
end
def z8 (s:Stg)(t:cP)(m:Pic):Nat:=tJ ⟨m,s,t⟩ t.y (lnF s.y t.y)
theorem zdW {Z:Nat→Prop}{h:ah}{p q:Value}{s:Stg}{t:cP}(m:Pic)(hp:gi Z h p s.x)(hq:gi Z h q s.y)(G:Dw s):
  ag prog xa #[.agg #[p,q,af s.border],.agg (dK t).toArray] h λr h'=>r=af (if eF s t.x t.y t.w t.h then(z8 s t m:Int)else 0)∧Ext h h':=by
 apply LC;unfold A9;simp only[bT];have HS:qX Z h (.agg #[p,q,af s.border]) s:=⟨p,q,rfl,hp,hq⟩
 refine aJ λb1 h1 r1 e1 n1=>aJ λb2 h2 r2 e2 n2=>?_
 have E2:=e1.trans e2;have r1:=e2.row r1;rw[aW (l:=[p,q,af s.border]) r1 3 rfl,aj,Vu,aj,Ox r2 (0+1) 4 [af t.x,af t.y,af t.w,af t.h] rfl rfl,aj];refine ag.to (VI (HS.ext E2) G.wf) λh4 e4=>?_
 have E4:=E2.trans e4;have r1:=e4.row r1;have r2:=e4.row r2;by_cases g:eF s t.x t.y t.w t.h
 case neg=>
  rw[aq g];simp only[go_sem,cE g];exact⟨trivial,E4⟩
 rw[aA g];obtain⟨g1,g2,g3,g4,g5,g6,g7,g8⟩:=g;have q1:aH h4 ⟨b1,1,none⟩=some q:=am r1;have t4:aH h4 ⟨b2,4,none⟩=some (af t.h):=am r2;have t2:aH h4 ⟨b2,2,none⟩=some (af t.y):=am r2;simp only[go_sem,cL (show eF s t.x t.y t.w t.h from⟨g1,g2,g3,g4,g5,g6,g7,g8⟩),t4,q1,t2];refine(Ds (hq.ext E4) G.wf.y).mono λr h5 ⟨u,e,S,e5⟩=>?_
 subst e;have E5:=E4.trans e5;have bc:qV false 1 0 (.agg #[af (bG s.y t.y).1,u])=some (af (lnF s.y t.y)):=rfl;have t4:aH h5 ⟨b2,4,none⟩=some (af t.h):=am (e5.row r2);simp only[go_sem,bc,t4];obtain⟨H,hH⟩:∃H:Nat,t.h=(H:Int):=⟨t.h.toNat,ae⟩
 have bk:=G.wf.y.len;have a8:=G.mono;obtain⟨d,hd⟩:∃d:gb,d=⟨m,s,t⟩:=⟨_,rfl⟩
 have I:d.s=s:=by rw[hd]
 have U:z8 s t m=mR d H t.y (lnF s.y t.y):=by
  unfold z8 tJ;rw[hd];show mR _ (t.y+t.h-t.y).toNat _ _=_;rw[show(t.y+t.h-t.y).toNat=H by omega]
 have W:∀k y e,lnF s.y y≤e→mR d k y e≤k*1048577:=λk y e he=>Jw (by rw[I];exact G.wf.y) k y e (by rw[I];exact he)
 have b3:=W H t.y (lnF s.y t.y) (dT _);rw[hH];refine bK (α:=Int×Int) H 0 (λk a=>[af a.1,af a.2,af (k:Int)])
  (λk a h'=>Ext h h'∧h'[b1]? =some (.cells #[p,q,af s.border] 81 (0,0))∧h'[b2]? =some (.cells (dK t).toArray 116 (0,0))∧0≤a.1∧a.1+mR d (H-k) (t.y+k) (max a.2 (lnF s.y (t.y+k)))-(H-k:Nat)=z8 s t m∧(k<H→a.2≤lnE s.y (t.y+k)∧lnF s.y t.y≤a.2)) ((H:Int),lnF s.y t.y) rfl (b9 _)
  ⟨E5,e5.row r1,e5.row r2,by show(0:Int)≤(H:Int);omega,by
   show((H:Int)+(mR d (H-0) (t.y+(0:Nat)) (max (lnF s.y t.y) (lnF s.y (t.y+(0:Nat)))):Int))-_=_;rw[show t.y+((0:Nat):Int)=t.y by omega,show max (lnF s.y t.y) (lnF s.y t.y)=lnF s.y t.y by omega,U,Ap];omega,λ_=>by
   show lnF s.y t.y≤lnE s.y (t.y+(0:Nat))∧_;rw[show t.y+((0:Nat):Int)=t.y by omega];exact⟨by unfold lnE lnF;omega,dT _⟩⟩ λk a h6 again ρ1 _ hk ⟨E6,ab,aa,a0,L,hL⟩ a9=>?_
 obtain⟨n,A⟩:=a;have a0:0≤n:=a0;have L:n+mR d (H-k) (t.y+k) (max A (lnF s.y (t.y+k)))-(H-k:Nat)=z8 s t m:=L;have hL:k<H→A≤lnE s.y (t.y+k)∧lnF s.y t.y≤A:=hL;simp only[go_sem];refine ao (λh7=>?_) (λh7=>?_)
 ·have ad:k<H:=ae;obtain⟨hL,b4⟩:=hL ad;have q1:aH h6 ⟨b1,1,none⟩=some q:=am ab;have t2:aH h6 ⟨b2,2,none⟩=some (af t.y):=am aa;simp only[go_sem,q1,t2];rw[w64 (n:=t.y+(k:Int)) ae ae];refine(Ds (hq.ext E6) G.wf.y).mono λr h7 ⟨u,e,S,e7⟩=>?_
  subst e;have hl:=rY G.wf.y (t.y+k);refine dh (cs:=[af (bG s.y (t.y+k)).1,u]) rfl (az rfl (az S.one bi)) rfl λb8 h8 r8 e8 n8=>?_
  obtain⟨au,cu,eu⟩:=S.isSl;have ax:aC u=some (af ((bG s.y (t.y+k)).2.length:Int)):=by rw[eu];rfl
  have c0:aH h8 ⟨b8,0,none⟩=some (af (bG s.y (t.y+k)).1):=am r8;have c1:aH h8 ⟨b8,1,none⟩=some u:=am r8;simp only[go_sem,aO,c0,c1,ax];have ar:(bG s.y (t.y+k)).1+((bG s.y (t.y+k)).2.length:Int)=lnE s.y (t.y+k):=rfl;have a7:(bG s.y (t.y+k)).1=lnF s.y (t.y+k):=rfl;have bo:lnF s.y (t.y+k)≤lnE s.y (t.y+k):=by unfold lnE lnF;omega
  have bv: -70368744177664≤lnE s.y (t.y+k)∧lnE s.y (t.y+k)≤70368745226240:=by unfold lnE;omega
  have al:=rY G.wf.y t.y;have bd: -70368744177664≤lnF s.y t.y∧lnF s.y t.y≤70368744177664:=⟨al.2.1,al.2.2⟩
  have bg: -70368744177664≤lnF s.y (t.y+k):=hl.2.1;rw[w64 (n:=(bG s.y (t.y+k)).1+((bG s.y (t.y+k)).2.length:Int)) ae ae,ar,a7];have F:mR d (H-k) (t.y+k) (max A (lnF s.y (t.y+k)))=(lnE s.y (t.y+k)-max A (lnF s.y (t.y+k))).toNat+1+mR d (H-(k+1)) (t.y+(k+1:Nat)) (max (lnE s.y (t.y+k)) (lnF s.y (t.y+(k+1:Nat)))):=by
   rw[show H-k=(H-(k+1))+1 by omega];rw[mR,I,show t.y+(k:Int)+1=t.y+((k+1:Nat):Int)by omega]
  have b0:=W (H-(k+1)) (t.y+(k+1:Nat)) (max (lnE s.y (t.y+k)) (lnF s.y (t.y+(k+1:Nat)))) ae;rw[F]at L;generalize an:mR d (H-(k+1)) (t.y+(k+1:Nat)) (max (lnE s.y (t.y+k)) (lnF s.y (t.y+(k+1:Nat))))=LL at*;rw[w64 (n:=lnE s.y (t.y+k)-max A (lnF s.y (t.y+k))) ae ae,w64 (n:=n+max 0 (lnE s.y (t.y+k)-max A (lnF s.y (t.y+k)))) ae ae,w64 (n:=(k:Int)+1) ae ae];refine a9 (n+max 0 (lnE s.y (t.y+k)-max A (lnF s.y (t.y+k))),max A (lnE s.y (t.y+k))) h8 ad ⟨E6.trans (e7.trans e8),(e7.trans e8).row ab,(e7.trans e8).row aa,?_,?_,λbe=>?_⟩
  ·show 0≤n+max 0 (lnE s.y (t.y+k)-max A (lnF s.y (t.y+k)));omega
  ·show n+max 0 (lnE s.y (t.y+k)-max A (lnF s.y (t.y+k)))+(mR d (H-(k+1)) (t.y+(k+1:Nat)) (max (max A (lnE s.y (t.y+k))) (lnF s.y (t.y+(k+1:Nat)))):Int)-_=_;rw[show max A (lnE s.y (t.y+k))=lnE s.y (t.y+k)by omega,an];omega
  ·have:=a8.e (t.y+k) (t.y+(k+1:Nat)) ae ae ae;show max A (lnE s.y (t.y+k))≤lnE s.y (t.y+(k+1:Nat))∧lnF s.y t.y≤max A (lnE s.y (t.y+k));omega
 ·have ay:k=H:=ae;subst ay;refine⟨?_,E6⟩;rw[S9]at L;have:n=z8 s t m:=by unfold mR at L;omega
  rw[this]
end
end Go.Proofs.YtjljhnandbbldaaGreatDoor
namespace Go.Proofs.YtjljhnandbbldaaGreatDoor
open Go Go.Crisp
attribute [local irreducible] ag du bh stK aE vK qK bO gK fR bA mkK dy GQ IQ DT bsK clK pG pH Q9
theorem On {t:Tbl}{i:Nat}(hi:i<t.lines.length):t.lines[i]=bG t (i:Int):=by
 unfold bG;rw[aA ae];simp[dA,hi]
def zeD (m:Pic)(s:Stg)(i:Nat):Int:=yx m s ((i/m.c.toNat%s.x.lines.length:Nat):Int) ((i/m.c.toNat/s.x.lines.length:Nat):Int) ((i%m.c.toNat:Nat):Int)
def Dv (m:Pic)(s:Stg):Pic:=⟨s.x.lines.length,s.y.lines.length,m.c,m.most,(List.range (s.y.lines.length*s.x.lines.length*m.c.toNat)).map λi:Nat=>zeD m s i⟩
theorem zc6 {m:Pic}{s:Stg}{x y c:Nat}(A:x<s.x.lines.length)(hc:c<m.c.toNat):zeD m s ((y*s.x.lines.length+x)*m.c.toNat+c)=yx m s x y c:=by
 unfold zeD;have G:((y*s.x.lines.length+x)*m.c.toNat+c)/m.c.toNat=y*s.x.lines.length+x:=by
  rw[fu,S7 ae,ul hc,gN]
 have I:((y*s.x.lines.length+x)*m.c.toNat+c)%m.c.toNat=c:=by
  rw[fu,L9,wO hc]
 rw[G,I];have H:(y*s.x.lines.length+x)%s.x.lines.length=x:=by rw[fu,L9,wO A]
 have F:(y*s.x.lines.length+x)/s.x.lines.length=y:=by rw[fu,S7 ae,ul A,gN]
 rw[H,F]
theorem zaN {m:Pic}{s:Stg}{x y c:Int}(hi:inP (Dv m s) x y c):atP (Dv m s) x y c=yx m s x y c:=by
 unfold atP;rw[aA hi];obtain⟨x0,x1,y0,y1,H,A⟩:=hi;have x1:x<s.x.lines.length:=x1;have y1:y<s.y.lines.length:=y1;have A:c<m.c:=A;obtain⟨a,rfl⟩:∃a:Nat,x=a:=⟨x.toNat,ae⟩
 obtain⟨b,rfl⟩:∃b:Nat,y=b:=⟨y.toNat,ae⟩
 obtain⟨e,rfl⟩:∃e:Nat,c=e:=⟨c.toNat,ae⟩
 have F:(qE (Dv m s) a b e).toNat=(b*s.x.lines.length+a)*m.c.toNat+e:=by
  show(((b:Int)*(s.x.lines.length:Int)+a)*m.c+e).toNat=_;have:((((b*s.x.lines.length+a)*m.c.toNat+e:Nat)):Int)=((b:Int)*(s.x.lines.length:Int)+a)*m.c+e:=by
   rw[L8,mB,L8,mB,xU ae]
  omega
 rw[F];have h1:b*s.x.lines.length+a<s.y.lines.length*s.x.lines.length:=by
  have:(b+1)*s.x.lines.length≤s.y.lines.length*s.x.lines.length:=ja _ ae;rw[eO,uj]at this;omega
 have G:(b*s.x.lines.length+a)*m.c.toNat+e<s.y.lines.length*s.x.lines.length*m.c.toNat:=by
  have:(b*s.x.lines.length+a+1)*m.c.toNat≤s.y.lines.length*s.x.lines.length*m.c.toNat:=ja _ ae;rw[eO,uj]at this;omega
 show((List.range _).map _).getD _ 0=_;rw[dA,yb,Ys G];exact zc6 ae ae
end Go.Proofs.YtjljhnandbbldaaGreatDoor
namespace Go.Crisp
open Go
def oP (w:Nat)(h:ah)(v:Value)(n:Nat)(cs:List Value):Prop:=
 (v=.slice none 0 0∧n=0∧cs=[])∨∃b cap p r e,v=.slice (some ⟨b,p.length,none⟩) n cap∧n≤cap∧cs.length=n*w∧(cs++r).length=cap*w∧h[b]? =some (.cells (p++(cs++r)).toArray e (0,0))
theorem oP.nil {w:Nat}{h:ah}:oP w h (.slice none 0 0) 0 []:=.inl ⟨rfl,rfl,rfl⟩
theorem Own.o {w:Nat}{h:ah}{v:Value}{n:Nat}{cs:List Value}(H:Own w h v n cs):oP w h v n cs:=by
 rcases H with H|⟨b,cap,r,e,rfl,h1,F,A,G⟩
 ·exact .inl H
 ·exact .inr ⟨b,cap,[],r,e,rfl,h1,F,A,G⟩
theorem oP.fr {w:Nat}{M:Nat→Prop}{h h':ah}{v:Value}{n:Nat}{cs:List Value}(H:oP w h v n cs)(f:Fr M h h')(F:∀b,blk v b→¬M b):oP w h' v n cs:=by
 rcases H with⟨rfl,rfl,rfl⟩|⟨b,cap,p,r,e,rfl,hc,A,I,G⟩
 ·exact .inl ⟨rfl,rfl,rfl⟩
 ·exact .inr ⟨b,cap,p,r,e,rfl,hc,A,I,f.row G (F b rfl)⟩
theorem oP.ext {w:Nat}{h h':ah}{v:Value}{n:Nat}{cs:List Value}(H:oP w h v n cs)(f:Ext h h'):oP w h' v n cs:=H.fr (M:=λ_=>False) f.fr λ_ _=>id
theorem oP.lt {w:Nat}{h:ah}{v:Value}{n:Nat}{cs:List Value}(H:oP w h v n cs){b:Nat}(A:blk v b):b<h.size:=by
 rcases H with⟨rfl,rfl,rfl⟩|⟨F,cap,p,r,e,rfl,hc,G,I,h'⟩
 ·cases A
 ·rw[show b=F from A];exact(mD.1 h').1
theorem oP.sl {w:Nat}{h:ah}{v:Value}{n:Nat}{cs:List Value}(H:oP w h v n cs):SlC w h v n cs:=by
 rcases H with⟨rfl,rfl,rfl⟩|⟨b,cap,p,r,e,rfl,hc,F,_,G⟩
 ·exact⟨by simp,none,0,rfl,.inl rfl⟩
 ·refine⟨F,_,cap,rfl,.inr ⟨b,p.length,rfl,λj A=>?_⟩⟩;rw[am G];simp only[Am];rw[vk (Nat.le_add_right _ _),Yt,vy A];simp[A]
theorem zcM (ds p cs r:List Value)(h:ds.length≤r.length):wrL (p++(cs++r)).toArray (p.length+cs.length) ds=(p++(cs++ds++r.drop ds.length)).toArray:=by
 have:=Hd ds (p++cs) r h;rw[co]at this;rw[←cj,this];simp
theorem zaO {z:Value}{e:TypeId}{w bytes n m:Nat}{s x:Value}{h:ah}{cs ds:List Value}{K:Value→ah→Prop}
  (hs:oP w h s n cs) (hx:SlC w h x m ds) (ho:∀v∈ds,aV v=true) (hz:z.cells.size=w) (hb:(n+m)*bytes≤140737488355328) (hn:n+m≤9223372036854775807)
  (H:∀U h',oP w h' U (n+m) (cs++ds)→Fr (blk s) h h'→(∀b,blk U b→blk s b∨h.size≤b)→K U h'):dy z e w bytes s x h K:=by
 rcases hs with⟨rfl,rfl,rfl⟩|⟨b,cap,p,r,e0,rfl,hc,L,hr,I⟩
 ·exact w8 (.inl ⟨rfl,rfl,rfl⟩) hx ho hz hb hn λU h' o=>H U h' o.o
 ·have G:SlC w h (.slice (some ⟨b,p.length,none⟩) n cap) n cs:=oP.sl (.inr ⟨b,cap,p,r,e0,rfl,hc,L,hr,I⟩);have G:=G.loads;have W:=hx.loads;obtain⟨F,a',ad,rfl,al⟩:=hx;unfold dy;simp only[QH];split
  ·rename_i h0;rw[W];have ab:ds.length≤r.length:=by
    rw[co]at hr;rw[F];have:(n+m)*w≤cap*w:=ja w h0;rw[eO]at this;omega
   have aa:=nM (o:=p.length+n*w) ds 0 h _ I (by simp;omega) ho;simp only[nD,aa];rw[gN,←L,zcM ds p cs r ab];refine H _ _ (.inr ⟨b,cap,p,r.drop ds.length,e0,rfl,h0,?_,?_,ns I⟩) (Upd.set.fr) (λk hk=>.inl hk)
   ·simp[L,F,eO]
   ·rw[←hr];simp;omega
  ·rename_i h0;rw[G,W];refine⟨by simp only[IntKind.max];simp only[IntKind.signed,IntKind.bits];omega,bB (TG ae hb) (by decide),λA h1 h2=>?_⟩;refine H _ _ (.inr ⟨h.size,A,[],(Builtin.zeroCells z.cells (A-(n+m))).toList,e,rfl,h1,?_,?_,?_⟩) (Ext.push h _).fr (λb hb=>.inr (by rw[show b=h.size from hb];exact cf _))
   ·simp[L,F,eO]
   ·simp[L,F,RX,hz];rw[←eO,←eO];congr 1;omega
   ·rw[tm];simp
theorem oP.tail {w:Nat}{h:ah}{v x:Value}{n:Nat}{cs ds:List Value}(H:oP w h v (n+1) (ds++cs))(hd:ds.length=w)(W:0<n){k:IntKind}:
  ∃F,yu w v (some (.int k 1)) none=some F∧oP w h F n cs∧∀b,blk F b→blk v b:=by
 rcases H with⟨_,h0,_⟩|⟨b,cap,p,r,e,rfl,hc,I,G,U⟩
 ·cases h0
 ·have A:¬cap=1:=ae;refine⟨.slice (some ⟨b,p.length+w,none⟩) n (cap-1),?_,.inr ⟨b,cap-1,p++ds,r,e,by rw[co,hd],ae,?_,?_,?_⟩,λc hc=>hc⟩
  ·have L:bdV (some (Value.int k 1)) 0 (n+1)=some 1:=Er k 1 0 (n+1) ae;simp only[yu,bdV,L,aq A,cR,nD,uj,sb];rw[aA ae];simp[A]
  ·rw[co,hd,eO,uj]at I;omega
  ·simp only[co]at G ⊢;rw[hd]at G;have:cap*w=(cap-1)*w+w:=by rw[←Au];congr 1;omega
   omega
  ·rw[U];simp
def OwO (k:IntKind)(h:ah)(v:Value)(l:List Int):Prop:=oP 1 h v l.length (l.map λx=>Value.int k x)
theorem OwO.nil {k:IntKind}{h:ah}:OwO k h (.slice none 0 0) []:=oP.nil
theorem OwO.sl {k:IntKind}{h:ah}{v:Value}{l:List Int}(H:OwO k h v l):Rp.Sl (Rp.int k) (blk v) h v l:=by
 have s:=oP.sl H;refine⟨_,s,λ_ b A=>A,λi hi=>?_⟩;show Rp.el 1 (l.map λx=>Value.int k x) i=[Value.int k l[i]];rw[Rp.el_one (by simpa using hi)];simp
theorem OwO.push {k:IntKind}{z U:Value}{t I:TypeId}{bytes:Nat}{s:Value}{h:ah}{l:List Int}{x:Int}{K:Value→ah→Prop}(L:OwO k h s l)(G:z.cells.size=1)
  (W:(l.length+1)*bytes≤140737488355328) (hn:l.length+1≤9223372036854775807)
  (H:∀A h',OwO k h' A (l++[x])→Fr (blk s) h h'→(∀b,blk A b→blk s b∨h.size≤b)→K A h'):du #[U] t 1 [(0,1,.int k x)] h λv2 h3=>dy z I 1 bytes s v2 h3 K:=by
 refine di (Rp.fill_one rfl) λb h1 r1 F n1=>?_
 refine zaO (oP.ext L F) (Rp.SlC.single (cs:=[.int k x]) r1) (az (a:=Value.int k x) rfl bi) G W hn λA h' o' f' n'=>H A h' ?_ (F.fr.trans f') λc hc=>(n' c hc).imp id λh2=>bB F.1 h2
 unfold OwO;rw[co,jA];exact o'
theorem OwO.tail {k k':IntKind}{h:ah}{v:Value}{x:Int}{l:List Int}(H:OwO k h v (x::l))(F:0<l.length):
  ∃A,yu 1 v (some (.int k' 1)) none=some A∧OwO k h A l∧∀b,blk A b→blk v b:=
 oP.tail (x:=v) (ds:=[.int k x]) H rfl F
end Go.Crisp
namespace Go.Proofs.YtjljhnandbbldaaGreatDoor
open Go Go.Crisp
attribute [local irreducible] ag du bh stK aE vK qK bO gK fR bA mkK dy GQ IQ DT bsK clK pG pH Q9
open _root_.Go.Proofs.Tryz
def uU (e E:Int):List (Int×Int):=(List.range (E-e).toNat).map λi:Nat=>((1:Int),e+(i:Int))
def mz (d:gb):Nat→Int→Int→List (Int×Int)
 |0,_,_=>[]
 |k+1,y,e=>uU e (lnE d.s.y y)++(2,y)::mz d k (y+1) (max (lnE d.s.y y) (lnF d.s.y (y+1)))
def SX (d:gb)(y e:Int):List (Int×Int):=mz d (d.t.y+d.t.h-y).toNat y e
theorem WB {e E:Int}(h:E≤e):uU e E=[]:=by
 unfold uU;rw[show(E-e).toNat=0 by omega];rfl
theorem Wz {e E:Int}(h:e≤E):uU e (E+1)=uU e E++[(1,E)]:=by
 unfold uU;rw[show(E+1-e).toNat=(E-e).toNat+1 by omega,mA,jA]
 congr 1
 show[((1:Int),e+((E-e).toNat:Int))]=[(1,E)];rw[show e+((E-e).toNat:Int)=E by omega]
theorem Kb {e E:Int}:(uU e E).length=(E-e).toNat:=by unfold uU;rw[cS,ft]
theorem Oe (d:gb):∀(k:Nat) (y e:Int),(mz d k y e).length=mR d k y e
 |0,_,_=>rfl
 |k+1,y,e=>by
  unfold mz mR;rw[co,pJ,Kb,Oe d k];omega
def Bu:Rp (Int×Int) where
 w:=2
 R:=λ_ _ cs x=>cs=[.int .i64 x.1,.int .i64 x.2]
 len:=by rintro _ _ _ _ rfl;rfl
 one:=by rintro _ _ _ _ rfl;exact az rfl (az rfl bi)
 fr:=by rintro _ _ _ _ _ _ h _ _;exact h
 mono:=by rintro _ _ _ _ _ h _;exact h
theorem New.push2 {z:Value}{c:Array Value}{t L:TypeId}{bytes:Nat}{h h1:ah}{v:Value}{l:List (Int×Int)}{a b:Int}{K:Value→ah→Prop}(H:New Bu h h1 v l)(hc:c.size=2)(I:z.cells.size=2)(F:(l.length+1)*bytes≤140737488355328)(W:l.length+1≤9223372036854775807)
  (U:∀A h',New Bu h h' A (l++[(a,b)])→Fr (blk v) h1 h'→(∀b,blk A b→blk v b∨h1.size≤b)→K A h'):du c t 1 [(0,2,.agg #[af a,af b])] h1 λv2 h3=>dy z L 2 bytes v v2 h3 K:=by
 refine Rp.push_ow (e:=Bu) (cs:=[af a,af b]) (x:=(a,b)) H.1 rfl hc I F W (λb F=>F.elim) λA h' o' G n'=>U A h' ⟨o',H.2.1.then_fr G H.2.2,λb F=>?_⟩ G n'
 rcases n' b F with h1|h1
 ·exact H.2.2 b h1
 ·exact bB H.2.1.1 h1
theorem zdK {h:ah}{Z:Nat→Prop}{v:Value}{l:List Int}{j:Int}(H:Rp.Sl (Rp.int .i64) Z h v l)(hl:l.length≤4611686018427387904):ag prog G9 #[v,af j] h λr h'=>r=.bool (decide (j∈l))∧h'=h:=by
 apply U5;unfold KX;obtain⟨a,c,e⟩:=H.isSl;have W:aC v=some (af (l.length:Int)):=by rw[e];rfl
 rw[W,aj];refine bK (α:=Unit) l.length 0 (λk _=>[af (k:Int)]) (λk _ h'=>h'=h∧∀x∈l.take k,x≠j) () rfl (b9 _) ⟨rfl,by simp⟩ λk _ h1 again ρ1 _ hk ⟨w,I⟩ G=>?_
 subst w;simp only[go_sem];refine ao (λh0=>?_) (λh0=>?_)
 ·have A:k<l.length:=ae;obtain⟨p,q1,U⟩:=H.int_at (k':=.i64) A;simp only[go_sem,q1,U];refine ao (λL=>?_) (λL=>?_)
  ·refine⟨?_,trivial⟩;rw[cL];rw[←L];exact cG A
  ·rw[w64 ae ae];refine G () h1 A ⟨rfl,λx F=>?_⟩;rw[iY A]at F;rcases cQ.1 F with F|F
   ·exact I x F
   ·rw[dc.1 F];exact L
 ·have:k=l.length:=ae;subst this;refine⟨?_,trivial⟩;rw[cE];intro hm;rw[An]at I;exact I j hm rfl
structure qY (l:List Int)(F e:Int)(most:Nat):Prop where
 up:l.Pairwise (· < ·)
 inn:∀j,F≤j→j<e→j∈l
 lt:∀x∈l,x<e
 len:l.length≤most
theorem qY.start (F:Int)(most:Nat):qY [] F F most:=⟨List.Pairwise.nil,λj a b=>ae,by simp,by simp⟩
theorem qY.move {l:List Int}{F e A:Int}{most:Nat}(H:qY l F e most)(I:F≤A):qY l A (max e A) most:=
 ⟨H.up,λj a b=>H.inn j ae ae,λx G=>by have:=H.lt x G;omega,H.len⟩
theorem qY.nodup {l:List Int}(h:l.Pairwise (· < ·)):l.Nodup:=h.imp λa=>ae
theorem qY.push {l:List Int}{F e:Int}{most:Nat}(H:qY l F e most):(l++[e]).Pairwise (· < ·)∧(∀j,F≤j→j<e+1→j∈l++[e])∧(∀x∈l++[e],x<e+1):=by
 refine⟨?_,λj a b=>?_,λx L=>?_⟩
 ·rw[pN];exact⟨H.up,by simp,λa A b G=>by rw[dc.1 G];exact H.lt a A⟩
 ·by_cases I:j<e
  ·exact xT _ (H.inn j a I)
  ·rw[show j=e by omega];simp
 ·rcases cQ.1 L with h|h
  ·have:=H.lt x h;omega
  ·rw[dc.1 h];omega
theorem qY.next {l:List Int}{F e E:Int}{most:Nat}(H:qY l F e most)(he:F≤e)(hE:e<E)(hm:E-F≤most):(l.length+1≤most∧qY (l++[e]) F (e+1) most)∨(∃x t,l++[e]=x::t∧most<l.length+1∧0<t.length∧qY t F (e+1) most):=by
 obtain⟨L,W,U⟩:=H.push;by_cases h1:l.length+1≤most
 ·exact .inl ⟨h1,L,W,U,by simpa using h1⟩
 ·cases l with
  |nil=>simp at h1;omega
  | cons x l=>
   have hl:=H.len;refine .inr ⟨x,l++[e],rfl,ae,by simp,?_⟩;have hx:x<F:=by
    rcases nT x F with h|h
    ·exact h
    ·have G:∀z∈x::l,F≤z∧z<e:=λz A=>by
      refine⟨?_,H.lt z A⟩;rcases fC.1 A with rfl|A
      ·exact h
      ·have:=(xV.1 H.up).1 z A;omega
     have:=nodup_range (qY.nodup H.up) G;omega
   have I:(x::(l++[e])).Pairwise (· < ·):=L;refine⟨(xV.1 I).2,λj a b=>?_,λz A=>U z (uo _ A),by simp at hl ⊢;omega⟩;have:=W j a b;rcases fC.1 (show j∈x::(l++[e])from this)with h|h
   ·omega
   ·exact h
theorem XD {h:ah}{Z:Nat→Prop}{ds:List Value}{s:Stg}{m:Pic}{t:cP}(K:yw.R Z h ds s)(OK:Dw s)(hy:0≤t.y)(hh:1≤t.h)(es:t.y+t.h≤s.y.lines.length):
  ag prog yJ #[.agg ds.toArray,af t.y,af t.h] h λr h'=>New Bu h h' r (SX ⟨m,s,t⟩ t.y (lnF s.y t.y)):=by
 apply Np;unfold BR;obtain⟨X,Y,rfl,HX,HY⟩:=K;have WS:=OK.wf;have ei:=WS.y.len;simp only[bT];refine aJ λb1 h1 r1 e1 n1=>?_
 have k1:aH h1 ⟨b1,1,none⟩=some Y:=am r1;obtain⟨aY,cY,eY⟩:=HY.isSl;have cr:aC Y=some (af (s.y.lines.length:Int)):=by rw[eY];rfl
 simp only[go_sem,aO,k1,cr]
 -- a line, read into a variable
 have rd:∀{U:ah} {i:Nat} (hi:i<s.y.lines.length),Ext h U→∀{Kp:Value→ah→Prop},(∀b h3 u,h3[b]? =some (.cells #[af (bG s.y i).1,u] 240 (0,0))→Ext U h3→U.size≤b→aC u=some (af ((bG s.y i).2.length:Int))→Kp (ptr b) h3)→
   vK (bu 2 Y (af (i:Int))) λc3=>vK (aR 2 U c3) λcc=>bh #[ai,(.slice none 0 0)] 240 U λbk c6=>stK 2 bk cc c6 λej cp=>Kp bk cp:=by
  intro U i hi E Kp HK;obtain⟨p,cs,q1,q2,Rr⟩:=Rp.Sl.atw (e:=mP) (HY.ext E) (show 0<2 by omega) (k:=.i64) hi;rw[On hi]at Rr;obtain⟨u,rfl,Su⟩:=Rr;have q1:bu 2 Y (af (i:Int))=some p:=q1;have q2:aR 2 U p=some (.agg #[af (bG s.y i).1,u]):=q2;rw[q1,aj,q2,aj];obtain⟨au,cu,eu⟩:=Su.isSl;exact dh (cs:=[af (bG s.y i).1,u]) rfl (az rfl (az Su.one bi)) rfl λb h3 r3 e3 n3=>HK b h3 u r3 e3 n3 (by rw[eu];rfl)
 -- the most taps of a line
 have be:∀k,k<s.y.lines.length→cJ (s.y.lines.take (k+1))=max (cJ (s.y.lines.take k)) ((bG s.y k).2.length:Int):=λk hk=>by
  rw[iY hk,GA,On hk]
 have ci:=OK.most;have eb:=Yl s.y.lines;have ep:∀k,0≤cJ (s.y.lines.take k)∧cJ (s.y.lines.take k)≤cJ s.y.lines:=λk=>⟨Yl _,Gz eb λx hx=>(L6 s.y.lines 0).2 x (Eb hx)⟩
 refine bK (α:=Unit) s.y.lines.length 0 (λk _=>[af (cJ (s.y.lines.take k)),af (k:Int)]) (λk _ h'=>Ext h1 h') () rfl (b9 _) (Ext.refl _) λk _ U again ρ1 _ hk E2 ar=>?_
 have ax:=e1.trans E2;simp only[go_sem];refine ao (λg1=>?_) (λg1=>?_)
 ·have ad:k<s.y.lines.length:=ae;refine rd ad ax λb3 h3 u r3 e3 n3 an=>?_
  have c1:aH h3 ⟨b3,1,none⟩=some u:=am r3;have bv:=be k ad;simp only[go_sem,aO,c1,an];refine ao (λg2=>?_) (λg2=>?_)
  ·try simp only[go_sem,aO,c1,an]
   rw[w64 ae ae];have:=ar () h3 ad (E2.trans e3);rw[bv,show max (cJ (s.y.lines.take k)) ((bG s.y k).2.length:Int)=((bG s.y k).2.length:Int)by omega]at this;exact this
  ·rw[w64 ae ae];have:=ar () h3 ad (E2.trans e3);rw[bv,show max (cJ (s.y.lines.take k)) ((bG s.y k).2.length:Int)=cJ (s.y.lines.take k)by omega]at this;exact this
 have c9:k=s.y.lines.length:=ae;subst c9;rw[An]
 clear ar
 obtain⟨most,b8⟩:∃n:Nat,cJ s.y.lines=(n:Int):=⟨(cJ s.y.lines).toNat,ae⟩
 rw[b8];obtain⟨d,hd⟩:∃d:gb,d=⟨m,s,t⟩:=⟨_,rfl⟩
 have bg:d.s=s:=by rw[hd]
 rw[←hd];obtain⟨H,hH⟩:∃H:Nat,t.h=(H:Int):=⟨t.h.toNat,ae⟩
 obtain⟨y0,b0⟩:∃y0:Nat,t.y=(y0:Int):=⟨t.y.toNat,ae⟩
 have dl:SX d t.y (lnF s.y t.y)=mz d H y0 (lnF s.y y0):=by
  unfold SX;have:d.t=t:=by rw[hd]
  rw[this,b0,show((y0:Int)+t.h-(y0:Int)).toNat=H by omega]
 rw[dl,hH,b0];have a8:∀k y e,lnF s.y y≤e→(mz d k y e).length≤k*1048577:=λk y e he=>by
  rw[Oe];exact Jw (by rw[bg];exact WS.y) k y e (by rw[bg];exact he)
 have ez:=a8 H y0 (lnF s.y y0) (dT _);have bd:=OK.mono
 -- line by line
 refine bK (α:=Value×Value×List (Int×Int)×List Int×Int) H 0 (λk a=>[a.1,a.2.1,af (k:Int)])
  (λk a h'=>New Bu h h' a.1 a.2.2.1∧OwO .i64 h' a.2.1 a.2.2.2.1∧(∀b,blk a.2.1 b→U.size≤b)∧(∀b,blk a.1 b→U.size≤b∧¬blk a.2.1 b)∧Ext U h'∧(k<H→qY a.2.2.2.1 (lnF s.y (y0+k:Nat)) a.2.2.2.2 most∧lnF s.y (y0+k:Nat)≤a.2.2.2.2∧a.2.2.2.2≤lnE s.y (y0+k:Nat))∧
   a.2.2.1++mz d (H-k) ((y0+k:Nat):Int) a.2.2.2.2=mz d H y0 (lnF s.y y0))
  (.slice none 0 0,.slice none 0 0,[],[],lnF s.y y0) rfl (b9 _)
  ⟨New.nil ax,OwO.nil,λb A=>A.elim,λb A=>A.elim,Ext.refl _,λ_=>⟨qY.start _ _,dT _,by unfold lnE lnF;show(bG s.y ((y0+0:Nat):Int)).1≤_;omega⟩,rfl⟩ λk a h3 again ρ2 _ hk ⟨N3,O3,b3,a3,E3,H3,M3⟩ ar=>?_
 obtain⟨ov,W,out,held,e⟩:=a;have N3:New Bu h h3 ov out:=N3;have O3:OwO .i64 h3 W held:=O3;have b3:∀b,blk W b→U.size≤b:=b3;have a3:∀b,blk ov b→U.size≤b∧¬blk W b:=a3;have H3:k<H→qY held (lnF s.y (y0+k:Nat)) e most∧lnF s.y (y0+k:Nat)≤e∧e≤lnE s.y (y0+k:Nat):=H3;have M3:out++mz d (H-k) ((y0+k:Nat):Int) e=mz d H y0 (lnF s.y y0):=M3;simp only[go_sem];refine ao (λg1=>?_) (λg1=>?_)
 ·have ad:k<H:=ae;obtain⟨HL,er,ey⟩:=H3 ad;have k1:aH h3 ⟨b1,1,none⟩=some Y:=am (E3.row (E2.row r1));simp only[go_sem,aO,k1];rw[w64 (n:=(y0:Int)+(k:Int)) ae ae,show(y0:Int)+(k:Int)=((y0+k:Nat):Int)by omega];refine rd ae (ax.trans E3) λb4 h4 u r4 e4 n4 an=>?_
  have c1:aH h4 ⟨b4,1,none⟩=some u:=am r4;simp only[go_sem,aO,c1,an];have hl:=rY WS.y ((y0+k:Nat):Int);have c8:=bd.m ((y0+k:Nat):Int);have bo:k+1<H→lnF s.y ((y0+k:Nat):Int)≤lnF s.y ((y0+(k+1):Nat):Int)∧lnE s.y ((y0+k:Nat):Int)≤lnE s.y ((y0+(k+1):Nat):Int):=λh=>⟨bd.f _ _ ae ae ae,bd.e _ _ ae ae ae⟩
  have ea:mz d (H-k) ((y0+k:Nat):Int) e=uU e (lnE s.y ((y0+k:Nat):Int))++(2,((y0+k:Nat):Int))::mz d (H-(k+1)) ((y0+(k+1):Nat):Int) (max (lnE s.y ((y0+k:Nat):Int)) (lnF s.y ((y0+(k+1):Nat):Int))):=by
   rw[show H-k=(H-(k+1))+1 by omega];rw[mz,bg,show((y0+k:Nat):Int)+1=((y0+(k+1):Nat):Int)by omega]
  rw[ea]at M3;have ee:(mz d H y0 (lnF s.y y0)).length≤68719542272:=ae;generalize eg:((y0+k:Nat):Int)=yk at*;have c4:lnE s.y yk=lnF s.y yk+((bG s.y yk).2.length:Int):=rfl;have ew:(bG s.y yk).1=lnF s.y yk:=rfl;have ek: -70368744177664≤lnF s.y yk∧lnF s.y yk≤70368744177664:=hl.2;obtain⟨L,hL⟩:∃L:Nat,(bG s.y yk).2.length=L:=⟨_,rfl⟩
  rw[hL]at c4 an c8 hl;rw[hL];have c2:h4[b4]? =some (.cells #[af (lnF s.y yk),u] 240 (0,0)):=r4;generalize lnF s.y yk=F at*
  -- the rows that the line lacks
  refine bK (α:=Value×Value×List Int×Int) L 0 (λi a=>[a.1,a.2.1,af (i:Int)])
   (λi a h'=>New Bu h h' a.1 (out++uU e a.2.2.2)∧OwO .i64 h' a.2.1 a.2.2.1∧(∀b,blk a.2.1 b→U.size≤b∧b≠b4)∧(∀b,blk a.1 b→U.size≤b∧b≠b4∧¬blk a.2.1 b)∧Ext U h'∧h'[b4]? =some (.cells #[af F,u] 240 (0,0))∧b4<h'.size∧qY a.2.2.1 F a.2.2.2 most∧a.2.2.2=max e (F+i))
   (ov,W,held,e) rfl (b9 _)
   ⟨by show New Bu h h4 ov (out++uU e e);rw[WB (dT _),fN];exact N3.ext e4,oP.ext O3 e4,λb A=>⟨b3 b A,λhe=>by have:=oP.lt O3 A;omega⟩,λb A=>⟨(a3 b A).1,λhe=>by have:=N3.lt A;omega,(a3 b A).2⟩,E3.trans e4,c2,bD r4,HL,by show e=max e (F+((0:Nat):Int));omega⟩
   λi a h5 b2 ρ3 _ hi ⟨N5,O5,b5,a5,E5,r5,l5,H5,m5⟩ al=>?_
  obtain⟨bc,aa,G,I⟩:=a;have N5:New Bu h h5 bc (out++uU e I):=N5;have O5:OwO .i64 h5 aa G:=O5;have b5:∀b,blk aa b→U.size≤b∧b≠b4:=b5;have a5:∀b,blk bc b→U.size≤b∧b≠b4∧¬blk aa b:=a5;have H5:qY G F I most:=H5;have m5:I=max e (F+i):=m5;have ca:(out++uU e I).length+1≤68719542273:=by
   have:=congrArg List.length M3;rw[co,co,Kb]at this;rw[co,Kb];omega
  simp only[go_sem];refine ao (λg2=>?_) (λg2=>?_)
  ·have a9:i<L:=ae;have c0:aH h5 ⟨b4,0,none⟩=some (af F):=am r5;simp only[go_sem,aO,c0];rw[w64 (n:=F+(i:Int)) ae ae];refine ag.at (zdK O5.sl (by have:=H5.len;omega)) ?_;refine ao (λg3=>?_) (λg3=>?_)
   ·have:=H5.lt _ g3;rw[w64 ae ae];refine al (bc,aa,G,I) h5 a9 ⟨N5,O5,b5,a5,E5,r5,l5,H5,?_⟩;show I=max e (F+((i+1:Nat):Int));omega
   ·have ct:I=F+i:=by
     rcases nT (F+(i:Int)) I with h|h
     ·exact absurd (H5.inn _ ae h) g3
     ·omega
    rw[←ct];rw[show aQ #[ai,ai] [(0,1,aG),(1,1,af I)]=some #[aG,af I]from AD rfl rfl,bJ,aj];have eh:I<lnE s.y yk:=ae;refine New.push2 (a:=1) (b:=I) N5 rfl rfl ae ae λab h6 N6 f6 n6=>?_
    have O6:OwO .i64 h6 aa G:=oP.fr O5 f6 λb A W=>(a5 b W).2.2 A
    have r6:=f6.row r5 λW=>(a5 _ W).2.1 rfl
    have et:=f6.1;have v6:∀b,blk ab b→U.size≤b∧b≠b4∧¬blk aa b:=λb A=>by
     rcases n6 b A with h|h
     ·exact a5 b h
     ·have hs:=E5.1;exact⟨ae,ae,λW=>by have:=oP.lt O5 W;omega⟩
    have E6:Ext U h6:=E5.then_fr f6 λb A=>(a5 b A).1
    refine OwO.push (x:=I) O6 rfl (by have:=H5.len;omega) (by have:=H5.len;omega) λay h7 O7 f7 n7=>?_
    have N7:New Bu h h7 ab (out++uU e (I+1)):=by
     rw[Wz ae,←cj];exact N6.fr f7 (λb A=>bB ax.1 (b5 b A).1) λb A W=>(v6 b A).2.2 W
    have r7:=f7.row r6 λW=>(b5 _ W).2 rfl
    have E7:Ext U h7:=E6.then_fr f7 λb A=>(b5 b A).1
    have l7:=bD r7;have b7:∀b,blk ay b→U.size≤b∧b≠b4:=λb A=>by
     rcases n7 b A with h|h
     ·exact b5 b h
     ·have hs:=E6.1;have:=bD r6;exact⟨ae,ae⟩
    have v7:∀b,blk ab b→U.size≤b∧b≠b4∧¬blk ay b:=λb A=>by
     refine⟨(v6 b A).1,(v6 b A).2.1,λW=>?_⟩;rcases n7 b W with h|h
     ·exact(v6 b A).2.2 h
     ·have:=N6.lt A;omega
    obtain⟨a7,c7,e7⟩:=O7.sl.isSl;have dz:aC ay=some (af ((G.length+1:Nat):Int)):=by rw[e7,co];rfl
    simp only[go_sem,dz];rcases H5.next (E:=lnE s.y yk) ae ae ae with⟨q1,q2⟩|⟨x,tl,q1,q2,q3,q4⟩
    ·rw[cE ae];simp only[go_sem];rw[w64 ae ae];refine al (ab,ay,G++[I],I+1) h7 a9 ⟨N7,O7,b7,v7,E7,r7,l7,q2,?_⟩;show I+1=max e (F+((i+1:Nat):Int));omega
    ·rw[cL ae];simp only[go_sem];rw[q1]at O7;obtain⟨cw,s8,O8,n8⟩:=O7.tail (k':=.i64) q3;rw[s8,aj,w64 ae ae];refine al (ab,cw,tl,I+1) h7 a9 ⟨N7,O8,λb A=>b7 b (n8 b A),λb A=>⟨(v7 b A).1,(v7 b A).2.1,λW=>(v7 b A).2.2 (n8 b W)⟩,E7,r7,l7,q4,?_⟩;show I+1=max e (F+((i+1:Nat):Int));omega
  ·have ec:i=L:=ae;subst ec;have b6:I=lnE s.y yk:=ae;rw[show aQ #[ai,ai] [(0,1,(af 2)),(1,1,af yk)]=some #[af 2,af yk]from AD rfl rfl,bJ,aj];refine New.push2 (a:=2) (b:=yk) N5 rfl rfl ae ae λab h6 N6 f6 n6=>?_
   try simp only[go_sem]
   rw[w64 ae ae];have E6:Ext U h6:=E5.then_fr f6 λb A=>(a5 b A).1
   refine ar (ab,aa,out++uU e I++[(2,yk)],G,max I (lnF s.y ((y0+(k+1):Nat):Int))) h6 ad ⟨N6,oP.fr O5 f6 λb A W=>(a5 b W).2.2 A,λb A=>(b5 b A).1,λb A=>?_,E6,λcb=>?_,?_⟩
   ·rcases n6 b A with h|h
    ·exact⟨(a5 b h).1,(a5 b h).2.2⟩
    ·have hs:=E5.1;exact⟨ae,λW=>by have:=oP.lt O5 W;omega⟩
   ·obtain⟨g5,g6⟩:=bo cb;refine⟨H5.move g5,by show _≤max I _;omega,?_⟩;show max I _≤_;have:lnF s.y ((y0+(k+1):Nat):Int)≤lnE s.y ((y0+(k+1):Nat):Int):=by unfold lnE lnF;omega
    omega
   ·show(out++uU e I++[(2,yk)])++mz d (H-(k+1)) ((y0+(k+1):Nat):Int) (max I (lnF s.y ((y0+(k+1):Nat):Int)))=_;rw[b6];rw[←M3];simp
 ·have dq:k=H:=ae;subst dq;rw[S9]at M3;have M3:out++[]=mz d k y0 (lnF s.y y0):=M3;rw[fN]at M3;rw[←M3];exact N3
theorem Yk (a b c d:Int):ak (.st [(0,1,.i),(1,1,.i)]) .eql (C5 a b) (C5 c d)=some (.bool (decide (a=c∧b=d))):=by
 have A:(a==c)=decide (a=c):=rfl;have G:(b==d)=decide (b=d):=rfl;simp only[ak,eqV,Io,MV,MW,yF,Am,Ei,yf,cN,A,G];by_cases h:a=c<;>by_cases F:b=d<;>simp[h,F]
theorem zdd (a b c d:Int):ak (.st [(0,1,.i),(1,1,.i)]) .neq (C5 a b) (C5 c d)=some (.bool (!decide (a=c∧b=d))):=by
 have A:(a==c)=decide (a=c):=rfl;have G:(b==d)=decide (b=d):=rfl;simp only[ak,eqV,Io,MV,MW,yF,Am,Ei,yf,cN,A,G];by_cases h:a=c<;>by_cases F:b=d<;>simp[h,F]
structure Bx (Z:Nat→Prop)(h:ah)(bf:Nat)(vf:Value)(bt:Nat)(vt p q:Value)(m n:Pic)(s:Stg):Prop where
 src:dp h bf vf m
 out:dp h bt vt n
 ne:bf≠bt
 tx:gi Z h p s.x
 ty:gi Z h q s.y
 zf:Z bf∧∀c,blk vf c→Z c
 zz:∀c,Z c→¬blk vt c
 zb:∀c,Z c→c≠bt
 zl:∀c,Z c→c<h.size
theorem Bx.ext {Z:Nat→Prop}{h h':ah}{bf:Nat}{vf:Value}{bt:Nat}{vt p q:Value}{m n:Pic}{s:Stg}(S:Bx Z h bf vf bt vt p q m n s)(e:Ext h h'):Bx Z h' bf vf bt vt p q m n s:=
 ⟨S.src.ext e,S.out.ext e,S.ne,S.tx.ext e,S.ty.ext e,S.zf,S.zz,S.zb,λc hc=>ce (S.zl c hc) e.1⟩
theorem Bx.chg {Z Q:Nat→Prop}{h h':ah}{bf:Nat}{vf:Value}{bt:Nat}{vt p q:Value}{m n n':Pic}{s:Stg}(S:Bx Z h bf vf bt vt p q m n s)(f:Fr Q h h')(A:∀c,Z c→¬Q c)(I:dp h' bt vt n'):Bx Z h' bf vf bt vt p q m n' s:=
 ⟨S.src.fr f (A _ S.zf.1) λc hc=>A _ (S.zf.2 c hc),I,S.ne,S.tx.fr f λc _ F=>A c F,S.ty.fr f λc _ F=>A c F,S.zf,S.zz,S.zb,λc hc=>ce (S.zl c hc) f.1⟩
theorem Bx.mk3 {h0 h1 A:ah}{bf:Nat}{vf:Value}{F p q:Value}{m n:Pic}{s:Stg}(I:dp h1 bf vf m)(nb:h0.size≤bf)(nv:∀c,blk vf c→h0.size≤c)(tx:gi (gq h0 h1) h1 p s.x)(ty:gi (gq h0 h1) h1 q s.y)(N:uw h1 A F n):
  ∃bt vt,F=ptr bt∧Bx (gq h0 h1) A bf vf bt vt p q m n s∧h1.size≤bt∧(∀c,blk vt c→h1.size≤c)∧Ext h1 A:=by
 obtain⟨bt,vt,rfl,O,H,mv,E⟩:=N;have l:=I.lt;exact⟨bt,vt,rfl,⟨I.ext E,O,ae,tx.ext E,ty.ext E,⟨⟨nb,l⟩,λc hc=>⟨nv c hc,I.ltv hc⟩⟩,λc hc G=>by have:=hc.2;have:=mv c G;omega,λc hc L=>by have:=hc.2;omega,λc hc=>ce hc.2 E.1⟩,H,mv,E⟩
theorem Y5 {Z:Nat→Prop}{h:ah}(G:eW h){bf:Nat}{vf:Value}{bt:Nat}{vt p q:Value}{m n:Pic}{s:Stg}{t:cP}(S:Bx Z h bf vf bt vt p q m n s)(W:m.Wf)(A:n.Wf)(F:s.Wf):
  ag prog p8 #[ptr bf,ptr bt,.agg #[p,q,af s.border],.agg (dK t).toArray] h (XU Z h bf vf bt vt p q m n s t):=
 ze6 G S.src S.out S.ne W A S.tx S.ty F S.zf S.zz S.zl
def kJ:Pic:=vD 3 1 1 255
def pC:OpD:=⟨1,0,0,1,[],[],0,0,0⟩
def gk:cP:=⟨0,0,0,3,1,0,0,0,0,0⟩
theorem XH {h:ah}(G:eW h):ag prog yQ #[] h λr h'=>r=.bool true∧Ext h h':=by
 apply NJ;unfold Ch;have a0:C9 3 1 1 255=0:=by decide+kernel
 refine zL.mono λr h1 ⟨pp,e,e1,_,s1⟩=>?_
 subst e;obtain⟨bm,vm,rfl,I,ay,a7,_⟩:=s1 a0;have I:dp h1 bm vm kJ:=I;have W:kJ.Wf:=Ek a0;rw[a0];simp only[go_sem];have hf:(aQ #[ai,ai,ai,ai,(.slice none 0 0),(.slice none 0 0),ai,ai,ai] [(0,1,aG),(3,1,aG)])=some #[aG,ai,ai,aG,.slice none 0 0,.slice none 0 0,ai,ai,ai]:=rfl;rw[hf,bJ,aj];have wf:pC.Wf:=CL (by simp[I64]);refine(KJ (Z:=λ_=>True) (o:=pC) (G.ext e1) CM wf (by simp[pC]) (by simp[pC]) (by unfold I64;omega) (by unfold I64;omega)).mono λw h2 ⟨sv,e,e2,_,s2⟩=>?_
 subst e;have a1:fF pC 3 1=0:=by decide+kernel
 have HS:=s2 a1;rw[a1];obtain⟨p,q,rfl,hp,hq,an⟩:=jQ HS;simp only[go_sem];refine dh (cs:=[p,q,af _]) rfl an rfl λb3 h3 r3 e3 n3=>?_
 refine zL.mono λr h4 ⟨pp,e,e4,_,s4⟩=>?_
 subst e;have N4:=s4 a0;rw[a0];have L:=e2.trans e3;have up:∀c,c<h2.size→gq h1 h2 c→gq h h3 c:=λc hc hz=>⟨bB e1.1 hz.1,ce hz.2 e3.1⟩
 obtain⟨bn,vn,rfl,S,bg,au,_⟩:=Bx.mk3 (h0:=h) (I.ext L) ay a7 ((hp.mono up).ext e3) ((hq.mono up).ext e3) N4;simp only[go_sem];have E4:=e1.trans (L.trans e4);refine ag.to (XJ (G.ext E4)) λh5 e5=>?_
 simp only[go_sem];refine ag.to (XI (G.ext (E4.trans e5))) λh6 e6=>?_
 have E6:=E4.trans (e5.trans e6);simp only[go_sem,eqT];rw[aW (l:=[p,q,af _]) ((e4.trans (e5.trans e6)).row r3) 3 rfl,aj];have ax:aQ #[ai,ai,ai,ai] [(2,1,(af 3)),(3,1,aG)]=some #[ai,ai,af 3,aG]:=rfl;have ab:aQ #[ai,ai,ai,ai,ai,ai,ai,ai,ai,ai] [(1,4,.agg #[ai,ai,af 3,aG])]=some (dK gk).toArray:=rfl;rw[ax,bJ,aj,ab,bJ,aj];have hN:(vD 3 1 1 255).Wf:=Ek a0;have H:oQ kJ (vD 3 1 1 255) (cz pC 3 1) gk=0:=by decide+kernel
 refine(Y5 (G.ext E6) (S.ext (e5.trans e6)) W hN (zE a1).1).mono λr h7 ⟨e7,v,er,_,s7⟩=>?_
 subst er;obtain⟨bj,rv,rfl,J⟩:=s7 H;rw[H];simp only[go_sem,eqT,WR];have OK:Dw (cz pC 3 1):=Ol a1 ae (by decide+kernel);have R:=OK.room (m:=kJ) (n:=vD 3 1 1 255) (t:=gk) W H;have WJ:=OD (t:=gk) W OK.wf H
 -- the steps, one behind the other
 have f1:bR ⟨kJ,cz pC 3 1,gk⟩ 0 (-1)=1∧gh ⟨kJ,cz pC 3 1,gk⟩ 0 (-1)= -1∧dP ⟨kJ,cz pC 3 1,gk⟩ 0 (-1)=0∧fm ⟨kJ,cz pC 3 1,gk⟩ 0 (-1)=0:=by decide+kernel
 have f2:bR ⟨kJ,cz pC 3 1,gk⟩ 0 0=1∧gh ⟨kJ,cz pC 3 1,gk⟩ 0 0=0∧dP ⟨kJ,cz pC 3 1,gk⟩ 0 0=0∧fm ⟨kJ,cz pC 3 1,gk⟩ 0 0=1:=by decide+kernel
 have f3:bR ⟨kJ,cz pC 3 1,gk⟩ 0 1=1∧gh ⟨kJ,cz pC 3 1,gk⟩ 0 1=1∧dP ⟨kJ,cz pC 3 1,gk⟩ 0 1=0∧fm ⟨kJ,cz pC 3 1,gk⟩ 0 1=2:=by decide+kernel
 have f4:bR ⟨kJ,cz pC 3 1,gk⟩ 0 2=2∧gh ⟨kJ,cz pC 3 1,gk⟩ 0 2=0∧dP ⟨kJ,cz pC 3 1,gk⟩ 0 2=1:=by decide+kernel
 have f5:∀e,bR ⟨kJ,cz pC 3 1,gk⟩ 1 e=0∧gh ⟨kJ,cz pC 3 1,gk⟩ 1 e=0:=λe=>by
  have:gk.y+gk.h≤1:=by decide
  unfold bR gh;exact⟨aA this,aA this⟩
 have hF:lnF (cz pC 3 1).y gk.y= -1:=by decide+kernel
 rw[hF]at J;have J:lD (gq h h3) (rL (λ_=>False) h6 h7) h7 bj bm vm bn vn p q rv ⟨kJ,cz pC 3 1,gk⟩ 0 (-1) (vD 3 1 1 255) (lg (cJ (cz pC 3 1).y.lines)) (iq (gk.w*kJ.c)):=J;generalize hD:(⟨kJ,cz pC 3 1,gk⟩:gb)=D at*;generalize lg (cJ (cz pC 3 1).y.lines)=room at*;generalize iq (gk.w*kJ.c)=w at*;have hB:∀c,rL (λ_=>False) h6 h7 c→h.size≤c:=λc hc=>by
  rcases hc with hc|hc
  ·exact hc.elim
  ·have:=E6.1;omega
 have a8:∀c,blk vn c→h.size≤c:=λc hc=>by have:=au c hc;have:=e1.1;have:=L.1;omega
 -- from step to step all that was is as it was
 have U:∀{h' A:ah} {B:Nat→Prop},Ext h h'→(∀c,B c→h.size≤c)→Fr (λc=>blk vn c∨B c) h' A→Ext h A:=λE hB f=>E.then_fr f λc hc=>by
  rcases hc with hc|hc
  ·exact a8 c hc
  ·exact hB c hc
 have al:∀{h' A:ah} {B:Nat→Prop},Ext h h'→(∀c,B c→h.size≤c)→∀c,rL B h' A c→h.size≤c:=λE hB c hc=>by
  rcases hc with hc|hc
  ·exact hB c hc
  ·have:=E.1;omega
 have a9:∀a b:Int,aQ #[ai,ai] [(0,1,(af a)),(1,1,af b)]=some #[af a,af b]:=λ_ _=>rfl
 have ad:∀a:Int,aQ #[ai,ai] [(0,1,(af a))]=some #[af a,ai]:=λ_=>rfl
 have E7:=E6.trans e7;refine c5 (λk xs h'=>∃e B n',xs=[af e]∧(k:Int)=2-e∧ -1≤e∧Ext h h'∧(∀c,B c→h.size≤c)∧lD (gq h h3) B h' bj bm vm bn vn p q rv D 0 e n' room w) 3
  ⟨-1,_,_,rfl,ae,ae,E7,hB,J⟩ λk xs ρ1 h8 again ⟨e,B,n',ex,hk,he,E8,F,J8⟩ bd=>?_
 subst ex;simp only[go_sem];refine ao (λg1=>?_) (λg1=>?_)
 ·refine(T9 J8 WJ R).mono λr h9 ⟨er,n9,J9,aa,_⟩=>?_
  subst er;have hs:bR D 0 e=1∧gh D 0 e=e∧dP D 0 e=0∧fm D 0 e=e+1:=by
   have:e= -1∨e=0∨e=1:=ae;rcases this with rfl|rfl|rfl
   ·exact f1
   ·exact f2
   ·exact f3
  rw[hs.1,hs.2.1]at*;rw[hs.2.2.1,hs.2.2.2]at J9;rw[a9,bJ,aj,zdd];simp only[go_sem,eqT,Ao];rw[w64 ae ae];exact bd _ _ (k-1) ae ⟨e+1,_,n9,rfl,ae,ae,U E8 F aa,al E8 F,J9⟩
 ·have bc:e=2:=ae;subst bc;refine(T9 J8 WJ R).mono λr h9 ⟨er,n9,J9,aa,_⟩=>?_
  subst er;rw[f4.2.2]at J9;rw[f4.1,f4.2.1,ad,bJ,aj,Yk];simp only[go_sem,eqT,Ao];refine(T9 J9 WJ R).mono λr bk ⟨er,n10,bo,ar,_⟩=>?_
  subst er;rw[(f5 _).1,(f5 _).2];have be:aQ #[ai,ai] []=some #[ai,ai]:=rfl;simp only[go_sem,be,bJ,Yk,eqT,Ao];exact⟨by simp,U (U E8 F aa) (al E8 F) ar⟩
end Go.Proofs.YtjljhnandbbldaaGreatDoor
namespace Go.Proofs.YtjljhnandbbldaaGreatDoor
open Go Go.Crisp
attribute [local irreducible] ag du bh stK aE vK qK bO gK fR bA mkK dy GQ IQ DT bsK clK pG pH Q9
section
def B8 (n:Int):Prop:=0≤n∧n≤255
def bgS (a:uv)(o:OpD):Stg:=cz o (eS a).w (eS a).h
def bgN (a:uv)(o:OpD):Pic:=vD (bgS a o).x.lines.length (bgS a o).y.lines.length (eS a).c (eS a).most
structure QK (a:uv)(o:OpD):Prop where
 little:¬nh 12 o
 made:fF o (eS a).w (eS a).h=0
 fit:jZ (bgS a o).x.lines.length (bgS a o).y.lines.length (eS a).c
 sx:1≤(bgS a o).x.lines.length∧(bgS a o).x.lines.length≤12
 sy:1≤(bgS a o).y.lines.length∧(bgS a o).y.lines.length≤12
theorem bg_ok {a:uv}{o:OpD}(L:oF 12 [o])(hc:BA [o] (eS a).w (eS a).h (eS a).c=0):QK a o:=by
 have h1:¬nh 12 o:=L o (by simp);have hw:=Di a;unfold BA at hc;rw[aq (by simp)]at hc;have U:jZ (eS a).w (eS a).h (eS a).c:=(wY a).fits;rw[aq (by simpa using U)]at hc;unfold G0 at hc;by_cases G:fF o (eS a).w (eS a).h=0
 ·rw [aq (by simpa using G)]at hc;have A:=Kv G;by_cases F:jZ (qL o (eS a).w) (uH o (eS a).h) (eS a).c
  ·have H:=dx F;have⟨W,b2⟩:qL o (eS a).w≤12∧uH o (eS a).h≤12:=by
    unfold qL uH at H ⊢;unfold nh at h1;split<;>rename_i I
    ·rw[aA I,aA I]at H;omega
    ·omega
   refine⟨h1,G,?_,?_,?_⟩
   ·unfold bgS;rw[A.1,A.2];exact F
   ·unfold bgS;omega
   ·unfold bgS;omega
  ·rw[aA F]at hc;cases hc
 ·rw[aA G]at hc;exact absurd hc G
section
variable {a:uv}{o:OpD}
theorem QK.stg (H:QK a o):Dw (bgS a o):=Ol H.made (by have:=Di a;omega) (by have:=(Kv H.made).1;have:=H.sx;unfold bgS at this;omega)
theorem QK.suits (H:QK a o):l8 (eS a) (bgN a o) (bgS a o):=⟨Le H.made,rfl,rfl,rfl,rfl⟩
theorem QK.imgc (H:QK a o):C9 (bgS a o).x.lines.length (bgS a o).y.lines.length (eS a).c (eS a).most=0:=zK.2 ⟨H.fit,(wY a).m1,(wY a).m2⟩
end
end
section
structure zfx (h:ah)(cs os:List Value)(a:uv)(o:OpD):Prop where
 pic:∃Z,pg.R Z h cs a
 wa:a.Wf
 op:∃Z,rOp.R Z h os o
 wo:FR [o]
structure Zp (hL:ah)(B0 Q:Nat→Prop)(Z:Nat→Prop)(h:ah)(bj bf:Nat)(vf:Value)(bt:Nat)(vt p q rv:Value)(d:gb)(y e:Int)(n:Pic)(room w:Nat):Prop where
 st:∃B,lD Z B h bj bf vf bt vt p q rv d y e n room w∧∀c,c<hL.size→B c→B0 c
 fr:Fr (λc=>(blk vt c∨B0 c)∨Q c) hL h
def GoFr (vt:Value)(B Q:Nat→Prop)(h h':ah):Prop:=Fr (λc=>(blk vt c∨B c)∨Q c) h h'
theorem GoFr.row {vt:Value}{B Q:Nat→Prop}{h h':ah}(e:GoFr vt B Q h h'){b:Nat}{o:Obj}(r:h[b]? =some o)(A:¬((blk vt b∨B b)∨Q b)):h'[b]? =some o:=Go.Crisp.Fr.row e r A
section
variable {hL:ah}{B0 Q:Nat→Prop}{Z:Nat→Prop}{h:ah}{bj bf:Nat}{vf:Value}{bt:Nat}{vt p q rv:Value}{d:gb}{y e:Int}{n:Pic}{room w:Nat}
theorem Zp.row {b:Nat}{ob:Obj}(J:Zp hL B0 Q Z h bj bf vf bt vt p q rv d y e n room w)(r:hL[b]? =some ob)(G:¬blk vt b)(A:¬B0 b)(F:¬Q b):h[b]? =some ob:=J.fr.row r λhh=>hh.elim (λhh=>hh.elim G A) F
theorem Zp.out (J:Zp hL B0 Q Z h bj bf vf bt vt p q rv d y e n room w):JT d n∧dp h bt vt n∧dp h bf vf d.m:=by
 obtain⟨⟨B,S,A⟩,f⟩:=J;exact⟨S.out,S.img,S.src⟩
end
theorem XU.go {Z:Nat→Prop}{h:ah}{bf:Nat}{vf:Value}{bt:Nat}{vt p q:Value}{m n:Pic}{s:Stg}{t:cP}{r:Value}{h':ah}(H:XU Z h bf vf bt vt p q m n s t r h')(hc:oQ m n s t=0):
  ∃bj rv,r=.tuple #[ptr bj,ai]∧Ext h h'∧lD Z (rL (λ_=>False) h h') h' bj bf vf bt vt p q rv ⟨m,s,t⟩ t.y (lnF s.y t.y) n (lg (cJ s.y.lines)) (iq (t.w*m.c)):=by
 obtain⟨e,v,A,_,H⟩:=H;obtain⟨bj,rv,rfl,J⟩:=H hc;exact⟨bj,rv,by rw[A,hc],e,J⟩
end
end Go.Proofs.YtjljhnandbbldaaGreatDoor
namespace Go.Proofs.YtjljhnandbbldaaGreatDoor
open Go Go.Crisp
theorem zaM {h:ah}{ts:List TS}{args:Array Value}(R:xi (.st Zy:: .st tOp::ts) h args.toList):∃cs os a o r,args.toList=.agg (List.toArray cs):: .agg (List.toArray os)::r∧zfx h cs os a o∧xi ts h r:=by
 obtain⟨v,r,L,⟨x,c,rfl,G⟩,u,I,F,⟨y,d,rfl,A⟩,h0⟩:=R;have G:Rd Zy h c.toList x:=G;have A:Rd tOp h d.toList y:=A;obtain⟨h1,H⟩:=zeE G;refine⟨c.toList,d.toList,Yh x,UY y,I,by rw[L,F,Ef,Ef],⟨⟨_,h1⟩,H,⟨_,(zej A).1⟩,zc8 A⟩,h0⟩
theorem X4 {h:ah}{ts:List TS}{l:List Value}(R:xi (.int .u8::ts) h l):∃n r,l=.int .u8 n::r∧B8 n∧xi ts h r:=by
 obtain⟨v,r,G,⟨x,A,F⟩,h0⟩:=R;obtain rfl:v=.int .u8 x:=by simpa using A
 exact⟨x,r,G,zeh F,h0⟩
end Go.Proofs.YtjljhnandbbldaaGreatDoor
namespace Go.Proofs.YtjljhnandbbldaaGreatDoor
open Go Go.Crisp
open _root_.Go.Proofs.Tryz
def Nb:Go.Shelf.Ren:=⟨λn=>match n with|23=>177|n=>n,λn=>match n with|0=>0|3=>3|4=>4|22=>41|n=>n,λn=>n⟩
theorem Xd:Go.Proofs.Lays2.n23 prog Nb where
 mixed:=by kernel_rfl
 f23:=by kernel_rfl
 t0:=by kernel_rfl
 a0:=λw=>aZ (by kernel_rfl)
 z0:=λw=>aM (by kernel_rfl)
 v0:=λw=>aI (by kernel_rfl)
 t3:=by kernel_rfl
 a3:=λw=>aZ (by kernel_rfl)
 z3:=λw=>aM (by kernel_rfl)
 v3:=λw=>aI (by kernel_rfl)
 t4:=by kernel_rfl
 a4:=λw=>aZ (by kernel_rfl)
 z4:=λw=>aM (by kernel_rfl)
 v4:=λw=>aI (by kernel_rfl)
 t22:=by kernel_rfl
 a22:=λw=>aZ (by kernel_rfl)
 z22:=λw=>aM (by kernel_rfl)
 v22:=λw=>aI (by kernel_rfl)
 i3:=by kernel_rfl
end Go.Proofs.YtjljhnandbbldaaGreatDoor
namespace Go.Proofs.YtjljhnandbbldaaGreatDoor
open Go Go.Crisp
attribute [local irreducible] ag du bh stK aE vK qK bO gK fR bA mkK dy GQ IQ DT bsK clK pG pH Q9
structure eU (n n':Pic):Prop where
 w:n'.w=n.w
 h:n'.h=n.h
 c:n'.c=n.c
 m:n'.most=n.most
theorem eU.refl (n:Pic):eU n n:=⟨rfl,rfl,rfl,rfl⟩
theorem eU.newC {m n n':Pic}{s:Stg}{t:cP}(D:eU n n')(h:oQ m n s t=0):oQ m n' s t=0:=by
 obtain⟨h1,A⟩:=rh.1 h;exact rh.2 ⟨⟨h1.1,by rw[D.w];exact h1.2.1,by rw[D.h];exact h1.2.2.1,by rw[D.c];exact h1.2.2.2.1,by rw[D.m];exact h1.2.2.2.2⟩,A⟩
theorem eU.inP {n n':Pic}(D:eU n n'){x y c:Int}:Go.Proofs.YtjljhnandbbldaaGreatDoor.inP n' x y c↔Go.Proofs.YtjljhnandbbldaaGreatDoor.inP n x y c:=by
 unfold Go.Proofs.YtjljhnandbbldaaGreatDoor.inP;rw[D.w,D.h,D.c]
theorem zbj {n n':Pic}(W:n.Wf)(l2:(n'.l.length:Int)=n'.w*n'.h*n'.c)(D:eU n n')(H:∀x y c,inP n x y c→atP n x y c=atP n' x y c):n.l=n'.l:=by
 have hf:=dx W.fits;have l1:=W.len;rw[D.w,D.h,D.c]at l2;refine SY ae λi h1 h2=>?_
 have L:0<n.c:=ae;have I:0<n.w:=ae;have e1:=pP (i:Int) n.c;have e2:=pP ((i:Int)/n.c) n.w;have m1:=kA (i:Int) (show n.c≠0 by omega);have m2:=iJ (i:Int) L;have m3:=kA ((i:Int)/n.c) (show n.w≠0 by omega);have m4:=iJ ((i:Int)/n.c) I;have q0:0≤(i:Int)/n.c:=vj ae ae;have q1:0≤(i:Int)/n.c/n.w:=vj q0 ae;have U:(i:Int)/n.c<n.w*n.h:=by
  rw[uk L];omega
 have q3:(i:Int)/n.c/n.w<n.h:=by
  rw[uk I,fM];exact U
 have A:inP n ((i:Int)/n.c%n.w) ((i:Int)/n.c/n.w) ((i:Int)%n.c):=⟨m3,m4,q1,q3,m1,m2⟩
 have F:qE n ((i:Int)/n.c%n.w) ((i:Int)/n.c/n.w) ((i:Int)%n.c)=(i:Int):=by
  unfold qE;rw[fM ((i:Int)/n.c/n.w),e2,fM ((i:Int)/n.c),e1]
 have G:qE n' ((i:Int)/n.c%n.w) ((i:Int)/n.c/n.w) ((i:Int)%n.c)=(i:Int):=by
  unfold qE at F ⊢;rw[D.w,D.c];exact F
 have:=H _ _ _ A;unfold atP at this;rw[aA A,aA (D.inP.2 A),F,G,dW]at this;simpa[dA,h1,h2]using this
end Go.Proofs.YtjljhnandbbldaaGreatDoor
namespace Go.Crisp
open Go
def RQ (v:Value):Prop:=∀a n c,v=.slice a n c→c≤9223372036854775807
theorem zcE {z:Value}{e:TypeId}{w bytes:Nat}{s x:Value}{h:ah}{K U:Value→ah→Prop}(H:dy z e w bytes s x h K)(W:RQ s)(m:∀L h',K L h'→RQ L→U L h'):dy z e w bytes s x h U:=by
 unfold dy at H ⊢;split at H
 ·rename_i F A G n _;split at H
  ·rename_i h0;rw[aA h0]
   revert H
   cases xr w h n x with
   |none=>exact λH=>H
   | some I=>
    cases F with
    |none=>exact λH=>m _ _ H λa n c e=>by cases e;exact W _ _ _ rfl
    |some a=>
     dsimp only;cases kG h (a.add (A*w)) 0 I with
     |none=>exact λH=>H
     |some h'=>exact λH=>m _ _ H λa n c e=>by cases e;exact W _ _ _ rfl
  ·rename_i h0;rw[aq h0];refine⟨H.1,H.2.1,?_⟩;have H:=H.2.2
   revert H
   cases xr w h A (.slice F A G)<;>cases xr w h n x
   ·exact λH=>H
   ·exact λH=>H
   ·exact λH=>H
   ·exact λH c h1 h2=>m _ _ (H c h1 h2) λa n c' e=>by cases e;omega
 ·exact H
theorem SlC.isSl_one {w:Nat}{h:ah}{v:Value}{n:Nat}{cs:List Value}(H:SlC w h v n cs):aV v=true:=by obtain⟨a,c,e⟩:=H.isSl;rw[e];rfl
def Rp.SlCap (v:Value):Prop:=∃a n c,v=.slice a n c∧n≤c
theorem zak:RQ (.slice none 0 0):=λa n c e=>by cases e;omega
end Go.Crisp
namespace Go.Proofs.YtjljhnandbbldaaGreatDoor
open Go Go.Crisp
attribute [local irreducible] ag du bh stK aE vK qK bO gK fR bA mkK GQ IQ DT bsK clK pG pH Q9
open _root_.Go.Proofs.Tryz
section
theorem Sd {α:Type}[Inhabited α](enc:α→Value)(off:Nat)(d:Array α)(c:Array Value)(i:Nat):(Go.Sort.putCells enc off d c)[i]? =c[i]?.map λx=>if off≤i∧i<off+d.size then enc d[i-off]! else x:=by
 unfold Go.Sort.putCells;rw[Array.getElem?_mapIdx]
theorem zcw {h:ah}{v:Value}{x:Int}{l:List Int}(H:Own 1 h v (l.length+1) ((x::l).map λn=>af n))(hc:RQ v):
  ag prog lU #[v,ai,aG] h λr h'=>Own 1 h' r l.length (l.map λn=>af n)∧RQ r∧Fr (blk v) h h'∧(∀b,blk r b→blk v b):=by
 refine ag.ofCalls (by kernel_rfl) λw hh=>?_
 subst hh;rcases H with⟨_,h0,_⟩|⟨b,cap,r,e,rfl,U,hl,hr,F⟩
 ·cases h0
 have L:=hc _ _ _ rfl;have I:∀j,(A:j<(x::l).length)→w.heap[b]? =some (.cells ((x::l).map (λn=>af n)++r).toArray e (0,0))→aH w.heap ⟨b,0+j,none⟩=some (af (x::l)[j]):=λj A F=>by
  rw[am F,aO];simp only[Am];rw[vy (by simpa using A),yb,iI A];rfl
 have hH:Go.Sort.Holds (Value.int .i64) w b 0 (x::l).toArray:=λj A=>by
  have aa:j<(x::l).length:=by simpa using A
  refine⟨?_,?_⟩
  ·rw[IV (x::l).toArray j A];exact I j aa F
  ·show wW w.heap ⟨b,0+j,none⟩=false;unfold wW;simp[F]
 have:=Any.slices_Delete_int Xd b 0 cap 0 1 (x::l) w hH U L ae (by simp);refine this.mono λe' w' ⟨h1,q,h2⟩=>⟨_,h1,?_⟩
 subst h2;have ab:b<w.heap.size:=(mD.1 F).1;have G:(Go.Sort.putRow (Value.int .i64) (Go.Sort.ahead w q) b 0 ((x::l).take 0++(x::l).drop 1++List.replicate (1-0) 0).toArray).heap[b]? =some (.cells (l.map (λn=>af n)++(af 0::r)).toArray e (0,0)):=by
  show(w.heap.modify b (Go.Sort.onCells _))[b]? =_;rw[Mo,aA rfl,F];show some (Obj.cells (Go.Sort.putCells _ 0 _ _) e (0,0))=_
  congr 2
  apply Array.ext_getElem?;intro i;rw[Sd];simp only[IZ,fX,List.drop_succ_cons,Mm,Ap,List.replicate_one,b9,Av,aO,TH,co,Jl,Am];by_cases W:i<l.length+1
  ·rw[vy (by simpa using W),yb,iI (show i<(x::l).length by simpa using W),cR,cR,aA W,IV _ i (by simpa using W)];by_cases h4:i<l.length
   ·rw[vy (by simpa using h4),yb,iI h4];simp[YG,h4]
   ·have:i=l.length:=ae;subst this;rw[vk (by simp)];simp
  ·have e1:((x::l).map (λn=>af n)++r)[i]? =r[i-(l.length+1)]? :=by
    rw[vk (by simp;omega)];simp
   have e2:(l.map (λn=>af n)++af 0::r)[i]? =r[i-(l.length+1)]? :=by
    rw[vk (by simp;omega),cS,show i-l.length=(i-(l.length+1))+1 by omega,yf]
   rw[e1,e2];cases r[i-(l.length+1)]? <;>simp[W]
 refine⟨⟨rfl,rfl,rfl⟩,?_,λa n c e=>?_,⟨?_,λk hk hm=>?_⟩,λk hk=>hk⟩
 ·refine .inr ⟨b,cap,af 0::r,e,?_,ae,by simp,?_,G⟩
  ·simp
  ·simp at hr ⊢;omega
 ·cases e;exact L
 ·show w.heap.size≤(w.heap.modify b _).size;simp
 ·show(w.heap.modify b _)[k]? =_;rw[Mo,aq (λh=>hm h.symm)]
structure QD where
 room:Int
 l:List Int
 closed:Bool
structure QD.Wf (d:QD):Prop where
 r1:1≤d.room
 r2:d.room≤4096
 l:(d.l.length:Int)≤d.room
structure IsQ (Q:Nat→Prop)(h:ah)(b:Nat)(d:QD):Prop where
 at_:∃v,h[b]? =some (.cells #[.int .i64 d.room,v,.bool d.closed] 215 (0,0))∧Own 1 h v d.l.length (d.l.map λn=>Value.int .i64 n)∧RQ v∧¬blk v b∧∀c,blk v c→Q c
 qb:Q b
 ql:∀c,Q c→c<h.size
 wf:d.Wf
theorem IsQ.fr {Q M:Nat→Prop}{h h':ah}{b:Nat}{d:QD}(H:IsQ Q h b d)(f:Fr M h h')(q:∀c,Q c→¬M c):IsQ Q h' b d:=by
 obtain⟨⟨v,r,o,c,n,s⟩,qb,ql,w⟩:=H;exact⟨⟨v,f.row r (q b qb),o.fr f λk A=>q k (s k A),c,n,s⟩,qb,λk A=>ce (ql k A) f.1,w⟩
theorem IsQ.ext {Q:Nat→Prop}{h h':ah}{b:Nat}{d:QD}(H:IsQ Q h b d)(e:Ext h h'):IsQ Q h' b d:=H.fr (M:=λ_=>False) e.fr λ_ _=>id
def jJ (d:QD)(x:Int):QD:=if d.closed then d else if d.room≤d.l.length then d else{d with l:=d.l++[x]}
def qU (d:QD):Int:=if d.closed then 2 else if d.room≤d.l.length then 1 else 0
def kI (d:QD):QD:={d with l:=d.l.tail}
def bC (d:QD):Int:=d.l.headD 0
def cV (d:QD):Int:=if d.l=[]then(if d.closed then 2 else 1)else 0
theorem Mw {B:Nat→Prop}{h h':ah}(A:∀c,B c→c<h.size)(F:h.size≤h'.size):∀c,rL B h h' c→c<h'.size:=λc hc=>hc.elim (λh=>ce (A c h) F) λh=>h.2
section
variable {Q:Nat→Prop}{h:ah}{b:Nat}{d:QD}
theorem zci {h:ah}{n:Int}:ag prog oM #[af n] h λr h'=>∃b,r=ptr b∧IsQ (λc=>c=b) h' b ⟨min (max 1 n) 4096,[],false⟩∧Ext h h'∧h.size≤b:=by
 apply SI;unfold Ib;have G:∀v:Int,aQ #[ai,(.slice none 0 0),(.bool false)] [(0,1,af v)]=some #[af v,.slice none 0 0,.bool false]:=λ_=>rfl
 simp only[go_sem,G,bJ];refine aJ λb h1 r1 F A=>?_
 exact⟨b,rfl,⟨⟨_,r1,.inl ⟨rfl,rfl,rfl⟩,zak,id,λc hc=>hc.elim⟩,rfl,λc hc=>by rw[hc];exact bD r1,⟨by show 1≤min (max 1 n) 4096;omega,by show min (max 1 n) 4096≤4096;omega,by show(0:Int)≤min (max 1 n) 4096;omega⟩⟩,F,A⟩
theorem RD (H:IsQ Q h b d):ag prog jq #[ptr b] h λr h'=>r=.bool d.closed∧h'=h:=by
 apply BF;unfold qQ;obtain⟨⟨v,r,o,c,n,s⟩,qb,ql,w⟩:=H;have A:aH h ⟨b,2,none⟩=some (.bool d.closed):=am r;simp only[go_sem,A];exact⟨trivial,trivial⟩
theorem RJ (H:IsQ Q h b d):ag prog iU #[ptr b] h λr h'=>r=.bool (decide (qU d≠1))∧h'=h:=by
 apply Ai;unfold o0 qU;obtain⟨⟨v,r,o,c,n,s⟩,qb,ql,w⟩:=H;have G:aH h ⟨b,0,none⟩=some (af d.room):=am r;have L:aH h ⟨b,1,none⟩=some v:=am r;have A:aH h ⟨b,2,none⟩=some (.bool d.closed):=am r;obtain⟨a,U,e⟩:=o.isSl;have F:aC v=some (af (d.l.length:Int)):=by rw[e];rfl
 cases hc:d.closed with
 |true=>
  rw[hc]at A;simp only[go_sem,G,L,A,F];exact⟨by simp,trivial⟩
 |false=>
  rw[hc]at A;simp only[go_sem,G,L,A,F,aO];refine⟨?_,trivial⟩
  congr 1
  rw[ir];by_cases I:d.room≤d.l.length
  ·simp[I]
  ·simp[I];omega
theorem Uf (H:IsQ Q h b d):ag prog jF #[ptr b] h λr h'=>r=.bool (decide (cV d≠1))∧h'=h:=by
 apply xk;unfold mx cV;obtain⟨⟨v,r,o,c,n,s⟩,qb,ql,w⟩:=H;have F:aH h ⟨b,1,none⟩=some v:=am r;have A:aH h ⟨b,2,none⟩=some (.bool d.closed):=am r;obtain⟨a,I,e⟩:=o.isSl;have G:aC v=some (af (d.l.length:Int)):=by rw[e];rfl
 cases hc:d.closed with
 |true=>
  rw[hc]at A;simp only[go_sem,F,A,G];refine⟨?_,trivial⟩;cases d.l<;>simp
 |false=>
  rw[hc]at A;simp only[go_sem,F,A,G,aO];refine⟨?_,trivial⟩;cases d.l<;>simp
theorem zdL (H:IsQ Q h b d){x:Int}:ag prog oh #[ptr b,af x] h λr h'=>r=af (qU d)∧IsQ (rL Q h h') h' b (jJ d x)∧Fr Q h h':=by
 apply ED;unfold uO;have H0:=H;obtain⟨⟨v,r,o,c,n,s⟩,qb,ql,w⟩:=H;have c1:aH h ⟨b,1,none⟩=some v:=am r;have W:aH h ⟨b,2,none⟩=some (.bool d.closed):=am r;cases hc:d.closed with
 |true=>
  rw[hc]at W;simp only[go_sem,W];unfold qU jJ;rw[aA hc,aA hc,El];exact⟨rfl,H0,Fr.refl _ _⟩
 | false=>
  have A:¬d.closed=true:=by rw[hc];simp
  rw[hc]at W;simp only[go_sem,W];refine ag.at (RJ H0) ?_;by_cases U:d.room≤d.l.length
  ·have hs:qU d=1:=by unfold qU;rw[aq A,aA U]
   have hq:jJ d x=d:=by unfold jJ;rw[aq A,aA U]
   rw[hs,hq,El,cE (by decide)];simp only[go_sem];exact⟨trivial,H0,Fr.refl _ _⟩
  ·have hs:qU d=0:=by unfold qU;rw[aq A,aq U]
   have hq:jJ d x={d with l:=d.l++[x]}:=by unfold jJ;rw[aq A,aq U]
   rw[hs,hq,cL (by decide)];simp only[go_sem,c1];have w1:=w.r2;refine di (Rp.fill_one rfl) λb1 h1 r1 G n1=>?_
   refine zcE (w8 (o.fr (M:=λ_=>False) G.fr λ_ _=>id) (Rp.SlC.single (cs:=[af x]) r1) (az rfl bi) rfl ae ae λs' h2 o2 f2 L=>(⟨o2,f2,L⟩:Own 1 h2 s' (d.l.length+1) (d.l.map (λn=>af n)++[af x])∧Fr (blk v) h1 h2∧∀b,blk s' b→blk v b∨h1.size≤b)) c λv2 h2 ⟨o2,f2,L⟩ aa=>?_
   have rb:=f2.row (G.row r) n;have ab:=bD (G.row r);have I:¬blk v2 b:=λhv=>(L b hv).elim n λhh=>ae
   try simp only[go_sem]
   refine ck rb (by simp) o2.sl.isSl_one λh3 r3 u3=>?_
   have al:=G.1;have ad:=f2.1;have an:=u3.1;refine⟨trivial,⟨⟨v2,r3,?_,aa,I,λk F=>?_⟩,.inl qb,Mw ql ae,⟨w.r1,w.r2,by show((d.l++[x]).length:Int)≤d.room;simp;omega⟩⟩,?_⟩
   ·show Own 1 h3 v2 (d.l++[x]).length ((d.l++[x]).map λn=>af n);rw[co,jA];exact o2.fr u3.fr λk F he=>I (he▸F)
   ·rcases L k F with h5|h5
    ·exact .inl (s k h5)
    ·have:=o2.lt F;exact .inr ⟨ae,ae⟩
   ·exact((G.fr (M:=Q)).after f2 λk _ F=>s k F).after u3.fr λk _ F=>F▸qb
theorem XE (H:IsQ Q h b d):ag prog kV #[ptr b] h λr h'=>r=.tuple #[af (bC d),af (cV d)]∧IsQ (rL Q h h') h' b (kI d)∧Fr Q h h':=by
 apply Ah;unfold oZ;have H0:=H;obtain⟨⟨v,r,o,c,n,s⟩,qb,ql,w⟩:=H;have c1:aH h ⟨b,1,none⟩=some v:=am r;have c2:aH h ⟨b,2,none⟩=some (.bool d.closed):=am r;obtain⟨a,cp,e⟩:=o.isSl;have I:aC v=some (af (d.l.length:Int)):=by rw[e];rfl
 cases A:d.l with
 |nil=>
  have W:bC d=0:=by unfold bC;rw[A];rfl
  have hq:kI d=d:=by unfold kI;rw[A];cases d;simp_all
  rw[W,hq];rw[A]at I;have aa:¬(0:Int)<((0:Nat):Int):=ae;simp only[go_sem,c1,I,kS,cE aa,c2];have hr:cV d=if d.closed then 2 else 1:=by unfold cV;rw[aA A]
  rw[hr];cases d.closed with
  |true=>rw[iC];exact⟨rfl,by rw[El];exact H0,Fr.refl _ _⟩
  |false=>rw[cA];exact⟨rfl,by rw[El];exact H0,Fr.refl _ _⟩
 |cons x t=>
  have W:bC d=x:=by unfold bC;rw[A];rfl
  have hq:kI d={d with l:=t}:=by unfold kI;rw[A];rfl
  have hr:cV d=0:=by unfold cV;rw[aq (by rw[A];simp)]
  rw[W,hq,hr];rw[A]at I o;have o':Own 1 h v (t.length+1) ((x::t).map λn=>af n):=o;have zp:(0:Int)<(((x::t).length:Nat):Int):=by simp
  obtain⟨pp,p1,p2⟩:=(Gb (k:=.i64) (l:=x::t) o).int_at (k':=.i64) (i:=0) (by simp);have p1:bu 1 v ai=some pp:=p1;simp only[go_sem,c1,I,cL zp,p1,p2];refine(zcw o' c).mono λv2 h2 ⟨o2,U,f2,n2⟩=>?_
  have rb:=f2.row r n;have G:¬blk v2 b:=λhv=>n (n2 b hv)
  try simp only[go_sem]
  refine ck rb (by simp) o2.sl.isSl_one λh3 r3 L=>?_
  have ad:=f2.1;have ab:=L.1;have wl:=w.l;rw[A]at wl;refine⟨rfl,⟨⟨v2,r3,o2.fr L.fr λk F he=>G (he▸F),U,G,λk F=>.inl (s k (n2 k F))⟩,.inl qb,Mw ql ae,⟨w.r1,w.r2,by show(t.length:Int)≤d.room;simp at wl;omega⟩⟩,?_⟩;exact(f2.mono λk _ F=>s k F).trans (L.fr.mono λk _ F=>F▸qb)
theorem VU (H:IsQ Q h b d):ag prog jO #[ptr b] h λr h'=>r=.bool (!d.closed)∧IsQ Q h' b {d with closed:=true}∧Fr Q h h':=by
 apply CV;unfold sX;obtain⟨⟨v,r,o,c,n,s⟩,qb,ql,w⟩:=H;have L:aH h ⟨b,2,none⟩=some (.bool d.closed):=am r;simp only[go_sem,L];refine ck r (by simp) rfl λU I A=>?_
 try simp only[go_sem]
 exact⟨trivial,⟨⟨v,I,o.fr A.fr λk F G=>n (G▸F),c,n,s⟩,qb,λc hc=>by rw[A.1];exact ql c hc,⟨w.r1,w.r2,w.l⟩⟩,A.fr.mono λk _ F=>F▸qb⟩
end
end
end Go.Proofs.YtjljhnandbbldaaGreatDoor
namespace Go.Crisp
open Go
theorem Rp.Ow.slcap {α:Type}{e:Rp α}{Z:Nat→Prop}{h:ah}{v:Value}{l:List α}(H:Rp.Ow e Z h v l):Rp.SlCap v:=by
 obtain⟨ds,o,_⟩:=H;rcases o with⟨rfl,_,_⟩|⟨b,cap,r,e,rfl,hc,_⟩
 ·exact⟨_,_,_,rfl,cf _⟩
 ·exact⟨_,_,_,rfl,hc⟩
end Go.Crisp
namespace Go.Proofs.YtjljhnandbbldaaGreatDoor
open Go Go.Crisp
attribute [local irreducible] ag du bh stK aE vK qK bO gK fR bA mkK dy GQ IQ DT bsK clK pG pH Q9
open _root_.Go.Proofs.Tryz
section
theorem zcg {h:ah}{n:Int}:ag prog lW #[af n] h λr h'=>r=.agg #[af (min (max 1 n) 4096),.slice none 0 0,.bool false]∧Ext h h':=by
 apply Ss;unfold HE;have A:∀v:Int,aQ #[ai,(.slice none 0 0),(.bool false)] [(0,1,af v)]=some #[af v,.slice none 0 0,.bool false]:=λ_=>rfl
 refine aJ λG h1 r1 H W=>?_
 have fin:∀v:Int,v=min (max 1 n) 4096→stK 3 (ptr G) (.agg #[af v,.slice none 0 0,.bool false]) h1 λv6 F=>vK (aR 3 F (ptr G)) λI=>I=.agg #[af (min (max 1 n) 4096),.slice none 0 0,.bool false]∧Ext h F:=by
  intro v L;subst L;refine da (l:=[af (min (max 1 n) 4096),.slice none 0 0,.bool false]) r1 rfl (az rfl (az rfl (az rfl bi))) rfl λh2 r2 U=>?_
  rw[aW (l:=[af (min (max 1 n) 4096),.slice none 0 0,.bool false]) r2 3 rfl,aj];exact⟨rfl,H.upd W U⟩
 simp only[go_sem];refine ao (λg1=>?_) (λg1=>?_)
 ·rw[cE (by decide)];simp only[go_sem,A,bJ];exact fin 1 ae
 ·refine ao (λg2=>?_) (λg2=>?_)
  ·simp only[go_sem,A,bJ];exact fin 4096 ae
  ·simp only[go_sem,A,bJ];exact fin n ae
section
variable {Z:Nat→Prop}{h:ah}{cs:List Value}{d:QD}
end
end
section
structure WE where
 bf:Nat
 vf:Value
 bt:Nat
 vt:Value
 p:Value
 q:Value
 m:Pic
 s:Stg
structure WE.Ok (E:WE):Prop where
 m:E.m.Wf
 s:Dw E.s
abbrev WE.d (E:WE)(t:cP):gb:=⟨E.m,E.s,t⟩
def kb (Z B:Nat→Prop)(h:ah)(E:Option WE)(n:Pic)(jv:Value):Option (cP×Int×Int)→Prop
 |none=>jv=.pointer none
 |some (t,y,e)=>∃E',E=some E'∧E'.Ok∧oQ E'.m n E'.s t=0∧∃bj rv,jv=ptr bj∧lD Z B h bj E'.bf E'.vf E'.bt E'.vt E'.p E'.q rv (E'.d t) y e n (lg (cJ E'.s.y.lines)) (iq (t.w*E'.m.c))
def eo (E:Option WE):Nat→Prop:=match E with|none=>λ_=>False|some E=>blk E.vt
def Bz (E:Option WE)(b:Nat):Prop:=match E with|none=>True|some E=>b≠E.bt
theorem kb.one {Z B:Nat→Prop}{h:ah}{E:Option WE}{n:Pic}{A:Value}{jo:Option (cP×Int×Int)}(H:kb Z B h E n A jo):aV A=true:=by
 cases jo with
 |none=>rw[show A=_ from H];rfl
 |some x=>obtain⟨t,y,e⟩:=x;obtain⟨_,_,_,_,bj,rv,rfl,_⟩:=H;rfl
def jL (h:ah)(E:Option WE)(n:Pic):Prop:=∀E',E=some E'→dp h E'.bt E'.vt n∧n.Wf
theorem kb.other {Z B Q:Nat→Prop}{h h':ah}{E:Option WE}{n n':Pic}{A:Value}{jo:Option (cP×Int×Int)}(H:kb Z B h E n A jo)(f:Fr Q h h')(U:∀c,Z c→¬Q c)(qb:∀c,B c→¬Q c)(I:jL h' E n')(D:eU n n'):kb Z B h' E n' A jo:=by
 cases jo with
 |none=>exact H
 |some x=>
  obtain⟨t,y,e⟩:=x;obtain⟨F,rfl,ok,hc,bj,rv,rfl,S⟩:=H;obtain⟨G,L⟩:=I F rfl;exact⟨F,rfl,ok,D.newC hc,bj,rv,rfl,S.other f U qb G (YP L (D.newC hc))⟩
structure WD where
 state:Int
 tiles:List Int
 job:Option (cP×Int×Int)
 words:Int
def sr (E:Option WE)(jo:Option (cP×Int×Int)):Prop:=match jo,E with|some (t,y,e),some E=>bR (E.d t) y e≠0|_,_=>False
structure IsW (Z B:Nat→Prop)(h:ah)(bw:Nat)(E:Option WE)(n:Pic)(w:WD):Prop where
 at_:∃tv jv Bj,h[bw]? =some (.cells #[.int .i64 w.state,tv,jv,.int .i64 w.words] 182 (0,0))∧Own 1 h tv w.tiles.length (w.tiles.map λn=>Value.int .i64 n)∧kb Z Bj h E n jv w.job∧
  (∀c,blk tv c→B c∧¬Bj c∧c≠bw)∧(∀c,Bj c→B c)∧¬Bj bw
 bw0:B bw
 bl:∀c,B c→c<h.size
 bz:∀c,B c→¬Z c∧Bz E c∧¬eo E c
 zl:∀c,Z c→c<h.size
 out:jL h E n
 st:(w.state=1∧sr E w.job∧w.tiles≠[])∨((w.state=0∨w.state=2)∧w.job=none)
theorem IsW.other {Z B Q:Nat→Prop}{h h':ah}{bw:Nat}{E:Option WE}{n n':Pic}{w:WD}(H:IsW Z B h bw E n w)(f:Fr Q h h')(qz:∀c,Z c→¬Q c)(qb:∀c,B c→¬Q c)(I:jL h' E n')(D:eU n n'):IsW Z B h' bw E n' w:=by
 obtain⟨⟨tv,F,L,r,o,J,a1,a2,a3⟩,A,U,W,bz,b4,G⟩:=H;exact⟨⟨tv,F,L,f.row r (qb _ A),o.fr f λc hc=>qb c (a1 c hc).1,J.other f qz (λc hc=>qb c (a2 c hc)) I D,a1,a2,a3⟩,A,λc hc=>ce (U c hc) f.1,W,λc hc=>ce (bz c hc) f.1,I,G⟩
theorem IsW.ext {Z B:Nat→Prop}{h h':ah}{bw:Nat}{E:Option WE}{n:Pic}{w:WD}(H:IsW Z B h bw E n w)(e:Ext h h'):IsW Z B h' bw E n w:=
 H.other (Q:=λ_=>False) e.fr (λ_ _ h=>h) (λ_ _ h=>h) (λF A=>⟨(H.out F A).1.ext e,(H.out F A).2⟩) (eU.refl n)
section
variable {Z B:Nat→Prop}{h:ah}{bw:Nat}{E:Option WE}{n:Pic}{w:WD}
theorem Lk {h:ah}:ag prog pZ #[] h λr h'=>∃b,r=ptr b∧h'[b]? =some (.cells #[ai,.slice none 0 0,.pointer none,ai] 182 (0,0))∧Ext h h'∧h.size≤b:=by
 apply PQ;unfold EP;have G:aQ #[ai,(.slice none 0 0),(.pointer none),ai] []=some #[ai,.slice none 0 0,.pointer none,ai]:=rfl;simp only[go_sem,G,bJ];refine aJ λb h1 r1 F A=>?_
 exact⟨b,rfl,r1,F,A⟩
theorem IsW.new {h:ah}{b:Nat}(r:h[b]? =some (.cells #[ai,.slice none 0 0,.pointer none,ai] 182 (0,0)))(F:¬Z b)(h1:Bz E b)(A:¬eo E b)(zl:∀c,Z c→c<h.size)(I:jL h E n):IsW Z (λc=>c=b) h b E n ⟨0,[],none,0⟩:=
 ⟨⟨_,_,λ_=>False,r,.inl ⟨rfl,rfl,rfl⟩,rfl,λc hc=>hc.elim,λc hc=>hc.elim,id⟩,rfl,λc hc=>by rw[hc];exact bD r,λc hc=>by rw[hc];exact⟨F,h1,A⟩,zl,I,.inr ⟨.inl rfl,rfl⟩⟩
theorem zdX (H:IsW Z B h bw E n w):ag prog kU #[ptr bw] h λr h'=>r=af w.state∧h'=h:=by
 apply Af;unfold oV;obtain⟨⟨tv,F,G,r,_⟩,_⟩:=H;have A:aH h ⟨bw,0,none⟩=some (af w.state):=am r;simp only[go_sem,A];exact⟨trivial,trivial⟩
theorem GX {Q:Nat→Prop}{bq:Nat}{d:QD}(H:IsW Z B h bw E n w)(A:IsQ Q h bq d):ag prog eZ #[ptr bw,ptr bq] h λr h'=>r=.bool (decide (w.state=1∨(w.state=0∧cV d≠1)))∧h'=h:=by
 apply xj;unfold mu;have G:=H.st;obtain⟨⟨tv,I,L,r,_⟩,_⟩:=H;have F:aH h ⟨bw,0,none⟩=some (af w.state):=am r;simp only[go_sem,F];refine ao (λg=>?_) (λg=>?_)
 ·refine ag.at (Uf A) ?_;refine⟨?_,rfl⟩
  congr 1
  rw[ir];constructor
  ·exact λhh=>.inr ⟨g,hh⟩
  ·rintro(hh|hh)
   ·omega
   ·exact hh.2
 ·refine ao (λg1=>?_) (λg1=>?_)
  ·exact⟨by rw[cL (.inl g1)],trivial⟩
  ·exact⟨by rw[cE];omega,trivial⟩
def cn (E:Option WE)(jo:Option (cP×Int×Int)):Option (cP×Int×Int):=match jo,E with|some (t,y,e),some E=>if bR (E.d t) y e=0 then none else some (t,y,e)|_,_=>none
theorem DQ (E:Option WE)(jo:Option (cP×Int×Int)):(cn E jo≠none∧sr E (cn E jo)∧cn E jo=jo)∨cn E jo=none:=by
 unfold cn sr;cases jo with
 |none=>exact .inr rfl
 | some x=>
  obtain⟨t,y,e⟩:=x;cases E with
  |none=>exact .inr rfl
  |some E=>
   dsimp only;by_cases A:bR (E.d t) y e=0
   ·rw[aA A];exact .inr rfl
   ·rw[aq A];exact .inl ⟨by simp,A,rfl⟩
end
end
end Go.Proofs.YtjljhnandbbldaaGreatDoor
