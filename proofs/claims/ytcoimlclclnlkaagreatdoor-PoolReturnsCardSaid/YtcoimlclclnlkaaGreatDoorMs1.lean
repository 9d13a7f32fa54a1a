/- Several texts of this session, one behind the other, without what this claim does not need (put together by its program pack.py). Conditions: none. -/
import Derived.Test.YtcoimlclclnlkaaGreatDoorMs0
import Derived.Lib.ItoaNum
import Derived.Lib.LaidTab
import Derived.LaidLaws
import Derived.LaidHandle
import Derived.LaidMore
import Derived.MakeChecks
import Derived.Handed
import Derived.Stop.Joined
set_option linter.unusedVariables false
set_option linter.unusedSimpArgs false
set_option maxRecDepth 100000
namespace Go.Proofs.YtcoimlclclnlkaaGreatDoor
open Go Go.Crisp
open _root_.Go.Proofs.Tryz
section
variable {a0 a1 a2 a3 a4 a5 a6:Value}{h:af}{R:Value→af→Prop}
def jX (a0 a1:Value)(h:af)(R:Value→af→Prop):Prop:=
 vK (aK a0) λb=>
 vK (am 0 b) λc=>
 vK (ldV h c) λa=>
 vK (ag .i .eql a (.int .i64 0)) λd=>
 aA d (
 ae prog gM #[a1] h λe f=>
 R e f) (
 vK (ag .i .eql a (.int .i64 1)) λg=>
 aA g (
 R (.bool true) h) (
 R (.bool false) h))
theorem sP (H:jX a0 a1 h R):ae prog dt #[a0,a1] h R:=fk f30 (.s .z (.s (.s .z (.s .z (.s (.s .z .z) (.s .z (.s (.s .z .z) .z))))) (.s .z .z))) H
def mJ (a0 a1 a2:Value)(h:af)(R:Value→af→Prop):Prop:=
 aP #[(.int .i64 0),(.int .i64 0),(.int .i64 0),(.int .i64 0)] 99 h λb c=>
 vK (aK a0) λp=>
 vK (am 0 p) λq=>
 vK (ldV c q) λe=>
 vK (ag .i .eql e (.int .i64 1)) λr=>
 aA r (
 vK (aK a0) λs=>
 vK (am 2 s) λt=>
 vK (ldV c t) λu=>
 ae prog fm #[u] c λv w=>
 aP #[(.int .i64 0),(.int .i64 0)] 97 w λf x=>
 stK 2 f v x λbc y=>
 ae prog da #[a0] y λbd a=>
 bD a λS=>
 vK (aK a0) λz=>
 vK (am 1 z) λaa=>
 qK S (λa=>ldV a aa) λab=>
 vK (aK a0) λac=>
 vK (am 1 ac) λad=>
 qK S (λa=>ldV a ad) λah=>
 qK S (λa=>aq ah) λai=>
 vK (ag .i .sub ai (.int .i64 1)) λaj=>
 vK (aR 1 ab aj) λak=>
 qK S (λa=>ldV a ak) λal=>
 qK S (λa=>aH 2 a f) λan=>
 vK ((aE #[(.int .i64 0),(.int .i64 0),(.int .i64 0),(.int .i64 0)] [(0,1,(.int .i64 2)),(1,1,al),(2,2,an)]).map .agg) λao=>
 stK 4 b ao a λbe g=>
 vK (aH 4 g b) λap=>
 R ap g) (
 vK (ag .i .eql e (.int .i64 2)) λar=>
 aA ar (
 vK ((aE #[(.int .i64 0),(.int .i64 0),(.int .i64 0),(.int .i64 0)] []).map .agg) λau=>
 stK 4 b au c λbf j=>
 vK (aH 4 j b) λav=>
 R av j) (
 ae prog jc #[a1] c λk d=>
 vK (aF k 0) λaw=>
 vK (aF k 1) λl=>
 vK (ag .i .eql l (.int .i64 0)) λax=>
 aA ax (
 ae prog jC #[a0,aw,a2] d λay az=>
 stK 4 b ay az λbg m=>
 vK (aH 4 m b) λa3=>
 R a3 m) (
 vK (ag .i .eql l (.int .i64 2)) λa4=>
 aA a4 (
 vK (aK a0) λa5=>
 vK (am 0 a5) λa6=>
 stK 1 a6 (.int .i64 2) d λbh a7=>
 vK ((aE #[(.int .i64 0),(.int .i64 0),(.int .i64 0),(.int .i64 0)] [(0,1,(.int .i64 3))]).map .agg) λa8=>
 stK 4 b a8 a7 λbi n=>
 vK (aH 4 n b) λa9=>
 R a9 n) (
 vK ((aE #[(.int .i64 0),(.int .i64 0),(.int .i64 0),(.int .i64 0)] []).map .agg) λba=>
 stK 4 b ba d λbj o=>
 vK (aH 4 o b) λbb=>
 R bb o))))
theorem xD (H:mJ a0 a1 a2 h R):ae prog cg #[a0,a1,a2] h R:=fk f31 (.s .z (.s (.s .z (.s .z (.s (.s .z (.s .z (.s (.d (.op 0 .r (.op 1 .r (.op 2 .r (.op 3 .r (.op 4 .r (.op 5 .r (.op 6 .r (.op 7 .r (.op 8 .r (.op 9 .r (.op 10 .r (.op 11 .r (.op 12 .r (.op 13 .r (.op 14 .n .nil)))))))))))))))) .z))) (.s .z (.s (.s .z .z) .z))))) (.s .z (.s (.s .z (.s .z (.s (.s .z .z) (.s .z (.s (.s .z (.s .z .z)) .z))))) (.s .z .z))))) H
def lH (a0:Value)(h:af)(R:Value→af→Prop):Prop:=
 vK (aK a0) λa=>
 vK (am 0 a) λb=>
 vK (ldV h b) λc=>
 R c h
theorem vW (H:lH a0 h R):ae prog ja #[a0] h R:=fk f33 (.s .z (.s .z .z)) H
def yg (h:af)(R:Value→af→Prop):Prop:=
 cF #[(.int .u16 0)] 22 1 [(0,1,(.int .u16 9))] h λah ai=>
 ae prog pL #[(.int .i64 1),(.int .i64 1),(.int .i64 1),(.int .i64 255),ah] ai λo aj=>
 vK (aF o 0) λak=>
 vK (aF o 1) λal=>
 vK ((aE #[(.int .i64 0),(.int .i64 0),(.int .i64 0),(.int .i64 0),(.slice none 0 0),(.slice none 0 0),(.int .i64 0),(.int .i64 0),(.int .i64 0)] [(0,1,(.int .i64 1))]).map .agg) λam=>
 ae prog lB #[am,(.int .i64 1),(.int .i64 1)] aj λq an=>
 vK (aF q 0) λao=>
 vK (aF q 1) λap=>
 aP #[(.pointer none),(.pointer none),(.int .i64 0)] 46 an λr ar=>
 stK 3 r ao ar λb3 au=>
 ae prog uD #[] au λav s=>
 vK (unV .not av) λf=>
 gK f false (λaw=>ae prog uC #[] s aw) s λax g=>
 vK (gV f false (unV .not ax)) λay=>
 vK (az f (.bool true) ay) λj=>
 vK (gV j false (some al)) λa0=>
 vK (gV j false (ag .i .neq a0 (.int .i64 0))) λa1=>
 vK (az j (.bool true) a1) λk=>
 vK (gV k false (some ap)) λa2=>
 vK (gV k false (ag .i .neq a2 (.int .i64 0))) λa3=>
 vK (az k (.bool true) a3) λa4=>
 aA a4 (
 R (.bool false) g) (
 vK (aH 3 g r) λa5=>
 ae prog wQ #[ak,a5,(.int .i64 1),(.int .i64 1),(.int .i64 1),(.int .i64 1)] g λt u=>
 vK (aF t 0) λb=>
 vK (aF t 1) λa6=>
 vK (ag .i .neq a6 (.int .i64 0)) λl=>
 vK (gV l false (some b)) λa7=>
 vK (gV l false (ag .p .eql a7 (.pointer none))) λa8=>
 vK (az l (.bool true) a8) λc=>
 vK (gV c false (some b)) λa9=>
 gK c false (λba=>ae prog jq #[a9] u ba) u λbb v=>
 vK (gV c false (ag .i .neq bb (.int .i64 7))) λbc=>
 vK (az c (.bool true) bc) λd=>
 vK (gV d false (some b)) λbd=>
 gK d false (λbe=>ae prog iN #[bd] v be) v λbf w=>
 vK (gV d false (ag .i .neq bf (.int .i64 2))) λbg=>
 vK (az d (.bool true) bg) λbh=>
 aA bh (
 R (.bool false) w) (
 aS [(.int .i64 0)] w λx b4 y bi=>
 vK (ag .i .lss (ix x 0) (.int .i64 7)) λbj=>
 aA bj (
 ae prog fg #[b] y λz m=>
 vK (aq z) λbk=>
 vK (ag .i .eql bk (.int .i64 0)) λa=>
 vK (gV a false (some b)) λbl=>
 vK (gV a false (some z)) λbm=>
 vK (gV a false (aR 1 bm (.int .i64 0))) λbn=>
 vK (gV a false (ldV m bn)) λbo=>
 gK a false (λbp=>ae prog ii #[bl,bo] m bp) m λbq aa=>
 vK (gV a false (unV .not bq)) λbr=>
 vK (az a (.bool true) br) λbs=>
 aA bs (
 R (.bool false) aa) (
 vK (ag .i .add (ix x 0) (.int .i64 1)) λbt=>
 bi [bt] aa)) (
 ae prog fZ #[b] y λab ac=>
 vK (aF ab 0) λad=>
 vK (aF ab 1) λn=>
 vK (gV n true (some ad)) λbu=>
 vK (gV n true (ag .p .neq bu (.pointer none))) λbv=>
 vK (az n bv (.bool false)) λe=>
 vK (gV e true (some ad)) λbw=>
 gK e true (λbx=>ae prog fo #[bw,(.int .i64 0),(.int .i64 0),(.int .i64 0)] ac bx) ac λbz b0=>
 vK (gV e true (ag .i .eql bz (.int .u16 9))) λb1=>
 vK (az e b1 (.bool false)) λb2=>
 R b2 b0)))
theorem Iu (H:yg h R):ae prog oC #[] h R:=fk f34 (.s .z (.s .z (.s .z (.s (.s .z (.s (.s .z .z) .z)) (.s .z (.s (.s .z (.s (.s .z .z) .z)) (.s (.s .z (.l 4722294425275607285889 [56] (.s .z (.s (.s .z .z) (.s (.s .z (.s .z (.s (.s .z .z) .z))) .z))))) (.s .z (.s .z .z))))))))) H
def yi (a0 a1 a2 a3 a4 a5:Value)(h:af)(R:Value→af→Prop):Prop:=
 aP (Value.cells a0) 25 h λs t=>
 aP (Value.cells a1) 31 t λu v=>
 aP aD 110 v λa f=>
 vK (aH 5 f s) λw=>
 ae prog dF #[w] f λb g=>
 vK (aH 9 g u) λx=>
 cF #[(.int .i64 0),(.int .i64 0),(.int .i64 0),(.int .i64 0),(.slice none 0 0),(.slice none 0 0),(.int .i64 0),(.int .i64 0),(.int .i64 0)] 31 1 [(0,9,x)] g λy z=>
 ae prog gb #[y,b] z λd e=>
 vK (aF d 0) λaa=>
 vK (aF d 1) λab=>
 vK (aF d 2) λac=>
 vK (unV .not ac) λad=>
 aA ad (
 vK ((aE aD []).map .agg) λah=>
 stK 20 a ah e λbc j=>
 vK (aH 20 j a) λai=>
 R (.tuple #[b,(.pointer none),ai,(.bool false)]) j) (
 vK (ag .i .rem a2 (.int .u8 13)) λaj=>
 vK (dY .i64 aj) λak=>
 vK (ag .i .add (.int .i64 1) ak) λk=>
 vK (ag .i .rem a3 (.int .u8 13)) λal=>
 vK (dY .i64 al) λam=>
 vK (ag .i .add (.int .i64 1) am) λl=>
 vK (ag .i .rem a4 (.int .u8 5)) λan=>
 vK (dY .i64 an) λao=>
 vK (ag .i .add (.int .i64 1) ao) λm=>
 vK (ag .i .rem a5 (.int .u8 4)) λap=>
 vK (dY .i64 ap) λaq=>
 vK (ag .i .add (.int .i64 1) aq) λn=>
 vK (aR 3 aa (.int .i64 0)) λar=>
 vK (aH 3 e ar) λau=>
 ae prog wQ #[b,au,k,l,m,n] e λo c=>
 vK (aF o 0) λav=>
 vK (aF o 1) λaw=>
 vK (ag .i .neq aw (.int .i64 0)) λax=>
 aA ax (
 vK ((aE aD []).map .agg) λay=>
 stK 20 a ay c λbd p=>
 vK (aH 20 p a) λaz=>
 R (.tuple #[b,(.pointer none),az,(.bool false)]) p) (
 bD c λS=>
 vK (aR 5 ab (.int .i64 0)) λa6=>
 qK S (λc=>aH 5 c a6) λa7=>
 ae prog aO #[b] c λa8 q=>
 S q∧(ae prog zJ #[a7,a8,k,l,m,n] q λa9 ba=>
 stK 20 a a9 ba λbe r=>
 vK (aH 20 r a) λbb=>
 R (.tuple #[b,av,bb,(.bool true)]) r)))
theorem Iw (H:yi a0 a1 a2 a3 a4 a5 h R):ae prog uB #[a0,a1,a2,a3,a4,a5] h R:=fk f35 (.s .z (.s .z (.s .z (.s (.s .z (.s (.s .z .z) .z)) (.s .z (.s .z (.s (.s .z (.s (.s .z .z) .z)) (.s (.d (.op 0 .r (.op 1 .r (.op 2 .r (.op 3 .r (.op 4 .r (.op 5 .r (.op 7 .r (.op 8 .r (.op 9 .r (.op 10 .r (.op 6 .e (.op 11 .n (.op 12 .r (.op 13 .r (.op 14 .n (.op 15 .r .nil))))))))))))))))) .z)))))))) H
def Dh (a0 a1:Value)(h:af)(R:Value→af→Prop):Prop:=
 aP (Value.cells a0) 25 h λm n=>
 aP (Value.cells a1) 31 n λo a=>
 bD a λS=>
 qK S (λa=>aH 9 a o) λd=>
 qK S (λa=>aH 5 a m) λe=>
 (cF #[(.int .i64 0),(.int .i64 0),(.int .i64 0),(.int .i64 0),(.slice none 0 0),(.slice none 0 0),(.int .i64 0),(.int .i64 0),(.int .i64 0)] 31 1 [(0,9,d)] a λp f=>
 S f∧(ae prog dF #[e] f λq g=>
 S g∧(ae prog gb #[p,q] g λb i=>
 S i∧(vK (aF b 0) λv=>
 vK (aF b 1) λw=>
 vK (aF b 2) λr=>
 R r i))))∧(ae prog dF #[e] a λs j=>
 S j∧(cF #[(.int .i64 0),(.int .i64 0),(.int .i64 0),(.int .i64 0),(.slice none 0 0),(.slice none 0 0),(.int .i64 0),(.int .i64 0),(.int .i64 0)] 31 1 [(0,9,d)] j λt k=>
 S k∧(ae prog gb #[t,s] k λc l=>
 S l∧(vK (aF c 0) λx=>
 vK (aF c 1) λy=>
 vK (aF c 2) λu=>
 R u l))))
theorem Nd (H:Dh a0 a1 h R):ae prog zT #[a0,a1] h R:=fk f36 (.s .z (.s (.d (.op 0 .r (.op 2 .r (.alt (.op 1 .e (.op 3 .e (.op 4 .e (.op 5 .r (.op 6 .r (.op 7 .r (.op 8 .r (.op 9 .r (.op 10 .r (.op 11 .r .nil)))))))))) (.op 3 .e (.op 1 .e (.op 4 .e (.op 5 .r (.op 6 .r (.op 7 .r (.op 8 .r (.op 9 .r (.op 10 .r (.op 11 .r .nil)))))))))))))) (.s .z .z))) H
def Dj (a0:Value)(h:af)(R:Value→af→Prop):Prop:=
 aP #[(.int .i64 0),(.int .i64 0),(.int .i64 0),(.int .i64 0),(.slice none 0 0)] 115 h λa c=>
 ae prog bE #[a0] c λd e=>
 ae prog bG #[a0] e λf g=>
 ae prog aO #[a0] g λi j=>
 ae prog co #[a0] j λk l=>
 ae prog fN #[a0] l λm n=>
 vK ((aE #[(.int .i64 0),(.int .i64 0),(.int .i64 0),(.int .i64 0),(.slice none 0 0)] [(0,1,d),(1,1,f),(2,1,i),(3,1,k),(4,1,m)]).map .agg) λo=>
 stK 5 a o n λq b=>
 vK (aH 5 b a) λp=>
 R p b
theorem Ng (H:Dj a0 h R):ae prog pN #[a0] h R:=fk f37 (.s .z (.s .z .z)) H
def qw (a0:Value)(h:af)(R:Value→af→Prop):Prop:=
 vK (aK a0) λa=>
 vK (am 12 a) λb=>
 vK (ldV h b) λc=>
 vK (unV .not c) λd=>
 aA d (
 R (.tuple #[(.pointer none),(.bool false)]) h) (
 vK (aK a0) λe=>
 vK (am 1 e) λf=>
 vK (ldV h f) λg=>
 ae prog kg #[g] h λi j=>
 R (.tuple #[i,(.bool true)]) j)
theorem Az (H:qw a0 h R):ae prog fZ #[a0] h R:=fk f38 (.s .z (.s (.s .z (.s (.s .z .z) .z)) (.s .z .z))) H
def rG (a0:Value)(h:af)(R:Value→af→Prop):Prop:=
 bD h λS=>
 vK (aK a0) λj=>
 vK (am 2 j) λk=>
 qK S (λh=>ldV h k) λl=>
 vK (aK a0) λm=>
 vK (am 6 m) λn=>
 qK S (λh=>ldV h n) λo=>
 qK S (λh=>aq o) λp=>
 ae prog dk #[l] h λq c=>
 S c∧(vK (ag .i .mul (.int .i64 2) q) λr=>
 vK (ag .i .add r p) λs=>
 vK (ag .i .add s (.int .i64 2)) λt=>
 vK (aK a0) λu=>
 vK (am 2 u) λv=>
 vK (ldV c v) λw=>
 ae prog p9 #[w] c λe x=>
 vK (aq e) λy=>
 aS [t,(.int .i64 0)] x λb au d z=>
 vK (ag .i .lss (ix b 1) y) λaa=>
 aA aa (
 vK (aR 10 e (ix b 1)) λab=>
 vK (aH 10 d ab) λac=>
 aP #[(.int .i64 0),(.int .i64 0),(.int .i64 0),(.int .i64 0),(.int .i64 0),(.int .i64 0),(.int .i64 0),(.int .i64 0),(.int .i64 0),(.int .i64 0)] 65 d λf ad=>
 stK 10 f ac ad λav a=>
 bD a λS=>
 vK (aK a0) λah=>
 vK (am 2 ah) λai=>
 qK S (λa=>ldV a ai) λaj=>
 qK S (λa=>aH 10 a f) λak=>
 ae prog gE #[aj] a λal g=>
 S g∧(ae prog sA #[al,ak] g λan ao=>
 vK (ag .i .add (ix b 0) an) λap=>
 vK (ag .i .add (ix b 1) (.int .i64 1)) λar=>
 z [ap,ar] ao)) (
 R (ix b 0) d))
theorem BV (H:rG a0 h R):ae prog jq #[a0] h R:=fk f39 (.s .z (.s (.d (.op 0 .r (.op 1 .r (.op 2 .r (.op 3 .r (.op 6 .r (.op 7 .r (.op 8 .r (.op 9 .r (.op 10 .r (.op 4 .e (.op 5 .r (.op 11 .r (.op 12 .r (.op 13 .r .nil))))))))))))))) (.s (.s .z (.l 549722259496 [3,25] (.s .z (.s (.s .z .z) (.s (.s .z (.d (.op 0 .r (.op 1 .r (.op 2 .r (.op 3 .r (.op 4 .r (.op 6 .r (.op 5 .e (.op 7 .n (.op 8 .r (.op 9 .r .nil)))))))))))) .z))))) (.s .z .z)))) H
def yf (a0 a1:Value)(h:af)(R:Value→af→Prop):Prop:=
 aS [(.int .i64 0)] h λa ac d j=>
 vK (ag .i .lss (ix a 0) (.int .i64 200000)) λk=>
 aA k (
 ae prog fg #[a0] d λc l=>
 ae prog jI #[a0] l λm b=>
 aA m (
 R (.bool true) b) (
 vK (aq c) λn=>
 vK (ag .i .eql n (.int .i64 0)) λo=>
 aA o (
 R (.bool false) b) (
 dE (λe=>
 vK (aq a1) λp=>
 vK (ag .i .lss (ix a 0) p) λq=>
 aA q (
 vK (aR 1 a1 (ix a 0)) λr=>
 vK (ldV b r) λs=>
 vK (dY .i64 s) λt=>
 e [t] b) (
 e [(ix a 0)] b))
 λu ad f=>
 vK (aq c) λv=>
 vK (ag .i .rem (ix u 0) v) λw=>
 vK (aR 1 c w) λx=>
 vK (ldV f x) λy=>
 ae prog ii #[a0,y] f λz g=>
 vK (unV .not z) λaa=>
 aA aa (
 R (.bool false) g) (
 vK (ag .i .add (ix a 0) (.int .i64 1)) λab=>
 j [ab] g)))) (
 R (.bool false) d)
theorem Is (H:yf a0 a1 h R):ae prog uA #[a0,a1] h R:=fk f40 (.s .z (.s (.s .z (.l 549755813872 [8] (.s .z (.s (.s .z .z) (.s (.s .z (.s .z (.s (.s .z (.s (.s .z .z) .z)) (.s (.s .z (.s (.s .z .z) .z)) (.s .z (.j 267911296 [7] (.s .z (.s .z .z)) (.s .z (.s (.s .z .z) .z)))))))) .z))))) (.s .z .z))) H
def rH (a0:Value)(h:af)(R:Value→af→Prop):Prop:=
 vK (aK a0) λa=>
 vK (am 13 a) λb=>
 vK (ldV h b) λc=>
 R c h
theorem BW (H:rH a0 h R):ae prog mA #[a0] h R:=fk f41 (.s .z (.s .z .z)) H
def mN (a0:Value)(h:af)(R:Value→af→Prop):Prop:=
 ae prog iN #[a0] h λe f=>
 aS [(.slice none 0 0),(.int .i64 0)] f λa q b c=>
 vK (ag .i .lss (ix a 1) e) λg=>
 aA g (
 ae prog jU #[a0,(ix a 1)] b λj d=>
 aA j (
 cF #[(.int .i64 0)] 3 1 [(0,1,(ix a 1))] d λk l=>
 cG (.int .i64 0) 3 1 8 (ix a 0) k l λm n=>
 vK (ag .i .add (ix a 1) (.int .i64 1)) λo=>
 c [m,o] n) (
 vK (ag .i .add (ix a 1) (.int .i64 1)) λp=>
 c [(ix a 0),p] d)) (
 R (ix a 0) b)
theorem xH (H:mN a0 h R):ae prog fg #[a0] h R:=fk f42 (.s .z (.s .z (.s (.s .z (.l 262040 [3,7] (.s .z (.s (.s .z .z) (.s (.s .z (.s .z (.s .z .z))) .z))))) (.s .z .z)))) H
def yr (a0 a1:Value)(h:af)(R:Value→af→Prop):Prop:=
 aP (Value.cells a0) 115 h λf j=>
 aP (Value.cells a1) 115 j λg a=>
 vK (am 0 f) λk=>
 vK (ldV a k) λl=>
 vK (am 0 g) λm=>
 vK (ldV a m) λn=>
 vK (ag .i .eql l n) λb=>
 vK (gV b true (am 1 f)) λo=>
 vK (gV b true (ldV a o)) λp=>
 vK (gV b true (am 1 g)) λq=>
 vK (gV b true (ldV a q)) λr=>
 vK (gV b true (ag .i .eql p r)) λs=>
 vK (az b s (.bool false)) λc=>
 vK (gV c true (am 2 f)) λt=>
 vK (gV c true (ldV a t)) λu=>
 vK (gV c true (am 2 g)) λv=>
 vK (gV c true (ldV a v)) λw=>
 vK (gV c true (ag .i .eql u w)) λx=>
 vK (az c x (.bool false)) λd=>
 vK (gV d true (am 3 f)) λy=>
 vK (gV d true (ldV a y)) λz=>
 vK (gV d true (am 3 g)) λaa=>
 vK (gV d true (ldV a aa)) λab=>
 vK (gV d true (ag .i .eql z ab)) λac=>
 vK (az d ac (.bool false)) λe=>
 vK (gV e true (am 4 f)) λad=>
 vK (gV e true (ldV a ad)) λah=>
 vK (gV e true (am 4 g)) λai=>
 vK (gV e true (ldV a ai)) λaj=>
 gK e true (λak=>ae prog wI #[ah,aj] a ak) a λal an=>
 vK (az e al (.bool false)) λao=>
 R ao an
theorem IE (H:yr a0 a1 h R):ae prog oE #[a0,a1] h R:=fk f43 (.s .z (.s .z .z)) H
def xS (a0 a1:Value)(h:af)(R:Value→af→Prop):Prop:=
 aP (Value.cells a0) 115 h λb s=>
 aP (Value.cells a1) 56 s λc t=>
 aP #[(.int .i64 0),(.int .i64 0),(.int .i64 0),(.int .i64 0),(.slice none 0 0)] 115 t λm d=>
 vK (am 0 c) λu=>
 vK (ldV d u) λv=>
 vK (aq v) λw=>
 vK (am 1 c) λx=>
 vK (ldV d x) λy=>
 vK (aq y) λz=>
 vK (am 2 b) λaa=>
 vK (ldV d aa) λab=>
 vK (am 3 b) λac=>
 vK (ldV d ac) λad=>
 vK ((aE #[(.int .i64 0),(.int .i64 0),(.int .i64 0),(.int .i64 0),(.slice none 0 0)] [(0,1,w),(1,1,z),(2,1,ab),(3,1,ad)]).map .agg) λah=>
 aP #[(.int .i64 0),(.int .i64 0),(.int .i64 0),(.int .i64 0),(.slice none 0 0)] 115 d λe ai=>
 stK 5 e ah ai λbl n=>
 vK (am 1 c) λaj=>
 vK (ldV n aj) λak=>
 vK (aq ak) λal=>
 aS [(.int .i64 0)] n λg bm f an=>
 vK (ag .i .lss (ix g 0) al) λao=>
 aA ao (
 vK (am 0 c) λap=>
 vK (ldV f ap) λar=>
 vK (aq ar) λau=>
 aS [(.int .i64 0)] f λj bn k av=>
 vK (ag .i .lss (ix j 0) au) λaw=>
 aA aw (
 vK (am 2 b) λax=>
 vK (ldV k ax) λay=>
 aS [(.int .i64 0)] k λl bo a az=>
 vK (ag .i .lss (ix l 0) ay) λa2=>
 aA a2 (
 bD a λS=>
 vK (am 4 e) λa3=>
 qK S (λa=>ldV a a3) λa4=>
 qK S (λa=>aH 5 a b) λa5=>
 qK S (λa=>aH 5 a c) λa6=>
 vK (am 3 b) λa7=>
 qK S (λa=>ldV a a7) λa8=>
 ae prog zK #[a5,a6,(ix j 0),(ix g 0),(ix l 0)] a λa9 o=>
 S o∧(ae prog ut #[a9,a8] o λba p=>
 S p∧(cF #[(.int .u16 0)] 22 1 [(0,1,ba)] p λbb q=>
 S q∧(cG (.int .u16 0) 22 1 2 a4 bb q λbc bd=>
 vK (am 4 e) λbe=>
 stK 1 be bc bd λbp bf=>
 vK (ag .i .add (ix l 0) (.int .i64 1)) λbg=>
 az [bg] bf)))) (
 vK (ag .i .add (ix j 0) (.int .i64 1)) λbh=>
 av [bh] a)) (
 vK (ag .i .add (ix g 0) (.int .i64 1)) λbi=>
 an [bi] k)) (
 vK (aH 5 f e) λbj=>
 stK 5 m bj f λbq r=>
 vK (aH 5 r m) λbk=>
 R bk r)
theorem If (H:xS a0 a1 h R):ae prog uu #[a0,a1] h R:=fk f44 (.s .z (.s .z (.s (.s .z (.l 18014398501093824 [23] (.s .z (.s (.s .z .z) (.s (.s .z (.s .z (.l 9007198717870464 [29] (.s .z (.s (.s .z .z) (.s (.s .z (.s .z (.l 4503582447501568 [34] (.s .z (.s (.s .z .z) (.s (.s .z (.d (.op 0 .r (.op 1 .r (.op 2 .r (.op 3 .r (.op 4 .r (.op 5 .r (.op 6 .r (.op 8 .r (.op 9 .r (.op 7 .e (.op 10 .e (.op 11 .e (.op 12 .n (.op 13 .r (.op 14 .n .nil))))))))))))))))) .z)))))) .z)))))) .z))))) (.s .z .z)))) H
def FJ (a0 a1 a2 a3 a4 a5:Value)(h:af)(R:Value→af→Prop):Prop:=
 aP (Value.cells a1) 46 h λf j=>
 vK (ag .p .eql a0 (.pointer none)) λb=>
 vK (gV b false (some a0)) λao=>
 vK (gV b false (aH 3 j f)) λap=>
 gK b false (λaq=>ae prog ij #[ao,ap] j aq) j λar a=>
 vK (gV b false (unV .not ar)) λau=>
 vK (az b (.bool true) au) λav=>
 aA av (
 R (.tuple #[(.pointer none),(.int .i64 6)]) a) (
 bD a λS=>
 vK (am 0 f) λaw=>
 qK S (λa=>ldV a aw) λax=>
 vK (am 1 f) λay=>
 qK S (λa=>ldV a ay) λa6=>
 ae prog bF #[ax] a λa7 r=>
 S r∧(ae prog bF #[a6] r λa8 a9=>
 ae prog aO #[a0] a9 λba bb=>
 ae prog co #[a0] bb λbc bd=>
 ae prog gA #[a7,a8,ba,bc] bd λs k=>
 vK (aF s 0) λg=>
 vK (aF s 1) λt=>
 vK (ag .i .neq t (.int .i64 0)) λbe=>
 aA be (
 R (.tuple #[(.pointer none),t]) k) (
 vK (aH 3 k f) λbf=>
 ae prog wR #[bf,a2,a3] k λu c=>
 vK (aF u 0) λl=>
 vK (aF u 1) λv=>
 vK (ag .i .neq v (.int .i64 0)) λbg=>
 aA bg (
 R (.tuple #[(.pointer none),v]) c) (
 vK (ag .i .lss a4 (.int .i64 1)) λm=>
 vK (gV m false (some a4)) λbh=>
 vK (gV m false (ag .i .gtr bh (.int .i64 256))) λbi=>
 vK (az m (.bool true) bi) λbj=>
 aA bj (
 R (.tuple #[(.pointer none),(.int .i64 10)]) c) (
 dE (λn=>
 bD c λS=>
 vK (ag .i .add a4 (.int .i64 1)) λo=>
 (ae prog lz #[a5] c λw q=>
 S q∧((ae prog lC #[o] q λbk x=>
 S x∧(mkK (.int .i64 0) 3 1 8 a4 a4 x λbl y=>
 S y∧(vK ((aE mX [(0,1,a0),(1,1,g),(2,1,l),(3,1,w),(4,1,bk),(7,1,bl)]).map .agg) λbm=>
 aP (Value.cells bm) 197 y λbn z=>
 S z∧(n [bn] z))))∧(mkK (.int .i64 0) 3 1 8 a4 a4 q λbo aa=>
 S aa∧(ae prog lC #[o] aa λbp ab=>
 S ab∧(vK ((aE mX [(0,1,a0),(1,1,g),(2,1,l),(3,1,w),(4,1,bp),(7,1,bo)]).map .agg) λbq=>
 aP (Value.cells bq) 197 ab λbr ac=>
 S ac∧(n [br] ac))))))∧(mkK (.int .i64 0) 3 1 8 a4 a4 c λbs ad=>
 S ad∧(ae prog lz #[a5] ad λbt ah=>
 S ah∧(ae prog lC #[o] ah λbu ai=>
 S ai∧(vK ((aE mX [(0,1,a0),(1,1,g),(2,1,l),(3,1,bt),(4,1,bu),(7,1,bs)]).map .agg) λbv=>
 aP (Value.cells bv) 197 ai λbw aj=>
 S aj∧(n [bw] aj))))))
 λd ci bx=>
 aS [(.int .i64 0)] bx λak cj e bz=>
 vK (ag .i .lss (ix ak 0) a4) λb0=>
 aA b0 (
 bD e λS=>
 vK (aK (ix d 0)) λb1=>
 vK (am 6 b1) λb2=>
 qK S (λe=>ldV e b2) λb3=>
 ae prog lZ #[] e λb4 al=>
 S al∧(cF #[(.pointer none)] 77 1 [(0,1,b4)] al λb5 an=>
 S an∧(cG (.pointer none) 77 1 8 b3 b5 an λb6 b7=>
 vK (aK (ix d 0)) λb8=>
 vK (am 6 b8) λb9=>
 stK 1 b9 b6 b7 λck ca=>
 vK (ag .i .add (ix ak 0) (.int .i64 1)) λcb=>
 bz [cb] ca))) (
 ae prog pM #[a0] e λcc cd=>
 ae prog dd #[(ix d 0),(.int .i64 0),(.int .i64 0),(.int .i64 0),cc,(.bool true)] cd λcl ce=>
 ae prog pM #[g] ce λcf cg=>
 ae prog dd #[(ix d 0),(.int .i64 0),(.int .i64 1),(.int .i64 0),cf,(.bool true)] cg λcm ch=>
 R (.tuple #[(ix d 0),(.int .i64 0)]) ch))))))
theorem OV (H:FJ a0 a1 a2 a3 a4 a5 h R):ae prog wQ #[a0,a1,a2,a3,a4,a5] h R:=fk f45 (.s .z (.s (.s .z (.s (.s .z .z) .z)) (.s (.d (.op 0 .r (.op 1 .r (.op 3 .r (.op 4 .r (.op 6 .r (.op 8 .r (.op 2 .e (.op 5 .n (.op 7 .n (.op 9 .n (.op 10 .n (.op 11 .r (.op 12 .r (.op 13 .r (.op 14 .r (.op 15 .r .nil))))))))))))))))) (.s (.s .z (.s (.s .z .z) .z)) (.s .z (.s (.s .z (.s (.s .z .z) (.s .z (.s (.s .z .z) .z)))) (.j 9442427122730076864512 [17] (.d (.op 0 .r (.op 1 .r (.op 2 .r (.op 3 .r (.op 5 .r (.op 6 .r (.op 8 .r (.alt (.op 4 .e (.alt (.op 7 .e (.op 9 .e (.op 10 .r (.op 11 .e (.op 12 .r .nil))))) (.op 9 .e (.op 7 .e (.op 10 .r (.op 11 .e (.op 12 .r .nil))))))) (.op 9 .e (.op 4 .e (.op 7 .e (.op 10 .r (.op 11 .e (.op 12 .r .nil))))))))))))))) (.s (.s .z (.l 154723615444741055781535744 [74] (.s .z (.s (.s .z .z) (.s (.d (.op 0 .r (.op 1 .r (.op 2 .r (.op 3 .r (.op 4 .r (.op 5 .e (.op 6 .e (.op 7 .n (.op 8 .r (.op 9 .r (.op 10 .n .nil)))))))))))) .z))))) (.s .z (.s .z (.s .z .z))))))))))) H
def qx (a0:Value)(h:af)(R:Value→af→Prop):Prop:=
 vK (aK a0) λa=>
 vK (am 6 a) λb=>
 vK (ldV h b) λc=>
 vK (aq c) λd=>
 vK (ag .i .add d (.int .i64 1)) λe=>
 R e h
theorem AA (H:qx a0 h R):ae prog iN #[a0] h R:=fk f46 (.s .z (.s .z .z)) H
def mO (a0:Value)(h:af)(R:Value→af→Prop):Prop:=
 vK (aK a0) λa=>
 vK (am 12 a) λb=>
 vK (ldV h b) λc=>
 R c h
theorem xI (H:mO a0 h R):ae prog jI #[a0] h R:=fk f47 (.s .z (.s .z .z)) H
def tE (a0 a1:Value)(h:af)(R:Value→af→Prop):Prop:=
 ae prog jU #[a0,a1] h λc a=>
 vK (unV .not c) λd=>
 aA d (
 R (.bool false) a) (
 vK (aK a0) λe=>
 vK (am 13 e) λf=>
 vK (ldV a f) λg=>
 vK (ag .i .add g (.int .i64 1)) λj=>
 vK (aK a0) λk=>
 vK (am 13 k) λl=>
 stK 1 l j a λp b=>
 vK (ag .i .eql a1 (.int .i64 0)) λm=>
 aA m (
 ae prog nT #[a0] b λq n=>
 R (.bool true) n) (
 ae prog nQ #[a0,a1] b λr o=>
 R (.bool true) o))
theorem DO (H:tE a0 a1 h R):ae prog ii #[a0,a1] h R:=fk f48 (.s .z (.s (.s .z (.s (.s .z .z) .z)) (.s .z (.s (.s .z (.s .z .z)) (.s .z .z))))) H
def mL (a0:Value)(h:af)(R:Value→af→Prop):Prop:=
 vK (aK a0) λa=>
 vK (am 0 a) λb=>
 vK (ldV h b) λc=>
 R c h
theorem xF (H:mL a0 h R):ae prog bE #[a0] h R:=fk f59 (.s .z (.s .z .z)) H
def lI (a0:Value)(h:af)(R:Value→af→Prop):Prop:=
 vK (aK a0) λa=>
 vK (am 1 a) λb=>
 vK (ldV h b) λc=>
 R c h
theorem vX (H:lI a0 h R):ae prog bG #[a0] h R:=fk f60 (.s .z (.s .z .z)) H
def ym (h:af)(R:Value→af→Prop):Prop:=
 ae prog gA #[(.int .i64 3),(.int .i64 1),(.int .i64 1),(.int .i64 255)] h λl w=>
 vK (aF l 0) λx=>
 vK (aF l 1) λy=>
 vK ((aE #[(.int .i64 0),(.int .i64 0),(.int .i64 0),(.int .i64 0),(.slice none 0 0),(.slice none 0 0),(.int .i64 0),(.int .i64 0),(.int .i64 0)] [(0,1,(.int .i64 1)),(3,1,(.int .i64 1))]).map .agg) λz=>
 ae prog lB #[z,(.int .i64 3),(.int .i64 1)] w λm aa=>
 vK (aF m 0) λab=>
 vK (aF m 1) λac=>
 aP #[(.pointer none),(.pointer none),(.int .i64 0)] 46 aa λn ad=>
 stK 3 n ab ad λbl ah=>
 ae prog gA #[(.int .i64 3),(.int .i64 1),(.int .i64 1),(.int .i64 255)] ah λo ai=>
 vK (aF o 0) λaj=>
 vK (aF o 1) λak=>
 ae prog uG #[] ai λal q=>
 vK (unV .not al) λc=>
 gK c false (λam=>ae prog uF #[] q am) q λan d=>
 vK (gV c false (unV .not an)) λao=>
 vK (az c (.bool true) ao) λe=>
 vK (gV e false (some y)) λap=>
 vK (gV e false (ag .i .neq ap (.int .i64 0))) λaq=>
 vK (az e (.bool true) aq) λf=>
 vK (gV f false (some ac)) λar=>
 vK (gV f false (ag .i .neq ar (.int .i64 0))) λau=>
 vK (az f (.bool true) au) λg=>
 vK (gV g false (some ak)) λav=>
 vK (gV g false (ag .i .neq av (.int .i64 0))) λaw=>
 vK (az g (.bool true) aw) λax=>
 aA ax (
 R (.bool false) d) (
 vK (aH 3 d n) λay=>
 vK ((aE #[(.int .i64 0),(.int .i64 0),(.int .i64 0),(.int .i64 0)] [(2,1,(.int .i64 3)),(3,1,(.int .i64 1))]).map .agg) λa0=>
 vK ((aE #[(.int .i64 0),(.int .i64 0),(.int .i64 0),(.int .i64 0),(.int .i64 0),(.int .i64 0),(.int .i64 0),(.int .i64 0),(.int .i64 0),(.int .i64 0)] [(1,4,a0)]).map .agg) λa1=>
 ae prog l8 #[x,aj,ay,a1] d λr s=>
 vK (aF r 0) λb=>
 vK (aF r 1) λa2=>
 vK (ag .i .neq a2 (.int .i64 0)) λj=>
 vK (gV j false (some b)) λa3=>
 vK (gV j false (ag .p .eql a3 (.pointer none))) λa4=>
 vK (az j (.bool true) a4) λa5=>
 aA a5 (
 R (.bool false) s) (
 aS [(.int .i64 (-1))] s λk bm t a6=>
 vK (ag .i .lss (ix k 0) (.int .i64 2)) λa7=>
 aA a7 (
 ae prog fm #[b] t λa8 u=>
 vK ((aE #[(.int .i64 0),(.int .i64 0)] [(0,1,(.int .i64 1)),(1,1,(ix k 0))]).map .agg) λa9=>
 vK (ag (.st [(0,1,.i),(1,1,.i)]) .neq a8 a9) λba=>
 aA ba (
 R (.bool false) u) (
 vK (ag .i .add (ix k 0) (.int .i64 1)) λbb=>
 a6 [bb] u)) (
 ae prog fm #[b] t λbc v=>
 vK ((aE #[(.int .i64 0),(.int .i64 0)] [(0,1,(.int .i64 2))]).map .agg) λbd=>
 vK (ag (.st [(0,1,.i),(1,1,.i)]) .eql bc bd) λa=>
 vK (gV a true (some b)) λbe=>
 gK a true (λbf=>ae prog fm #[be] v bf) v λbg bh=>
 vK (gV a true ((aE #[(.int .i64 0),(.int .i64 0)] []).map .agg)) λbi=>
 vK (gV a true (ag (.st [(0,1,.i),(1,1,.i)]) .eql bg bi)) λbj=>
 vK (az a bj (.bool false)) λbk=>
 R bk bh)))
theorem Iz (H:ym h R):ae prog uE #[] h R:=fk f62 (.s .z (.s .z (.s .z (.s .z (.s (.s .z (.s (.s .z .z) .z)) (.s .z (.s (.s .z (.s (.s .z .z) .z)) (.s (.s .z (.l 36821430553381175809 [9] (.s (.s .z (.s .z .z)) (.s (.s .z (.s (.s .z .z) .z)) .z)))) (.s .z .z))))))))) H
def Bf (a0 a1 a2 a3 a4:Value)(h:af)(R:Value→af→Prop):Prop:=
 vK (ag .i .rem a0 (.int .u16 20)) λn=>
 vK (dY .i64 n) λo=>
 vK (ag .i .add (.int .i64 1) o) λd=>
 vK (ag .i .rem a1 (.int .u16 20)) λp=>
 vK (dY .i64 p) λq=>
 vK (ag .i .add (.int .i64 1) q) λe=>
 vK (ag .i .rem a2 (.int .u16 2)) λr=>
 vK (dY .i64 r) λs=>
 vK (ag .i .mul (.int .i64 2) s) λt=>
 vK (ag .i .add (.int .i64 1) t) λf=>
 vK (dY .i64 a3) λu=>
 vK (ag .i .rem u (.int .i64 65535)) λv=>
 vK (ag .i .add (.int .i64 1) v) λg=>
 vK (ag .i .mul d e) λw=>
 vK (ag .i .mul w f) λj=>
 mkK (.int .u16 0) 22 1 2 j j h λc x=>
 vK (aq c) λy=>
 aS [(.int .i64 0)] x λb a5 a k=>
 vK (ag .i .lss (ix b 0) y) λz=>
 aA z (
 vK (aq a4) λaa=>
 vK (ag .i .gtr aa (.int .i64 0)) λab=>
 aA ab (
 bD a λS=>
 qK S (λa=>aq a4) λac=>
 vK (ag .i .rem (ix b 0) ac) λad=>
 vK (aR 1 a4 ad) λah=>
 qK S (λa=>ldV a ah) λai=>
 vK (dY .i64 ai) λaj=>
 qK S (λa=>aq a4) λak=>
 vK (ag .i .quo (ix b 0) ak) λal=>
 vK (ag .i .add aj al) λam=>
 vK (ag .i .add g (.int .i64 1)) λan=>
 vK (ag .i .rem am an) λao=>
 vK (dY .u16 ao) λap=>
 vK (aR 1 c (ix b 0)) λar=>
 stK 1 ar ap a λa6 au=>
 vK (ag .i .add (ix b 0) (.int .i64 1)) λav=>
 k [av] au) (
 vK (ag .i .add (ix b 0) (.int .i64 1)) λaw=>
 k [aw] a)) (
 ae prog pL #[d,e,f,g,c] a λl m=>
 vK (aF l 0) λax=>
 vK (aF l 1) λay=>
 vK (ag .i .neq ay (.int .i64 0)) λaz=>
 aA az (
 R (.pointer none) m) (
 R ax m))
theorem K3 (H:Bf a0 a1 a2 a3 a4 h R):ae prog wV #[a0,a1,a2,a3,a4] h R:=fk f63 (.s .z (.s .z (.s .z (.s .z (.s (.s .z (.l 2361183223842636627968 [44] (.s .z (.s (.s .z .z) (.s (.s .z (.s .z (.s (.d (.op 0 .r (.op 1 .r (.op 2 .r (.op 3 .r (.op 4 .r (.op 5 .r (.op 6 .r (.op 7 .r (.op 8 .r (.op 9 .r (.op 10 .r (.op 11 .r (.op 12 .r (.op 13 .r (.op 14 .r (.op 15 .r (.op 16 .r (.op 17 .r (.op 18 .r (.op 19 .r (.op 20 .n .nil)))))))))))))))))))))) .z))) .z))))) (.s .z (.s (.s .z (.s (.s .z .z) .z)) (.s .z .z)))))))) H
def xn (a0 a1:Value)(h:af)(R:Value→af→Prop):Prop:=
 vK (aq a0) λp=>
 aS [(.int .i64 0)] h λn bh o q=>
 vK (ag .i .lss (ix n 0) p) λr=>
 aA r (
 vK (aR 9 a0 (ix n 0)) λs=>
 vK (aH 9 o s) λt=>
 aP #[(.int .i64 0),(.int .i64 0),(.int .i64 0),(.int .i64 0),(.slice none 0 0),(.slice none 0 0),(.int .i64 0),(.int .i64 0),(.int .i64 0)] 31 o λb u=>
 stK 9 b t u λbi a=>
 vK (am 4 b) λv=>
 vK (ldV a v) λw=>
 vK (aq w) λx=>
 vK (ag .i .gtr x (.int .i64 40)) λg=>
 vK (gV g false (am 5 b)) λy=>
 vK (gV g false (ldV a y)) λz=>
 vK (gV g false (aq z)) λaa=>
 vK (gV g false (ag .i .gtr aa (.int .i64 40))) λab=>
 vK (az g (.bool true) ab) λe=>
 vK (gV e false (am 2 b)) λac=>
 vK (gV e false (ldV a ac)) λad=>
 vK (gV e false (ag .i .gtr ad (.int .i64 262144))) λae=>
 vK (gV e false (some ae)) λj=>
 vK (gV j true (am 2 b)) λah=>
 vK (gV j true (ldV a ah)) λai=>
 vK (gV j true (ag .i .leq ai (.int .i64 4194304))) λaj=>
 vK (gV e false (az j aj (.bool false))) λak=>
 vK (az e (.bool true) ak) λf=>
 vK (gV f false (am 3 b)) λal=>
 vK (gV f false (ldV a al)) λan=>
 vK (gV f false (ag .i .gtr an (.int .i64 20))) λao=>
 vK (gV f false (some ao)) λk=>
 vK (gV k true (am 3 b)) λap=>
 vK (gV k true (ldV a ap)) λar=>
 vK (gV k true (ag .i .lss ar (.int .i64 512))) λau=>
 vK (gV f false (az k au (.bool false))) λav=>
 vK (az f (.bool true) av) λc=>
 vK (gV c false (am 7 b)) λaw=>
 vK (gV c false (ldV a aw)) λax=>
 vK (gV c false (some a1)) λay=>
 vK (gV c false (ag .i .gtr ax ay)) λa2=>
 vK (gV c false (some a2)) λl=>
 vK (gV l true (am 7 b)) λa3=>
 vK (gV l true (ldV a a3)) λa4=>
 vK (gV l true (ag .i .leq a4 (.int .i64 65536))) λa5=>
 vK (gV c false (az l a5 (.bool false))) λa6=>
 vK (az c (.bool true) a6) λd=>
 vK (gV d false (am 8 b)) λa7=>
 vK (gV d false (ldV a a7)) λa8=>
 vK (gV d false (some a1)) λa9=>
 vK (gV d false (ag .i .gtr a8 a9)) λba=>
 vK (gV d false (some ba)) λm=>
 vK (gV m true (am 8 b)) λbb=>
 vK (gV m true (ldV a bb)) λbc=>
 vK (gV m true (ag .i .leq bc (.int .i64 65536))) λbd=>
 vK (gV d false (az m bd (.bool false))) λbe=>
 vK (az d (.bool true) be) λbf=>
 aA bf (
 R (.bool false) a) (
 vK (ag .i .add (ix n 0) (.int .i64 1)) λbg=>
 q [bg] a)) (
 R (.bool true) o)
theorem GB (H:xn a0 a1 h R):ae prog sI #[a0,a1] h R:=fk f64 (.s .z (.s (.s .z (.l 73786976294838206032 [9] (.s .z (.s (.s .z .z) (.s (.s .z (.s .z (.s (.s .z .z) .z))) .z))))) (.s .z .z))) H
def Lu (a0 a1 a2 a3:Value)(h:af)(R:Value→af→Prop):Prop:=
 vK (aq a0) λp=>
 vK (ag .i .gtr p (.int .i64 16)) λq=>
 aA q (
 R (.tuple #[(.slice none 0 0),(.int .i64 6)]) h) (
 ae prog ku #[a1,a2,a3] h λr f=>
 vK (unV .not r) λs=>
 aA s (
 R (.tuple #[(.slice none 0 0),(.int .i64 5)]) f) (
 vK (aq a0) λt=>
 aS [a1,a2,(.slice none 0 0),(.int .i64 0)] f λa au b u=>
 vK (ag .i .lss (ix a 3) t) λv=>
 aA v (
 vK (aR 9 a0 (ix a 3)) λw=>
 vK (aH 9 b w) λx=>
 aP #[(.int .i64 0),(.int .i64 0),(.int .i64 0),(.int .i64 0),(.slice none 0 0),(.slice none 0 0),(.int .i64 0),(.int .i64 0),(.int .i64 0)] 31 b λc y=>
 stK 9 c x y λav g=>
 vK (aH 9 g c) λz=>
 ae prog lB #[z,(ix a 0),(ix a 1)] g λj aa=>
 vK (aF j 0) λab=>
 vK (aF j 1) λk=>
 aP #[(.pointer none),(.pointer none),(.int .i64 0)] 46 aa λl ac=>
 stK 3 l ab ac λaw d=>
 vK (ag .i .neq k (.int .i64 0)) λad=>
 aA ad (
 R (.tuple #[(.slice none 0 0),k]) d) (
 vK (aH 9 d c) λah=>
 ae prog Fv #[ah,(ix a 0),(ix a 1)] d λm ai=>
 vK (aF m 0) λn=>
 vK (aF m 1) λo=>
 ae prog ku #[n,o,a3] ai λaj e=>
 vK (unV .not aj) λak=>
 aA ak (
 R (.tuple #[(.slice none 0 0),(.int .i64 5)]) e) (
 vK (aH 3 e l) λal=>
 cF #[(.pointer none),(.pointer none),(.int .i64 0)] 46 1 [(0,3,al)] e λam an=>
 cG (.agg #[.pointer none,.pointer none,.int .i64 0]) 46 3 24 (ix a 2) am an λao ap=>
 vK (ag .i .add (ix a 3) (.int .i64 1)) λar=>
 u [n,o,ao,ar] ap))) (
 R (.tuple #[(ix a 2),(.int .i64 0)]) b)))
theorem Th (H:Lu a0 a1 a2 a3 h R):ae prog Ko #[a0,a1,a2,a3] h R:=fk f65 (.s .z (.s (.s .z (.s (.s .z .z) (.s .z (.s (.s .z .z) .z)))) (.s .z (.s (.s .z (.l 288230376017524486 [1,2,10,27] (.s .z (.s (.s .z .z) (.s (.s .z (.s .z (.s (.s .z (.s (.s .z .z) .z)) (.s (.s .z (.s .z (.s (.s .z .z) .z))) .z)))) .z))))) (.s .z .z))))) H
def C4 (a0 a1 a2 a3:Value)(h:af)(R:Value→af→Prop):Prop:=
 vK (aq a0) λp=>
 vK (ag .i .gtr p (.int .i64 16)) λq=>
 aA q (
 R (.tuple #[(.slice none 0 0),(.int .i64 6)]) h) (
 ae prog qV #[a1,a2,a3] h λr f=>
 vK (unV .not r) λs=>
 aA s (
 R (.tuple #[(.slice none 0 0),(.int .i64 5)]) f) (
 vK (aq a0) λt=>
 aS [a1,a2,(.slice none 0 0),(.int .i64 0)] f λa au b u=>
 vK (ag .i .lss (ix a 3) t) λv=>
 aA v (
 vK (aR 9 a0 (ix a 3)) λw=>
 vK (aH 9 b w) λx=>
 aP #[(.int .i64 0),(.int .i64 0),(.int .i64 0),(.int .i64 0),(.slice none 0 0),(.slice none 0 0),(.int .i64 0),(.int .i64 0),(.int .i64 0)] 230 b λc y=>
 stK 9 c x y λav g=>
 vK (aH 9 g c) λz=>
 ae prog wH #[z,(ix a 0),(ix a 1)] g λj aa=>
 vK (aF j 0) λab=>
 vK (aF j 1) λk=>
 aP #[(.slice none 0 0),(.slice none 0 0),(.int .i64 0),(.int .i64 0),(.int .i64 0)] 56 aa λl ac=>
 stK 5 l ab ac λaw d=>
 vK (ag .i .neq k (.int .i64 0)) λad=>
 aA ad (
 R (.tuple #[(.slice none 0 0),k]) d) (
 vK (aH 9 d c) λah=>
 ae prog wG #[ah,(ix a 0),(ix a 1)] d λm ai=>
 vK (aF m 0) λn=>
 vK (aF m 1) λo=>
 ae prog qV #[n,o,a3] ai λaj e=>
 vK (unV .not aj) λak=>
 aA ak (
 R (.tuple #[(.slice none 0 0),(.int .i64 5)]) e) (
 vK (aH 5 e l) λal=>
 cF #[(.slice none 0 0),(.slice none 0 0),(.int .i64 0),(.int .i64 0),(.int .i64 0)] 56 1 [(0,5,al)] e λam an=>
 cG (.agg #[.slice none 0 0,.slice none 0 0,.int .i64 0,.int .i64 0,.int .i64 0]) 56 5 72 (ix a 2) am an λao ap=>
 vK (ag .i .add (ix a 3) (.int .i64 1)) λar=>
 u [n,o,ao,ar] ap))) (
 R (.tuple #[(ix a 2),(.int .i64 0)]) b)))
theorem MW (H:C4 a0 a1 a2 a3 h R):ae prog zL #[a0,a1,a2,a3] h R:=fk f66 (.s .z (.s (.s .z (.s (.s .z .z) .z)) (.s (.s .z (.s (.s .z .z) .z)) (.s .z (.s (.s .z (.l 72057594004403974 [1,2,10,25] (.s .z (.s (.s .z .z) (.s (.s .z (.s .z (.s (.s .z (.s (.s .z .z) .z)) (.s .z (.s (.s .z (.s (.s .z .z) .z)) .z))))) .z))))) (.s .z .z)))))) H
def Be (a0:Value)(h:af)(R:Value→af→Prop):Prop:=
 vK (aq a0) λe=>
 aS [(.slice none 0 0),(.int .i64 0)] h λa u b f=>
 vK (ag .i .lss (ix a 1) e) λg=>
 aA g (
 vK (aR 9 a0 (ix a 1)) λj=>
 vK (aH 9 b j) λk=>
 aP #[(.int .i64 0),(.int .i64 0),(.int .i64 0),(.int .i64 0),(.slice none 0 0),(.slice none 0 0),(.int .i64 0),(.int .i64 0),(.int .i64 0)] 31 b λc l=>
 stK 9 c k l λv d=>
 vK (aH 9 d c) λm=>
 ae prog zU #[m] d λn o=>
 cF #[(.int .i64 0),(.int .i64 0),(.int .i64 0),(.int .i64 0),(.slice none 0 0),(.slice none 0 0),(.int .i64 0),(.int .i64 0),(.int .i64 0)] 230 1 [(0,9,n)] o λp q=>
 cG (.agg #[.int .i64 0,.int .i64 0,.int .i64 0,.int .i64 0,.slice none 0 0,.slice none 0 0,.int .i64 0,.int .i64 0,.int .i64 0]) 230 9 104 (ix a 0) p q λr s=>
 vK (ag .i .add (ix a 1) (.int .i64 1)) λt=>
 f [r,t] s) (
 R (ix a 0) b)
theorem K2 (H:Be a0 h R):ae prog wU #[a0] h R:=fk f67 (.s .z (.s .z (.s (.s .z (.l 261928 [3,8] (.s .z (.s (.s .z .z) (.s (.s .z .z) .z))))) (.s .z .z)))) H
def yd (a0 a1 a2:Value)(h:af)(R:Value→af→Prop):Prop:=
 vK (ag .i .geq a0 (.int .i64 1)) λc=>
 vK (gV c true (some a0)) λg=>
 vK (gV c true (ag .i .leq g (.int .i64 65536))) λj=>
 vK (az c j (.bool false)) λd=>
 vK (gV d true (some a1)) λk=>
 vK (gV d true (ag .i .geq k (.int .i64 1))) λl=>
 vK (az d l (.bool false)) λe=>
 vK (gV e true (some a1)) λm=>
 vK (gV e true (ag .i .leq m (.int .i64 65536))) λn=>
 vK (az e n (.bool false)) λb=>
 vK (gV b true (some a2)) λo=>
 vK (gV b true (ag .i .eql o (.int .i64 1))) λp=>
 vK (gV b true (some p)) λf=>
 vK (gV f false (some a2)) λq=>
 vK (gV f false (ag .i .eql q (.int .i64 3))) λr=>
 vK (gV b true (az f (.bool true) r)) λs=>
 vK (az b s (.bool false)) λa=>
 vK (gV a true (some a0)) λt=>
 vK (gV a true (some a1)) λu=>
 vK (gV a true (ag .i .mul t u)) λv=>
 vK (gV a true (some a2)) λw=>
 vK (gV a true (ag .i .mul v w)) λx=>
 vK (gV a true (ag .i .leq x (.int .i64 268435456))) λy=>
 vK (az a y (.bool false)) λz=>
 R z h
theorem Iq (H:yd a0 a1 a2 h R):ae prog ku #[a0,a1,a2] h R:=fk f68 (.s .z (.s .z .z)) H
def Df (a0:Value)(h:af)(R:Value→af→Prop):Prop:=
 vK (ag .i .geq a0 (.int .i64 1)) λa=>
 vK (gV a true (some a0)) λb=>
 vK (gV a true (ag .i .leq b (.int .i64 4096))) λc=>
 vK (az a c (.bool false)) λd=>
 R d h
theorem Nb (H:Df a0 h R):ae prog tW #[a0] h R:=fk f69 (.s .z (.s .z .z)) H
def AN (a0:Value)(h:af)(R:Value→af→Prop):Prop:=
 vK (aq a0) λf=>
 aS [(.int .i64 0),(.int .i64 0)] h λa v c e=>
 vK (ag .i .lss (ix a 1) f) λg=>
 aA g (
 vK (aR 2 a0 (ix a 1)) λj=>
 vK (aH 2 c j) λk=>
 aP #[(.int .i64 0),(.slice none 0 0)] 161 c λd l=>
 stK 2 d k l λw b=>
 vK (am 1 d) λm=>
 vK (ldV b m) λn=>
 vK (aq n) λo=>
 vK (ag .i .gtr o (ix a 0)) λp=>
 aA p (
 vK (am 1 d) λq=>
 vK (ldV b q) λr=>
 vK (aq r) λs=>
 vK (ag .i .add (ix a 1) (.int .i64 1)) λt=>
 e [s,t] b) (
 vK (ag .i .add (ix a 1) (.int .i64 1)) λu=>
 e [(ix a 0),u] b)) (
 R (ix a 0) c)
theorem KC (H:AN a0 h R):ae prog wF #[a0] h R:=fk f70 (.s .z (.s .z (.s (.s .z (.l 2096936 [3,8] (.s .z (.s (.s .z .z) (.s (.s .z (.s .z (.s .z .z))) .z))))) (.s .z .z)))) H
def xT (a0 a1 a2:Value)(h:af)(R:Value→af→Prop):Prop:=
 vK (aq a0) λr=>
 aS [(.int .i64 0),(.int .i64 0),(.bool false),(.int .i64 0)] h λa a4 j m=>
 vK (ag .i .lss (ix a 3) r) λs=>
 aA s (
 vK (aR 2 a0 (ix a 3)) λt=>
 vK (aH 2 j t) λu=>
 aP #[(.int .i64 0),(.slice none 0 0)] 161 j λk v=>
 stK 2 k u v λa5 l=>
 vK (ag .i .lss (ix a 3) a1) λd=>
 vK (gV d false (some (ix a 3))) λw=>
 vK (gV d false (some a2)) λx=>
 vK (gV d false (ag .i .geq w x)) λy=>
 vK (az d (.bool true) y) λz=>
 aA z (
 vK (ag .i .add (ix a 3) (.int .i64 1)) λaa=>
 m [(ix a 0),(ix a 1),(ix a 2),aa] l) (
 vK (am 1 k) λab=>
 vK (ldV l ab) λac=>
 vK (aq ac) λad=>
 aS [(ix a 0),(ix a 1),(ix a 2),(.int .i64 0)] l λb a6 e n=>
 vK (ag .i .lss (ix b 3) ad) λae=>
 aA ae (
 vK (am 0 k) λah=>
 vK (ldV e ah) λai=>
 vK (ag .i .add ai (ix b 3)) λf=>
 dE (λo=>
 vK (unV .not (ix b 2)) λg=>
 vK (gV g false (some f)) λaj=>
 vK (gV g false (some (ix b 0))) λak=>
 vK (gV g false (ag .i .lss aj ak)) λal=>
 vK (az g (.bool true) al) λan=>
 aA an (
 o [f] e) (
 o [(ix b 0)] e))
 λp a7 q=>
 vK (unV .not (ix b 2)) λc=>
 vK (gV c false (some f)) λao=>
 vK (gV c false (ag .i .add ao (.int .i64 1))) λap=>
 vK (gV c false (some (ix b 1))) λar=>
 vK (gV c false (ag .i .gtr ap ar)) λau=>
 vK (az c (.bool true) au) λav=>
 aA av (
 vK (ag .i .add f (.int .i64 1)) λaw=>
 vK (ag .i .add (ix b 3) (.int .i64 1)) λax=>
 n [(ix p 0),aw,(.bool true),ax] q) (
 vK (ag .i .add (ix b 3) (.int .i64 1)) λay=>
 n [(ix p 0),(ix b 1),(.bool true),ay] q)) (
 vK (ag .i .add (ix a 3) (.int .i64 1)) λa3=>
 m [(ix b 0),(ix b 1),(ix b 2),a3] e))) (
 R (.tuple #[(ix a 0),(ix a 1),(ix a 2)]) j)
theorem Ig (H:xT a0 a1 a2 h R):ae prog oe #[a0,a1,a2] h R:=fk f71 (.s .z (.s .z (.s .z (.s .z (.s (.s .z (.l 2305843009213496832 [9,10,11,18] (.s .z (.s (.s .z .z) (.s (.s .z (.s (.s .z (.s .z .z)) (.s .z (.l 1152921487427030528 [9,10,11,34] (.s .z (.s (.s .z .z) (.s (.s .z (.s .z (.j 560750930166272 [9] (.s .z (.s .z .z)) (.s (.s .z (.s .z .z)) .z)))) .z))))))) .z))))) (.s .z .z)))))) H
def FB (a0 a1:Value)(h:af)(R:Value→af→Prop):Prop:=
 vK (aq a0) λc=>
 aS [(.int .i64 0)] h λb l a d=>
 vK (ag .i .lss (ix b 0) c) λe=>
 aA e (
 vK (aR 1 a0 (ix b 0)) λf=>
 vK (ldV a f) λg=>
 vK (ag .i .eql g a1) λj=>
 aA j (
 R (.bool true) a) (
 vK (ag .i .add (ix b 0) (.int .i64 1)) λk=>
 d [k] a)) (
 R (.bool false) a)
theorem OM (H:FB a0 a1 h R):ae prog CD #[a0,a1] h R:=fk f72 (.s .z (.s (.s .z (.l 130640 [9] (.s .z (.s (.s .z .z) (.s (.s .z (.s .z (.s (.s .z .z) .z))) .z))))) (.s .z .z))) H
def rK (a0:Value)(h:af)(R:Value→af→Prop):Prop:=
 bD h λS=>
 vK (aK a0) λc=>
 vK (am 0 c) λd=>
 vK (am 1 d) λe=>
 qK S (λh=>ldV h e) λf=>
 vK (aK a0) λg=>
 vK (am 4 g) λj=>
 qK S (λh=>ldV h j) λk=>
 ae prog fH #[a0] h λl a=>
 S a∧(ae prog bF #[f] a λm b=>
 S b∧(ae prog q8 #[m,k] b λn o=>
 vK (ag .i .mul l n) λp=>
 R p o))
theorem BY (H:rK a0 h R):ae prog dk #[a0] h R:=fk f73 (.s .z (.s (.d (.op 0 .r (.op 2 .r (.op 3 .r (.op 4 .r (.op 5 .r (.op 6 .r (.op 8 .r (.op 9 .r (.op 10 .r (.op 11 .r (.op 1 .e (.op 7 .e (.op 12 .n (.op 13 .r (.op 14 .r .nil)))))))))))))))) .z)) H
def uY (a0 a1:Value)(h:af)(R:Value→af→Prop):Prop:=
 aP #[(.int .i64 0),(.int .i64 0),(.int .i64 0),(.int .i64 0)] 63 h λe b=>
 bD b λS=>
 vK (aK a0) λl=>
 vK (am 3 l) λm=>
 qK S (λb=>ldV b m) λn=>
 vK (aK a0) λo=>
 vK (am 4 o) λp=>
 qK S (λb=>ldV b p) λq=>
 ae prog fH #[a0] b λr f=>
 S f∧(vK (ag .i .rem a1 r) λs=>
 vK (ag .i .mul s n) λg=>
 ae prog fH #[a0] f λt a=>
 S a∧(vK (ag .i .quo a1 t) λu=>
 vK (ag .i .mul u q) λj=>
 bD a λS=>
 vK (aK a0) λv=>
 vK (am 3 v) λw=>
 qK S (λa=>ldV a w) λx=>
 vK (aK a0) λy=>
 vK (am 0 y) λz=>
 vK (am 0 z) λaa=>
 qK S (λa=>ldV a aa) λab=>
 vK (aK a0) λac=>
 vK (am 4 ac) λad=>
 qK S (λa=>ldV a ad) λah=>
 vK (aK a0) λai=>
 vK (am 0 ai) λaj=>
 vK (am 1 aj) λak=>
 qK S (λa=>ldV a ak) λal=>
 ae prog bF #[ab] a λan c=>
 S c∧(vK (ag .i .sub an g) λao=>
 qK S (λc=>pA x ao) λap=>
 ae prog bF #[al] c λaq d=>
 S d∧(vK (ag .i .sub aq j) λar=>
 qK S (λd=>pA ah ar) λau=>
 vK ((aE #[(.int .i64 0),(.int .i64 0),(.int .i64 0),(.int .i64 0)] [(0,1,g),(1,1,j),(2,1,ap),(3,1,au)]).map .agg) λav=>
 stK 4 e av d λax k=>
 vK (aH 4 k e) λaw=>
 R aw k))))
theorem ER (H:uY a0 a1 h R):ae prog kL #[a0,a1] h R:=fk f74 (.s .z (.s (.d (.op 0 .r (.op 1 .r (.op 4 .r (.op 5 .r (.op 6 .r (.op 7 .r (.op 9 .r (.op 10 .r (.op 13 .r (.op 14 .r (.op 15 .r (.op 16 .r (.op 2 .e (.op 3 .r (.op 8 .r (.op 11 .e (.op 12 .r (.op 17 .r (.op 18 .r (.op 19 .r .nil))))))))))))))))))))) (.s (.d (.op 0 .r (.op 1 .r (.op 2 .r (.op 3 .r (.op 4 .r (.op 5 .r (.op 6 .r (.op 7 .r (.op 8 .r (.op 9 .r (.op 10 .r (.op 12 .r (.op 15 .r (.op 16 .r (.op 17 .r (.op 18 .r (.op 19 .r (.op 20 .r (.op 21 .r (.op 22 .r (.op 23 .r (.op 25 .r (.op 11 .e (.op 13 .r (.op 14 .r (.op 24 .e (.op 26 .r (.op 27 .r (.op 28 .r (.op 29 .n .nil))))))))))))))))))))))))))))))) .z))) H
def qi (a0:Value)(h:af)(R:Value→af→Prop):Prop:=
 vK (aK a0) λa=>
 vK (am 2 a) λb=>
 vK (ldV h b) λc=>
 R c h
theorem Au (H:qi a0 h R):ae prog eF #[a0] h R:=fk f75 (.s .z (.s .z .z)) H
def oN (a0 a1 a2:Value)(h:af)(R:Value→af→Prop):Prop:=
 vK (iG a1 (.int .i64 0)) λd=>
 vK (aK a0) λk=>
 vK (am 1 k) λl=>
 vK (ldV h l) λm=>
 vK (aq m) λn=>
 vK (pA a2 n) λf=>
 vK (ag .i .geq d f) λo=>
 aA o (
 R (.tuple #[(.int .i64 0),(.int .i64 0)]) h) (
 vK (aK a0) λp=>
 vK (am 1 p) λq=>
 vK (ldV h q) λr=>
 vK (aR 2 r d) λs=>
 vK (am 0 s) λt=>
 vK (ldV h t) λg=>
 vK (aK a0) λu=>
 vK (am 1 u) λv=>
 vK (ldV h v) λw=>
 vK (ue 2 w (some d) (some f)) λj=>
 vK (aq j) λx=>
 aS [g,g,(.int .i64 0)] h λa av e y=>
 vK (ag .i .lss (ix a 2) x) λz=>
 aA z (
 vK (aR 2 j (ix a 2)) λaa=>
 vK (aH 2 e aa) λab=>
 aP #[(.int .i64 0),(.slice none 0 0)] 235 e λb ac=>
 stK 2 b ab ac λaw c=>
 vK (am 0 b) λad=>
 vK (ldV c ad) λae=>
 vK (pA (ix a 0) ae) λah=>
 vK (am 0 b) λai=>
 vK (ldV c ai) λaj=>
 vK (am 1 b) λak=>
 vK (ldV c ak) λal=>
 vK (aq al) λan=>
 vK (ag .i .add aj an) λao=>
 vK (iG (ix a 1) ao) λap=>
 vK (ag .i .add (ix a 2) (.int .i64 1)) λar=>
 y [ah,ap,ar] c) (
 vK (ag .i .sub (ix a 1) (ix a 0)) λau=>
 R (.tuple #[(ix a 0),au]) e))
theorem yP (H:oN a0 a1 a2 h R):ae prog fF #[a0,a1,a2] h R:=fk f76 (.s .z (.s .z (.s (.s .z (.s (.s .z .z) .z)) (.s .z (.s .z (.s (.s .z (.l 144114088564229440 [6,8,40] (.s .z (.s (.s .z .z) (.s (.s .z (.s .z .z)) .z))))) (.s .z .z))))))) H
def w8 (a0 a1 a2:Value)(h:af)(R:Value→af→Prop):Prop:=
 aP (Value.cells a2) 46 h λl a=>
 bD a λS=>
 vK (ag .p .neq a0 (.pointer none)) λm=>
 vK (gV m true (some a1)) λu=>
 vK (gV m true (ag .p .neq u (.pointer none))) λv=>
 vK (az m v (.bool false)) λj=>
 vK (gV j true (some a0)) λw=>
 vK (gV j true (some a1)) λx=>
 qK S (λa=>gV j true (peV a .neq w x)) λy=>
 vK (az j y (.bool false)) λk=>
 vK (gV k true (some a0)) λz=>
 qK S (λa=>gV k true (aH 3 a l)) λaa=>
 gK k true (λab=>ae prog ij #[z,aa] a ab) a λac f=>
 bD f λS=>
 vK (az k ac (.bool false)) λb=>
 vK (gV b true (some a1)) λad=>
 vK (gV b true (am 0 l)) λah=>
 qK S (λf=>gV b true (ldV f ah)) λai=>
 gK b true (λaj=>ae prog bE #[ad] f aj) f λak n=>
 S n∧(gK b true (λal=>ae prog bF #[ai] n al) n λan g=>
 bD g λS=>
 vK (gV b true (ag .i .eql ak an)) λao=>
 vK (az b ao (.bool false)) λc=>
 vK (gV c true (some a1)) λap=>
 vK (gV c true (am 1 l)) λaq=>
 qK S (λg=>gV c true (ldV g aq)) λar=>
 gK c true (λau=>ae prog bG #[ap] g au) g λav o=>
 S o∧(gK c true (λaw=>ae prog bF #[ar] o aw) o λax q=>
 vK (gV c true (ag .i .eql av ax)) λay=>
 vK (az c ay (.bool false)) λd=>
 vK (gV d true (some a1)) λa3=>
 vK (gV d true (some a0)) λa4=>
 gK d true (λa5=>ae prog aO #[a3] q a5) q λa6 r=>
 gK d true (λa7=>ae prog aO #[a4] r a7) r λa8 s=>
 vK (gV d true (ag .i .eql a6 a8)) λa9=>
 vK (az d a9 (.bool false)) λe=>
 vK (gV e true (some a1)) λba=>
 vK (gV e true (some a0)) λbb=>
 gK e true (λbc=>ae prog co #[ba] s bc) s λbd t=>
 gK e true (λbe=>ae prog co #[bb] t be) t λbf bg=>
 vK (gV e true (ag .i .eql bd bf)) λbh=>
 vK (az e bh (.bool false)) λbi=>
 R bi bg))
theorem Gm (H:w8 a0 a1 a2 h R):ae prog sw #[a0,a1,a2] h R:=fk f77 (.s .z (.s (.d (.op 0 .r (.op 1 .r (.op 2 .r (.op 3 .r (.op 4 .r (.op 5 .r (.op 6 .r (.op 7 .r (.op 8 .r (.op 9 .r (.op 10 .r (.op 11 .r (.op 12 .r (.op 13 .r (.op 14 .f (.op 15 .r (.op 16 .r (.op 17 .r (.op 19 .r (.op 20 .r (.op 18 .e (.op 21 .f (.op 22 .r (.op 23 .r (.op 24 .r (.op 25 .r (.op 27 .r (.op 28 .r (.op 26 .e (.op 29 .n (.op 30 .r (.op 31 .r (.op 32 .r (.op 33 .r (.op 35 .r (.op 34 .n (.op 36 .n (.op 37 .r (.op 38 .r (.op 39 .r (.op 40 .r (.op 42 .r (.op 41 .n (.op 43 .n (.op 44 .r (.op 45 .r (.op 46 .r .nil)))))))))))))))))))))))))))))))))))))))))))))))) .z)) H
def uP (a0 a1:Value)(h:af)(R:Value→af→Prop):Prop:=
 aP (Value.cells a0) 46 h λl t=>
 aP (Value.cells a1) 63 t λb a=>
 bD a λS=>
 vK (am 0 l) λu=>
 qK S (λa=>ldV a u) λv=>
 vK (ag .p .neq v (.pointer none)) λm=>
 vK (gV m true (am 1 l)) λw=>
 qK S (λa=>gV m true (ldV a w)) λx=>
 vK (gV m true (ag .p .neq x (.pointer none))) λy=>
 vK (az m y (.bool false)) λn=>
 vK (gV n true (am 2 b)) λz=>
 qK S (λa=>gV n true (ldV a z)) λaa=>
 vK (gV n true (ag .i .geq aa (.int .i64 1))) λab=>
 vK (az n ab (.bool false)) λo=>
 vK (gV o true (am 3 b)) λac=>
 qK S (λa=>gV o true (ldV a ac)) λad=>
 vK (gV o true (ag .i .geq ad (.int .i64 1))) λah=>
 vK (az o ah (.bool false)) λq=>
 vK (gV q true (am 0 b)) λai=>
 qK S (λa=>gV q true (ldV a ai)) λaj=>
 vK (gV q true (ag .i .geq aj (.int .i64 0))) λak=>
 vK (az q ak (.bool false)) λr=>
 vK (gV r true (am 1 b)) λal=>
 qK S (λa=>gV r true (ldV a al)) λan=>
 vK (gV r true (ag .i .geq an (.int .i64 0))) λao=>
 vK (az r ao (.bool false)) λg=>
 vK (gV g true (am 0 b)) λap=>
 qK S (λa=>gV g true (ldV a ap)) λaq=>
 vK (gV g true (am 0 l)) λar=>
 qK S (λa=>gV g true (ldV a ar)) λau=>
 gK g true (λav=>ae prog bF #[au] a av) a λaw j=>
 S j∧(vK (gV g true (ag .i .lss aq aw)) λax=>
 vK (az g ax (.bool false)) λk=>
 vK (gV k true (am 1 b)) λay=>
 qK S (λj=>gV k true (ldV j ay)) λa2=>
 vK (gV k true (am 1 l)) λa3=>
 qK S (λj=>gV k true (ldV j a3)) λa4=>
 gK k true (λa5=>ae prog bF #[a4] j a5) j λa6 e=>
 S e∧(vK (gV k true (ag .i .lss a2 a6)) λa7=>
 vK (az k a7 (.bool false)) λc=>
 vK (gV c true (am 2 b)) λa8=>
 qK S (λe=>gV c true (ldV e a8)) λa9=>
 vK (gV c true (am 0 l)) λba=>
 qK S (λe=>gV c true (ldV e ba)) λbb=>
 vK (gV c true (am 0 b)) λbc=>
 qK S (λe=>gV c true (ldV e bc)) λbd=>
 gK c true (λbe=>ae prog bF #[bb] e be) e λbf f=>
 S f∧(vK (gV c true (ag .i .sub bf bd)) λbg=>
 vK (gV c true (ag .i .leq a9 bg)) λbh=>
 vK (az c bh (.bool false)) λd=>
 vK (gV d true (am 3 b)) λbi=>
 qK S (λf=>gV d true (ldV f bi)) λbj=>
 vK (gV d true (am 1 l)) λbk=>
 qK S (λf=>gV d true (ldV f bk)) λbl=>
 vK (gV d true (am 1 b)) λbm=>
 qK S (λf=>gV d true (ldV f bm)) λbn=>
 gK d true (λbo=>ae prog bF #[bl] f bo) f λbp s=>
 S s∧(vK (gV d true (ag .i .sub bp bn)) λbq=>
 vK (gV d true (ag .i .leq bj bq)) λbr=>
 vK (az d br (.bool false)) λbs=>
 R bs s))))
theorem EH (H:uP a0 a1 h R):ae prog kH #[a0,a1] h R:=fk f78 (.s .z (.s (.d (.op 0 .r (.op 1 .r (.op 2 .r (.op 3 .r (.op 4 .r (.op 5 .r (.op 6 .r (.op 7 .r (.op 8 .r (.op 9 .r (.op 10 .r (.op 11 .r (.op 12 .r (.op 13 .r (.op 14 .r (.op 15 .r (.op 16 .r (.op 17 .r (.op 18 .r (.op 19 .r (.op 20 .r (.op 21 .r (.op 22 .r (.op 23 .r (.op 24 .r (.op 25 .r (.op 26 .r (.op 27 .r (.op 28 .r (.op 29 .r (.op 30 .r (.op 31 .r (.op 32 .r (.op 33 .e (.op 34 .r (.op 35 .r (.op 36 .r (.op 37 .r (.op 38 .r (.op 39 .r (.op 40 .r (.op 41 .e (.op 42 .r (.op 43 .r (.op 44 .r (.op 45 .r (.op 46 .r (.op 47 .r (.op 48 .r (.op 50 .r (.op 51 .r (.op 49 .e (.op 52 .r (.op 53 .r (.op 54 .r (.op 55 .r (.op 56 .r (.op 57 .r (.op 58 .r (.op 59 .r (.op 61 .r (.op 62 .r (.op 60 .e (.op 63 .r (.op 64 .r (.op 65 .r (.op 66 .r .nil)))))))))))))))))))))))))))))))))))))))))))))))))))))))))))))))))))) .z)) H
def FA (a0 a1:Value)(h:af)(R:Value→af→Prop):Prop:=
 vK (iG (.int .i64 1) a0) λa=>
 vK (pA a (.int .i64 65536)) λb=>
 vK (iG (.int .i64 0) a1) λc=>
 vK (pA c (.int .i64 262144)) λd=>
 R9 h λe f=>
 vK ((aE #[(.int .i64 0),(.int .i64 0),(.map none),(.slice none 0 0)] [(0,1,b),(1,1,d),(2,1,e)]).map .agg) λg=>
 aP (Value.cells g) 239 f λi j=>
 R i j
theorem OL (H:FA a0 a1 h R):ae prog CB #[a0,a1] h R:=fk f79 (.s .z (.s .z .z)) H
def lK (a0:Value)(h:af)(R:Value→af→Prop):Prop:=
 vK (aK a0) λb=>
 vK (am 2 b) λc=>
 vK (ldV h c) λa=>
 vK (gV a false (some a0)) λd=>
 vK (gV a false (aK d)) λe=>
 vK (gV a false (am 1 e)) λf=>
 vK (gV a false (ldV h f)) λg=>
 vK (gV a false (aq g)) λj=>
 vK (gV a false (some a0)) λk=>
 vK (gV a false (aK k)) λl=>
 vK (gV a false (am 0 l)) λm=>
 vK (gV a false (ldV h m)) λn=>
 vK (gV a false (ag .i .lss j n)) λo=>
 vK (az a (.bool true) o) λp=>
 R p h
theorem vZ (H:lK a0 h R):ae prog gh #[a0] h R:=fk f80 (.s .z (.s .z .z)) H
def jY (a0:Value)(h:af)(R:Value→af→Prop):Prop:=
 vK (aK a0) λb=>
 vK (am 2 b) λc=>
 vK (ldV h c) λa=>
 vK (gV a false (some a0)) λd=>
 vK (gV a false (aK d)) λe=>
 vK (gV a false (am 1 e)) λf=>
 vK (gV a false (ldV h f)) λg=>
 vK (gV a false (aq g)) λj=>
 vK (gV a false (ag .i .gtr j (.int .i64 0))) λk=>
 vK (az a (.bool true) k) λl=>
 R l h
theorem sQ (H:jY a0 h R):ae prog gM #[a0] h R:=fk f82 (.s .z (.s .z .z)) H
def rn (a0:Value)(h:af)(R:Value→af→Prop):Prop:=
 aP #[(.int .i64 0),(.int .i64 0)] 97 h λa l=>
 ae prog gv #[a0] l λm n=>
 aP #[(.int .i64 0),(.int .i64 0)] 97 n λb o=>
 stK 2 b m o λaa c=>
 vK (am 0 b) λp=>
 vK (ldV c p) λd=>
 vK (ag .i .eql d (.int .i64 1)) λq=>
 aA q (
 vK (am 1 b) λr=>
 vK (ldV c r) λs=>
 ae prog kc #[a0,s] c λab e=>
 vK (aH 2 e b) λt=>
 stK 2 a t e λac f=>
 vK (aH 2 f a) λu=>
 R u f) (
 vK (ag .i .eql d (.int .i64 2)) λv=>
 aA v (
 ae prog kU #[a0] c λad g=>
 vK (aH 2 g b) λw=>
 stK 2 a w g λah j=>
 vK (aH 2 j a) λx=>
 R x j) (
 vK (aH 2 c b) λy=>
 stK 2 a y c λai k=>
 vK (aH 2 k a) λz=>
 R z k))
theorem BK (H:rn a0 h R):ae prog fm #[a0] h R:=fk f83 (.s .z (.s .z (.s (.s .z (.s .z (.s .z (.s .z (.s .z .z))))) (.s .z .z)))) H
def kX (a0:Value)(h:af)(R:Value→af→Prop):Prop:=
 vK (aK a0) λd=>
 vK (am 0 d) λe=>
 stK 1 e (.int .i64 1) h λaa b=>
 vK (aK a0) λf=>
 vK (am 2 f) λg=>
 vK (ldV b g) λj=>
 vK (ag .p .eql j (.pointer none)) λa=>
 vK (gV a false (some a0)) λk=>
 vK (gV a false (aK k)) λl=>
 vK (gV a false (am 2 l)) λm=>
 vK (gV a false (ldV b m)) λn=>
 gK a false (λo=>ae prog gv #[n] b o) b λq c=>
 vK (gV a false (mT false 1 0 q)) λr=>
 vK (gV a false (ag .i .eql r (.int .i64 0))) λs=>
 vK (az a (.bool true) s) λt=>
 aA t (
 vK (aK a0) λu=>
 vK (am 0 u) λv=>
 stK 1 v (.int .i64 0) c λab w=>
 vK (aK a0) λx=>
 vK (am 2 x) λy=>
 stK 1 y (.pointer none) w λac z=>
 R (.tuple #[]) z) (
 R (.tuple #[]) c)
theorem vl (H:kX a0 h R):ae prog da #[a0] h R:=fk f84 (.s .z (.s .z (.s .z .z))) H
def lJ (a0:Value)(h:af)(R:Value→af→Prop):Prop:=
 vK (aK a0) λa=>
 vK (am 1 a) λb=>
 vK (ldV h b) λc=>
 vK (aq c) λd=>
 vK (ag .i .gtr d (.int .i64 0)) λe=>
 aA e (
 vK (aK a0) λf=>
 vK (am 1 f) λg=>
 vK (ldV h g) λj=>
 vK (aR 1 j (.int .i64 0)) λk=>
 vK (ldV h k) λl=>
 vK (aK a0) λm=>
 vK (am 1 m) λn=>
 vK (ldV h n) λo=>
 ae prog jE #[o,(.int .i64 0),(.int .i64 1)] h λp q=>
 vK (aK a0) λr=>
 vK (am 1 r) λs=>
 stK 1 s p q λx t=>
 R (.tuple #[l,(.int .i64 0)]) t) (
 vK (aK a0) λu=>
 vK (am 2 u) λv=>
 vK (ldV h v) λw=>
 aA w (
 R (.tuple #[(.int .i64 0),(.int .i64 2)]) h) (
 R (.tuple #[(.int .i64 0),(.int .i64 1)]) h))
theorem vY (H:lJ a0 h R):ae prog jc #[a0] h R:=fk f85 (.s .z (.s (.s .z (.s (.s .z (.s .z (.s .z .z))) (.s .z (.s (.s .z .z) .z)))) (.s .z .z))) H
def mI (a0 a1 a2:Value)(h:af)(R:Value→af→Prop):Prop:=
 aP #[(.int .i64 0),(.int .i64 0),(.int .i64 0),(.int .i64 0)] 99 h λb d=>
 vK (aK a0) λk=>
 vK (am 1 k) λl=>
 vK (ldV d l) λm=>
 cF #[(.int .i64 0)] 3 1 [(0,1,a1)] d λn o=>
 cG (.int .i64 0) 3 1 8 m n o λq r=>
 vK (aK a0) λs=>
 vK (am 1 s) λt=>
 stK 1 t q r λa4 e=>
 dE (λg=>
 vK (ag .f .neq a2 .nilFunc) λu=>
 aA u (
 clK prog a2 #[a1] e λv w=>
 vK (aK a0) λx=>
 vK (am 2 x) λy=>
 stK 1 y v w λa5 z=>
 g [] z) (
 g [] e))
 λa6 a7 a=>
 vK (aK a0) λaa=>
 vK (am 2 aa) λab=>
 vK (ldV a ab) λac=>
 vK (ag .p .neq ac (.pointer none)) λad=>
 aA ad (
 bD a λS=>
 vK (aK a0) λah=>
 vK (am 3 ah) λai=>
 qK S (λa=>ldV a ai) λaj=>
 vK (aK a0) λak=>
 vK (am 2 ak) λal=>
 qK S (λa=>ldV a al) λan=>
 ae prog iL #[an] a λao c=>
 S c∧(qK S (λc=>iG aj ao) λap=>
 vK (aK a0) λaq=>
 vK (am 3 aq) λar=>
 stK 1 ar ap c λa8 au=>
 ae prog da #[a0] au λa9 av=>
 vK ((aE #[(.int .i64 0),(.int .i64 0),(.int .i64 0),(.int .i64 0)] [(0,1,(.int .i64 1)),(1,1,a1)]).map .agg) λaw=>
 stK 4 b aw av λba i=>
 vK (aH 4 i b) λax=>
 R ax i)) (
 ae prog da #[a0] a λbb ay=>
 vK ((aE #[(.int .i64 0),(.int .i64 0),(.int .i64 0),(.int .i64 0)] [(0,1,(.int .i64 1)),(1,1,a1)]).map .agg) λaz=>
 stK 4 b az ay λbc j=>
 vK (aH 4 j b) λa3=>
 R a3 j)
theorem xC (H:mI a0 a1 a2 h R):ae prog jC #[a0,a1,a2] h R:=fk f86 (.s .z (.s .z (.j 33423360 [] (.s .z (.s .z .z)) (.s (.s .z (.s (.d (.op 0 .r (.op 1 .r (.op 2 .r (.op 3 .r (.op 4 .r (.op 5 .r (.op 6 .r (.op 7 .r (.op 8 .r (.op 9 .e (.op 10 .r (.op 11 .r (.op 12 .r (.op 13 .n .nil))))))))))))))) .z)) (.s .z (.s .z .z)))))) H
def Dc (a0 a1 a2 a3 a4:Value)(h:af)(R:Value→af→Prop):Prop:=
 ae prog gA #[a0,a1,a2,a3] h λd a=>
 vK (aF d 0) λb=>
 vK (aF d 1) λe=>
 vK (ag .i .neq e (.int .i64 0)) λf=>
 aA f (
 R (.tuple #[(.pointer none),e]) a) (
 vK (aq a4) λg=>
 vK (aK b) λj=>
 vK (am 4 j) λk=>
 vK (ldV a k) λl=>
 vK (aq l) λm=>
 vK (ag .i .neq g m) λn=>
 aA n (
 R (.tuple #[(.pointer none),(.int .i64 2)]) a) (
 ae prog fb #[a4] a λo c=>
 vK (dY .i64 o) λp=>
 vK (ag .i .gtr p a3) λq=>
 aA q (
 R (.tuple #[(.pointer none),(.int .i64 4)]) c) (
 vK (aK b) λr=>
 vK (am 4 r) λs=>
 vK (ldV c s) λt=>
 Cn 1 t a4 c λv u=>
 R (.tuple #[b,(.int .i64 0)]) u)))
theorem M8 (H:Dc a0 a1 a2 a3 a4 h R):ae prog pL #[a0,a1,a2,a3,a4] h R:=fk f88 (.s .z (.s .z (.s (.s .z (.s (.s .z .z) (.s .z (.s (.s .z .z) (.s .z (.s (.s .z .z) .z)))))) (.s .z (.s .z .z))))) H
def Hj (a0 a1 a2:Value)(h:af)(R:Value→af→Prop):Prop:=
 aP (Value.cells a0) 31 h λd q=>
 aP #[(.pointer none),(.pointer none),(.int .i64 0)] 46 q λa j=>
 vK (aH 9 j d) λr=>
 ae prog Kn #[r] j λs k=>
 vK (unV .not s) λb=>
 vK (gV b false (some a1)) λt=>
 gK b false (λu=>ae prog rh #[t] k u) k λv l=>
 vK (gV b false (unV .not v)) λw=>
 vK (az b (.bool true) w) λc=>
 vK (gV c false (some a2)) λx=>
 gK c false (λy=>ae prog rh #[x] l y) l λz e=>
 vK (gV c false (unV .not z)) λaa=>
 vK (az c (.bool true) aa) λab=>
 aA ab (
 vK ((aE #[(.pointer none),(.pointer none),(.int .i64 0)] []).map .agg) λac=>
 stK 3 a ac e λau m=>
 vK (aH 3 m a) λad=>
 R (.tuple #[ad,(.int .i64 6)]) m) (
 vK (aH 9 e d) λah=>
 ae prog zS #[ah,a1,a2] e λf g=>
 vK (aF f 0) λai=>
 vK (aF f 1) λaj=>
 vK (aF f 2) λn=>
 vK (ag .i .neq n (.int .i64 0)) λak=>
 aA ak (
 vK ((aE #[(.pointer none),(.pointer none),(.int .i64 0)] []).map .agg) λal=>
 stK 3 a al g λav o=>
 vK (aH 3 o a) λan=>
 R (.tuple #[an,n]) o) (
 vK (am 1 d) λao=>
 vK (ldV g ao) λap=>
 vK ((aE #[(.pointer none),(.pointer none),(.int .i64 0)] [(0,1,ai),(1,1,aj),(2,1,ap)]).map .agg) λaq=>
 stK 3 a aq g λaw p=>
 vK (aH 3 p a) λar=>
 R (.tuple #[ar,(.int .i64 0)]) p))
theorem QN (H:Hj a0 a1 a2 h R):ae prog lB #[a0,a1,a2] h R:=fk f89 (.s .z (.s (.s .z (.s (.s .z .z) .z)) (.s .z (.s (.s .z (.s (.s .z .z) .z)) (.s .z .z))))) H
def yl (h:af)(R:Value→af→Prop):Prop:=
 cF #[(.int .i64 0),(.int .i64 0)] 3 2 [(0,1,(.int .i64 1)),(1,1,(.int .i64 0))] h λf g=>
 vK ((aE #[(.int .i64 0),(.slice none 0 0),(.int .i64 0),(.int .i64 0),(.int .i64 0),(.bool false)] [(1,1,f),(3,1,(.int .i64 3)),(4,1,(.int .i64 4)),(5,1,(.bool true))]).map .agg) λi=>
 aP #[(.int .i64 0),(.slice none 0 0),(.int .i64 0),(.int .i64 0),(.int .i64 0),(.bool false)] 211 g λc j=>
 stK 6 c i j λx k=>
 cF #[(.int .i64 0),(.int .i64 0)] 3 2 [(0,1,(.int .i64 0)),(1,1,(.int .i64 1))] k λl m=>
 vK ((aE #[(.int .i64 0),(.slice none 0 0),(.int .i64 0),(.int .i64 0),(.int .i64 0),(.bool false)] [(0,1,(.int .i64 1)),(1,1,l),(3,1,(.int .i64 2)),(4,1,(.int .i64 9)),(5,1,(.bool true))]).map .agg) λn=>
 aP #[(.int .i64 0),(.slice none 0 0),(.int .i64 0),(.int .i64 0),(.int .i64 0),(.bool false)] 211 m λd o=>
 stK 6 d n o λy e=>
 vK (aH 6 e c) λp=>
 vK (aH 6 e d) λq=>
 ae prog oB #[p,q] e λa b=>
 vK (gV a true (aH 6 b d)) λr=>
 vK (gV a true (aH 6 b c)) λs=>
 gK a true (λt=>ae prog oB #[r,s] b t) b λu v=>
 vK (az a u (.bool false)) λw=>
 R w v
theorem Iy (H:yl h R):ae prog uD #[] h R:=fk f90 (.s .z (.s .z (.s .z (.s .z .z)))) H
def rE (a0 a1 a2 a3:Value)(h:af)(R:Value→af→Prop):Prop:=
 ae prog gB #[a0,a1,a2,a3] h λb a=>
 vK (ag .i .geq b (.int .i64 0)) λc=>
 aA c (
 vK (aK a0) λd=>
 vK (am 4 d) λe=>
 vK (ldV a e) λf=>
 vK (aR 1 f b) λg=>
 vK (ldV a g) λj=>
 R j a) (
 R (.int .u16 0) a)
theorem BT (H:rE a0 a1 a2 a3 h R):ae prog fo #[a0,a1,a2,a3] h R:=fk f91 (.s .z (.s (.s .z (.s .z (.s (.s .z .z) .z))) (.s .z .z))) H
def CW (a0 a1 a2 a3 a4 a5:Value)(h:af)(R:Value→af→Prop):Prop:=
 aP (Value.cells a0) 56 h λc bs=>
 aP aD 110 bs λt b=>
 dE (λbt=>
 bD b λS=>
 qK S (λb=>aH 5 b c) λu=>
 qK S (λb=>aH 5 b c) λg=>
 vK (ag .i .add a4 (.int .i64 1)) λj=>
 (λC21:Value→Value→af→Prop=>
 (λC29:Value→Value→Value→Value→Value→af→Prop=>
 (λC38:Value→Value→Value→Value→af→Prop=>
 (λC46:Value→Value→Value→Value→af→Prop=>
 (λC54:Value→Value→Value→Value→af→Prop=>
 (λC63:Value→Value→Value→af→Prop=>
 (λC72:Value→Value→Value→af→Prop=>
 (λC79:Value→Value→Value→af→Prop=>
 (λC87:Value→Value→af→Prop=>
 (λC95:Value→Value→af→Prop=>
 (λC101:Value→Value→af→Prop=>
 (ae prog jH #[g,a2,a3] b λd k=>
 S k∧((ae prog jG #[a5] k λl m=>
 S m∧((ae prog jF #[j] m λv o=>
 S o∧((mkK (.agg #[.int .i64 0,.slice none 0 0,.slice none 0 0]) 81 3 56 a4 a4 o λbu w=>
 S w∧(C38 d l v bu w))∧(aP aD 110 o λbv x=>
 S x∧(C46 d l v bv x))))∧((mkK (.agg #[.int .i64 0,.slice none 0 0,.slice none 0 0]) 81 3 56 a4 a4 m λbw y=>
 S y∧(C63 d l bw y))∧(aP aD 110 m λbx z=>
 S z∧(C72 d l bx z)))))∧((mkK (.agg #[.int .i64 0,.slice none 0 0,.slice none 0 0]) 81 3 56 a4 a4 k λbz aa=>
 S aa∧(C87 d bz aa))∧(aP aD 110 k λb0 ab=>
 S ab∧(C95 d b0 ab)))))∧((mkK (.agg #[.int .i64 0,.slice none 0 0,.slice none 0 0]) 81 3 56 a4 a4 b λac p=>
 S p∧((ae prog jH #[g,a2,a3] p λb1 ad=>
 S ad∧(C87 b1 ac ad))∧(aP aD 110 p λb2 ah=>
 S ah∧(C101 ac b2 ah))))∧(aP aD 110 b λai q=>
 S q∧((ae prog jH #[g,a2,a3] q λb3 aj=>
 S aj∧(C95 b3 ai aj))∧(mkK (.agg #[.int .i64 0,.slice none 0 0,.slice none 0 0]) 81 3 56 a4 a4 q λb4 ak=>
 S ak∧(C101 b4 ai ak)))))) (λb5 b6 b7=>
 ae prog jH #[g,a2,a3] b7 λb8 al=>
 S al∧(C79 b8 b5 b6 al))) (λan ao ap=>
 (ae prog jG #[a5] ap λb9 ar=>
 S ar∧(C72 an b9 ao ar))∧(mkK (.agg #[.int .i64 0,.slice none 0 0,.slice none 0 0]) 81 3 56 a4 a4 ap λca au=>
 S au∧(C79 an ca ao au)))) (λav aw ax=>
 (ae prog jG #[a5] ax λcb ay=>
 S ay∧(C63 av cb aw ay))∧(aP aD 110 ax λcc az=>
 S az∧(C79 av aw cc az)))) (λcd ce cf cg=>
 ae prog jG #[a5] cg λch a6=>
 S a6∧(C54 cd ch ce cf a6))) (λa7 a8 a9 ba=>
 (ae prog jF #[j] ba λci bb=>
 S bb∧(C46 a7 a8 ci a9 bb))∧(mkK (.agg #[.int .i64 0,.slice none 0 0,.slice none 0 0]) 81 3 56 a4 a4 ba λcj bc=>
 S bc∧(C54 a7 a8 cj a9 bc)))) (λbd be bf bg=>
 (ae prog jF #[j] bg λck bh=>
 S bh∧(C38 bd be ck bf bh))∧(aP aD 110 bg λcl bi=>
 S bi∧(C54 bd be bf cl bi)))) (λcm cn co cp cq=>
 ae prog jF #[j] cq λcr bj=>
 S bj∧(C29 cm cn cr co cp bj))) (λcs ct cu cv cw=>
 mkK (.agg #[.int .i64 0,.slice none 0 0,.slice none 0 0]) 81 3 56 a4 a4 cw λcx bk=>
 S bk∧(C29 cs ct cu cx cv bk))) (λcy cz c0 c1 c2=>
 vK ((aE aD [(0,5,u),(5,1,a1),(6,1,cy),(8,3,cz),(11,1,c0),(12,1,c1)]).map .agg) λc3=>
 aP aD 110 c2 λc4 bl=>
 S bl∧(C21 c3 c4 bl))) (λc5 c6 c7 c8 c9 da=>
 vK ((aE aD [(0,5,u),(5,1,a1),(6,1,c5),(8,3,c6),(11,1,c7),(12,1,c8)]).map .agg) λdb=>
 C21 db c9 da)) (λdc bm dd=>
 stK 20 bm dc dd λem de=>
 bt [bm] de))
 λe en bn=>
 vK (am 6 (ix e 0)) λdf=>
 vK (ldV bn df) λbo=>
 vK (aq bo) λdg=>
 aS [(.int .i64 0)] bn λr eo f dh=>
 vK (ag .i .lss (ix r 0) dg) λdi=>
 aA di (
 vK (aR 10 bo (ix r 0)) λdj=>
 vK (aH 10 f dj) λdk=>
 aP #[(.int .i64 0),(.int .i64 0),(.int .i64 0),(.int .i64 0),(.int .i64 0),(.int .i64 0),(.int .i64 0),(.int .i64 0),(.int .i64 0),(.int .i64 0)] 58 f λs dl=>
 stK 10 s dk dl λep a=>
 bD a λS=>
 vK (am 7 (ix e 0)) λdm=>
 qK S (λa=>ldV a dm) λdn=>
 qK S (λa=>aH 5 a c) λdp=>
 vK (am 2 s) λdq=>
 qK S (λa=>ldV a dq) λdr=>
 vK (am 4 s) λds=>
 qK S (λa=>ldV a ds) λdt=>
 ae prog ur #[dp,dr,dt] a λdu bp=>
 S bp∧(cF #[(.slice none 0 0)] 59 1 [(0,1,du)] bp λdv bq=>
 S bq∧(cG (.slice none 0 0) 59 1 24 dn dv bq λdw dx=>
 vK (am 7 (ix e 0)) λdy=>
 stK 1 dy dw dx λeq dz=>
 vK (ag .i .add (ix r 0) (.int .i64 1)) λd0=>
 dh [d0] dz))) (
 vK (aH 20 f (ix e 0)) λd1=>
 vK (am 2 c) λd2=>
 vK (ldV f d2) λd3=>
 vK (am 3 c) λd4=>
 vK (ldV f d4) λd5=>
 vK (ag .i .mul d3 d5) λd6=>
 vK (ag .i .mul d6 a1) λd7=>
 ae prog qU #[d1,(.int .i64 0),(.int .i64 0),(.int .i64 0),d7,(.bool true)] f λd8 d9=>
 stK 20 (ix e 0) d8 d9 λer n=>
 vK (aH 20 n (ix e 0)) λea=>
 vK (am 0 c) λeb=>
 vK (ldV n eb) λec=>
 vK (aq ec) λed=>
 vK (am 1 c) λee=>
 vK (ldV n ee) λef=>
 vK (aq ef) λeg=>
 vK (ag .i .mul ed eg) λeh=>
 vK (ag .i .mul eh a1) λei=>
 ae prog qU #[ea,(.int .i64 0),(.int .i64 1),(.int .i64 0),ei,(.bool true)] n λej ek=>
 stK 20 t ej ek λes br=>
 vK (aH 20 br t) λel=>
 R el br)
theorem MR (H:CW a0 a1 a2 a3 a4 a5 h R):ae prog zJ #[a0,a1,a2,a3,a4,a5] h R:=fk f92 (.s .z (.j 1073684480 [13] (.d (.op 0 .r (.op 1 .r (.op 2 .r (.op 3 .r (.op 4 .r (.op 6 .r (.op 8 .r (.op 9 .r (.op 11 .r (.alt (.op 5 .e (.alt (.op 7 .e (.alt (.op 10 .e (.alt (.op 12 .e (.op 13 .r (.op 14 .e (.op 15 .n .nil)))) (.op 14 .e (.op 12 .e (.op 13 .r (.op 15 .n .nil)))))) (.alt (.op 12 .e (.alt (.op 10 .e (.op 13 .r (.op 14 .e (.op 15 .n .nil)))) (.op 14 .e (.op 10 .e (.op 13 .r (.op 15 .n .nil)))))) (.op 14 .e (.alt (.op 10 .e (.op 12 .e (.op 13 .r (.op 15 .n .nil)))) (.op 12 .e (.op 10 .e (.op 13 .r (.op 15 .n .nil))))))))) (.alt (.op 12 .e (.alt (.op 7 .e (.alt (.op 10 .e (.op 13 .r (.op 14 .e (.op 15 .n .nil)))) (.op 14 .e (.op 10 .e (.op 13 .r (.op 15 .n .nil)))))) (.op 14 .e (.op 7 .e (.op 10 .e (.op 13 .r (.op 15 .n .nil))))))) (.op 14 .e (.alt (.op 7 .e (.alt (.op 10 .e (.op 12 .e (.op 13 .r (.op 15 .n .nil)))) (.op 12 .e (.op 10 .e (.op 13 .r (.op 15 .n .nil)))))) (.op 12 .e (.op 7 .e (.op 10 .e (.op 13 .r (.op 15 .n .nil)))))))))) (.alt (.op 12 .e (.alt (.op 5 .e (.alt (.op 7 .e (.alt (.op 10 .e (.op 13 .r (.op 14 .e (.op 15 .n .nil)))) (.op 14 .e (.op 10 .e (.op 13 .r (.op 15 .n .nil)))))) (.op 14 .e (.op 7 .e (.op 10 .e (.op 13 .r (.op 15 .n .nil))))))) (.op 14 .e (.op 5 .e (.op 7 .e (.op 10 .e (.op 13 .r (.op 15 .n .nil)))))))) (.op 14 .e (.alt (.op 5 .e (.alt (.op 7 .e (.alt (.op 10 .e (.op 12 .e (.op 13 .r (.op 15 .n .nil)))) (.op 12 .e (.op 10 .e (.op 13 .r (.op 15 .n .nil)))))) (.op 12 .e (.op 7 .e (.op 10 .e (.op 13 .r (.op 15 .n .nil))))))) (.op 12 .e (.op 5 .e (.op 7 .e (.op 10 .e (.op 13 .r (.op 15 .n .nil)))))))))))))))))))) (.s (.s .z (.l 562941363519488 [33] (.s .z (.s (.s .z .z) (.s (.s .z (.d (.op 0 .r (.op 1 .r (.op 2 .r (.op 3 .r (.op 4 .r (.op 5 .r (.op 6 .r (.op 7 .e (.op 8 .e (.op 9 .n (.op 10 .r (.op 11 .n .nil)))))))))))))) .z))))) (.s .z (.s .z .z))))) H
end
section
variable {a0 a1 a2 a3 a4 a5 a6:Value}{h:af}{R:Value→af→Prop}
def kY (a0:Value)(h:af)(R:Value→af→Prop):Prop:=
 vK (aK a0) λa=>
 vK (am 4 a) λb=>
 vK (ldV h b) λc=>
 ae prog cQ #[c] h λd e=>
 R d e
theorem vq (H:kY a0 h R):ae prog fN #[a0] h R:=fk f93 (.s .z (.s .z .z)) H
def oP (a0:Value)(h:af)(R:Value→af→Prop):Prop:=
 bD h λS=>
 vK (aK a0) λb=>
 vK (am 0 b) λc=>
 qK S (λh=>ldV h c) λd=>
 vK (aK a0) λe=>
 vK (am 1 e) λf=>
 qK S (λh=>ldV h f) λg=>
 vK (aK a0) λi=>
 vK (am 2 i) λj=>
 qK S (λh=>ldV h j) λk=>
 vK (aK a0) λl=>
 vK (am 3 l) λm=>
 qK S (λh=>ldV h m) λn=>
 vK (aK a0) λo=>
 vK (am 4 o) λp=>
 qK S (λh=>ldV h p) λq=>
 ae prog cQ #[q] h λr a=>
 S a∧(vK ((aE #[(.int .i64 0),(.int .i64 0),(.int .i64 0),(.int .i64 0),(.slice none 0 0)] [(0,1,d),(1,1,g),(2,1,k),(3,1,n),(4,1,r)]).map .agg) λs=>
 aP (Value.cells s) 151 a λt u=>
 R t u)
theorem yR (H:oP a0 h R):ae prog kg #[a0] h R:=fk f94 (.s .z (.s (.d (.op 0 .r (.op 1 .r (.op 2 .r (.op 3 .r (.op 4 .r (.op 5 .r (.op 6 .r (.op 7 .r (.op 8 .r (.op 9 .r (.op 10 .r (.op 11 .r (.op 12 .r (.op 13 .r (.op 14 .r (.op 15 .r (.op 16 .r (.op 17 .r (.op 18 .r (.op 19 .r (.op 20 .e (.op 21 .r (.op 22 .n (.op 23 .r .nil))))))))))))))))))))))))) .z)) H
def uZ (a0:Value)(h:af)(R:Value→af→Prop):Prop:=
 ae prog dk #[a0] h λf g=>
 aS [(.slice none 0 0),(.int .i64 0)] g λa u b j=>
 vK (ag .i .lss (ix a 1) f) λk=>
 aA k (
 ae prog eM #[a0,(ix a 1)] b λc l=>
 vK (aF c 0) λm=>
 vK (aF c 1) λv=>
 aP #[(.int .i64 0),(.int .i64 0),(.int .i64 0),(.int .i64 0),(.int .i64 0),(.int .i64 0),(.int .i64 0),(.int .i64 0),(.int .i64 0),(.int .i64 0)] 65 l λd n=>
 stK 10 d m n λw e=>
 vK (aH 10 e d) λo=>
 cF #[(.int .i64 0),(.int .i64 0),(.int .i64 0),(.int .i64 0),(.int .i64 0),(.int .i64 0),(.int .i64 0),(.int .i64 0),(.int .i64 0),(.int .i64 0)] 65 1 [(0,10,o)] e λp q=>
 cG (.agg #[.int .i64 0,.int .i64 0,.int .i64 0,.int .i64 0,.int .i64 0,.int .i64 0,.int .i64 0,.int .i64 0,.int .i64 0,.int .i64 0]) 65 10 80 (ix a 0) p q λr s=>
 vK (ag .i .add (ix a 1) (.int .i64 1)) λt=>
 j [r,t] s) (
 R (ix a 0) b)
theorem ES (H:uZ a0 h R):ae prog p9 #[a0] h R:=fk f95 (.s .z (.s .z (.s (.s .z (.l 8388216 [3,9] (.s .z (.s (.s .z .z) (.s (.s .z (.s .z .z)) .z))))) (.s .z .z)))) H
def w9 (a0 a1:Value)(h:af)(R:Value→af→Prop):Prop:=
 aP (Value.cells a0) 46 h λg m=>
 aP (Value.cells a1) 65 m λb j=>
 vK (aH 3 j g) λn=>
 vK (am 1 b) λo=>
 vK (aH 4 j o) λp=>
 ae prog kH #[n,p] j λq c=>
 vK (unV .not q) λr=>
 aA r (
 R (.int .i64 0) c) (
 vK (am 1 b) λs=>
 vK (am 3 s) λt=>
 vK (ldV c t) λu=>
 vK (am 1 g) λv=>
 vK (ldV c v) λw=>
 vK (am 1 b) λx=>
 vK (am 1 x) λy=>
 vK (ldV c y) λz=>
 ae prog bu #[w,z] c λaa k=>
 vK (mT false 1 0 aa) λab=>
 vK (am 1 b) λac=>
 vK (am 3 ac) λad=>
 vK (ldV k ad) λah=>
 aS [u,ab,(.int .i64 0)] k λa bc d ai=>
 vK (ag .i .lss (ix a 2) ah) λaj=>
 aA aj (
 vK (am 1 g) λak=>
 vK (ldV d ak) λal=>
 vK (am 1 b) λan=>
 vK (am 1 an) λao=>
 vK (ldV d ao) λap=>
 vK (ag .i .add ap (ix a 2)) λar=>
 ae prog bu #[al,ar] d λau av=>
 aP #[(.int .i64 0),(.slice none 0 0)] 235 av λe aw=>
 stK 2 e au aw λbd f=>
 vK (am 0 e) λax=>
 vK (ldV f ax) λay=>
 vK (am 1 e) λaz=>
 vK (ldV f az) λa2=>
 vK (aq a2) λa3=>
 vK (ag .i .add ay a3) λl=>
 vK (am 0 e) λa4=>
 vK (ldV f a4) λa5=>
 vK (iG (ix a 1) a5) λa6=>
 vK (ag .i .sub l a6) λa7=>
 vK (iG (.int .i64 0) a7) λa8=>
 vK (ag .i .add (ix a 0) a8) λa9=>
 vK (iG (ix a 1) l) λba=>
 vK (ag .i .add (ix a 2) (.int .i64 1)) λbb=>
 ai [a9,ba,bb] f) (
 R (ix a 0) d))
theorem Gn (H:w9 a0 a1 h R):ae prog sA #[a0,a1] h R:=fk f96 (.s .z (.s (.s .z (.s (.s .z .z) .z)) (.s .z (.s .z (.s (.s .z (.l 288230375883277280 [5,6,28] (.s .z (.s (.s .z .z) (.s (.s .z (.s .z (.s .z (.s .z .z)))) .z))))) (.s .z .z)))))) H
def rJ (a0:Value)(h:af)(R:Value→af→Prop):Prop:=
 aP #[(.pointer none),(.pointer none),(.int .i64 0)] 46 h λa b=>
 vK (aK a0) λd=>
 vK (am 0 d) λe=>
 vK (aH 3 b e) λf=>
 stK 3 a f b λi c=>
 vK (aH 3 c a) λg=>
 R g c
theorem BX (H:rJ a0 h R):ae prog gE #[a0] h R:=fk f97 (.s .z (.s .z .z)) H
def tt (a0 a1:Value)(h:af)(R:Value→af→Prop):Prop:=
 vK (ag .i .lss a1 (.int .i64 0)) λa=>
 vK (gV a false (some a1)) λe=>
 vK (gV a false (some a0)) λf=>
 vK (gV a false (aK f)) λg=>
 vK (gV a false (am 6 g)) λj=>
 vK (gV a false (ldV h j)) λk=>
 vK (gV a false (aq k)) λl=>
 vK (gV a false (ag .i .gtr e l)) λm=>
 vK (az a (.bool true) m) λn=>
 aA n (
 R (.bool false) h) (
 vK (ag .i .gtr a1 (.int .i64 0)) λo=>
 aA o (
 bD h λS=>
 vK (aK a0) λp=>
 vK (am 6 p) λq=>
 qK S (λh=>ldV h q) λr=>
 vK (ag .i .sub a1 (.int .i64 1)) λs=>
 vK (aR 1 r s) λt=>
 qK S (λh=>ldV h t) λu=>
 vK (aK a0) λv=>
 vK (am 3 v) λw=>
 qK S (λh=>ldV h w) λx=>
 ae prog dt #[u,x] h λy z=>
 R y z) (
 vK (aK a0) λaa=>
 vK (am 12 aa) λab=>
 vK (ldV h ab) λac=>
 aA ac (
 R (.bool false) h) (
 bD h λS=>
 vK (aK a0) λad=>
 vK (am 8 ad) λah=>
 qK S (λh=>ldV h ah) λai=>
 vK (aK a0) λaj=>
 vK (am 2 aj) λak=>
 qK S (λh=>ldV h ak) λal=>
 ae prog dk #[al] h λan b=>
 S b∧(vK (ag .i .lss ai an) λao=>
 aA ao (
 vK (aK a0) λap=>
 vK (am 3 ap) λar=>
 vK (ldV b ar) λau=>
 ae prog gh #[au] b λav aw=>
 R av aw) (
 vK (aK a0) λax=>
 vK (am 3 ax) λay=>
 vK (ldV b ay) λa2=>
 ae prog gC #[a2] b λa3 d=>
 vK (unV .not a3) λc=>
 vK (gV c false (some a0)) λa4=>
 gK c false (λa5=>ae prog nU #[a4] d a5) d λa6 a7=>
 vK (az c (.bool true) a6) λa8=>
 R a8 a7)))))
theorem DJ (H:tt a0 a1 h R):ae prog jU #[a0,a1] h R:=fk f98 (.s .z (.s (.s .z (.s (.s .z .z) (.s .z (.s (.s (.d (.op 0 .r (.op 1 .r (.op 2 .r (.op 3 .r (.op 4 .r (.op 5 .r (.op 6 .r (.op 7 .r (.op 8 .r (.op 9 .r (.op 10 .r (.op 11 .r (.op 12 .n (.op 13 .r .nil))))))))))))))) .z) (.s .z (.s (.s .z .z) (.s (.d (.op 0 .r (.op 1 .r (.op 2 .r (.op 3 .r (.op 4 .r (.op 5 .r (.op 6 .r (.op 7 .r (.op 8 .e (.op 9 .r (.op 10 .r .nil)))))))))))) (.s (.s .z .z) .z)))))))) (.s .z .z))) H
def AR (a0 a1:Value)(h:af)(R:Value→af→Prop):Prop:=
 vK (aq a0) λc=>
 vK (aq a1) λd=>
 vK (ag .i .neq c d) λe=>
 aA e (
 R (.bool false) h) (
 vK (aq a0) λf=>
 aS [(.int .i64 0)] h λb q a g=>
 vK (ag .i .lss (ix b 0) f) λj=>
 aA j (
 vK (aR 1 a0 (ix b 0)) λk=>
 vK (ldV a k) λl=>
 vK (aR 1 a1 (ix b 0)) λm=>
 vK (ldV a m) λn=>
 vK (ag .i .neq l n) λo=>
 aA o (
 R (.bool false) a) (
 vK (ag .i .add (ix b 0) (.int .i64 1)) λp=>
 g [p] a)) (
 R (.bool true) a))
theorem KG (H:AR a0 a1 h R):ae prog wI #[a0,a1] h R:=fk f99 (.s .z (.s (.s .z (.s (.s .z .z) .z)) (.s (.s .z (.l 67100720 [13] (.s .z (.s (.s .z .z) (.s (.s .z (.s .z (.s (.s .z .z) .z))) .z))))) (.s .z .z)))) H
def xR (a0 a1:Value)(h:af)(R:Value→af→Prop):Prop:=
 ae prog iW #[a0,(.int .i64 28)] h λa d=>
 dE (λe=>
 vK (ag .i .lss a1 (.int .i64 0)) λf=>
 aA f (
 e [(.int .i64 0)] d) (
 e [a1] d))
 λc r b=>
 vK (ag .i .gtr (ix c 0) (.int .i64 65535)) λg=>
 aA g (
 vK (ag .i .lss a (.int .i64 0)) λj=>
 aA j (
 R (.int .u16 0) b) (
 vK (ag .i .gtr a (.int .i64 65535)) λk=>
 aA k (
 vK (dY .u16 (.int .i64 65535)) λl=>
 R l b) (
 vK (dY .u16 a) λm=>
 R m b))) (
 vK (ag .i .lss a (.int .i64 0)) λn=>
 aA n (
 R (.int .u16 0) b) (
 vK (ag .i .gtr a (ix c 0)) λo=>
 aA o (
 vK (dY .u16 (ix c 0)) λp=>
 R p b) (
 vK (dY .u16 a) λq=>
 R q b)))
theorem Ie (H:xR a0 a1 h R):ae prog ut #[a0,a1] h R:=fk f100 (.s .z (.s .z (.j 770 [1] (.s .z (.s .z .z)) (.s (.s .z (.s .z .z)) (.s (.s .z (.s (.s .z .z) .z)) (.s (.s .z (.s (.s .z .z) .z)) (.s .z .z))))))) H
def CZ (a0 a1 a2 a3 a4:Value)(h:af)(R:Value→af→Prop):Prop:=
 aP (Value.cells a0) 115 h λf n=>
 aP (Value.cells a1) 56 n λc g=>
 vK (am 0 c) λo=>
 vK (ldV g o) λp=>
 vK (aR 2 p a2) λq=>
 vK (am 1 q) λr=>
 vK (ldV g r) λk=>
 vK (aq k) λs=>
 aS [(.int .i64 0),(.int .i64 0)] g λd bo a t=>
 vK (ag .i .lss (ix d 1) s) λu=>
 aA u (
 vK (aR 1 k (ix d 1)) λv=>
 vK (ldV a v) λw=>
 bD a λS=>
 vK (am 4 c) λx=>
 qK S (λa=>ldV a x) λy=>
 vK (am 0 c) λz=>
 qK S (λa=>ldV a z) λaa=>
 vK (aR 2 aa a2) λab=>
 vK (am 0 ab) λac=>
 qK S (λa=>ldV a ac) λad=>
 vK (ag .i .add ad (ix d 1)) λah=>
 vK (am 0 f) λai=>
 qK S (λa=>ldV a ai) λaj=>
 ae prog wJ #[y,ah,aj] a λak j=>
 vK (am 1 c) λal=>
 vK (ldV j al) λan=>
 vK (aR 2 an a3) λao=>
 vK (am 1 ao) λap=>
 vK (ldV j ap) λl=>
 vK (aq l) λar=>
 aS [(.int .i64 0),(.int .i64 0)] j λe bp b au=>
 vK (ag .i .lss (ix e 1) ar) λav=>
 aA av (
 vK (aR 1 l (ix e 1)) λaw=>
 vK (ldV b aw) λax=>
 bD b λS=>
 vK (am 4 c) λay=>
 qK S (λb=>ldV b ay) λaz=>
 vK (am 1 c) λa5=>
 qK S (λb=>ldV b a5) λa6=>
 vK (aR 2 a6 a3) λa7=>
 vK (am 0 a7) λa8=>
 qK S (λb=>ldV b a8) λa9=>
 vK (ag .i .add a9 (ix e 1)) λba=>
 vK (am 1 f) λbb=>
 qK S (λb=>ldV b bb) λbc=>
 ae prog wJ #[az,ba,bc] b λbd m=>
 vK (aH 5 m f) λbe=>
 ae prog CF #[be,ak,bd,a4] m λbf bg=>
 vK (dY .i64 bf) λbh=>
 vK (ag .i .mul ax bh) λbi=>
 vK (ag .i .add (ix e 0) bi) λbj=>
 vK (ag .i .add (ix e 1) (.int .i64 1)) λbk=>
 au [bj,bk] bg) (
 vK (ag .i .mul w (ix e 0)) λbl=>
 vK (ag .i .add (ix d 0) bl) λbm=>
 vK (ag .i .add (ix d 1) (.int .i64 1)) λbn=>
 t [bm,bn] b)) (
 R (ix d 0) a)
theorem MU (H:CZ a0 a1 a2 a3 a4 h R):ae prog zK #[a0,a1,a2,a3,a4] h R:=fk f101 (.s .z (.s .z (.s (.s .z (.l 77371252455336267114608640 [11,26] (.s .z (.s (.s .z .z) (.s (.s .z (.s (.d (.op 0 .r (.op 1 .r (.op 2 .r (.op 3 .r (.op 4 .r (.op 5 .r (.op 6 .r (.op 7 .r (.op 8 .r (.op 9 .r (.op 10 .r (.op 11 .r (.op 12 .n (.op 13 .r .nil))))))))))))))) (.s .z (.s (.s .z (.l 1208925817362829361512448 [15,51] (.s .z (.s (.s .z .z) (.s (.s .z (.s (.d (.op 0 .r (.op 1 .r (.op 2 .r (.op 3 .r (.op 4 .r (.op 5 .r (.op 6 .r (.op 7 .r (.op 8 .r (.op 9 .r (.op 10 .r (.op 11 .r (.op 12 .n (.op 13 .r .nil))))))))))))))) .z)) .z))))) .z)))) .z))))) (.s .z .z)))) H
def xp (a0 a1:Value)(h:af)(R:Value→af→Prop):Prop:=
 aP (Value.cells a1) 46 h λc d=>
 vK (am 0 c) λm=>
 vK (ldV d m) λn=>
 vK (ag .p .neq n (.pointer none)) λf=>
 vK (gV f true (am 1 c)) λo=>
 vK (gV f true (ldV d o)) λq=>
 vK (gV f true (ag .p .neq q (.pointer none))) λr=>
 vK (az f r (.bool false)) λa=>
 vK (gV a true (am 0 c)) λt=>
 vK (gV a true (ldV d t)) λu=>
 gK a true (λv=>ae prog eG #[u] d v) d λw k=>
 vK (gV a true (some a0)) λx=>
 gK a true (λy=>ae prog bE #[x] k y) k λz g=>
 vK (gV a true (ag .i .eql w z)) λaa=>
 vK (az a aa (.bool false)) λb=>
 vK (gV b true (am 1 c)) λab=>
 vK (gV b true (ldV g ab)) λac=>
 gK b true (λad=>ae prog eG #[ac] g ad) g λah l=>
 vK (gV b true (some a0)) λai=>
 gK b true (λaj=>ae prog bG #[ai] l aj) l λak j=>
 vK (gV b true (ag .i .eql ah ak)) λal=>
 vK (az b al (.bool false)) λe=>
 vK (gV e true (am 2 c)) λan=>
 vK (gV e true (ldV j an)) λao=>
 gK e true (λap=>ae prog oH #[ao] j ap) j λaq ar=>
 vK (gV e true (ag .s .neq aq (.string ⟨#[]⟩))) λau=>
 vK (az e au (.bool false)) λav=>
 R av ar
theorem GC (H:xp a0 a1 h R):ae prog ij #[a0,a1] h R:=fk f102 (.s .z (.s .z .z)) H
def Do (a0:Value)(h:af)(R:Value→af→Prop):Prop:=
 vK (iG (.int .i64 1) a0) λj=>
 vK (pA j (.int .i64 512)) λc=>
 mkK (.slice none 0 0) 195 1 24 c c h λk l=>
 vK ((aE #[(.slice none 0 0)] [(0,1,k)]).map .agg) λm=>
 aP (Value.cells m) 256 l λd f=>
 vK (aK d) λn=>
 vK (am 0 n) λo=>
 vK (ldV f o) λp=>
 vK (aq p) λq=>
 aS [(.int .i64 0)] f λa ai b r=>
 vK (ag .i .lss (ix a 0) q) λs=>
 aA s (
 bD b λS=>
 vK (aK d) λt=>
 vK (am 0 t) λu=>
 qK S (λb=>ldV b u) λv=>
 mkK (.int .i64 0) 3 1 8 c c b λw g=>
 S g∧(vK (aR 1 v (ix a 0)) λx=>
 stK 1 x w g λaj e=>
 vK (aK d) λy=>
 vK (am 0 y) λz=>
 vK (ldV e z) λaa=>
 vK (aR 1 aa (ix a 0)) λab=>
 vK (ldV e ab) λac=>
 vK (aR 1 ac (ix a 0)) λad=>
 stK 1 ad (.int .i64 1) e λak ae=>
 vK (ag .i .add (ix a 0) (.int .i64 1)) λah=>
 r [ah] ae)) (
 R d b)
theorem Nk (H:Do a0 h R):ae prog lC #[a0] h R:=fk f103 (.s .z (.s .z (.s .z (.s (.s .z (.l 274877775888 [17] (.s .z (.s (.s .z .z) (.s (.s .z (.s (.d (.op 0 .r (.op 1 .r (.op 2 .r (.op 3 .r (.op 4 .r (.op 5 .r (.op 6 .e (.op 7 .r (.op 8 .n .nil)))))))))) .z)) .z))))) (.s .z .z))))) H
def tz (a0 a1 a2 a3 a4 a5:Value)(h:af)(R:Value→af→Prop):Prop:=
 bD h λS=>
 vK (aK a0) λa=>
 vK (am 5 a) λb=>
 vK (aK a0) λc=>
 vK (am 4 c) λd=>
 qK S (λh=>ldV h d) λe=>
 vK (ag .i .add a3 a4) λf=>
 ae prog ju #[e,a1] h λg j=>
 vK ((aE #[(.int .i64 0),(.slice none 0 0),(.int .i64 0),(.int .i64 0),(.int .i64 0),(.bool false)] [(0,1,a1),(1,1,g),(2,1,a2),(3,1,a3),(4,1,f),(5,1,a5)]).map .agg) λk=>
 ae prog kh #[b,k] j λm l=>
 R (.tuple #[]) l
theorem DL (H:tz a0 a1 a2 a3 a4 a5 h R):ae prog dd #[a0,a1,a2,a3,a4,a5] h R:=fk f104 (.d (.op 0 .r (.op 1 .r (.op 2 .r (.op 3 .r (.op 4 .r (.op 5 .r (.op 6 .r (.op 7 .r (.op 8 .r (.op 10 .r (.op 11 .r (.op 12 .r (.op 13 .r (.op 14 .r (.op 15 .r (.op 9 .n (.op 16 .r (.op 17 .n .nil))))))))))))))))))) H
def De (a0:Value)(h:af)(R:Value→af→Prop):Prop:=
 ae prog bE #[a0] h λa b=>
 ae prog bG #[a0] b λc d=>
 vK (ag .i .mul a c) λe=>
 ae prog aO #[a0] d λf g=>
 vK (ag .i .mul e f) λj=>
 R j g
theorem Na (H:De a0 h R):ae prog pM #[a0] h R:=fk f105 (.s .z (.s .z .z)) H
def tC (a0:Value)(h:af)(R:Value→af→Prop):Prop:=
 bD h λS=>
 vK (aK a0) λm=>
 vK (am 8 m) λn=>
 qK S (λh=>ldV h n) λo=>
 vK (aK a0) λp=>
 vK (am 2 p) λq=>
 qK S (λh=>ldV h q) λr=>
 ae prog dk #[r] h λs a=>
 S a∧(vK (ag .i .lss o s) λt=>
 aA t (
 bD a λS=>
 vK (aK a0) λu=>
 vK (am 3 u) λv=>
 qK S (λa=>ldV a v) λw=>
 vK (aK a0) λx=>
 vK (am 8 x) λy=>
 qK S (λa=>ldV a y) λz=>
 ae prog kV #[w,z] a λb3 b=>
 bD b λS=>
 vK (aK a0) λaa=>
 vK (am 9 aa) λab=>
 qK S (λb=>ldV b ab) λac=>
 vK (aK a0) λad=>
 vK (am 4 ad) λah=>
 qK S (λb=>ldV b ah) λai=>
 ae prog gd #[ai,(.int .i64 0)] b λaj f=>
 S f∧(cF #[(.slice none 0 0)] 195 1 [(0,1,aj)] f λak g=>
 S g∧(cG (.slice none 0 0) 195 1 24 ac ak g λal an=>
 vK (aK a0) λao=>
 vK (am 9 ao) λap=>
 stK 1 ap al an λb4 j=>
 vK (aK a0) λar=>
 vK (am 8 ar) λau=>
 vK (ldV j au) λav=>
 vK (ag .i .add av (.int .i64 1)) λaw=>
 vK (aK a0) λax=>
 vK (am 8 ax) λay=>
 stK 1 ay aw j λb5 az=>
 R (.tuple #[]) az))) (
 vK (aK a0) λa1=>
 vK (am 3 a1) λa2=>
 vK (ldV a a2) λa3=>
 ae prog gC #[a3] a λa4 d=>
 vK (unV .not a4) λa5=>
 aA a5 (
 vK (aK a0) λa6=>
 vK (am 3 a6) λa7=>
 vK (ldV d a7) λa8=>
 ae prog gU #[a8] d λb6 k=>
 vK (aK a0) λa9=>
 vK (am 4 a9) λba=>
 vK (ldV k ba) λbb=>
 ae prog gd #[bb,(.int .i64 0)] k λbc bd=>
 vK (aK a0) λbe=>
 vK (am 10 be) λbf=>
 stK 1 bf bc bd λb7 bg=>
 R (.tuple #[]) bg) (
 vK (aK a0) λbh=>
 vK (am 11 bh) λbi=>
 vK (ldV d bi) λl=>
 vK (aq l) λbj=>
 aS [(.int .i64 0)] d λe b8 c bk=>
 vK (ag .i .lss (ix e 0) bj) λbl=>
 aA bl (
 vK (aR 1 l (ix e 0)) λbm=>
 vK (ldV c bm) λbn=>
 vK (aK a0) λbo=>
 vK (am 4 bo) λbp=>
 vK (ldV c bp) λbq=>
 ae prog eN #[bq,(.int .i64 0),bn] c λb9 br=>
 vK (ag .i .add (ix e 0) (.int .i64 1)) λbs=>
 bk [bs] br) (
 vK (aK a0) λbt=>
 vK (am 1 bt) λbu=>
 vK (ldV c bu) λbv=>
 ae prog pM #[bv] c λbw bx=>
 ae prog dd #[a0,(.int .i64 0),(.int .i64 1),(.int .i64 0),bw,(.bool false)] bx λca bz=>
 vK (aK a0) λb0=>
 vK (am 12 b0) λb1=>
 stK 1 b1 (.bool true) bz λcb b2=>
 R (.tuple #[]) b2))))
theorem DM (H:tC a0 h R):ae prog nT #[a0] h R:=fk f106 (.s (.d (.op 0 .r (.op 1 .r (.op 2 .r (.op 3 .r (.op 4 .r (.op 5 .r (.op 6 .r (.op 7 .r (.op 8 .e (.op 9 .r (.op 10 .r .nil)))))))))))) (.s (.s (.d (.op 0 .r (.op 1 .r (.op 2 .r (.op 3 .r (.op 4 .r (.op 5 .r (.op 6 .r (.op 7 .r (.op 8 .n .nil)))))))))) (.s (.d (.op 0 .r (.op 1 .r (.op 2 .r (.op 3 .r (.op 4 .r (.op 5 .r (.op 6 .r (.op 7 .r (.op 8 .r (.op 9 .e (.op 10 .e (.op 11 .n (.op 12 .r (.op 13 .r (.op 14 .n .nil)))))))))))))))) .z)) (.s .z (.s (.s .z .z) (.s (.s .z (.l 1048072 [9] (.s .z (.s (.s .z .z) (.s (.s .z .z) .z))))) (.s .z .z)))))) H
def tm (a0 a1:Value)(h:af)(R:Value→af→Prop):Prop:=
 aP (Value.cells a0) 105 h λd x=>
 aP (Value.cells a1) 3 x λe b=>
 dE (λj=>
 bD b λS=>
 qK S (λb=>ldV b d) λy=>
 vK (aK y) λz=>
 vK (am 6 z) λaa=>
 qK S (λb=>ldV b aa) λab=>
 qK S (λb=>ldV b e) λac=>
 vK (ag .i .sub ac (.int .i64 1)) λad=>
 vK (aR 1 ab ad) λah=>
 qK S (λb=>ldV b ah) λk=>
 qK S (λb=>ldV b d) λai=>
 vK (aK ai) λaj=>
 vK (am 3 aj) λak=>
 qK S (λb=>ldV b ak) λl=>
 (ae prog cg #[k,l,(.func (.func fG) #[] #[d,e])] b λal m=>
 S m∧(aP #[(.int .i64 0),(.int .i64 0),(.int .i64 0),(.int .i64 0)] 99 m λn o=>
 S o∧(stK 4 n al o λb4 p=>
 S p∧(j [n] p))))∧(aP #[(.int .i64 0),(.int .i64 0),(.int .i64 0),(.int .i64 0)] 99 b λq r=>
 S r∧(ae prog cg #[k,l,(.func (.func fG) #[] #[d,e])] r λan s=>
 S s∧(stK 4 q an s λb5 t=>
 S t∧(j [q] t)))))
 λf b6 a=>
 vK (am 0 (ix f 0)) λao=>
 vK (ldV a ao) λg=>
 vK (ag .i .eql g (.int .i64 1)) λap=>
 aA ap (
 bD a λS=>
 qK S (λa=>ldV a d) λaq=>
 vK (aK aq) λar=>
 vK (am 4 ar) λau=>
 qK S (λa=>ldV a au) λav=>
 qK S (λa=>ldV a e) λaw=>
 qK S (λa=>ldV a d) λax=>
 vK (aK ax) λay=>
 vK (am 9 ay) λaz=>
 qK S (λa=>ldV a az) λa2=>
 vK (am 1 (ix f 0)) λa3=>
 qK S (λa=>ldV a a3) λa4=>
 vK (aR 1 a2 a4) λa5=>
 qK S (λa=>ldV a a5) λa6=>
 ae prog eN #[av,aw,a6] a λb7 a7=>
 R (.tuple #[]) a7) (
 vK (ag .i .eql g (.int .i64 2)) λa8=>
 aA a8 (
 vK (ldV a d) λa9=>
 vK (ldV a e) λba=>
 vK (aH 4 a (ix f 0)) λbb=>
 ae prog mz #[a9,ba,bb] a λb8 bc=>
 R (.tuple #[]) bc) (
 vK (ag .i .eql g (.int .i64 3)) λbd=>
 aA bd (
 bD a λS=>
 qK S (λa=>ldV a d) λbe=>
 vK (aK be) λbf=>
 vK (am 4 bf) λbg=>
 qK S (λa=>ldV a bg) λbh=>
 qK S (λa=>ldV a e) λbi=>
 qK S (λa=>ldV a d) λbj=>
 vK (aK bj) λbk=>
 vK (am 10 bk) λbl=>
 qK S (λa=>ldV a bl) λbm=>
 ae prog eN #[bh,bi,bm] a λb9 c=>
 bD c λS=>
 qK S (λc=>ldV c d) λbn=>
 qK S (λc=>ldV c d) λbo=>
 vK (aK bo) λbp=>
 vK (am 11 bp) λbq=>
 qK S (λc=>ldV c bq) λbr=>
 qK S (λc=>ldV c d) λbs=>
 vK (aK bs) λbt=>
 vK (am 4 bt) λbu=>
 qK S (λc=>ldV c bu) λbv=>
 qK S (λc=>ldV c e) λbw=>
 ae prog gd #[bv,bw] c λbx u=>
 S u∧(cF #[(.slice none 0 0)] 195 1 [(0,1,bx)] u λbz v=>
 S v∧(cG (.slice none 0 0) 195 1 24 br bz v λb0 w=>
 S w∧(vK (aK bn) λb1=>
 vK (am 11 b1) λb2=>
 stK 1 b2 b0 w λca b3=>
 R (.tuple #[]) b3)))) (
 R (.tuple #[]) a)))
theorem DI (H:tm a0 a1 h R):ae prog nQ #[a0,a1] h R:=fk f107 (.s .z (.j 524272 [4] (.d (.op 0 .r (.op 1 .r (.op 2 .r (.op 3 .r (.op 4 .r (.op 5 .r (.op 6 .r (.op 7 .r (.op 8 .r (.op 9 .r (.op 10 .r (.op 11 .r (.op 12 .r (.alt (.op 13 .e (.op 14 .e (.op 15 .e .nil))) (.op 14 .e (.op 13 .e (.op 15 .e .nil)))))))))))))))))) (.s .z (.s .z (.s (.d (.op 0 .r (.op 1 .r (.op 2 .r (.op 3 .r (.op 4 .r (.op 5 .r (.op 6 .r (.op 7 .r (.op 8 .r (.op 9 .r (.op 10 .r (.op 11 .r (.op 12 .r (.op 13 .n .nil))))))))))))))) (.s .z (.s .z (.s .z (.s (.s (.d (.op 0 .r (.op 1 .r (.op 2 .r (.op 3 .r (.op 4 .r (.op 5 .r (.op 6 .r (.op 7 .r (.op 8 .r (.op 9 .n .nil))))))))))) (.d (.op 0 .r (.op 1 .r (.op 2 .r (.op 3 .r (.op 4 .r (.op 5 .r (.op 6 .r (.op 7 .r (.op 8 .r (.op 9 .r (.op 10 .e (.op 11 .e (.op 12 .e (.op 13 .r (.op 14 .r (.op 15 .n .nil)))))))))))))))))) .z))))))))) H
def ye (a0 a1:Value)(h:af)(R:Value→af→Prop):Prop:=
 aP (Value.cells a0) 211 h λd m=>
 aP (Value.cells a1) 211 m λe a=>
 vK (am 0 d) λn=>
 vK (ldV a n) λo=>
 vK (am 0 e) λp=>
 vK (ldV a p) λq=>
 vK (ag .i .neq o q) λf=>
 vK (gV f true (am 5 d)) λr=>
 vK (gV f true (ldV a r)) λs=>
 vK (gV f true (some s)) λl=>
 vK (gV l false (am 5 e)) λt=>
 vK (gV l false (ldV a t)) λu=>
 vK (gV f true (az l (.bool true) u)) λv=>
 vK (az f v (.bool false)) λg=>
 vK (gV g true (aH 6 a d)) λw=>
 vK (gV g true (aH 6 a e)) λx=>
 gK g true (λy=>ae prog sG #[w,x] a y) a λz j=>
 vK (az g z (.bool false)) λb=>
 vK (gV b true (am 1 d)) λaa=>
 vK (gV b true (ldV j aa)) λab=>
 vK (gV b true (am 1 e)) λac=>
 vK (gV b true (ldV j ac)) λad=>
 gK b true (λah=>ae prog oG #[ab,ad] j ah) j λai k=>
 vK (gV b true (unV .not ai)) λaj=>
 vK (az b aj (.bool false)) λc=>
 vK (gV c true (am 1 e)) λak=>
 vK (gV c true (ldV k ak)) λal=>
 vK (gV c true (am 1 d)) λan=>
 vK (gV c true (ldV k an)) λao=>
 gK c true (λap=>ae prog oG #[al,ao] k ap) k λaq ar=>
 vK (gV c true (unV .not aq)) λau=>
 vK (az c au (.bool false)) λav=>
 R av ar
theorem Ir (H:ye a0 a1 h R):ae prog oB #[a0,a1] h R:=fk f115 (.s .z (.s .z .z)) H
def yo (h:af)(R:Value→af→Prop):Prop:=
 vK ((aE #[(.int .i64 0),(.int .i64 0),(.int .i64 0),(.int .i64 0),(.slice none 0 0),(.slice none 0 0),(.int .i64 0),(.int .i64 0),(.int .i64 0)] [(0,1,(.int .i64 3)),(7,1,(.int .i64 5)),(8,1,(.int .i64 3)),(6,1,(.int .i64 0))]).map .agg) λq=>
 ae prog lB #[q,(.int .i64 9),(.int .i64 9)] h λf r=>
 vK (aF f 0) λs=>
 vK (aF f 1) λt=>
 aP #[(.pointer none),(.pointer none),(.int .i64 0)] 46 r λg u=>
 stK 3 g s u λax v=>
 ae prog oD #[] v λw b=>
 vK (unV .not w) λc=>
 vK (gV c false (some t)) λx=>
 vK (gV c false (ag .i .neq x (.int .i64 0))) λy=>
 vK (az c (.bool true) y) λz=>
 aA z (
 R (.bool false) b) (
 vK (aH 3 b g) λaa=>
 ae prog wR #[aa,(.int .i64 2),(.int .i64 2)] b λj k=>
 vK (aF j 0) λd=>
 vK (aF j 1) λab=>
 vK (ag .i .neq ab (.int .i64 0)) λe=>
 vK (gV e false (some d)) λac=>
 vK (gV e false (ag .p .eql ac (.pointer none))) λad=>
 vK (az e (.bool true) ad) λah=>
 aA ah (
 R (.bool false) k) (
 ae prog eM #[d,(.int .i64 5)] k λl ai=>
 vK (aF l 0) λaj=>
 vK (aF l 1) λak=>
 aP #[(.int .i64 0),(.int .i64 0),(.int .i64 0),(.int .i64 0),(.int .i64 0),(.int .i64 0),(.int .i64 0),(.int .i64 0),(.int .i64 0),(.int .i64 0)] 65 ai λm al=>
 stK 10 m aj al λay an=>
 ae prog dk #[d] an λao n=>
 vK (ag .i .eql ao (.int .i64 6)) λo=>
 vK (gV o true (some ak)) λap=>
 vK (az o ap (.bool false)) λa=>
 vK (gV a true (am 1 m)) λaq=>
 vK (gV a true (aH 4 n aq)) λar=>
 vK (gV a true ((aE #[(.int .i64 0),(.int .i64 0),(.int .i64 0),(.int .i64 0)] [(0,1,(.int .i64 4)),(1,1,(.int .i64 2)),(2,1,(.int .i64 1)),(3,1,(.int .i64 1))]).map .agg)) λau=>
 vK (gV a true (ag (.st [(0,1,.i),(1,1,.i),(2,1,.i),(3,1,.i)]) .eql ar au)) λav=>
 vK (az a av (.bool false)) λaw=>
 R aw n))
theorem IB (H:yo h R):ae prog uG #[] h R:=fk f118 (.s .z (.s .z (.s (.s .z (.s (.s .z .z) .z)) (.s .z (.s (.s .z (.s (.s .z .z) .z)) (.s .z (.s .z .z))))))) H
def yn (h:af)(R:Value→af→Prop):Prop:=
 cF #[(.int .u16 0)] 22 1 [(0,1,(.int .u16 7))] h λs t=>
 ae prog pL #[(.int .i64 1),(.int .i64 1),(.int .i64 1),(.int .i64 255),s] t λj u=>
 vK (aF j 0) λk=>
 vK (aF j 1) λv=>
 vK ((aE #[(.int .i64 0),(.int .i64 0),(.int .i64 0),(.int .i64 0),(.slice none 0 0),(.slice none 0 0),(.int .i64 0),(.int .i64 0),(.int .i64 0)] [(0,1,(.int .i64 1)),(3,1,(.int .i64 2))]).map .agg) λw=>
 ae prog lB #[w,(.int .i64 1),(.int .i64 1)] u λl x=>
 vK (aF l 0) λy=>
 vK (aF l 1) λz=>
 aP #[(.pointer none),(.pointer none),(.int .i64 0)] 46 x λm aa=>
 stK 3 m y aa λa3 ab=>
 ae prog uH #[] ab λac n=>
 vK (unV .not ac) λb=>
 gK b false (λad=>ae prog oD #[] n ad) n λah c=>
 vK (gV b false (unV .not ah)) λai=>
 vK (az b (.bool true) ai) λd=>
 vK (gV d false (some v)) λaj=>
 vK (gV d false (ag .i .neq aj (.int .i64 0))) λak=>
 vK (az d (.bool true) ak) λe=>
 vK (gV e false (some z)) λal=>
 vK (gV e false (ag .i .neq al (.int .i64 0))) λam=>
 vK (az e (.bool true) am) λf=>
 vK (gV f false (some k)) λan=>
 vK (gV f false (ag .p .eql an (.pointer none))) λao=>
 vK (az f (.bool true) ao) λap=>
 aA ap (
 R (.bool false) c) (
 vK (aH 3 c m) λaq=>
 ae prog sJ #[k,aq] c λo q=>
 vK (aF o 0) λr=>
 vK (aF o 1) λar=>
 vK (ag .i .eql ar (.int .i64 0)) λg=>
 vK (gV g true (some r)) λau=>
 vK (gV g true (ag .p .neq au (.pointer none))) λav=>
 vK (az g av (.bool false)) λa=>
 vK (gV a true (some r)) λaw=>
 gK a true (λax=>ae prog fo #[aw,(.int .i64 0),(.int .i64 0),(.int .i64 0)] q ax) q λay a0=>
 vK (gV a true (ag .i .eql ay (.int .u16 7))) λa1=>
 vK (az a a1 (.bool false)) λa2=>
 R a2 a0)
theorem IA (H:yn h R):ae prog uF #[] h R:=fk f119 (.s .z (.s .z (.s .z (.s (.s .z (.s (.s .z .z) .z)) (.s .z (.s .z .z)))))) H
def Hh (a0 a1 a2:Value)(h:af)(R:Value→af→Prop):Prop:=
 aP (Value.cells a0) 31 h λb a=>
 vK (am 0 b) λc=>
 vK (ldV a c) λd=>
 vK (ag .i .eql d (.int .i64 3)) λe=>
 aA e (
 vK (am 7 b) λf=>
 vK (ldV a f) λg=>
 vK (am 8 b) λj=>
 vK (ldV a j) λk=>
 R (.tuple #[g,k]) a) (
 R (.tuple #[a1,a2]) a)
theorem QM (H:Hh a0 a1 a2 h R):ae prog Fv #[a0,a1,a2] h R:=fk f120 (.s .z (.s (.s .z (.s (.s .z .z) .z)) (.s .z .z))) H
def AS (a0 a1 a2:Value)(h:af)(R:Value→af→Prop):Prop:=
 vK (ag .i .lss a0 (.int .i64 1)) λa=>
 vK (gV a false (some a0)) λe=>
 vK (gV a false (ag .i .gtr e (.int .i64 65536))) λf=>
 vK (az a (.bool true) f) λb=>
 vK (gV b false (some a1)) λg=>
 vK (gV b false (ag .i .lss g (.int .i64 1))) λj=>
 vK (az b (.bool true) j) λc=>
 vK (gV c false (some a1)) λk=>
 vK (gV c false (ag .i .gtr k (.int .i64 65536))) λl=>
 vK (az c (.bool true) l) λm=>
 aA m (
 R (.bool false) h) (
 vK (ag .i .neq a2 (.int .i64 1)) λd=>
 vK (gV d true (some a2)) λn=>
 vK (gV d true (ag .i .neq n (.int .i64 3))) λo=>
 vK (az d o (.bool false)) λp=>
 aA p (
 R (.bool false) h) (
 vK (ag .i .mul a0 a1) λq=>
 vK (ag .i .quo (.int .i64 268435456) a2) λr=>
 vK (ag .i .leq q r) λs=>
 R s h))
theorem KH (H:AS a0 a1 a2 h R):ae prog qV #[a0,a1,a2] h R:=fk f121 (.s .z (.s (.s .z (.s (.s .z .z) .z)) (.s (.s .z (.s (.s .z .z) .z)) (.s .z .z)))) H
def AQ (a0 a1 a2:Value)(h:af)(R:Value→af→Prop):Prop:=
 aP (Value.cells a0) 230 h λa bd=>
 aP #[(.slice none 0 0),(.slice none 0 0),(.int .i64 0),(.int .i64 0),(.int .i64 0)] 56 bd λb e=>
 vK (am 0 a) λbe=>
 vK (ldV e be) λbf=>
 vK (ag .i .lss bf (.int .i64 0)) λk=>
 vK (gV k false (am 0 a)) λbg=>
 vK (gV k false (ldV e bg)) λbh=>
 vK (gV k false (ag .i .gtr bh (.int .i64 3))) λbi=>
 vK (az k (.bool true) bi) λl=>
 vK (gV l false (am 1 a)) λbj=>
 vK (gV l false (ldV e bj)) λbk=>
 vK (gV l false (ag .i .lss bk (.int .i64 0))) λbl=>
 vK (az l (.bool true) bl) λm=>
 vK (gV m false (am 1 a)) λbm=>
 vK (gV m false (ldV e bm)) λbn=>
 vK (gV m false (ag .i .gtr bn (.int .i64 2))) λbo=>
 vK (az m (.bool true) bo) λn=>
 vK (gV n false (some a1)) λbp=>
 gK n false (λbq=>ae prog jS #[bp] e bq) e λbr y=>
 vK (gV n false (unV .not br)) λbs=>
 vK (az n (.bool true) bs) λo=>
 vK (gV o false (some a2)) λbt=>
 gK o false (λbu=>ae prog jS #[bt] y bu) y λbv t=>
 vK (gV o false (unV .not bv)) λbw=>
 vK (az o (.bool true) bw) λbx=>
 aA bx (
 vK ((aE #[(.slice none 0 0),(.slice none 0 0),(.int .i64 0),(.int .i64 0),(.int .i64 0)] []).map .agg) λbz=>
 stK 5 b bz t λeb z=>
 vK (aH 5 z b) λb0=>
 R (.tuple #[b0,(.int .i64 6)]) z) (
 vK (am 1 a) λb1=>
 vK (ldV t b1) λb2=>
 vK ((aE #[(.slice none 0 0),(.slice none 0 0),(.int .i64 0),(.int .i64 0),(.int .i64 0)] [(2,1,a1),(3,1,a2),(4,1,b2)]).map .agg) λb3=>
 aP #[(.slice none 0 0),(.slice none 0 0),(.int .i64 0),(.int .i64 0),(.int .i64 0)] 56 t λd b4=>
 stK 5 d b3 b4 λec c=>
 vK (am 0 a) λb5=>
 vK (ldV c b5) λb6=>
 vK (ag .i .eql b6 (.int .i64 3)) λb7=>
 aA b7 (
 vK (am 7 a) λb8=>
 vK (ldV c b8) λb9=>
 ae prog jS #[b9] c λca u=>
 vK (unV .not ca) λg=>
 vK (gV g false (am 8 a)) λcb=>
 vK (gV g false (ldV u cb)) λcc=>
 gK g false (λcd=>ae prog jS #[cc] u cd) u λce f=>
 vK (gV g false (unV .not ce)) λcf=>
 vK (az g (.bool true) cf) λp=>
 vK (gV p false (am 6 a)) λcg=>
 vK (gV p false (ldV f cg)) λch=>
 vK (gV p false (ag .i .lss ch (.int .i64 0))) λci=>
 vK (az p (.bool true) ci) λq=>
 vK (gV q false (am 6 a)) λcj=>
 vK (gV q false (ldV f cj)) λck=>
 vK (gV q false (ag .i .gtr ck (.int .i64 2))) λcl=>
 vK (az q (.bool true) cl) λcm=>
 aA cm (
 vK ((aE #[(.slice none 0 0),(.slice none 0 0),(.int .i64 0),(.int .i64 0),(.int .i64 0)] []).map .agg) λcn=>
 stK 5 b cn f λed aa=>
 vK (aH 5 aa b) λco=>
 R (.tuple #[co,(.int .i64 6)]) aa) (
 vK (am 6 a) λcp=>
 vK (ldV f cp) λcq=>
 vK (am 7 a) λcr=>
 vK (ldV f cr) λcs=>
 ae prog ms #[cq,a1,cs] f λab ct=>
 vK (aF ab 0) λcu=>
 vK (aF ab 1) λac=>
 vK (am 0 d) λcv=>
 stK 1 cv cu ct λee r=>
 vK (ag .i .neq ac (.int .i64 0)) λcw=>
 aA cw (
 vK ((aE #[(.slice none 0 0),(.slice none 0 0),(.int .i64 0),(.int .i64 0),(.int .i64 0)] []).map .agg) λcx=>
 stK 5 b cx r λef ad=>
 vK (aH 5 ad b) λcy=>
 R (.tuple #[cy,ac]) ad) (
 vK (am 6 a) λcz=>
 vK (ldV r cz) λc0=>
 vK (am 8 a) λc1=>
 vK (ldV r c1) λc2=>
 ae prog ms #[c0,a2,c2] r λah c3=>
 vK (aF ah 0) λc4=>
 vK (aF ah 1) λai=>
 vK (am 1 d) λc5=>
 stK 1 c5 c4 c3 λeg v=>
 vK (ag .i .neq ai (.int .i64 0)) λc6=>
 aA c6 (
 vK ((aE #[(.slice none 0 0),(.slice none 0 0),(.int .i64 0),(.int .i64 0),(.int .i64 0)] []).map .agg) λc7=>
 stK 5 b c7 v λeh aj=>
 vK (aH 5 aj b) λc8=>
 R (.tuple #[c8,ai]) aj) (
 vK (aH 5 v d) λc9=>
 stK 5 b c9 v λei ak=>
 vK (aH 5 ak b) λda=>
 R (.tuple #[da,(.int .i64 0)]) ak)))) (
 vK (am 0 a) λdb=>
 vK (ldV c db) λw=>
 dE (λj=>
 vK (ag .i .eql w (.int .i64 0)) λdc=>
 aA dc (
 vK (am 2 a) λdd=>
 vK (ldV c dd) λde=>
 ae prog nN #[de] c λal df=>
 vK (aF al 0) λan=>
 vK (aF al 1) λdg=>
 j [dg,an,an] df) (
 vK (ag .i .eql w (.int .i64 1)) λdh=>
 aA dh (
 vK (am 3 a) λdi=>
 vK (ldV c di) λdj=>
 ae prog wK #[dj] c λao dk=>
 vK (aF ao 0) λap=>
 vK (aF ao 1) λdl=>
 j [dl,ap,ap] dk) (
 vK (ag .i .eql w (.int .i64 2)) λdm=>
 aA dm (
 vK (am 4 a) λdn=>
 vK (ldV c dn) λdp=>
 ae prog mx #[dp] c λaq ar=>
 vK (aF aq 0) λau=>
 vK (aF aq 1) λav=>
 vK (am 5 a) λdq=>
 vK (ldV ar dq) λdr=>
 ae prog mx #[dr] ar λaw ax=>
 vK (aF aw 0) λay=>
 vK (aF aw 1) λds=>
 vK (ag .i .eql av (.int .i64 0)) λdt=>
 aA dt (
 j [ds,au,ay] ax) (
 j [av,au,ay] ax)) (
 j [(.int .i64 0),(.slice none 0 0),(.slice none 0 0)] c))))
 λs ej a3=>
 vK (ag .i .neq (ix s 0) (.int .i64 0)) λdu=>
 aA du (
 vK ((aE #[(.slice none 0 0),(.slice none 0 0),(.int .i64 0),(.int .i64 0),(.int .i64 0)] []).map .agg) λdv=>
 stK 5 b dv a3 λek a4=>
 vK (aH 5 a4 b) λdw=>
 R (.tuple #[dw,(ix s 0)]) a4) (
 ae prog mu #[(ix s 1),a1] a3 λa5 dx=>
 vK (aF a5 0) λdy=>
 vK (aF a5 1) λa6=>
 vK (am 0 d) λdz=>
 stK 1 dz dy dx λel a7=>
 vK (ag .i .neq a6 (.int .i64 0)) λd0=>
 aA d0 (
 vK ((aE #[(.slice none 0 0),(.slice none 0 0),(.int .i64 0),(.int .i64 0),(.int .i64 0)] []).map .agg) λd1=>
 stK 5 b d1 a7 λem a8=>
 vK (aH 5 a8 b) λd2=>
 R (.tuple #[d2,a6]) a8) (
 ae prog mu #[(ix s 2),a2] a7 λa9 d3=>
 vK (aF a9 0) λd4=>
 vK (aF a9 1) λba=>
 vK (am 1 d) λd5=>
 stK 1 d5 d4 d3 λen x=>
 vK (ag .i .neq ba (.int .i64 0)) λd6=>
 aA d6 (
 vK ((aE #[(.slice none 0 0),(.slice none 0 0),(.int .i64 0),(.int .i64 0),(.int .i64 0)] []).map .agg) λd7=>
 stK 5 b d7 x λeo bb=>
 vK (aH 5 bb b) λd8=>
 R (.tuple #[d8,ba]) bb) (
 vK (aH 5 x d) λd9=>
 stK 5 b d9 x λep bc=>
 vK (aH 5 bc b) λea=>
 R (.tuple #[ea,(.int .i64 0)]) bc)))))
theorem KF (H:AQ a0 a1 a2 h R):ae prog wH #[a0,a1,a2] h R:=fk f122 (.s .z (.s (.s .z (.s (.s .z .z) .z)) (.s .z (.s .z (.s (.s .z (.s (.s (.s .z (.s (.s .z .z) .z)) (.s .z (.s (.s .z (.s (.s .z .z) .z)) (.s .z (.s (.s .z (.s (.s .z .z) .z)) (.s .z .z)))))) .z)) (.s .z (.s .z (.s (.s .z (.m 174224571858449890892334881399078511451648 [9,10,11] (.s .z (.s (.s .z .z) (.s .z (.s (.s .z .z) (.s .z (.s (.s .z (.s .z (.s .z (.s .z (.s .z .z))))) .z)))))))) (.s (.s .z (.s (.s .z .z) .z)) (.s .z (.s (.s .z (.s (.s .z .z) .z)) (.s .z (.s (.s .z (.s (.s .z .z) .z)) (.s .z .z)))))))))))))) H
def AP (a0 a1 a2:Value)(h:af)(R:Value→af→Prop):Prop:=
 aP (Value.cells a0) 230 h λb a=>
 vK (am 0 b) λc=>
 vK (ldV a c) λd=>
 vK (ag .i .eql d (.int .i64 3)) λe=>
 aA e (
 vK (am 7 b) λf=>
 vK (ldV a f) λg=>
 vK (am 8 b) λj=>
 vK (ldV a j) λk=>
 R (.tuple #[g,k]) a) (
 R (.tuple #[a1,a2]) a)
theorem KE (H:AP a0 a1 a2 h R):ae prog wG #[a0,a1,a2] h R:=fk f123 (.s .z (.s (.s .z (.s (.s .z .z) .z)) (.s .z .z))) H
def Di (a0:Value)(h:af)(R:Value→af→Prop):Prop:=
 aP (Value.cells a0) 31 h λb e=>
 aP #[(.int .i64 0),(.int .i64 0),(.int .i64 0),(.int .i64 0),(.slice none 0 0),(.slice none 0 0),(.int .i64 0),(.int .i64 0),(.int .i64 0)] 230 e λc a=>
 vK (am 0 b) λf=>
 vK (ldV a f) λg=>
 vK (am 1 b) λi=>
 vK (ldV a i) λj=>
 vK (am 2 b) λk=>
 vK (ldV a k) λl=>
 vK (am 3 b) λm=>
 vK (ldV a m) λn=>
 vK (am 4 b) λo=>
 vK (ldV a o) λp=>
 vK (am 5 b) λq=>
 vK (ldV a q) λr=>
 vK (am 6 b) λs=>
 vK (ldV a s) λt=>
 vK (am 7 b) λu=>
 vK (ldV a u) λv=>
 vK (am 8 b) λw=>
 vK (ldV a w) λx=>
 vK ((aE #[(.int .i64 0),(.int .i64 0),(.int .i64 0),(.int .i64 0),(.slice none 0 0),(.slice none 0 0),(.int .i64 0),(.int .i64 0),(.int .i64 0)] [(0,1,g),(1,1,j),(2,1,l),(3,1,n),(4,1,p),(5,1,r),(6,1,t),(7,1,v),(8,1,x)]).map .agg) λy=>
 stK 9 c y a λaa d=>
 vK (aH 9 d c) λz=>
 R z d
theorem Nf (H:Di a0 h R):ae prog zU #[a0] h R:=fk f124 (.s .z (.s .z .z)) H
def oS (a0:Value)(h:af)(R:Value→af→Prop):Prop:=
 bD h λS=>
 vK (aK a0) λb=>
 vK (am 0 b) λc=>
 vK (am 0 c) λd=>
 qK S (λh=>ldV h d) λe=>
 vK (aK a0) λf=>
 vK (am 3 f) λg=>
 qK S (λh=>ldV h g) λi=>
 ae prog bF #[e] h λj a=>
 S a∧(ae prog q8 #[j,i] a λk l=>
 R k l)
theorem yU (H:oS a0 h R):ae prog fH #[a0] h R:=fk f125 (.s .z (.s (.d (.op 0 .r (.op 1 .r (.op 2 .r (.op 3 .r (.op 4 .r (.op 6 .r (.op 7 .r (.op 8 .r (.op 9 .r (.op 5 .e (.op 10 .n (.op 11 .r .nil))))))))))))) .z)) H
def Bb (a0 a1:Value)(h:af)(R:Value→af→Prop):Prop:=
 vK (ag .i .add a0 a1) λa=>
 vK (ag .i .sub a (.int .i64 1)) λb=>
 vK (ag .i .quo b a1) λc=>
 R c h
theorem KX (H:Bb a0 a1 h R):ae prog q8 #[a0,a1] h R:=fk f126 (.s .z (.s .z .z)) H
def ru (a0:Value)(h:af)(R:Value→af→Prop):Prop:=
 aP #[(.int .i64 0),(.int .i64 0)] 97 h λb l=>
 ae prog l9 #[a0] l λm e=>
 aA m (
 vK ((aE #[(.int .i64 0),(.int .i64 0)] []).map .agg) λn=>
 stK 2 b n e λar f=>
 vK (aH 2 f b) λo=>
 R o f) (
 ae prog jn #[a0] e λp q=>
 aP #[(.int .i64 0),(.slice none 0 0)] 235 q λc r=>
 stK 2 c p r λau a=>
 bD a λS=>
 vK (aK a0) λs=>
 vK (am 15 s) λt=>
 qK S (λa=>ldV a t) λu=>
 vK (am 0 c) λv=>
 qK S (λa=>ldV a v) λw=>
 vK (am 0 c) λx=>
 qK S (λa=>ldV a x) λy=>
 vK (am 1 c) λz=>
 qK S (λa=>ldV a z) λaa=>
 qK S (λa=>aq aa) λab=>
 vK (ag .i .add y ab) λac=>
 ae prog nM #[u,w,ac] a λg d=>
 vK (aF g 0) λad=>
 vK (aF g 1) λah=>
 aA ah (
 vK ((aE #[(.int .i64 0),(.int .i64 0)] [(0,1,(.int .i64 1)),(1,1,ad)]).map .agg) λai=>
 stK 2 b ai d λav j=>
 vK (aH 2 j b) λaj=>
 R aj j) (
 vK (aK a0) λak=>
 vK (am 16 ak) λal=>
 vK (ldV d al) λan=>
 vK ((aE #[(.int .i64 0),(.int .i64 0)] [(0,1,(.int .i64 2)),(1,1,an)]).map .agg) λao=>
 stK 2 b ao d λaw k=>
 vK (aH 2 k b) λap=>
 R ap k))
theorem BL (H:ru a0 h R):ae prog gv #[a0] h R:=fk f127 (.s .z (.s (.s .z (.s (.s .z .z) .z)) (.s .z (.s (.s (.d (.op 0 .r (.op 1 .r (.op 2 .r (.op 3 .r (.op 4 .r (.op 5 .r (.op 6 .r (.op 7 .r (.op 8 .r (.op 9 .r (.op 10 .r (.op 11 .r (.op 12 .n (.op 13 .r (.op 14 .r (.op 15 .r (.op 16 .r (.op 17 .r .nil))))))))))))))))))) (.s .z (.s (.s .z .z) .z))) (.s .z .z))))) H
def oK (a0 a1:Value)(h:af)(R:Value→af→Prop):Prop:=
 bD h λS=>
 vK (aK a0) λe=>
 vK (am 2 e) λf=>
 vK (am 2 f) λg=>
 qK S (λh=>ldV h g) λj=>
 vK (aK a0) λk=>
 vK (am 0 k) λl=>
 qK S (λh=>ldV h l) λm=>
 ae prog bG #[m] h λn c=>
 S c∧(ae prog jJ #[j,a1,n] c λo d=>
 vK (aK a0) λp=>
 vK (am 5 p) λq=>
 vK (am 1 q) λr=>
 vK (am 2 r) λs=>
 vK (ldV d s) λt=>
 aS [(.slice none 0 0),(.int .i64 0)] d λa an b u=>
 vK (ag .i .lss (ix a 1) t) λv=>
 aA v (
 vK (aK a0) λw=>
 vK (am 5 w) λx=>
 vK (am 1 x) λy=>
 vK (am 0 y) λz=>
 vK (ldV b z) λaa=>
 vK (ag .i .add aa (ix a 1)) λab=>
 ae prog ke #[a0,ab,o,(ix a 0)] b λac ad=>
 vK (ag .i .add (ix a 1) (.int .i64 1)) λah=>
 u [ac,ah] ad) (
 vK (aK a0) λai=>
 vK (am 15 ai) λaj=>
 vK (ldV b aj) λak=>
 ae prog pY #[ak,a1,(ix a 0)] b λao al=>
 R (.tuple #[]) al))
theorem yM (H:oK a0 a1 h R):ae prog kc #[a0,a1] h R:=fk f128 (.s (.d (.op 0 .r (.op 1 .r (.op 2 .r (.op 3 .r (.op 4 .r (.op 5 .r (.op 6 .r (.op 7 .r (.op 8 .r (.op 9 .r (.op 10 .e (.op 11 .n (.op 12 .r .nil)))))))))))))) (.s .z (.s (.s .z (.l 2198989701216 [5,25] (.s .z (.s (.s .z .z) (.s (.s .z .z) .z))))) .z))) H
def qg (a0:Value)(h:af)(R:Value→af→Prop):Prop:=
 ae prog jn #[a0] h λt u=>
 aP #[(.int .i64 0),(.slice none 0 0)] 235 u λj v=>
 stK 2 j t v λca k=>
 vK (aK a0) λw=>
 vK (am 15 w) λx=>
 vK (ldV k x) λy=>
 ae prog mm #[y] k λl z=>
 mkK (.int .i64 0) 2 1 8 l l z λe m=>
 vK (am 1 j) λaa=>
 vK (ldV m aa) λn=>
 vK (aq n) λab=>
 aS [(.int .i64 0)] m λf cb b ac=>
 vK (ag .i .lss (ix f 0) ab) λad=>
 aA ad (
 vK (aR 1 n (ix f 0)) λah=>
 vK (ldV b ah) λai=>
 bD b λS=>
 vK (aK a0) λaj=>
 vK (am 15 aj) λak=>
 qK S (λb=>ldV b ak) λal=>
 vK (am 0 j) λan=>
 qK S (λb=>ldV b an) λao=>
 vK (ag .i .add ao (ix f 0)) λap=>
 ae prog pX #[al,ap] b λo ar=>
 vK (aF o 0) λp=>
 vK (aF o 1) λcc=>
 vK (aq p) λau=>
 aS [(.int .i64 0)] ar λc cd g av=>
 vK (ag .i .lss (ix c 0) au) λaw=>
 aA aw (
 vK (aR 1 p (ix c 0)) λax=>
 vK (ldV g ax) λay=>
 vK (aR 1 e (ix c 0)) λaz=>
 vK (ldV g az) λa1=>
 vK (ag .i .mul ai ay) λa2=>
 vK (ag .i .add a1 a2) λa3=>
 vK (aR 1 e (ix c 0)) λa4=>
 stK 1 a4 a3 g λce a5=>
 vK (ag .i .add (ix c 0) (.int .i64 1)) λa6=>
 av [a6] a5) (
 vK (ag .i .add (ix f 0) (.int .i64 1)) λa7=>
 ac [a7] g)) (
 vK (aK a0) λa8=>
 vK (am 1 a8) λa9=>
 vK (ldV b a9) λba=>
 ae prog aO #[ba] b λq bb=>
 vK (aq e) λbc=>
 aS [(.int .i64 0)] bb λd cf a bd=>
 vK (ag .i .lss (ix d 0) bc) λbe=>
 aA be (
 vK (aR 1 e (ix d 0)) λbf=>
 vK (ldV a bf) λbg=>
 bD a λS=>
 vK (aK a0) λbh=>
 vK (am 1 bh) λbi=>
 qK S (λa=>ldV a bi) λbj=>
 vK (aK a0) λbk=>
 vK (am 5 bk) λbl=>
 vK (am 1 bl) λbm=>
 vK (am 0 bm) λbn=>
 qK S (λa=>ldV a bn) λbo=>
 vK (ag .i .quo (ix d 0) q) λbp=>
 vK (ag .i .add bo bp) λbq=>
 vK (aK a0) λbr=>
 vK (am 16 br) λbs=>
 qK S (λa=>ldV a bs) λbt=>
 vK (ag .i .rem (ix d 0) q) λbu=>
 vK (aK a0) λbv=>
 vK (am 1 bv) λbw=>
 qK S (λa=>ldV a bw) λbx=>
 ae prog co #[bx] a λbz r=>
 S r∧(ae prog mC #[bg,bz] r λb0 s=>
 S s∧(ae prog eK #[bj,bq,bt,bu,b0] s λcg b1=>
 vK (ag .i .add (ix d 0) (.int .i64 1)) λb2=>
 bd [b2] b1))) (
 vK (aK a0) λb3=>
 vK (am 16 b3) λb4=>
 vK (ldV a b4) λb5=>
 vK (ag .i .add b5 (.int .i64 1)) λb6=>
 vK (aK a0) λb7=>
 vK (am 16 b7) λb8=>
 stK 1 b8 b6 a λch b9=>
 R (.tuple #[]) b9))
theorem As (H:qg a0 h R):ae prog kU #[a0] h R:=fk f129 (.s .z (.s .z (.s (.s .z (.l 576460752286647280 [24] (.s .z (.s (.s .z .z) (.s (.s .z (.s (.d (.op 0 .r (.op 1 .r (.op 2 .r (.op 3 .r (.op 4 .r (.op 5 .r (.op 6 .r (.op 7 .r (.op 8 .n (.op 9 .r (.op 10 .r (.op 11 .r (.op 12 .r (.op 13 .r .nil))))))))))))))) (.s .z (.l 288221580058690304 [43] (.s .z (.s (.s .z .z) (.s (.s .z .z) .z))))))) .z))))) (.s .z (.s (.s .z (.l 2535301200382671826698568210432 [66] (.s .z (.s (.s .z .z) (.s (.s .z (.d (.op 0 .r (.op 1 .r (.op 2 .r (.op 3 .r (.op 4 .r (.op 5 .r (.op 6 .r (.op 7 .r (.op 8 .r (.op 9 .r (.op 10 .r (.op 11 .r (.op 12 .r (.op 13 .r (.op 14 .r (.op 15 .r (.op 16 .r (.op 17 .r (.op 18 .r (.op 19 .r (.op 20 .r (.op 21 .r (.op 22 .r (.op 23 .r (.op 24 .r (.op 25 .r (.op 26 .e (.op 27 .e (.op 28 .n .nil))))))))))))))))))))))))))))))) .z))))) .z))))) H
def qh (a0:Value)(h:af)(R:Value→af→Prop):Prop:=
 vK (aK a0) λa=>
 vK (am 15 a) λb=>
 vK (ldV h b) λc=>
 ae prog mh #[c] h λd e=>
 R d e
theorem At (H:qh a0 h R):ae prog iL #[a0] h R:=fk f131 (.s .z (.s .z .z)) H
def hG (a0:Value)(h:af)(R:Value→af→Prop):Prop:=
 dE (λc=>
 vK (aq a0) λe=>
 vK (ag .i .lss e (.int .i64 1)) λf=>
 aA f (
 Jz h λs g=>
 c [] g) (
 c [] h))
 λt u d=>
 vK (aR 1 a0 (.int .i64 0)) λj=>
 vK (ldV d j) λk=>
 aS [k,(.int .i64 1)] d λa v b l=>
 vK (aq a0) λm=>
 vK (ag .i .lss (ix a 1) m) λn=>
 aA n (
 vK (aR 1 a0 (ix a 1)) λo=>
 vK (ldV b o) λp=>
 vK (iG (ix a 0) p) λq=>
 vK (ag .i .add (ix a 1) (.int .i64 1)) λr=>
 l [q,r] b) (
 R (ix a 0) b)
theorem nr (H:hG a0 h R):ae prog fb #[a0] h R:=fk f132 (.s .z (.j 480 [] (.s .z (.s .z .z)) (.s .z (.s (.s .z (.l 16773144 [3,4] (.s (.s .z (.s .z .z)) (.s .z .z)))) (.s .z .z))))) H
def Lt (a0:Value)(h:af)(R:Value→af→Prop):Prop:=
 aP (Value.cells a0) 31 h λb c=>
 vK (am 0 b) λm=>
 vK (ldV c m) λn=>
 vK (ag .i .lss n (.int .i64 0)) λg=>
 vK (gV g false (am 0 b)) λo=>
 vK (gV g false (ldV c o)) λp=>
 vK (gV g false (ag .i .geq p (.int .i64 4))) λq=>
 vK (az g (.bool true) q) λd=>
 vK (gV d false (am 1 b)) λr=>
 vK (gV d false (ldV c r)) λt=>
 gK d false (λu=>ae prog oH #[t] c u) c λv e=>
 vK (gV d false (ag .s .eql v (.string ⟨#[]⟩))) λw=>
 vK (az d (.bool true) w) λx=>
 aA x (
 R (.bool false) e) (
 vK (am 0 b) λy=>
 vK (ldV e y) λz=>
 vK (ag .i .neq z (.int .i64 3)) λa=>
 vK (gV a false (am 7 b)) λaa=>
 vK (gV a false (ldV e aa)) λab=>
 gK a false (λac=>ae prog rh #[ab] e ac) e λad k=>
 vK (gV a false (some ad)) λj=>
 vK (gV j true (am 8 b)) λah=>
 vK (gV j true (ldV k ah)) λai=>
 gK j true (λaj=>ae prog rh #[ai] k aj) k λak l=>
 vK (gV a false (az j ak (.bool false))) λal=>
 vK (gV a false (some al)) λf=>
 vK (gV f true (am 6 b)) λan=>
 vK (gV f true (ldV l an)) λao=>
 gK f true (λap=>ae prog wO #[ao] l ap) l λaq ar=>
 vK (gV f true (ag .s .neq aq (.string ⟨#[]⟩))) λau=>
 vK (gV a false (az f au (.bool false))) λav=>
 vK (az a (.bool true) av) λaw=>
 R aw ar)
theorem Tg (H:Lt a0 h R):ae prog Kn #[a0] h R:=fk f133 (.s .z (.s (.s .z (.s (.s .z .z) .z)) (.s .z .z))) H
def Hf (a0:Value)(h:af)(R:Value→af→Prop):Prop:=
 vK (ag .i .geq a0 (.int .i64 1)) λa=>
 vK (gV a true (some a0)) λb=>
 vK (gV a true (ag .i .leq b (.int .i64 65536))) λc=>
 vK (az a c (.bool false)) λd=>
 R d h
theorem QL (H:Hf a0 h R):ae prog rh #[a0] h R:=fk f134 (.s .z (.s .z .z)) H
def Dg (a0 a1 a2:Value)(h:af)(R:Value→af→Prop):Prop:=
 aP (Value.cells a0) 31 h λa b=>
 vK (am 0 a) λr=>
 vK (ldV b r) λs=>
 vK (ag .i .eql s (.int .i64 3)) λt=>
 aA t (
 vK (am 6 a) λu=>
 vK (ldV b u) λv=>
 vK (am 7 a) λw=>
 vK (ldV b w) λx=>
 ae prog jD #[v,a1,x] b λe c=>
 vK (aF e 0) λf=>
 vK (aF e 1) λg=>
 vK (ag .i .eql g (.int .i64 0)) λy=>
 aA y (
 vK (am 6 a) λz=>
 vK (ldV c z) λaa=>
 vK (am 8 a) λab=>
 vK (ldV c ab) λac=>
 ae prog jD #[aa,a2,ac] c λj ad=>
 vK (aF j 0) λah=>
 vK (aF j 1) λai=>
 R (.tuple #[f,ah,ai]) ad) (
 R (.tuple #[f,(.pointer none),g]) c)) (
 vK (aH 9 b a) λaj=>
 ae prog wS #[aj] b λd k=>
 vK (aF d 0) λak=>
 vK (aF d 1) λal=>
 vK (aF d 2) λl=>
 vK (ag .i .neq l (.int .i64 0)) λan=>
 aA an (
 R (.tuple #[(.pointer none),(.pointer none),l]) k) (
 ae prog me #[ak,a1] k λm n=>
 vK (aF m 0) λo=>
 vK (aF m 1) λp=>
 vK (ag .i .eql p (.int .i64 0)) λao=>
 aA ao (
 ae prog me #[al,a2] n λq ap=>
 vK (aF q 0) λaq=>
 vK (aF q 1) λar=>
 R (.tuple #[o,aq,ar]) ap) (
 R (.tuple #[o,(.pointer none),p]) n)))
theorem Nc (H:Dg a0 a1 a2 h R):ae prog zS #[a0,a1,a2] h R:=fk f135 (.s .z (.s (.s .z (.s (.s (.s .z (.s .z (.s .z .z))) (.s .z .z)) .z)) (.s .z (.s (.s .z (.s (.s .z .z) .z)) (.s (.s .z (.s .z (.s .z .z))) (.s .z .z)))))) H
def mK (a0 a1 a2 a3:Value)(h:af)(R:Value→af→Prop):Prop:=
 vK (ag .i .lss a1 (.int .i64 0)) λa=>
 vK (gV a false (some a1)) λf=>
 vK (gV a false (some a0)) λg=>
 vK (gV a false (aK g)) λj=>
 vK (gV a false (am 0 j)) λk=>
 vK (gV a false (ldV h k)) λl=>
 vK (gV a false (ag .i .geq f l)) λm=>
 vK (az a (.bool true) m) λd=>
 vK (gV d false (some a2)) λn=>
 vK (gV d false (ag .i .lss n (.int .i64 0))) λo=>
 vK (az d (.bool true) o) λb=>
 vK (gV b false (some a2)) λp=>
 vK (gV b false (some a0)) λq=>
 vK (gV b false (aK q)) λr=>
 vK (gV b false (am 1 r)) λs=>
 vK (gV b false (ldV h s)) λt=>
 vK (gV b false (ag .i .geq p t)) λu=>
 vK (az b (.bool true) u) λe=>
 vK (gV e false (some a3)) λv=>
 vK (gV e false (ag .i .lss v (.int .i64 0))) λw=>
 vK (az e (.bool true) w) λc=>
 vK (gV c false (some a3)) λx=>
 vK (gV c false (some a0)) λy=>
 vK (gV c false (aK y)) λz=>
 vK (gV c false (am 2 z)) λaa=>
 vK (gV c false (ldV h aa)) λab=>
 vK (gV c false (ag .i .geq x ab)) λac=>
 vK (az c (.bool true) ac) λad=>
 aA ad (
 R (.int .i64 (-1)) h) (
 vK (aK a0) λae=>
 vK (am 0 ae) λah=>
 vK (ldV h ah) λai=>
 vK (ag .i .mul a2 ai) λaj=>
 vK (ag .i .add aj a1) λak=>
 vK (aK a0) λal=>
 vK (am 2 al) λan=>
 vK (ldV h an) λao=>
 vK (ag .i .mul ak ao) λap=>
 vK (ag .i .add ap a3) λaq=>
 R aq h)
theorem xE (H:mK a0 a1 a2 a3 h R):ae prog gB #[a0,a1,a2,a3] h R:=fk f136 (.s .z (.s (.s .z (.s (.s .z .z) .z)) (.s .z .z))) H
def CX (a0:Value)(h:af)(R:Value→af→Prop):Prop:=
 dE (λc=>
 vK (ag .i .lss a0 (.int .i64 1)) λk=>
 aA k (
 c [(.int .i64 1)] h) (
 c [a0] h))
 λd x e=>
 dE (λf=>
 vK (ag .i .gtr (ix d 0) (.int .i64 512)) λl=>
 aA l (
 f [(.int .i64 512)] e) (
 f [(ix d 0)] e))
 λb y m=>
 aS [(.slice none 0 0),(.int .i64 0)] m λa z g n=>
 vK (ag .i .lss (ix a 1) (ix b 0)) λo=>
 aA o (
 mkK (.int .i64 0) 3 1 8 (ix b 0) (ix b 0) g λj p=>
 vK (aR 1 j (ix a 1)) λq=>
 stK 1 q (.int .i64 1) p λaa r=>
 cF #[(.slice none 0 0)] 73 1 [(0,1,j)] r λs t=>
 cG (.slice none 0 0) 73 1 24 (ix a 0) s t λu v=>
 vK (ag .i .add (ix a 1) (.int .i64 1)) λw=>
 n [u,w] v) (
 R (ix a 0) g)
theorem MS (H:CX a0 h R):ae prog jF #[a0] h R:=fk f137 (.s .z (.j 193 [0] (.s .z (.s .z .z)) (.j 769 [0] (.s .z (.s .z .z)) (.s .z (.s (.s .z (.l 16775224 [3,11] (.s .z (.s (.s .z .z) (.s (.s .z (.s .z (.s .z .z))) .z))))) (.s .z .z)))))) H
def AM (a0 a1 a2 a3 a4 a5:Value)(h:af)(R:Value→af→Prop):Prop:=
 aP (Value.cells a0) 110 h λb y=>
 aP aD 110 y λj c=>
 vK (am 11 b) λz=>
 vK (ldV c z) λaa=>
 vK (aR 1 aa a1) λab=>
 vK (ldV c ab) λac=>
 vK (ag .i .add a3 a4) λad=>
 vK ((aE #[(.int .i64 0),(.slice none 0 0),(.int .i64 0),(.int .i64 0),(.int .i64 0),(.bool false)] [(0,1,a1),(1,1,ac),(2,1,a2),(3,1,a3),(4,1,ad),(5,1,a5)]).map .agg) λae=>
 aP #[(.int .i64 0),(.slice none 0 0),(.int .i64 0),(.int .i64 0),(.int .i64 0),(.bool false)] 215 c λk ah=>
 stK 6 k ae ah λba a=>
 dE (λd=>
 bD a λS=>
 vK (am 13 b) λai=>
 qK S (λa=>ldV a ai) λe=>
 qK S (λa=>aH 6 a k) λf=>
 (cF #[] 215 0 [] a λl g=>
 S g∧((cG (.agg #[.int .i64 0,.slice none 0 0,.int .i64 0,.int .i64 0,.int .i64 0,.bool false]) 215 6 64 l e g λaj m=>
 S m∧(cF #[(.int .i64 0),(.slice none 0 0),(.int .i64 0),(.int .i64 0),(.int .i64 0),(.bool false)] 215 1 [(0,6,f)] m λak n=>
 S n∧(cG (.agg #[.int .i64 0,.slice none 0 0,.int .i64 0,.int .i64 0,.int .i64 0,.bool false]) 215 6 64 aj ak n λal o=>
 S o∧(vK (am 13 b) λan=>
 stK 1 an al o λbb ao=>
 d [] ao))))∧(cF #[(.int .i64 0),(.slice none 0 0),(.int .i64 0),(.int .i64 0),(.int .i64 0),(.bool false)] 215 1 [(0,6,f)] g λap p=>
 S p∧(cG (.agg #[.int .i64 0,.slice none 0 0,.int .i64 0,.int .i64 0,.int .i64 0,.bool false]) 215 6 64 l e p λaq q=>
 S q∧(cG (.agg #[.int .i64 0,.slice none 0 0,.int .i64 0,.int .i64 0,.int .i64 0,.bool false]) 215 6 64 aq ap q λar r=>
 S r∧(vK (am 13 b) λau=>
 stK 1 au ar r λbc av=>
 d [] av))))))∧(cF #[(.int .i64 0),(.slice none 0 0),(.int .i64 0),(.int .i64 0),(.int .i64 0),(.bool false)] 215 1 [(0,6,f)] a λaw s=>
 S s∧(cF #[] 215 0 [] s λax t=>
 S t∧(cG (.agg #[.int .i64 0,.slice none 0 0,.int .i64 0,.int .i64 0,.int .i64 0,.bool false]) 215 6 64 ax e t λay u=>
 S u∧(cG (.agg #[.int .i64 0,.slice none 0 0,.int .i64 0,.int .i64 0,.int .i64 0,.bool false]) 215 6 64 ay aw u λaz v=>
 S v∧(vK (am 13 b) λa6=>
 stK 1 a6 az v λbd a7=>
 d [] a7))))))
 λbe bf w=>
 vK (aH 20 w b) λa8=>
 stK 20 j a8 w λbg x=>
 vK (aH 20 x j) λa9=>
 R a9 x
theorem KB (H:AM a0 a1 a2 a3 a4 a5 h R):ae prog qU #[a0,a1,a2,a3,a4,a5] h R:=fk f138 (.s .z (.s .z (.j 34225520640 [] (.d (.op 1 .r (.op 2 .r (.op 4 .r (.alt (.op 0 .e (.alt (.op 3 .e (.op 5 .e (.op 6 .e (.op 7 .r (.op 8 .n .nil))))) (.op 5 .e (.op 3 .e (.op 6 .e (.op 7 .r (.op 8 .n .nil))))))) (.op 5 .e (.op 0 .e (.op 3 .e (.op 6 .e (.op 7 .r (.op 8 .n .nil))))))))))) (.s .z .z)))) H
def gm (a0:Value)(h:af)(R:Value→af→Prop):Prop:=
 vK (ag .sl .eql a0 (.slice none 0 0)) λa=>
 aA a (
 R (.slice none 0 0) h) (
 cF #[] 22 0 [] h λb c=>
 cG (.int .u16 0) 22 1 2 b a0 c λd e=>
 R d e)
theorem lP (H:gm a0 h R):ae prog cQ #[a0] h R:=fk f139 (.s .z (.s (.s .z (.s (.s .z .z) .z)) (.s .z .z))) H
def qk (a0 a1:Value)(h:af)(R:Value→af→Prop):Prop:=
 aP #[(.int .i64 0),(.slice none 0 0)] 235 h λc a=>
 vK (ag .i .lss a1 (.int .i64 0)) λb=>
 vK (gV b false (some a1)) λg=>
 vK (gV b false (some a0)) λj=>
 vK (gV b false (aK j)) λk=>
 vK (gV b false (am 1 k)) λl=>
 vK (gV b false (ldV a l)) λm=>
 vK (gV b false (aq m)) λn=>
 vK (gV b false (ag .i .geq g n)) λo=>
 vK (az b (.bool true) o) λp=>
 aA p (
 vK ((aE #[(.int .i64 0),(.slice none 0 0)] []).map .agg) λq=>
 stK 2 c q a λak d=>
 vK (aH 2 d c) λr=>
 R r d) (
 bD a λS=>
 vK (aK a0) λs=>
 vK (am 1 s) λt=>
 qK S (λa=>ldV a t) λu=>
 vK (aR 2 u a1) λv=>
 vK (am 0 v) λw=>
 qK S (λa=>ldV a w) λx=>
 vK (aK a0) λy=>
 vK (am 1 y) λz=>
 qK S (λa=>ldV a z) λaa=>
 vK (aR 2 aa a1) λab=>
 vK (am 1 ab) λac=>
 qK S (λa=>ldV a ac) λad=>
 ae prog cC #[ad] a λah e=>
 S e∧(vK ((aE #[(.int .i64 0),(.slice none 0 0)] [(0,1,x),(1,1,ah)]).map .agg) λai=>
 stK 2 c ai e λal f=>
 vK (aH 2 f c) λaj=>
 R aj f))
theorem Av (H:qk a0 a1 h R):ae prog bu #[a0,a1] h R:=fk f140 (.s .z (.s (.s .z (.s (.s .z .z) .z)) (.s (.d (.op 0 .r (.op 1 .r (.op 2 .r (.op 3 .r (.op 4 .r (.op 5 .r (.op 6 .r (.op 7 .r (.op 8 .r (.op 9 .r (.op 10 .r (.op 11 .r (.op 12 .r (.op 13 .r (.op 14 .r (.op 15 .r (.op 16 .e (.op 17 .r (.op 18 .n .nil)))))))))))))))))))) .z))) H
def mM (a0:Value)(h:af)(R:Value→af→Prop):Prop:=
 vK (aK a0) λa=>
 vK (am 2 a) λb=>
 vK (ldV h b) λc=>
 R c h
theorem xG (H:mM a0 h R):ae prog gC #[a0] h R:=fk f141 (.s .z (.s .z .z)) H
def tD (a0:Value)(h:af)(R:Value→af→Prop):Prop:=
 vK (aK a0) λa=>
 vK (am 11 a) λb=>
 vK (ldV h b) λc=>
 vK (aq c) λd=>
 vK (aK a0) λe=>
 vK (am 6 e) λf=>
 vK (ldV h f) λg=>
 vK (aq g) λj=>
 vK (ag .i .eql d j) λk=>
 R k h
theorem DN (H:tD a0 h R):ae prog nU #[a0] h R:=fk f142 (.s .z (.s .z .z)) H
def xZ (a0 a1:Value)(h:af)(R:Value→af→Prop):Prop:=
 vK (ag .i .lss a1 (.int .i64 1)) λw=>
 aA w (
 R a0 h) (
 vK (ag .i .gtr a1 (.int .i64 64)) λx=>
 aA x (
 R (.int .i64 0) h) (
 vK ((aE #[(.int .u64 0),(.int .u64 0)] [(0,1,(.int .u64 0)),(1,1,(.int .u64 1))]).map .agg) λy=>
 aP #[(.int .u64 0),(.int .u64 0)] 293 h λc z=>
 stK 2 c y z λci aa=>
 vK (ag .i .sub a1 (.int .i64 1)) λab=>
 aS [(.int .i64 0)] aa λp cj n ac=>
 vK (ag .i .lss (ix p 0) ab) λad=>
 aA ad (
 vK (aH 2 n c) λah=>
 ae prog dN #[ah,(.int .u64 0)] n λai aj=>
 stK 2 c ai aj λck ak=>
 vK (ag .i .add (ix p 0) (.int .i64 1)) λal=>
 ac [al] ak) (
 ae prog eT #[a0] n λam an=>
 vK ((aE #[(.int .u64 0),(.int .u64 0)] [(0,1,(.int .u64 0)),(1,1,am)]).map .agg) λao=>
 aP #[(.int .u64 0),(.int .u64 0)] 293 an λj ap=>
 stK 2 j ao ap λcl aq=>
 vK ((aE #[(.int .u64 0),(.int .u64 0)] []).map .agg) λar=>
 aP #[(.int .u64 0),(.int .u64 0)] 293 aq λb au=>
 stK 2 b ar au λcm av=>
 aS [(.int .i64 127)] av λo cn a aw=>
 vK (ag .i .geq (ix o 0) a1) λax=>
 aA ax (
 bD a λS=>
 qK S (λa=>aH 2 a b) λay=>
 qK S (λa=>aH 2 a j) λaz=>
 ae prog gy #[az,(ix o 0)] a λa2 q=>
 S q∧(ae prog dN #[ay,a2] q λa3 a4=>
 stK 2 b a3 a4 λco a5=>
 vK (ag .i .sub (ix o 0) (.int .i64 1)) λa6=>
 aw [a6] a5)) (
 vK (aH 2 a j) λa7=>
 aP #[(.int .u64 0),(.int .u64 0)] 293 a λd a8=>
 stK 2 d a7 a8 λcp a9=>
 aS [a1] a9 λe cq f r=>
 vK (ag .i .lss (ix e 0) (.int .i64 128)) λba=>
 aA ba (
 vK (aH 2 f j) λbb=>
 ae prog gy #[bb,(ix e 0)] f λbc s=>
 vK (ag .i .eql bc (.int .u64 1)) λbd=>
 aA bd (
 vK ((aE #[(.int .u64 0),(.int .u64 0)] [(0,1,(.int .u64 0)),(1,1,(.int .u64 1))]).map .agg) λbe=>
 aP #[(.int .u64 0),(.int .u64 0)] 293 s λk bf=>
 stK 2 k be bf λcr bg=>
 aS [(.int .i64 0)] bg λt cs g bh=>
 vK (ag .i .lss (ix t 0) (ix e 0)) λbi=>
 aA bi (
 vK (aH 2 g k) λbj=>
 ae prog dN #[bj,(.int .u64 0)] g λbk bl=>
 stK 2 k bk bl λct bm=>
 vK (ag .i .add (ix t 0) (.int .i64 1)) λbn=>
 bh [bn] bm) (
 vK (aH 2 g d) λbo=>
 vK (aH 2 g k) λbp=>
 ae prog oh #[bo,bp] g λbq br=>
 stK 2 d bq br λcu bs=>
 vK (ag .i .add (ix e 0) (.int .i64 1)) λbt=>
 r [bt] bs)) (
 vK (ag .i .add (ix e 0) (.int .i64 1)) λbu=>
 r [bu] s)) (
 vK (aH 2 f d) λbv=>
 vK (aH 2 f c) λbw=>
 ae prog iM #[bv,bw] f λbx l=>
 vK (unV .not bx) λbz=>
 dE (λu=>
 vK (ag .i .lss a0 (.int .i64 0)) λb0=>
 aA b0 (
 vK (aH 2 l c) λb1=>
 vK (aH 2 l d) λb2=>
 ae prog iM #[b1,b2] l λb3 b4=>
 u [b3] b4) (
 u [bz] l))
 λb5 cv m=>
 aA (ix b5 0) (
 vK (aH 2 m b) λb6=>
 vK ((aE #[(.int .u64 0),(.int .u64 0)] [(0,1,(.int .u64 0)),(1,1,(.int .u64 1))]).map .agg) λb7=>
 ae prog gx #[b6,b7] m λb8 b9=>
 stK 2 b b8 b9 λcw v=>
 vK (aH 2 v b) λca=>
 vK (ag .i .lss a0 (.int .i64 0)) λcb=>
 ae prog dc #[ca,cb] v λcc cd=>
 R cc cd) (
 vK (aH 2 m b) λce=>
 vK (ag .i .lss a0 (.int .i64 0)) λcf=>
 ae prog dc #[ce,cf] m λcg ch=>
 R cg ch))))))
theorem Im (H:xZ a0 a1 h R):ae prog iW #[a0,a1] h R:=fk f143 (.s .z (.s (.s .z (.s (.s .z .z) .z)) (.s (.s .z (.s (.s .z .z) .z)) (.s .z (.s (.s .z (.l 65011712 [21] (.s .z (.s (.s .z .z) (.s .z .z))))) (.s .z (.s .z (.s (.s .z (.l 1098437886208 [8] (.s (.s .z (.s .z .z)) (.s (.d (.op 0 .r (.op 1 .r (.op 2 .r (.op 3 .e (.op 4 .n (.op 5 .n .nil))))))) .z)))) (.s .z (.s (.s .z (.l 1152917106560338944 [10] (.s (.s .z (.s .z .z)) (.s (.s .z (.s (.s .z (.s (.s .z (.l 139611588448485376 [52] (.s .z (.s (.s .z .z) (.s .z .z))))) .z)) .z)) .z)))) (.s .z (.j 571849066284996104192 [12] (.s .z (.s .z .z)) (.s (.s .z (.s .z .z)) (.s .z .z)))))))))))))) H
def FE (a0 a1 a2:Value)(h:af)(R:Value→af→Prop):Prop:=
 vK (ag .i .lss a2 (.int .i64 1)) λd=>
 vK (gV d false (some a2)) λg=>
 vK (gV d false (ag .i .gtr g (.int .i64 65536))) λj=>
 vK (az d (.bool true) j) λe=>
 vK (gV e false (some a0)) λk=>
 vK (gV e false (ag .i .lss k (.int .i64 0))) λl=>
 vK (az e (.bool true) l) λf=>
 vK (gV f false (some a0)) λm=>
 vK (gV f false (ag .i .gtr m (.int .i64 2))) λn=>
 vK (az f (.bool true) n) λo=>
 aA o (
 R (.int .i64 0) h) (
 vK (ag .i .geq a1 (.int .i64 0)) λb=>
 vK (gV b true (some a1)) λp=>
 vK (gV b true (some a2)) λq=>
 vK (gV b true (ag .i .lss p q)) λr=>
 vK (az b r (.bool false)) λs=>
 aA s (
 R a1 h) (
 vK (ag .i .eql a0 (.int .i64 0)) λt=>
 aA t (
 vK (ag .i .lss a1 (.int .i64 0)) λu=>
 aA u (
 R (.int .i64 0) h) (
 vK (ag .i .sub a2 (.int .i64 1)) λv=>
 R v h)) (
 vK (ag .i .mul (.int .i64 2) a2) λw=>
 vK (ag .i .rem a1 w) λx=>
 aS [x] h λa ak c y=>
 vK (ag .i .lss (ix a 0) (.int .i64 0)) λz=>
 aA z (
 vK (ag .i .mul (.int .i64 2) a2) λaa=>
 vK (ag .i .add (ix a 0) aa) λab=>
 y [ab] c) (
 vK (ag .i .lss (ix a 0) a2) λac=>
 aA ac (
 R (ix a 0) c) (
 vK (ag .i .eql a0 (.int .i64 2)) λad=>
 aA ad (
 vK (ag .i .sub (ix a 0) a2) λae=>
 R ae c) (
 vK (ag .i .mul (.int .i64 2) a2) λah=>
 vK (ag .i .sub ah (.int .i64 1)) λai=>
 vK (ag .i .sub ai (ix a 0)) λaj=>
 R aj c))))))
theorem OQ (H:FE a0 a1 a2 h R):ae prog wJ #[a0,a1,a2] h R:=fk f144 (.s .z (.s (.s .z (.s (.s .z .z) .z)) (.s (.s .z (.s (.s .z .z) .z)) (.s (.s .z (.s (.s (.s .z (.s (.s .z .z) .z)) (.s .z .z)) .z)) (.s .z (.s (.l 69269232550016 [7] (.s (.s .z (.s .z .z)) .z)) (.s (.s .z (.s (.s .z .z) .z)) (.s (.s .z (.s (.s .z .z) .z)) (.s .z .z))))))))) H
end
section
variable {a0 a1 a2 a3 a4 a5 a6:Value}{h:af}{R:Value→af→Prop}
def FD (a0 a1 a2 a3:Value)(h:af)(R:Value→af→Prop):Prop:=
 aP (Value.cells a0) 115 h λb c=>
 vK (aH 5 c b) λd=>
 ae prog CE #[d,a1,a2,a3] c λe a=>
 vK (unV .not e) λf=>
 aA f (
 R (.int .u16 0) a) (
 vK (am 4 b) λg=>
 vK (ldV a g) λj=>
 vK (am 0 b) λk=>
 vK (ldV a k) λl=>
 vK (ag .i .mul a2 l) λm=>
 vK (am 2 b) λn=>
 vK (ldV a n) λo=>
 vK (ag .i .mul m o) λp=>
 vK (am 2 b) λq=>
 vK (ldV a q) λr=>
 vK (ag .i .mul a1 r) λs=>
 vK (ag .i .add p s) λt=>
 vK (ag .i .add t a3) λu=>
 vK (aR 1 j u) λv=>
 vK (ldV a v) λw=>
 R w a)
theorem OP (H:FD a0 a1 a2 a3 h R):ae prog CF #[a0,a1,a2,a3] h R:=fk f145 (.s .z (.s (.s .z (.s (.s .z .z) .z)) (.s .z .z))) H
def qn (a0:Value)(h:af)(R:Value→af→Prop):Prop:=
 vK (aK a0) λa=>
 vK (am 0 a) λb=>
 vK (ldV h b) λc=>
 R c h
theorem Aw (H:qn a0 h R):ae prog eG #[a0] h R:=fk f146 (.s .z (.s .z .z)) H
def yD (a0:Value)(h:af)(R:Value→af→Prop):Prop:=
 vK (ag .i .lss a0 (.int .i64 0)) λa=>
 vK (gV a false (some a0)) λb=>
 vK (gV a false (ldV h (.pointer (some ⟨lY,0,none⟩)))) λc=>
 vK (gV a false (aq c)) λd=>
 vK (gV a false (ag .i .geq b d)) λe=>
 vK (az a (.bool true) e) λf=>
 aA f (
 R (.string ⟨#[]⟩) h) (
 vK (ldV h (.pointer (some ⟨lY,0,none⟩))) λg=>
 vK (aR 1 g a0) λj=>
 vK (ldV h j) λk=>
 R k h)
theorem IQ (H:yD a0 h R):ae prog oH #[a0] h R:=fk f147 (.s .z (.s (.s .z (.s (.s .z .z) .z)) (.s .z .z))) H
def oT (a0 a1:Value)(h:af)(R:Value→af→Prop):Prop:=
 aP (Value.cells a1) 211 h λb c=>
 vK (aH 6 c b) λg=>
 ae prog wT #[g] c λi a=>
 vK (unV .not i) λj=>
 aA j (
 R (.bool false) a) (
 bD a λS=>
 vK (aK a0) λk=>
 vK (am 0 k) λl=>
 qK S (λa=>ldV a l) λm=>
 qK S (λa=>aH 6 a b) λn=>
 ae prog sH #[n] a λo d=>
 S d∧(cF #[(.int .i64 0),(.slice none 0 0),(.int .i64 0),(.int .i64 0),(.int .i64 0),(.bool false)] 211 1 [(0,6,o)] d λp e=>
 S e∧(cG (.agg #[.int .i64 0,.slice none 0 0,.int .i64 0,.int .i64 0,.int .i64 0,.bool false]) 211 6 64 m p e λq f=>
 S f∧(vK (aK a0) λr=>
 vK (am 0 r) λs=>
 stK 1 s q f λu t=>
 R (.bool true) t))))
theorem yV (H:oT a0 a1 h R):ae prog kh #[a0,a1] h R:=fk f148 (.s .z (.s (.s .z (.s (.s .z .z) .z)) (.s (.d (.op 0 .r (.op 1 .r (.op 2 .r (.op 3 .r (.op 4 .r (.op 5 .r (.op 6 .e (.op 7 .e (.op 8 .e (.op 9 .r (.op 10 .r (.op 11 .n .nil))))))))))))) (.s .z .z)))) H
def rN (a0 a1:Value)(h:af)(R:Value→af→Prop):Prop:=
 ae prog io #[a0,a1] h λb a=>
 vK (unV .not b) λc=>
 aA c (
 R (.slice none 0 0) a) (
 vK (aK a0) λd=>
 vK (am 0 d) λe=>
 vK (ldV a e) λf=>
 vK (aR 1 f a1) λg=>
 vK (ldV a g) λi=>
 ae prog db #[i] a λj k=>
 R j k)
theorem B9 (H:rN a0 a1 h R):ae prog ju #[a0,a1] h R:=fk f149 (.s .z (.s (.s .z (.s (.s .z .z) .z)) (.s .z .z))) H
def qy (a0 a1:Value)(h:af)(R:Value→af→Prop):Prop:=
 ae prog ju #[a0,a1] h λb d=>
 ae prog io #[a0,a1] d λe a=>
 aA e (
 vK (aK a0) λf=>
 vK (am 0 f) λg=>
 vK (ldV a g) λj=>
 vK (aR 1 j a1) λk=>
 vK (ldV a k) λc=>
 vK (aR 1 c a1) λl=>
 vK (ldV a l) λm=>
 vK (ag .i .add m (.int .i64 1)) λn=>
 vK (aR 1 c a1) λo=>
 stK 1 o n a λq p=>
 R b p) (
 R b a)
theorem AB (H:qy a0 a1 h R):ae prog gd #[a0,a1] h R:=fk f150 (.s .z (.s .z (.s (.s .z (.s .z .z)) (.s .z .z)))) H
def qA (a0 a1 a2:Value)(h:af)(R:Value→af→Prop):Prop:=
 ae prog io #[a0,a1] h λf d=>
 vK (unV .not f) λa=>
 vK (gV a false (some a2)) λg=>
 vK (gV a false (aq g)) λj=>
 vK (gV a false (some a0)) λk=>
 vK (gV a false (aK k)) λl=>
 vK (gV a false (am 0 l)) λm=>
 vK (gV a false (ldV d m)) λn=>
 vK (gV a false (aq n)) λo=>
 vK (gV a false (ag .i .neq j o)) λp=>
 vK (az a (.bool true) p) λc=>
 vK (gV c false (some a2)) λq=>
 gK c false (λr=>ae prog fC #[q] d r) d λs b=>
 vK (gV c false (ag .i .lss s (.int .i64 0))) λt=>
 vK (az c (.bool true) t) λu=>
 aA u (
 R (.bool false) b) (
 bD b λS=>
 vK (aK a0) λv=>
 vK (am 0 v) λw=>
 qK S (λb=>ldV b w) λx=>
 vK (aK a0) λy=>
 vK (am 0 y) λz=>
 qK S (λb=>ldV b z) λaa=>
 vK (aR 1 aa a1) λab=>
 qK S (λb=>ldV b ab) λac=>
 ae prog w6 #[ac,a2] b λad e=>
 S e∧(vK (aR 1 x a1) λah=>
 stK 1 ah ad e λaj ai=>
 R (.bool true) ai))
theorem AC (H:qA a0 a1 a2 h R):ae prog eN #[a0,a1,a2] h R:=fk f151 (.s .z (.s (.s .z (.s (.s .z .z) .z)) (.s (.d (.op 0 .r (.op 1 .r (.op 2 .r (.op 3 .r (.op 4 .r (.op 5 .r (.op 6 .r (.op 7 .r (.op 8 .r (.op 9 .r (.op 10 .r (.op 11 .r (.op 12 .r (.op 13 .e (.op 14 .r (.op 15 .n .nil))))))))))))))))) (.s .z .z)))) H
def oR (a0 a1 a2:Value)(h:af)(R:Value→af→Prop):Prop:=
 vK (ldV h a1) λd=>
 ae prog nR #[d,a0] h λb a=>
 vK (ag .p .neq b (.pointer none)) λe=>
 aA e (
 bD a λS=>
 qK S (λa=>ldV a a1) λf=>
 vK (aK f) λg=>
 vK (am 7 g) λj=>
 qK S (λa=>ldV a j) λk=>
 qK S (λa=>ldV a a2) λl=>
 vK (ag .i .sub l (.int .i64 1)) λm=>
 ae prog iL #[b] a λn c=>
 S c∧(vK (aR 1 k m) λo=>
 stK 1 o n c λr q=>
 R b q)) (
 R b a)
theorem yT (H:oR a0 a1 a2 h R):ae prog fG #[a0,a1,a2] h R:=fk f152 (.s .z (.s .z (.s (.s .z (.s (.d (.op 0 .r (.op 1 .r (.op 2 .r (.op 3 .r (.op 4 .r (.op 5 .r (.op 6 .r (.op 7 .e (.op 8 .r (.op 9 .n .nil))))))))))) .z)) (.s .z .z)))) H
def tu (a0 a1:Value)(h:af)(R:Value→af→Prop):Prop:=
 vK (aK a0) λg=>
 vK (am 2 g) λj=>
 vK (ldV h j) λk=>
 ae prog eM #[k,a1] h λb l=>
 vK (aF b 0) λm=>
 vK (aF b 1) λac=>
 aP #[(.int .i64 0),(.int .i64 0),(.int .i64 0),(.int .i64 0),(.int .i64 0),(.int .i64 0),(.int .i64 0),(.int .i64 0),(.int .i64 0),(.int .i64 0)] 65 l λc n=>
 stK 10 c m n λad a=>
 bD a λS=>
 vK (aK a0) λo=>
 vK (am 0 o) λp=>
 qK S (λa=>ldV a p) λq=>
 vK (aK a0) λr=>
 vK (am 1 r) λs=>
 qK S (λa=>ldV a s) λt=>
 vK (aK a0) λu=>
 vK (am 2 u) λv=>
 qK S (λa=>ldV a v) λw=>
 qK S (λa=>aH 10 a c) λx=>
 ae prog gE #[w] a λy d=>
 S d∧(ae prog l8 #[q,t,y,x] d λe f=>
 vK (aF e 0) λz=>
 vK (aF e 1) λaa=>
 vK (ag .i .neq aa (.int .i64 0)) λab=>
 aA ab (
 R (.pointer none) f) (
 R z f))
theorem DK (H:tu a0 a1 h R):ae prog nR #[a0,a1] h R:=fk f153 (.s .z (.s .z (.s (.d (.op 0 .r (.op 1 .r (.op 2 .r (.op 3 .r (.op 4 .r (.op 5 .r (.op 6 .r (.op 7 .r (.op 8 .r (.op 9 .r (.op 10 .r (.op 11 .r (.op 13 .r (.op 12 .e (.op 14 .n (.op 15 .r (.op 16 .r (.op 17 .r (.op 18 .r (.op 19 .r .nil))))))))))))))))))))) (.s (.s .z (.s (.s .z .z) .z)) (.s .z .z))))) H
def rF (a0 a1 a2:Value)(h:af)(R:Value→af→Prop):Prop:=
 aP (Value.cells a2) 99 h λe d=>
 dE (λf=>
 bD d λS=>
 vK (aK a0) λac=>
 vK (am 2 ac) λad=>
 qK S (λd=>ldV d ad) λg=>
 vK (am 1 e) λah=>
 qK S (λd=>ldV d ah) λj=>
 (ae prog eM #[g,j] d λk l=>
 S l∧(vK (aF k 0) λai=>
 vK (aF k 1) λcd=>
 aP #[(.int .i64 0),(.int .i64 0),(.int .i64 0),(.int .i64 0),(.int .i64 0),(.int .i64 0),(.int .i64 0),(.int .i64 0),(.int .i64 0),(.int .i64 0)] 65 l λm n=>
 S n∧(stK 10 m ai n λce o=>
 S o∧(f [m] o))))∧(aP #[(.int .i64 0),(.int .i64 0),(.int .i64 0),(.int .i64 0),(.int .i64 0),(.int .i64 0),(.int .i64 0),(.int .i64 0),(.int .i64 0),(.int .i64 0)] 65 d λp q=>
 S q∧(ae prog eM #[g,j] q λr s=>
 S s∧(vK (aF r 0) λaj=>
 vK (aF r 1) λcf=>
 stK 10 p aj s λcg t=>
 S t∧(f [p] t)))))
 λu ch a=>
 vK (aK a0) λak=>
 vK (am 7 ak) λal=>
 vK (ldV a al) λan=>
 vK (ag .i .sub a1 (.int .i64 1)) λao=>
 vK (aR 1 an ao) λap=>
 vK (ldV a ap) λv=>
 vK (am 2 e) λaq=>
 vK (am 0 aq) λar=>
 vK (ldV a ar) λau=>
 vK (ag .i .eql au (.int .i64 1)) λav=>
 aA av (
 bD a λS=>
 vK (aK a0) λaw=>
 vK (am 0 aw) λax=>
 qK S (λa=>ldV a ax) λay=>
 vK (aK a0) λaz=>
 vK (am 0 az) λa3=>
 qK S (λa=>ldV a a3) λa4=>
 ae prog bE #[ay] a λa5 w=>
 S w∧(ae prog aO #[a4] w λa6 c=>
 vK (ag .i .mul a5 a6) λx=>
 bD c λS=>
 vK (aK a0) λa7=>
 vK (am 2 a7) λa8=>
 qK S (λc=>ldV c a8) λa9=>
 vK (am 2 e) λba=>
 vK (am 1 ba) λbb=>
 qK S (λc=>ldV c bb) λbc=>
 vK (aK a0) λbd=>
 vK (am 0 bd) λbe=>
 qK S (λc=>ldV c be) λbf=>
 ae prog gE #[a9] c λbg y=>
 S y∧(vK (mT false 1 2 bg) λbh=>
 ae prog bG #[bf] y λbi z=>
 S z∧(ae prog jJ #[bh,bc,bi] z λbj bk=>
 vK (ag .i .mul bj x) λbl=>
 ae prog dd #[a0,a1,(.int .i64 0),bl,x,(.bool false)] bk λci bm=>
 vK (ag .i .add (.int .i64 1) a1) λbn=>
 ae prog dd #[a0,a1,bn,(.int .i64 0),v,(.bool true)] bm λcj bo=>
 R (.tuple #[]) bo)))) (
 vK (aK a0) λbp=>
 vK (am 1 bp) λbq=>
 vK (ldV a bq) λbr=>
 ae prog aO #[br] a λaa bs=>
 vK (ag .i .add (.int .i64 1) a1) λbt=>
 ae prog dd #[a0,a1,bt,(.int .i64 0),v,(.bool false)] bs λck b=>
 bD b λS=>
 vK (am 2 e) λbu=>
 vK (am 1 bu) λbv=>
 qK S (λb=>ldV b bv) λbw=>
 vK (aK a0) λbx=>
 vK (am 1 bx) λbz=>
 qK S (λb=>ldV b bz) λb0=>
 vK (am 1 (ix u 0)) λb1=>
 vK (am 0 b1) λb2=>
 qK S (λb=>ldV b b2) λb3=>
 vK (am 1 (ix u 0)) λb4=>
 vK (am 2 b4) λb5=>
 qK S (λb=>ldV b b5) λb6=>
 vK (ag .i .mul b6 aa) λb7=>
 ae prog bE #[b0] b λb8 ab=>
 S ab∧(vK (ag .i .mul bw b8) λb9=>
 vK (ag .i .add b9 b3) λca=>
 vK (ag .i .mul ca aa) λcb=>
 ae prog dd #[a0,a1,(.int .i64 1),cb,b7,(.bool true)] ab λcl cc=>
 R (.tuple #[]) cc))
theorem BU (H:rF a0 a1 a2 h R):ae prog mz #[a0,a1,a2] h R:=fk f154 (.s .z (.j 4190400 [6] (.d (.op 0 .r (.op 1 .r (.op 2 .r (.op 3 .r (.op 4 .r (.op 5 .r (.alt (.op 6 .e (.op 7 .r (.op 8 .r (.op 9 .r (.op 10 .e (.op 11 .e (.op 12 .r .nil))))))) (.op 10 .e (.op 6 .e (.op 7 .r (.op 8 .r (.op 9 .r (.op 11 .e (.op 12 .r .nil))))))))))))))) (.s .z (.s (.s .z (.s (.s (.d (.op 0 .r (.op 1 .r (.op 2 .r (.op 3 .r (.op 5 .r (.op 6 .r (.op 7 .r (.op 8 .r (.op 4 .e (.op 9 .n (.op 10 .r (.op 11 .r .nil))))))))))))) (.s (.d (.op 0 .r (.op 1 .r (.op 2 .r (.op 3 .r (.op 6 .r (.op 7 .r (.op 8 .r (.op 9 .r (.op 10 .r (.op 11 .r (.op 12 .r (.op 4 .e (.op 5 .r (.op 13 .e (.op 14 .n (.op 15 .r .nil))))))))))))))))) (.s .z (.s .z .z)))) .z)) (.s .z (.s .z (.d (.op 0 .r (.op 1 .r (.op 2 .r (.op 3 .r (.op 4 .r (.op 5 .r (.op 6 .r (.op 7 .r (.op 8 .r (.op 11 .r (.op 12 .r (.op 13 .r (.op 15 .r (.op 17 .r (.op 18 .r (.op 19 .r (.op 20 .r (.op 21 .r (.op 9 .e (.op 10 .r (.op 14 .r (.op 16 .r (.op 22 .n .nil)))))))))))))))))))))))))))))) H
def xk (a0:Value)(h:af)(R:Value→af→Prop):Prop:=
 aP (Value.cells a0) 211 h λa f=>
 aP #[(.int .i64 0),(.slice none 0 0),(.int .i64 0),(.int .i64 0),(.int .i64 0),(.bool false)] 211 f λb c=>
 vK (am 1 a) λg=>
 vK (ldV c g) λi=>
 ae prog db #[i] c λj k=>
 vK (am 1 a) λl=>
 stK 1 l j k λo d=>
 vK (aH 6 d a) λm=>
 stK 6 b m d λp e=>
 vK (aH 6 e b) λn=>
 R n e
theorem Gz (H:xk a0 h R):ae prog sH #[a0] h R:=fk f155 (.s .z (.s .z (.s .z .z))) H
def xj (a0 a1:Value)(h:af)(R:Value→af→Prop):Prop:=
 aP (Value.cells a0) 211 h λc e=>
 aP (Value.cells a1) 211 e λd b=>
 vK (am 2 c) λf=>
 vK (ldV b f) λg=>
 vK (am 2 d) λj=>
 vK (ldV b j) λk=>
 vK (ag .i .eql g k) λa=>
 vK (gV a true (am 3 c)) λl=>
 vK (gV a true (ldV b l)) λm=>
 vK (gV a true (am 3 d)) λn=>
 vK (gV a true (ldV b n)) λo=>
 vK (gV a true (iG m o)) λp=>
 vK (gV a true (am 4 c)) λq=>
 vK (gV a true (ldV b q)) λr=>
 vK (gV a true (am 4 d)) λs=>
 vK (gV a true (ldV b s)) λt=>
 vK (gV a true (pA r t)) λu=>
 vK (gV a true (ag .i .lss p u)) λv=>
 vK (az a v (.bool false)) λw=>
 R w b
theorem Gy (H:xj a0 a1 h R):ae prog sG #[a0,a1] h R:=fk f158 (.s .z (.s .z .z)) H
def yC (a0 a1:Value)(h:af)(R:Value→af→Prop):Prop:=
 ae prog uL #[a0,a1] h λa b=>
 vK (gV a true (some a0)) λc=>
 vK (gV a true (some a1)) λd=>
 gK a true (λe=>ae prog uM #[c,d] b e) b λf g=>
 vK (gV a true (unV .not f)) λi=>
 vK (az a i (.bool false)) λj=>
 R j g
theorem IP (H:yC a0 a1 h R):ae prog oG #[a0,a1] h R:=fk f159 (.s .z (.s .z .z)) H
def yp (h:af)(R:Value→af→Prop):Prop:=
 vK ((aE #[(.int .i64 0),(.int .i64 0),(.int .i64 0),(.int .i64 0),(.slice none 0 0),(.slice none 0 0),(.int .i64 0),(.int .i64 0),(.int .i64 0)] [(0,1,(.int .i64 3)),(7,1,(.int .i64 2)),(8,1,(.int .i64 1)),(6,1,(.int .i64 0))]).map .agg) λq=>
 ae prog lB #[q,(.int .i64 4),(.int .i64 3)] h λo r=>
 vK (aF o 0) λs=>
 vK (aF o 1) λt=>
 aP #[(.pointer none),(.pointer none),(.int .i64 0)] 46 r λa u=>
 stK 3 a s u λa7 v=>
 ae prog uI #[] v λk b=>
 vK (gV k true (some t)) λw=>
 vK (gV k true (ag .i .eql w (.int .i64 0))) λx=>
 vK (az k x (.bool false)) λg=>
 vK (gV g true (am 0 a)) λy=>
 vK (gV g true (ldV b y)) λz=>
 vK (gV g true (ag .p .neq z (.pointer none))) λaa=>
 vK (az g aa (.bool false)) λj=>
 vK (gV j true (am 1 a)) λab=>
 vK (gV j true (ldV b ab)) λac=>
 vK (gV j true (ag .p .neq ac (.pointer none))) λad=>
 vK (az j ad (.bool false)) λc=>
 vK (gV c true (am 0 a)) λah=>
 vK (gV c true (ldV b ah)) λai=>
 gK c true (λaj=>ae prog eG #[ai] b aj) b λak l=>
 vK (gV c true (ag .i .eql ak (.int .i64 4))) λal=>
 vK (az c al (.bool false)) λd=>
 vK (gV d true (am 0 a)) λan=>
 vK (gV d true (ldV l an)) λao=>
 gK d true (λap=>ae prog bF #[ao] l ap) l λaq m=>
 vK (gV d true (ag .i .eql aq (.int .i64 2))) λar=>
 vK (az d ar (.bool false)) λe=>
 vK (gV e true (am 1 a)) λau=>
 vK (gV e true (ldV m au)) λav=>
 gK e true (λaw=>ae prog eG #[av] m aw) m λax n=>
 vK (gV e true (ag .i .eql ax (.int .i64 3))) λay=>
 vK (az e ay (.bool false)) λf=>
 vK (gV f true (am 1 a)) λa0=>
 vK (gV f true (ldV n a0)) λa1=>
 gK f true (λa2=>ae prog bF #[a1] n a2) n λa3 a4=>
 vK (gV f true (ag .i .eql a3 (.int .i64 1))) λa5=>
 vK (az f a5 (.bool false)) λa6=>
 R a6 a4
theorem IC (H:yp h R):ae prog oD #[] h R:=fk f163 (.s .z (.s .z (.s .z .z))) H
def yq (h:af)(R:Value→af→Prop):Prop:=
 ae prog gA #[(.int .i64 2),(.int .i64 1),(.int .i64 3),(.int .i64 255)] h λf g=>
 vK (aF f 0) λb=>
 vK (aF f 1) λl=>
 vK (ag .i .eql l (.int .i64 0)) λd=>
 vK (gV d true (some b)) λm=>
 vK (gV d true (ag .p .neq m (.pointer none))) λn=>
 vK (az d n (.bool false)) λa=>
 vK (gV a true (some b)) λo=>
 gK a true (λq=>ae prog fN #[o] g q) g λr j=>
 vK (gV a true (aq r)) λs=>
 vK (gV a true (ag .i .eql s (.int .i64 6))) λt=>
 vK (az a t (.bool false)) λc=>
 vK (gV c true (some b)) λu=>
 gK c true (λv=>ae prog eK #[u,(.int .i64 1),(.int .i64 0),(.int .i64 2),(.int .u16 256)] j v) j λw k=>
 vK (gV c true (unV .not w)) λx=>
 vK (az c x (.bool false)) λe=>
 vK (gV e true (some b)) λy=>
 gK e true (λz=>ae prog eK #[y,(.int .i64 1),(.int .i64 0),(.int .i64 2),(.int .u16 255)] k z) k λaa ab=>
 vK (az e aa (.bool false)) λac=>
 R ac ab
theorem ID (H:yq h R):ae prog uH #[] h R:=fk f164 (.s .z (.s .z (.s .z .z))) H
def xr (a0 a1:Value)(h:af)(R:Value→af→Prop):Prop:=
 aP (Value.cells a1) 46 h λc j=>
 vK (aH 3 j c) λq=>
 ae prog ij #[a0,q] j λr a=>
 vK (unV .not r) λs=>
 aA s (
 R (.tuple #[(.pointer none),(.int .i64 6)]) a) (
 bD a λS=>
 vK (am 0 c) λt=>
 qK S (λa=>ldV a t) λu=>
 vK (am 1 c) λv=>
 qK S (λa=>ldV a v) λw=>
 ae prog bF #[u] a λx k=>
 S k∧(ae prog bF #[w] k λy z=>
 ae prog aO #[a0] z λaa ab=>
 ae prog co #[a0] ab λac ad=>
 ae prog gA #[x,y,aa,ac] ad λl m=>
 vK (aF l 0) λb=>
 vK (aF l 1) λn=>
 vK (ag .i .neq n (.int .i64 0)) λah=>
 aA ah (
 R (.tuple #[(.pointer none),n]) m) (
 ae prog bG #[b] m λai aj=>
 aS [(.int .i64 0)] aj λd ba o ak=>
 vK (ag .i .lss (ix d 0) ai) λal=>
 aA al (
 ae prog bE #[b] o λan ao=>
 aS [(.int .i64 0)] ao λe bb p ap=>
 vK (ag .i .lss (ix e 0) an) λaq=>
 aA aq (
 ae prog aO #[b] p λar au=>
 aS [(.int .i64 0)] au λf bc g av=>
 vK (ag .i .lss (ix f 0) ar) λaw=>
 aA aw (
 vK (aH 3 g c) λax=>
 ae prog wZ #[a0,ax,(ix e 0),(ix d 0),(ix f 0)] g λay az=>
 ae prog co #[a0] az λa2 a3=>
 ae prog mC #[ay,a2] a3 λa4 a5=>
 ae prog eK #[b,(ix e 0),(ix d 0),(ix f 0),a4] a5 λbd a6=>
 vK (ag .i .add (ix f 0) (.int .i64 1)) λa7=>
 av [a7] a6) (
 vK (ag .i .add (ix e 0) (.int .i64 1)) λa8=>
 ap [a8] g)) (
 vK (ag .i .add (ix d 0) (.int .i64 1)) λa9=>
 ak [a9] p)) (
 R (.tuple #[b,(.int .i64 0)]) o))))
theorem GE (H:xr a0 a1 h R):ae prog sJ #[a0,a1] h R:=fk f165 (.s .z (.s (.s .z (.s (.s .z .z) .z)) (.s (.d (.op 0 .r (.op 1 .r (.op 3 .r (.op 4 .r (.op 6 .r (.op 8 .r (.op 2 .e (.op 5 .n (.op 7 .n (.op 9 .n (.op 10 .n (.op 11 .r (.op 12 .r (.op 13 .r (.op 14 .r (.op 15 .r .nil))))))))))))))))) (.s (.s .z (.s (.s .z .z) .z)) (.s (.s .z (.l 18446744056529684224 [34] (.s .z (.s (.s .z .z) (.s (.s .z (.s .z (.l 9223371487098963456 [39] (.s .z (.s (.s .z .z) (.s (.s .z (.s .z (.l 4611668426241344512 [44] (.s .z (.s (.s .z .z) (.s (.s .z .z) .z)))))) .z)))))) .z))))) (.s .z .z)))))) H
def AO (a0:Value)(h:af)(R:Value→af→Prop):Prop:=
 vK (ag .i .geq a0 (.int .i64 1)) λa=>
 vK (gV a true (some a0)) λb=>
 vK (gV a true (ag .i .leq b (.int .i64 65536))) λc=>
 vK (az a c (.bool false)) λd=>
 R d h
theorem KD (H:AO a0 h R):ae prog jS #[a0] h R:=fk f166 (.s .z (.s .z .z)) H
def xe (a0 a1 a2:Value)(h:af)(R:Value→af→Prop):Prop:=
 vK (ag .i .lss a0 (.int .i64 0)) λd=>
 vK (gV d false (some a0)) λn=>
 vK (gV d false (ag .i .gtr n (.int .i64 2))) λo=>
 vK (az d (.bool true) o) λb=>
 vK (gV b false (some a1)) λp=>
 gK b false (λq=>ae prog mq #[p] h q) h λr e=>
 vK (gV b false (unV .not r)) λs=>
 vK (az b (.bool true) s) λc=>
 vK (gV c false (some a2)) λt=>
 gK c false (λu=>ae prog mq #[t] e u) e λv f=>
 vK (gV c false (unV .not v)) λw=>
 vK (az c (.bool true) w) λx=>
 aA x (
 R (.tuple #[(.slice none 0 0),(.int .i64 6)]) f) (
 aS [(.slice none 0 0),(.int .i64 0)] f λa ao g y=>
 vK (ag .i .lss (ix a 1) a2) λz=>
 aA z (
 ae prog tT #[a0,a1,a2,(ix a 1)] g λj aa=>
 vK (aF j 0) λab=>
 vK (aF j 1) λac=>
 ae prog gw #[ac] aa λk l=>
 vK (aF k 0) λad=>
 vK (aF k 1) λm=>
 vK (ag .i .neq m (.int .i64 0)) λah=>
 aA ah (
 R (.tuple #[(.slice none 0 0),m]) l) (
 vK ((aE #[(.int .i64 0),(.slice none 0 0)] [(0,1,ab),(1,1,ad)]).map .agg) λai=>
 cF #[(.int .i64 0),(.slice none 0 0)] 161 1 [(0,2,ai)] l λaj ak=>
 cG (.agg #[.int .i64 0,.slice none 0 0]) 161 2 32 (ix a 0) aj ak λal am=>
 vK (ag .i .add (ix a 1) (.int .i64 1)) λan=>
 y [al,an] am)) (
 R (.tuple #[(ix a 0),(.int .i64 0)]) g))
theorem Gt (H:xe a0 a1 a2 h R):ae prog ms #[a0,a1,a2] h R:=fk f167 (.s .z (.s (.s .z (.s (.s .z .z) .z)) (.s .z (.s (.s .z (.l 144115185928388544 [8,31] (.s .z (.s (.s .z .z) (.s (.s .z (.s .z (.s .z (.s (.s .z (.s (.s .z .z) .z)) .z)))) .z))))) (.s .z .z))))) H
def tf (a0:Value)(h:af)(R:Value→af→Prop):Prop:=
 vK (ag .i .lss a0 (.int .i64 1)) λc=>
 vK (gV c false (some a0)) λf=>
 vK (gV c false (ag .i .gtr f (.int .i64 4194304))) λg=>
 vK (az c (.bool true) g) λj=>
 aA j (
 R (.tuple #[(.slice none 0 0),(.int .i64 7)]) h) (
 aS [(.int .i64 0)] h λb z d k=>
 vK (ag .i .mul (ix b 0) (.int .i64 65536)) λl=>
 vK (ag .i .mul (.int .i64 3) a0) λm=>
 vK (ag .i .lss l m) λn=>
 aA n (
 vK (ag .i .add (ix b 0) (.int .i64 1)) λo=>
 k [o] d) (
 vK (unV .neg (ix b 0)) λp=>
 aS [(.slice none 0 0),p] d λa aa e q=>
 vK (ag .i .leq (ix a 1) (ix b 0)) λr=>
 aA r (
 ae prog uz #[(ix a 1),a0] e λs t=>
 cF #[(.int .i64 0)] 2 1 [(0,1,s)] t λu v=>
 cG (.int .i64 0) 2 1 8 (ix a 0) u v λw x=>
 vK (ag .i .add (ix a 1) (.int .i64 1)) λy=>
 q [w,y] x) (
 R (.tuple #[(ix a 0),(.int .i64 0)]) e)))
theorem DF (H:tf a0 h R):ae prog nN #[a0] h R:=fk f168 (.s .z (.s (.s .z (.s (.s .z .z) .z)) (.s .z (.s (.l 1040400 [4] (.s (.s .z (.s .z .z)) .z)) (.s .z (.s (.s .z (.l 8585740384 [5,6] (.s (.s .z (.s .z .z)) (.s .z .z)))) (.s .z .z))))))) H
def AY (a0:Value)(h:af)(R:Value→af→Prop):Prop:=
 vK (ag .i .lss a0 (.int .i64 0)) λb=>
 vK (gV b false (some a0)) λe=>
 vK (gV b false (ag .i .gtr e (.int .i64 511))) λf=>
 vK (az b (.bool true) f) λg=>
 aA g (
 R (.tuple #[(.slice none 0 0),(.int .i64 7)]) h) (
 vK (ag .i .mul (.int .i64 2) a0) λj=>
 vK (ag .i .add j (.int .i64 1)) λk=>
 aS [(.slice none 0 0),(.int .i64 0)] h λa v c l=>
 vK (ag .i .lss (ix a 1) k) λm=>
 aA m (
 cF #[(.int .i64 0)] 2 1 [(0,1,(.int .i64 1))] c λn o=>
 cG (.int .i64 0) 2 1 8 (ix a 0) n o λp q=>
 vK (ag .i .add (ix a 1) (.int .i64 1)) λr=>
 l [p,r] q) (
 ae prog mx #[(ix a 0)] c λd s=>
 vK (aF d 0) λt=>
 vK (aF d 1) λu=>
 R (.tuple #[t,u]) s))
theorem KN (H:AY a0 h R):ae prog wK #[a0] h R:=fk f169 (.s .z (.s (.s .z (.s (.s .z .z) .z)) (.s .z (.s (.s .z (.l 1032208 [4,14] (.s .z (.s (.s .z .z) (.s .z .z))))) (.s .z .z))))) H
def AV (a0:Value)(h:af)(R:Value→af→Prop):Prop:=
 ae prog uv #[a0] h λc g=>
 vK (aq a0) λj=>
 vK (ag .i .rem j (.int .i64 2)) λk=>
 vK (ag .i .eql k (.int .i64 0)) λb=>
 vK (gV b false (some a0)) λl=>
 vK (gV b false (aq l)) λm=>
 vK (gV b false (ag .i .gtr m (.int .i64 1024))) λn=>
 vK (az b (.bool true) n) λd=>
 vK (gV d false (some c)) λo=>
 vK (gV d false (ag .i .eql o (.int .i64 0))) λp=>
 vK (az d (.bool true) p) λe=>
 vK (gV e false (some c)) λq=>
 vK (gV e false (ag .i .gtr q (.int .i64 1048576))) λr=>
 vK (az e (.bool true) r) λs=>
 aA s (
 R (.tuple #[(.slice none 0 0),(.int .i64 7)]) g) (
 vK (aq a0) λt=>
 aS [(.slice none 0 0),(.int .i64 0)] g λa ai f u=>
 vK (ag .i .lss (ix a 1) t) λv=>
 aA v (
 vK (aR 1 a0 (ix a 1)) λw=>
 vK (ldV f w) λx=>
 ae prog cI #[x,(.int .i64 1073741824),c] f λy z=>
 cF #[(.int .i64 0)] 2 1 [(0,1,y)] z λaa ab=>
 cG (.int .i64 0) 2 1 8 (ix a 0) aa ab λac ad=>
 vK (ag .i .add (ix a 1) (.int .i64 1)) λah=>
 u [ac,ah] ad) (
 R (.tuple #[(ix a 0),(.int .i64 0)]) f))
theorem KK (H:AV a0 h R):ae prog mx #[a0] h R:=fk f170 (.s .z (.s .z (.s (.s .z (.s (.s .z .z) .z)) (.s .z (.s (.s .z (.l 1098974757024 [5,29] (.s .z (.s (.s .z .z) (.s (.s .z .z) .z))))) (.s .z .z)))))) H
def xf (a0 a1:Value)(h:af)(R:Value→af→Prop):Prop:=
 ae prog mq #[a1] h λg b=>
 vK (unV .not g) λj=>
 aA j (
 R (.tuple #[(.slice none 0 0),(.int .i64 6)]) b) (
 vK (aq a0) λk=>
 vK (ag .i .rem k (.int .i64 2)) λl=>
 vK (ag .i .eql l (.int .i64 0)) λm=>
 aA m (
 R (.tuple #[(.slice none 0 0),(.int .i64 7)]) b) (
 ae prog gw #[a0] b λc d=>
 vK (aF c 0) λn=>
 vK (aF c 1) λe=>
 vK (ag .i .neq e (.int .i64 0)) λo=>
 aA o (
 R (.tuple #[(.slice none 0 0),e]) d) (
 aS [(.slice none 0 0),(.int .i64 0)] d λa aa f p=>
 vK (ag .i .lss (ix a 1) a1) λq=>
 aA q (
 vK (aq a0) λr=>
 vK (ag .i .quo r (.int .i64 2)) λs=>
 vK (ag .i .sub (ix a 1) s) λt=>
 vK ((aE #[(.int .i64 0),(.slice none 0 0)] [(0,1,t),(1,1,n)]).map .agg) λu=>
 cF #[(.int .i64 0),(.slice none 0 0)] 161 1 [(0,2,u)] f λv w=>
 cG (.agg #[.int .i64 0,.slice none 0 0]) 161 2 32 (ix a 0) v w λx y=>
 vK (ag .i .add (ix a 1) (.int .i64 1)) λz=>
 p [x,z] y) (
 R (.tuple #[(ix a 0),(.int .i64 0)]) f))))
theorem Gu (H:xf a0 a1 h R):ae prog mu #[a0,a1] h R:=fk f171 (.s .z (.s (.s .z (.s (.s .z .z) .z)) (.s (.s .z (.s (.s .z .z) .z)) (.s .z (.s (.s .z (.s (.s .z .z) .z)) (.s .z (.s (.s .z (.l 1099444519680 [8,26] (.s .z (.s (.s .z .z) (.s (.s .z .z) .z))))) (.s .z .z)))))))) H
def rk (a0:Value)(h:af)(R:Value→af→Prop):Prop:=
 vK (aK a0) λa=>
 vK (am 16 a) λb=>
 vK (ldV h b) λc=>
 vK (aK a0) λd=>
 vK (am 5 d) λe=>
 vK (am 1 e) λf=>
 vK (am 1 f) λg=>
 vK (ldV h g) λj=>
 vK (aK a0) λk=>
 vK (am 5 k) λl=>
 vK (am 1 l) λm=>
 vK (am 3 m) λn=>
 vK (ldV h n) λo=>
 vK (ag .i .add j o) λp=>
 vK (ag .i .geq c p) λq=>
 R q h
theorem BI (H:rk a0 h R):ae prog l9 #[a0] h R:=fk f172 (.s .z (.s .z .z)) H
def rl (a0:Value)(h:af)(R:Value→af→Prop):Prop:=
 aP #[(.int .i64 0),(.slice none 0 0)] 235 h λb a=>
 bD a λS=>
 vK (aK a0) λd=>
 vK (am 2 d) λe=>
 vK (am 1 e) λf=>
 qK S (λa=>ldV a f) λg=>
 vK (aK a0) λi=>
 vK (am 16 i) λj=>
 qK S (λa=>ldV a j) λk=>
 ae prog bu #[g,k] a λl m=>
 stK 2 b l m λo c=>
 vK (aH 2 c b) λn=>
 R n c
theorem BJ (H:rl a0 h R):ae prog jn #[a0] h R:=fk f173 (.s .z (.s (.d (.op 0 .r (.op 1 .r (.op 2 .r (.op 3 .r (.op 4 .r (.op 5 .r (.op 6 .r (.op 7 .r (.op 8 .r (.op 9 .n (.op 10 .n .nil)))))))))))) .z)) H
def te (a0 a1 a2:Value)(h:af)(R:Value→af→Prop):Prop:=
 aS [a1] h λa k b d=>
 vK (ag .i .lss (ix a 0) a2) λe=>
 aA e (
 ae prog kK #[a0,(ix a 0)] b λf c=>
 vK (unV .not f) λg=>
 aA g (
 R (.tuple #[(ix a 0),(.bool true)]) c) (
 vK (ag .i .add (ix a 0) (.int .i64 1)) λj=>
 d [j] c)) (
 R (.tuple #[(.int .i64 0),(.bool false)]) b)
theorem DE (H:te a0 a1 a2 h R):ae prog nM #[a0,a1,a2] h R:=fk f174 (.s .z (.s (.s .z (.l 1048000 [8] (.s (.s .z (.s .z .z)) (.s (.s .z (.s (.s .z .z) .z)) .z)))) (.s .z .z))) H
def Dp (a0 a1 a2:Value)(h:af)(R:Value→af→Prop):Prop:=
 vK (ag .i .lss a2 (.int .i64 1)) λa=>
 vK (gV a false (some a2)) λc=>
 vK (gV a false (ag .i .gtr c (.int .i64 65536))) λd=>
 vK (az a (.bool true) d) λe=>
 aA e (
 R (.int .i64 0) h) (
 vK (ag .i .eql a0 (.int .i64 0)) λf=>
 aA f (
 vK (ag .i .sub a2 (.int .i64 1)) λg=>
 ae prog oF #[a1,(.int .i64 0),g] h λj k=>
 R j k) (
 vK (ag .i .eql a0 (.int .i64 1)) λl=>
 aA l (
 vK (ag .i .mul (.int .i64 2) a2) λm=>
 ae prog pP #[a1,m] h λb n=>
 vK (ag .i .mul (.int .i64 2) a2) λo=>
 vK (ag .i .sub o (.int .i64 1)) λp=>
 vK (ag .i .sub p b) λq=>
 vK (pA b q) λr=>
 R r n) (
 vK (ag .i .eql a0 (.int .i64 2)) λs=>
 aA s (
 ae prog pP #[a1,a2] h λt u=>
 R t u) (
 R (.int .i64 0) h))))
theorem Nl (H:Dp a0 a1 a2 h R):ae prog jJ #[a0,a1,a2] h R:=fk f175 (.s .z (.s (.s .z (.s (.s .z .z) .z)) (.s (.s .z (.s .z (.s (.s .z .z) (.s .z (.s (.s .z (.s .z .z)) (.s .z (.s (.s .z .z) .z))))))) (.s .z .z)))) H
def oL (a0 a1 a2 a3:Value)(h:af)(R:Value→af→Prop):Prop:=
 vK (aK a0) λl=>
 vK (am 2 l) λm=>
 vK (am 0 m) λn=>
 vK (ldV h n) λo=>
 ae prog bu #[o,a1] h λp q=>
 aP #[(.int .i64 0),(.slice none 0 0)] 235 q λd r=>
 stK 2 d p r λbg f=>
 vK (aK a0) λs=>
 vK (am 0 s) λt=>
 vK (ldV f t) λu=>
 ae prog aO #[u] f λv w=>
 aS [a3,(.int .i64 0)] w λc bh e x=>
 vK (ag .i .lss (ix c 1) v) λy=>
 aA y (
 vK (am 1 d) λz=>
 vK (ldV e z) λg=>
 vK (aq g) λaa=>
 aS [(.int .i64 0),(.int .i64 0)] e λb bi a ab=>
 vK (ag .i .lss (ix b 1) aa) λac=>
 aA ac (
 vK (aR 1 g (ix b 1)) λad=>
 vK (ldV a ad) λah=>
 bD a λS=>
 vK (aK a0) λai=>
 vK (am 2 ai) λaj=>
 vK (am 2 aj) λak=>
 qK S (λa=>ldV a ak) λal=>
 vK (am 0 d) λan=>
 qK S (λa=>ldV a an) λao=>
 vK (ag .i .add ao (ix b 1)) λap=>
 vK (aK a0) λar=>
 vK (am 0 ar) λau=>
 qK S (λa=>ldV a au) λav=>
 ae prog bE #[av] a λaw j=>
 S j∧(ae prog jJ #[al,ap,aw] j λax k=>
 vK (aK a0) λay=>
 vK (am 0 ay) λaz=>
 vK (ldV k az) λa4=>
 ae prog fo #[a4,ax,a2,(ix c 1)] k λa5 a6=>
 vK (dY .i64 a5) λa7=>
 vK (ag .i .mul ah a7) λa8=>
 vK (ag .i .add (ix b 0) a8) λa9=>
 vK (ag .i .add (ix b 1) (.int .i64 1)) λba=>
 ab [a9,ba] a6)) (
 cF #[(.int .i64 0)] 2 1 [(0,1,(ix b 0))] a λbb bc=>
 cG (.int .i64 0) 2 1 8 (ix c 0) bb bc λbd be=>
 vK (ag .i .add (ix c 1) (.int .i64 1)) λbf=>
 x [bd,bf] be)) (
 R (ix c 0) e)
theorem yN (H:oL a0 a1 a2 a3 h R):ae prog ke #[a0,a1,a2,a3] h R:=fk f176 (.s .z (.s .z (.s (.s .z (.l 4722366482869511027720 [3,27] (.s .z (.s (.s .z .z) (.s (.s .z (.s .z (.s (.s .z (.l 147573952581086509056 [11,33] (.s .z (.s (.s .z .z) (.s (.s .z (.s (.d (.op 0 .r (.op 1 .r (.op 2 .r (.op 3 .r (.op 4 .r (.op 5 .r (.op 6 .r (.op 7 .r (.op 8 .r (.op 9 .r (.op 10 .r (.op 11 .r (.op 12 .r (.op 13 .e (.op 14 .n (.op 15 .r .nil))))))))))))))))) .z)) .z))))) .z))) .z))))) (.s .z .z)))) H
def uU (a0 a1 a2:Value)(h:af)(R:Value→af→Prop):Prop:=
 vK (aq a2) λk=>
 vK (aK a0) λl=>
 vK (am 1 l) λm=>
 vK (ldV h m) λn=>
 vK (ag .i .neq k n) λb=>
 vK (gV b false (some a0)) λo=>
 vK (gV b false (some a1)) λp=>
 gK b false (λq=>ae prog kK #[o,p] h q) h λr c=>
 vK (az b (.bool true) r) λs=>
 aA s (
 R (.bool false) c) (
 dE (λd=>
 ae prog mo #[a0] c λe a=>
 vK (aF e 0) λf=>
 vK (aF e 1) λan=>
 vK (aK a0) λt=>
 vK (am 2 t) λu=>
 vK (ldV a u) λv=>
 vK (LM a v) λw=>
 vK (aK a0) λx=>
 vK (am 0 x) λy=>
 vK (ldV a y) λz=>
 vK (ag .i .geq w z) λaa=>
 aA aa (
 vK (ag .i .lss a1 f) λab=>
 aA ab (
 R (.bool false) a) (
 ae prog nK #[a0,f] a λao ac=>
 d [] ac)) (
 d [] a))
 λap ar ad=>
 ae prog mg #[a0] ad λg ah=>
 Cn 1 g a2 ah λau j=>
 vK (aK a0) λai=>
 vK (am 2 ai) λaj=>
 vK (ldV j aj) λak=>
 qN (.int .i64) ak a1 g j λav al=>
 R (.bool true) al)
theorem EN (H:uU a0 a1 a2 h R):ae prog pY #[a0,a1,a2] h R:=fk f177 (.s .z (.s (.s .z (.s (.s .z .z) .z)) (.j 8796088828352 [] (.s .z (.s .z (.s (.s (.s .z (.s (.s .z .z) .z)) .z) .z))) (.s .z (.s .z (.s .z (.s .z .z))))))) H
def rB (a0:Value)(h:af)(R:Value→af→Prop):Prop:=
 vK (aK a0) λa=>
 vK (am 1 a) λb=>
 vK (ldV h b) λc=>
 R c h
theorem BP (H:rB a0 h R):ae prog mm #[a0] h R:=fk f178 (.s .z (.s .z .z)) H
def uT (a0 a1:Value)(h:af)(R:Value→af→Prop):Prop:=
 vK (aK a0) λb=>
 vK (am 2 b) λc=>
 vK (ldV h c) λd=>
 vK (FT (.int .i64) (.slice none 0 0) true h d a1) λa=>
 vK (aF a 0) λe=>
 vK (aF a 1) λf=>
 ae prog cC #[e] h λg i=>
 R (.tuple #[g,f]) i
theorem EM (H:uT a0 a1 h R):ae prog pX #[a0,a1] h R:=fk f179 (.s .z (.s .z (.s .z .z))) H
def qp (a0 a1 a2 a3 a4:Value)(h:af)(R:Value→af→Prop):Prop:=
 ae prog gB #[a0,a1,a2,a3] h λc b=>
 vK (ag .i .lss c (.int .i64 0)) λa=>
 vK (gV a false (some a4)) λd=>
 vK (gV a false (dY .i64 d)) λe=>
 vK (gV a false (some a0)) λf=>
 vK (gV a false (aK f)) λg=>
 vK (gV a false (am 3 g)) λj=>
 vK (gV a false (ldV b j)) λk=>
 vK (gV a false (ag .i .gtr e k)) λl=>
 vK (az a (.bool true) l) λm=>
 aA m (
 R (.bool false) b) (
 vK (aK a0) λn=>
 vK (am 4 n) λo=>
 vK (ldV b o) λp=>
 vK (aR 1 p c) λq=>
 stK 1 q a4 b λs r=>
 R (.bool true) r)
theorem Ax (H:qp a0 a1 a2 a3 a4 h R):ae prog eK #[a0,a1,a2,a3,a4] h R:=fk f180 (.s .z (.s .z (.s (.s .z (.s (.s .z .z) .z)) (.s .z (.s .z .z))))) H
def xq (a0 a1:Value)(h:af)(R:Value→af→Prop):Prop:=
 ae prog iX #[a0,(.int .i64 28)] h λa b=>
 vK (pA a1 (.int .i64 65535)) λc=>
 vK (iG (.int .i64 0) c) λd=>
 ae prog oF #[a,(.int .i64 0),d] b λe f=>
 vK (dY .u16 e) λg=>
 R g f
theorem GD (H:xq a0 a1 h R):ae prog mC #[a0,a1] h R:=fk f181 (.s .z (.s .z .z)) H
def rA (a0:Value)(h:af)(R:Value→af→Prop):Prop:=
 vK (aK a0) λa=>
 vK (am 0 a) λb=>
 vK (ldV h b) λc=>
 vK (aK a0) λd=>
 vK (am 1 d) λe=>
 vK (ldV h e) λf=>
 vK (ag .i .mul c f) λg=>
 R g h
theorem BO (H:rA a0 h R):ae prog mh #[a0] h R:=fk f182 (.s .z (.s .z .z)) H
def FH (a0:Value)(h:af)(R:Value→af→Prop):Prop:=
 vK (ag .i .lss a0 (.int .i64 0)) λa=>
 vK (gV a false (some a0)) λb=>
 vK (gV a false (ag .i .geq b (.int .i64 3))) λc=>
 vK (az a (.bool true) c) λd=>
 aA d (
 R (.string ⟨#[]⟩) h) (
 vK (Jr 3 2 (.pointer (some ⟨ed,0,none⟩)) a0) λe=>
 vK (am 0 e) λf=>
 vK (ldV h f) λg=>
 R g h)
theorem OT (H:FH a0 h R):ae prog wO #[a0] h R:=fk f183 (.s .z (.s (.s .z (.s (.s .z .z) .z)) (.s .z .z))) H
def xb (a0 a1 a2:Value)(h:af)(R:Value→af→Prop):Prop:=
 ae prog wO #[a0] h λo d=>
 vK (ag .s .eql o (.string ⟨#[]⟩)) λa=>
 vK (gV a false (some a1)) λp=>
 gK a false (λq=>ae prog mc #[p] d q) d λr e=>
 vK (gV a false (unV .not r)) λt=>
 vK (az a (.bool true) t) λb=>
 vK (gV b false (some a2)) λu=>
 gK b false (λv=>ae prog mc #[u] e v) e λw f=>
 vK (gV b false (unV .not w)) λx=>
 vK (az b (.bool true) x) λy=>
 aA y (
 R (.tuple #[(.pointer none),(.int .i64 6)]) f) (
 vK ((aE #[(.int .i64 0),(.slice none 0 0),(.int .i64 0),(.int .i64 0)] [(0,1,a1)]).map .agg) λz=>
 aP (Value.cells z) 154 f λg aa=>
 aS [(.int .i64 0)] aa λc an j ab=>
 vK (ag .i .lss (ix c 0) a2) λac=>
 aA ac (
 ae prog Aq #[a0,a1,a2,(ix c 0)] j λk ad=>
 vK (aF k 0) λah=>
 vK (aF k 1) λai=>
 ae prog ig #[ai] ad λl m=>
 vK (aF l 0) λaj=>
 vK (aF l 1) λn=>
 vK (ag .i .neq n (.int .i64 0)) λak=>
 aA ak (
 R (.tuple #[(.pointer none),n]) m) (
 ae prog jp #[g,ah,aj] m λao al=>
 vK (ag .i .add (ix c 0) (.int .i64 1)) λam=>
 ab [am] al)) (
 R (.tuple #[g,(.int .i64 0)]) j))
theorem Gq (H:xb a0 a1 a2 h R):ae prog jD #[a0,a1,a2] h R:=fk f184 (.s .z (.s (.s .z (.s (.s .z .z) .z)) (.s .z (.s (.s .z (.l 36028794871496384 [31] (.s .z (.s (.s .z .z) (.s (.s .z (.s .z (.s .z (.s (.s .z (.s (.s .z .z) .z)) .z)))) .z))))) (.s .z .z))))) H
def Bc (a0:Value)(h:af)(R:Value→af→Prop):Prop:=
 aP (Value.cells a0) 31 h λb a=>
 vK (am 0 b) λn=>
 vK (ldV a n) λd=>
 vK (ag .i .eql d (.int .i64 0)) λo=>
 aA o (
 vK (am 2 b) λp=>
 vK (ldV a p) λq=>
 ae prog kJ #[q] a λe r=>
 vK (aF e 0) λf=>
 vK (aF e 1) λs=>
 R (.tuple #[f,f,s]) r) (
 vK (ag .i .eql d (.int .i64 1)) λt=>
 aA t (
 vK (am 3 b) λu=>
 vK (ldV a u) λv=>
 ae prog zI #[v] a λg w=>
 vK (aF g 0) λj=>
 vK (aF g 1) λx=>
 R (.tuple #[j,j,x]) w) (
 vK (am 4 b) λy=>
 vK (ldV a y) λz=>
 ae prog pK #[z] a λk c=>
 vK (aF k 0) λaa=>
 vK (aF k 1) λl=>
 vK (ag .i .neq l (.int .i64 0)) λab=>
 aA ab (
 R (.tuple #[(.slice none 0 0),(.slice none 0 0),l]) c) (
 vK (am 5 b) λac=>
 vK (ldV c ac) λad=>
 ae prog pK #[ad] c λm ah=>
 vK (aF m 0) λai=>
 vK (aF m 1) λaj=>
 R (.tuple #[aa,ai,aj]) ah)))
theorem KY (H:Bc a0 h R):ae prog wS #[a0] h R:=fk f185 (.s .z (.s (.s .z (.s .z (.s (.s .z (.s .z .z)) (.s .z (.s (.s .z (.s .z .z)) .z))))) (.s (.s .z (.s .z (.s (.s .z .z) .z))) (.s .z (.s .z .z))))) H
def xc (a0 a1:Value)(h:af)(R:Value→af→Prop):Prop:=
 ae prog mc #[a1] h λk a=>
 vK (unV .not k) λl=>
 aA l (
 R (.tuple #[(.pointer none),(.int .i64 6)]) a) (
 vK (aq a0) λm=>
 vK (ag .i .rem m (.int .i64 2)) λn=>
 vK (ag .i .eql n (.int .i64 0)) λo=>
 aA o (
 R (.tuple #[(.pointer none),(.int .i64 7)]) a) (
 ae prog ig #[a0] a λc d=>
 vK (aF c 0) λe=>
 vK (aF c 1) λf=>
 vK (ag .i .neq f (.int .i64 0)) λp=>
 aA p (
 R (.tuple #[(.pointer none),f]) d) (
 vK ((aE #[(.int .i64 0),(.slice none 0 0),(.int .i64 0),(.int .i64 0)] [(0,1,a1)]).map .agg) λq=>
 aP (Value.cells q) 154 d λg r=>
 aS [(.int .i64 0)] r λb z j s=>
 vK (ag .i .lss (ix b 0) a1) λt=>
 aA t (
 vK (aq e) λu=>
 vK (ag .i .quo u (.int .i64 2)) λv=>
 vK (ag .i .sub (ix b 0) v) λw=>
 ae prog jp #[g,w,e] j λaa x=>
 vK (ag .i .add (ix b 0) (.int .i64 1)) λy=>
 s [y] x) (
 R (.tuple #[g,(.int .i64 0)]) j))))
theorem Gr (H:xc a0 a1 h R):ae prog me #[a0,a1] h R:=fk f186 (.s .z (.s (.s .z (.s (.s .z .z) (.s .z (.s (.s .z .z) .z)))) (.s .z (.s (.s .z (.s (.s .z .z) .z)) (.s .z (.s (.s .z (.l 8793945539072 [31] (.s .z (.s (.s .z .z) (.s (.s .z .z) .z))))) (.s .z .z))))))) H
def eE (a0:Value)(h:af)(R:Value→af→Prop):Prop:=
 vK (ag .sl .eql a0 (.slice none 0 0)) λa=>
 aA a (
 R (.slice none 0 0) h) (
 cF #[] 2 0 [] h λb c=>
 cG (.int .i64 0) 2 1 8 b a0 c λd e=>
 R d e)
theorem ia (H:eE a0 h R):ae prog cC #[a0] h R:=fk f187 (.s .z (.s (.s .z (.s (.s .z .z) .z)) (.s .z .z))) H
def xX (a0 a1:Value)(h:af)(R:Value→af→Prop):Prop:=
 aP (Value.cells a0) 293 h λb e=>
 aP #[(.int .u64 0),(.int .u64 0)] 293 e λc a=>
 vK (am 0 b) λf=>
 vK (ldV a f) λg=>
 vK (ag .i .shl g (.int .u64 1)) λj=>
 vK (am 1 b) λk=>
 vK (ldV a k) λl=>
 vK (ag .i .shr l (.int .u64 63)) λm=>
 vK (ag .i .add j m) λn=>
 vK (am 1 b) λo=>
 vK (ldV a o) λp=>
 vK (ag .i .shl p (.int .u64 1)) λq=>
 vK (ag .i .add q a1) λr=>
 vK ((aE #[(.int .u64 0),(.int .u64 0)] [(0,1,n),(1,1,r)]).map .agg) λs=>
 stK 2 c s a λu d=>
 vK (aH 2 d c) λt=>
 R t d
theorem Ik (H:xX a0 a1 h R):ae prog dN #[a0,a1] h R:=fk f188 (.s .z (.s .z .z)) H
def A2 (a0:Value)(h:af)(R:Value→af→Prop):Prop:=
 vK (ag .i .lss a0 (.int .i64 0)) λa=>
 aA a (
 vK (ag .i .add a0 (.int .i64 1)) λb=>
 vK (unV .neg b) λc=>
 vK (dY .u64 c) λd=>
 vK (ag .i .add d (.int .u64 1)) λe=>
 R e h) (
 vK (dY .u64 a0) λf=>
 R f h)
theorem KP (H:A2 a0 h R):ae prog eT #[a0] h R:=fk f189 (.s .z (.s (.s .z (.s (.s .z .z) .z)) (.s .z .z))) H
def Da (a0 a1:Value)(h:af)(R:Value→af→Prop):Prop:=
 aP (Value.cells a0) 293 h λb a=>
 vK (ag .i .geq a1 (.int .i64 64)) λc=>
 aA c (
 vK (am 0 b) λd=>
 vK (ldV a d) λe=>
 vK (ag .i .sub a1 (.int .i64 64)) λf=>
 vK (ag .i .shr e f) λg=>
 vK (ag .i .and g (.int .u64 1)) λj=>
 R j a) (
 vK (am 1 b) λk=>
 vK (ldV a k) λl=>
 vK (ag .i .shr l a1) λm=>
 vK (ag .i .and m (.int .u64 1)) λn=>
 R n a)
theorem M6 (H:Da a0 a1 h R):ae prog gy #[a0,a1] h R:=fk f190 (.s .z (.s (.s .z (.s (.s .z .z) .z)) (.s .z .z))) H
def yb (a0 a1:Value)(h:af)(R:Value→af→Prop):Prop:=
 aP (Value.cells a0) 293 h λe l=>
 aP (Value.cells a1) 293 l λf m=>
 aP #[(.int .u64 0),(.int .u64 0)] 293 m λd b=>
 vK (am 0 e) λn=>
 vK (ldV b n) λo=>
 vK (am 0 f) λp=>
 vK (ldV b p) λq=>
 vK (ag .i .sub o q) λr=>
 vK (am 1 e) λs=>
 vK (ldV b s) λt=>
 vK (am 1 f) λu=>
 vK (ldV b u) λv=>
 vK (ag .i .sub t v) λw=>
 vK ((aE #[(.int .u64 0),(.int .u64 0)] [(0,1,r),(1,1,w)]).map .agg) λx=>
 aP #[(.int .u64 0),(.int .u64 0)] 293 b λc y=>
 stK 2 c x y λap a=>
 vK (am 1 e) λz=>
 vK (ldV a z) λaa=>
 vK (am 1 f) λab=>
 vK (ldV a ab) λac=>
 vK (ag .i .lss aa ac) λad=>
 aA ad (
 vK (am 0 c) λae=>
 vK (ldV a ae) λah=>
 vK (ag .i .sub ah (.int .u64 1)) λai=>
 vK (am 0 c) λaj=>
 stK 1 aj ai a λaq g=>
 vK (aH 2 g c) λak=>
 stK 2 d ak g λar j=>
 vK (aH 2 j d) λal=>
 R al j) (
 vK (aH 2 a c) λan=>
 stK 2 d an a λau k=>
 vK (aH 2 k d) λao=>
 R ao k)
theorem Io (H:yb a0 a1 h R):ae prog oh #[a0,a1] h R:=fk f191 (.s .z (.s .z (.s (.s .z (.s .z .z)) (.s .z .z)))) H
def A7 (a0 a1:Value)(h:af)(R:Value→af→Prop):Prop:=
 aP (Value.cells a0) 293 h λb d=>
 aP (Value.cells a1) 293 d λc a=>
 vK (am 0 b) λe=>
 vK (ldV a e) λf=>
 vK (am 0 c) λg=>
 vK (ldV a g) λj=>
 vK (ag .i .neq f j) λk=>
 aA k (
 vK (am 0 b) λl=>
 vK (ldV a l) λm=>
 vK (am 0 c) λn=>
 vK (ldV a n) λo=>
 vK (ag .i .lss m o) λp=>
 R p a) (
 vK (am 1 b) λq=>
 vK (ldV a q) λr=>
 vK (am 1 c) λs=>
 vK (ldV a s) λt=>
 vK (ag .i .lss r t) λu=>
 R u a)
theorem KT (H:A7 a0 a1 h R):ae prog iM #[a0,a1] h R:=fk f192 (.s .z (.s (.s .z (.s (.s .z .z) .z)) (.s .z .z))) H
def A3 (a0 a1:Value)(h:af)(R:Value→af→Prop):Prop:=
 aP (Value.cells a0) 293 h λe l=>
 aP (Value.cells a1) 293 l λf m=>
 aP #[(.int .u64 0),(.int .u64 0)] 293 m λd c=>
 vK (am 0 e) λn=>
 vK (ldV c n) λo=>
 vK (am 0 f) λp=>
 vK (ldV c p) λq=>
 vK (ag .i .add o q) λr=>
 vK (am 1 e) λs=>
 vK (ldV c s) λt=>
 vK (am 1 f) λu=>
 vK (ldV c u) λv=>
 vK (ag .i .add t v) λw=>
 vK ((aE #[(.int .u64 0),(.int .u64 0)] [(0,1,r),(1,1,w)]).map .agg) λx=>
 aP #[(.int .u64 0),(.int .u64 0)] 293 c λa y=>
 stK 2 a x y λap b=>
 vK (am 1 a) λz=>
 vK (ldV b z) λaa=>
 vK (am 1 e) λab=>
 vK (ldV b ab) λac=>
 vK (ag .i .lss aa ac) λad=>
 aA ad (
 vK (am 0 a) λae=>
 vK (ldV b ae) λah=>
 vK (ag .i .add ah (.int .u64 1)) λai=>
 vK (am 0 a) λaj=>
 stK 1 aj ai b λaq g=>
 vK (aH 2 g a) λak=>
 stK 2 d ak g λar j=>
 vK (aH 2 j d) λal=>
 R al j) (
 vK (aH 2 b a) λan=>
 stK 2 d an b λau k=>
 vK (aH 2 k d) λao=>
 R ao k)
theorem KQ (H:A3 a0 a1 h R):ae prog gx #[a0,a1] h R:=fk f193 (.s .z (.s .z (.s (.s .z (.s .z .z)) (.s .z .z)))) H
def A8 (a0 a1:Value)(h:af)(R:Value→af→Prop):Prop:=
 aP (Value.cells a0) 293 h λb a=>
 aA a1 (
 vK (am 0 b) λe=>
 vK (ldV a e) λf=>
 vK (ag .i .gtr f (.int .u64 0)) λc=>
 vK (gV c false (am 1 b)) λg=>
 vK (gV c false (ldV a g)) λj=>
 vK (gV c false (ag .i .gtr j (.int .u64 9223372036854775807))) λk=>
 vK (az c (.bool true) k) λl=>
 aA l (
 R (.int .i64 (-9223372036854775808)) a) (
 vK (am 1 b) λm=>
 vK (ldV a m) λn=>
 vK (dY .i64 n) λo=>
 vK (unV .neg o) λp=>
 R p a)) (
 vK (am 0 b) λq=>
 vK (ldV a q) λr=>
 vK (ag .i .gtr r (.int .u64 0)) λd=>
 vK (gV d false (am 1 b)) λs=>
 vK (gV d false (ldV a s)) λt=>
 vK (gV d false (ag .i .gtr t (.int .u64 9223372036854775807))) λu=>
 vK (az d (.bool true) u) λv=>
 aA v (
 R (.int .i64 9223372036854775807) a) (
 vK (am 1 b) λw=>
 vK (ldV a w) λx=>
 vK (dY .i64 x) λy=>
 R y a))
theorem KU (H:A8 a0 a1 h R):ae prog dc #[a0,a1] h R:=fk f194 (.s .z (.s (.s .z (.s (.s (.s .z (.s (.s .z .z) .z)) (.s .z .z)) .z)) (.s (.s .z (.s (.s .z .z) .z)) (.s .z .z)))) H
def FC (a0 a1 a2 a3:Value)(h:af)(R:Value→af→Prop):Prop:=
 aP (Value.cells a0) 115 h λe d=>
 vK (ag .i .geq a1 (.int .i64 0)) λf=>
 vK (gV f true (some a2)) λj=>
 vK (gV f true (ag .i .geq j (.int .i64 0))) λk=>
 vK (az f k (.bool false)) λg=>
 vK (gV g true (some a3)) λl=>
 vK (gV g true (ag .i .geq l (.int .i64 0))) λm=>
 vK (az g m (.bool false)) λa=>
 vK (gV a true (some a1)) λn=>
 vK (gV a true (am 0 e)) λo=>
 vK (gV a true (ldV d o)) λp=>
 vK (gV a true (ag .i .lss n p)) λq=>
 vK (az a q (.bool false)) λb=>
 vK (gV b true (some a2)) λr=>
 vK (gV b true (am 1 e)) λs=>
 vK (gV b true (ldV d s)) λt=>
 vK (gV b true (ag .i .lss r t)) λu=>
 vK (az b u (.bool false)) λc=>
 vK (gV c true (some a3)) λv=>
 vK (gV c true (am 2 e)) λw=>
 vK (gV c true (ldV d w)) λx=>
 vK (gV c true (ag .i .lss v x)) λy=>
 vK (az c y (.bool false)) λz=>
 R z d
theorem ON (H:FC a0 a1 a2 a3 h R):ae prog CE #[a0,a1,a2,a3] h R:=fk f195 (.s .z (.s .z .z)) H
def Bd (a0:Value)(h:af)(R:Value→af→Prop):Prop:=
 aP (Value.cells a0) 211 h λc a=>
 vK (am 0 c) λf=>
 vK (ldV a f) λg=>
 vK (ag .i .geq g (.int .i64 0)) λd=>
 vK (gV d true (am 2 c)) λj=>
 vK (gV d true (ldV a j)) λk=>
 vK (gV d true (ag .i .geq k (.int .i64 0))) λl=>
 vK (az d l (.bool false)) λe=>
 vK (gV e true (am 3 c)) λm=>
 vK (gV e true (ldV a m)) λn=>
 vK (gV e true (ag .i .geq n (.int .i64 0))) λo=>
 vK (az e o (.bool false)) λb=>
 vK (gV b true (am 3 c)) λp=>
 vK (gV b true (ldV a p)) λq=>
 vK (gV b true (am 4 c)) λr=>
 vK (gV b true (ldV a r)) λs=>
 vK (gV b true (ag .i .lss q s)) λt=>
 vK (az b t (.bool false)) λu=>
 R u a
theorem KZ (H:Bd a0 h R):ae prog wT #[a0] h R:=fk f196 (.s .z (.s .z .z)) H
def tG (a0 a1:Value)(h:af)(R:Value→af→Prop):Prop:=
 vK (ag .i .geq a1 (.int .i64 0)) λa=>
 vK (gV a true (some a1)) λb=>
 vK (gV a true (some a0)) λc=>
 vK (gV a true (aK c)) λd=>
 vK (gV a true (am 0 d)) λe=>
 vK (gV a true (ldV h e)) λf=>
 vK (gV a true (aq f)) λg=>
 vK (gV a true (ag .i .lss b g)) λj=>
 vK (az a j (.bool false)) λk=>
 R k h
theorem DQ (H:tG a0 a1 h R):ae prog io #[a0,a1] h R:=fk f197 (.s .z (.s .z .z)) H
def gP (a0:Value)(h:af)(R:Value→af→Prop):Prop:=
 vK (ag .sl .eql a0 (.slice none 0 0)) λa=>
 aA a (
 R (.slice none 0 0) h) (
 cF #[] 3 0 [] h λb c=>
 cG (.int .i64 0) 3 1 8 b a0 c λd e=>
 R d e)
theorem mF (H:gP a0 h R):ae prog db #[a0] h R:=fk f198 (.s .z (.s (.s .z (.s (.s .z .z) .z)) (.s .z .z))) H
def ir (a0:Value)(h:af)(R:Value→af→Prop):Prop:=
 dE (λc=>
 vK (aq a0) λe=>
 vK (ag .i .lss e (.int .i64 1)) λf=>
 aA f (
 Jz h λs g=>
 c [] g) (
 c [] h))
 λt u d=>
 vK (aR 1 a0 (.int .i64 0)) λj=>
 vK (ldV d j) λk=>
 aS [k,(.int .i64 1)] d λa v b l=>
 vK (aq a0) λm=>
 vK (ag .i .lss (ix a 1) m) λn=>
 aA n (
 vK (aR 1 a0 (ix a 1)) λo=>
 vK (ldV b o) λp=>
 vK (pA (ix a 0) p) λq=>
 vK (ag .i .add (ix a 1) (.int .i64 1)) λr=>
 l [q,r] b) (
 R (ix a 0) b)
theorem pf (H:ir a0 h R):ae prog fC #[a0] h R:=fk f199 (.s .z (.j 480 [] (.s .z (.s .z .z)) (.s .z (.s (.s .z (.l 16773144 [3,4] (.s (.s .z (.s .z .z)) (.s .z .z)))) (.s .z .z))))) H
def Bn (a0 a1:Value)(h:af)(R:Value→af→Prop):Prop:=
 vK (aq a0) λk=>
 vK (aq a1) λl=>
 vK (iG k l) λf=>
 mkK (.int .i64 0) 3 1 8 f f h λb m=>
 Cn 1 b a0 m λap n=>
 vK (aq a1) λo=>
 aS [(.int .i64 0)] n λa ar c g=>
 vK (ag .i .lss (ix a 0) o) λp=>
 aA p (
 vK (aR 1 a1 (ix a 0)) λq=>
 vK (ldV c q) λj=>
 vK (aq a0) λr=>
 vK (ag .i .geq (ix a 0) r) λs=>
 aA s (
 vK (iG (.int .i64 0) j) λt=>
 vK (aR 1 b (ix a 0)) λu=>
 stK 1 u t c λau v=>
 vK (ag .i .add (ix a 0) (.int .i64 1)) λw=>
 g [w] v) (
 vK (aR 1 b (ix a 0)) λx=>
 vK (ldV c x) λy=>
 vK (iG y j) λz=>
 vK (aR 1 b (ix a 0)) λaa=>
 stK 1 aa z c λav ab=>
 vK (ag .i .add (ix a 0) (.int .i64 1)) λac=>
 g [ac] ab)) (
 vK (aq a1) λad=>
 aS [ad] c λd aw e ae=>
 vK (aq a0) λah=>
 vK (ag .i .lss (ix d 0) ah) λai=>
 aA ai (
 vK (aR 1 b (ix d 0)) λaj=>
 vK (ldV e aj) λak=>
 vK (iG (.int .i64 0) ak) λal=>
 vK (aR 1 b (ix d 0)) λam=>
 stK 1 am al e λax an=>
 vK (ag .i .add (ix d 0) (.int .i64 1)) λao=>
 ae [ao] an) (
 R b e))
theorem La (H:Bn a0 a1 h R):ae prog w6 #[a0,a1] h R:=fk f200 (.s .z (.s .z (.s .z (.s (.s .z (.l 17592184996032 [20] (.s .z (.s (.s .z .z) (.s (.s .z (.s .z (.s .z .z))) .z))))) (.s (.s .z (.l 1152851135862669568 [8] (.s (.s .z (.s .z .z)) (.s .z .z)))) (.s .z .z)))))) H
def yA (a0 a1:Value)(h:af)(R:Value→af→Prop):Prop:=
 vK (aq a0) λc=>
 vK (aq a1) λd=>
 vK (ag .i .neq c d) λe=>
 aA e (
 R (.bool false) h) (
 vK (aq a0) λf=>
 aS [(.int .i64 0)] h λb q a g=>
 vK (ag .i .lss (ix b 0) f) λj=>
 aA j (
 vK (aR 1 a0 (ix b 0)) λk=>
 vK (ldV a k) λl=>
 vK (aR 1 a1 (ix b 0)) λm=>
 vK (ldV a m) λn=>
 vK (ag .i .gtr l n) λo=>
 aA o (
 R (.bool false) a) (
 vK (ag .i .add (ix b 0) (.int .i64 1)) λp=>
 g [p] a)) (
 R (.bool true) a))
theorem IM (H:yA a0 a1 h R):ae prog uL #[a0,a1] h R:=fk f203 (.s .z (.s (.s .z (.s (.s .z .z) .z)) (.s (.s .z (.l 67100720 [13] (.s .z (.s (.s .z .z) (.s (.s .z (.s .z (.s (.s .z .z) .z))) .z))))) (.s .z .z)))) H
def yB (a0 a1:Value)(h:af)(R:Value→af→Prop):Prop:=
 ae prog eJ #[a0,a1] h λa b=>
 R a b
theorem IN (H:yB a0 a1 h R):ae prog uM #[a0,a1] h R:=fk f204 (.s .z (.s .z .z)) H
def yt (h:af)(R:Value→af→Prop):Prop:=
 ae prog uK #[] h λs l=>
 vK (unV .not s) λe=>
 gK e false (λt=>ae prog uJ #[] l t) l λu m=>
 vK (gV e false (unV .not u)) λv=>
 vK (az e (.bool true) v) λw=>
 aA w (
 R (.bool false) m) (
 ae prog jD #[(.int .i64 0),(.int .i64 4),(.int .i64 2)] m λn o=>
 vK (aF n 0) λb=>
 vK (aF n 1) λx=>
 vK (ag .i .neq x (.int .i64 0)) λf=>
 vK (gV f false (some b)) λy=>
 vK (gV f false (ag .p .eql y (.pointer none))) λz=>
 vK (az f (.bool true) z) λaa=>
 aA aa (
 R (.bool false) o) (
 ae prog bu #[b,(.int .i64 1)] o λab ac=>
 aP #[(.int .i64 0),(.slice none 0 0)] 235 ac λg ad=>
 stK 2 g ab ad λa6 ah=>
 ae prog fF #[b,(.int .i64 0),(.int .i64 2)] ah λq ai=>
 vK (aF q 0) λaj=>
 vK (aF q 1) λak=>
 ae prog bu #[b,(.int .i64 0)] ai λal c=>
 vK (mT false 1 0 al) λan=>
 vK (ag .i .eql an (.int .i64 0)) λd=>
 vK (gV d true (am 0 g)) λao=>
 vK (gV d true (ldV c ao)) λap=>
 vK (gV d true (ag .i .eql ap (.int .i64 2))) λaq=>
 vK (az d aq (.bool false)) λa=>
 vK (gV a true (am 1 g)) λar=>
 vK (gV a true (ldV c ar)) λau=>
 gK a true (λav=>cF #[(.int .i64 0),(.int .i64 0)] 2 2 [(0,1,(.int .i64 8192)),(1,1,(.int .i64 8192))] c av) c λaw r=>
 gK a true (λax=>ae prog qY #[au,aw] r ax) r λay a0=>
 vK (az a ay (.bool false)) λj=>
 vK (gV j true (some aj)) λa1=>
 vK (gV j true (ag .i .eql a1 (.int .i64 0))) λa2=>
 vK (az j a2 (.bool false)) λk=>
 vK (gV k true (some ak)) λa3=>
 vK (gV k true (ag .i .eql a3 (.int .i64 4))) λa4=>
 vK (az k a4 (.bool false)) λa5=>
 R a5 a0))
theorem IF (H:yt h R):ae prog uI #[] h R:=fk f208 (.s .z (.s (.s .z (.s (.s .z .z) .z)) (.s .z (.s (.s .z (.s (.s .z .z) .z)) (.s .z (.s .z (.s .z .z))))))) H
def Bm (a0 a1 a2 a3 a4:Value)(h:af)(R:Value→af→Prop):Prop:=
 aP (Value.cells a1) 46 h λf s=>
 vK (aH 3 s f) λbg=>
 ae prog ij #[a0,bg] s λbh t=>
 vK (unV .not bh) λo=>
 vK (gV o false (some a4)) λbi=>
 vK (gV o false (ag .i .lss bi (.int .i64 0))) λbj=>
 vK (az o (.bool true) bj) λg=>
 vK (gV g false (some a4)) λbk=>
 vK (gV g false (some a0)) λbl=>
 gK g false (λbm=>ae prog aO #[bl] t bm) t λbn a=>
 vK (gV g false (ag .i .geq bk bn)) λbo=>
 vK (az g (.bool true) bo) λbp=>
 aA bp (
 R (.int .i64 0) a) (
 dE (λbq=>
 bD a λS=>
 vK (am 0 f) λbr=>
 qK S (λa=>ldV a br) λj=>
 vK (am 1 f) λbs=>
 qK S (λa=>ldV a bs) λk=>
 (λC33:Value→Value→Value→Value→af→Prop=>
 (λC40:Value→Value→Value→af→Prop=>
 (λC47:Value→Value→Value→af→Prop=>
 (λC54:Value→Value→Value→af→Prop=>
 (λC62:Value→Value→af→Prop=>
 (λC70:Value→Value→af→Prop=>
 (λC76:Value→Value→af→Prop=>
 (ae prog bu #[j,a2] a λl m=>
 S m∧((ae prog bu #[k,a3] m λu p=>
 S p∧((aP #[(.int .i64 0),(.slice none 0 0)] 235 p λbt v=>
 S v∧(C40 l u bt v))∧(aP #[(.int .i64 0),(.slice none 0 0)] 235 p λbv w=>
 S w∧(C47 l u bv w))))∧((aP #[(.int .i64 0),(.slice none 0 0)] 235 m λbw x=>
 S x∧(C62 l bw x))∧(aP #[(.int .i64 0),(.slice none 0 0)] 235 m λbx y=>
 S y∧(C70 l bx y)))))∧((aP #[(.int .i64 0),(.slice none 0 0)] 235 a λz q=>
 S q∧((ae prog bu #[j,a2] q λbz aa=>
 S aa∧(C62 bz z aa))∧(aP #[(.int .i64 0),(.slice none 0 0)] 235 q λb0 ab=>
 S ab∧(C76 z b0 ab))))∧(aP #[(.int .i64 0),(.slice none 0 0)] 235 a λac r=>
 S r∧((ae prog bu #[j,a2] r λb1 ad=>
 S ad∧(C70 b1 ac ad))∧(aP #[(.int .i64 0),(.slice none 0 0)] 235 r λb2 ah=>
 S ah∧(C76 b2 ac ah)))))) (λb3 b4 b5=>
 ae prog bu #[j,a2] b5 λb6 ai=>
 S ai∧(C54 b6 b3 b4 ai))) (λaj ak al=>
 (ae prog bu #[k,a3] al λb7 an=>
 S an∧(C47 aj b7 ak an))∧(aP #[(.int .i64 0),(.slice none 0 0)] 235 al λb8 ao=>
 S ao∧(C54 aj b8 ak ao)))) (λap ar au=>
 (ae prog bu #[k,a3] au λb9 av=>
 S av∧(C40 ap b9 ar av))∧(aP #[(.int .i64 0),(.slice none 0 0)] 235 au λca aw=>
 S aw∧(C54 ap ar ca aw)))) (λcb cc cd ce=>
 ae prog bu #[k,a3] ce λcf ax=>
 S ax∧(C33 cb cf cc cd ax))) (λcg ch ci cj=>
 aP #[(.int .i64 0),(.slice none 0 0)] 235 cj λck ay=>
 S ay∧(C33 cg ch ck ci ay))) (λcl cm cn co=>
 aP #[(.int .i64 0),(.slice none 0 0)] 235 co λcp a5=>
 S a5∧(C33 cl cm cn cp a5))) (λcq cr a6 a7 cs=>
 stK 2 a6 cq cs λdt a8=>
 S a8∧(stK 2 a7 cr a8 λdu a9=>
 S a9∧(bq [a6,a7] a9))))
 λn dv ba=>
 vK (am 1 (ix n 1)) λct=>
 vK (ldV ba ct) λbb=>
 vK (aq bb) λcu=>
 aS [(.int .i64 0),(.int .i64 0)] ba λd dw b cv=>
 vK (ag .i .lss (ix d 1) cu) λcw=>
 aA cw (
 vK (aR 1 bb (ix d 1)) λcx=>
 vK (ldV b cx) λcy=>
 bD b λS=>
 vK (am 2 f) λcz=>
 qK S (λb=>ldV b cz) λc0=>
 vK (am 0 (ix n 1)) λc1=>
 qK S (λb=>ldV b c1) λc2=>
 vK (ag .i .add c2 (ix d 1)) λc3=>
 ae prog bG #[a0] b λc4 bc=>
 S bc∧(ae prog jJ #[c0,c3,c4] bc λc5 bd=>
 vK (am 1 (ix n 0)) λc6=>
 vK (ldV bd c6) λbe=>
 vK (aq be) λc7=>
 aS [(ix d 0),(.int .i64 0)] bd λe dx c c8=>
 vK (ag .i .lss (ix e 1) c7) λc9=>
 aA c9 (
 vK (aR 1 be (ix e 1)) λda=>
 vK (ldV c da) λdb=>
 bD c λS=>
 vK (am 2 f) λdc=>
 qK S (λc=>ldV c dc) λdd=>
 vK (am 0 (ix n 0)) λde=>
 qK S (λc=>ldV c de) λdf=>
 vK (ag .i .add df (ix e 1)) λdg=>
 ae prog bE #[a0] c λdh bf=>
 S bf∧(ae prog jJ #[dd,dg,dh] bf λdi dj=>
 vK (ag .i .mul db cy) λdk=>
 ae prog fo #[a0,di,c5,a4] dj λdl dm=>
 vK (dY .i64 dl) λdn=>
 vK (ag .i .mul dk dn) λdp=>
 vK (ag .i .add (ix e 0) dp) λdq=>
 vK (ag .i .add (ix e 1) (.int .i64 1)) λdr=>
 c8 [dq,dr] dm)) (
 vK (ag .i .add (ix d 1) (.int .i64 1)) λds=>
 cv [(ix e 0),ds] c))) (
 R (ix d 0) b))
theorem K9 (H:Bm a0 a1 a2 a3 a4 h R):ae prog wZ #[a0,a1,a2,a3,a4] h R:=fk f209 (.s .z (.s (.s .z (.s (.s .z .z) .z)) (.j 4380866648064 [11,12] (.d (.op 0 .r (.op 1 .r (.op 2 .r (.op 4 .r (.op 5 .r (.op 6 .r (.alt (.op 3 .e (.alt (.op 7 .e (.alt (.op 8 .e (.op 9 .e (.op 10 .e (.op 11 .e .nil)))) (.op 9 .e (.op 8 .e (.op 10 .e (.op 11 .e .nil)))))) (.alt (.op 8 .e (.alt (.op 7 .e (.op 9 .e (.op 10 .e (.op 11 .e .nil)))) (.op 9 .e (.op 7 .e (.op 10 .e (.op 11 .e .nil)))))) (.op 9 .e (.alt (.op 7 .e (.op 8 .e (.op 10 .e (.op 11 .e .nil)))) (.op 8 .e (.op 7 .e (.op 10 .e (.op 11 .e .nil))))))))) (.alt (.op 8 .e (.alt (.op 3 .e (.alt (.op 7 .e (.op 9 .e (.op 10 .e (.op 11 .e .nil)))) (.op 9 .e (.op 7 .e (.op 10 .e (.op 11 .e .nil)))))) (.op 9 .e (.op 3 .e (.op 7 .e (.op 10 .e (.op 11 .e .nil))))))) (.op 9 .e (.alt (.op 3 .e (.alt (.op 7 .e (.op 8 .e (.op 10 .e (.op 11 .e .nil)))) (.op 8 .e (.op 7 .e (.op 10 .e (.op 11 .e .nil)))))) (.op 8 .e (.op 3 .e (.op 7 .e (.op 10 .e (.op 11 .e .nil)))))))))))))))) (.s .z (.s (.s .z (.l 1237940039285345090528075776 [13,45] (.s .z (.s (.s .z .z) (.s (.s .z (.s (.d (.op 0 .r (.op 1 .r (.op 2 .r (.op 3 .r (.op 4 .r (.op 5 .r (.op 6 .r (.op 7 .e (.op 8 .n (.op 9 .r .nil))))))))))) (.s .z (.l 618970015031004119023099904 [13,62] (.s .z (.s (.s .z .z) (.s (.s .z (.s (.d (.op 0 .r (.op 1 .r (.op 2 .r (.op 3 .r (.op 4 .r (.op 5 .r (.op 6 .r (.op 7 .e (.op 8 .n (.op 9 .r .nil))))))))))) .z)) .z))))))) .z))))) (.s .z .z)))))) H
def AT (a0:Value)(h:af)(R:Value→af→Prop):Prop:=
 vK (ag .i .geq a0 (.int .i64 1)) λa=>
 vK (gV a true (some a0)) λb=>
 vK (gV a true (ag .i .leq b (.int .i64 65536))) λc=>
 vK (az a c (.bool false)) λd=>
 R d h
theorem KI (H:AT a0 h R):ae prog mq #[a0] h R:=fk f210 (.s .z (.s .z .z)) H
def C6 (a0 a1 a2 a3:Value)(h:af)(R:Value→af→Prop):Prop:=
 ae prog zO #[a0,a1,a2,a3] h λj d=>
 vK (unV .not j) λk=>
 aA k (
 R (.tuple #[(.int .i64 0),(.slice none 0 0)]) d) (
 vK (ag .i .mul a3 a1) λl=>
 vK (ag .i .quo l a2) λm=>
 aS [m] d λc ak n o=>
 vK (ag .i .sub (ix c 0) (.int .i64 1)) λp=>
 ae prog nO #[a0,a1,a2,a3,p] n λq e=>
 aA q (
 vK (ag .i .sub (ix c 0) (.int .i64 1)) λr=>
 o [r] e) (
 aS [(ix c 0)] e λb al s t=>
 ae prog nO #[a0,a1,a2,a3,(ix b 0)] s λu f=>
 vK (unV .not u) λv=>
 aA v (
 vK (ag .i .add (ix b 0) (.int .i64 1)) λw=>
 t [w] f) (
 aS [(ix b 0),(.slice none 0 0)] f λa am x y=>
 ae prog nO #[a0,a1,a2,a3,(ix a 0)] x λz g=>
 aA z (
 ae prog sD #[a0,a1,a2,a3,(ix a 0)] g λaa ab=>
 cF #[(.int .i64 0)] 2 1 [(0,1,aa)] ab λac ad=>
 cG (.int .i64 0) 2 1 8 (ix a 1) ac ad λah ai=>
 vK (ag .i .add (ix a 0) (.int .i64 1)) λaj=>
 y [aj,ah] ai) (
 R (.tuple #[(ix b 0),(ix a 1)]) g))))
theorem MY (H:C6 a0 a1 a2 a3 h R):ae prog tT #[a0,a1,a2,a3] h R:=fk f211 (.s .z (.s (.s .z (.s (.s .z .z) .z)) (.s .z (.s (.l 8573158400 [10] (.s (.s .z (.s .z .z)) .z)) (.s (.l 4389456577536 [10] (.s (.s .z (.s .z .z)) .z)) (.s .z (.s .z (.s (.l 1152912708513829888 [10,12] (.s (.s .z (.s .z .z)) (.s .z .z))) (.s .z .z))))))))) H
def rD (a0:Value)(h:af)(R:Value→af→Prop):Prop:=
 vK (aq a0) λr=>
 vK (ag .i .lss r (.int .i64 1)) λd=>
 vK (gV d false (some a0)) λs=>
 vK (gV d false (aq s)) λt=>
 vK (gV d false (ag .i .gtr t (.int .i64 1048576))) λu=>
 vK (az d (.bool true) u) λv=>
 aA v (
 R (.tuple #[(.slice none 0 0),(.int .i64 7)]) h) (
 vK (aq a0) λw=>
 aS [(.int .i64 0)] h λe bp f x=>
 vK (ag .i .lss (ix e 0) w) λy=>
 aA y (
 vK (aR 1 a0 (ix e 0)) λz=>
 vK (ldV f z) λaa=>
 ae prog qX #[aa] f λab l=>
 vK (ag .i .gtr ab (.int .i64 1099511627776)) λac=>
 aA ac (
 R (.tuple #[(.slice none 0 0),(.int .i64 7)]) l) (
 vK (ag .i .add (ix e 0) (.int .i64 1)) λad=>
 x [ad] l)) (
 ae prog zN #[a0] f λg m=>
 vK (ag .i .lss g (.int .i64 268435456)) λah=>
 aA ah (
 R (.tuple #[(.slice none 0 0),(.int .i64 8)]) m) (
 vK (aq a0) λai=>
 aS [(.slice none 0 0),(.slice none 0 0),(.int .i64 16384),(.int .i64 0)] m λa bq j aj=>
 vK (ag .i .lss (ix a 3) ai) λak=>
 aA ak (
 vK (aR 1 a0 (ix a 3)) λal=>
 vK (ldV j al) λn=>
 vK (ag .i .mul n (.int .i64 16384)) λam=>
 ae prog oA #[am,g] j λk an=>
 cF #[(.int .i64 0)] 2 1 [(0,1,k)] an λao ap=>
 cG (.int .i64 0) 2 1 8 (ix a 0) ao ap λar au=>
 vK (ag .i .mul n (.int .i64 16384)) λav=>
 vK (ag .i .mul k g) λaw=>
 vK (ag .i .sub av aw) λax=>
 cF #[(.int .i64 0)] 2 1 [(0,1,ax)] au λay a1=>
 cG (.int .i64 0) 2 1 8 (ix a 1) ay a1 λa2 a3=>
 vK (ag .i .sub (ix a 2) k) λa4=>
 vK (ag .i .add (ix a 3) (.int .i64 1)) λa5=>
 aj [ar,a2,a4,a5] a3) (
 aS [(ix a 2)] j λo br p a6=>
 vK (ag .i .gtr (ix o 0) (.int .i64 0)) λa7=>
 aA a7 (
 vK (aq (ix a 1)) λa8=>
 aS [(.int .i64 0),(.int .i64 0)] p λb bs c q=>
 vK (ag .i .lss (ix b 1) a8) λa9=>
 aA a9 (
 vK (aR 1 (ix a 1) (ix b 1)) λba=>
 vK (ldV c ba) λbb=>
 vK (aR 1 (ix a 1) (ix b 0)) λbc=>
 vK (ldV c bc) λbd=>
 vK (ag .i .gtr bb bd) λbe=>
 aA be (
 vK (ag .i .add (ix b 1) (.int .i64 1)) λbf=>
 q [(ix b 1),bf] c) (
 vK (ag .i .add (ix b 1) (.int .i64 1)) λbg=>
 q [(ix b 0),bg] c)) (
 vK (aR 1 (ix a 0) (ix b 0)) λbh=>
 vK (ldV c bh) λbi=>
 vK (ag .i .add bi (.int .i64 1)) λbj=>
 vK (aR 1 (ix a 0) (ix b 0)) λbk=>
 stK 1 bk bj c λbt bl=>
 vK (aR 1 (ix a 1) (ix b 0)) λbm=>
 stK 1 bm (.int .i64 (-1)) bl λbu bn=>
 vK (ag .i .sub (ix o 0) (.int .i64 1)) λbo=>
 a6 [bo] bn)) (
 R (.tuple #[(ix a 0),(.int .i64 0)]) p)))))
theorem BR (H:rD a0 h R):ae prog gw #[a0] h R:=fk f212 (.s .z (.s (.s .z (.s (.s .z .z) .z)) (.s (.s .z (.l 8556380204 [25] (.s .z (.s (.s .z .z) (.s (.s .z (.s .z (.s (.s .z .z) .z))) .z))))) (.s .z (.s (.s .z (.s (.s .z .z) .z)) (.s .z (.s .z (.s .z (.s (.s .z (.l 18446743523953744768 [7,8,9,39] (.s .z (.s (.s .z .z) (.s (.s .z (.s .z (.s .z (.s .z .z)))) .z))))) (.s (.l 9903520295836298125483467264 [9] (.s (.s .z (.s .z .z)) (.s .z (.s (.s .z (.l 4835408130553337346023424 [13,68] (.s .z (.s (.s .z .z) (.s (.s .z (.s .z (.s .z .z))) .z))))) (.s .z (.s .z .z)))))) (.s .z .z))))))))))) H
def xW (a0 a1:Value)(h:af)(R:Value→af→Prop):Prop:=
 ae prog uw #[a0,a1] h λa b=>
 ae prog zQ #[a] b λc d=>
 ae prog iW #[c,(.int .i64 10)] d λe f=>
 R e f
theorem Ij (H:xW a0 a1 h R):ae prog uz #[a0,a1] h R:=fk f213 (.s .z (.s .z .z)) H
def xU (a0:Value)(h:af)(R:Value→af→Prop):Prop:=
 vK (aq a0) λc=>
 aS [(.int .i64 0),(.int .i64 0)] h λa o b d=>
 vK (ag .i .lss (ix a 1) c) λe=>
 aA e (
 vK (aR 1 a0 (ix a 1)) λf=>
 vK (ldV b f) λg=>
 ae prog qX #[g] b λj k=>
 ae prog qW #[(ix a 0),j] k λl m=>
 vK (ag .i .add (ix a 1) (.int .i64 1)) λn=>
 d [l,n] m) (
 R (ix a 0) b)
theorem Ih (H:xU a0 h R):ae prog uv #[a0] h R:=fk f214 (.s .z (.s .z (.s (.s .z (.l 130856 [3,8] (.s .z (.s (.s .z .z) (.s (.s .z .z) .z))))) (.s .z .z)))) H
def xi (a0 a1 a2:Value)(h:af)(R:Value→af→Prop):Prop:=
 vK (ag .i .eql a2 (.int .i64 0)) λe=>
 aA e (
 R (.int .i64 0) h) (
 ae prog eT #[a0] h λf g=>
 ae prog eT #[a1] g λj k=>
 ae prog og #[f,j] k λl m=>
 aP #[(.int .u64 0),(.int .u64 0)] 293 m λc n=>
 stK 2 c l n λx a=>
 vK (ag .i .lss a0 (.int .i64 0)) λo=>
 vK (ag .i .lss a1 (.int .i64 0)) λp=>
 vK (ag .b .neq o p) λq=>
 bD a λS=>
 qK S (λa=>aH 2 a c) λr=>
 vK (ag .i .lss a2 (.int .i64 0)) λs=>
 vK (ag .b .neq q s) λt=>
 ae prog eT #[a2] a λu d=>
 S d∧(ae prog p8 #[r,u,t] d λv w=>
 R v w))
theorem Gx (H:xi a0 a1 a2 h R):ae prog cI #[a0,a1,a2] h R:=fk f215 (.s .z (.s (.s .z (.s (.s .z .z) .z)) (.s .z (.s .z (.s (.d (.op 0 .r (.op 1 .r (.op 3 .r (.op 4 .r (.op 5 .r (.op 6 .r (.op 2 .e (.op 7 .n (.op 8 .r .nil)))))))))) .z))))) H
def uV (a0 a1:Value)(h:af)(R:Value→af→Prop):Prop:=
 vK (aK a0) λb=>
 vK (am 2 b) λc=>
 vK (ldV h c) λd=>
 vK (FT (.int .i64) (.slice none 0 0) true h d a1) λa=>
 vK (aF a 0) λf=>
 vK (aF a 1) λe=>
 R e h
theorem EO (H:uV a0 a1 h R):ae prog kK #[a0,a1] h R:=fk f216 (.s .z (.s .z (.s .z .z))) H
def yz (a0 a1 a2:Value)(h:af)(R:Value→af→Prop):Prop:=
 vK (pA a0 a2) λa=>
 vK (iG a1 a) λb=>
 R b h
theorem IL (H:yz a0 a1 a2 h R):ae prog oF #[a0,a1,a2] h R:=fk f217 (.s .z (.s .z .z)) H
def Dm (a0 a1:Value)(h:af)(R:Value→af→Prop):Prop:=
 vK (ag .i .eql a1 (.int .i64 0)) λd=>
 vK (gV d false (some a1)) λe=>
 vK (gV d false (ag .i .eql e (.int .i64 (-1)))) λf=>
 vK (az d (.bool true) f) λg=>
 aA g (
 R (.int .i64 0) h) (
 vK (ag .i .rem a0 a1) λc=>
 vK (ag .i .neq c (.int .i64 0)) λa=>
 vK (gV a true (some c)) λj=>
 vK (gV a true (ag .i .lss j (.int .i64 0))) λk=>
 vK (gV a true (some a1)) λl=>
 vK (gV a true (ag .i .lss l (.int .i64 0))) λm=>
 vK (gV a true (ag .b .neq k m)) λn=>
 vK (az a n (.bool false)) λo=>
 aA o (
 vK (ag .i .add c a1) λp=>
 R p h) (
 R c h))
theorem Ni (H:Dm a0 a1 h R):ae prog pP #[a0,a1] h R:=fk f218 (.s .z (.s (.s .z (.s (.s .z .z) .z)) (.s .z (.s (.s .z (.s .z .z)) (.s .z .z))))) H
def rC (a0:Value)(h:af)(R:Value→af→Prop):Prop:=
 vK (aK a0) λa=>
 vK (am 2 a) λb=>
 vK (ldV h b) λc=>
 vK (LM h c) λd=>
 vK (ag .i .eql d (.int .i64 0)) λe=>
 aA e (
 R (.tuple #[(.int .i64 0),(.bool false)]) h) (
 vK (aK a0) λf=>
 vK (am 2 f) λg=>
 vK (ldV h g) λj=>
 ae prog dB #[j] h λk l=>
 ae prog mf #[k] l λm n=>
 ae prog fM #[m] n λo p=>
 R (.tuple #[o,(.bool true)]) p)
theorem BQ (H:rC a0 h R):ae prog mo #[a0] h R:=fk f219 (.s .z (.s (.s .z (.s (.s .z .z) .z)) (.s .z .z))) H
def td (a0 a1:Value)(h:af)(R:Value→af→Prop):Prop:=
 bD h λS=>
 vK (aK a0) λd=>
 vK (am 3 d) λe=>
 qK S (λh=>ldV h e) λf=>
 vK (aK a0) λg=>
 vK (am 2 g) λi=>
 qK S (λh=>ldV h i) λj=>
 qK S (λh=>FT (.int .i64) (.slice none 0 0) false h j a1) λk=>
 cF #[(.slice none 0 0)] 28 1 [(0,1,k)] h λl a=>
 S a∧(cG (.slice none 0 0) 28 1 24 f l a λm b=>
 S b∧(vK (aK a0) λn=>
 vK (am 3 n) λo=>
 stK 1 o m b λt c=>
 vK (aK a0) λp=>
 vK (am 2 p) λq=>
 vK (ldV c q) λr=>
 lS (.int .i64) r a1 c λu s=>
 R (.tuple #[]) s))
theorem DD (H:td a0 a1 h R):ae prog nK #[a0,a1] h R:=fk f220 (.s (.d (.op 0 .r (.op 1 .r (.op 2 .r (.op 3 .r (.op 4 .r (.op 5 .r (.op 6 .r (.op 7 .r (.op 8 .r (.op 9 .r (.op 10 .r (.op 11 .e (.op 12 .e (.op 13 .r (.op 14 .r (.op 15 .n .nil))))))))))))))))) .z) H
def rz (a0:Value)(h:af)(R:Value→af→Prop):Prop:=
 vK (aK a0) λc=>
 vK (am 3 c) λd=>
 vK (ldV h d) λe=>
 vK (aq e) λa=>
 vK (ag .i .gtr a (.int .i64 0)) λf=>
 aA f (
 vK (aK a0) λg=>
 vK (am 3 g) λj=>
 vK (ldV h j) λk=>
 vK (ag .i .sub a (.int .i64 1)) λl=>
 vK (aR 1 k l) λm=>
 vK (ldV h m) λn=>
 vK (aK a0) λo=>
 vK (am 3 o) λp=>
 vK (ldV h p) λq=>
 vK (ag .i .sub a (.int .i64 1)) λr=>
 vK (ue 1 q none (some r)) λs=>
 vK (aK a0) λt=>
 vK (am 3 t) λu=>
 stK 1 u s h λaa v=>
 R n v) (
 vK (aK a0) λw=>
 vK (am 1 w) λx=>
 vK (ldV h x) λb=>
 mkK (.int .i64 0) 2 1 8 b b h λy z=>
 R y z)
theorem BN (H:rz a0 h R):ae prog mg #[a0] h R:=fk f221 (.s .z (.s (.s .z (.s .z (.s (.s .z (.s .z (.s .z .z))) .z))) (.s .z .z))) H
def yw (a0 a1:Value)(h:af)(R:Value→af→Prop):Prop:=
 vK (ag .i .leq a1 (.int .i64 0)) λa=>
 aA a (
 R a0 h) (
 vK (ag .i .geq a1 (.int .i64 64)) λb=>
 aA b (
 R (.int .i64 0) h) (
 vK (ag .i .shr a0 a1) λc=>
 vK (ag .i .sub a1 (.int .i64 1)) λd=>
 vK (ag .i .shr a0 d) λe=>
 vK (ag .i .and e (.int .i64 1)) λf=>
 vK (ag .i .add c f) λg=>
 R g h))
theorem IJ (H:yw a0 a1 h R):ae prog iX #[a0,a1] h R:=fk f222 (.s .z (.s (.s .z (.s (.s .z .z) .z)) (.s (.s .z (.s (.s .z .z) .z)) (.s .z .z)))) H
def AL (a0:Value)(h:af)(R:Value→af→Prop):Prop:=
 vK (ag .i .geq a0 (.int .i64 1)) λa=>
 vK (gV a true (some a0)) λb=>
 vK (gV a true (ag .i .leq b (.int .i64 65536))) λc=>
 vK (az a c (.bool false)) λd=>
 R d h
theorem KA (H:AL a0 h R):ae prog mc #[a0] h R:=fk f223 (.s .z (.s .z .z)) H
def He (a0 a1 a2 a3:Value)(h:af)(R:Value→af→Prop):Prop:=
 ae prog wN #[a0,a1,a2,a3] h λb e=>
 vK (aF b 0) λc=>
 vK (aF b 1) λf=>
 aS [(.slice none 0 0),(.int .i64 0)] e λa s d g=>
 vK (ag .i .lss (ix a 1) f) λj=>
 aA j (
 vK (ag .i .add c (ix a 1)) λk=>
 ae prog zR #[a0,a1,a2,a3,k] d λl m=>
 cF #[(.int .i64 0)] 2 1 [(0,1,l)] m λn o=>
 cG (.int .i64 0) 2 1 8 (ix a 0) n o λp q=>
 vK (ag .i .add (ix a 1) (.int .i64 1)) λr=>
 g [p,r] q) (
 R (.tuple #[c,(ix a 0)]) d)
theorem QK (H:He a0 a1 a2 a3 h R):ae prog Aq #[a0,a1,a2,a3] h R:=fk f224 (.s .z (.s .z (.s (.s .z (.l 68717382144 [9,21] (.s .z (.s (.s .z .z) (.s (.s .z .z) .z))))) (.s .z .z)))) H
def sY (a0:Value)(h:af)(R:Value→af→Prop):Prop:=
 ae prog wD #[a0] h λt u=>
 vK (ag .i .neq t (.int .i64 0)) λbw=>
 aA bw (
 R (.tuple #[(.slice none 0 0),t]) u) (
 ae prog wE #[a0] u λv f=>
 dE (λbx=>
 bD f λS=>
 qK S (λf=>aq a0) λa=>
 qK S (λf=>aq a0) λb=>
 qK S (λf=>aq a0) λc=>
 (λC22:Value→Value→Value→Value→af→Prop=>
 (λC29:Value→Value→Value→Value→af→Prop=>
 (λC35:Value→Value→Value→Value→af→Prop=>
 (λC43:Value→Value→Value→af→Prop=>
 (λC51:Value→Value→Value→af→Prop=>
 (λC58:Value→Value→Value→af→Prop=>
 (λC63:Value→Value→Value→af→Prop=>
 (λC68:Value→Value→Value→af→Prop=>
 (λC75:Value→Value→Value→af→Prop=>
 (λC83:Value→Value→af→Prop=>
 (λC91:Value→Value→af→Prop=>
 (λC99:Value→Value→af→Prop=>
 (λC107:Value→Value→af→Prop=>
 (λC115:Value→Value→af→Prop=>
 (λC123:Value→Value→af→Prop=>
 (mkK (.int .i64 0) 2 1 8 a a f λo j=>
 S j∧((mkK (.int .i64 0) 3 1 8 b b j λbz w=>
 S w∧(C83 o bz w))∧((mkK (.int .i64 0) 2 1 8 c c j λb0 x=>
 S x∧(C91 o b0 x))∧(aP #[(.slice none 0 0)] 28 j λb1 y=>
 S y∧(C99 o b1 y)))))∧((mkK (.int .i64 0) 3 1 8 b b f λp k=>
 S k∧((mkK (.int .i64 0) 2 1 8 a a k λb2 z=>
 S z∧(C83 b2 p z))∧((mkK (.int .i64 0) 2 1 8 c c k λb3 aa=>
 S aa∧(C107 p b3 aa))∧(aP #[(.slice none 0 0)] 28 k λb4 ab=>
 S ab∧(C115 p b4 ab)))))∧((mkK (.int .i64 0) 2 1 8 c c f λq l=>
 S l∧((mkK (.int .i64 0) 2 1 8 a a l λb5 ac=>
 S ac∧(C91 b5 q ac))∧((mkK (.int .i64 0) 3 1 8 b b l λb6 ad=>
 S ad∧(C107 b6 q ad))∧(aP #[(.slice none 0 0)] 28 l λb7 ah=>
 S ah∧(C123 q b7 ah)))))∧(aP #[(.slice none 0 0)] 28 f λr m=>
 S m∧((mkK (.int .i64 0) 2 1 8 a a m λb8 ai=>
 S ai∧(C99 b8 r ai))∧((mkK (.int .i64 0) 3 1 8 b b m λb9 aj=>
 S aj∧(C115 b9 r aj))∧(mkK (.int .i64 0) 2 1 8 c c m λca ak=>
 S ak∧(C123 ca r ak)))))))) (λal am an=>
 (mkK (.int .i64 0) 2 1 8 a a an λcb ao=>
 S ao∧(C68 cb al am ao))∧(mkK (.int .i64 0) 3 1 8 b b an λcc ap=>
 S ap∧(C75 cc al am ap)))) (λar au av=>
 (mkK (.int .i64 0) 2 1 8 a a av λcd aw=>
 S aw∧(C63 cd ar au aw))∧(mkK (.int .i64 0) 2 1 8 c c av λce ax=>
 S ax∧(C75 ar ce au ax)))) (λay az a1=>
 (mkK (.int .i64 0) 2 1 8 a a a1 λcf a2=>
 S a2∧(C58 cf ay az a2))∧(aP #[(.slice none 0 0)] 28 a1 λcg a3=>
 S a3∧(C75 ay az cg a3)))) (λa4 a5 a6=>
 (mkK (.int .i64 0) 3 1 8 b b a6 λch a7=>
 S a7∧(C43 ch a5 a4 a7))∧(mkK (.int .i64 0) 2 1 8 c c a6 λci a8=>
 S a8∧(C51 ci a5 a4 a8)))) (λa9 ba bb=>
 (mkK (.int .i64 0) 3 1 8 b b bb λcj bc=>
 S bc∧(C58 a9 cj ba bc))∧(aP #[(.slice none 0 0)] 28 bb λck bd=>
 S bd∧(C68 a9 ba ck bd)))) (λbe bf bg=>
 (mkK (.int .i64 0) 2 1 8 c c bg λcl bh=>
 S bh∧(C58 be bf cl bh))∧(aP #[(.slice none 0 0)] 28 bg λcm bi=>
 S bi∧(C63 be bf cm bi)))) (λcn co cp cq=>
 mkK (.int .i64 0) 2 1 8 a a cq λcr bj=>
 S bj∧(C35 cr cn co cp bj))) (λcs ct cu cv=>
 C51 ct cu cs cv)) (λcw cx cy cz=>
 C43 cx cy cw cz)) (λc0 c1 c2 c3=>
 aP #[(.slice none 0 0)] 28 c3 λc4 bk=>
 S bk∧(C35 c0 c1 c2 c4 bk))) (λc5 c6 c7 c8=>
 mkK (.int .i64 0) 3 1 8 b b c8 λc9 bl=>
 S bl∧(C29 c9 c5 c6 c7 bl))) (λda db dc dd=>
 mkK (.int .i64 0) 2 1 8 c c dd λde bm=>
 S bm∧(C22 de db dc da bm))) (λdf dg dh di dj=>
 C29 dg dh di df dj)) (λdk dl dm dn dp=>
 C22 dl dm dn dk dp)) (λdq bn dr ds dt=>
 stK 1 bn dq dt λen bo=>
 S bo∧(bx [dr,ds,bn] bo)))
 λd eo du=>
 vK (aq a0) λdv=>
 aS [(.int .i64 16384),(.int .i64 0)] du λe ep g dw=>
 vK (ag .i .lss (ix e 1) dv) λdx=>
 aA dx (
 vK (aR 1 a0 (ix e 1)) λdy=>
 vK (ldV g dy) λbp=>
 bD g λS=>
 qK S (λg=>ldV g (ix d 2)) λdz=>
 vK (ag .i .mul bp (.int .i64 16384)) λd0=>
 vK (ag .i .mul bp (.int .i64 16384)) λd1=>
 ae prog iY #[d0,v] g λd2 bq=>
 S bq∧(ae prog pP #[d1,v] bq λd3 br=>
 S br∧(vK (aR 1 (ix d 0) (ix e 1)) λd4=>
 stK 1 d4 d2 br λeq bs=>
 S bs∧(vK (aR 1 dz (ix e 1)) λd5=>
 stK 1 d5 d3 bs λer d6=>
 vK (aR 1 (ix d 1) (ix e 1)) λd7=>
 stK 1 d7 (ix e 1) d6 λes bt=>
 vK (aR 1 (ix d 0) (ix e 1)) λd8=>
 vK (ldV bt d8) λd9=>
 vK (ag .i .sub (ix e 0) d9) λea=>
 vK (ag .i .add (ix e 1) (.int .i64 1)) λeb=>
 dw [ea,eb] bt)))) (
 ae prog dD #[(ix d 1),(.func (.func kf) #[] #[(ix d 2)])] g λet ec=>
 vK (ue 1 (ix d 1) none (some (ix e 0))) λbu=>
 vK (aq bu) λed=>
 aS [(.int .i64 0)] ec λs eu n ee=>
 vK (ag .i .lss (ix s 0) ed) λef=>
 aA ef (
 vK (aR 1 bu (ix s 0)) λeg=>
 vK (ldV n eg) λbv=>
 vK (aR 1 (ix d 0) bv) λeh=>
 vK (ldV n eh) λei=>
 vK (ag .i .add ei (.int .i64 1)) λej=>
 vK (aR 1 (ix d 0) bv) λek=>
 stK 1 ek ej n λev el=>
 vK (ag .i .add (ix s 0) (.int .i64 1)) λem=>
 ee [em] el) (
 R (.tuple #[(ix d 0),(.int .i64 0)]) n)))
theorem DB (H:sY a0 h R):ae prog ig #[a0] h R:=fk f225 (.s .z (.s (.s .z (.s .z (.s (.s .z .z) .z))) (.s .z (.j 1071645568 [7,8,9] (.d (.op 0 .r (.op 1 .r (.op 3 .r (.op 4 .r (.op 6 .r (.op 7 .r (.alt (.op 2 .e (.alt (.op 5 .e (.alt (.op 8 .e (.op 9 .e (.op 10 .r (.op 11 .r (.op 12 .e .nil))))) (.op 9 .e (.op 10 .r (.op 11 .r (.op 8 .e (.op 12 .e .nil))))))) (.alt (.op 8 .e (.alt (.op 5 .e (.op 9 .e (.op 10 .r (.op 11 .r (.op 12 .e .nil))))) (.op 9 .e (.op 10 .r (.op 5 .e (.op 11 .r (.op 12 .e .nil))))))) (.op 9 .e (.op 10 .r (.alt (.op 5 .e (.op 11 .r (.op 8 .e (.op 12 .e .nil)))) (.op 8 .e (.op 5 .e (.op 11 .r (.op 12 .e .nil)))))))))) (.alt (.op 5 .e (.alt (.op 2 .e (.alt (.op 8 .e (.op 9 .e (.op 10 .r (.op 11 .r (.op 12 .e .nil))))) (.op 9 .e (.op 10 .r (.op 11 .r (.op 8 .e (.op 12 .e .nil))))))) (.alt (.op 8 .e (.alt (.op 2 .e (.op 9 .e (.op 10 .r (.op 11 .r (.op 12 .e .nil))))) (.op 9 .e (.op 2 .e (.op 10 .r (.op 11 .r (.op 12 .e .nil))))))) (.op 9 .e (.alt (.op 2 .e (.op 10 .r (.op 11 .r (.op 8 .e (.op 12 .e .nil))))) (.op 8 .e (.op 2 .e (.op 10 .r (.op 11 .r (.op 12 .e .nil)))))))))) (.alt (.op 8 .e (.alt (.op 2 .e (.alt (.op 5 .e (.op 9 .e (.op 10 .r (.op 11 .r (.op 12 .e .nil))))) (.op 9 .e (.op 10 .r (.op 5 .e (.op 11 .r (.op 12 .e .nil))))))) (.alt (.op 5 .e (.alt (.op 2 .e (.op 9 .e (.op 10 .r (.op 11 .r (.op 12 .e .nil))))) (.op 9 .e (.op 2 .e (.op 10 .r (.op 11 .r (.op 12 .e .nil))))))) (.op 9 .e (.alt (.op 2 .e (.op 10 .r (.op 5 .e (.op 11 .r (.op 12 .e .nil))))) (.op 5 .e (.op 2 .e (.op 10 .r (.op 11 .r (.op 12 .e .nil)))))))))) (.op 9 .e (.alt (.op 2 .e (.op 10 .r (.alt (.op 5 .e (.op 11 .r (.op 8 .e (.op 12 .e .nil)))) (.op 8 .e (.op 5 .e (.op 11 .r (.op 12 .e .nil))))))) (.alt (.op 5 .e (.alt (.op 2 .e (.op 10 .r (.op 11 .r (.op 8 .e (.op 12 .e .nil))))) (.op 8 .e (.op 2 .e (.op 10 .r (.op 11 .r (.op 12 .e .nil))))))) (.op 8 .e (.alt (.op 2 .e (.op 10 .r (.op 5 .e (.op 11 .r (.op 12 .e .nil))))) (.op 5 .e (.op 2 .e (.op 10 .r (.op 11 .r (.op 12 .e .nil)))))))))))))))))))) (.s (.s .z (.l 4611686014132423744 [6,32] (.s .z (.s (.s .z .z) (.s (.s .z (.s (.d (.op 0 .r (.op 1 .r (.op 2 .r (.op 3 .r (.op 4 .r (.op 5 .r (.op 6 .r (.op 7 .r (.op 8 .r (.op 10 .r (.op 11 .r (.op 12 .r (.op 14 .r (.op 9 .e (.op 13 .e (.op 15 .r (.op 16 .e (.op 17 .r (.op 18 .n (.op 19 .r (.op 20 .n .nil)))))))))))))))))))))) .z)) .z))))) (.s .z (.s (.s .z (.l 1208335523804270469062656 [69] (.s .z (.s (.s .z .z) (.s (.s .z .z) .z))))) (.s .z .z)))))))) H
end
section
variable {a0 a1 a2 a3 a4 a5 a6:Value}{h:af}{R:Value→af→Prop}
def ry (a0 a1 a2:Value)(h:af)(R:Value→af→Prop):Prop:=
 vK (aK a0) λd=>
 vK (am 1 d) λe=>
 vK (ldV h e) λf=>
 vK ((aE #[(.int .i64 0),(.slice none 0 0)] [(0,1,a1),(1,1,a2)]).map .agg) λg=>
 cF #[(.int .i64 0),(.slice none 0 0)] 235 1 [(0,2,g)] h λi j=>
 cG (.agg #[.int .i64 0,.slice none 0 0]) 235 2 32 f i j λk l=>
 vK (aK a0) λm=>
 vK (am 1 m) λn=>
 stK 1 n k l λad c=>
 vK (aK a0) λo=>
 vK (am 2 o) λp=>
 vK (ldV c p) λq=>
 vK (aq a2) λr=>
 vK (iG q r) λs=>
 vK (aK a0) λt=>
 vK (am 2 t) λu=>
 stK 1 u s c λag a=>
 bD a λS=>
 vK (aK a0) λv=>
 vK (am 3 v) λw=>
 qK S (λa=>ldV a w) λx=>
 ae prog tQ #[a2] a λy b=>
 S b∧(qK S (λb=>iG x y) λz=>
 vK (aK a0) λaa=>
 vK (am 3 aa) λab=>
 stK 1 ab z b λah ac=>
 R (.tuple #[]) ac)
theorem BM (H:ry a0 a1 a2 h R):ae prog jp #[a0,a1,a2] h R:=fk f226 (.s .z (.s .z (.d (.op 0 .r (.op 1 .r (.op 2 .r (.op 3 .r (.op 4 .r (.op 5 .r (.op 6 .e (.op 7 .r (.op 8 .r (.op 9 .r (.op 10 .n .nil)))))))))))))) H
def uS (a0:Value)(h:af)(R:Value→af→Prop):Prop:=
 vK (ag .i .lss a0 (.int .i64 1)) λb=>
 vK (gV b false (some a0)) λe=>
 vK (gV b false (ag .i .gtr e (.int .i64 4194304))) λf=>
 vK (az b (.bool true) f) λg=>
 aA g (
 R (.tuple #[(.slice none 0 0),(.int .i64 7)]) h) (
 vK (ag .i .mul (.int .i64 3) a0) λj=>
 vK (ag .i .add j (.int .i64 65536)) λk=>
 vK (ag .i .sub k (.int .i64 1)) λl=>
 vK (ag .i .shr l (.int .u64 16)) λc=>
 vK (unV .neg c) λm=>
 aS [(.slice none 0 0),m] h λa w d n=>
 vK (ag .i .leq (ix a 1) c) λo=>
 aA o (
 ae prog wY #[(ix a 1),a0] d λp q=>
 cF #[(.int .i64 0)] 2 1 [(0,1,p)] q λr s=>
 cG (.int .i64 0) 2 1 8 (ix a 0) r s λt u=>
 vK (ag .i .add (ix a 1) (.int .i64 1)) λv=>
 n [t,v] u) (
 R (.tuple #[(ix a 0),(.int .i64 0)]) d))
theorem EL (H:uS a0 h R):ae prog kJ #[a0] h R:=fk f227 (.s .z (.s (.s .z (.s (.s .z .z) .z)) (.s .z (.s .z (.s (.s .z (.l 2146435168 [5,6] (.s (.s .z (.s .z .z)) (.s .z .z)))) (.s .z .z)))))) H
def CU (a0:Value)(h:af)(R:Value→af→Prop):Prop:=
 vK (ag .i .lss a0 (.int .i64 0)) λa=>
 vK (gV a false (some a0)) λc=>
 vK (gV a false (ag .i .gtr c (.int .i64 511))) λd=>
 vK (az a (.bool true) d) λe=>
 aA e (
 R (.tuple #[(.slice none 0 0),(.int .i64 7)]) h) (
 cF #[(.int .i64 0)] 2 1 [(0,1,(.int .i64 1))] h λf g=>
 vK (ag .i .mul (.int .i64 2) a0) λj=>
 vK (ag .i .add j (.int .i64 1)) λk=>
 ae prog eI #[f,k] g λl m=>
 ae prog pK #[l] m λb n=>
 vK (aF b 0) λo=>
 vK (aF b 1) λp=>
 R (.tuple #[o,p]) n)
theorem MP (H:CU a0 h R):ae prog zI #[a0] h R:=fk f228 (.s .z (.s (.s .z (.s (.s .z .z) .z)) (.s .z .z))) H
def CS (a0:Value)(h:af)(R:Value→af→Prop):Prop:=
 ae prog tQ #[a0] h λc g=>
 vK (aq a0) λj=>
 vK (ag .i .rem j (.int .i64 2)) λk=>
 vK (ag .i .eql k (.int .i64 0)) λb=>
 vK (gV b false (some a0)) λl=>
 vK (gV b false (aq l)) λm=>
 vK (gV b false (ag .i .gtr m (.int .i64 1024))) λn=>
 vK (az b (.bool true) n) λd=>
 vK (gV d false (some c)) λo=>
 vK (gV d false (ag .i .lss o (.int .i64 1))) λp=>
 vK (az d (.bool true) p) λe=>
 vK (gV e false (some c)) λq=>
 vK (gV e false (ag .i .gtr q (.int .i64 1048576))) λr=>
 vK (az e (.bool true) r) λs=>
 aA s (
 R (.tuple #[(.slice none 0 0),(.int .i64 7)]) g) (
 vK (aq a0) λt=>
 aS [(.slice none 0 0),(.int .i64 0)] g λa ai f u=>
 vK (ag .i .lss (ix a 1) t) λv=>
 aA v (
 vK (aR 1 a0 (ix a 1)) λw=>
 vK (ldV f w) λx=>
 ae prog dw #[x,(.int .i64 1073741824),c] f λy z=>
 cF #[(.int .i64 0)] 2 1 [(0,1,y)] z λaa ab=>
 cG (.int .i64 0) 2 1 8 (ix a 0) aa ab λac ad=>
 vK (ag .i .add (ix a 1) (.int .i64 1)) λah=>
 u [ac,ah] ad) (
 R (.tuple #[(ix a 0),(.int .i64 0)]) f))
theorem MN (H:CS a0 h R):ae prog pK #[a0] h R:=fk f229 (.s .z (.s .z (.s (.s .z (.s (.s .z .z) .z)) (.s .z (.s (.s .z (.l 1098974757024 [5,29] (.s .z (.s (.s .z .z) (.s (.s .z .z) .z))))) (.s .z .z)))))) H
def gO (a0 a1:Value)(h:af)(R:Value→af→Prop):Prop:=
 vK (aq a0) λc=>
 vK (aq a1) λd=>
 vK (ag .i .neq c d) λe=>
 aA e (
 R (.bool false) h) (
 vK (aq a0) λf=>
 aS [(.int .i64 0)] h λb q a g=>
 vK (ag .i .lss (ix b 0) f) λj=>
 aA j (
 vK (aR 1 a0 (ix b 0)) λk=>
 vK (ldV a k) λl=>
 vK (aR 1 a1 (ix b 0)) λm=>
 vK (ldV a m) λn=>
 vK (ag .i .neq l n) λo=>
 aA o (
 R (.bool false) a) (
 vK (ag .i .add (ix b 0) (.int .i64 1)) λp=>
 g [p] a)) (
 R (.bool true) a))
theorem mE (H:gO a0 a1 h R):ae prog eJ #[a0,a1] h R:=fk f231 (.s .z (.s (.s .z (.s (.s .z .z) .z)) (.s (.s .z (.l 67100720 [13] (.s .z (.s (.s .z .z) (.s (.s .z (.s .z (.s (.s .z .z) .z))) .z))))) (.s .z .z)))) H
def yv (h:af)(R:Value→af→Prop):Prop:=
 ae prog Aq #[(.int .i64 0),(.int .i64 4),(.int .i64 2),(.int .i64 1)] h λj c=>
 vK (aF j 0) λl=>
 vK (aF j 1) λe=>
 vK (ag .i .eql l (.int .i64 2)) λd=>
 vK (gV d true (some e)) λm=>
 vK (gV d true (aq m)) λn=>
 vK (gV d true (ag .i .eql n (.int .i64 2))) λo=>
 vK (az d o (.bool false)) λa=>
 vK (gV a true (some e)) λp=>
 vK (gV a true (aR 1 p (.int .i64 0))) λq=>
 vK (gV a true (ldV c q)) λr=>
 vK (gV a true (ag .i .eql r (.int .i64 536870912))) λs=>
 vK (az a s (.bool false)) λb=>
 vK (gV b true (some e)) λt=>
 vK (gV b true (aR 1 t (.int .i64 1))) λu=>
 vK (gV b true (ldV c u)) λv=>
 vK (gV b true (ag .i .eql v (.int .i64 536870912))) λw=>
 vK (az b w (.bool false)) λf=>
 gK f true (λx=>ae prog sF #[(.int .i64 0),(.int .i64 1)] c x) c λy k=>
 vK (gV f true (ag .i .eql y (.int .i64 1073741824))) λz=>
 vK (az f z (.bool false)) λg=>
 gK g true (λaa=>ae prog sF #[(.int .i64 1),(.int .i64 2)] k aa) k λab ac=>
 vK (gV g true (ag .i .eql ab (.int .i64 603979776))) λad=>
 vK (az g ad (.bool false)) λah=>
 R ah ac
theorem IH (H:yv h R):ae prog uK #[] h R:=fk f243 (.s .z (.s .z (.s .z .z))) H
def yu (h:af)(R:Value→af→Prop):Prop:=
 cF #[(.int .i64 0),(.int .i64 0),(.int .i64 0)] 2 3 [(0,1,(.int .i64 536870912)),(1,1,(.int .i64 536870912)),(2,1,(.int .i64 536870912))] h λj k=>
 ae prog ig #[j] k λd l=>
 vK (aF d 0) λm=>
 vK (aF d 1) λn=>
 ae prog kJ #[(.int .i64 65536)] l λe f=>
 vK (aF e 0) λo=>
 vK (aF e 1) λp=>
 vK (ag .i .eql n (.int .i64 0)) λa=>
 vK (gV a true (some m)) λq=>
 gK a true (λr=>cF #[(.int .i64 0),(.int .i64 0),(.int .i64 0)] 2 3 [(0,1,(.int .i64 5462)),(1,1,(.int .i64 5461)),(2,1,(.int .i64 5461))] f r) f λs g=>
 gK a true (λt=>ae prog qY #[q,s] g t) g λu v=>
 vK (az a u (.bool false)) λc=>
 vK (gV c true (some p)) λw=>
 vK (gV c true (ag .i .eql w (.int .i64 0))) λx=>
 vK (az c x (.bool false)) λb=>
 vK (gV b true (some o)) λy=>
 vK (gV b true (aq y)) λz=>
 vK (gV b true (ag .i .eql z (.int .i64 7))) λaa=>
 vK (az b aa (.bool false)) λab=>
 R ab v
theorem IG (H:yu h R):ae prog uJ #[] h R:=fk f244 (.s .z (.s .z (.s .z (.s .z .z)))) H
def AX (a0 a1:Value)(h:af)(R:Value→af→Prop):Prop:=
 vK (aq a0) λc=>
 vK (aq a1) λd=>
 vK (ag .i .neq c d) λe=>
 aA e (
 R (.bool false) h) (
 vK (aq a0) λf=>
 aS [(.int .i64 0)] h λb q a g=>
 vK (ag .i .lss (ix b 0) f) λj=>
 aA j (
 vK (aR 1 a0 (ix b 0)) λk=>
 vK (ldV a k) λl=>
 vK (aR 1 a1 (ix b 0)) λm=>
 vK (ldV a m) λn=>
 vK (ag .i .neq l n) λo=>
 aA o (
 R (.bool false) a) (
 vK (ag .i .add (ix b 0) (.int .i64 1)) λp=>
 g [p] a)) (
 R (.bool true) a))
theorem KM (H:AX a0 a1 h R):ae prog qY #[a0,a1] h R:=fk f245 (.s .z (.s (.s .z (.s (.s .z .z) .z)) (.s (.s .z (.l 67100720 [13] (.s .z (.s (.s .z .z) (.s (.s .z (.s .z (.s (.s .z .z) .z))) .z))))) (.s .z .z)))) H
def C7 (a0 a1 a2 a3:Value)(h:af)(R:Value→af→Prop):Prop:=
 vK (ag .i .geq a0 (.int .i64 0)) λb=>
 vK (gV b true (some a0)) λj=>
 vK (gV b true (ag .i .leq j (.int .i64 2))) λk=>
 vK (az b k (.bool false)) λc=>
 vK (gV c true (some a1)) λl=>
 vK (gV c true (ag .i .geq l (.int .i64 1))) λm=>
 vK (az c m (.bool false)) λd=>
 vK (gV d true (some a1)) λn=>
 vK (gV d true (ag .i .leq n (.int .i64 65536))) λo=>
 vK (az d o (.bool false)) λe=>
 vK (gV e true (some a2)) λp=>
 vK (gV e true (ag .i .geq p (.int .i64 1))) λq=>
 vK (az e q (.bool false)) λf=>
 vK (gV f true (some a2)) λr=>
 vK (gV f true (ag .i .leq r (.int .i64 65536))) λs=>
 vK (az f s (.bool false)) λg=>
 vK (gV g true (some a3)) λt=>
 vK (gV g true (ag .i .geq t (.int .i64 0))) λu=>
 vK (az g u (.bool false)) λa=>
 vK (gV a true (some a3)) λv=>
 vK (gV a true (some a2)) λw=>
 vK (gV a true (ag .i .lss v w)) λx=>
 vK (az a x (.bool false)) λy=>
 R y h
theorem MZ (H:C7 a0 a1 a2 a3 h R):ae prog zO #[a0,a1,a2,a3] h R:=fk f246 (.s .z (.s .z .z)) H
def FF (a0 a1 a2 a3 a4:Value)(h:af)(R:Value→af→Prop):Prop:=
 vK (ag .i .eql a0 (.int .i64 0)) λl=>
 aA l (
 vK (ag .i .add a4 (.int .i64 1)) λm=>
 vK (ag .i .mul m a2) λn=>
 vK (ag .i .mul a3 a1) λo=>
 vK (ag .i .gtr n o) λa=>
 vK (gV a true (some a4)) λp=>
 vK (gV a true (some a2)) λq=>
 vK (gV a true (ag .i .mul p q)) λr=>
 vK (gV a true (some a3)) λs=>
 vK (gV a true (ag .i .add s (.int .i64 1))) λt=>
 vK (gV a true (some a1)) λu=>
 vK (gV a true (ag .i .mul t u)) λv=>
 vK (gV a true (ag .i .lss r v)) λw=>
 vK (az a w (.bool false)) λx=>
 R x h) (
 ae prog jT #[a1,a2,a3,a4] h λe f=>
 vK (aF e 0) λd=>
 vK (aF e 1) λg=>
 vK (ag .i .mul (.int .i64 2) g) λj=>
 vK (ag .i .eql a0 (.int .i64 2)) λy=>
 aA y (
 vK (ag .i .mul (.int .i64 3) g) λk=>
 vK (ag .i .lss d k) λb=>
 vK (gV b true (some d)) λz=>
 vK (gV b true (some k)) λaa=>
 vK (gV b true (unV .neg aa)) λab=>
 vK (gV b true (ag .i .gtr z ab)) λac=>
 vK (az b ac (.bool false)) λad=>
 R ad f) (
 vK (ag .i .lss d j) λc=>
 vK (gV c true (some d)) λah=>
 vK (gV c true (some j)) λai=>
 vK (gV c true (unV .neg ai)) λaj=>
 vK (gV c true (ag .i .gtr ah aj)) λak=>
 vK (az c ak (.bool false)) λal=>
 R al f))
theorem OR (H:FF a0 a1 a2 a3 a4 h R):ae prog nO #[a0,a1,a2,a3,a4] h R:=fk f247 (.s .z (.s (.s .z (.s (.s .z .z) .z)) (.s .z (.s .z (.s (.s .z (.s .z .z)) (.s .z .z)))))) H
def xg (a0 a1 a2 a3 a4:Value)(h:af)(R:Value→af→Prop):Prop:=
 vK (ag .i .eql a0 (.int .i64 0)) λl=>
 aA l (
 vK (ag .i .mul a3 a1) λa=>
 dE (λb=>
 vK (ag .i .mul a4 a2) λm=>
 vK (ag .i .gtr m a) λn=>
 aA n (
 vK (ag .i .mul a4 a2) λo=>
 b [o] h) (
 b [a] h))
 λc aj d=>
 vK (ag .i .add a3 (.int .i64 1)) λp=>
 vK (ag .i .mul p a1) λe=>
 vK (ag .i .add a4 (.int .i64 1)) λq=>
 vK (ag .i .mul q a2) λr=>
 vK (ag .i .lss r e) λs=>
 aA s (
 vK (ag .i .add a4 (.int .i64 1)) λt=>
 vK (ag .i .mul t a2) λu=>
 vK (ag .i .sub u (ix c 0)) λv=>
 ae prog cI #[v,(.int .i64 1073741824),a1] d λw x=>
 R w x) (
 vK (ag .i .sub e (ix c 0)) λy=>
 ae prog cI #[y,(.int .i64 1073741824),a1] d λz aa=>
 R z aa)) (
 ae prog jT #[a1,a2,a3,a4] h λf g=>
 vK (aF f 0) λj=>
 vK (aF f 1) λk=>
 vK (ag .i .eql a0 (.int .i64 1)) λab=>
 aA ab (
 ae prog wL #[j,k] g λac ad=>
 R ac ad) (
 ae prog pZ #[j,k] g λah ai=>
 R ah ai))
theorem Gv (H:xg a0 a1 a2 a3 a4 h R):ae prog sD #[a0,a1,a2,a3,a4] h R:=fk f248 (.s .z (.s (.s .z (.s (.s .z (.j 267388928 [11] (.s .z (.s .z .z)) (.s .z (.s (.s .z (.s .z .z)) (.s .z .z))))) .z)) (.s .z (.s (.s .z (.s (.s .z .z) .z)) (.s .z .z))))) H
def AW (a0:Value)(h:af)(R:Value→af→Prop):Prop:=
 vK (ag .i .geq a0 (.int .i64 0)) λa=>
 aA a (
 R a0 h) (
 vK (ag .i .lss a0 (.int .i64 (-9223372036854775807))) λb=>
 aA b (
 R (.int .i64 9223372036854775807) h) (
 vK (unV .neg a0) λc=>
 R c h))
theorem KL (H:AW a0 h R):ae prog qX #[a0] h R:=fk f249 (.s .z (.s (.s .z (.s (.s .z .z) .z)) (.s (.s .z (.s (.s .z .z) .z)) (.s .z .z)))) H
def C5 (a0:Value)(h:af)(R:Value→af→Prop):Prop:=
 vK (aq a0) λc=>
 aS [(.int .i64 0),(.int .i64 0)] h λa m b d=>
 vK (ag .i .lss (ix a 1) c) λe=>
 aA e (
 vK (aR 1 a0 (ix a 1)) λf=>
 vK (ldV b f) λg=>
 ae prog qW #[(ix a 0),g] b λj k=>
 vK (ag .i .add (ix a 1) (.int .i64 1)) λl=>
 d [j,l] k) (
 R (ix a 0) b)
theorem MX (H:C5 a0 h R):ae prog zN #[a0] h R:=fk f250 (.s .z (.s .z (.s (.s .z (.l 65320 [3,8] (.s .z (.s (.s .z .z) (.s (.s .z .z) .z))))) (.s .z .z)))) H
def yc (a0 a1:Value)(h:af)(R:Value→af→Prop):Prop:=
 vK (ag .i .eql a1 (.int .i64 0)) λg=>
 aA g (
 R (.int .i64 0) h) (
 ae prog eT #[a0] h λj k=>
 vK ((aE #[(.int .u64 0),(.int .u64 0)] [(0,1,(.int .u64 0)),(1,1,j)]).map .agg) λl=>
 ae prog eT #[a1] k λm n=>
 ae prog qZ #[l,m] n λe o=>
 vK (aF e 0) λp=>
 vK (aF e 1) λq=>
 aP #[(.int .u64 0),(.int .u64 0)] 293 o λa r=>
 stK 2 a p r λak d=>
 vK (ag .i .lss a0 (.int .i64 0)) λs=>
 vK (ag .i .lss a1 (.int .i64 0)) λt=>
 vK (ag .b .neq s t) λc=>
 vK (gV c true (some q)) λu=>
 vK (gV c true (ag .i .gtr u (.int .u64 0))) λv=>
 vK (az c v (.bool false)) λw=>
 aA w (
 vK (aH 2 d a) λx=>
 vK ((aE #[(.int .u64 0),(.int .u64 0)] [(0,1,(.int .u64 0)),(1,1,(.int .u64 1))]).map .agg) λy=>
 ae prog gx #[x,y] d λz aa=>
 stK 2 a z aa λal f=>
 vK (aH 2 f a) λab=>
 ae prog dc #[ab,c] f λac ad=>
 R ac ad) (
 vK (aH 2 d a) λah=>
 ae prog dc #[ah,c] d λai aj=>
 R ai aj))
theorem Ip (H:yc a0 a1 h R):ae prog oA #[a0,a1] h R:=fk f251 (.s .z (.s (.s .z (.s (.s .z .z) .z)) (.s .z (.s .z (.s (.s .z (.s .z .z)) (.s .z .z)))))) H
def C9 (a0:Value)(h:af)(R:Value→af→Prop):Prop:=
 dE (λc=>
 vK (ag .i .lss a0 (.int .i64 0)) λk=>
 aA k (
 c [(.int .i64 0)] h) (
 c [a0] h))
 λd aa l=>
 ae prog oA #[(ix d 0),(.int .i64 762123384786)] l λe m=>
 vK (ag .i .mul e (.int .i64 762123384786)) λn=>
 vK (ag .i .sub (ix d 0) n) λo=>
 aS [(.int .i64 1099511627776),(.int .i64 0),(.int .i64 1099511627776),(.int .i64 1)] m λa ab f g=>
 vK (ag .i .leq (ix a 3) (.int .i64 16)) λp=>
 aA p (
 vK (ag .i .mul (ix a 3) (.int .i64 1099511627776)) λq=>
 ae prog cI #[(ix a 2),o,q] f λb j=>
 vK (ag .i .rem (ix a 3) (.int .i64 2)) λr=>
 vK (ag .i .eql r (.int .i64 1)) λs=>
 aA s (
 vK (ag .i .add (ix a 1) b) λt=>
 vK (ag .i .add (ix a 3) (.int .i64 1)) λu=>
 g [(ix a 0),t,b,u] j) (
 vK (ag .i .add (ix a 0) b) λv=>
 vK (ag .i .add (ix a 3) (.int .i64 1)) λw=>
 g [v,(ix a 1),b,w] j)) (
 vK (ag .i .sub (ix a 0) (ix a 1)) λx=>
 ae prog iW #[x,e] f λy z=>
 R y z)
theorem M5 (H:C9 a0 h R):ae prog zQ #[a0] h R:=fk f252 (.s .z (.j 1537 [0] (.s .z (.s .z .z)) (.s .z (.s .z (.s .z (.s .z (.s .z (.s (.s .z (.l 34359607776 [5,6,7,8] (.s (.s .z (.s .z .z)) (.s (.s .z (.s .z (.s .z .z))) .z)))) (.s .z .z))))))))) H
def xV (a0 a1:Value)(h:af)(R:Value→af→Prop):Prop:=
 vK (ag .i .lss a1 (.int .i64 1)) λa=>
 vK (gV a false (some a1)) λd=>
 vK (gV a false (ag .i .gtr d (.int .i64 4194304))) λe=>
 vK (az a (.bool true) e) λb=>
 vK (gV b false (some a0)) λf=>
 vK (gV b false (ag .i .lss f (.int .i64 (-16384)))) λg=>
 vK (az b (.bool true) g) λc=>
 vK (gV c false (some a0)) λj=>
 vK (gV c false (ag .i .gtr j (.int .i64 16384))) λk=>
 vK (az c (.bool true) k) λl=>
 aA l (
 R (.int .i64 9223372036854775807) h) (
 vK (ag .i .mul a0 a0) λm=>
 vK (ag .i .mul m (.int .i64 2147483648)) λn=>
 vK (ag .i .mul a1 a1) λo=>
 ae prog cI #[n,(.int .i64 1099511627776),o] h λp q=>
 R p q)
theorem Ii (H:xV a0 a1 h R):ae prog uw #[a0,a1] h R:=fk f253 (.s .z (.s (.s .z (.s (.s .z .z) .z)) (.s .z .z))) H
def AU (a0 a1:Value)(h:af)(R:Value→af→Prop):Prop:=
 vK (ag .i .gtr a1 (.int .i64 0)) λa=>
 vK (gV a true (some a0)) λc=>
 vK (gV a true (some a1)) λd=>
 vK (gV a true (ag .i .sub (.int .i64 9223372036854775807) d)) λe=>
 vK (gV a true (ag .i .gtr c e)) λf=>
 vK (az a f (.bool false)) λg=>
 aA g (
 R (.int .i64 9223372036854775807) h) (
 vK (ag .i .lss a1 (.int .i64 0)) λb=>
 vK (gV b true (some a0)) λj=>
 vK (gV b true (some a1)) λk=>
 vK (gV b true (ag .i .sub (.int .i64 (-9223372036854775808)) k)) λl=>
 vK (gV b true (ag .i .lss j l)) λm=>
 vK (az b m (.bool false)) λn=>
 aA n (
 R (.int .i64 (-9223372036854775808)) h) (
 vK (ag .i .add a0 a1) λo=>
 R o h))
theorem KJ (H:AU a0 a1 h R):ae prog qW #[a0,a1] h R:=fk f254 (.s .z (.s (.s .z (.s (.s .z .z) .z)) (.s (.s .z (.s (.s .z .z) .z)) (.s .z .z)))) H
def xY (a0 a1:Value)(h:af)(R:Value→af→Prop):Prop:=
 aP #[(.int .u64 0),(.int .u64 0)] 293 h λe j=>
 vK ((aE #[(.int .u64 0),(.int .u64 0)] []).map .agg) λk=>
 aP #[(.int .u64 0),(.int .u64 0)] 293 j λa l=>
 stK 2 a k l λad m=>
 aS [(.int .i64 63)] m λb ah c f=>
 vK (ag .i .geq (ix b 0) (.int .i64 0)) λn=>
 aA n (
 vK (aH 2 c a) λo=>
 ae prog dN #[o,(.int .u64 0)] c λp q=>
 stK 2 a p q λai d=>
 vK (ag .i .shr a1 (ix b 0)) λr=>
 vK (ag .i .and r (.int .u64 1)) λs=>
 vK (ag .i .eql s (.int .u64 1)) λt=>
 aA t (
 vK (aH 2 d a) λu=>
 vK ((aE #[(.int .u64 0),(.int .u64 0)] [(0,1,(.int .u64 0)),(1,1,a0)]).map .agg) λv=>
 ae prog gx #[u,v] d λw x=>
 stK 2 a w x λaj y=>
 vK (ag .i .sub (ix b 0) (.int .i64 1)) λz=>
 f [z] y) (
 vK (ag .i .sub (ix b 0) (.int .i64 1)) λaa=>
 f [aa] d)) (
 vK (aH 2 c a) λab=>
 stK 2 e ab c λak g=>
 vK (aH 2 g e) λac=>
 R ac g)
theorem Il (H:xY a0 a1 h R):ae prog og #[a0,a1] h R:=fk f255 (.s .z (.s .z (.s (.s .z (.l 8388416 [6] (.s (.s .z (.s .z .z)) (.s (.s .z (.s .z (.s .z .z))) .z)))) (.s .z .z)))) H
def uX (a0 a1 a2:Value)(h:af)(R:Value→af→Prop):Prop:=
 aP (Value.cells a0) 293 h λk e=>
 vK (aH 2 e k) λl=>
 ae prog qZ #[l,a1] e λf m=>
 vK (aF f 0) λn=>
 vK (aF f 1) λo=>
 aP #[(.int .u64 0),(.int .u64 0)] 293 m λa p=>
 stK 2 a n p λaq q=>
 vK ((aE #[(.int .u64 0),(.int .u64 0)] [(0,1,(.int .u64 0)),(1,1,o)]).map .agg) λr=>
 ae prog dN #[r,(.int .u64 0)] q λs t=>
 aP #[(.int .u64 0),(.int .u64 0)] 293 t λc u=>
 stK 2 c s u λar g=>
 vK (aH 2 g c) λv=>
 vK ((aE #[(.int .u64 0),(.int .u64 0)] [(0,1,(.int .u64 0)),(1,1,a1)]).map .agg) λw=>
 ae prog iM #[v,w] g λx d=>
 vK (unV .not x) λy=>
 dE (λi=>
 aA a2 (
 vK ((aE #[(.int .u64 0),(.int .u64 0)] [(0,1,(.int .u64 0)),(1,1,a1)]).map .agg) λz=>
 vK (aH 2 d c) λaa=>
 ae prog iM #[z,aa] d λab ac=>
 i [ab] ac) (
 i [y] d))
 λad au b=>
 aA (ix ad 0) (
 vK (aH 2 b a) λag=>
 vK ((aE #[(.int .u64 0),(.int .u64 0)] [(0,1,(.int .u64 0)),(1,1,(.int .u64 1))]).map .agg) λah=>
 ae prog gx #[ag,ah] b λai aj=>
 stK 2 a ai aj λav j=>
 vK (aH 2 j a) λak=>
 ae prog dc #[ak,a2] j λal am=>
 R al am) (
 vK (aH 2 b a) λan=>
 ae prog dc #[an,a2] b λao ap=>
 R ao ap)
theorem EQ (H:uX a0 a1 a2 h R):ae prog p8 #[a0,a1,a2] h R:=fk f256 (.s .z (.s .z (.s .z (.s .z (.j 1040188416 [10] (.s .z (.s .z .z)) (.s (.s .z (.s .z .z)) (.s .z .z))))))) H
def iP (a0:Value)(h:af)(R:Value→af→Prop):Prop:=
 dE (λc=>
 vK (aq a0) λe=>
 vK (ag .i .lss e (.int .i64 1)) λf=>
 aA f (
 Jz h λs g=>
 c [] g) (
 c [] h))
 λt u d=>
 vK (aR 1 a0 (.int .i64 0)) λj=>
 vK (ldV d j) λk=>
 aS [k,(.int .i64 1)] d λa v b l=>
 vK (aq a0) λm=>
 vK (ag .i .lss (ix a 1) m) λn=>
 aA n (
 vK (aR 1 a0 (ix a 1)) λo=>
 vK (ldV b o) λp=>
 vK (pA (ix a 0) p) λq=>
 vK (ag .i .add (ix a 1) (.int .i64 1)) λr=>
 l [q,r] b) (
 R (ix a 0) b)
theorem pT (H:iP a0 h R):ae prog fM #[a0] h R:=fk f257 (.s .z (.j 480 [] (.s .z (.s .z .z)) (.s .z (.s (.s .z (.l 16773144 [3,4] (.s (.s .z (.s .z .z)) (.s .z .z)))) (.s .z .z))))) H
def dn (a0:Value)(h:af)(R:Value→af→Prop):Prop:=
 aP (Value.cells a0) 236 h λa b=>
 R (.func (.func cZ) #[] #[a]) b
theorem gI (H:dn a0 h R):ae prog dB #[a0] h R:=fk f259 (.s .z (.s .z .z)) H
def A9 (a0 a1 a2 a3:Value)(h:af)(R:Value→af→Prop):Prop:=
 ae prog Fu #[a0,a1,a2,a3] h λg b=>
 vK (unV .not g) λj=>
 aA j (
 R (.tuple #[(.int .i64 0),(.int .i64 0)]) b) (
 vK (ag .i .mul a3 a1) λk=>
 ae prog iY #[k,a2] b λc l=>
 vK (ag .i .add a3 (.int .i64 1)) λm=>
 vK (ag .i .mul m a1) λn=>
 ae prog wM #[n,a2] l λo a=>
 vK (ag .i .neq a0 (.int .i64 0)) λp=>
 aA p (
 vK (ag .i .mul (.int .i64 2) a3) λq=>
 vK (ag .i .add q (.int .i64 1)) λr=>
 vK (ag .i .mul r a1) λs=>
 vK (ag .i .sub s a2) λd=>
 vK (Jr 3 2 (.pointer (some ⟨ed,0,none⟩)) a0) λt=>
 vK (am 1 t) λu=>
 vK (ldV a u) λv=>
 vK (ag .i .mul v (.int .i64 2)) λw=>
 vK (iG a1 a2) λx=>
 vK (ag .i .mul w x) λe=>
 vK (ag .i .sub d e) λy=>
 vK (ag .i .mul (.int .i64 2) a2) λz=>
 ae prog iY #[y,z] a λaa ab=>
 vK (ag .i .add aa (.int .i64 1)) λf=>
 vK (ag .i .add d e) λac=>
 vK (ag .i .mul (.int .i64 2) a2) λad=>
 ae prog wM #[ac,ad] ab λah ai=>
 vK (ag .i .sub ah f) λaj=>
 R (.tuple #[f,aj]) ai) (
 vK (ag .i .sub o c) λak=>
 R (.tuple #[c,ak]) a))
theorem KV (H:A9 a0 a1 a2 a3 h R):ae prog wN #[a0,a1,a2,a3] h R:=fk f260 (.s .z (.s (.s .z (.s (.s .z .z) .z)) (.s .z (.s (.s .z (.s (.s .z .z) .z)) (.s .z .z))))) H
def Db (a0 a1 a2 a3 a4:Value)(h:af)(R:Value→af→Prop):Prop:=
 vK (ag .i .eql a0 (.int .i64 0)) λc=>
 aA c (
 vK (ag .i .add a3 (.int .i64 1)) λd=>
 vK (ag .i .mul d a1) λe=>
 vK (ag .i .add a4 (.int .i64 1)) λf=>
 vK (ag .i .mul f a2) λg=>
 vK (pA e g) λj=>
 vK (ag .i .mul a3 a1) λk=>
 vK (ag .i .mul a4 a2) λl=>
 vK (iG k l) λm=>
 vK (ag .i .sub j m) λn=>
 ae prog dw #[n,(.int .i64 1073741824),a1] h λo p=>
 R o p) (
 vK (ag .i .mul (.int .i64 2) a2) λq=>
 vK (ag .i .mul q a4) λr=>
 vK (ag .i .mul (.int .i64 2) a3) λs=>
 vK (ag .i .add s (.int .i64 1)) λt=>
 vK (ag .i .mul t a1) λu=>
 vK (ag .i .sub r u) λv=>
 vK (ag .i .add v a2) λa=>
 vK (iG a1 a2) λw=>
 vK (ag .i .mul (.int .i64 2) w) λb=>
 vK (ag .i .eql a0 (.int .i64 1)) λx=>
 aA x (
 ae prog sF #[a,b] h λy z=>
 R y z) (
 ae prog sC #[a,b] h λaa ab=>
 R aa ab))
theorem M7 (H:Db a0 a1 a2 a3 a4 h R):ae prog zR #[a0,a1,a2,a3,a4] h R:=fk f261 (.s .z (.s (.s .z (.s (.s .z (.s .z .z)) .z)) (.s .z (.s (.s .z (.s (.s .z .z) .z)) (.s .z .z))))) H
def AK (a0:Value)(h:af)(R:Value→af→Prop):Prop:=
 vK (aq a0) λe=>
 vK (ag .i .eql e (.int .i64 0)) λa=>
 vK (gV a false (some a0)) λf=>
 vK (gV a false (aq f)) λg=>
 vK (gV a false (ag .i .gtr g (.int .i64 1048576))) λj=>
 vK (az a (.bool true) j) λb=>
 vK (gV b false (some a0)) λk=>
 gK b false (λl=>ae prog df #[k,(.func (.func kI) #[] #[])] h l) h λm c=>
 vK (az b (.bool true) m) λn=>
 aA n (
 R (.int .i64 7) c) (
 ae prog wE #[a0] c λo d=>
 vK (ag .i .lss o (.int .i64 268435456)) λp=>
 aA p (
 R (.int .i64 8) d) (
 R (.int .i64 0) d))
theorem Kz (H:AK a0 h R):ae prog wD #[a0] h R:=fk f262 (.s .z (.s (.s .z (.s (.s .z .z) .z)) (.s (.s .z (.s (.s .z .z) .z)) (.s .z .z)))) H
def Fy (a0:Value)(h:af)(R:Value→af→Prop):Prop:=
 vK (aq a0) λc=>
 aS [(.int .i64 0),(.int .i64 0)] h λa m b d=>
 vK (ag .i .lss (ix a 1) c) λe=>
 aA e (
 vK (aR 1 a0 (ix a 1)) λf=>
 vK (ldV b f) λg=>
 ae prog ub #[(ix a 0),g] b λj k=>
 vK (ag .i .add (ix a 1) (.int .i64 1)) λl=>
 d [j,l] k) (
 R (ix a 0) b)
theorem OI (H:Fy a0 h R):ae prog wE #[a0] h R:=fk f263 (.s .z (.s .z (.s (.s .z (.l 65320 [3,8] (.s .z (.s (.s .z .z) (.s (.s .z .z) .z))))) (.s .z .z)))) H
def yx (a0 a1:Value)(h:af)(R:Value→af→Prop):Prop:=
 vK (ag .i .eql a1 (.int .i64 0)) λe=>
 aA e (
 R (.int .i64 0) h) (
 bD h λS=>
 ae prog gF #[a0] h λf g=>
 ae prog gF #[a1] g λj k=>
 vK (ag .i .quo f j) λc=>
 ae prog gF #[a0] k λl m=>
 ae prog gF #[a1] m λn d=>
 vK (ag .i .rem l n) λo=>
 vK (ag .i .lss a0 (.int .i64 0)) λp=>
 vK (ag .i .lss a1 (.int .i64 0)) λq=>
 vK (ag .b .neq p q) λa=>
 vK (gV a true (some o)) λr=>
 vK (gV a true (ag .i .neq r (.int .u64 0))) λs=>
 vK (az a s (.bool false)) λt=>
 aA t (
 vK (ag .i .add c (.int .u64 1)) λu=>
 ae prog jV #[u,a] d λv w=>
 R v w) (
 ae prog jV #[c,a] d λx y=>
 R x y))
theorem IK (H:yx a0 a1 h R):ae prog iY #[a0,a1] h R:=fk f264 (.s .z (.s (.s .z (.s (.s .z .z) .z)) (.s (.d (.op 0 .r (.op 2 .r (.op 5 .r (.op 7 .r (.op 1 .n (.op 3 .n (.op 4 .r (.op 6 .n (.op 8 .n (.op 9 .r (.op 10 .r (.op 11 .r .nil))))))))))))) (.s .z (.s (.s .z (.s .z .z)) (.s .z .z)))))) H
def fO (a0 a1:Value)(h:af)(R:Value→af→Prop):Prop:=
 vK (aq a0) λa=>
 ae prog fX #[a0,a,a1] h λc b=>
 R (.tuple #[]) b
theorem ko (H:fO a0 a1 h R):ae prog dD #[a0,a1] h R:=fk f265 .z H
def oM (a0 a1 a2:Value)(h:af)(R:Value→af→Prop):Prop:=
 bD h λS=>
 qK S (λh=>ldV h a2) λa=>
 vK (aR 1 a a1) λb=>
 qK S (λh=>ldV h b) λc=>
 qK S (λh=>ldV h a2) λd=>
 vK (aR 1 d a0) λe=>
 qK S (λh=>ldV h e) λf=>
 ae prog kj #[c,f] h λg i=>
 R g i
theorem yO (H:oM a0 a1 a2 h R):ae prog kf #[a0,a1,a2] h R:=fk f266 (.s .z (.s (.d (.op 0 .r (.op 1 .r (.op 2 .r (.op 3 .r (.op 4 .r (.op 5 .r (.op 6 .r (.op 7 .r (.op 8 .n (.op 9 .r .nil))))))))))) .z)) H
def oV (a0 a1:Value)(h:af)(R:Value→af→Prop):Prop:=
 ae prog js #[a0] h λc d=>
 ae prog js #[a1] d λb a=>
 aA c (
 aA b (
 R (.int .i64 0) a) (
 R (.int .i64 (-1)) a)) (
 aA b (
 R (.int .i64 1) a) (
 vK (ag .i .lss a0 a1) λe=>
 aA e (
 R (.int .i64 (-1)) a) (
 vK (ag .i .gtr a0 a1) λf=>
 aA f (
 R (.int .i64 1) a) (
 R (.int .i64 0) a))))
theorem yX (H:oV a0 a1 h R):ae prog kj #[a0,a1] h R:=fk f267 (.s .z (.s .z (.s .z (.s (.s .z (.s (.s (.s .z (.s (.s .z .z) .z)) (.s .z .z)) .z)) (.s (.s .z (.s (.s .z .z) .z)) (.s (.s .z (.s (.s .z .z) .z)) (.s (.s .z (.s (.s .z .z) .z)) (.s .z .z)))))))) H
def CT (a0:Value)(h:af)(R:Value→af→Prop):Prop:=
 vK (aq a0) λc=>
 aS [(.int .i64 0),(.int .i64 0)] h λa o b d=>
 vK (ag .i .lss (ix a 1) c) λe=>
 aA e (
 vK (aR 1 a0 (ix a 1)) λf=>
 vK (ldV b f) λg=>
 ae prog tP #[g] b λj k=>
 ae prog ub #[(ix a 0),j] k λl m=>
 vK (ag .i .add (ix a 1) (.int .i64 1)) λn=>
 d [l,n] m) (
 R (ix a 0) b)
theorem MO (H:CT a0 h R):ae prog tQ #[a0] h R:=fk f268 (.s .z (.s .z (.s (.s .z (.l 130856 [3,8] (.s .z (.s (.s .z .z) (.s (.s .z .z) .z))))) (.s .z .z)))) H
def Bk (a0 a1:Value)(h:af)(R:Value→af→Prop):Prop:=
 ae prog wW #[a0,a1] h λa b=>
 ae prog CG #[a] b λc d=>
 ae prog iX #[c,(.int .i64 10)] d λe f=>
 R e f
theorem K8 (H:Bk a0 a1 h R):ae prog wY #[a0,a1] h R:=fk f269 (.s .z (.s .z .z)) H
def gN (a0 a1:Value)(h:af)(R:Value→af→Prop):Prop:=
 dE (λe=>
 vK (ag .i .lss a1 (.int .i64 0)) λm=>
 aA m (
 Jz h λam n=>
 e [] n) (
 e [] h))
 λan ao o=>
 vK (aq a0) λp=>
 vK (dY .u64 p) λq=>
 vK (dY .u64 a1) λr=>
 ae prog qa #[q,r] o λf g=>
 vK (aF f 0) λs=>
 vK (aF f 1) λj=>
 dE (λk=>
 vK (ag .i .gtr s (.int .u64 0)) λc=>
 vK (gV c false (some j)) λt=>
 vK (gV c false (ag .i .gtr t (.int .u64 9223372036854775807))) λu=>
 vK (az c (.bool true) u) λv=>
 aA v (
 Jz g λap w=>
 k [] w) (
 k [] g))
 λar au x=>
 vK (dY .i64 j) λl=>
 mkK (.int .i64 0) 2 1 8 l l x λa y=>
 Cn 1 a a0 y λz aa=>
 aS [z] aa λb av d ab=>
 vK (aq a) λac=>
 vK (ag .i .lss (ix b 0) ac) λad=>
 aA ad (
 bD d λS=>
 vK (ue 1 a (some (ix b 0)) none) λah=>
 vK (ue 1 a none (some (ix b 0))) λai=>
 Cn 1 ah ai d λaj ak=>
 vK (ag .i .add (ix b 0) aj) λal=>
 ab [al] ak) (
 R a d)
theorem mD (H:gN a0 a1 h R):ae prog eI #[a0,a1] h R:=fk f270 (.s .z (.j 3584 [] (.s .z (.s .z .z)) (.s .z (.j 266338304 [] (.s .z (.s .z .z)) (.s .z (.s .z (.s (.l 140720308486400 [8] (.s (.s .z (.s .z .z)) (.d (.op 0 .r (.op 1 .r (.op 2 .r (.op 3 .r (.op 4 .r (.op 5 .r (.op 6 .r (.op 7 .n (.op 8 .r (.op 9 .r .nil))))))))))))) (.s .z .z)))))))) H
def xO (a0 a1 a2:Value)(h:af)(R:Value→af→Prop):Prop:=
 vK (ag .i .eql a2 (.int .i64 0)) λr=>
 aA r (
 R (.int .i64 0) h) (
 ae prog ma #[a0,a1] h λe s=>
 vK (aF e 0) λj=>
 vK (aF e 1) λt=>
 vK (aF e 2) λu=>
 ae prog pJ #[a2] s λf k=>
 vK (ag .i .lss a2 (.int .i64 0)) λv=>
 vK (ag .b .neq u v) λa=>
 vK (ag .i .geq j f) λw=>
 aA w (
 ae prog du #[(.int .u64 1),(.int .u64 0),a] k λx y=>
 R x y) (
 ae prog mB #[j,t,f] k λl m=>
 vK (aF l 0) λn=>
 vK (aF l 1) λg=>
 vK (ag .i .sub f g) λo=>
 vK (gV a true (some g)) λz=>
 vK (gV a true (some o)) λaa=>
 vK (gV a true (ag .i .gtr z aa)) λab=>
 vK (az a ab (.bool false)) λc=>
 vK (gV c false (some a)) λac=>
 vK (gV c false (unV .not ac)) λad=>
 vK (gV c false (some ad)) λd=>
 vK (gV d true (some g)) λah=>
 vK (gV d true (some o)) λai=>
 vK (gV d true (ag .i .geq ah ai)) λaj=>
 vK (gV c false (az d aj (.bool false))) λak=>
 vK (az c (.bool true) ak) λal=>
 aA al (
 ae prog ft #[n,(.int .u64 1),(.int .u64 0)] m λp am=>
 vK (aF p 0) λan=>
 vK (aF p 1) λao=>
 ae prog du #[ao,an,a] am λap aq=>
 R ap aq) (
 ae prog ft #[n,(.int .u64 0),(.int .u64 0)] m λq ar=>
 vK (aF q 0) λau=>
 vK (aF q 1) λav=>
 ae prog du #[av,au,a] ar λaw ax=>
 R aw ax)))
theorem Ia (H:xO a0 a1 a2 h R):ae prog dw #[a0,a1,a2] h R:=fk f271 (.s .z (.s (.s .z (.s (.s .z .z) .z)) (.s .z (.s .z (.s .z (.s (.s .z (.s (.s .z .z) .z)) (.s .z (.s .z (.s .z (.s (.s .z (.s .z .z)) (.s .z (.s .z .z)))))))))))) H
def FI (a0 a1:Value)(h:af)(R:Value→af→Prop):Prop:=
 vK (ag .i .lss a1 (.int .i64 1)) λd=>
 vK (gV d false (some a1)) λe=>
 vK (gV d false (ag .i .gtr e (.int .i64 262144))) λf=>
 vK (az d (.bool true) f) λb=>
 vK (gV b false (some a0)) λg=>
 vK (gV b false (some a1)) λj=>
 vK (gV b false (ag .i .mul (.int .i64 2) j)) λk=>
 vK (gV b false (ag .i .geq g k)) λl=>
 vK (az b (.bool true) l) λc=>
 vK (gV c false (some a0)) λm=>
 vK (gV c false (some a1)) λn=>
 vK (gV c false (ag .i .mul (.int .i64 (-2)) n)) λo=>
 vK (gV c false (ag .i .leq m o)) λp=>
 vK (az c (.bool true) p) λq=>
 aA q (
 R (.int .i64 0) h) (
 vK (unV .neg a0) λr=>
 vK (iG a0 r) λa=>
 vK (ag .i .mul (.int .i64 3) a) λs=>
 vK (ag .i .mul s a) λt=>
 vK (ag .i .mul t a) λu=>
 vK (ag .i .mul (.int .i64 5) a) λv=>
 vK (ag .i .mul v a) λw=>
 vK (ag .i .mul w a1) λx=>
 vK (ag .i .sub u x) λy=>
 vK (ag .i .mul (.int .i64 2) a1) λz=>
 vK (ag .i .mul z a1) λaa=>
 vK (ag .i .mul aa a1) λab=>
 vK (ag .i .add y ab) λac=>
 vK (ag .i .geq a a1) λad=>
 aA ad (
 vK (unV .neg a) λah=>
 vK (ag .i .mul ah a) λai=>
 vK (ag .i .mul ai a) λaj=>
 vK (ag .i .mul (.int .i64 5) a) λak=>
 vK (ag .i .mul ak a) λal=>
 vK (ag .i .mul al a1) λam=>
 vK (ag .i .add aj am) λan=>
 vK (ag .i .mul (.int .i64 8) a) λao=>
 vK (ag .i .mul ao a1) λap=>
 vK (ag .i .mul ap a1) λaq=>
 vK (ag .i .sub an aq) λar=>
 vK (ag .i .mul (.int .i64 4) a1) λau=>
 vK (ag .i .mul au a1) λav=>
 vK (ag .i .mul av a1) λaw=>
 vK (ag .i .add ar aw) λax=>
 vK (ag .i .mul (.int .i64 2) a1) λay=>
 vK (ag .i .mul ay a1) λa2=>
 vK (ag .i .mul a2 a1) λa3=>
 ae prog dw #[ax,(.int .i64 1073741824),a3] h λa4 a5=>
 R a4 a5) (
 vK (ag .i .mul (.int .i64 2) a1) λa6=>
 vK (ag .i .mul a6 a1) λa7=>
 vK (ag .i .mul a7 a1) λa8=>
 ae prog dw #[ac,(.int .i64 1073741824),a8] h λa9 ba=>
 R a9 ba))
theorem OU (H:FI a0 a1 h R):ae prog sF #[a0,a1] h R:=fk f278 (.s .z (.s (.s .z (.s (.s .z .z) .z)) (.s .z (.s .z (.s (.s .z (.s .z .z)) (.s .z .z)))))) H
def tg (a0 a1 a2 a3:Value)(h:af)(R:Value→af→Prop):Prop:=
 vK (ag .i .mul (.int .i64 2) a0) λb=>
 dE (λa=>
 vK (ag .i .gtr a1 a0) λc=>
 aA c (
 vK (ag .i .mul (.int .i64 2) a1) λd=>
 a [d] h) (
 a [b] h))
 λe p f=>
 vK (ag .i .mul (.int .i64 2) a1) λg=>
 vK (ag .i .mul g a3) λj=>
 vK (ag .i .mul (.int .i64 2) a2) λk=>
 vK (ag .i .add k (.int .i64 1)) λl=>
 vK (ag .i .mul l a0) λm=>
 vK (ag .i .sub j m) λn=>
 vK (ag .i .add n a1) λo=>
 R (.tuple #[o,(ix e 0)]) f
theorem DG (H:tg a0 a1 a2 a3 h R):ae prog jT #[a0,a1,a2,a3] h R:=fk f279 (.s .z (.s .z (.j 254976 [10] (.s .z (.s .z .z)) (.s .z .z)))) H
def AZ (a0 a1:Value)(h:af)(R:Value→af→Prop):Prop:=
 vK (ag .i .lss a1 (.int .i64 1)) λd=>
 vK (gV d false (some a1)) λl=>
 vK (gV d false (ag .i .gtr l (.int .i64 262144))) λm=>
 vK (az d (.bool true) m) λn=>
 aA n (
 R (.int .i64 0) h) (
 vK (ag .i .mul (.int .i64 2) a1) λo=>
 vK (ag .i .geq a0 o) λa=>
 vK (gV a false (some a0)) λp=>
 vK (gV a false (some a1)) λq=>
 vK (gV a false (ag .i .mul (.int .i64 (-2)) q)) λr=>
 vK (gV a false (ag .i .leq p r)) λs=>
 vK (az a (.bool true) s) λt=>
 aA t (
 R (.int .i64 0) h) (
 dE (λf=>
 vK (ag .i .lss a0 (.int .i64 0)) λu=>
 aA u (
 vK (unV .neg a0) λv=>
 f [v] h) (
 f [a0] h))
 λb aw g=>
 vK (ag .i .mul (ix b 0) (ix b 0)) λe=>
 vK (ag .i .mul e (ix b 0)) λj=>
 vK (ag .i .mul a1 a1) λk=>
 vK (ag .i .mul k a1) λc=>
 vK (ag .i .lss (ix b 0) a1) λw=>
 aA w (
 vK (ag .i .mul (.int .i64 3) j) λx=>
 vK (ag .i .mul (.int .i64 5) e) λy=>
 vK (ag .i .mul y a1) λz=>
 vK (ag .i .sub x z) λaa=>
 vK (ag .i .mul (.int .i64 2) c) λab=>
 vK (ag .i .add aa ab) λac=>
 vK (ag .i .mul (.int .i64 2) c) λad=>
 ae prog cI #[ac,(.int .i64 1073741824),ad] g λah ai=>
 R ah ai) (
 vK (ag .i .mul (.int .i64 5) e) λaj=>
 vK (ag .i .mul aj a1) λak=>
 vK (ag .i .sub ak j) λal=>
 vK (ag .i .mul (.int .i64 8) (ix b 0)) λam=>
 vK (ag .i .mul am k) λan=>
 vK (ag .i .sub al an) λao=>
 vK (ag .i .mul (.int .i64 4) c) λap=>
 vK (ag .i .add ao ap) λaq=>
 vK (ag .i .mul (.int .i64 2) c) λar=>
 ae prog cI #[aq,(.int .i64 1073741824),ar] g λau av=>
 R au av)))
theorem KO (H:AZ a0 a1 h R):ae prog wL #[a0,a1] h R:=fk f280 (.s .z (.s (.s .z (.s (.s .z .z) .z)) (.s (.s .z (.s (.s .z .z) .z)) (.j 503316481 [0] (.s .z (.s .z .z)) (.s .z (.s .z (.s .z (.s .z (.s (.s .z (.s (.s .z .z) .z)) (.s .z .z)))))))))) H
def uW (a0 a1:Value)(h:af)(R:Value→af→Prop):Prop:=
 ae prog zP #[a0,a1] h λd c=>
 vK (unV .not d) λa=>
 vK (gV a false (some a0)) λe=>
 vK (gV a false (some a1)) λf=>
 vK (gV a false (ag .i .mul (.int .i64 3) f)) λg=>
 vK (gV a false (ag .i .geq e g)) λj=>
 vK (az a (.bool true) j) λb=>
 vK (gV b false (some a0)) λk=>
 vK (gV b false (some a1)) λl=>
 vK (gV b false (ag .i .mul (.int .i64 (-3)) l)) λm=>
 vK (gV b false (ag .i .leq k m)) λn=>
 vK (az b (.bool true) n) λo=>
 aA o (
 R (.int .i64 0) c) (
 ae prog my #[a0,a1] c λp q=>
 vK (ag .i .mul (.int .i64 3) a1) λr=>
 ae prog my #[a0,r] q λs t=>
 ae prog nP #[p,s,(.int .i64 40)] t λu v=>
 ae prog iW #[u,(.int .i64 10)] v λw x=>
 R w x)
theorem EP (H:uW a0 a1 h R):ae prog pZ #[a0,a1] h R:=fk f281 (.s .z (.s (.s .z (.s (.s .z .z) .z)) (.s .z (.s .z .z)))) H
def A5 (a0 a1:Value)(h:af)(R:Value→af→Prop):Prop:=
 aP (Value.cells a0) 293 h λq r=>
 aP #[(.int .u64 0),(.int .u64 0)] 293 r λd s=>
 vK ((aE #[(.int .u64 0),(.int .u64 0)] []).map .agg) λt=>
 aP #[(.int .u64 0),(.int .u64 0)] 293 s λb u=>
 stK 2 b t u λbb v=>
 vK ((aE #[(.int .u64 0),(.int .u64 0)] []).map .agg) λw=>
 aP #[(.int .u64 0),(.int .u64 0)] 293 v λc x=>
 stK 2 c w x λbc f=>
 vK (ag .i .eql a1 (.int .u64 0)) λy=>
 aA y (
 vK (aH 2 f b) λz=>
 stK 2 d z f λbd k=>
 vK (aH 2 k d) λaa=>
 R (.tuple #[aa,(.int .u64 0)]) k) (
 aS [(.int .i64 127)] f λe be a l=>
 vK (ag .i .geq (ix e 0) (.int .i64 0)) λab=>
 aA ab (
 bD a λS=>
 qK S (λa=>aH 2 a c) λac=>
 qK S (λa=>aH 2 a q) λad=>
 ae prog gy #[ad,(ix e 0)] a λah m=>
 S m∧(ae prog dN #[ac,ah] m λai aj=>
 stK 2 c ai aj λbf n=>
 vK (aH 2 n b) λak=>
 ae prog dN #[ak,(.int .u64 0)] n λal an=>
 stK 2 b al an λbg o=>
 vK (aH 2 o c) λao=>
 vK ((aE #[(.int .u64 0),(.int .u64 0)] [(0,1,(.int .u64 0)),(1,1,a1)]).map .agg) λap=>
 ae prog iM #[ao,ap] o λaq g=>
 vK (unV .not aq) λar=>
 aA ar (
 vK (aH 2 g c) λau=>
 vK ((aE #[(.int .u64 0),(.int .u64 0)] [(0,1,(.int .u64 0)),(1,1,a1)]).map .agg) λav=>
 ae prog oh #[au,av] g λaw ax=>
 stK 2 c aw ax λbh p=>
 vK (am 1 b) λay=>
 vK (ldV p ay) λaz=>
 vK (ag .i .add az (.int .u64 1)) λa2=>
 vK (am 1 b) λa3=>
 stK 1 a3 a2 p λbi a4=>
 vK (ag .i .sub (ix e 0) (.int .i64 1)) λa5=>
 l [a5] a4) (
 vK (ag .i .sub (ix e 0) (.int .i64 1)) λa6=>
 l [a6] g))) (
 bD a λS=>
 qK S (λa=>aH 2 a b) λa7=>
 vK (am 1 c) λa8=>
 qK S (λa=>ldV a a8) λa9=>
 stK 2 d a7 a λbj j=>
 S j∧(vK (aH 2 j d) λba=>
 R (.tuple #[ba,a9]) j)))
theorem KR (H:A5 a0 a1 h R):ae prog qZ #[a0,a1] h R:=fk f282 (.s .z (.s .z (.s .z (.s (.s .z (.s (.s .z .z) .z)) (.s (.s .z (.l 274877890816 [8] (.s (.s .z (.s .z .z)) (.s (.s (.d (.op 0 .r (.op 1 .r (.op 2 .r (.op 3 .e (.op 4 .n (.op 5 .n .nil))))))) (.s .z (.s .z (.s (.s .z .z) .z)))) .z)))) (.s (.d (.op 0 .r (.op 1 .r (.op 2 .r (.op 3 .e (.op 4 .r .nil)))))) .z)))))) H
def Hd (a0 a1 a2 a3:Value)(h:af)(R:Value→af→Prop):Prop:=
 vK (ag .i .geq a0 (.int .i64 0)) λb=>
 vK (gV b true (some a0)) λj=>
 vK (gV b true (ag .i .lss j (.int .i64 3))) λk=>
 vK (az b k (.bool false)) λc=>
 vK (gV c true (some a1)) λl=>
 vK (gV c true (ag .i .geq l (.int .i64 1))) λm=>
 vK (az c m (.bool false)) λd=>
 vK (gV d true (some a1)) λn=>
 vK (gV d true (ag .i .leq n (.int .i64 65536))) λo=>
 vK (az d o (.bool false)) λe=>
 vK (gV e true (some a2)) λp=>
 vK (gV e true (ag .i .geq p (.int .i64 1))) λq=>
 vK (az e q (.bool false)) λf=>
 vK (gV f true (some a2)) λr=>
 vK (gV f true (ag .i .leq r (.int .i64 65536))) λs=>
 vK (az f s (.bool false)) λg=>
 vK (gV g true (some a3)) λt=>
 vK (gV g true (ag .i .geq t (.int .i64 0))) λu=>
 vK (az g u (.bool false)) λa=>
 vK (gV a true (some a3)) λv=>
 vK (gV a true (some a2)) λw=>
 vK (gV a true (ag .i .lss v w)) λx=>
 vK (az a x (.bool false)) λy=>
 R y h
theorem QJ (H:Hd a0 a1 a2 a3 h R):ae prog Fu #[a0,a1,a2,a3] h R:=fk f285 (.s .z (.s .z .z)) H
def FG (a0 a1:Value)(h:af)(R:Value→af→Prop):Prop:=
 vK (unV .neg a0) λa=>
 ae prog iY #[a,a1] h λb c=>
 vK (unV .neg b) λd=>
 R d c
theorem OS (H:FG a0 a1 h R):ae prog wM #[a0,a1] h R:=fk f286 (.s .z (.s .z .z)) H
def xd (a0 a1:Value)(h:af)(R:Value→af→Prop):Prop:=
 ae prog Cz #[a0,a1] h λd b=>
 vK (unV .not d) λa=>
 vK (gV a false (some a0)) λe=>
 gK a false (λf=>ae prog tS #[e] b f) b λg c=>
 vK (gV a false (some a1)) λj=>
 vK (gV a false (ag .i .mul (.int .i64 3) j)) λk=>
 vK (gV a false (ag .i .geq g k)) λl=>
 vK (az a (.bool true) l) λm=>
 aA m (
 R (.int .i64 0) c) (
 ae prog nZ #[a0,a1] c λn o=>
 vK (ag .i .mul (.int .i64 3) a1) λp=>
 ae prog nZ #[a0,p] o λq r=>
 ae prog pW #[n,q,(.int .i64 40)] r λs t=>
 ae prog iX #[s,(.int .i64 10)] t λu v=>
 R u v)
theorem Gs (H:xd a0 a1 h R):ae prog sC #[a0,a1] h R:=fk f287 (.s .z (.s (.s .z (.s (.s .z .z) .z)) (.s .z .z))) H
def fi (a0 a1:Value)(h:af)(R:Value→af→Prop):Prop:=
 ae prog gk #[a0,a1] h λa b=>
 vK (ag .i .geq a (.int .i64 0)) λc=>
 R c b
theorem jM (H:fi a0 a1 h R):ae prog df #[a0,a1] h R:=fk f288 (.s .z (.s .z .z)) H
def uR (a0:Value)(h:af)(R:Value→af→Prop):Prop:=
 ae prog tP #[a0] h λa b=>
 vK (ag .i .gtr a (.int .i64 1099511627776)) λc=>
 R c b
theorem EJ (H:uR a0 h R):ae prog kI #[a0] h R:=fk f289 (.s .z (.s .z .z)) H
def CR (a0:Value)(h:af)(R:Value→af→Prop):Prop:=
 ae prog zV #[a0,(.int .i64 (-1))] h λa b=>
 vK (iG a0 a) λc=>
 R c b
theorem MM (H:CR a0 h R):ae prog tP #[a0] h R:=fk f290 (.s .z (.s .z .z)) H
def Dn (a0 a1:Value)(h:af)(R:Value→af→Prop):Prop:=
 vK (ag .i .add a0 a1) λc=>
 vK (ag .i .gtr a1 (.int .i64 0)) λa=>
 vK (gV a true (some c)) λd=>
 vK (gV a true (some a0)) λe=>
 vK (gV a true (ag .i .lss d e)) λf=>
 vK (az a f (.bool false)) λg=>
 aA g (
 R (.int .i64 9223372036854775807) h) (
 vK (ag .i .lss a1 (.int .i64 0)) λb=>
 vK (gV b true (some c)) λj=>
 vK (gV b true (some a0)) λk=>
 vK (gV b true (ag .i .gtr j k)) λl=>
 vK (az b l (.bool false)) λm=>
 aA m (
 R (.int .i64 (-9223372036854775808)) h) (
 R c h))
theorem Nj (H:Dn a0 a1 h R):ae prog ub #[a0,a1] h R:=fk f291 (.s .z (.s .z (.s (.s .z (.s (.s .z .z) (.s .z (.s (.s .z .z) .z)))) (.s .z .z)))) H
def Bg (a0:Value)(h:af)(R:Value→af→Prop):Prop:=
 vK (ag .i .lss a0 (.int .i64 0)) λa=>
 aA a (
 vK (dY .u64 a0) λb=>
 vK (unV .neg b) λc=>
 R c h) (
 vK (dY .u64 a0) λd=>
 R d h)
theorem K4 (H:Bg a0 h R):ae prog gF #[a0] h R:=fk f292 (.s .z (.s (.s .z (.s (.s .z .z) .z)) (.s .z .z))) H
def Bh (a0 a1:Value)(h:af)(R:Value→af→Prop):Prop:=
 vK (gV a1 true (some a0)) λa=>
 vK (gV a1 true (ag .i .geq a (.int .u64 9223372036854775808))) λb=>
 vK (az a1 b (.bool false)) λc=>
 aA c (
 R (.int .i64 (-9223372036854775808)) h) (
 aA a1 (
 vK (dY .i64 a0) λd=>
 vK (unV .neg d) λe=>
 R e h) (
 vK (ag .i .gtr a0 (.int .u64 9223372036854775807)) λf=>
 aA f (
 R (.int .i64 9223372036854775807) h) (
 vK (dY .i64 a0) λg=>
 R g h)))
theorem K6 (H:Bh a0 a1 h R):ae prog jV #[a0,a1] h R:=fk f293 (.s .z (.s (.s .z (.s (.s .z .z) (.s .z (.s (.s .z .z) (.s .z (.s (.s .z .z) .z)))))) (.s .z .z))) H
def jd (a0 a1 a2:Value)(h:af)(R:Value→af→Prop):Prop:=
 aS [(.int .i64 0),(.int .i64 20)] h λc ab e k=>
 vK (ag .i .leq (ix c 1) a1) λl=>
 aA l (
 ae prog cJ #[a0,(ix c 0),(ix c 1),a2] e λac m=>
 vK (ag .i .add (ix c 1) (.int .i64 20)) λn=>
 k [(ix c 1),n] m) (
 ae prog cJ #[a0,(ix c 0),a1,a2] e λad o=>
 aS [(.int .i64 20)] o λb ah f g=>
 vK (ag .i .lss (ix b 0) a1) λp=>
 aA p (
 vK (ag .i .mul (.int .i64 2) (ix b 0)) λq=>
 aS [(.int .i64 0),q] f λa ai d r=>
 vK (ag .i .leq (ix a 1) a1) λs=>
 aA s (
 vK (ag .i .add (ix a 0) (ix b 0)) λt=>
 ae prog bK #[a0,(ix a 0),t,(ix a 1),a2] d λaj u=>
 vK (ag .i .mul (.int .i64 2) (ix b 0)) λv=>
 vK (ag .i .add (ix a 1) v) λw=>
 r [(ix a 1),w] u) (
 vK (ag .i .add (ix a 0) (ix b 0)) λj=>
 vK (ag .i .lss j a1) λx=>
 aA x (
 ae prog bK #[a0,(ix a 0),j,a1,a2] d λak y=>
 vK (ag .i .mul (ix b 0) (.int .i64 2)) λz=>
 g [z] y) (
 vK (ag .i .mul (ix b 0) (.int .i64 2)) λaa=>
 g [aa] d))) (
 R (.tuple #[]) f))
theorem qH (H:jd a0 a1 a2 h R):ae prog fX #[a0,a1,a2] h R:=fk f294 (.s .z (.s .z (.s (.l 8386944 [7,8] (.s (.s .z (.s .z .z)) (.s .z (.s .z .z)))) (.s .z (.l 9223372036586341312 [6] (.s (.s .z (.s .z .z)) (.s .z (.s (.l 562941363487104 [7,8] (.s (.s .z (.s .z .z)) (.s .z (.s .z .z)))) (.s (.s .z (.s .z (.s .z .z))) .z))))))))) H
end
section
variable {a0 a1 a2 a3 a4 a5 a6:Value}{h:af}{R:Value→af→Prop}
def rM (a0:Value)(h:af)(R:Value→af→Prop):Prop:=
 vK (ag .i .neq a0 a0) λa=>
 R a h
theorem B5 (H:rM a0 h R):ae prog js #[a0] h R:=fk f295 (.s .z (.s .z .z)) H
def FL (a0:Value)(h:af)(R:Value→af→Prop):Prop:=
 vK (iG (.int .i64 0) a0) λc=>
 vK (ag .i .quo c (.int .i64 762123384786)) λg=>
 vK (ag .i .rem c (.int .i64 762123384786)) λj=>
 aS [(.int .i64 1099511627776),(.int .i64 1099511627776),(.int .i64 0)] h λa v d e=>
 vK (ag .i .lss (ix a 2) (.int .i64 16)) λk=>
 aA k (
 vK (ag .i .add (ix a 2) (.int .i64 1)) λl=>
 vK (ag .i .shl l (.int .u64 40)) λm=>
 ae prog dw #[(ix a 1),j,m] d λb f=>
 vK (ag .i .rem (ix a 2) (.int .i64 2)) λn=>
 vK (ag .i .eql n (.int .i64 0)) λo=>
 aA o (
 vK (ag .i .sub (ix a 0) b) λp=>
 vK (ag .i .add (ix a 2) (.int .i64 1)) λq=>
 e [p,b,q] f) (
 vK (ag .i .add (ix a 0) b) λr=>
 vK (ag .i .add (ix a 2) (.int .i64 1)) λs=>
 e [r,b,s] f)) (
 ae prog iX #[(ix a 0),g] d λt u=>
 R t u)
theorem OX (H:FL a0 h R):ae prog CG #[a0] h R:=fk f296 (.s .z (.s .z (.s .z (.s .z (.s (.s .z (.l 8589918432 [5,6,14] (.s .z (.s (.s .z .z) (.s (.s .z (.s .z (.s .z (.s .z .z)))) .z))))) (.s .z .z)))))) H
def Bi (a0 a1:Value)(h:af)(R:Value→af→Prop):Prop:=
 vK (ag .i .lss a1 (.int .i64 1)) λa=>
 vK (gV a false (some a1)) λd=>
 vK (gV a false (ag .i .gtr d (.int .i64 4194304))) λe=>
 vK (az a (.bool true) e) λb=>
 vK (gV b false (some a0)) λf=>
 vK (gV b false (ag .i .lss f (.int .i64 (-16384)))) λg=>
 vK (az b (.bool true) g) λc=>
 vK (gV c false (some a0)) λj=>
 vK (gV c false (ag .i .gtr j (.int .i64 16384))) λk=>
 vK (az c (.bool true) k) λl=>
 aA l (
 R (.int .i64 9223372036854775807) h) (
 vK (ag .i .mul a0 a0) λm=>
 vK (ag .i .shl m (.int .u64 31)) λn=>
 vK (ag .i .mul a1 a1) λo=>
 ae prog dw #[n,(.int .i64 1099511627776),o] h λp q=>
 R p q)
theorem K7 (H:Bi a0 a1 h R):ae prog wW #[a0,a1] h R:=fk f297 (.s .z (.s (.s .z (.s (.s .z .z) .z)) (.s .z .z))) H
def vd (a0 a1:Value)(h:af)(R:Value→af→Prop):Prop:=
 aA (.bool false) (
 vK (dY .u32 a0) λc=>
 vK (dY .u32 a1) λd=>
 ae prog Er #[c,d] h λa e=>
 vK (aF a 0) λf=>
 vK (aF a 1) λg=>
 vK (dY .u64 f) λi=>
 vK (dY .u64 g) λj=>
 R (.tuple #[i,j]) e) (
 ae prog jr #[a0,a1] h λb k=>
 vK (aF b 0) λl=>
 vK (aF b 1) λm=>
 R (.tuple #[l,m]) k)
theorem ET (H:vd a0 a1 h R):ae prog qa #[a0,a1] h R:=fk f298 (.s .z (.s (.s (.s .z (.s .z .z)) .z) (.s .z (.s .z .z)))) H
def xa (a0 a1:Value)(h:af)(R:Value→af→Prop):Prop:=
 ae prog pJ #[a0] h λc d=>
 ae prog pJ #[a1] d λe f=>
 ae prog jr #[c,e] f λa g=>
 vK (aF a 0) λj=>
 vK (aF a 1) λk=>
 vK (ag .i .lss a0 (.int .i64 0)) λl=>
 vK (ag .i .lss a1 (.int .i64 0)) λm=>
 vK (ag .b .neq l m) λn=>
 R (.tuple #[j,k,n]) g
theorem Gp (H:xa a0 a1 h R):ae prog ma #[a0,a1] h R:=fk f299 (.s .z (.s .z (.s .z .z))) H
def CQ (a0:Value)(h:af)(R:Value→af→Prop):Prop:=
 vK (ag .i .lss a0 (.int .i64 0)) λa=>
 aA a (
 vK (dY .u64 a0) λb=>
 vK (unV .neg b) λc=>
 R c h) (
 vK (dY .u64 a0) λd=>
 R d h)
theorem ML (H:CQ a0 h R):ae prog pJ #[a0] h R:=fk f300 (.s .z (.s (.s .z (.s (.s .z .z) .z)) (.s .z .z))) H
def xN (a0 a1 a2:Value)(h:af)(R:Value→af→Prop):Prop:=
 vK (gV a2 true (some a0)) λc=>
 vK (gV a2 true (ag .i .gtr c (.int .u64 0))) λd=>
 vK (gV a2 true (some d)) λa=>
 vK (gV a false (some a1)) λe=>
 vK (gV a false (ag .i .gtr e (.int .u64 9223372036854775808))) λf=>
 vK (gV a2 true (az a (.bool true) f)) λg=>
 vK (az a2 g (.bool false)) λj=>
 aA j (
 R (.int .i64 (-9223372036854775808)) h) (
 aA a2 (
 vK (unV .neg a1) λk=>
 vK (dY .i64 k) λl=>
 R l h) (
 vK (ag .i .gtr a0 (.int .u64 0)) λb=>
 vK (gV b false (some a1)) λm=>
 vK (gV b false (ag .i .gtr m (.int .u64 9223372036854775807))) λn=>
 vK (az b (.bool true) n) λo=>
 aA o (
 R (.int .i64 9223372036854775807) h) (
 vK (dY .i64 a1) λp=>
 R p h)))
theorem HZ (H:xN a0 a1 a2 h R):ae prog du #[a0,a1,a2] h R:=fk f301 (.s .z (.s (.s .z (.s (.s .z .z) (.s .z (.s (.s .z .z) (.s .z (.s (.s .z .z) .z)))))) (.s .z .z))) H
def rL (a0 a1 a2:Value)(h:af)(R:Value→af→Prop):Prop:=
 dE (λo=>
 vK (ag .i .eql a2 (.int .u64 0)) λai=>
 aA ai (
 vK (ldV h (.pointer (some ⟨vI,0,none⟩))) λb3=>
 Jz h λb4 aj=>
 o [] aj) (
 o [] h))
 λb5 b6 j=>
 dE (λp=>
 vK (ag .i .leq a2 a0) λak=>
 aA ak (
 vK (ldV j (.pointer (some ⟨sT,0,none⟩))) λb7=>
 Jz j λb8 al=>
 p [] al) (
 p [] j))
 λb9 ca q=>
 vK (ag .i .eql a0 (.int .u64 0)) λam=>
 aA am (
 vK (ag .i .quo a1 a2) λan=>
 vK (ag .i .rem a1 a2) λao=>
 R (.tuple #[an,ao]) q) (
 ae prog ga #[a2] q λap aq=>
 vK (dY .u64 ap) λf=>
 vK (ag .i .shl a2 f) λg=>
 vK (ag .i .shr g (.int .u64 32)) λc=>
 vK (ag .i .and g (.int .u64 4294967295)) λr=>
 vK (ag .i .shl a0 f) λar=>
 vK (ag .i .sub (.int .u64 64) f) λau=>
 vK (ag .i .shr a1 au) λav=>
 vK (ag .i .or ar av) λk=>
 vK (ag .i .shl a1 f) λs=>
 vK (ag .i .shr s (.int .u64 32)) λt=>
 vK (ag .i .and s (.int .u64 4294967295)) λu=>
 vK (ag .i .quo k c) λv=>
 vK (ag .i .mul v c) λaw=>
 vK (ag .i .sub k aw) λax=>
 dE (λw=>
 aS [v,ax] aq λd cb l ay=>
 vK (ag .i .geq (ix d 0) (.int .u64 4294967296)) λa=>
 vK (gV a false (some (ix d 0))) λa3=>
 vK (gV a false (some r)) λa4=>
 vK (gV a false (ag .i .mul a3 a4)) λa5=>
 vK (gV a false (some (ix d 1))) λa6=>
 vK (gV a false (ag .i .mul (.int .u64 4294967296) a6)) λa7=>
 vK (gV a false (some t)) λa8=>
 vK (gV a false (ag .i .add a7 a8)) λa9=>
 vK (gV a false (ag .i .gtr a5 a9)) λba=>
 vK (az a (.bool true) ba) λbb=>
 aA bb (
 vK (ag .i .sub (ix d 0) (.int .u64 1)) λx=>
 vK (ag .i .add (ix d 1) c) λy=>
 vK (ag .i .geq y (.int .u64 4294967296)) λbc=>
 aA bc (
 w [x] l) (
 ay [x,y] l)) (
 w [(ix d 0)] l))
 λz cc bd=>
 vK (ag .i .mul k (.int .u64 4294967296)) λbe=>
 vK (ag .i .add be t) λbf=>
 vK (ag .i .mul (ix z 0) g) λbg=>
 vK (ag .i .sub bf bg) λm=>
 vK (ag .i .quo m c) λaa=>
 vK (ag .i .mul aa c) λbh=>
 vK (ag .i .sub m bh) λbi=>
 dE (λab=>
 aS [bi,aa] bd λe cd n bj=>
 vK (ag .i .geq (ix e 1) (.int .u64 4294967296)) λb=>
 vK (gV b false (some (ix e 1))) λbk=>
 vK (gV b false (some r)) λbl=>
 vK (gV b false (ag .i .mul bk bl)) λbm=>
 vK (gV b false (some (ix e 0))) λbn=>
 vK (gV b false (ag .i .mul (.int .u64 4294967296) bn)) λbo=>
 vK (gV b false (some u)) λbp=>
 vK (gV b false (ag .i .add bo bp)) λbq=>
 vK (gV b false (ag .i .gtr bm bq)) λbr=>
 vK (az b (.bool true) br) λbs=>
 aA bs (
 vK (ag .i .sub (ix e 1) (.int .u64 1)) λac=>
 vK (ag .i .add (ix e 0) c) λad=>
 vK (ag .i .geq ad (.int .u64 4294967296)) λbt=>
 aA bt (
 ab [ac] n) (
 bj [ad,ac] n)) (
 ab [(ix e 1)] n))
 λah ce bu=>
 vK (ag .i .mul (ix z 0) (.int .u64 4294967296)) λbv=>
 vK (ag .i .add bv (ix ah 0)) λbw=>
 vK (ag .i .mul m (.int .u64 4294967296)) λbx=>
 vK (ag .i .add bx u) λbz=>
 vK (ag .i .mul (ix ah 0) g) λb0=>
 vK (ag .i .sub bz b0) λb1=>
 vK (ag .i .shr b1 f) λb2=>
 R (.tuple #[bw,b2]) bu)
theorem BZ (H:rL a0 a1 a2 h R):ae prog mB #[a0,a1,a2] h R:=fk f302 (.s .z (.j 3670016 [] (.s .z (.s .z .z)) (.j 62914560 [] (.s .z (.s .z .z)) (.s (.s .z (.s (.s .z .z) .z)) (.s .z (.s .z (.s .z (.s .z (.s .z (.s .z (.s .z (.s .z (.s .z (.s .z (.s (.m 77371104881383677504880640 [15] (.l 77371104881383677504880640 [15,16] (.s (.s .z (.s .z .z)) (.s .z (.s .z (.s .z (.s .z .z))))))) (.s .z (.s .z (.s .z (.s (.m 2658450920967430832890008133748195328 [18] (.l 2658450920967430832890008133748195328 [16,18] (.s (.s .z (.s .z .z)) (.s .z (.s .z (.s .z (.s .z .z))))))) (.s .z .z)))))))))))))))))))) H
def C8 (a0 a1:Value)(h:af)(R:Value→af→Prop):Prop:=
 vK (ag .i .lss a1 (.int .i64 1)) λb=>
 vK (gV b false (some a1)) λc=>
 vK (gV b false (ag .i .gtr c (.int .i64 1048576))) λd=>
 vK (az b (.bool true) d) λe=>
 aA e (
 R (.bool false) h) (
 vK (ag .i .mul (.int .i64 4) a1) λf=>
 vK (ag .i .leq a0 f) λa=>
 vK (gV a true (some a0)) λg=>
 vK (gV a true (some a1)) λj=>
 vK (gV a true (ag .i .mul (.int .i64 (-4)) j)) λk=>
 vK (gV a true (ag .i .geq g k)) λl=>
 vK (az a l (.bool false)) λm=>
 R m h)
theorem M4 (H:C8 a0 a1 h R):ae prog zP #[a0,a1] h R:=fk f305 (.s .z (.s (.s .z (.s (.s .z .z) .z)) (.s .z .z))) H
def tj (a0 a1 a2:Value)(h:af)(R:Value→af→Prop):Prop:=
 dE (λp=>
 vK (ag .i .lss a2 (.int .i64 0)) λt=>
 aA t (
 p [(.int .i64 0)] h) (
 p [a2] h))
 λe bw q=>
 vK (ag .i .gtr (ix e 0) (.int .i64 127)) λu=>
 aA u (
 R (.int .i64 0) q) (
 vK (ag .i .lss a0 (.int .i64 0)) λv=>
 vK (ag .i .lss a1 (.int .i64 0)) λw=>
 vK (ag .b .neq v w) λj=>
 ae prog eT #[a0] q λx y=>
 ae prog eT #[a1] y λz aa=>
 ae prog og #[x,z] aa λab ac=>
 aP #[(.int .u64 0),(.int .u64 0)] 293 ac λf ad=>
 stK 2 f ab ad λbx m=>
 vK (ag .i .eql (ix e 0) (.int .i64 0)) λah=>
 aA ah (
 vK (aH 2 m f) λai=>
 ae prog dc #[ai,j] m λaj ak=>
 R aj ak) (
 vK ((aE #[(.int .u64 0),(.int .u64 0)] []).map .agg) λal=>
 aP #[(.int .u64 0),(.int .u64 0)] 293 m λc am=>
 stK 2 c al am λbz an=>
 aS [(.int .i64 127)] an λn b0 d ao=>
 vK (ag .i .geq (ix n 0) (ix e 0)) λap=>
 aA ap (
 bD d λS=>
 qK S (λd=>aH 2 d c) λaq=>
 qK S (λd=>aH 2 d f) λar=>
 ae prog gy #[ar,(ix n 0)] d λau r=>
 S r∧(ae prog dN #[aq,au] r λav aw=>
 stK 2 c av aw λb1 ax=>
 vK (ag .i .sub (ix n 0) (.int .i64 1)) λay=>
 ao [ay] ax)) (
 vK (ag .i .sub (ix e 0) (.int .i64 1)) λa3=>
 aS [(.bool false),(.int .i64 0)] d λa b2 g a4=>
 vK (ag .i .lss (ix a 1) a3) λa5=>
 aA a5 (
 vK (gV (ix a 0) false (aH 2 g f)) λa6=>
 vK (gV (ix a 0) false (some (ix a 1))) λa7=>
 gK (ix a 0) false (λa8=>ae prog gy #[a6,a7] g a8) g λa9 ba=>
 vK (gV (ix a 0) false (ag .i .eql a9 (.int .u64 1))) λbb=>
 vK (az (ix a 0) (.bool true) bb) λbc=>
 vK (ag .i .add (ix a 1) (.int .i64 1)) λbd=>
 a4 [bc,bd] ba) (
 vK (aH 2 g f) λbe=>
 vK (ag .i .sub (ix e 0) (.int .i64 1)) λbf=>
 ae prog gy #[be,bf] g λbg k=>
 vK (ag .i .eql bg (.int .u64 1)) λl=>
 vK (gV l true (some (ix a 0))) λbh=>
 vK (gV l true (some bh)) λo=>
 vK (gV o false (some j)) λbi=>
 vK (gV o false (unV .not bi)) λbj=>
 vK (gV l true (az o (.bool true) bj)) λbk=>
 vK (az l bk (.bool false)) λbl=>
 aA bl (
 vK (aH 2 k c) λbm=>
 vK ((aE #[(.int .u64 0),(.int .u64 0)] [(1,1,(.int .u64 1))]).map .agg) λbn=>
 ae prog gx #[bm,bn] k λbo bp=>
 stK 2 c bo bp λb3 s=>
 vK (aH 2 s c) λbq=>
 ae prog dc #[bq,j] s λbr bs=>
 R br bs) (
 vK (aH 2 k c) λbt=>
 ae prog dc #[bt,j] k λbu bv=>
 R bu bv)))))
theorem DH (H:tj a0 a1 a2 h R):ae prog nP #[a0,a1,a2] h R:=fk f306 (.s .z (.j 24580 [2] (.s .z (.s .z .z)) (.s (.s .z (.s (.s .z .z) .z)) (.s .z (.s .z (.s (.s .z (.s (.s .z .z) .z)) (.s .z (.s (.s .z (.l 8787503088640 [10] (.s (.s .z (.s .z .z)) (.s (.d (.op 0 .r (.op 1 .r (.op 2 .r (.op 3 .e (.op 4 .n (.op 5 .n .nil))))))) .z)))) (.s .z (.s (.s .z (.l 72022409665845248 [11,45] (.s .z (.s (.s .z .z) (.s (.s .z .z) .z))))) (.s (.s .z (.s .z .z)) (.s .z .z)))))))))))) H
def xh (a0 a1:Value)(h:af)(R:Value→af→Prop):Prop:=
 dE (λc=>
 vK (ag .i .lss a0 (.int .i64 0)) λj=>
 aA j (
 vK (unV .neg a0) λk=>
 c [k] h) (
 c [a0] h))
 λd ad l=>
 ae prog cI #[(.int .i64 10851744800547),(ix d 0),a1] l λm n=>
 ae prog cI #[m,(ix d 0),a1] n λo p=>
 aS [(.int .i64 1099511627776),(.int .i64 0),(.int .i64 1099511627776),(.int .i64 1)] p λa ah e f=>
 vK (ag .i .leq (ix a 3) (.int .i64 30)) λq=>
 aA q (
 vK (ag .i .mul (.int .i64 2) (ix a 3)) λr=>
 vK (ag .i .mul (.int .i64 2) (ix a 3)) λs=>
 vK (ag .i .add s (.int .i64 1)) λt=>
 vK (ag .i .mul r t) λu=>
 vK (ag .i .mul u (.int .i64 1099511627776)) λv=>
 ae prog cI #[(ix a 2),o,v] e λb g=>
 vK (ag .i .rem (ix a 3) (.int .i64 2)) λw=>
 vK (ag .i .eql w (.int .i64 1)) λx=>
 aA x (
 vK (ag .i .add (ix a 1) b) λy=>
 vK (ag .i .add (ix a 3) (.int .i64 1)) λz=>
 f [(ix a 0),y,b,z] g) (
 vK (ag .i .add (ix a 0) b) λaa=>
 vK (ag .i .add (ix a 3) (.int .i64 1)) λab=>
 f [aa,(ix a 1),b,ab] g)) (
 vK (ag .i .sub (ix a 0) (ix a 1)) λac=>
 R ac e)
theorem Gw (H:xh a0 a1 h R):ae prog my #[a0,a1] h R:=fk f307 (.s .z (.j 61441 [0] (.s .z (.s .z .z)) (.s .z (.s .z (.s .z (.s .z (.s .z (.s (.s .z (.l 140737479970688 [7,8,9,10] (.s (.s .z (.s .z .z)) (.s (.s .z (.s .z (.s .z (.s .z .z)))) .z)))) (.s .z .z))))))))) H
def Fz (a0 a1:Value)(h:af)(R:Value→af→Prop):Prop:=
 vK (ag .i .geq a1 (.int .i64 1)) λc=>
 vK (gV c true (some a1)) λd=>
 vK (gV c true (ag .i .leq d (.int .i64 1048576))) λe=>
 vK (az c e (.bool false)) λa=>
 vK (gV a true (some a0)) λf=>
 vK (gV a true (some a1)) λg=>
 vK (gV a true (ag .i .mul (.int .i64 (-4)) g)) λj=>
 vK (gV a true (ag .i .geq f j)) λk=>
 vK (az a k (.bool false)) λb=>
 vK (gV b true (some a0)) λl=>
 vK (gV b true (some a1)) λm=>
 vK (gV b true (ag .i .mul (.int .i64 4) m)) λn=>
 vK (gV b true (ag .i .leq l n)) λo=>
 vK (az b o (.bool false)) λp=>
 R p h
theorem OJ (H:Fz a0 a1 h R):ae prog Cz #[a0,a1] h R:=fk f308 (.s .z (.s .z .z)) H
def CV (a0:Value)(h:af)(R:Value→af→Prop):Prop:=
 vK (unV .neg a0) λa=>
 vK (iG a0 a) λb=>
 R b h
theorem MQ (H:CV a0 h R):ae prog tS #[a0] h R:=fk f309 (.s .z (.s .z .z)) H
def uQ (a0 a1 a2:Value)(h:af)(R:Value→af→Prop):Prop:=
 vK (iG (.int .i64 0) a2) λb=>
 vK (ag .i .geq b (.int .i64 128)) λr=>
 aA r (
 R (.int .i64 0) h) (
 ae prog ma #[a0,a1] h λg j=>
 vK (aF g 0) λc=>
 vK (aF g 1) λd=>
 vK (aF g 2) λe=>
 vK (ag .i .eql b (.int .i64 0)) λs=>
 aA s (
 ae prog du #[c,d,e] j λt u=>
 R t u) (
 ae prog qT #[c,d,b] j λk v=>
 vK (aF k 0) λl=>
 vK (aF k 1) λm=>
 vK (ag .i .sub b (.int .i64 1)) λw=>
 ae prog qT #[c,d,w] v λn o=>
 vK (aF n 0) λav=>
 vK (aF n 1) λx=>
 vK (ag .i .and x (.int .u64 1)) λy=>
 vK (ag .i .eql y (.int .u64 0)) λf=>
 vK (gV f false (some e)) λz=>
 vK (gV f false (some z)) λa=>
 vK (gV a true (some c)) λaa=>
 vK (gV a true (some d)) λab=>
 vK (gV a true (some b)) λac=>
 vK (gV a true (ag .i .sub ac (.int .i64 1))) λad=>
 gK a true (λah=>ae prog wC #[aa,ab,ad] o ah) o λai p=>
 vK (gV f false (az a ai (.bool false))) λaj=>
 vK (az f (.bool true) aj) λak=>
 aA ak (
 ae prog du #[l,m,e] p λal am=>
 R al am) (
 ae prog ft #[m,(.int .u64 1),(.int .u64 0)] p λq an=>
 vK (aF q 0) λao=>
 vK (aF q 1) λap=>
 vK (ag .i .add l ap) λaq=>
 ae prog du #[aq,ao,e] an λar au=>
 R ar au)))
theorem EI (H:uQ a0 a1 a2 h R):ae prog pW #[a0,a1,a2] h R:=fk f310 (.s .z (.s .z (.s (.s .z (.s (.s .z .z) .z)) (.s .z (.s (.s .z (.s (.s .z .z) .z)) (.s .z (.s .z (.s (.s .z (.s (.s .z .z) .z)) (.s .z (.s .z .z)))))))))) H
def xP (a0 a1:Value)(h:af)(R:Value→af→Prop):Prop:=
 ae prog tS #[a0] h λb f=>
 ae prog dw #[(.int .i64 10851744800547),b,a1] f λg j=>
 ae prog dw #[g,b,a1] j λk l=>
 aS [(.int .i64 1099511627776),(.int .i64 1099511627776),(.int .i64 1),(.int .i64 1)] l λa x c m=>
 vK (ag .i .leq (ix a 3) (.int .i64 30)) λn=>
 aA n (
 vK (unV .neg (ix a 2)) λd=>
 vK (ag .i .mul (.int .i64 2) (ix a 3)) λo=>
 vK (ag .i .mul (.int .i64 2) (ix a 3)) λp=>
 vK (ag .i .add p (.int .i64 1)) λq=>
 vK (ag .i .mul o q) λr=>
 vK (ag .i .shl r (.int .u64 40)) λs=>
 ae prog dw #[(ix a 1),k,s] c λe t=>
 vK (ag .i .mul d e) λu=>
 vK (ag .i .add (ix a 0) u) λv=>
 vK (ag .i .add (ix a 3) (.int .i64 1)) λw=>
 m [v,e,d,w] t) (
 R (ix a 0) c)
theorem Ib (H:xP a0 a1 h R):ae prog nZ #[a0,a1] h R:=fk f311 (.s .z (.s .z (.s .z (.s .z (.s (.s .z (.l 549755552704 [6,7,8,9] (.s (.s .z (.s .z .z)) (.s (.s .z (.s .z .z)) .z)))) (.s .z .z)))))) H
def fS (a0 a1:Value)(h:af)(R:Value→af→Prop):Prop:=
 vK (aq a0) λd=>
 aS [(.int .i64 0)] h λa m b e=>
 vK (ag .i .lss (ix a 0) d) λf=>
 aA f (
 vK (aR 1 a0 (ix a 0)) λg=>
 vK (ldV b g) λj=>
 clK prog a1 #[j] b λk c=>
 aA k (
 R (ix a 0) c) (
 vK (ag .i .add (ix a 0) (.int .i64 1)) λl=>
 e [l] c)) (
 R (.int .i64 (-1)) b)
theorem kS (H:fS a0 a1 h R):ae prog gk #[a0,a1] h R:=fk f312 (.s .z (.s (.s .z (.l 524080 [8] (.s .z (.s (.s .z .z) (.s (.s .z (.s .z (.s (.s .z .z) .z))) .z))))) (.s .z .z))) H
def Dl (a0 a1:Value)(h:af)(R:Value→af→Prop):Prop:=
 ae prog gF #[a0] h λd e=>
 ae prog gF #[a1] e λf g=>
 ae prog jr #[d,f] g λa c=>
 vK (aF a 0) λj=>
 vK (aF a 1) λk=>
 vK (ag .i .neq j (.int .u64 0)) λl=>
 aA l (
 vK (ag .i .lss a0 (.int .i64 0)) λm=>
 vK (ag .i .lss a1 (.int .i64 0)) λn=>
 vK (ag .b .neq m n) λo=>
 ae prog jV #[(.int .u64 18446744073709551615),o] c λp q=>
 R p q) (
 vK (ag .i .lss a0 (.int .i64 0)) λr=>
 vK (ag .i .lss a1 (.int .i64 0)) λs=>
 vK (ag .b .neq r s) λt=>
 ae prog jV #[k,t] c λu v=>
 R u v)
theorem Nh (H:Dl a0 a1 h R):ae prog zV #[a0,a1] h R:=fk f313 (.s .z (.s .z (.s (.s .z (.s .z .z)) (.s .z .z)))) H
def fR (a0 a1 a2 a3:Value)(h:af)(R:Value→af→Prop):Prop:=
 vK (ag .i .add a1 (.int .i64 1)) λg=>
 aS [g] h λe ao f j=>
 vK (ag .i .lss (ix e 0) a2) λk=>
 aA k (
 aS [(ix e 0)] f λb ap c l=>
 bD c λS=>
 vK (ag .i .gtr (ix b 0) a1) λa=>
 vK (gV a true (some a3)) λm=>
 vK (gV a true (some a0)) λn=>
 vK (gV a true (some (ix b 0))) λo=>
 vK (gV a true (aR 1 n o)) λp=>
 qK S (λc=>gV a true (ldV c p)) λq=>
 vK (gV a true (some a0)) λr=>
 vK (gV a true (some (ix b 0))) λs=>
 vK (gV a true (ag .i .sub s (.int .i64 1))) λt=>
 vK (gV a true (aR 1 r t)) λu=>
 qK S (λc=>gV a true (ldV c u)) λv=>
 gK a true (λw=>clK prog m #[q,v] c w) c λx d=>
 vK (gV a true (ag .i .lss x (.int .i64 0))) λy=>
 vK (az a y (.bool false)) λz=>
 aA z (
 bD d λS=>
 vK (ag .i .sub (ix b 0) (.int .i64 1)) λaa=>
 vK (ag .i .sub (ix b 0) (.int .i64 1)) λab=>
 vK (aR 1 a0 ab) λac=>
 qK S (λd=>ldV d ac) λad=>
 vK (aR 1 a0 (ix b 0)) λae=>
 qK S (λd=>ldV d ae) λah=>
 vK (aR 1 a0 (ix b 0)) λai=>
 stK 1 ai ad d λaq aj=>
 vK (aR 1 a0 aa) λak=>
 stK 1 ak ah aj λar al=>
 vK (ag .i .sub (ix b 0) (.int .i64 1)) λam=>
 l [am] al) (
 vK (ag .i .add (ix e 0) (.int .i64 1)) λan=>
 j [an] d)) (
 R (.tuple #[]) f)
theorem kR (H:fR a0 a1 a2 a3 h R):ae prog cJ #[a0,a1,a2,a3] h R:=fk f314 (.s .z (.l 9007199254737664 [8] (.s (.s .z (.s .z .z)) (.s (.s .z (.l 9007199254479360 [9] (.s (.s (.d (.op 0 .r (.op 1 .r (.op 2 .r (.op 3 .r (.op 4 .r (.op 5 .r (.op 6 .r (.op 7 .r (.op 8 .r (.op 9 .r (.op 10 .r (.op 11 .r (.op 12 .r (.op 13 .r (.op 14 .n (.op 15 .r (.op 16 .r .nil)))))))))))))))))) (.s .z .z)) (.s (.d (.op 0 .r (.op 1 .r (.op 2 .r (.op 3 .r (.op 4 .r (.op 5 .r (.op 6 .r (.op 7 .r (.op 8 .r (.op 9 .r (.op 10 .r (.op 11 .r (.op 12 .r (.op 13 .r (.op 14 .r (.op 15 .n (.op 16 .r (.op 17 .n .nil))))))))))))))))))) .z)))) .z)))) H
def iq (a0 a1 a2 a3 a4:Value)(h:af)(R:Value→af→Prop):Prop:=
 vK (ag .i .sub a2 a1) λak=>
 vK (ag .i .eql ak (.int .i64 1)) λal=>
 aA al (
 aS [a2,a3] h λe de f x=>
 vK (ag .i .lss (ix e 0) (ix e 1)) λam=>
 aA am (
 vK (ag .i .add (ix e 0) (ix e 1)) λan=>
 vK (dY .u64 an) λao=>
 vK (ag .i .shr ao (.int .u64 1)) λap=>
 vK (dY .i64 ap) λt=>
 bD f λS=>
 vK (aR 1 a0 t) λaq=>
 qK S (λf=>ldV f aq) λar=>
 vK (aR 1 a0 a1) λau=>
 qK S (λf=>ldV f au) λav=>
 clK prog a4 #[ar,av] f λaw y=>
 vK (ag .i .lss aw (.int .i64 0)) λax=>
 aA ax (
 vK (ag .i .add t (.int .i64 1)) λay=>
 x [ay,(ix e 1)] y) (
 x [(ix e 0),t] y)) (
 aS [a1] f λm df g a5=>
 vK (ag .i .sub (ix e 0) (.int .i64 1)) λa6=>
 vK (ag .i .lss (ix m 0) a6) λa7=>
 aA a7 (
 bD g λS=>
 vK (ag .i .add (ix m 0) (.int .i64 1)) λa8=>
 vK (ag .i .add (ix m 0) (.int .i64 1)) λa9=>
 vK (aR 1 a0 a9) λba=>
 qK S (λg=>ldV g ba) λbb=>
 vK (aR 1 a0 (ix m 0)) λbc=>
 qK S (λg=>ldV g bc) λbd=>
 vK (aR 1 a0 (ix m 0)) λbe=>
 stK 1 be bb g λdg bf=>
 vK (aR 1 a0 a8) λbg=>
 stK 1 bg bd bf λdh bh=>
 vK (ag .i .add (ix m 0) (.int .i64 1)) λbi=>
 a5 [bi] bh) (
 R (.tuple #[]) g))) (
 vK (ag .i .sub a3 a2) λbj=>
 vK (ag .i .eql bj (.int .i64 1)) λbk=>
 aA bk (
 aS [a1,a2] h λj di k z=>
 vK (ag .i .lss (ix j 0) (ix j 1)) λbl=>
 aA bl (
 vK (ag .i .add (ix j 0) (ix j 1)) λbm=>
 vK (dY .u64 bm) λbn=>
 vK (ag .i .shr bn (.int .u64 1)) λbo=>
 vK (dY .i64 bo) λu=>
 bD k λS=>
 vK (aR 1 a0 a2) λbp=>
 qK S (λk=>ldV k bp) λbq=>
 vK (aR 1 a0 u) λbr=>
 qK S (λk=>ldV k br) λbs=>
 clK prog a4 #[bq,bs] k λbt aa=>
 vK (ag .i .lss bt (.int .i64 0)) λbu=>
 vK (unV .not bu) λbv=>
 aA bv (
 vK (ag .i .add u (.int .i64 1)) λbw=>
 z [bw,(ix j 1)] aa) (
 z [(ix j 0),u] aa)) (
 aS [a2] k λn dj l bx=>
 vK (ag .i .gtr (ix n 0) (ix j 0)) λbz=>
 aA bz (
 bD l λS=>
 vK (ag .i .sub (ix n 0) (.int .i64 1)) λb0=>
 vK (ag .i .sub (ix n 0) (.int .i64 1)) λb1=>
 vK (aR 1 a0 b1) λb2=>
 qK S (λl=>ldV l b2) λb3=>
 vK (aR 1 a0 (ix n 0)) λb4=>
 qK S (λl=>ldV l b4) λb5=>
 vK (aR 1 a0 (ix n 0)) λb6=>
 stK 1 b6 b3 l λdk b7=>
 vK (aR 1 a0 b0) λb8=>
 stK 1 b8 b5 b7 λdl b9=>
 vK (ag .i .sub (ix n 0) (.int .i64 1)) λca=>
 bx [ca] b9) (
 R (.tuple #[]) l))) (
 vK (ag .i .add a1 a3) λcb=>
 vK (dY .u64 cb) λcc=>
 vK (ag .i .shr cc (.int .u64 1)) λcd=>
 vK (dY .i64 cd) λb=>
 vK (ag .i .add b a2) λv=>
 dE (λab=>
 vK (ag .i .gtr a2 b) λce=>
 aA ce (
 vK (ag .i .sub v a3) λcf=>
 ab [cf,b] h) (
 ab [a1,a2] h))
 λac dm cg=>
 vK (ag .i .sub v (.int .i64 1)) λch=>
 aS [(ix ac 0),(ix ac 1)] cg λa dn c ad=>
 vK (ag .i .lss (ix a 0) (ix a 1)) λci=>
 aA ci (
 vK (ag .i .add (ix a 0) (ix a 1)) λcj=>
 vK (dY .u64 cj) λck=>
 vK (ag .i .shr ck (.int .u64 1)) λcl=>
 vK (dY .i64 cl) λo=>
 bD c λS=>
 vK (ag .i .sub ch o) λcm=>
 vK (aR 1 a0 cm) λcn=>
 qK S (λc=>ldV c cn) λco=>
 vK (aR 1 a0 o) λcp=>
 qK S (λc=>ldV c cp) λcq=>
 clK prog a4 #[co,cq] c λcr ah=>
 vK (ag .i .lss cr (.int .i64 0)) λcs=>
 vK (unV .not cs) λct=>
 aA ct (
 vK (ag .i .add o (.int .i64 1)) λcu=>
 ad [cu,(ix a 1)] ah) (
 ad [(ix a 0),o] ah)) (
 vK (ag .i .sub v (ix a 0)) λd=>
 dE (λai=>
 vK (ag .i .lss (ix a 0) a2) λp=>
 vK (gV p true (some a2)) λcv=>
 vK (gV p true (some d)) λcw=>
 vK (gV p true (ag .i .lss cv cw)) λcx=>
 vK (az p cx (.bool false)) λcy=>
 aA cy (
 ae prog fY #[a0,(ix a 0),a2,d,a4] c λdp cz=>
 ai [] cz) (
 ai [] c))
 λdq dr w=>
 vK (ag .i .lss a1 (ix a 0)) λq=>
 vK (gV q true (some (ix a 0))) λc0=>
 vK (gV q true (some b)) λc1=>
 vK (gV q true (ag .i .lss c0 c1)) λc2=>
 vK (az q c2 (.bool false)) λc3=>
 aA c3 (
 ae prog bK #[a0,a1,(ix a 0),b,a4] w λds aj=>
 vK (ag .i .lss b d) λr=>
 vK (gV r true (some d)) λc4=>
 vK (gV r true (some a3)) λc5=>
 vK (gV r true (ag .i .lss c4 c5)) λc6=>
 vK (az r c6 (.bool false)) λc7=>
 aA c7 (
 ae prog bK #[a0,b,d,a3,a4] aj λdt c8=>
 R (.tuple #[]) c8) (
 R (.tuple #[]) aj)) (
 vK (ag .i .lss b d) λs=>
 vK (gV s true (some d)) λc9=>
 vK (gV s true (some a3)) λda=>
 vK (gV s true (ag .i .lss c9 da)) λdb=>
 vK (az s db (.bool false)) λdc=>
 aA dc (
 ae prog bK #[a0,b,d,a3,a4] w λdu dd=>
 R (.tuple #[]) dd) (
 R (.tuple #[]) w)))))
theorem pe (H:iq a0 a1 a2 a3 a4 h R):ae prog bK #[a0,a1,a2,a3,a4] h R:=fk f315 (.s (.s .z (.s (.s .z (.s .z (.s (.l 18014396362005504 [10,11] (.s (.s .z (.s .z .z)) (.s .z (.s (.d (.op 0 .r (.op 1 .r (.op 2 .r (.op 3 .r (.op 4 .r (.op 5 .r (.op 6 .r (.op 7 .r (.op 8 .r (.op 9 .n (.op 10 .r .nil)))))))))))) (.s .z .z))))) (.s (.s .z (.l 151115691423031627882496 [13] (.s (.s .z (.s .z .z)) (.s (.d (.op 0 .r (.op 1 .r (.op 2 .r (.op 3 .r (.op 4 .r (.op 5 .r (.op 6 .r (.op 7 .r (.op 8 .r (.op 9 .r (.op 10 .r (.op 11 .r (.op 12 .r (.op 13 .r (.op 14 .r (.op 15 .n (.op 16 .r (.op 17 .n .nil))))))))))))))))))) .z)))) .z)))) .z)) (.s (.s .z (.s (.s .z (.s .z (.s (.l 162259267157806806474544612753408 [14,15] (.s (.s .z (.s .z .z)) (.s .z (.s (.d (.op 0 .r (.op 1 .r (.op 2 .r (.op 3 .r (.op 4 .r (.op 5 .r (.op 6 .r (.op 7 .r (.op 8 .r (.op 9 .n (.op 10 .r (.op 11 .r .nil))))))))))))) (.s .z .z))))) (.s (.s .z (.l 680564409323323268500022431707515977728 [17] (.s (.s .z (.s .z .z)) (.s (.d (.op 0 .r (.op 1 .r (.op 2 .r (.op 3 .r (.op 4 .r (.op 5 .r (.op 6 .r (.op 7 .r (.op 8 .r (.op 9 .r (.op 10 .r (.op 11 .r (.op 12 .r (.op 13 .r (.op 14 .r (.op 15 .n (.op 16 .r (.op 17 .n .nil))))))))))))))))))) .z)))) .z)))) .z)) (.s .z (.s .z (.s .z (.j 178057512444517944145699250583176761402458112 [20,21] (.s .z (.s (.s .z .z) (.s .z .z))) (.s .z (.s (.l 47890484938435180470718404069304177263338029388398592 [20,21] (.s (.s .z (.s .z .z)) (.s .z (.s (.d (.op 0 .r (.op 1 .r (.op 2 .r (.op 3 .r (.op 4 .r (.op 5 .r (.op 6 .r (.op 7 .r (.op 8 .r (.op 9 .r (.op 10 .r (.op 11 .n (.op 12 .r (.op 13 .r .nil))))))))))))))) (.s .z .z))))) (.s .z (.j 6276718611501464291621199836450878838806450759683488612352 [] (.s .z (.s .z .z)) (.s (.s .z (.s .z .z)) (.s .z (.s .z .z))))))))))))) H
def jf (a0:Value)(h:af)(R:Value→af→Prop):Prop:=
 ae prog tZ #[a0] h λa b=>
 vK (ag .i .sub (.int .i64 64) a) λc=>
 R c b
theorem qJ (H:jf a0 h R):ae prog ga #[a0] h R:=fk f318 (.s .z (.s .z .z)) H
def AI (a0 a1 a2:Value)(h:af)(R:Value→af→Prop):Prop:=
 vK (ag .i .geq a2 (.int .i64 64)) λa=>
 aA a (
 vK (ag .i .sub a2 (.int .i64 64)) λb=>
 vK (ag .i .shr a0 b) λc=>
 R (.tuple #[(.int .u64 0),c]) h) (
 vK (ag .i .shr a0 a2) λd=>
 vK (ag .i .shr a1 a2) λe=>
 vK (ag .i .sub (.int .i64 64) a2) λf=>
 vK (ag .i .shl a0 f) λg=>
 vK (ag .i .or e g) λj=>
 R (.tuple #[d,j]) h)
theorem Kx (H:AI a0 a1 a2 h R):ae prog qT #[a0,a1,a2] h R:=fk f319 (.s .z (.s (.s .z (.s (.s .z .z) .z)) (.s .z .z))) H
def AJ (a0 a1 a2:Value)(h:af)(R:Value→af→Prop):Prop:=
 vK (ag .i .geq a2 (.int .i64 64)) λb=>
 aA b (
 vK (ag .i .eql a1 (.int .u64 0)) λa=>
 vK (gV a true (some a0)) λc=>
 vK (gV a true (some a2)) λd=>
 vK (gV a true (ag .i .sub (.int .i64 128) d)) λe=>
 vK (gV a true (ag .i .shl c e)) λf=>
 vK (gV a true (ag .i .eql f (.int .u64 0))) λg=>
 vK (az a g (.bool false)) λj=>
 R j h) (
 vK (ag .i .sub (.int .i64 64) a2) λk=>
 vK (ag .i .shl a1 k) λl=>
 vK (ag .i .eql l (.int .u64 0)) λm=>
 R m h)
theorem Ky (H:AJ a0 a1 a2 h R):ae prog wC #[a0,a1,a2] h R:=fk f320 (.s .z (.s (.s .z (.s (.s .z .z) .z)) (.s .z .z))) H
def je (a0 a1 a2 a3 a4:Value)(h:af)(R:Value→af→Prop):Prop:=
 vK (ag .i .sub a2 a1) λd=>
 vK (ag .i .sub a3 a2) λe=>
 aS [d,e] h λa t b c=>
 vK (ag .i .neq (ix a 0) (ix a 1)) λf=>
 aA f (
 vK (ag .i .gtr (ix a 0) (ix a 1)) λg=>
 aA g (
 vK (ag .i .sub a2 (ix a 0)) λj=>
 ae prog cB #[a0,j,a2,(ix a 1),a4] b λu k=>
 vK (ag .i .sub (ix a 0) (ix a 1)) λl=>
 c [l,(ix a 1)] k) (
 vK (ag .i .sub a2 (ix a 0)) λm=>
 vK (ag .i .add a2 (ix a 1)) λn=>
 vK (ag .i .sub n (ix a 0)) λo=>
 ae prog cB #[a0,m,o,(ix a 0),a4] b λv p=>
 vK (ag .i .sub (ix a 1) (ix a 0)) λq=>
 c [(ix a 0),q] p)) (
 vK (ag .i .sub a2 (ix a 0)) λr=>
 ae prog cB #[a0,r,a2,(ix a 0),a4] b λw s=>
 R (.tuple #[]) s)
theorem qI (H:je a0 a1 a2 a3 a4 h R):ae prog fY #[a0,a1,a2,a3,a4] h R:=fk f321 (.s .z (.s .z (.s (.l 1125899906583552 [10,11] (.s (.s .z (.s .z .z)) (.s .z (.s (.s .z .z) (.s .z .z))))) .z))) H
def gZ (a0 a1 a2 a3 a4:Value)(h:af)(R:Value→af→Prop):Prop:=
 aS [(.int .i64 0)] h λb t a c=>
 vK (ag .i .lss (ix b 0) a3) λd=>
 aA d (
 bD a λS=>
 vK (ag .i .add a1 (ix b 0)) λe=>
 vK (ag .i .add a2 (ix b 0)) λf=>
 vK (ag .i .add a2 (ix b 0)) λg=>
 vK (aR 1 a0 g) λj=>
 qK S (λa=>ldV a j) λk=>
 vK (ag .i .add a1 (ix b 0)) λl=>
 vK (aR 1 a0 l) λm=>
 qK S (λa=>ldV a m) λn=>
 vK (aR 1 a0 e) λo=>
 stK 1 o k a λu p=>
 vK (aR 1 a0 f) λq=>
 stK 1 q n p λv r=>
 vK (ag .i .add (ix b 0) (.int .i64 1)) λs=>
 c [s] r) (
 R (.tuple #[]) a)
theorem nj (H:gZ a0 a1 a2 a3 a4 h R):ae prog cB #[a0,a1,a2,a3,a4] h R:=fk f322 (.s .z (.l 274877905920 [10] (.s (.s .z (.s .z .z)) (.s (.d (.op 0 .r (.op 1 .r (.op 2 .r (.op 3 .r (.op 4 .r (.op 5 .r (.op 6 .r (.op 7 .r (.op 8 .r (.op 9 .r (.op 10 .r (.op 11 .r (.op 12 .r (.op 13 .r (.op 14 .r (.op 15 .r (.op 16 .r (.op 17 .r (.op 18 .r (.op 19 .r (.op 20 .r (.op 21 .n (.op 22 .r (.op 23 .n .nil))))))))))))))))))))))))) .z)))) H
end
def iK:Nat→ByteArray
 |0=>⟨#[99,108,97,109,112]⟩
 |1=>⟨#[109,105,114,114,111,114]⟩
 |2=>⟨#[119,114,97,112]⟩
 |_=>⟨#[]⟩
def Q8:Nat→ByteArray
 |0=>⟨#[98,111,120]⟩
 |1=>⟨#[99,117,98,105,99]⟩
 |2=>⟨#[108,97,110,99,122,111,115]⟩
 |_=>⟨#[]⟩
def Pr:Nat→Int
 |0=>0
 |1=>2
 |_=>3
def TabH (h:af)(name:String)(k:IntKind)(zs:List Int):Prop:=∃g t f,prog.globalNamed name=some g∧h[g]? =some (.cells (zs.map λz=>Value.int k z).toArray t f)
theorem TabH.is {h:af}{name:String}{k:IntKind}{zs:List Int}(H:TabH h name k zs)(w:World)(D:w.heap=h):Lib.TabIs prog w name k zs:=by
 obtain⟨g,t,f,h1,A⟩:=H;subst D;unfold Lib.TabIs World.var?;rw[h1,Option.bind_some,A]
structure dA (h:af):Prop where
 names:∃v,aB h ⟨lY,0,none⟩=some v∧SlC 1 h v 3 [.string (iK 0),.string (iK 1),.string (iK 2)]
 kinds:∀i,i<3→aB h ⟨ed,2*i,none⟩=some (.string (Q8 i))∧aB h ⟨ed,2*i+1,none⟩=some (.int .i64 (Pr i))
theorem dA.ext {h h':af}(H:dA h)(e:Ext h h'):dA h':=by
 obtain⟨⟨v,h1,D⟩,A⟩:=H;exact⟨⟨v,e.cell h1,D.ext e⟩,λi hi=>⟨e.cell (A i hi).1,e.cell (A i hi).2⟩⟩
end Go.Proofs.YtcoimlclclnlkaaGreatDoor
namespace Go.Crisp
open Go Go.ChangeShapes Go.WideShapes Go.ChangeAt Go.RowKit
def zG (P:Program)(L:List (String×DataW Unit))(h:af):Prop:=∀w:World,w.heap=h→laidMetH P L w
theorem row_laid {H:Type}{G:TypeId×Value→H}{C:Checked}{os:Os}{f:FuncId}{fn:Func}{s:ChangeSpec}{U:List PathCond}{rt:TypeId}{ts:List TS}{L:List (String×DataW Unit)}
  (a7:pg C.prog f=true) (own:ownKnob C.prog.godebug=none) (started:os.Started) (ad:C.prog.inits.idxOf? f=none) (bd:C.prog.funcs[f]? =some fn)
  (ar:laidOutB C.prog=true) (F:s.vars=[]) (hp:DR C.prog ts fn.params.toList=true) (al:fn.params.toList.all (λt=>C.prog.readableRec t&&decide (t<C.prog.types.size))=true)
  (ax:fn.resultTypes=#[rt]) (ay:C.prog.underlying rt=some .bool)
  (D:∀ds:List (DataW H),ds.length=ts.length→s.fn H ds={results:=[.lit (.bool true)],args:=ds})
  (ab:∃(w:World) (A:Tape) (i:Input),w.os=os∧(w.forCall A i).Shaped C.prog∧i.vars=[]∧Input.okWide C.prog (w.forCall A i) .any w.heap.size f i∧
   ((s.pre G C.prog fn U false (w.forCall A i).memory i.args∧laidMetH C.prog L (w.forCall A i).memory)∧sizedMet G C.prog fn (OpenSpec.ofChange s) false (w.forCall A i).memory i.args)∧Assume.holds {} C.prog (lone (Frame.enter C.prog f i.args .normal) [] (w.forCall A i)))
  (I:∀(h:af) (args:Array Value),zG C.prog L h→sK ts h args.toList→ae C.prog f args h λr h'=>r=.bool true∧Ext h h'):
  ReturnsInHanded {} C os f .any (λw args=>(s.pre G C.prog fn U false w args∧laidMetH C.prog L w)∧sizedMet G C.prog fn (OpenSpec.ofChange s) false w args) (s.post G C.prog fn false true false false):=by
 refine returnsInHanded_of_change_and (X:=λw _=>laidMetH C.prog L w) (λ_ _ _ hh h=>h.of_heap hh) own started ad bd ab ?_;intro W be args ds gs before an hW _ aw hL _;have a9:=hW;obtain⟨p,q,hA,hV,rfl,_,_⟩:=hW;rw[F]at hV;obtain⟨rfl,rfl⟩:=trodVars_none hV;have bc:s.plain.varTypes C.prog=[]:=by simp[DataSpec.varTypes,ChangeSpec.plain,F]
 rw[bc,List.append_nil,List.append_nil]at aw;have hw:xx (DataW.weightsEach C.prog fn.params.toList ds):=λn hn=>by
  have:=List.all_eq_true.1 aw n hn;exact of_decide_eq_true this
 have a8:sK ts W.heap args.toList:=SL hp (λj t v ht hv=>an j t v (by simpa using ht) (by simpa using hv)) hA hw;have aa:ds.length=ts.length:=by
  have l1:∀{ids:List TypeId} {vs:List Value} {ds:List (DataW H)} {ps:List MemPlace},DataW.TrodAll G C.prog W 0 (λ_=>true) true ids vs ds ps→ds.length=ids.length:=by
   intro ids;induction ids with
   |nil=>intro vs ds ps h;obtain⟨rfl,rfl,rfl⟩:=trodAll_nil h;rfl
   |cons t ids ih=>intro vs ds ps h;obtain⟨v,bi,d,bg,p,q,rfl,rfl,rfl,h1,h2⟩:=trodAll_cons h;simp[ih h2]
  have l2:∀(ts:List TS) (ids:List TypeId),DR C.prog ts ids=true→ids.length=ts.length:=by
   intro ts;induction ts with
   |nil=>intro ids h;cases ids<;>simp_all [DR]
   |cons t ts ih=>intro ids h;cases ids<;>simp[DR]at h;simp[ih _ h.2]
  rw[l1 hA,l2 _ _ hp]
 refine((I W.heap args (λw hw=>hL.of_heap hw.symm) a8).calls a7 W rfl).mono λe W' ⟨v,he,hs,hv,hx⟩=>?_
 subst he hv;have au:Below W.heap.size W W':=⟨hs.1,hs.2.1,hs.2.2,hx.1,λk hk=>hx.2 k hk⟩
 refine⟨_,rfl,ds,[],_,[],p,[],a9,?_,?_,?_,au.frame _,λh=>by cases h⟩
 ·rw[List.append_nil,D ds aa,ax];exact trodAll_mk1 (shut_bool ay _)
 ·rw[List.append_nil,D ds aa];exact L6 ar au al hA
 ·rw[List.append_nil,D ds aa,F];rfl
theorem FV {P:Program}{w:World}:∀{L:List (String×DataW Unit)} {D:List MemPlace},DataW.LaidVars P w L D→∀{n:String} {d:DataW Unit},(n,d)∈L→
  ∃g t cs A p,P.globalNamed n=some g∧(P.globals[g]?).map (·.type)=some t∧w.var? P n=some cs∧DataW.trod (λ_=>()) P w 0 (λ_=>true) false A t cs.toList=some (d,p)
 | [],_,_,n,d,hm=>absurd hm (by simp)
 |(n',d')::r,_,h,n,d,hm=>by
  obtain⟨g,t,cs,A,p,q,h1,G,H,I,F,_⟩:=h;rcases List.mem_cons.1 hm with e|e
  ·cases e;exact⟨g,t,cs,A,p,h1,G,H,I⟩
  ·exact FV F e
theorem zG.at {P:Program}{L:List (String×DataW Unit)}{h:af}(H:zG P L h)(I:(L.all λx=>x.2.handleName?.isNone)=true){n:String}{d:DataW Unit}(D:(n,d)∈L)(w:World)(F:w.heap=h):
  ∃g t cs A p,P.globalNamed n=some g∧(P.globals[g]?).map (·.type)=some t∧w.var? P n=some cs∧DataW.trod (λ_=>()) P w 0 (λ_=>true) false A t cs.toList=some (d,p):=by
 have:=H w F;rw[MakeChecks.laidMetH_plain _ _ _ I]at this;obtain⟨U,G,_⟩:=this;exact FV G D
def XU (P:Program)(n:String)(g:Nat)(k:Program→TypeId→Bool):Bool:=
 decide (P.globalNamed n=some g)&&(match(P.globals[g]?).map (·.type)with|some t=>k P t|none=>false)
def Sd (k:IntKind)(P:Program)(t:TypeId):Bool:=match P.underlying t with|some (.int k')=>decide (k=k')&&P.cellsOf t==1|_=>false
def Jp (P:Program)(t:TypeId):Bool:=match P.underlying t with|some .string=>P.cellsOf t==1|_=>false
def Nr (e:Program→TypeId→Bool)(P:Program)(t:TypeId):Bool:=match P.underlying t with|some (.slice u)=>e P u|_=>false
def UT (n:Nat)(e:Program→TypeId→Bool)(P:Program)(t:TypeId):Bool:=match P.underlying t with|some (.array n' u)=>n==n'&&P.cellsOf t==n*P.cellsOf u&&e P u|_=>false
def QX (a b:Program→TypeId→Bool)(P:Program)(t:TypeId):Bool:=match P.underlying t with|some (.struct ⟨[x,y]⟩)=>x.offset==0&&y.offset==1&&a P x.type&&b P y.type&&P.cellsOf t==2|_=>false
theorem zG.kind {P:Program}{L:List (String×DataW Unit)}{h:af}(H:zG P L h)(hn:(L.all λx=>x.2.handleName?.isNone)=true){n:String}{d:DataW Unit}(U:(n,d)∈L)(w:World)(G:w.heap=h)
  {g:Nat} {k:Program→TypeId→Bool} (D:XU P n g k=true):
  ∃t cs A p,P.globalNamed n=some g∧k P t=true∧w.var? P n=some cs∧(∀i,aB h ⟨g,i,none⟩=cs[i]?)∧DataW.trod (λ_=>()) P w 0 (λ_=>true) false A t cs.toList=some (d,p):=by
 obtain⟨W,t,cs,A,p,h1,h2,I,h4⟩:=H.at hn U w G;unfold XU at D;rw[Bool.and_eq_true,decide_eq_true_eq]at D;obtain⟨k1,F⟩:=D;obtain rfl:W=g:=Option.some.inj (h1.symm.trans k1);rw[h2]at F;refine⟨t,cs,A,p,h1,F,I,λi=>?_,h4⟩;subst G;exact World.var?_cell h1 I i
theorem SV {k:IntKind}{P:Program}{w:World}{D:Nat}{t:TypeId}{cs:List Value}{z:Int}{p:List MemPlace}(A:Sd k P t=true)(h:DataW.trod (λ_=>()) P w 0 (λ_=>true) false D t cs=some (.lit (.int k z),p)):cs=[.int k z]∧P.cellsOf t=1:=by
 unfold Sd at A;split at A
 ·rename_i k' hu;rw[Bool.and_eq_true,decide_eq_true_eq]at A;obtain⟨rfl,hc⟩:=A;obtain⟨n,rfl,F,_⟩:=DataW.trod_int hu h;cases F;exact⟨rfl,by simpa using hc⟩
 ·cases A
theorem Ll {P:Program}{w:World}{A:Nat}{t:TypeId}{cs:List Value}{z:List UInt8}{p:List MemPlace}(D:Jp P t=true)(h:DataW.trod (λ_=>()) P w 0 (λ_=>true) false A t cs=some (.lit (.string z),p)):cs=[.string ⟨⟨z⟩⟩]∧P.cellsOf t=1:=by
 unfold Jp at D;split at D
 ·rename_i hu;obtain⟨s,rfl,F,_⟩:=DataW.trod_string hu h;cases F;exact⟨rfl,by simpa using D⟩
 ·cases D
theorem Bv {cs:List Value}{i:Nat}{v:Value}(h:(cs.drop i).take 1=[v]):cs[i]? =some v:=by
 have:=congrArg (λl=>l[0]?) h;simpa using this
theorem SS {P:Program}{w:World}{h:af}(hw:w.heap=h){L:Nat}{t:TypeId}{cs:List Value}{zs:List (List UInt8)}{p:List MemPlace}(hz:zs≠[])(F:Nr Jp P t=true)
  (H:DataW.trod (λ_=>()) P w 0 (λ_=>true) false L t cs=some (.slice (zs.map λz=>.lit (.string z)) [],p)):
  ∃b o cap,cs=[.slice (some ⟨b,o,none⟩) zs.length cap]∧∀i (hi:i<zs.length),aB h ⟨b,o+i,none⟩=some (.string ⟨⟨zs[i]⟩⟩):=by
 unfold Nr at F;split at F
 ·rename_i u hu;have c1:P.cellsOf u=1:=by
   unfold Jp at F;split at F
   ·simpa using F
   ·cases F
  rcases DataW.trod_slice hu H with⟨_,he⟩|⟨a,len,cap,A,rest,m,rfl,rfl,he,_,_,_,al,G,_⟩
  ·cases he
  ·have I:A.map (·.1)=zs.map λz=>DataW.lit (.string z):=by
    have:=congrArg (λx=>x.1) he;simp only[DataW.slice.injEq]at this;exact this.1.symm
   have hl:A.length=zs.length:=by simpa using congrArg List.length I
   have U:len=zs.length:=by omega
   subst U;have ha:∃b o,a=⟨b,o,none⟩:=by
    have h0:0<zs.length:=List.length_pos_iff.2 hz;have:=G 0 h0;rw[List.getElem?_eq_getElem (by omega)]at this;cases hc:w.cells? 0 (a.add (0*P.cellsOf u)) (P.cellsOf u)with
    |none=>rw[hc]at this;cases this
    | some l=>
     obtain⟨b,o,s⟩:=a;cases s with
     |none=>exact⟨b,o,rfl⟩
     |some x=>
      exfalso;obtain⟨h3,D⟩:=Co hc;rw[c1]at h3;have D:=D 0 (by omega);unfold aB at D;split at D
      ·rw[if_pos (by unfold Addr.add;split<;>simp_all)]at D;cases D
      ·cases D
   obtain⟨b,o,rfl⟩:=ha;refine⟨b,o,cap,rfl,λi hi=>?_⟩;have h1:=G i hi;have aa:A[i]? =some (A[i]'(by omega)):=List.getElem?_eq_getElem (by omega);rw[aa,c1,Nat.mul_one]at h1;have D:(A[i]'(by omega)).1=.lit (.string zs[i]):=by
    have:=congrArg (λl=>l[i]?) I;simpa[hi,hl]using this
   obtain⟨x,y,ab⟩:∃x y,A[i]'(by omega)=(x,y):=⟨_,_,rfl⟩
   rw[ab]at h1 D;simp only at D;rw[D,Option.bind_eq_some_iff]at h1;obtain⟨l,ad,W⟩:=h1;have h3:=(Ll F W).1;subst h3;have h4:=(Co ad).2 0 (by simp);rw[El,El,hw]at h4;simpa using h4
 ·cases F
theorem Qh {k:IntKind}{P:Program}{w:World}{U:Nat}{t:TypeId}{cs:List Value}{zs:List (List UInt8×Int)}{p:List MemPlace}(I:UT zs.length (QX Jp (Sd k)) P t=true)
  (h:DataW.trod (λ_=>()) P w 0 (λ_=>true) false U t cs=some (.agg (zs.map λz=>.agg [.lit (.string z.1),.lit (.int k z.2)]),p)):
  ∀i (hi:i<zs.length),cs[2*i]? =some (.string ⟨⟨zs[i].1⟩⟩)∧cs[2*i+1]? =some (.int k zs[i].2):=by
 unfold UT at I;split at I
 ·rename_i n u hu;rw[Bool.and_eq_true,Bool.and_eq_true]at I;obtain⟨⟨hn,hc⟩,hi⟩:=I;obtain⟨L,m,rfl,he,hl,hx,ad⟩:=DataW.trod_array hu h;have hn:zs.length=n:=by simpa using hn
  subst hn;unfold QX at hi;split at hi
  ·rename_i f1 f2 hs;simp only[Bool.and_eq_true,beq_iff_eq]at hi;obtain⟨⟨⟨⟨o1,o2⟩,t1⟩,t2⟩,c2⟩:=hi;have al:L.map (·.1)=zs.map λz=>DataW.agg [.lit (.string z.1),.lit (.int k z.2)]:=by
    have:=congrArg (λx=>x.1) he;simpa using this.symm
   intro i H;have h1:=ad i H;have aa:L[i]? =some (L[i]'(by omega)):=List.getElem?_eq_getElem (by omega);rw[aa,c2]at h1;have h2:(L[i]'(by omega)).1=.agg [.lit (.string zs[i].1),.lit (.int k zs[i].2)]:=by
    have:=congrArg (λl=>l[i]?) al;simpa[H,hx]using this
   obtain⟨a,b,ab⟩:∃a b,L[i]'(by omega)=(a,b):=⟨_,_,rfl⟩
   rw[ab]at h1 h2;simp only at h2;rw[h2]at h1;obtain⟨ys,m',rfl,A,an,hy,D⟩:=DataW.trod_struct hs h1;have W:ys.length=2:=hy
   match ys,W,A,D with
   | [y1,y2],_,A,D=>
    have A:=congrArg (λx=>x.1) A;simp only[List.map_cons,List.map_nil,DataW.agg.injEq,List.cons.injEq,and_true]at A;have a1:=D 0 f1 rfl;have a2:=D 1 f2 rfl;rw[o1]at a1;rw[o2]at a2;obtain⟨a,b⟩:=y1;obtain⟨a',b'⟩:=y2;simp only at A;obtain⟨rfl,rfl⟩:=A;have F:=Ll t1 a1;have G:=SV t2 a2;rw[F.2]at F;rw[G.2]at G;have F:=Bv F.1;have G:=Bv G.1;rw[List.getElem?_take_of_lt (by omega),List.getElem?_drop]at F G;refine⟨?_,?_⟩
    ·rw[Nat.mul_comm];simpa using F
    ·rw[Nat.mul_comm];simpa using G
  ·cases hi
 ·cases I
end Go.Crisp
