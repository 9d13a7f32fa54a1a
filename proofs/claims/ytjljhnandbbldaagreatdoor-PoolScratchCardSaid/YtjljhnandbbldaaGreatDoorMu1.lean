/- Several texts of this session, one behind the other, without what this claim does not need (put together by its program pack.py). Conditions: none. -/
import Derived.Test.YtjljhnandbbldaaGreatDoorMu0
import Derived.Lib.ItoaNum
import Derived.Lib.LaidTab
import Derived.LaidLaws
import Derived.LaidHandle
import Derived.LaidMore
import Derived.MakeChecks
import Derived.Handed
import Derived.Stop.Joined
import Derived.Test.YtjljhnandbbldaaGreatDoorRows
import Derived.Test.YtjljhnandbbldaaGreatDoorProg
import Derived.Shelf.Bits.Mul64
import Derived.Shelf.Spec.BitsCarry
import Derived.Shelf.Strconv.Itoa0
set_option linter.unusedVariables false
set_option linter.unusedSimpArgs false
set_option maxRecDepth 100000
namespace Go.Proofs.YtjljhnandbbldaaGreatDoor
open Go Go.Crisp
open _root_.Go.Proofs.Tryz
section
variable {a0 a1 a2 a3 a4 a5 a6:Value}{h:af}{R:Value→af→Prop}
def yd (a0 a1:Value)(h:af)(R:Value→af→Prop):Prop:=
 aP (Value.cells a0) 120 h λd m=>
 aP (Value.cells a1) 120 m λe a=>
 vK (am 0 d) λn=>
 vK (ldV a n) λo=>
 vK (am 0 e) λp=>
 vK (ldV a p) λq=>
 vK (ag .i .neq o q) λf=>
 vK (gV f true (am 5 d)) λr=>
 vK (gV f true (ldV a r)) λs=>
 vK (gV f true (some s)) λl=>
 vK (gV l false (am 5 e)) λt=>
 vK (gV l false (ldV a t)) λu=>
 vK (gV f true (az l (.bool true) u)) λv=>
 vK (az f v (.bool false)) λg=>
 vK (gV g true (aH 6 a d)) λw=>
 vK (gV g true (aH 6 a e)) λx=>
 gK g true (λy=>ae prog sQ #[w,x] a y) a λz j=>
 vK (az g z (.bool false)) λb=>
 vK (gV b true (am 1 d)) λaa=>
 vK (gV b true (ldV j aa)) λab=>
 vK (gV b true (am 1 e)) λac=>
 vK (gV b true (ldV j ac)) λad=>
 gK b true (λah=>ae prog oL #[ab,ad] j ah) j λai k=>
 vK (gV b true (unV .not ai)) λaj=>
 vK (az b aj (.bool false)) λc=>
 vK (gV c true (am 1 e)) λak=>
 vK (gV c true (ldV k ak)) λal=>
 vK (gV c true (am 1 d)) λan=>
 vK (gV c true (ldV k an)) λao=>
 gK c true (λap=>ae prog oL #[al,ao] k ap) k λaq ar=>
 vK (gV c true (unV .not aq)) λau=>
 vK (az c au (.bool false)) λav=>
 R av ar
theorem Ia (H:yd a0 a1 h R):ae prog oG #[a0,a1] h R:=fk f56 (.s .z (.s .z .z)) H
def AY (a0 a1 a2 a3:Value)(h:af)(R:Value→af→Prop):Prop:=
 vK (ag .i .lss a3 (.int .i64 1)) λb=>
 vK (gV b false (some a3)) λf=>
 vK (gV b false (ag .i .gtr f (.int .i64 65535))) λg=>
 vK (az b (.bool true) g) λa=>
 vK (gV a false (some a2)) λj=>
 vK (gV a false (ag .i .neq j (.int .i64 1))) λk=>
 vK (gV a false (some k)) λc=>
 vK (gV c true (some a2)) λl=>
 vK (gV c true (ag .i .neq l (.int .i64 3))) λm=>
 vK (gV a false (az c m (.bool false))) λn=>
 vK (az a (.bool true) n) λo=>
 aA o (
 R (.tuple #[(.pointer none),(.int .i64 2)]) h) (
 ae prog ku #[a0,a1,a2] h λp d=>
 vK (unV .not p) λq=>
 aA q (
 R (.tuple #[(.pointer none),(.int .i64 5)]) d) (
 vK (ag .i .mul a0 a1) λr=>
 vK (ag .i .mul r a2) λe=>
 mkK (.int .u16 0) 22 1 2 e e d λs t=>
 vK ((aF #[(.int .i64 0),(.int .i64 0),(.int .i64 0),(.int .i64 0),(.slice none 0 0)] [(0,1,a0),(1,1,a1),(2,1,a2),(3,1,a3),(4,1,s)]).map .agg) λu=>
 aP (Value.cells u) 110 t λv w=>
 R (.tuple #[v,(.int .i64 0)]) w))
theorem KE (H:AY a0 a1 a2 a3 h R):ae prog gx #[a0,a1,a2,a3] h R:=fk f59 (.s .z (.s (.s .z (.s (.s .z .z) (.s .z (.s (.s .z .z) .z)))) (.s .z .z))) H
def gW (a0:Value)(h:af)(R:Value→af→Prop):Prop:=
 dK (λc=>
 vK (aq a0) λe=>
 vK (ag .i .lss e (.int .i64 1)) λf=>
 aA f (
 Ji h λs g=>
 c [] g) (
 c [] h))
 λt u d=>
 vK (aR 1 a0 (.int .i64 0)) λj=>
 vK (ldV d j) λk=>
 aU [k,(.int .i64 1)] d λa v b l=>
 vK (aq a0) λm=>
 vK (ag .i .lss (ix a 1) m) λn=>
 aA n (
 vK (aR 1 a0 (ix a 1)) λo=>
 vK (ldV b o) λp=>
 vK (ia (ix a 0) p) λq=>
 vK (ag .i .add (ix a 1) (.int .i64 1)) λr=>
 l [q,r] b) (
 R (ix a 0) b)
theorem nE (H:gW a0 h R):ae prog eZ #[a0] h R:=fk f60 (.s .z (.j 480 [] (.s .z (.s .z .z)) (.s .z (.s (.s .z (.l 16773144 [3,4] (.s (.s .z (.s .z .z)) (.s .z .z)))) (.s .z .z))))) H
def K9 (a0:Value)(h:af)(R:Value→af→Prop):Prop:=
 aP (Value.cells a0) 31 h λb c=>
 vK (am 0 b) λm=>
 vK (ldV c m) λn=>
 vK (ag .i .lss n (.int .i64 0)) λg=>
 vK (gV g false (am 0 b)) λo=>
 vK (gV g false (ldV c o)) λp=>
 vK (gV g false (ag .i .geq p (.int .i64 4))) λq=>
 vK (az g (.bool true) q) λd=>
 vK (gV d false (am 1 b)) λr=>
 vK (gV d false (ldV c r)) λt=>
 gK d false (λu=>ae prog oM #[t] c u) c λv e=>
 vK (gV d false (ag .s .eql v (.string ⟨#[]⟩))) λw=>
 vK (az d (.bool true) w) λx=>
 aA x (
 R (.bool false) e) (
 vK (am 0 b) λy=>
 vK (ldV e y) λz=>
 vK (ag .i .neq z (.int .i64 3)) λa=>
 vK (gV a false (am 7 b)) λaa=>
 vK (gV a false (ldV e aa)) λab=>
 gK a false (λac=>ae prog ru #[ab] e ac) e λad k=>
 vK (gV a false (some ad)) λj=>
 vK (gV j true (am 8 b)) λah=>
 vK (gV j true (ldV k ah)) λai=>
 gK j true (λaj=>ae prog ru #[ai] k aj) k λak l=>
 vK (gV a false (az j ak (.bool false))) λal=>
 vK (gV a false (some al)) λf=>
 vK (gV f true (am 6 b)) λan=>
 vK (gV f true (ldV l an)) λao=>
 gK f true (λap=>ae prog wQ #[ao] l ap) l λaq ar=>
 vK (gV f true (ag .s .neq aq (.string ⟨#[]⟩))) λau=>
 vK (gV a false (az f au (.bool false))) λav=>
 vK (az a (.bool true) av) λaw=>
 R aw ar)
theorem Sq (H:K9 a0 h R):ae prog JY #[a0] h R:=fk f61 (.s .z (.s (.s .z (.s (.s .z .z) .z)) (.s .z .z))) H
def GV (a0:Value)(h:af)(R:Value→af→Prop):Prop:=
 vK (ag .i .geq a0 (.int .i64 1)) λa=>
 vK (gV a true (some a0)) λb=>
 vK (gV a true (ag .i .leq b (.int .i64 65536))) λc=>
 vK (az a c (.bool false)) λd=>
 R d h
theorem Qg (H:GV a0 h R):ae prog ru #[a0] h R:=fk f62 (.s .z (.s .z .z)) H
def C7 (a0 a1 a2:Value)(h:af)(R:Value→af→Prop):Prop:=
 aP (Value.cells a0) 31 h λa b=>
 vK (am 0 a) λr=>
 vK (ldV b r) λs=>
 vK (ag .i .eql s (.int .i64 3)) λt=>
 aA t (
 vK (am 6 a) λu=>
 vK (ldV b u) λv=>
 vK (am 7 a) λw=>
 vK (ldV b w) λx=>
 ae prog jC #[v,a1,x] b λe c=>
 vK (aE e 0) λf=>
 vK (aE e 1) λg=>
 vK (ag .i .eql g (.int .i64 0)) λy=>
 aA y (
 vK (am 6 a) λz=>
 vK (ldV c z) λaa=>
 vK (am 8 a) λab=>
 vK (ldV c ab) λac=>
 ae prog jC #[aa,a2,ac] c λj ad=>
 vK (aE j 0) λah=>
 vK (aE j 1) λai=>
 R (.tuple #[f,ah,ai]) ad) (
 R (.tuple #[f,(.pointer none),g]) c)) (
 vK (aH 9 b a) λaj=>
 ae prog wT #[aj] b λd k=>
 vK (aE d 0) λak=>
 vK (aE d 1) λal=>
 vK (aE d 2) λl=>
 vK (ag .i .neq l (.int .i64 0)) λan=>
 aA an (
 R (.tuple #[(.pointer none),(.pointer none),l]) k) (
 ae prog ml #[ak,a1] k λm n=>
 vK (aE m 0) λo=>
 vK (aE m 1) λp=>
 vK (ag .i .eql p (.int .i64 0)) λao=>
 aA ao (
 ae prog ml #[al,a2] n λq ap=>
 vK (aE q 0) λaq=>
 vK (aE q 1) λar=>
 R (.tuple #[o,aq,ar]) ap) (
 R (.tuple #[o,(.pointer none),p]) n)))
theorem MN (H:C7 a0 a1 a2 h R):ae prog zO #[a0,a1,a2] h R:=fk f63 (.s .z (.s (.s .z (.s (.s (.s .z (.s .z (.s .z .z))) (.s .z .z)) .z)) (.s .z (.s (.s .z (.s (.s .z .z) .z)) (.s (.s .z (.s .z (.s .z .z))) (.s .z .z)))))) H
def Az (h:af)(R:Value→af→Prop):Prop:=
 vK ((aF #[(.int .i64 0),(.slice none 0 0),(.pointer none),(.int .i64 0)] []).map .agg) λa=>
 aP (Value.cells a) 182 h λb c=>
 R b c
theorem Ke (H:Az h R):ae prog mc #[] h R:=fk f64 (.s .z (.s .z .z)) H
def C4 (a0:Value)(h:af)(R:Value→af→Prop):Prop:=
 vK (ia (.int .i64 1) a0) λa=>
 vK (pF a (.int .i64 4096)) λb=>
 vK ((aF #[(.int .i64 0),(.slice none 0 0),(.bool false)] [(0,1,b)]).map .agg) λc=>
 aP (Value.cells c) 215 h λd e=>
 R d e
theorem MK (H:C4 a0 h R):ae prog lz #[a0] h R:=fk f65 (.s .z (.s .z .z)) H
def yl (h:af)(R:Value→af→Prop):Prop:=
 ae prog gx #[(.int .i64 3),(.int .i64 1),(.int .i64 1),(.int .i64 255)] h λl w=>
 vK (aE l 0) λx=>
 vK (aE l 1) λy=>
 vK ((aF #[(.int .i64 0),(.int .i64 0),(.int .i64 0),(.int .i64 0),(.slice none 0 0),(.slice none 0 0),(.int .i64 0),(.int .i64 0),(.int .i64 0)] [(0,1,(.int .i64 1)),(3,1,(.int .i64 1))]).map .agg) λz=>
 ae prog lB #[z,(.int .i64 3),(.int .i64 1)] w λm aa=>
 vK (aE m 0) λab=>
 vK (aE m 1) λac=>
 aP #[(.pointer none),(.pointer none),(.int .i64 0)] 81 aa λn ad=>
 stK 3 n ab ad λbl ah=>
 ae prog gx #[(.int .i64 3),(.int .i64 1),(.int .i64 1),(.int .i64 255)] ah λo ai=>
 vK (aE o 0) λaj=>
 vK (aE o 1) λak=>
 ae prog uM #[] ai λal q=>
 vK (unV .not al) λc=>
 gK c false (λam=>ae prog uL #[] q am) q λan d=>
 vK (gV c false (unV .not an)) λao=>
 vK (az c (.bool true) ao) λe=>
 vK (gV e false (some y)) λap=>
 vK (gV e false (ag .i .neq ap (.int .i64 0))) λaq=>
 vK (az e (.bool true) aq) λf=>
 vK (gV f false (some ac)) λar=>
 vK (gV f false (ag .i .neq ar (.int .i64 0))) λau=>
 vK (az f (.bool true) au) λg=>
 vK (gV g false (some ak)) λav=>
 vK (gV g false (ag .i .neq av (.int .i64 0))) λaw=>
 vK (az g (.bool true) aw) λax=>
 aA ax (
 R (.bool false) d) (
 vK (aH 3 d n) λay=>
 vK ((aF #[(.int .i64 0),(.int .i64 0),(.int .i64 0),(.int .i64 0)] [(2,1,(.int .i64 3)),(3,1,(.int .i64 1))]).map .agg) λa0=>
 vK ((aF #[(.int .i64 0),(.int .i64 0),(.int .i64 0),(.int .i64 0),(.int .i64 0),(.int .i64 0),(.int .i64 0),(.int .i64 0),(.int .i64 0),(.int .i64 0)] [(1,4,a0)]).map .agg) λa1=>
 ae prog me #[x,aj,ay,a1] d λr s=>
 vK (aE r 0) λb=>
 vK (aE r 1) λa2=>
 vK (ag .i .neq a2 (.int .i64 0)) λj=>
 vK (gV j false (some b)) λa3=>
 vK (gV j false (ag .p .eql a3 (.pointer none))) λa4=>
 vK (az j (.bool true) a4) λa5=>
 aA a5 (
 R (.bool false) s) (
 aU [(.int .i64 (-1))] s λk bm t a6=>
 vK (ag .i .lss (ix k 0) (.int .i64 2)) λa7=>
 aA a7 (
 ae prog fh #[b] t λa8 u=>
 vK ((aF #[(.int .i64 0),(.int .i64 0)] [(0,1,(.int .i64 1)),(1,1,(ix k 0))]).map .agg) λa9=>
 vK (ag (.st [(0,1,.i),(1,1,.i)]) .neq a8 a9) λba=>
 aA ba (
 R (.bool false) u) (
 vK (ag .i .add (ix k 0) (.int .i64 1)) λbb=>
 a6 [bb] u)) (
 ae prog fh #[b] t λbc v=>
 vK ((aF #[(.int .i64 0),(.int .i64 0)] [(0,1,(.int .i64 2))]).map .agg) λbd=>
 vK (ag (.st [(0,1,.i),(1,1,.i)]) .eql bc bd) λa=>
 vK (gV a true (some b)) λbe=>
 gK a true (λbf=>ae prog fh #[be] v bf) v λbg bh=>
 vK (gV a true ((aF #[(.int .i64 0),(.int .i64 0)] []).map .agg)) λbi=>
 vK (gV a true (ag (.st [(0,1,.i),(1,1,.i)]) .eql bg bi)) λbj=>
 vK (az a bj (.bool false)) λbk=>
 R bk bh)))
theorem Ih (H:yl h R):ae prog uK #[] h R:=fk f66 (.s .z (.s .z (.s .z (.s .z (.s (.s .z (.s (.s .z .z) .z)) (.s .z (.s (.s .z (.s (.s .z .z) .z)) (.s (.s .z (.l 36821430553381175809 [9] (.s (.s .z (.s .z .z)) (.s (.s .z (.s (.s .z .z) .z)) .z)))) (.s .z .z))))))))) H
def mP (a0 a1 a2:Value)(h:af)(R:Value→af→Prop):Prop:=
 aP #[(.int .i64 0),(.int .i64 0),(.int .i64 0),(.int .i64 0)] 148 h λb c=>
 vK (aK a0) λp=>
 vK (am 0 p) λq=>
 vK (ldV c q) λe=>
 vK (ag .i .eql e (.int .i64 1)) λr=>
 aA r (
 vK (aK a0) λs=>
 vK (am 2 s) λt=>
 vK (ldV c t) λu=>
 ae prog fh #[u] c λv w=>
 aP #[(.int .i64 0),(.int .i64 0)] 146 w λf x=>
 stK 2 f v x λbc y=>
 ae prog cZ #[a0] y λbd a=>
 bC a λS=>
 vK (aK a0) λz=>
 vK (am 1 z) λaa=>
 qK S (λa=>ldV a aa) λab=>
 vK (aK a0) λac=>
 vK (am 1 ac) λad=>
 qK S (λa=>ldV a ad) λah=>
 qK S (λa=>aq ah) λai=>
 vK (ag .i .sub ai (.int .i64 1)) λaj=>
 vK (aR 1 ab aj) λak=>
 qK S (λa=>ldV a ak) λal=>
 qK S (λa=>aH 2 a f) λan=>
 vK ((aF #[(.int .i64 0),(.int .i64 0),(.int .i64 0),(.int .i64 0)] [(0,1,(.int .i64 2)),(1,1,al),(2,2,an)]).map .agg) λao=>
 stK 4 b ao a λbe g=>
 vK (aH 4 g b) λap=>
 R ap g) (
 vK (ag .i .eql e (.int .i64 2)) λar=>
 aA ar (
 vK ((aF #[(.int .i64 0),(.int .i64 0),(.int .i64 0),(.int .i64 0)] []).map .agg) λau=>
 stK 4 b au c λbf j=>
 vK (aH 4 j b) λav=>
 R av j) (
 ae prog jd #[a1] c λk d=>
 vK (aE k 0) λaw=>
 vK (aE k 1) λl=>
 vK (ag .i .eql l (.int .i64 0)) λax=>
 aA ax (
 ae prog jA #[a0,aw,a2] d λay az=>
 stK 4 b ay az λbg m=>
 vK (aH 4 m b) λa3=>
 R a3 m) (
 vK (ag .i .eql l (.int .i64 2)) λa4=>
 aA a4 (
 vK (aK a0) λa5=>
 vK (am 0 a5) λa6=>
 stK 1 a6 (.int .i64 2) d λbh a7=>
 vK ((aF #[(.int .i64 0),(.int .i64 0),(.int .i64 0),(.int .i64 0)] [(0,1,(.int .i64 3))]).map .agg) λa8=>
 stK 4 b a8 a7 λbi n=>
 vK (aH 4 n b) λa9=>
 R a9 n) (
 vK ((aF #[(.int .i64 0),(.int .i64 0),(.int .i64 0),(.int .i64 0)] []).map .agg) λba=>
 stK 4 b ba d λbj o=>
 vK (aH 4 o b) λbb=>
 R bb o))))
theorem xE (H:mP a0 a1 a2 h R):ae prog ce #[a0,a1,a2] h R:=fk f67 (.s .z (.s (.s .z (.s .z (.s (.s .z (.s .z (.s (.d (.op 0 .r (.op 1 .r (.op 2 .r (.op 3 .r (.op 4 .r (.op 5 .r (.op 6 .r (.op 7 .r (.op 8 .r (.op 9 .r (.op 10 .r (.op 11 .r (.op 12 .r (.op 13 .r (.op 14 .n .nil)))))))))))))))) .z))) (.s .z (.s (.s .z .z) .z))))) (.s .z (.s (.s .z (.s .z (.s (.s .z .z) (.s .z (.s (.s .z (.s .z .z)) .z))))) (.s .z .z))))) H
def jV (a0 a1:Value)(h:af)(R:Value→af→Prop):Prop:=
 vK (aK a0) λb=>
 vK (am 0 b) λc=>
 vK (ldV h c) λa=>
 vK (ag .i .eql a (.int .i64 0)) λd=>
 aA d (
 ae prog gJ #[a1] h λe f=>
 R e f) (
 vK (ag .i .eql a (.int .i64 1)) λg=>
 aA g (
 R (.bool true) h) (
 R (.bool false) h))
theorem sY (H:jV a0 a1 h R):ae prog dt #[a0,a1] h R:=fk f68 (.s .z (.s (.s .z (.s .z (.s (.s .z .z) (.s .z (.s (.s .z .z) .z))))) (.s .z .z))) H
def oU (a0:Value)(h:af)(R:Value→af→Prop):Prop:=
 vK (aK a0) λa=>
 vK (am 2 a) λb=>
 vK (ldV h b) λc=>
 vK (aK a0) λd=>
 vK (am 2 d) λe=>
 stK 1 e (.bool true) h λi f=>
 vK (unV .not c) λg=>
 R g f
theorem yP (H:oU a0 h R):ae prog gR #[a0] h R:=fk f69 (.s .z (.s .z (.s .z (.s .z .z)))) H
def lJ (a0:Value)(h:af)(R:Value→af→Prop):Prop:=
 vK (aK a0) λa=>
 vK (am 0 a) λb=>
 vK (ldV h b) λc=>
 R c h
theorem wg (H:lJ a0 h R):ae prog jc #[a0] h R:=fk f70 (.s .z (.s .z .z)) H
def xr (a0 a1:Value)(h:af)(R:Value→af→Prop):Prop:=
 aP (Value.cells a1) 81 h λc d=>
 vK (am 0 c) λm=>
 vK (ldV d m) λn=>
 vK (ag .p .neq n (.pointer none)) λf=>
 vK (gV f true (am 1 c)) λo=>
 vK (gV f true (ldV d o)) λq=>
 vK (gV f true (ag .p .neq q (.pointer none))) λr=>
 vK (az f r (.bool false)) λa=>
 vK (gV a true (am 0 c)) λt=>
 vK (gV a true (ldV d t)) λu=>
 gK a true (λv=>ae prog eG #[u] d v) d λw k=>
 vK (gV a true (some a0)) λx=>
 gK a true (λy=>ae prog bD #[x] k y) k λz g=>
 vK (gV a true (ag .i .eql w z)) λaa=>
 vK (az a aa (.bool false)) λb=>
 vK (gV b true (am 1 c)) λab=>
 vK (gV b true (ldV g ab)) λac=>
 gK b true (λad=>ae prog eG #[ac] g ad) g λah l=>
 vK (gV b true (some a0)) λai=>
 gK b true (λaj=>ae prog bF #[ai] l aj) l λak j=>
 vK (gV b true (ag .i .eql ah ak)) λal=>
 vK (az b al (.bool false)) λe=>
 vK (gV e true (am 2 c)) λan=>
 vK (gV e true (ldV j an)) λao=>
 gK e true (λap=>ae prog oM #[ao] j ap) j λaq ar=>
 vK (gV e true (ag .s .neq aq (.string ⟨#[]⟩))) λau=>
 vK (az e au (.bool false)) λav=>
 R av ar
theorem Gm (H:xr a0 a1 h R):ae prog iq #[a0,a1] h R:=fk f71 (.s .z (.s .z .z)) H
def tm (a0:Value)(h:af)(R:Value→af→Prop):Prop:=
 vK (aK a0) λa=>
 vK (am 1 a) λb=>
 vK (ldV h b) λc=>
 vK (aq c) λd=>
 R d h
theorem Dq (H:tm a0 h R):ae prog bB #[a0] h R:=fk f72 (.s .z (.s .z .z)) H
def oS (a0:Value)(h:af)(R:Value→af→Prop):Prop:=
 vK (aK a0) λa=>
 vK (am 3 a) λb=>
 vK (ldV h b) λc=>
 R c h
theorem yN (H:oS a0 h R):ae prog cJ #[a0] h R:=fk f73 (.s .z (.s .z .z)) H
def Fv (a0 a1 a2:Value)(h:af)(R:Value→af→Prop):Prop:=
 aP (Value.cells a0) 81 h λd a=>
 vK (am 0 d) λg=>
 vK (ldV a g) λi=>
 vK (ag .p .eql i (.pointer none)) λb=>
 vK (gV b false (am 1 d)) λj=>
 vK (gV b false (ldV a j)) λk=>
 vK (gV b false (ag .p .eql k (.pointer none))) λl=>
 vK (az b (.bool true) l) λm=>
 aA m (
 R (.tuple #[(.pointer none),(.int .i64 6)]) a) (
 ae prog ui #[a1] a λn f=>
 vK (unV .not n) λc=>
 vK (gV c false (some a2)) λo=>
 gK c false (λq=>ae prog ui #[o] f q) f λr e=>
 vK (gV c false (unV .not r)) λs=>
 vK (az c (.bool true) s) λt=>
 aA t (
 R (.tuple #[(.pointer none),(.int .i64 9)]) e) (
 vK (aH 3 e d) λu=>
 vK ((aF #[(.pointer none),(.pointer none),(.int .i64 0),(.int .i64 0),(.int .i64 0)] [(0,3,u),(3,1,a1),(4,1,a2)]).map .agg) λv=>
 aP (Value.cells v) 184 e λw x=>
 R (.tuple #[w,(.int .i64 0)]) x))
theorem Oo (H:Fv a0 a1 a2 h R):ae prog wS #[a0,a1,a2] h R:=fk f74 (.s .z (.s (.s .z (.s (.s .z .z) (.s .z (.s (.s .z .z) .z)))) (.s .z .z))) H
def Dd (a0:Value)(h:af)(R:Value→af→Prop):Prop:=
 vK (ia (.int .i64 1) a0) λj=>
 vK (pF j (.int .i64 512)) λc=>
 mkK (.slice none 0 0) 104 1 24 c c h λk l=>
 vK ((aF #[(.slice none 0 0)] [(0,1,k)]).map .agg) λm=>
 aP (Value.cells m) 226 l λd f=>
 vK (aK d) λn=>
 vK (am 0 n) λo=>
 vK (ldV f o) λp=>
 vK (aq p) λq=>
 aU [(.int .i64 0)] f λa ai b r=>
 vK (ag .i .lss (ix a 0) q) λs=>
 aA s (
 bC b λS=>
 vK (aK d) λt=>
 vK (am 0 t) λu=>
 qK S (λb=>ldV b u) λv=>
 mkK (.int .i64 0) 3 1 8 c c b λw g=>
 S g∧(vK (aR 1 v (ix a 0)) λx=>
 stK 1 x w g λaj e=>
 vK (aK d) λy=>
 vK (am 0 y) λz=>
 vK (ldV e z) λaa=>
 vK (aR 1 aa (ix a 0)) λab=>
 vK (ldV e ab) λac=>
 vK (aR 1 ac (ix a 0)) λad=>
 stK 1 ad (.int .i64 1) e λak ae=>
 vK (ag .i .add (ix a 0) (.int .i64 1)) λah=>
 r [ah] ae)) (
 R d b)
theorem MT (H:Dd a0 h R):ae prog lC #[a0] h R:=fk f75 (.s .z (.s .z (.s .z (.s (.s .z (.l 274877775888 [17] (.s .z (.s (.s .z .z) (.s (.s .z (.s (.d (.op 0 .r (.op 1 .r (.op 2 .r (.op 3 .r (.op 4 .r (.op 5 .r (.op 6 .e (.op 7 .r (.op 8 .n .nil)))))))))) .z)) .z))))) (.s .z .z))))) H
def tH (a0 a1 a2 a3 a4 a5:Value)(h:af)(R:Value→af→Prop):Prop:=
 bC h λS=>
 vK (aK a0) λa=>
 vK (am 5 a) λb=>
 vK (aK a0) λc=>
 vK (am 4 c) λd=>
 qK S (λh=>ldV h d) λe=>
 vK (ag .i .add a3 a4) λf=>
 ae prog js #[e,a1] h λg j=>
 vK ((aF #[(.int .i64 0),(.slice none 0 0),(.int .i64 0),(.int .i64 0),(.int .i64 0),(.bool false)] [(0,1,a1),(1,1,g),(2,1,a2),(3,1,a3),(4,1,f),(5,1,a5)]).map .agg) λk=>
 ae prog kg #[b,k] j λm l=>
 R (.tuple #[]) l
theorem DA (H:tH a0 a1 a2 a3 a4 a5 h R):ae prog db #[a0,a1,a2,a3,a4,a5] h R:=fk f76 (.d (.op 0 .r (.op 1 .r (.op 2 .r (.op 3 .r (.op 4 .r (.op 5 .r (.op 6 .r (.op 7 .r (.op 8 .r (.op 10 .r (.op 11 .r (.op 12 .r (.op 13 .r (.op 14 .r (.op 15 .r (.op 9 .n (.op 16 .r (.op 17 .n .nil))))))))))))))))))) H
def C5 (a0:Value)(h:af)(R:Value→af→Prop):Prop:=
 ae prog bD #[a0] h λa b=>
 ae prog bF #[a0] b λc d=>
 vK (ag .i .mul a c) λe=>
 ae prog aO #[a0] d λf g=>
 vK (ag .i .mul e f) λj=>
 R j g
theorem ML (H:C5 a0 h R):ae prog pU #[a0] h R:=fk f77 (.s .z (.s .z .z)) H
def oT (a0:Value)(h:af)(R:Value→af→Prop):Prop:=
 bC h λS=>
 vK (aK a0) λb=>
 vK (am 0 b) λc=>
 qK S (λh=>ldV h c) λd=>
 vK (aK a0) λe=>
 vK (am 1 e) λf=>
 qK S (λh=>ldV h f) λg=>
 vK (aK a0) λi=>
 vK (am 2 i) λj=>
 qK S (λh=>ldV h j) λk=>
 vK (aK a0) λl=>
 vK (am 3 l) λm=>
 qK S (λh=>ldV h m) λn=>
 vK (aK a0) λo=>
 vK (am 4 o) λp=>
 qK S (λh=>ldV h p) λq=>
 ae prog cQ #[q] h λr a=>
 S a∧(vK ((aF #[(.int .i64 0),(.int .i64 0),(.int .i64 0),(.int .i64 0),(.slice none 0 0)] [(0,1,d),(1,1,g),(2,1,k),(3,1,n),(4,1,r)]).map .agg) λs=>
 aP (Value.cells s) 110 a λt u=>
 R t u)
theorem yO (H:oT a0 h R):ae prog ke #[a0] h R:=fk f78 (.s .z (.s (.d (.op 0 .r (.op 1 .r (.op 2 .r (.op 3 .r (.op 4 .r (.op 5 .r (.op 6 .r (.op 7 .r (.op 8 .r (.op 9 .r (.op 10 .r (.op 11 .r (.op 12 .r (.op 13 .r (.op 14 .r (.op 15 .r (.op 16 .r (.op 17 .r (.op 18 .r (.op 19 .r (.op 20 .e (.op 21 .r (.op 22 .n (.op 23 .r .nil))))))))))))))))))))))))) .z)) H
def mQ (a0 a1 a2 a3:Value)(h:af)(R:Value→af→Prop):Prop:=
 vK (ag .i .lss a1 (.int .i64 0)) λa=>
 vK (gV a false (some a1)) λf=>
 vK (gV a false (some a0)) λg=>
 vK (gV a false (aK g)) λj=>
 vK (gV a false (am 0 j)) λk=>
 vK (gV a false (ldV h k)) λl=>
 vK (gV a false (ag .i .geq f l)) λm=>
 vK (az a (.bool true) m) λd=>
 vK (gV d false (some a2)) λn=>
 vK (gV d false (ag .i .lss n (.int .i64 0))) λo=>
 vK (az d (.bool true) o) λb=>
 vK (gV b false (some a2)) λp=>
 vK (gV b false (some a0)) λq=>
 vK (gV b false (aK q)) λr=>
 vK (gV b false (am 1 r)) λs=>
 vK (gV b false (ldV h s)) λt=>
 vK (gV b false (ag .i .geq p t)) λu=>
 vK (az b (.bool true) u) λe=>
 vK (gV e false (some a3)) λv=>
 vK (gV e false (ag .i .lss v (.int .i64 0))) λw=>
 vK (az e (.bool true) w) λc=>
 vK (gV c false (some a3)) λx=>
 vK (gV c false (some a0)) λy=>
 vK (gV c false (aK y)) λz=>
 vK (gV c false (am 2 z)) λaa=>
 vK (gV c false (ldV h aa)) λab=>
 vK (gV c false (ag .i .geq x ab)) λac=>
 vK (az c (.bool true) ac) λad=>
 aA ad (
 R (.int .i64 (-1)) h) (
 vK (aK a0) λae=>
 vK (am 0 ae) λah=>
 vK (ldV h ah) λai=>
 vK (ag .i .mul a2 ai) λaj=>
 vK (ag .i .add aj a1) λak=>
 vK (aK a0) λal=>
 vK (am 2 al) λan=>
 vK (ldV h an) λao=>
 vK (ag .i .mul ak ao) λap=>
 vK (ag .i .add ap a3) λaq=>
 R aq h)
theorem xF (H:mQ a0 a1 a2 a3 h R):ae prog gy #[a0,a1,a2,a3] h R:=fk f79 (.s .z (.s (.s .z (.s (.s .z .z) .z)) (.s .z .z))) H
def A7 (a0 a1 a2 a3 a4:Value)(h:af)(R:Value→af→Prop):Prop:=
 vK (ag .i .rem a0 (.int .u16 20)) λn=>
 vK (eS .i64 n) λo=>
 vK (ag .i .add (.int .i64 1) o) λd=>
 vK (ag .i .rem a1 (.int .u16 20)) λp=>
 vK (eS .i64 p) λq=>
 vK (ag .i .add (.int .i64 1) q) λe=>
 vK (ag .i .rem a2 (.int .u16 2)) λr=>
 vK (eS .i64 r) λs=>
 vK (ag .i .mul (.int .i64 2) s) λt=>
 vK (ag .i .add (.int .i64 1) t) λf=>
 vK (eS .i64 a3) λu=>
 vK (ag .i .rem u (.int .i64 65535)) λv=>
 vK (ag .i .add (.int .i64 1) v) λg=>
 vK (ag .i .mul d e) λw=>
 vK (ag .i .mul w f) λj=>
 mkK (.int .u16 0) 22 1 2 j j h λc x=>
 vK (aq c) λy=>
 aU [(.int .i64 0)] x λb a5 a k=>
 vK (ag .i .lss (ix b 0) y) λz=>
 aA z (
 vK (aq a4) λaa=>
 vK (ag .i .gtr aa (.int .i64 0)) λab=>
 aA ab (
 bC a λS=>
 qK S (λa=>aq a4) λac=>
 vK (ag .i .rem (ix b 0) ac) λad=>
 vK (aR 1 a4 ad) λah=>
 qK S (λa=>ldV a ah) λai=>
 vK (eS .i64 ai) λaj=>
 qK S (λa=>aq a4) λak=>
 vK (ag .i .quo (ix b 0) ak) λal=>
 vK (ag .i .add aj al) λam=>
 vK (ag .i .add g (.int .i64 1)) λan=>
 vK (ag .i .rem am an) λao=>
 vK (eS .u16 ao) λap=>
 vK (aR 1 c (ix b 0)) λar=>
 stK 1 ar ap a λa6 au=>
 vK (ag .i .add (ix b 0) (.int .i64 1)) λav=>
 k [av] au) (
 vK (ag .i .add (ix b 0) (.int .i64 1)) λaw=>
 k [aw] a)) (
 ae prog pT #[d,e,f,g,c] a λl m=>
 vK (aE l 0) λax=>
 vK (aE l 1) λay=>
 vK (ag .i .neq ay (.int .i64 0)) λaz=>
 aA az (
 R (.pointer none) m) (
 R ax m))
theorem KJ (H:A7 a0 a1 a2 a3 a4 h R):ae prog wW #[a0,a1,a2,a3,a4] h R:=fk f80 (.s .z (.s .z (.s .z (.s .z (.s (.s .z (.l 2361183223842636627968 [44] (.s .z (.s (.s .z .z) (.s (.s .z (.s .z (.s (.d (.op 0 .r (.op 1 .r (.op 2 .r (.op 3 .r (.op 4 .r (.op 5 .r (.op 6 .r (.op 7 .r (.op 8 .r (.op 9 .r (.op 10 .r (.op 11 .r (.op 12 .r (.op 13 .r (.op 14 .r (.op 15 .r (.op 16 .r (.op 17 .r (.op 18 .r (.op 19 .r (.op 20 .n .nil)))))))))))))))))))))) .z))) .z))))) (.s .z (.s (.s .z (.s (.s .z .z) .z)) (.s .z .z)))))))) H
def xq (a0 a1:Value)(h:af)(R:Value→af→Prop):Prop:=
 vK (aq a0) λp=>
 aU [(.int .i64 0)] h λn bh o q=>
 vK (ag .i .lss (ix n 0) p) λr=>
 aA r (
 vK (aR 9 a0 (ix n 0)) λs=>
 vK (aH 9 o s) λt=>
 aP #[(.int .i64 0),(.int .i64 0),(.int .i64 0),(.int .i64 0),(.slice none 0 0),(.slice none 0 0),(.int .i64 0),(.int .i64 0),(.int .i64 0)] 31 o λb u=>
 stK 9 b t u λbi a=>
 vK (am 4 b) λv=>
 vK (ldV a v) λw=>
 vK (aq w) λx=>
 vK (ag .i .gtr x (.int .i64 40)) λg=>
 vK (gV g false (am 5 b)) λy=>
 vK (gV g false (ldV a y)) λz=>
 vK (gV g false (aq z)) λaa=>
 vK (gV g false (ag .i .gtr aa (.int .i64 40))) λab=>
 vK (az g (.bool true) ab) λe=>
 vK (gV e false (am 2 b)) λac=>
 vK (gV e false (ldV a ac)) λad=>
 vK (gV e false (ag .i .gtr ad (.int .i64 262144))) λae=>
 vK (gV e false (some ae)) λj=>
 vK (gV j true (am 2 b)) λah=>
 vK (gV j true (ldV a ah)) λai=>
 vK (gV j true (ag .i .leq ai (.int .i64 4194304))) λaj=>
 vK (gV e false (az j aj (.bool false))) λak=>
 vK (az e (.bool true) ak) λf=>
 vK (gV f false (am 3 b)) λal=>
 vK (gV f false (ldV a al)) λan=>
 vK (gV f false (ag .i .gtr an (.int .i64 20))) λao=>
 vK (gV f false (some ao)) λk=>
 vK (gV k true (am 3 b)) λap=>
 vK (gV k true (ldV a ap)) λar=>
 vK (gV k true (ag .i .lss ar (.int .i64 512))) λau=>
 vK (gV f false (az k au (.bool false))) λav=>
 vK (az f (.bool true) av) λc=>
 vK (gV c false (am 7 b)) λaw=>
 vK (gV c false (ldV a aw)) λax=>
 vK (gV c false (some a1)) λay=>
 vK (gV c false (ag .i .gtr ax ay)) λa2=>
 vK (gV c false (some a2)) λl=>
 vK (gV l true (am 7 b)) λa3=>
 vK (gV l true (ldV a a3)) λa4=>
 vK (gV l true (ag .i .leq a4 (.int .i64 65536))) λa5=>
 vK (gV c false (az l a5 (.bool false))) λa6=>
 vK (az c (.bool true) a6) λd=>
 vK (gV d false (am 8 b)) λa7=>
 vK (gV d false (ldV a a7)) λa8=>
 vK (gV d false (some a1)) λa9=>
 vK (gV d false (ag .i .gtr a8 a9)) λba=>
 vK (gV d false (some ba)) λm=>
 vK (gV m true (am 8 b)) λbb=>
 vK (gV m true (ldV a bb)) λbc=>
 vK (gV m true (ag .i .leq bc (.int .i64 65536))) λbd=>
 vK (gV d false (az m bd (.bool false))) λbe=>
 vK (az d (.bool true) be) λbf=>
 aA bf (
 R (.bool false) a) (
 vK (ag .i .add (ix n 0) (.int .i64 1)) λbg=>
 q [bg] a)) (
 R (.bool true) o)
theorem Gl (H:xq a0 a1 h R):ae prog sT #[a0,a1] h R:=fk f81 (.s .z (.s (.s .z (.l 73786976294838206032 [9] (.s .z (.s (.s .z .z) (.s (.s .z (.s .z (.s (.s .z .z) .z))) .z))))) (.s .z .z))) H
def La (a0 a1 a2 a3:Value)(h:af)(R:Value→af→Prop):Prop:=
 vK (aq a0) λp=>
 vK (ag .i .gtr p (.int .i64 16)) λq=>
 aA q (
 R (.tuple #[(.slice none 0 0),(.int .i64 6)]) h) (
 ae prog ku #[a1,a2,a3] h λr f=>
 vK (unV .not r) λs=>
 aA s (
 R (.tuple #[(.slice none 0 0),(.int .i64 5)]) f) (
 vK (aq a0) λt=>
 aU [a1,a2,(.slice none 0 0),(.int .i64 0)] f λa au b u=>
 vK (ag .i .lss (ix a 3) t) λv=>
 aA v (
 vK (aR 9 a0 (ix a 3)) λw=>
 vK (aH 9 b w) λx=>
 aP #[(.int .i64 0),(.int .i64 0),(.int .i64 0),(.int .i64 0),(.slice none 0 0),(.slice none 0 0),(.int .i64 0),(.int .i64 0),(.int .i64 0)] 31 b λc y=>
 stK 9 c x y λav g=>
 vK (aH 9 g c) λz=>
 ae prog lB #[z,(ix a 0),(ix a 1)] g λj aa=>
 vK (aE j 0) λab=>
 vK (aE j 1) λk=>
 aP #[(.pointer none),(.pointer none),(.int .i64 0)] 81 aa λl ac=>
 stK 3 l ab ac λaw d=>
 vK (ag .i .neq k (.int .i64 0)) λad=>
 aA ad (
 R (.tuple #[(.slice none 0 0),k]) d) (
 vK (aH 9 d c) λah=>
 ae prog Fh #[ah,(ix a 0),(ix a 1)] d λm ai=>
 vK (aE m 0) λn=>
 vK (aE m 1) λo=>
 ae prog ku #[n,o,a3] ai λaj e=>
 vK (unV .not aj) λak=>
 aA ak (
 R (.tuple #[(.slice none 0 0),(.int .i64 5)]) e) (
 vK (aH 3 e l) λal=>
 cE #[(.pointer none),(.pointer none),(.int .i64 0)] 81 1 [(0,3,al)] e λam an=>
 cF (.agg #[.pointer none,.pointer none,.int .i64 0]) 81 3 24 (ix a 2) am an λao ap=>
 vK (ag .i .add (ix a 3) (.int .i64 1)) λar=>
 u [n,o,ao,ar] ap))) (
 R (.tuple #[(ix a 2),(.int .i64 0)]) b)))
theorem Sr (H:La a0 a1 a2 a3 h R):ae prog JZ #[a0,a1,a2,a3] h R:=fk f82 (.s .z (.s (.s .z (.s (.s .z .z) (.s .z (.s (.s .z .z) .z)))) (.s .z (.s (.s .z (.l 288230376017524486 [1,2,10,27] (.s .z (.s (.s .z .z) (.s (.s .z (.s .z (.s (.s .z (.s (.s .z .z) .z)) (.s (.s .z (.s .z (.s (.s .z .z) .z))) .z)))) .z))))) (.s .z .z))))) H
def CS (a0 a1 a2 a3:Value)(h:af)(R:Value→af→Prop):Prop:=
 vK (aq a0) λp=>
 vK (ag .i .gtr p (.int .i64 16)) λq=>
 aA q (
 R (.tuple #[(.slice none 0 0),(.int .i64 6)]) h) (
 ae prog q8 #[a1,a2,a3] h λr f=>
 vK (unV .not r) λs=>
 aA s (
 R (.tuple #[(.slice none 0 0),(.int .i64 5)]) f) (
 vK (aq a0) λt=>
 aU [a1,a2,(.slice none 0 0),(.int .i64 0)] f λa au b u=>
 vK (ag .i .lss (ix a 3) t) λv=>
 aA v (
 vK (aR 9 a0 (ix a 3)) λw=>
 vK (aH 9 b w) λx=>
 aP #[(.int .i64 0),(.int .i64 0),(.int .i64 0),(.int .i64 0),(.slice none 0 0),(.slice none 0 0),(.int .i64 0),(.int .i64 0),(.int .i64 0)] 232 b λc y=>
 stK 9 c x y λav g=>
 vK (aH 9 g c) λz=>
 ae prog wK #[z,(ix a 0),(ix a 1)] g λj aa=>
 vK (aE j 0) λab=>
 vK (aE j 1) λk=>
 aP #[(.slice none 0 0),(.slice none 0 0),(.int .i64 0),(.int .i64 0),(.int .i64 0)] 38 aa λl ac=>
 stK 5 l ab ac λaw d=>
 vK (ag .i .neq k (.int .i64 0)) λad=>
 aA ad (
 R (.tuple #[(.slice none 0 0),k]) d) (
 vK (aH 9 d c) λah=>
 ae prog wJ #[ah,(ix a 0),(ix a 1)] d λm ai=>
 vK (aE m 0) λn=>
 vK (aE m 1) λo=>
 ae prog q8 #[n,o,a3] ai λaj e=>
 vK (unV .not aj) λak=>
 aA ak (
 R (.tuple #[(.slice none 0 0),(.int .i64 5)]) e) (
 vK (aH 5 e l) λal=>
 cE #[(.slice none 0 0),(.slice none 0 0),(.int .i64 0),(.int .i64 0),(.int .i64 0)] 38 1 [(0,5,al)] e λam an=>
 cF (.agg #[.slice none 0 0,.slice none 0 0,.int .i64 0,.int .i64 0,.int .i64 0]) 38 5 72 (ix a 2) am an λao ap=>
 vK (ag .i .add (ix a 3) (.int .i64 1)) λar=>
 u [n,o,ao,ar] ap))) (
 R (.tuple #[(ix a 2),(.int .i64 0)]) b)))
theorem MB (H:CS a0 a1 a2 a3 h R):ae prog zH #[a0,a1,a2,a3] h R:=fk f83 (.s .z (.s (.s .z (.s (.s .z .z) .z)) (.s (.s .z (.s (.s .z .z) .z)) (.s .z (.s (.s .z (.l 72057594004403974 [1,2,10,25] (.s .z (.s (.s .z .z) (.s (.s .z (.s .z (.s (.s .z (.s (.s .z .z) .z)) (.s .z (.s (.s .z (.s (.s .z .z) .z)) .z))))) .z))))) (.s .z .z)))))) H
def A5 (a0:Value)(h:af)(R:Value→af→Prop):Prop:=
 vK (aq a0) λe=>
 aU [(.slice none 0 0),(.int .i64 0)] h λa u b f=>
 vK (ag .i .lss (ix a 1) e) λg=>
 aA g (
 vK (aR 9 a0 (ix a 1)) λj=>
 vK (aH 9 b j) λk=>
 aP #[(.int .i64 0),(.int .i64 0),(.int .i64 0),(.int .i64 0),(.slice none 0 0),(.slice none 0 0),(.int .i64 0),(.int .i64 0),(.int .i64 0)] 31 b λc l=>
 stK 9 c k l λv d=>
 vK (aH 9 d c) λm=>
 ae prog zP #[m] d λn o=>
 cE #[(.int .i64 0),(.int .i64 0),(.int .i64 0),(.int .i64 0),(.slice none 0 0),(.slice none 0 0),(.int .i64 0),(.int .i64 0),(.int .i64 0)] 232 1 [(0,9,n)] o λp q=>
 cF (.agg #[.int .i64 0,.int .i64 0,.int .i64 0,.int .i64 0,.slice none 0 0,.slice none 0 0,.int .i64 0,.int .i64 0,.int .i64 0]) 232 9 104 (ix a 0) p q λr s=>
 vK (ag .i .add (ix a 1) (.int .i64 1)) λt=>
 f [r,t] s) (
 R (ix a 0) b)
theorem KI (H:A5 a0 h R):ae prog wV #[a0] h R:=fk f84 (.s .z (.s .z (.s (.s .z (.l 261928 [3,8] (.s .z (.s (.s .z .z) (.s (.s .z .z) .z))))) (.s .z .z)))) H
def CR (a0 a1 a2:Value)(h:af)(R:Value→af→Prop):Prop:=
 aP (Value.cells a0) 38 h λc t=>
 aU [(.slice none 0 0),(.int .i64 0)] t λd cb j u=>
 vK (am 1 c) λv=>
 vK (ldV j v) λw=>
 vK (aq w) λx=>
 vK (ag .i .lss (ix d 1) x) λy=>
 aA y (
 aU [(ix d 0),(.int .i64 0)] j λa cc e z=>
 vK (am 0 c) λaa=>
 vK (ldV e aa) λab=>
 vK (aq ab) λac=>
 vK (ag .i .lss (ix a 1) ac) λad=>
 aA ad (
 vK (aq (ix a 0)) λah=>
 vK (am 1 c) λai=>
 vK (ldV e ai) λaj=>
 ae prog wI #[aj] e λak al=>
 vK ((aF #[(.int .i64 0),(.int .i64 0),(.int .i64 0),(.int .i64 0),(.int .i64 0),(.int .i64 0),(.int .i64 0),(.int .i64 0),(.int .i64 0),(.int .i64 0)] [(0,1,ah),(1,1,(ix a 1)),(2,1,(ix d 1)),(3,1,a1),(4,1,a2),(9,1,ak)]).map .agg) λan=>
 aP #[(.int .i64 0),(.int .i64 0),(.int .i64 0),(.int .i64 0),(.int .i64 0),(.int .i64 0),(.int .i64 0),(.int .i64 0),(.int .i64 0),(.int .i64 0)] 59 al λb ao=>
 stK 10 b an ao λcd f=>
 dK (λo=>
 vK (ag .i .add (ix a 1) a1) λap=>
 vK (am 0 c) λar=>
 vK (ldV f ar) λau=>
 vK (aq au) λav=>
 vK (ag .i .gtr ap av) λaw=>
 aA aw (
 vK (am 0 c) λax=>
 vK (ldV f ax) λay=>
 vK (aq ay) λaz=>
 vK (ag .i .sub az (ix a 1)) λa3=>
 vK (am 3 b) λa4=>
 stK 1 a4 a3 f λce a5=>
 o [] a5) (
 o [] f))
 λcf cg g=>
 dK (λp=>
 vK (ag .i .add (ix d 1) a2) λa6=>
 vK (am 1 c) λa7=>
 vK (ldV g a7) λa8=>
 vK (aq a8) λa9=>
 vK (ag .i .gtr a6 a9) λba=>
 aA ba (
 vK (am 1 c) λbb=>
 vK (ldV g bb) λbc=>
 vK (aq bc) λbd=>
 vK (ag .i .sub bd (ix d 1)) λbe=>
 vK (am 4 b) λbf=>
 stK 1 bf be g λch bg=>
 p [] bg) (
 p [] g))
 λci cj k=>
 vK (am 0 c) λbh=>
 vK (ldV k bh) λbi=>
 vK (am 3 b) λbj=>
 vK (ldV k bj) λbk=>
 vK (ag .i .add (ix a 1) bk) λbl=>
 ae prog oC #[bi,(ix a 1),bl] k λl m=>
 vK (aE l 0) λq=>
 vK (aE l 1) λbm=>
 vK (aE l 2) λck=>
 vK (am 1 c) λbn=>
 vK (ldV m bn) λbo=>
 vK (am 4 b) λbp=>
 vK (ldV m bp) λbq=>
 vK (ag .i .add (ix d 1) bq) λbr=>
 ae prog oC #[bo,(ix d 1),br] m λn bs=>
 vK (aE n 0) λr=>
 vK (aE n 1) λbt=>
 vK (aE n 2) λcl=>
 vK (am 5 b) λbu=>
 stK 1 bu q bs λcm bv=>
 vK (ag .i .sub bm q) λbw=>
 vK (am 7 b) λbx=>
 stK 1 bx bw bv λcn bz=>
 vK (am 6 b) λb0=>
 stK 1 b0 r bz λco b1=>
 vK (ag .i .sub bt r) λb2=>
 vK (am 8 b) λb3=>
 stK 1 b3 b2 b1 λcp s=>
 vK (aH 10 s b) λb4=>
 cE #[(.int .i64 0),(.int .i64 0),(.int .i64 0),(.int .i64 0),(.int .i64 0),(.int .i64 0),(.int .i64 0),(.int .i64 0),(.int .i64 0),(.int .i64 0)] 59 1 [(0,10,b4)] s λb5 b6=>
 cF (.agg #[.int .i64 0,.int .i64 0,.int .i64 0,.int .i64 0,.int .i64 0,.int .i64 0,.int .i64 0,.int .i64 0,.int .i64 0,.int .i64 0]) 59 10 80 (ix a 0) b5 b6 λb7 b8=>
 vK (ag .i .add (ix a 1) a1) λb9=>
 z [b7,b9] b8) (
 vK (ag .i .add (ix d 1) a2) λca=>
 u [(ix a 0),ca] e)) (
 R (ix d 0) j)
theorem MA (H:CR a0 a1 a2 h R):ae prog jG #[a0,a1,a2] h R:=fk f85 (.s .z (.s .z (.s (.s .z (.l 649037107316853453566312041152384 [7,8] (.s (.s .z (.s .z .z)) (.s (.s .z (.l 649037107316853453566312007728768 [7,9] (.s (.s .z (.s .z .z)) (.s (.s .z (.j 72048797944905728 [] (.s .z (.s .z .z)) (.j 590223752764667723776 [] (.s .z (.s .z .z)) (.s .z (.s .z (.s .z (.s .z (.s .z (.s .z .z))))))))) .z)))) .z)))) (.s .z .z)))) H
def CQ (a0:Value)(h:af)(R:Value→af→Prop):Prop:=
 aP #[(.int .i64 0),(.slice none 0 0),(.bool false)] 43 h λa b=>
 vK (ag .i .lss a0 (.int .i64 1)) λg=>
 aA g (
 vK (ag .i .gtr (.int .i64 1) (.int .i64 4096)) λj=>
 aA j (
 vK ((aF #[(.int .i64 0),(.slice none 0 0),(.bool false)] [(0,1,(.int .i64 4096))]).map .agg) λk=>
 stK 3 a k b λt c=>
 vK (aH 3 c a) λl=>
 R l c) (
 vK ((aF #[(.int .i64 0),(.slice none 0 0),(.bool false)] [(0,1,(.int .i64 1))]).map .agg) λm=>
 stK 3 a m b λu d=>
 vK (aH 3 d a) λn=>
 R n d)) (
 vK (ag .i .gtr a0 (.int .i64 4096)) λo=>
 aA o (
 vK ((aF #[(.int .i64 0),(.slice none 0 0),(.bool false)] [(0,1,(.int .i64 4096))]).map .agg) λp=>
 stK 3 a p b λv e=>
 vK (aH 3 e a) λq=>
 R q e) (
 vK ((aF #[(.int .i64 0),(.slice none 0 0),(.bool false)] [(0,1,a0)]).map .agg) λr=>
 stK 3 a r b λw f=>
 vK (aH 3 f a) λs=>
 R s f))
theorem Mz (H:CQ a0 h R):ae prog jF #[a0] h R:=fk f86 (.s .z (.s (.s .z (.s .z .z)) (.s (.s .z (.s .z .z)) (.s .z .z)))) H
def CP (a0:Value)(h:af)(R:Value→af→Prop):Prop:=
 dK (λc=>
 vK (ag .i .lss a0 (.int .i64 1)) λk=>
 aA k (
 c [(.int .i64 1)] h) (
 c [a0] h))
 λd x e=>
 dK (λf=>
 vK (ag .i .gtr (ix d 0) (.int .i64 512)) λl=>
 aA l (
 f [(.int .i64 512)] e) (
 f [(ix d 0)] e))
 λb y m=>
 aU [(.slice none 0 0),(.int .i64 0)] m λa z g n=>
 vK (ag .i .lss (ix a 1) (ix b 0)) λo=>
 aA o (
 mkK (.int .i64 0) 3 1 8 (ix b 0) (ix b 0) g λj p=>
 vK (aR 1 j (ix a 1)) λq=>
 stK 1 q (.int .i64 1) p λaa r=>
 cE #[(.slice none 0 0)] 41 1 [(0,1,j)] r λs t=>
 cF (.slice none 0 0) 41 1 24 (ix a 0) s t λu v=>
 vK (ag .i .add (ix a 1) (.int .i64 1)) λw=>
 n [u,w] v) (
 R (ix a 0) g)
theorem My (H:CP a0 h R):ae prog jE #[a0] h R:=fk f87 (.s .z (.j 193 [0] (.s .z (.s .z .z)) (.j 769 [0] (.s .z (.s .z .z)) (.s .z (.s (.s .z (.l 16775224 [3,11] (.s .z (.s (.s .z .z) (.s (.s .z (.s .z (.s .z .z))) .z))))) (.s .z .z)))))) H
def xR (a0 a1 a2:Value)(h:af)(R:Value→af→Prop):Prop:=
 aP (Value.cells a0) 38 h λo p=>
 vK (am 1 o) λw=>
 vK (ldV p w) λq=>
 vK (aq q) λx=>
 aU [(.int .i64 0),(.int .i64 0)] p λb bt f r=>
 vK (ag .i .lss (ix b 1) x) λy=>
 aA y (
 vK (aR 2 q (ix b 1)) λz=>
 vK (aH 2 f z) λaa=>
 aP #[(.int .i64 0),(.slice none 0 0)] 240 f λg ab=>
 stK 2 g aa ab λbu d=>
 vK (am 1 g) λac=>
 vK (ldV d ac) λad=>
 vK (aq ad) λah=>
 vK (ag .i .gtr ah (ix b 0)) λai=>
 aA ai (
 vK (am 1 g) λaj=>
 vK (ldV d aj) λak=>
 vK (aq ak) λal=>
 vK (ag .i .add (ix b 1) (.int .i64 1)) λan=>
 r [al,an] d) (
 vK (ag .i .add (ix b 1) (.int .i64 1)) λao=>
 r [(ix b 0),ao] d)) (
 aU [(.slice none 0 0),(.slice none 0 0),(.int .i64 0)] f λc bv e ap=>
 vK (ag .i .lss (ix c 2) a2) λar=>
 aA ar (
 vK (am 1 o) λau=>
 vK (ldV e au) λav=>
 vK (ag .i .add a1 (ix c 2)) λaw=>
 vK (aR 2 av aw) λax=>
 vK (aH 2 e ax) λay=>
 aP #[(.int .i64 0),(.slice none 0 0)] 240 e λj az=>
 stK 2 j ay az λbw s=>
 vK (am 1 j) λa3=>
 vK (ldV s a3) λa4=>
 vK (aq a4) λa5=>
 aU [(ix c 0),(ix c 1),(.int .i64 0)] s λa bx k l=>
 vK (ag .i .lss (ix a 2) a5) λa6=>
 aA a6 (
 vK (am 0 j) λa7=>
 vK (ldV k a7) λa8=>
 vK (ag .i .add a8 (ix a 2)) λm=>
 ae prog Cv #[(ix a 1),m] k λa9 t=>
 aA a9 (
 vK (ag .i .add (ix a 2) (.int .i64 1)) λba=>
 l [(ix a 0),(ix a 1),ba] t) (
 vK ((aF #[(.int .i64 0),(.int .i64 0)] [(0,1,(.int .i64 1)),(1,1,m)]).map .agg) λbb=>
 cE #[(.int .i64 0),(.int .i64 0)] 198 1 [(0,2,bb)] t λbc bd=>
 cF (.agg #[.int .i64 0,.int .i64 0]) 198 2 16 (ix a 0) bc bd λu be=>
 cE #[(.int .i64 0)] 2 1 [(0,1,m)] be λbf bg=>
 cF (.int .i64 0) 2 1 8 (ix a 1) bf bg λn v=>
 vK (aq n) λbh=>
 vK (ag .i .gtr bh (ix b 0)) λbi=>
 aA bi (
 vK (un 1 n (some (.int .i64 1)) none) λbj=>
 vK (ag .i .add (ix a 2) (.int .i64 1)) λbk=>
 l [u,bj,bk] v) (
 vK (ag .i .add (ix a 2) (.int .i64 1)) λbl=>
 l [u,n,bl] v))) (
 vK (ag .i .add a1 (ix c 2)) λbm=>
 vK ((aF #[(.int .i64 0),(.int .i64 0)] [(0,1,(.int .i64 2)),(1,1,bm)]).map .agg) λbn=>
 cE #[(.int .i64 0),(.int .i64 0)] 198 1 [(0,2,bn)] k λbo bp=>
 cF (.agg #[.int .i64 0,.int .i64 0]) 198 2 16 (ix a 0) bo bp λbq br=>
 vK (ag .i .add (ix c 2) (.int .i64 1)) λbs=>
 ap [bq,(ix a 1),bs] br)) (
 R (ix c 0) e))
theorem HC (H:xR a0 a1 a2 h R):ae prog uD #[a0,a1,a2] h R:=fk f88 (.s .z (.s .z (.s (.s .z (.l 4294443648 [7,19] (.s .z (.s (.s .z .z) (.s (.s .z (.s .z (.s .z .z))) .z))))) (.s .z (.s .z (.s (.s .z (.l 1208925819614620584836096 [10,11,33] (.s .z (.s (.s .z .z) (.s (.s .z (.s .z (.s (.s .z (.l 4722366412500901088256 [10,11,46] (.s .z (.s (.s .z .z) (.s (.s .z (.s .z (.s (.s .z (.s .z .z)) (.s .z (.s .z (.s .z (.s .z .z))))))) .z))))) .z))) .z))))) (.s .z .z))))))) H
def AF (a0 a1 a2 a3 a4 a5:Value)(h:af)(R:Value→af→Prop):Prop:=
 aP (Value.cells a0) 48 h λb y=>
 aP aD 48 y λj c=>
 vK (am 11 b) λz=>
 vK (ldV c z) λaa=>
 vK (aR 1 aa a1) λab=>
 vK (ldV c ab) λac=>
 vK (ag .i .add a3 a4) λad=>
 vK ((aF #[(.int .i64 0),(.slice none 0 0),(.int .i64 0),(.int .i64 0),(.int .i64 0),(.bool false)] [(0,1,a1),(1,1,ac),(2,1,a2),(3,1,a3),(4,1,ad),(5,1,a5)]).map .agg) λae=>
 aP #[(.int .i64 0),(.slice none 0 0),(.int .i64 0),(.int .i64 0),(.int .i64 0),(.bool false)] 124 c λk ah=>
 stK 6 k ae ah λba a=>
 dK (λd=>
 bC a λS=>
 vK (am 13 b) λai=>
 qK S (λa=>ldV a ai) λe=>
 qK S (λa=>aH 6 a k) λf=>
 (cE #[] 124 0 [] a λl g=>
 S g∧((cF (.agg #[.int .i64 0,.slice none 0 0,.int .i64 0,.int .i64 0,.int .i64 0,.bool false]) 124 6 64 l e g λaj m=>
 S m∧(cE #[(.int .i64 0),(.slice none 0 0),(.int .i64 0),(.int .i64 0),(.int .i64 0),(.bool false)] 124 1 [(0,6,f)] m λak n=>
 S n∧(cF (.agg #[.int .i64 0,.slice none 0 0,.int .i64 0,.int .i64 0,.int .i64 0,.bool false]) 124 6 64 aj ak n λal o=>
 S o∧(vK (am 13 b) λan=>
 stK 1 an al o λbb ao=>
 d [] ao))))∧(cE #[(.int .i64 0),(.slice none 0 0),(.int .i64 0),(.int .i64 0),(.int .i64 0),(.bool false)] 124 1 [(0,6,f)] g λap p=>
 S p∧(cF (.agg #[.int .i64 0,.slice none 0 0,.int .i64 0,.int .i64 0,.int .i64 0,.bool false]) 124 6 64 l e p λaq q=>
 S q∧(cF (.agg #[.int .i64 0,.slice none 0 0,.int .i64 0,.int .i64 0,.int .i64 0,.bool false]) 124 6 64 aq ap q λar r=>
 S r∧(vK (am 13 b) λau=>
 stK 1 au ar r λbc av=>
 d [] av))))))∧(cE #[(.int .i64 0),(.slice none 0 0),(.int .i64 0),(.int .i64 0),(.int .i64 0),(.bool false)] 124 1 [(0,6,f)] a λaw s=>
 S s∧(cE #[] 124 0 [] s λax t=>
 S t∧(cF (.agg #[.int .i64 0,.slice none 0 0,.int .i64 0,.int .i64 0,.int .i64 0,.bool false]) 124 6 64 ax e t λay u=>
 S u∧(cF (.agg #[.int .i64 0,.slice none 0 0,.int .i64 0,.int .i64 0,.int .i64 0,.bool false]) 124 6 64 ay aw u λaz v=>
 S v∧(vK (am 13 b) λa6=>
 stK 1 a6 az v λbd a7=>
 d [] a7))))))
 λbe bf w=>
 vK (aH 20 w b) λa8=>
 stK 20 j a8 w λbg x=>
 vK (aH 20 x j) λa9=>
 R a9 x
theorem Kk (H:AF a0 a1 a2 a3 a4 a5 h R):ae prog qZ #[a0,a1,a2,a3,a4,a5] h R:=fk f89 (.s .z (.s .z (.j 34225520640 [] (.d (.op 1 .r (.op 2 .r (.op 4 .r (.alt (.op 0 .e (.alt (.op 3 .e (.op 5 .e (.op 6 .e (.op 7 .r (.op 8 .n .nil))))) (.op 5 .e (.op 3 .e (.op 6 .e (.op 7 .r (.op 8 .n .nil))))))) (.op 5 .e (.op 0 .e (.op 3 .e (.op 6 .e (.op 7 .r (.op 8 .n .nil))))))))))) (.s .z .z)))) H
def lM (a0:Value)(h:af)(R:Value→af→Prop):Prop:=
 vK (aK a0) λb=>
 vK (am 2 b) λc=>
 vK (ldV h c) λa=>
 vK (gV a false (some a0)) λd=>
 vK (gV a false (aK d)) λe=>
 vK (gV a false (am 1 e)) λf=>
 vK (gV a false (ldV h f)) λg=>
 vK (gV a false (aq g)) λj=>
 vK (gV a false (some a0)) λk=>
 vK (gV a false (aK k)) λl=>
 vK (gV a false (am 0 l)) λm=>
 vK (gV a false (ldV h m)) λn=>
 vK (gV a false (ag .i .lss j n)) λo=>
 vK (az a (.bool true) o) λp=>
 R p h
theorem wm (H:lM a0 h R):ae prog fX #[a0] h R:=fk f90 (.s .z (.s .z .z)) H
def mS (a0:Value)(h:af)(R:Value→af→Prop):Prop:=
 vK (aK a0) λa=>
 vK (am 2 a) λb=>
 vK (ldV h b) λc=>
 R c h
theorem xH (H:mS a0 h R):ae prog gA #[a0] h R:=fk f91 (.s .z (.s .z .z)) H
def tK (a0:Value)(h:af)(R:Value→af→Prop):Prop:=
 vK (aK a0) λa=>
 vK (am 11 a) λb=>
 vK (ldV h b) λc=>
 vK (aq c) λd=>
 vK (aK a0) λe=>
 vK (am 6 e) λf=>
 vK (ldV h f) λg=>
 vK (aq g) λj=>
 vK (ag .i .eql d j) λk=>
 R k h
theorem DC (H:tK a0 h R):ae prog og #[a0] h R:=fk f92 (.s .z (.s .z .z)) H
def qA (a0 a1:Value)(h:af)(R:Value→af→Prop):Prop:=
 vK (aK a0) λb=>
 vK (am 2 b) λc=>
 vK (ldV h c) λd=>
 aA d (
 R (.int .i64 2) h) (
 ae prog fX #[a0] h λe a=>
 vK (unV .not e) λf=>
 aA f (
 R (.int .i64 1) a) (
 vK (aK a0) λg=>
 vK (am 1 g) λi=>
 vK (ldV a i) λj=>
 cE #[(.int .i64 0)] 3 1 [(0,1,a1)] a λk l=>
 cF (.int .i64 0) 3 1 8 j k l λm n=>
 vK (aK a0) λo=>
 vK (am 1 o) λp=>
 stK 1 p m n λr q=>
 R (.int .i64 0) q))
theorem As (H:qA a0 a1 h R):ae prog kU #[a0,a1] h R:=fk f93 (.s .z (.s (.s .z (.s (.s .z .z) (.s .z (.s (.s .z .z) .z)))) (.s .z (.s .z .z)))) H
def qD (a0 a1:Value)(h:af)(R:Value→af→Prop):Prop:=
 ae prog js #[a0,a1] h λb d=>
 ae prog ir #[a0,a1] d λe a=>
 aA e (
 vK (aK a0) λf=>
 vK (am 0 f) λg=>
 vK (ldV a g) λj=>
 vK (aR 1 j a1) λk=>
 vK (ldV a k) λc=>
 vK (aR 1 c a1) λl=>
 vK (ldV a l) λm=>
 vK (ag .i .add m (.int .i64 1)) λn=>
 vK (aR 1 c a1) λo=>
 stK 1 o n a λq p=>
 R b p) (
 R b a)
theorem Av (H:qD a0 a1 h R):ae prog fW #[a0,a1] h R:=fk f94 (.s .z (.s .z (.s (.s .z (.s .z .z)) (.s .z .z)))) H
def qE (a0 a1 a2:Value)(h:af)(R:Value→af→Prop):Prop:=
 ae prog ir #[a0,a1] h λf d=>
 vK (unV .not f) λa=>
 vK (gV a false (some a2)) λg=>
 vK (gV a false (aq g)) λj=>
 vK (gV a false (some a0)) λk=>
 vK (gV a false (aK k)) λl=>
 vK (gV a false (am 0 l)) λm=>
 vK (gV a false (ldV d m)) λn=>
 vK (gV a false (aq n)) λo=>
 vK (gV a false (ag .i .neq j o)) λp=>
 vK (az a (.bool true) p) λc=>
 vK (gV c false (some a2)) λq=>
 gK c false (λr=>ae prog ft #[q] d r) d λs b=>
 vK (gV c false (ag .i .lss s (.int .i64 0))) λt=>
 vK (az c (.bool true) t) λu=>
 aA u (
 R (.bool false) b) (
 bC b λS=>
 vK (aK a0) λv=>
 vK (am 0 v) λw=>
 qK S (λb=>ldV b w) λx=>
 vK (aK a0) λy=>
 vK (am 0 y) λz=>
 qK S (λb=>ldV b z) λaa=>
 vK (aR 1 aa a1) λab=>
 qK S (λb=>ldV b ab) λac=>
 ae prog w7 #[ac,a2] b λad e=>
 S e∧(vK (aR 1 x a1) λah=>
 stK 1 ah ad e λaj ai=>
 R (.bool true) ai))
theorem Aw (H:qE a0 a1 a2 h R):ae prog eN #[a0,a1,a2] h R:=fk f95 (.s .z (.s (.s .z (.s (.s .z .z) .z)) (.s (.d (.op 0 .r (.op 1 .r (.op 2 .r (.op 3 .r (.op 4 .r (.op 5 .r (.op 6 .r (.op 7 .r (.op 8 .r (.op 9 .r (.op 10 .r (.op 11 .r (.op 12 .r (.op 13 .e (.op 14 .r (.op 15 .n .nil))))))))))))))))) (.s .z .z)))) H
def oV (a0 a1 a2:Value)(h:af)(R:Value→af→Prop):Prop:=
 vK (ldV h a1) λd=>
 ae prog nZ #[d,a0] h λb a=>
 vK (ag .p .neq b (.pointer none)) λe=>
 aA e (
 bC a λS=>
 qK S (λa=>ldV a a1) λf=>
 vK (aK f) λg=>
 vK (am 7 g) λj=>
 qK S (λa=>ldV a j) λk=>
 qK S (λa=>ldV a a2) λl=>
 vK (ag .i .sub l (.int .i64 1)) λm=>
 ae prog iK #[b] a λn c=>
 S c∧(vK (aR 1 k m) λo=>
 stK 1 o n c λr q=>
 R b q)) (
 R b a)
theorem yQ (H:oV a0 a1 a2 h R):ae prog fC #[a0,a1,a2] h R:=fk f96 (.s .z (.s .z (.s (.s .z (.s (.d (.op 0 .r (.op 1 .r (.op 2 .r (.op 3 .r (.op 4 .r (.op 5 .r (.op 6 .r (.op 7 .e (.op 8 .r (.op 9 .n .nil))))))))))) .z)) (.s .z .z)))) H
def tG (a0 a1:Value)(h:af)(R:Value→af→Prop):Prop:=
 vK (aK a0) λg=>
 vK (am 2 g) λj=>
 vK (ldV h j) λk=>
 ae prog eM #[k,a1] h λb l=>
 vK (aE b 0) λm=>
 vK (aE b 1) λac=>
 aP #[(.int .i64 0),(.int .i64 0),(.int .i64 0),(.int .i64 0),(.int .i64 0),(.int .i64 0),(.int .i64 0),(.int .i64 0),(.int .i64 0),(.int .i64 0)] 116 l λc n=>
 stK 10 c m n λad a=>
 bC a λS=>
 vK (aK a0) λo=>
 vK (am 0 o) λp=>
 qK S (λa=>ldV a p) λq=>
 vK (aK a0) λr=>
 vK (am 1 r) λs=>
 qK S (λa=>ldV a s) λt=>
 vK (aK a0) λu=>
 vK (am 2 u) λv=>
 qK S (λa=>ldV a v) λw=>
 qK S (λa=>aH 10 a c) λx=>
 ae prog gC #[w] a λy d=>
 S d∧(ae prog me #[q,t,y,x] d λe f=>
 vK (aE e 0) λz=>
 vK (aE e 1) λaa=>
 vK (ag .i .neq aa (.int .i64 0)) λab=>
 aA ab (
 R (.pointer none) f) (
 R z f))
theorem Dz (H:tG a0 a1 h R):ae prog nZ #[a0,a1] h R:=fk f97 (.s .z (.s .z (.s (.d (.op 0 .r (.op 1 .r (.op 2 .r (.op 3 .r (.op 4 .r (.op 5 .r (.op 6 .r (.op 7 .r (.op 8 .r (.op 9 .r (.op 10 .r (.op 11 .r (.op 13 .r (.op 12 .e (.op 14 .n (.op 15 .r (.op 16 .r (.op 17 .r (.op 18 .r (.op 19 .r .nil))))))))))))))))))))) (.s (.s .z (.s (.s .z .z) .z)) (.s .z .z))))) H
def qs (a0:Value)(h:af)(R:Value→af→Prop):Prop:=
 vK (aK a0) λa=>
 vK (am 15 a) λb=>
 vK (ldV h b) λc=>
 ae prog mq #[c] h λd e=>
 R d e
theorem An (H:qs a0 h R):ae prog iK #[a0] h R:=fk f98 (.s .z (.s .z .z)) H
def rN (a0 a1 a2:Value)(h:af)(R:Value→af→Prop):Prop:=
 aP (Value.cells a2) 148 h λe d=>
 dK (λf=>
 bC d λS=>
 vK (aK a0) λac=>
 vK (am 2 ac) λad=>
 qK S (λd=>ldV d ad) λg=>
 vK (am 1 e) λah=>
 qK S (λd=>ldV d ah) λj=>
 (ae prog eM #[g,j] d λk l=>
 S l∧(vK (aE k 0) λai=>
 vK (aE k 1) λcd=>
 aP #[(.int .i64 0),(.int .i64 0),(.int .i64 0),(.int .i64 0),(.int .i64 0),(.int .i64 0),(.int .i64 0),(.int .i64 0),(.int .i64 0),(.int .i64 0)] 116 l λm n=>
 S n∧(stK 10 m ai n λce o=>
 S o∧(f [m] o))))∧(aP #[(.int .i64 0),(.int .i64 0),(.int .i64 0),(.int .i64 0),(.int .i64 0),(.int .i64 0),(.int .i64 0),(.int .i64 0),(.int .i64 0),(.int .i64 0)] 116 d λp q=>
 S q∧(ae prog eM #[g,j] q λr s=>
 S s∧(vK (aE r 0) λaj=>
 vK (aE r 1) λcf=>
 stK 10 p aj s λcg t=>
 S t∧(f [p] t)))))
 λu ch a=>
 vK (aK a0) λak=>
 vK (am 7 ak) λal=>
 vK (ldV a al) λan=>
 vK (ag .i .sub a1 (.int .i64 1)) λao=>
 vK (aR 1 an ao) λap=>
 vK (ldV a ap) λv=>
 vK (am 2 e) λaq=>
 vK (am 0 aq) λar=>
 vK (ldV a ar) λau=>
 vK (ag .i .eql au (.int .i64 1)) λav=>
 aA av (
 bC a λS=>
 vK (aK a0) λaw=>
 vK (am 0 aw) λax=>
 qK S (λa=>ldV a ax) λay=>
 vK (aK a0) λaz=>
 vK (am 0 az) λa3=>
 qK S (λa=>ldV a a3) λa4=>
 ae prog bD #[ay] a λa5 w=>
 S w∧(ae prog aO #[a4] w λa6 c=>
 vK (ag .i .mul a5 a6) λx=>
 bC c λS=>
 vK (aK a0) λa7=>
 vK (am 2 a7) λa8=>
 qK S (λc=>ldV c a8) λa9=>
 vK (am 2 e) λba=>
 vK (am 1 ba) λbb=>
 qK S (λc=>ldV c bb) λbc=>
 vK (aK a0) λbd=>
 vK (am 0 bd) λbe=>
 qK S (λc=>ldV c be) λbf=>
 ae prog gC #[a9] c λbg y=>
 S y∧(vK (mZ false 1 2 bg) λbh=>
 ae prog bF #[bf] y λbi z=>
 S z∧(ae prog jI #[bh,bc,bi] z λbj bk=>
 vK (ag .i .mul bj x) λbl=>
 ae prog db #[a0,a1,(.int .i64 0),bl,x,(.bool false)] bk λci bm=>
 vK (ag .i .add (.int .i64 1) a1) λbn=>
 ae prog db #[a0,a1,bn,(.int .i64 0),v,(.bool true)] bm λcj bo=>
 R (.tuple #[]) bo)))) (
 vK (aK a0) λbp=>
 vK (am 1 bp) λbq=>
 vK (ldV a bq) λbr=>
 ae prog aO #[br] a λaa bs=>
 vK (ag .i .add (.int .i64 1) a1) λbt=>
 ae prog db #[a0,a1,bt,(.int .i64 0),v,(.bool false)] bs λck b=>
 bC b λS=>
 vK (am 2 e) λbu=>
 vK (am 1 bu) λbv=>
 qK S (λb=>ldV b bv) λbw=>
 vK (aK a0) λbx=>
 vK (am 1 bx) λbz=>
 qK S (λb=>ldV b bz) λb0=>
 vK (am 1 (ix u 0)) λb1=>
 vK (am 0 b1) λb2=>
 qK S (λb=>ldV b b2) λb3=>
 vK (am 1 (ix u 0)) λb4=>
 vK (am 2 b4) λb5=>
 qK S (λb=>ldV b b5) λb6=>
 vK (ag .i .mul b6 aa) λb7=>
 ae prog bD #[b0] b λb8 ab=>
 S ab∧(vK (ag .i .mul bw b8) λb9=>
 vK (ag .i .add b9 b3) λca=>
 vK (ag .i .mul ca aa) λcb=>
 ae prog db #[a0,a1,(.int .i64 1),cb,b7,(.bool true)] ab λcl cc=>
 R (.tuple #[]) cc))
theorem BO (H:rN a0 a1 a2 h R):ae prog mD #[a0,a1,a2] h R:=fk f99 (.s .z (.j 4190400 [6] (.d (.op 0 .r (.op 1 .r (.op 2 .r (.op 3 .r (.op 4 .r (.op 5 .r (.alt (.op 6 .e (.op 7 .r (.op 8 .r (.op 9 .r (.op 10 .e (.op 11 .e (.op 12 .r .nil))))))) (.op 10 .e (.op 6 .e (.op 7 .r (.op 8 .r (.op 9 .r (.op 11 .e (.op 12 .r .nil))))))))))))))) (.s .z (.s (.s .z (.s (.s (.d (.op 0 .r (.op 1 .r (.op 2 .r (.op 3 .r (.op 5 .r (.op 6 .r (.op 7 .r (.op 8 .r (.op 4 .e (.op 9 .n (.op 10 .r (.op 11 .r .nil))))))))))))) (.s (.d (.op 0 .r (.op 1 .r (.op 2 .r (.op 3 .r (.op 6 .r (.op 7 .r (.op 8 .r (.op 9 .r (.op 10 .r (.op 11 .r (.op 12 .r (.op 4 .e (.op 5 .r (.op 13 .e (.op 14 .n (.op 15 .r .nil))))))))))))))))) (.s .z (.s .z .z)))) .z)) (.s .z (.s .z (.d (.op 0 .r (.op 1 .r (.op 2 .r (.op 3 .r (.op 4 .r (.op 5 .r (.op 6 .r (.op 7 .r (.op 8 .r (.op 11 .r (.op 12 .r (.op 13 .r (.op 15 .r (.op 17 .r (.op 18 .r (.op 19 .r (.op 20 .r (.op 21 .r (.op 9 .e (.op 10 .r (.op 14 .r (.op 16 .r (.op 22 .n .nil)))))))))))))))))))))))))))))) H
def ju (a0:Value)(h:af)(R:Value→af→Prop):Prop:=
 vK (ag .sl .eql a0 (.slice none 0 0)) λa=>
 aA a (
 R (.slice none 0 0) h) (
 cE #[] 3 0 [] h λb c=>
 cF (.int .i64 0) 3 1 8 b a0 c λd e=>
 R d e)
theorem sh (H:ju a0 h R):ae prog gd #[a0] h R:=fk f100 (.s .z (.s (.s .z (.s (.s .z .z) .z)) (.s .z .z))) H
def oZ (a0:Value)(h:af)(R:Value→af→Prop):Prop:=
 bC h λS=>
 vK (aK a0) λb=>
 vK (am 0 b) λc=>
 vK (am 0 c) λd=>
 qK S (λh=>ldV h d) λe=>
 vK (aK a0) λf=>
 vK (am 3 f) λg=>
 qK S (λh=>ldV h g) λi=>
 ae prog bB #[e] h λj a=>
 S a∧(ae prog rk #[j,i] a λk l=>
 R k l)
theorem yS (H:oZ a0 h R):ae prog fD #[a0] h R:=fk f101 (.s .z (.s (.d (.op 0 .r (.op 1 .r (.op 2 .r (.op 3 .r (.op 4 .r (.op 6 .r (.op 7 .r (.op 8 .r (.op 9 .r (.op 5 .e (.op 10 .n (.op 11 .r .nil))))))))))))) .z)) H
def AZ (a0 a1:Value)(h:af)(R:Value→af→Prop):Prop:=
 vK (ag .i .add a0 a1) λa=>
 vK (ag .i .sub a (.int .i64 1)) λb=>
 vK (ag .i .quo b a1) λc=>
 R c h
theorem KF (H:AZ a0 a1 h R):ae prog rk #[a0,a1] h R:=fk f102 (.s .z (.s .z .z)) H
def tO (a0 a1:Value)(h:af)(R:Value→af→Prop):Prop:=
 aP #[(.int .i64 0),(.int .i64 0),(.int .i64 0),(.int .i64 0),(.int .i64 0),(.int .i64 0),(.int .i64 0),(.int .i64 0),(.int .i64 0),(.int .i64 0)] 116 h λf l=>
 vK (ag .i .lss a1 (.int .i64 0)) λe=>
 vK (gV e false (some a1)) λai=>
 vK (gV e false (some a0)) λaj=>
 gK e false (λak=>ae prog dj #[aj] l ak) l λal d=>
 vK (gV e false (ag .i .geq ai al)) λan=>
 vK (az e (.bool true) an) λao=>
 aA ao (
 vK ((aF #[(.int .i64 0),(.int .i64 0),(.int .i64 0),(.int .i64 0),(.int .i64 0),(.int .i64 0),(.int .i64 0),(.int .i64 0),(.int .i64 0),(.int .i64 0)] []).map .agg) λap=>
 stK 10 f ap d λcd m=>
 vK (aH 10 m f) λaq=>
 R (.tuple #[aq,(.bool false)]) m) (
 dK (λg=>
 bC d λS=>
 vK (aK a0) λar=>
 vK (am 0 ar) λau=>
 vK (am 1 au) λav=>
 qK S (λd=>ldV d av) λj=>
 (ae prog kL #[a0,a1] d λn k=>
 S k∧((ae prog eF #[j] k λaw o=>
 S o∧(vK ((aF #[(.int .i64 0),(.int .i64 0),(.int .i64 0),(.int .i64 0),(.int .i64 0),(.int .i64 0),(.int .i64 0),(.int .i64 0),(.int .i64 0),(.int .i64 0)] [(0,1,a1),(1,4,n),(9,1,aw)]).map .agg) λax=>
 aP #[(.int .i64 0),(.int .i64 0),(.int .i64 0),(.int .i64 0),(.int .i64 0),(.int .i64 0),(.int .i64 0),(.int .i64 0),(.int .i64 0),(.int .i64 0)] 116 o λp q=>
 S q∧(stK 10 p ax q λce r=>
 S r∧(g [p] r))))∧(aP #[(.int .i64 0),(.int .i64 0),(.int .i64 0),(.int .i64 0),(.int .i64 0),(.int .i64 0),(.int .i64 0),(.int .i64 0),(.int .i64 0),(.int .i64 0)] 116 k λs t=>
 S t∧(ae prog eF #[j] t λay u=>
 S u∧(vK ((aF #[(.int .i64 0),(.int .i64 0),(.int .i64 0),(.int .i64 0),(.int .i64 0),(.int .i64 0),(.int .i64 0),(.int .i64 0),(.int .i64 0),(.int .i64 0)] [(0,1,a1),(1,4,n),(9,1,ay)]).map .agg) λa2=>
 stK 10 s a2 u λcf v=>
 S v∧(g [s] v))))))∧(aP #[(.int .i64 0),(.int .i64 0),(.int .i64 0),(.int .i64 0),(.int .i64 0),(.int .i64 0),(.int .i64 0),(.int .i64 0),(.int .i64 0),(.int .i64 0)] 116 d λw x=>
 S x∧(ae prog kL #[a0,a1] x λa3 y=>
 S y∧(ae prog eF #[j] y λa4 z=>
 S z∧(vK ((aF #[(.int .i64 0),(.int .i64 0),(.int .i64 0),(.int .i64 0),(.int .i64 0),(.int .i64 0),(.int .i64 0),(.int .i64 0),(.int .i64 0),(.int .i64 0)] [(0,1,a1),(1,4,a3),(9,1,a4)]).map .agg) λa5=>
 stK 10 w a5 z λcg aa=>
 S aa∧(g [w] aa))))))
 λa ch b=>
 bC b λS=>
 vK (aK a0) λa6=>
 vK (am 0 a6) λa7=>
 vK (am 0 a7) λa8=>
 qK S (λb=>ldV b a8) λa9=>
 vK (am 1 (ix a 0)) λba=>
 vK (am 0 ba) λbb=>
 qK S (λb=>ldV b bb) λbc=>
 vK (am 1 (ix a 0)) λbd=>
 vK (am 0 bd) λbe=>
 qK S (λb=>ldV b be) λbf=>
 vK (am 1 (ix a 0)) λbg=>
 vK (am 2 bg) λbh=>
 qK S (λb=>ldV b bh) λbi=>
 vK (ag .i .add bf bi) λbj=>
 ae prog fB #[a9,bc,bj] b λab bk=>
 vK (aE ab 0) λbl=>
 vK (aE ab 1) λbm=>
 vK (am 5 (ix a 0)) λbn=>
 stK 1 bn bl bk λci bo=>
 vK (am 7 (ix a 0)) λbp=>
 stK 1 bp bm bo λcj c=>
 bC c λS=>
 vK (aK a0) λbq=>
 vK (am 0 bq) λbr=>
 vK (am 1 br) λbs=>
 qK S (λc=>ldV c bs) λbt=>
 vK (am 1 (ix a 0)) λbu=>
 vK (am 1 bu) λbv=>
 qK S (λc=>ldV c bv) λbw=>
 vK (am 1 (ix a 0)) λbx=>
 vK (am 1 bx) λbz=>
 qK S (λc=>ldV c bz) λb0=>
 vK (am 1 (ix a 0)) λb1=>
 vK (am 3 b1) λb2=>
 qK S (λc=>ldV c b2) λb3=>
 vK (ag .i .add b0 b3) λb4=>
 ae prog fB #[bt,bw,b4] c λac b5=>
 vK (aE ac 0) λb6=>
 vK (aE ac 1) λb7=>
 vK (am 6 (ix a 0)) λb8=>
 stK 1 b8 b6 b5 λck b9=>
 vK (am 8 (ix a 0)) λca=>
 stK 1 ca b7 b9 λcl ad=>
 vK (aH 10 ad (ix a 0)) λcb=>
 stK 10 f cb ad λcm ah=>
 vK (aH 10 ah f) λcc=>
 R (.tuple #[cc,(.bool true)]) ah)
theorem DE (H:tO a0 a1 h R):ae prog eM #[a0,a1] h R:=fk f103 (.s .z (.s (.s .z (.s (.s .z .z) .z)) (.j 134152256 [6] (.d (.op 0 .r (.op 1 .r (.op 2 .r (.op 4 .r (.op 5 .r (.op 6 .r (.op 7 .r (.op 8 .r (.alt (.op 3 .e (.alt (.op 9 .e (.op 10 .r (.op 11 .e (.op 12 .e .nil)))) (.op 11 .e (.op 9 .e (.op 10 .r (.op 12 .e .nil)))))) (.op 11 .e (.op 3 .e (.op 9 .e (.op 10 .r (.op 12 .e .nil))))))))))))))) (.s (.d (.op 0 .r (.op 1 .r (.op 2 .r (.op 3 .r (.op 4 .r (.op 5 .r (.op 6 .r (.op 7 .r (.op 8 .r (.op 9 .r (.op 10 .r (.op 11 .r (.op 12 .r (.op 13 .r (.op 14 .r (.op 15 .n (.op 16 .r (.op 17 .r (.op 18 .r (.op 19 .r (.op 20 .n (.op 21 .r (.op 22 .n .nil)))))))))))))))))))))))) (.s (.d (.op 0 .r (.op 1 .r (.op 2 .r (.op 3 .r (.op 4 .r (.op 5 .r (.op 6 .r (.op 7 .r (.op 8 .r (.op 9 .r (.op 10 .r (.op 11 .r (.op 12 .r (.op 13 .r (.op 14 .r (.op 15 .n (.op 16 .r (.op 17 .r (.op 18 .r (.op 19 .r (.op 20 .n (.op 21 .r (.op 22 .n .nil)))))))))))))))))))))))) (.s .z .z)))))) H
def uV (a0 a1:Value)(h:af)(R:Value→af→Prop):Prop:=
 aP (Value.cells a0) 81 h λl t=>
 aP (Value.cells a1) 114 t λb a=>
 bC a λS=>
 vK (am 0 l) λu=>
 qK S (λa=>ldV a u) λv=>
 vK (ag .p .neq v (.pointer none)) λm=>
 vK (gV m true (am 1 l)) λw=>
 qK S (λa=>gV m true (ldV a w)) λx=>
 vK (gV m true (ag .p .neq x (.pointer none))) λy=>
 vK (az m y (.bool false)) λn=>
 vK (gV n true (am 2 b)) λz=>
 qK S (λa=>gV n true (ldV a z)) λaa=>
 vK (gV n true (ag .i .geq aa (.int .i64 1))) λab=>
 vK (az n ab (.bool false)) λo=>
 vK (gV o true (am 3 b)) λac=>
 qK S (λa=>gV o true (ldV a ac)) λad=>
 vK (gV o true (ag .i .geq ad (.int .i64 1))) λah=>
 vK (az o ah (.bool false)) λq=>
 vK (gV q true (am 0 b)) λai=>
 qK S (λa=>gV q true (ldV a ai)) λaj=>
 vK (gV q true (ag .i .geq aj (.int .i64 0))) λak=>
 vK (az q ak (.bool false)) λr=>
 vK (gV r true (am 1 b)) λal=>
 qK S (λa=>gV r true (ldV a al)) λan=>
 vK (gV r true (ag .i .geq an (.int .i64 0))) λao=>
 vK (az r ao (.bool false)) λg=>
 vK (gV g true (am 0 b)) λap=>
 qK S (λa=>gV g true (ldV a ap)) λaq=>
 vK (gV g true (am 0 l)) λar=>
 qK S (λa=>gV g true (ldV a ar)) λau=>
 gK g true (λav=>ae prog bB #[au] a av) a λaw j=>
 S j∧(vK (gV g true (ag .i .lss aq aw)) λax=>
 vK (az g ax (.bool false)) λk=>
 vK (gV k true (am 1 b)) λay=>
 qK S (λj=>gV k true (ldV j ay)) λa2=>
 vK (gV k true (am 1 l)) λa3=>
 qK S (λj=>gV k true (ldV j a3)) λa4=>
 gK k true (λa5=>ae prog bB #[a4] j a5) j λa6 e=>
 S e∧(vK (gV k true (ag .i .lss a2 a6)) λa7=>
 vK (az k a7 (.bool false)) λc=>
 vK (gV c true (am 2 b)) λa8=>
 qK S (λe=>gV c true (ldV e a8)) λa9=>
 vK (gV c true (am 0 l)) λba=>
 qK S (λe=>gV c true (ldV e ba)) λbb=>
 vK (gV c true (am 0 b)) λbc=>
 qK S (λe=>gV c true (ldV e bc)) λbd=>
 gK c true (λbe=>ae prog bB #[bb] e be) e λbf f=>
 S f∧(vK (gV c true (ag .i .sub bf bd)) λbg=>
 vK (gV c true (ag .i .leq a9 bg)) λbh=>
 vK (az c bh (.bool false)) λd=>
 vK (gV d true (am 3 b)) λbi=>
 qK S (λf=>gV d true (ldV f bi)) λbj=>
 vK (gV d true (am 1 l)) λbk=>
 qK S (λf=>gV d true (ldV f bk)) λbl=>
 vK (gV d true (am 1 b)) λbm=>
 qK S (λf=>gV d true (ldV f bm)) λbn=>
 gK d true (λbo=>ae prog bB #[bl] f bo) f λbp s=>
 S s∧(vK (gV d true (ag .i .sub bp bn)) λbq=>
 vK (gV d true (ag .i .leq bj bq)) λbr=>
 vK (az d br (.bool false)) λbs=>
 R bs s))))
theorem Ep (H:uV a0 a1 h R):ae prog kH #[a0,a1] h R:=fk f104 (.s .z (.s (.d (.op 0 .r (.op 1 .r (.op 2 .r (.op 3 .r (.op 4 .r (.op 5 .r (.op 6 .r (.op 7 .r (.op 8 .r (.op 9 .r (.op 10 .r (.op 11 .r (.op 12 .r (.op 13 .r (.op 14 .r (.op 15 .r (.op 16 .r (.op 17 .r (.op 18 .r (.op 19 .r (.op 20 .r (.op 21 .r (.op 22 .r (.op 23 .r (.op 24 .r (.op 25 .r (.op 26 .r (.op 27 .r (.op 28 .r (.op 29 .r (.op 30 .r (.op 31 .r (.op 32 .r (.op 33 .e (.op 34 .r (.op 35 .r (.op 36 .r (.op 37 .r (.op 38 .r (.op 39 .r (.op 40 .r (.op 41 .e (.op 42 .r (.op 43 .r (.op 44 .r (.op 45 .r (.op 46 .r (.op 47 .r (.op 48 .r (.op 50 .r (.op 51 .r (.op 49 .e (.op 52 .r (.op 53 .r (.op 54 .r (.op 55 .r (.op 56 .r (.op 57 .r (.op 58 .r (.op 59 .r (.op 61 .r (.op 62 .r (.op 60 .e (.op 63 .r (.op 64 .r (.op 65 .r (.op 66 .r .nil)))))))))))))))))))))))))))))))))))))))))))))))))))))))))))))))))))) .z)) H
end
section
variable {a0 a1 a2 a3 a4 a5 a6:Value}{h:af}{R:Value→af→Prop}
def qw (a0 a1:Value)(h:af)(R:Value→af→Prop):Prop:=
 aP #[(.int .i64 0),(.slice none 0 0)] 189 h λc a=>
 vK (ag .i .lss a1 (.int .i64 0)) λb=>
 vK (gV b false (some a1)) λg=>
 vK (gV b false (some a0)) λj=>
 vK (gV b false (aK j)) λk=>
 vK (gV b false (am 1 k)) λl=>
 vK (gV b false (ldV a l)) λm=>
 vK (gV b false (aq m)) λn=>
 vK (gV b false (ag .i .geq g n)) λo=>
 vK (az b (.bool true) o) λp=>
 aA p (
 vK ((aF #[(.int .i64 0),(.slice none 0 0)] []).map .agg) λq=>
 stK 2 c q a λak d=>
 vK (aH 2 d c) λr=>
 R r d) (
 bC a λS=>
 vK (aK a0) λs=>
 vK (am 1 s) λt=>
 qK S (λa=>ldV a t) λu=>
 vK (aR 2 u a1) λv=>
 vK (am 0 v) λw=>
 qK S (λa=>ldV a w) λx=>
 vK (aK a0) λy=>
 vK (am 1 y) λz=>
 qK S (λa=>ldV a z) λaa=>
 vK (aR 2 aa a1) λab=>
 vK (am 1 ab) λac=>
 qK S (λa=>ldV a ac) λad=>
 ae prog cC #[ad] a λah e=>
 S e∧(vK ((aF #[(.int .i64 0),(.slice none 0 0)] [(0,1,x),(1,1,ah)]).map .agg) λai=>
 stK 2 c ai e λal f=>
 vK (aH 2 f c) λaj=>
 R aj f))
theorem Ap (H:qw a0 a1 h R):ae prog bh #[a0,a1] h R:=fk f105 (.s .z (.s (.s .z (.s (.s .z .z) .z)) (.s (.d (.op 0 .r (.op 1 .r (.op 2 .r (.op 3 .r (.op 4 .r (.op 5 .r (.op 6 .r (.op 7 .r (.op 8 .r (.op 9 .r (.op 10 .r (.op 11 .r (.op 12 .r (.op 13 .r (.op 14 .r (.op 15 .r (.op 16 .e (.op 17 .r (.op 18 .n .nil)))))))))))))))))))) .z))) H
def xn (a0:Value)(h:af)(R:Value→af→Prop):Prop:=
 aP (Value.cells a0) 120 h λa f=>
 aP #[(.int .i64 0),(.slice none 0 0),(.int .i64 0),(.int .i64 0),(.int .i64 0),(.bool false)] 120 f λb c=>
 vK (am 1 a) λg=>
 vK (ldV c g) λi=>
 ae prog c5 #[i] c λj k=>
 vK (am 1 a) λl=>
 stK 1 l j k λo d=>
 vK (aH 6 d a) λm=>
 stK 6 b m d λp e=>
 vK (aH 6 e b) λn=>
 R n e
theorem Gj (H:xn a0 h R):ae prog sS #[a0] h R:=fk f106 (.s .z (.s .z (.s .z .z))) H
def xm (a0 a1:Value)(h:af)(R:Value→af→Prop):Prop:=
 aP (Value.cells a0) 120 h λc e=>
 aP (Value.cells a1) 120 e λd b=>
 vK (am 2 c) λf=>
 vK (ldV b f) λg=>
 vK (am 2 d) λj=>
 vK (ldV b j) λk=>
 vK (ag .i .eql g k) λa=>
 vK (gV a true (am 3 c)) λl=>
 vK (gV a true (ldV b l)) λm=>
 vK (gV a true (am 3 d)) λn=>
 vK (gV a true (ldV b n)) λo=>
 vK (gV a true (ia m o)) λp=>
 vK (gV a true (am 4 c)) λq=>
 vK (gV a true (ldV b q)) λr=>
 vK (gV a true (am 4 d)) λs=>
 vK (gV a true (ldV b s)) λt=>
 vK (gV a true (pF r t)) λu=>
 vK (gV a true (ag .i .lss p u)) λv=>
 vK (az a v (.bool false)) λw=>
 R w b
theorem Gi (H:xm a0 a1 h R):ae prog sQ #[a0,a1] h R:=fk f112 (.s .z (.s .z .z)) H
def yA (a0 a1:Value)(h:af)(R:Value→af→Prop):Prop:=
 ae prog uR #[a0,a1] h λa b=>
 vK (gV a true (some a0)) λc=>
 vK (gV a true (some a1)) λd=>
 gK a true (λe=>ae prog uS #[c,d] b e) b λf g=>
 vK (gV a true (unV .not f)) λi=>
 vK (az a i (.bool false)) λj=>
 R j g
theorem Ix (H:yA a0 a1 h R):ae prog oL #[a0,a1] h R:=fk f113 (.s .z (.s .z .z)) H
def yc (a0 a1 a2:Value)(h:af)(R:Value→af→Prop):Prop:=
 vK (ag .i .geq a0 (.int .i64 1)) λc=>
 vK (gV c true (some a0)) λg=>
 vK (gV c true (ag .i .leq g (.int .i64 65536))) λj=>
 vK (az c j (.bool false)) λd=>
 vK (gV d true (some a1)) λk=>
 vK (gV d true (ag .i .geq k (.int .i64 1))) λl=>
 vK (az d l (.bool false)) λe=>
 vK (gV e true (some a1)) λm=>
 vK (gV e true (ag .i .leq m (.int .i64 65536))) λn=>
 vK (az e n (.bool false)) λb=>
 vK (gV b true (some a2)) λo=>
 vK (gV b true (ag .i .eql o (.int .i64 1))) λp=>
 vK (gV b true (some p)) λf=>
 vK (gV f false (some a2)) λq=>
 vK (gV f false (ag .i .eql q (.int .i64 3))) λr=>
 vK (gV b true (az f (.bool true) r)) λs=>
 vK (az b s (.bool false)) λa=>
 vK (gV a true (some a0)) λt=>
 vK (gV a true (some a1)) λu=>
 vK (gV a true (ag .i .mul t u)) λv=>
 vK (gV a true (some a2)) λw=>
 vK (gV a true (ag .i .mul v w)) λx=>
 vK (gV a true (ag .i .leq x (.int .i64 268435456))) λy=>
 vK (az a y (.bool false)) λz=>
 R z h
theorem HZ (H:yc a0 a1 a2 h R):ae prog ku #[a0,a1,a2] h R:=fk f117 (.s .z (.s .z .z)) H
def yB (a0:Value)(h:af)(R:Value→af→Prop):Prop:=
 vK (ag .i .lss a0 (.int .i64 0)) λa=>
 vK (gV a false (some a0)) λb=>
 vK (gV a false (ldV h (.pointer (some ⟨ma,0,none⟩)))) λc=>
 vK (gV a false (aq c)) λd=>
 vK (gV a false (ag .i .geq b d)) λe=>
 vK (az a (.bool true) e) λf=>
 aA f (
 R (.string ⟨#[]⟩) h) (
 vK (ldV h (.pointer (some ⟨ma,0,none⟩))) λg=>
 vK (aR 1 g a0) λj=>
 vK (ldV h j) λk=>
 R k h)
theorem Iy (H:yB a0 h R):ae prog oM #[a0] h R:=fk f118 (.s .z (.s (.s .z (.s (.s .z .z) .z)) (.s .z .z))) H
def Fs (a0:Value)(h:af)(R:Value→af→Prop):Prop:=
 vK (ag .i .lss a0 (.int .i64 0)) λa=>
 vK (gV a false (some a0)) λb=>
 vK (gV a false (ag .i .geq b (.int .i64 3))) λc=>
 vK (az a (.bool true) c) λd=>
 aA d (
 R (.string ⟨#[]⟩) h) (
 vK (Ja 3 2 (.pointer (some ⟨dZ,0,none⟩)) a0) λe=>
 vK (am 0 e) λf=>
 vK (ldV h f) λg=>
 R g h)
theorem Ol (H:Fs a0 h R):ae prog wQ #[a0] h R:=fk f119 (.s .z (.s (.s .z (.s (.s .z .z) .z)) (.s .z .z))) H
def xd (a0 a1 a2:Value)(h:af)(R:Value→af→Prop):Prop:=
 ae prog wQ #[a0] h λo d=>
 vK (ag .s .eql o (.string ⟨#[]⟩)) λa=>
 vK (gV a false (some a1)) λp=>
 gK a false (λq=>ae prog mh #[p] d q) d λr e=>
 vK (gV a false (unV .not r)) λt=>
 vK (az a (.bool true) t) λb=>
 vK (gV b false (some a2)) λu=>
 gK b false (λv=>ae prog mh #[u] e v) e λw f=>
 vK (gV b false (unV .not w)) λx=>
 vK (az b (.bool true) x) λy=>
 aA y (
 R (.tuple #[(.pointer none),(.int .i64 6)]) f) (
 vK ((aF #[(.int .i64 0),(.slice none 0 0),(.int .i64 0),(.int .i64 0)] [(0,1,a1)]).map .agg) λz=>
 aP (Value.cells z) 224 f λg aa=>
 aU [(.int .i64 0)] aa λc an j ab=>
 vK (ag .i .lss (ix c 0) a2) λac=>
 aA ac (
 ae prog Aj #[a0,a1,a2,(ix c 0)] j λk ad=>
 vK (aE k 0) λah=>
 vK (aE k 1) λai=>
 ae prog ij #[ai] ad λl m=>
 vK (aE l 0) λaj=>
 vK (aE l 1) λn=>
 vK (ag .i .neq n (.int .i64 0)) λak=>
 aA ak (
 R (.tuple #[(.pointer none),n]) m) (
 ae prog jp #[g,ah,aj] m λao al=>
 vK (ag .i .add (ix c 0) (.int .i64 1)) λam=>
 ab [am] al)) (
 R (.tuple #[g,(.int .i64 0)]) j))
theorem Ga (H:xd a0 a1 a2 h R):ae prog jC #[a0,a1,a2] h R:=fk f120 (.s .z (.s (.s .z (.s (.s .z .z) .z)) (.s .z (.s (.s .z (.l 36028794871496384 [31] (.s .z (.s (.s .z .z) (.s (.s .z (.s .z (.s .z (.s (.s .z (.s (.s .z .z) .z)) .z)))) .z))))) (.s .z .z))))) H
def A2 (a0:Value)(h:af)(R:Value→af→Prop):Prop:=
 aP (Value.cells a0) 31 h λb a=>
 vK (am 0 b) λn=>
 vK (ldV a n) λd=>
 vK (ag .i .eql d (.int .i64 0)) λo=>
 aA o (
 vK (am 2 b) λp=>
 vK (ldV a p) λq=>
 ae prog kJ #[q] a λe r=>
 vK (aE e 0) λf=>
 vK (aE e 1) λs=>
 R (.tuple #[f,f,s]) r) (
 vK (ag .i .eql d (.int .i64 1)) λt=>
 aA t (
 vK (am 3 b) λu=>
 vK (ldV a u) λv=>
 ae prog zF #[v] a λg w=>
 vK (aE g 0) λj=>
 vK (aE g 1) λx=>
 R (.tuple #[j,j,x]) w) (
 vK (am 4 b) λy=>
 vK (ldV a y) λz=>
 ae prog pS #[z] a λk c=>
 vK (aE k 0) λaa=>
 vK (aE k 1) λl=>
 vK (ag .i .neq l (.int .i64 0)) λab=>
 aA ab (
 R (.tuple #[(.slice none 0 0),(.slice none 0 0),l]) c) (
 vK (am 5 b) λac=>
 vK (ldV c ac) λad=>
 ae prog pS #[ad] c λm ah=>
 vK (aE m 0) λai=>
 vK (aE m 1) λaj=>
 R (.tuple #[aa,ai,aj]) ah)))
theorem KG (H:A2 a0 h R):ae prog wT #[a0] h R:=fk f121 (.s .z (.s (.s .z (.s .z (.s (.s .z (.s .z .z)) (.s .z (.s (.s .z (.s .z .z)) .z))))) (.s (.s .z (.s .z (.s (.s .z .z) .z))) (.s .z (.s .z .z))))) H
def xe (a0 a1:Value)(h:af)(R:Value→af→Prop):Prop:=
 ae prog mh #[a1] h λk a=>
 vK (unV .not k) λl=>
 aA l (
 R (.tuple #[(.pointer none),(.int .i64 6)]) a) (
 vK (aq a0) λm=>
 vK (ag .i .rem m (.int .i64 2)) λn=>
 vK (ag .i .eql n (.int .i64 0)) λo=>
 aA o (
 R (.tuple #[(.pointer none),(.int .i64 7)]) a) (
 ae prog ij #[a0] a λc d=>
 vK (aE c 0) λe=>
 vK (aE c 1) λf=>
 vK (ag .i .neq f (.int .i64 0)) λp=>
 aA p (
 R (.tuple #[(.pointer none),f]) d) (
 vK ((aF #[(.int .i64 0),(.slice none 0 0),(.int .i64 0),(.int .i64 0)] [(0,1,a1)]).map .agg) λq=>
 aP (Value.cells q) 224 d λg r=>
 aU [(.int .i64 0)] r λb z j s=>
 vK (ag .i .lss (ix b 0) a1) λt=>
 aA t (
 vK (aq e) λu=>
 vK (ag .i .quo u (.int .i64 2)) λv=>
 vK (ag .i .sub (ix b 0) v) λw=>
 ae prog jp #[g,w,e] j λaa x=>
 vK (ag .i .add (ix b 0) (.int .i64 1)) λy=>
 s [y] x) (
 R (.tuple #[g,(.int .i64 0)]) j))))
theorem Gb (H:xe a0 a1 h R):ae prog ml #[a0,a1] h R:=fk f122 (.s .z (.s (.s .z (.s (.s .z .z) (.s .z (.s (.s .z .z) .z)))) (.s .z (.s (.s .z (.s (.s .z .z) .z)) (.s .z (.s (.s .z (.l 8793945539072 [31] (.s .z (.s (.s .z .z) (.s (.s .z .z) .z))))) (.s .z .z))))))) H
def yn (h:af)(R:Value→af→Prop):Prop:=
 vK ((aF #[(.int .i64 0),(.int .i64 0),(.int .i64 0),(.int .i64 0),(.slice none 0 0),(.slice none 0 0),(.int .i64 0),(.int .i64 0),(.int .i64 0)] [(0,1,(.int .i64 3)),(7,1,(.int .i64 5)),(8,1,(.int .i64 3)),(6,1,(.int .i64 0))]).map .agg) λq=>
 ae prog lB #[q,(.int .i64 9),(.int .i64 9)] h λf r=>
 vK (aE f 0) λs=>
 vK (aE f 1) λt=>
 aP #[(.pointer none),(.pointer none),(.int .i64 0)] 81 r λg u=>
 stK 3 g s u λax v=>
 ae prog oJ #[] v λw b=>
 vK (unV .not w) λc=>
 vK (gV c false (some t)) λx=>
 vK (gV c false (ag .i .neq x (.int .i64 0))) λy=>
 vK (az c (.bool true) y) λz=>
 aA z (
 R (.bool false) b) (
 vK (aH 3 b g) λaa=>
 ae prog wS #[aa,(.int .i64 2),(.int .i64 2)] b λj k=>
 vK (aE j 0) λd=>
 vK (aE j 1) λab=>
 vK (ag .i .neq ab (.int .i64 0)) λe=>
 vK (gV e false (some d)) λac=>
 vK (gV e false (ag .p .eql ac (.pointer none))) λad=>
 vK (az e (.bool true) ad) λah=>
 aA ah (
 R (.bool false) k) (
 ae prog eM #[d,(.int .i64 5)] k λl ai=>
 vK (aE l 0) λaj=>
 vK (aE l 1) λak=>
 aP #[(.int .i64 0),(.int .i64 0),(.int .i64 0),(.int .i64 0),(.int .i64 0),(.int .i64 0),(.int .i64 0),(.int .i64 0),(.int .i64 0),(.int .i64 0)] 116 ai λm al=>
 stK 10 m aj al λay an=>
 ae prog dj #[d] an λao n=>
 vK (ag .i .eql ao (.int .i64 6)) λo=>
 vK (gV o true (some ak)) λap=>
 vK (az o ap (.bool false)) λa=>
 vK (gV a true (am 1 m)) λaq=>
 vK (gV a true (aH 4 n aq)) λar=>
 vK (gV a true ((aF #[(.int .i64 0),(.int .i64 0),(.int .i64 0),(.int .i64 0)] [(0,1,(.int .i64 4)),(1,1,(.int .i64 2)),(2,1,(.int .i64 1)),(3,1,(.int .i64 1))]).map .agg)) λau=>
 vK (gV a true (ag (.st [(0,1,.i),(1,1,.i),(2,1,.i),(3,1,.i)]) .eql ar au)) λav=>
 vK (az a av (.bool false)) λaw=>
 R aw n))
theorem Ij (H:yn h R):ae prog uM #[] h R:=fk f123 (.s .z (.s .z (.s (.s .z (.s (.s .z .z) .z)) (.s .z (.s (.s .z (.s (.s .z .z) .z)) (.s .z (.s .z .z))))))) H
def ym (h:af)(R:Value→af→Prop):Prop:=
 cE #[(.int .u16 0)] 22 1 [(0,1,(.int .u16 7))] h λs t=>
 ae prog pT #[(.int .i64 1),(.int .i64 1),(.int .i64 1),(.int .i64 255),s] t λj u=>
 vK (aE j 0) λk=>
 vK (aE j 1) λv=>
 vK ((aF #[(.int .i64 0),(.int .i64 0),(.int .i64 0),(.int .i64 0),(.slice none 0 0),(.slice none 0 0),(.int .i64 0),(.int .i64 0),(.int .i64 0)] [(0,1,(.int .i64 1)),(3,1,(.int .i64 2))]).map .agg) λw=>
 ae prog lB #[w,(.int .i64 1),(.int .i64 1)] u λl x=>
 vK (aE l 0) λy=>
 vK (aE l 1) λz=>
 aP #[(.pointer none),(.pointer none),(.int .i64 0)] 81 x λm aa=>
 stK 3 m y aa λa3 ab=>
 ae prog uN #[] ab λac n=>
 vK (unV .not ac) λb=>
 gK b false (λad=>ae prog oJ #[] n ad) n λah c=>
 vK (gV b false (unV .not ah)) λai=>
 vK (az b (.bool true) ai) λd=>
 vK (gV d false (some v)) λaj=>
 vK (gV d false (ag .i .neq aj (.int .i64 0))) λak=>
 vK (az d (.bool true) ak) λe=>
 vK (gV e false (some z)) λal=>
 vK (gV e false (ag .i .neq al (.int .i64 0))) λam=>
 vK (az e (.bool true) am) λf=>
 vK (gV f false (some k)) λan=>
 vK (gV f false (ag .p .eql an (.pointer none))) λao=>
 vK (az f (.bool true) ao) λap=>
 aA ap (
 R (.bool false) c) (
 vK (aH 3 c m) λaq=>
 ae prog sU #[k,aq] c λo q=>
 vK (aE o 0) λr=>
 vK (aE o 1) λar=>
 vK (ag .i .eql ar (.int .i64 0)) λg=>
 vK (gV g true (some r)) λau=>
 vK (gV g true (ag .p .neq au (.pointer none))) λav=>
 vK (az g av (.bool false)) λa=>
 vK (gV a true (some r)) λaw=>
 gK a true (λax=>ae prog fi #[aw,(.int .i64 0),(.int .i64 0),(.int .i64 0)] q ax) q λay a0=>
 vK (gV a true (ag .i .eql ay (.int .u16 7))) λa1=>
 vK (az a a1 (.bool false)) λa2=>
 R a2 a0)
theorem Ii (H:ym h R):ae prog uL #[] h R:=fk f124 (.s .z (.s .z (.s .z (.s (.s .z (.s (.s .z .z) .z)) (.s .z (.s .z .z)))))) H
def AA (a0 a1 a2 a3:Value)(h:af)(R:Value→af→Prop):Prop:=
 aP (Value.cells a2) 81 h λb k=>
 aP (Value.cells a3) 116 k λc e=>
 vK (aH 3 e b) λl=>
 ae prog sJ #[a0,a1,l] e λm d=>
 vK (unV .not m) λn=>
 aA n (
 R (.tuple #[(.pointer none),(.int .i64 6)]) d) (
 vK (aH 3 d b) λo=>
 vK (am 1 c) λp=>
 vK (aH 4 d p) λq=>
 ae prog kH #[o,q] d λr a=>
 vK (unV .not r) λs=>
 aA s (
 R (.tuple #[(.pointer none),(.int .i64 9)]) a) (
 bC a λS=>
 qK S (λa=>aH 3 a b) λt=>
 qK S (λa=>aH 10 a c) λu=>
 vK (am 1 b) λv=>
 qK S (λa=>ldV a v) λw=>
 vK (am 1 c) λx=>
 vK (am 2 x) λy=>
 qK S (λa=>ldV a y) λz=>
 vK (am 1 c) λaa=>
 vK (am 1 aa) λab=>
 qK S (λa=>ldV a ab) λac=>
 ae prog eF #[w] a λad f=>
 S f∧(ae prog aO #[a0] f λah g=>
 S g∧(vK (ag .i .mul z ah) λai=>
 ae prog Cu #[ad,ai] g λaj j=>
 S j∧(vK ((aF Ak [(0,1,a0),(1,1,a1),(2,3,t),(5,10,u),(15,1,aj),(16,1,ac)]).map .agg) λak=>
 aP (Value.cells ak) 246 j λal an=>
 R (.tuple #[al,(.int .i64 0)]) an)))))
theorem Kf (H:AA a0 a1 a2 a3 h R):ae prog me #[a0,a1,a2,a3] h R:=fk f125 (.s .z (.s (.s .z (.s (.s .z .z) (.s .z (.s (.s .z .z) .z)))) (.s (.d (.op 0 .r (.op 1 .r (.op 2 .r (.op 3 .r (.op 4 .r (.op 5 .r (.op 7 .r (.op 8 .r (.op 9 .r (.op 10 .r (.op 14 .r (.op 15 .r (.op 16 .r (.op 6 .e (.op 11 .e (.op 12 .r (.op 13 .e (.op 17 .r (.op 18 .n (.op 19 .r (.op 20 .r .nil)))))))))))))))))))))) .z))) H
def rD (a0:Value)(h:af)(R:Value→af→Prop):Prop:=
 aP #[(.int .i64 0),(.int .i64 0)] 146 h λa l=>
 ae prog gq #[a0] l λm n=>
 aP #[(.int .i64 0),(.int .i64 0)] 146 n λb o=>
 stK 2 b m o λaa c=>
 vK (am 0 b) λp=>
 vK (ldV c p) λd=>
 vK (ag .i .eql d (.int .i64 1)) λq=>
 aA q (
 vK (am 1 b) λr=>
 vK (ldV c r) λs=>
 ae prog ka #[a0,s] c λab e=>
 vK (aH 2 e b) λt=>
 stK 2 a t e λac f=>
 vK (aH 2 f a) λu=>
 R u f) (
 vK (ag .i .eql d (.int .i64 2)) λv=>
 aA v (
 ae prog kT #[a0] c λad g=>
 vK (aH 2 g b) λw=>
 stK 2 a w g λah j=>
 vK (aH 2 j a) λx=>
 R x j) (
 vK (aH 2 c b) λy=>
 stK 2 a y c λai k=>
 vK (aH 2 k a) λz=>
 R z k))
theorem BF (H:rD a0 h R):ae prog fh #[a0] h R:=fk f126 (.s .z (.s .z (.s (.s .z (.s .z (.s .z (.s .z (.s .z .z))))) (.s .z .z)))) H
def kX (a0:Value)(h:af)(R:Value→af→Prop):Prop:=
 vK (aK a0) λd=>
 vK (am 0 d) λe=>
 stK 1 e (.int .i64 1) h λaa b=>
 vK (aK a0) λf=>
 vK (am 2 f) λg=>
 vK (ldV b g) λj=>
 vK (ag .p .eql j (.pointer none)) λa=>
 vK (gV a false (some a0)) λk=>
 vK (gV a false (aK k)) λl=>
 vK (gV a false (am 2 l)) λm=>
 vK (gV a false (ldV b m)) λn=>
 gK a false (λo=>ae prog gq #[n] b o) b λq c=>
 vK (gV a false (mZ false 1 0 q)) λr=>
 vK (gV a false (ag .i .eql r (.int .i64 0))) λs=>
 vK (az a (.bool true) s) λt=>
 aA t (
 vK (aK a0) λu=>
 vK (am 0 u) λv=>
 stK 1 v (.int .i64 0) c λab w=>
 vK (aK a0) λx=>
 vK (am 2 x) λy=>
 stK 1 y (.pointer none) w λac z=>
 R (.tuple #[]) z) (
 R (.tuple #[]) c)
theorem vy (H:kX a0 h R):ae prog cZ #[a0] h R:=fk f127 (.s .z (.s .z (.s .z .z))) H
def lL (a0:Value)(h:af)(R:Value→af→Prop):Prop:=
 vK (aK a0) λa=>
 vK (am 1 a) λb=>
 vK (ldV h b) λc=>
 vK (aq c) λd=>
 vK (ag .i .gtr d (.int .i64 0)) λe=>
 aA e (
 vK (aK a0) λf=>
 vK (am 1 f) λg=>
 vK (ldV h g) λj=>
 vK (aR 1 j (.int .i64 0)) λk=>
 vK (ldV h k) λl=>
 vK (aK a0) λm=>
 vK (am 1 m) λn=>
 vK (ldV h n) λo=>
 ae prog jD #[o,(.int .i64 0),(.int .i64 1)] h λp q=>
 vK (aK a0) λr=>
 vK (am 1 r) λs=>
 stK 1 s p q λx t=>
 R (.tuple #[l,(.int .i64 0)]) t) (
 vK (aK a0) λu=>
 vK (am 2 u) λv=>
 vK (ldV h v) λw=>
 aA w (
 R (.tuple #[(.int .i64 0),(.int .i64 2)]) h) (
 R (.tuple #[(.int .i64 0),(.int .i64 1)]) h))
theorem wj (H:lL a0 h R):ae prog jd #[a0] h R:=fk f128 (.s .z (.s (.s .z (.s (.s .z (.s .z (.s .z .z))) (.s .z (.s (.s .z .z) .z)))) (.s .z .z))) H
def mO (a0 a1 a2:Value)(h:af)(R:Value→af→Prop):Prop:=
 aP #[(.int .i64 0),(.int .i64 0),(.int .i64 0),(.int .i64 0)] 148 h λb d=>
 vK (aK a0) λk=>
 vK (am 1 k) λl=>
 vK (ldV d l) λm=>
 cE #[(.int .i64 0)] 3 1 [(0,1,a1)] d λn o=>
 cF (.int .i64 0) 3 1 8 m n o λq r=>
 vK (aK a0) λs=>
 vK (am 1 s) λt=>
 stK 1 t q r λa4 e=>
 dK (λg=>
 vK (ag .f .neq a2 .nilFunc) λu=>
 aA u (
 clK prog a2 #[a1] e λv w=>
 vK (aK a0) λx=>
 vK (am 2 x) λy=>
 stK 1 y v w λa5 z=>
 g [] z) (
 g [] e))
 λa6 a7 a=>
 vK (aK a0) λaa=>
 vK (am 2 aa) λab=>
 vK (ldV a ab) λac=>
 vK (ag .p .neq ac (.pointer none)) λad=>
 aA ad (
 bC a λS=>
 vK (aK a0) λah=>
 vK (am 3 ah) λai=>
 qK S (λa=>ldV a ai) λaj=>
 vK (aK a0) λak=>
 vK (am 2 ak) λal=>
 qK S (λa=>ldV a al) λan=>
 ae prog iK #[an] a λao c=>
 S c∧(qK S (λc=>ia aj ao) λap=>
 vK (aK a0) λaq=>
 vK (am 3 aq) λar=>
 stK 1 ar ap c λa8 au=>
 ae prog cZ #[a0] au λa9 av=>
 vK ((aF #[(.int .i64 0),(.int .i64 0),(.int .i64 0),(.int .i64 0)] [(0,1,(.int .i64 1)),(1,1,a1)]).map .agg) λaw=>
 stK 4 b aw av λba i=>
 vK (aH 4 i b) λax=>
 R ax i)) (
 ae prog cZ #[a0] a λbb ay=>
 vK ((aF #[(.int .i64 0),(.int .i64 0),(.int .i64 0),(.int .i64 0)] [(0,1,(.int .i64 1)),(1,1,a1)]).map .agg) λaz=>
 stK 4 b az ay λbc j=>
 vK (aH 4 j b) λa3=>
 R a3 j)
theorem xD (H:mO a0 a1 a2 h R):ae prog jA #[a0,a1,a2] h R:=fk f129 (.s .z (.s .z (.j 33423360 [] (.s .z (.s .z .z)) (.s (.s .z (.s (.d (.op 0 .r (.op 1 .r (.op 2 .r (.op 3 .r (.op 4 .r (.op 5 .r (.op 6 .r (.op 7 .r (.op 8 .r (.op 9 .e (.op 10 .r (.op 11 .r (.op 12 .r (.op 13 .n .nil))))))))))))))) .z)) (.s .z (.s .z .z)))))) H
def jW (a0:Value)(h:af)(R:Value→af→Prop):Prop:=
 vK (aK a0) λb=>
 vK (am 2 b) λc=>
 vK (ldV h c) λa=>
 vK (gV a false (some a0)) λd=>
 vK (gV a false (aK d)) λe=>
 vK (gV a false (am 1 e)) λf=>
 vK (gV a false (ldV h f)) λg=>
 vK (gV a false (aq g)) λj=>
 vK (gV a false (ag .i .gtr j (.int .i64 0))) λk=>
 vK (az a (.bool true) k) λl=>
 R l h
theorem sZ (H:jW a0 h R):ae prog gJ #[a0] h R:=fk f130 (.s .z (.s .z .z)) H
def qx (a0:Value)(h:af)(R:Value→af→Prop):Prop:=
 vK (aK a0) λa=>
 vK (am 0 a) λb=>
 vK (ldV h b) λc=>
 R c h
theorem Aq (H:qx a0 h R):ae prog eG #[a0] h R:=fk f131 (.s .z (.s .z .z)) H
def C6 (a0:Value)(h:af)(R:Value→af→Prop):Prop:=
 vK (ag .i .geq a0 (.int .i64 1)) λa=>
 vK (gV a true (some a0)) λb=>
 vK (gV a true (ag .i .leq b (.int .i64 4096))) λc=>
 vK (az a c (.bool false)) λd=>
 R d h
theorem MM (H:C6 a0 h R):ae prog ui #[a0] h R:=fk f132 (.s .z (.s .z .z)) H
def o0 (a0 a1:Value)(h:af)(R:Value→af→Prop):Prop:=
 aP (Value.cells a1) 120 h λb c=>
 vK (aH 6 c b) λg=>
 ae prog wU #[g] c λi a=>
 vK (unV .not i) λj=>
 aA j (
 R (.bool false) a) (
 bC a λS=>
 vK (aK a0) λk=>
 vK (am 0 k) λl=>
 qK S (λa=>ldV a l) λm=>
 qK S (λa=>aH 6 a b) λn=>
 ae prog sS #[n] a λo d=>
 S d∧(cE #[(.int .i64 0),(.slice none 0 0),(.int .i64 0),(.int .i64 0),(.int .i64 0),(.bool false)] 120 1 [(0,6,o)] d λp e=>
 S e∧(cF (.agg #[.int .i64 0,.slice none 0 0,.int .i64 0,.int .i64 0,.int .i64 0,.bool false]) 120 6 64 m p e λq f=>
 S f∧(vK (aK a0) λr=>
 vK (am 0 r) λs=>
 stK 1 s q f λu t=>
 R (.bool true) t))))
theorem yT (H:o0 a0 a1 h R):ae prog kg #[a0,a1] h R:=fk f133 (.s .z (.s (.s .z (.s (.s .z .z) .z)) (.s (.d (.op 0 .r (.op 1 .r (.op 2 .r (.op 3 .r (.op 4 .r (.op 5 .r (.op 6 .e (.op 7 .e (.op 8 .e (.op 9 .r (.op 10 .r (.op 11 .n .nil))))))))))))) (.s .z .z)))) H
def rX (a0 a1:Value)(h:af)(R:Value→af→Prop):Prop:=
 ae prog ir #[a0,a1] h λb a=>
 vK (unV .not b) λc=>
 aA c (
 R (.slice none 0 0) a) (
 vK (aK a0) λd=>
 vK (am 0 d) λe=>
 vK (ldV a e) λf=>
 vK (aR 1 f a1) λg=>
 vK (ldV a g) λi=>
 ae prog c5 #[i] a λj k=>
 R j k)
theorem BW (H:rX a0 a1 h R):ae prog js #[a0,a1] h R:=fk f134 (.s .z (.s (.s .z (.s (.s .z .z) .z)) (.s .z .z))) H
def gi (a0:Value)(h:af)(R:Value→af→Prop):Prop:=
 vK (ag .sl .eql a0 (.slice none 0 0)) λa=>
 aA a (
 R (.slice none 0 0) h) (
 cE #[] 22 0 [] h λb c=>
 cF (.int .u16 0) 22 1 2 b a0 c λd e=>
 R d e)
theorem lT (H:gi a0 h R):ae prog cQ #[a0] h R:=fk f135 (.s .z (.s (.s .z (.s (.s .z .z) .z)) (.s .z .z))) H
def GW (a0 a1 a2:Value)(h:af)(R:Value→af→Prop):Prop:=
 aP (Value.cells a0) 31 h λb a=>
 vK (am 0 b) λc=>
 vK (ldV a c) λd=>
 vK (ag .i .eql d (.int .i64 3)) λe=>
 aA e (
 vK (am 7 b) λf=>
 vK (ldV a f) λg=>
 vK (am 8 b) λj=>
 vK (ldV a j) λk=>
 R (.tuple #[g,k]) a) (
 R (.tuple #[a1,a2]) a)
theorem Qh (H:GW a0 a1 a2 h R):ae prog Fh #[a0,a1,a2] h R:=fk f136 (.s .z (.s (.s .z (.s (.s .z .z) .z)) (.s .z .z))) H
def AK (a0 a1 a2:Value)(h:af)(R:Value→af→Prop):Prop:=
 vK (ag .i .lss a0 (.int .i64 1)) λa=>
 vK (gV a false (some a0)) λe=>
 vK (gV a false (ag .i .gtr e (.int .i64 65536))) λf=>
 vK (az a (.bool true) f) λb=>
 vK (gV b false (some a1)) λg=>
 vK (gV b false (ag .i .lss g (.int .i64 1))) λj=>
 vK (az b (.bool true) j) λc=>
 vK (gV c false (some a1)) λk=>
 vK (gV c false (ag .i .gtr k (.int .i64 65536))) λl=>
 vK (az c (.bool true) l) λm=>
 aA m (
 R (.bool false) h) (
 vK (ag .i .neq a2 (.int .i64 1)) λd=>
 vK (gV d true (some a2)) λn=>
 vK (gV d true (ag .i .neq n (.int .i64 3))) λo=>
 vK (az d o (.bool false)) λp=>
 aA p (
 R (.bool false) h) (
 vK (ag .i .mul a0 a1) λq=>
 vK (ag .i .quo (.int .i64 268435456) a2) λr=>
 vK (ag .i .leq q r) λs=>
 R s h))
theorem Kq (H:AK a0 a1 a2 h R):ae prog q8 #[a0,a1,a2] h R:=fk f137 (.s .z (.s (.s .z (.s (.s .z .z) .z)) (.s (.s .z (.s (.s .z .z) .z)) (.s .z .z)))) H
def AJ (a0 a1 a2:Value)(h:af)(R:Value→af→Prop):Prop:=
 aP (Value.cells a0) 232 h λa bd=>
 aP #[(.slice none 0 0),(.slice none 0 0),(.int .i64 0),(.int .i64 0),(.int .i64 0)] 38 bd λb e=>
 vK (am 0 a) λbe=>
 vK (ldV e be) λbf=>
 vK (ag .i .lss bf (.int .i64 0)) λk=>
 vK (gV k false (am 0 a)) λbg=>
 vK (gV k false (ldV e bg)) λbh=>
 vK (gV k false (ag .i .gtr bh (.int .i64 3))) λbi=>
 vK (az k (.bool true) bi) λl=>
 vK (gV l false (am 1 a)) λbj=>
 vK (gV l false (ldV e bj)) λbk=>
 vK (gV l false (ag .i .lss bk (.int .i64 0))) λbl=>
 vK (az l (.bool true) bl) λm=>
 vK (gV m false (am 1 a)) λbm=>
 vK (gV m false (ldV e bm)) λbn=>
 vK (gV m false (ag .i .gtr bn (.int .i64 2))) λbo=>
 vK (az m (.bool true) bo) λn=>
 vK (gV n false (some a1)) λbp=>
 gK n false (λbq=>ae prog jQ #[bp] e bq) e λbr y=>
 vK (gV n false (unV .not br)) λbs=>
 vK (az n (.bool true) bs) λo=>
 vK (gV o false (some a2)) λbt=>
 gK o false (λbu=>ae prog jQ #[bt] y bu) y λbv t=>
 vK (gV o false (unV .not bv)) λbw=>
 vK (az o (.bool true) bw) λbx=>
 aA bx (
 vK ((aF #[(.slice none 0 0),(.slice none 0 0),(.int .i64 0),(.int .i64 0),(.int .i64 0)] []).map .agg) λbz=>
 stK 5 b bz t λeb z=>
 vK (aH 5 z b) λb0=>
 R (.tuple #[b0,(.int .i64 6)]) z) (
 vK (am 1 a) λb1=>
 vK (ldV t b1) λb2=>
 vK ((aF #[(.slice none 0 0),(.slice none 0 0),(.int .i64 0),(.int .i64 0),(.int .i64 0)] [(2,1,a1),(3,1,a2),(4,1,b2)]).map .agg) λb3=>
 aP #[(.slice none 0 0),(.slice none 0 0),(.int .i64 0),(.int .i64 0),(.int .i64 0)] 38 t λd b4=>
 stK 5 d b3 b4 λec c=>
 vK (am 0 a) λb5=>
 vK (ldV c b5) λb6=>
 vK (ag .i .eql b6 (.int .i64 3)) λb7=>
 aA b7 (
 vK (am 7 a) λb8=>
 vK (ldV c b8) λb9=>
 ae prog jQ #[b9] c λca u=>
 vK (unV .not ca) λg=>
 vK (gV g false (am 8 a)) λcb=>
 vK (gV g false (ldV u cb)) λcc=>
 gK g false (λcd=>ae prog jQ #[cc] u cd) u λce f=>
 vK (gV g false (unV .not ce)) λcf=>
 vK (az g (.bool true) cf) λp=>
 vK (gV p false (am 6 a)) λcg=>
 vK (gV p false (ldV f cg)) λch=>
 vK (gV p false (ag .i .lss ch (.int .i64 0))) λci=>
 vK (az p (.bool true) ci) λq=>
 vK (gV q false (am 6 a)) λcj=>
 vK (gV q false (ldV f cj)) λck=>
 vK (gV q false (ag .i .gtr ck (.int .i64 2))) λcl=>
 vK (az q (.bool true) cl) λcm=>
 aA cm (
 vK ((aF #[(.slice none 0 0),(.slice none 0 0),(.int .i64 0),(.int .i64 0),(.int .i64 0)] []).map .agg) λcn=>
 stK 5 b cn f λed aa=>
 vK (aH 5 aa b) λco=>
 R (.tuple #[co,(.int .i64 6)]) aa) (
 vK (am 6 a) λcp=>
 vK (ldV f cp) λcq=>
 vK (am 7 a) λcr=>
 vK (ldV f cr) λcs=>
 ae prog mz #[cq,a1,cs] f λab ct=>
 vK (aE ab 0) λcu=>
 vK (aE ab 1) λac=>
 vK (am 0 d) λcv=>
 stK 1 cv cu ct λee r=>
 vK (ag .i .neq ac (.int .i64 0)) λcw=>
 aA cw (
 vK ((aF #[(.slice none 0 0),(.slice none 0 0),(.int .i64 0),(.int .i64 0),(.int .i64 0)] []).map .agg) λcx=>
 stK 5 b cx r λef ad=>
 vK (aH 5 ad b) λcy=>
 R (.tuple #[cy,ac]) ad) (
 vK (am 6 a) λcz=>
 vK (ldV r cz) λc0=>
 vK (am 8 a) λc1=>
 vK (ldV r c1) λc2=>
 ae prog mz #[c0,a2,c2] r λah c3=>
 vK (aE ah 0) λc4=>
 vK (aE ah 1) λai=>
 vK (am 1 d) λc5=>
 stK 1 c5 c4 c3 λeg v=>
 vK (ag .i .neq ai (.int .i64 0)) λc6=>
 aA c6 (
 vK ((aF #[(.slice none 0 0),(.slice none 0 0),(.int .i64 0),(.int .i64 0),(.int .i64 0)] []).map .agg) λc7=>
 stK 5 b c7 v λeh aj=>
 vK (aH 5 aj b) λc8=>
 R (.tuple #[c8,ai]) aj) (
 vK (aH 5 v d) λc9=>
 stK 5 b c9 v λei ak=>
 vK (aH 5 ak b) λda=>
 R (.tuple #[da,(.int .i64 0)]) ak)))) (
 vK (am 0 a) λdb=>
 vK (ldV c db) λw=>
 dK (λj=>
 vK (ag .i .eql w (.int .i64 0)) λdc=>
 aA dc (
 vK (am 2 a) λdd=>
 vK (ldV c dd) λde=>
 ae prog nT #[de] c λal df=>
 vK (aE al 0) λan=>
 vK (aE al 1) λdg=>
 j [dg,an,an] df) (
 vK (ag .i .eql w (.int .i64 1)) λdh=>
 aA dh (
 vK (am 3 a) λdi=>
 vK (ldV c di) λdj=>
 ae prog wL #[dj] c λao dk=>
 vK (aE ao 0) λap=>
 vK (aE ao 1) λdl=>
 j [dl,ap,ap] dk) (
 vK (ag .i .eql w (.int .i64 2)) λdm=>
 aA dm (
 vK (am 4 a) λdn=>
 vK (ldV c dn) λdp=>
 ae prog mB #[dp] c λaq ar=>
 vK (aE aq 0) λau=>
 vK (aE aq 1) λav=>
 vK (am 5 a) λdq=>
 vK (ldV ar dq) λdr=>
 ae prog mB #[dr] ar λaw ax=>
 vK (aE aw 0) λay=>
 vK (aE aw 1) λds=>
 vK (ag .i .eql av (.int .i64 0)) λdt=>
 aA dt (
 j [ds,au,ay] ax) (
 j [av,au,ay] ax)) (
 j [(.int .i64 0),(.slice none 0 0),(.slice none 0 0)] c))))
 λs ej a3=>
 vK (ag .i .neq (ix s 0) (.int .i64 0)) λdu=>
 aA du (
 vK ((aF #[(.slice none 0 0),(.slice none 0 0),(.int .i64 0),(.int .i64 0),(.int .i64 0)] []).map .agg) λdv=>
 stK 5 b dv a3 λek a4=>
 vK (aH 5 a4 b) λdw=>
 R (.tuple #[dw,(ix s 0)]) a4) (
 ae prog mA #[(ix s 1),a1] a3 λa5 dx=>
 vK (aE a5 0) λdy=>
 vK (aE a5 1) λa6=>
 vK (am 0 d) λdz=>
 stK 1 dz dy dx λel a7=>
 vK (ag .i .neq a6 (.int .i64 0)) λd0=>
 aA d0 (
 vK ((aF #[(.slice none 0 0),(.slice none 0 0),(.int .i64 0),(.int .i64 0),(.int .i64 0)] []).map .agg) λd1=>
 stK 5 b d1 a7 λem a8=>
 vK (aH 5 a8 b) λd2=>
 R (.tuple #[d2,a6]) a8) (
 ae prog mA #[(ix s 2),a2] a7 λa9 d3=>
 vK (aE a9 0) λd4=>
 vK (aE a9 1) λba=>
 vK (am 1 d) λd5=>
 stK 1 d5 d4 d3 λen x=>
 vK (ag .i .neq ba (.int .i64 0)) λd6=>
 aA d6 (
 vK ((aF #[(.slice none 0 0),(.slice none 0 0),(.int .i64 0),(.int .i64 0),(.int .i64 0)] []).map .agg) λd7=>
 stK 5 b d7 x λeo bb=>
 vK (aH 5 bb b) λd8=>
 R (.tuple #[d8,ba]) bb) (
 vK (aH 5 x d) λd9=>
 stK 5 b d9 x λep bc=>
 vK (aH 5 bc b) λea=>
 R (.tuple #[ea,(.int .i64 0)]) bc)))))
theorem Ko (H:AJ a0 a1 a2 h R):ae prog wK #[a0,a1,a2] h R:=fk f138 (.s .z (.s (.s .z (.s (.s .z .z) .z)) (.s .z (.s .z (.s (.s .z (.s (.s (.s .z (.s (.s .z .z) .z)) (.s .z (.s (.s .z (.s (.s .z .z) .z)) (.s .z (.s (.s .z (.s (.s .z .z) .z)) (.s .z .z)))))) .z)) (.s .z (.s .z (.s (.s .z (.m 174224571858449890892334881399078511451648 [9,10,11] (.s .z (.s (.s .z .z) (.s .z (.s (.s .z .z) (.s .z (.s (.s .z (.s .z (.s .z (.s .z (.s .z .z))))) .z)))))))) (.s (.s .z (.s (.s .z .z) .z)) (.s .z (.s (.s .z (.s (.s .z .z) .z)) (.s .z (.s (.s .z (.s (.s .z .z) .z)) (.s .z .z)))))))))))))) H
def AI (a0 a1 a2:Value)(h:af)(R:Value→af→Prop):Prop:=
 aP (Value.cells a0) 232 h λb a=>
 vK (am 0 b) λc=>
 vK (ldV a c) λd=>
 vK (ag .i .eql d (.int .i64 3)) λe=>
 aA e (
 vK (am 7 b) λf=>
 vK (ldV a f) λg=>
 vK (am 8 b) λj=>
 vK (ldV a j) λk=>
 R (.tuple #[g,k]) a) (
 R (.tuple #[a1,a2]) a)
theorem Kn (H:AI a0 a1 a2 h R):ae prog wJ #[a0,a1,a2] h R:=fk f139 (.s .z (.s (.s .z (.s (.s .z .z) .z)) (.s .z .z))) H
def C9 (a0:Value)(h:af)(R:Value→af→Prop):Prop:=
 aP (Value.cells a0) 31 h λb e=>
 aP #[(.int .i64 0),(.int .i64 0),(.int .i64 0),(.int .i64 0),(.slice none 0 0),(.slice none 0 0),(.int .i64 0),(.int .i64 0),(.int .i64 0)] 232 e λc a=>
 vK (am 0 b) λf=>
 vK (ldV a f) λg=>
 vK (am 1 b) λi=>
 vK (ldV a i) λj=>
 vK (am 2 b) λk=>
 vK (ldV a k) λl=>
 vK (am 3 b) λm=>
 vK (ldV a m) λn=>
 vK (am 4 b) λo=>
 vK (ldV a o) λp=>
 vK (am 5 b) λq=>
 vK (ldV a q) λr=>
 vK (am 6 b) λs=>
 vK (ldV a s) λt=>
 vK (am 7 b) λu=>
 vK (ldV a u) λv=>
 vK (am 8 b) λw=>
 vK (ldV a w) λx=>
 vK ((aF #[(.int .i64 0),(.int .i64 0),(.int .i64 0),(.int .i64 0),(.slice none 0 0),(.slice none 0 0),(.int .i64 0),(.int .i64 0),(.int .i64 0)] [(0,1,g),(1,1,j),(2,1,l),(3,1,n),(4,1,p),(5,1,r),(6,1,t),(7,1,v),(8,1,x)]).map .agg) λy=>
 stK 9 c y a λaa d=>
 vK (aH 9 d c) λz=>
 R z d
theorem MP (H:C9 a0 h R):ae prog zP #[a0] h R:=fk f140 (.s .z (.s .z .z)) H
def AG (a0:Value)(h:af)(R:Value→af→Prop):Prop:=
 vK (aq a0) λf=>
 aU [(.int .i64 0),(.int .i64 0)] h λa v c e=>
 vK (ag .i .lss (ix a 1) f) λg=>
 aA g (
 vK (aR 2 a0 (ix a 1)) λj=>
 vK (aH 2 c j) λk=>
 aP #[(.int .i64 0),(.slice none 0 0)] 240 c λd l=>
 stK 2 d k l λw b=>
 vK (am 1 d) λm=>
 vK (ldV b m) λn=>
 vK (aq n) λo=>
 vK (ag .i .gtr o (ix a 0)) λp=>
 aA p (
 vK (am 1 d) λq=>
 vK (ldV b q) λr=>
 vK (aq r) λs=>
 vK (ag .i .add (ix a 1) (.int .i64 1)) λt=>
 e [s,t] b) (
 vK (ag .i .add (ix a 1) (.int .i64 1)) λu=>
 e [(ix a 0),u] b)) (
 R (ix a 0) c)
theorem Kl (H:AG a0 h R):ae prog wI #[a0] h R:=fk f141 (.s .z (.s .z (.s (.s .z (.l 2096936 [3,8] (.s .z (.s (.s .z .z) (.s (.s .z (.s .z (.s .z .z))) .z))))) (.s .z .z)))) H
def xS (a0 a1 a2:Value)(h:af)(R:Value→af→Prop):Prop:=
 vK (aq a0) λr=>
 aU [(.int .i64 0),(.int .i64 0),(.bool false),(.int .i64 0)] h λa a4 j m=>
 vK (ag .i .lss (ix a 3) r) λs=>
 aA s (
 vK (aR 2 a0 (ix a 3)) λt=>
 vK (aH 2 j t) λu=>
 aP #[(.int .i64 0),(.slice none 0 0)] 240 j λk v=>
 stK 2 k u v λa5 l=>
 vK (ag .i .lss (ix a 3) a1) λd=>
 vK (gV d false (some (ix a 3))) λw=>
 vK (gV d false (some a2)) λx=>
 vK (gV d false (ag .i .geq w x)) λy=>
 vK (az d (.bool true) y) λz=>
 aA z (
 vK (ag .i .add (ix a 3) (.int .i64 1)) λaa=>
 m [(ix a 0),(ix a 1),(ix a 2),aa] l) (
 vK (am 1 k) λab=>
 vK (ldV l ab) λac=>
 vK (aq ac) λad=>
 aU [(ix a 0),(ix a 1),(ix a 2),(.int .i64 0)] l λb a6 e n=>
 vK (ag .i .lss (ix b 3) ad) λae=>
 aA ae (
 vK (am 0 k) λah=>
 vK (ldV e ah) λai=>
 vK (ag .i .add ai (ix b 3)) λf=>
 dK (λo=>
 vK (unV .not (ix b 2)) λg=>
 vK (gV g false (some f)) λaj=>
 vK (gV g false (some (ix b 0))) λak=>
 vK (gV g false (ag .i .lss aj ak)) λal=>
 vK (az g (.bool true) al) λan=>
 aA an (
 o [f] e) (
 o [(ix b 0)] e))
 λp a7 q=>
 vK (unV .not (ix b 2)) λc=>
 vK (gV c false (some f)) λao=>
 vK (gV c false (ag .i .add ao (.int .i64 1))) λap=>
 vK (gV c false (some (ix b 1))) λar=>
 vK (gV c false (ag .i .gtr ap ar)) λau=>
 vK (az c (.bool true) au) λav=>
 aA av (
 vK (ag .i .add f (.int .i64 1)) λaw=>
 vK (ag .i .add (ix b 3) (.int .i64 1)) λax=>
 n [(ix p 0),aw,(.bool true),ax] q) (
 vK (ag .i .add (ix b 3) (.int .i64 1)) λay=>
 n [(ix p 0),(ix b 1),(.bool true),ay] q)) (
 vK (ag .i .add (ix a 3) (.int .i64 1)) λa3=>
 m [(ix b 0),(ix b 1),(ix b 2),a3] e))) (
 R (.tuple #[(ix a 0),(ix a 1),(ix a 2)]) j)
theorem HE (H:xS a0 a1 a2 h R):ae prog oC #[a0,a1,a2] h R:=fk f142 (.s .z (.s .z (.s .z (.s .z (.s (.s .z (.l 2305843009213496832 [9,10,11,18] (.s .z (.s (.s .z .z) (.s (.s .z (.s (.s .z (.s .z .z)) (.s .z (.l 1152921487427030528 [9,10,11,34] (.s .z (.s (.s .z .z) (.s (.s .z (.s .z (.j 560750930166272 [9] (.s .z (.s .z .z)) (.s (.s .z (.s .z .z)) .z)))) .z))))))) .z))))) (.s .z .z)))))) H
def Fo (a0 a1:Value)(h:af)(R:Value→af→Prop):Prop:=
 vK (aq a0) λc=>
 aU [(.int .i64 0)] h λb l a d=>
 vK (ag .i .lss (ix b 0) c) λe=>
 aA e (
 vK (aR 1 a0 (ix b 0)) λf=>
 vK (ldV a f) λg=>
 vK (ag .i .eql g a1) λj=>
 aA j (
 R (.bool true) a) (
 vK (ag .i .add (ix b 0) (.int .i64 1)) λk=>
 d [k] a)) (
 R (.bool false) a)
theorem Oh (H:Fo a0 a1 h R):ae prog Cv #[a0,a1] h R:=fk f143 (.s .z (.s (.s .z (.l 130640 [9] (.s .z (.s (.s .z .z) (.s (.s .z (.s .z (.s (.s .z .z) .z))) .z))))) (.s .z .z))) H
def tP (a0 a1:Value)(h:af)(R:Value→af→Prop):Prop:=
 vK (ag .i .geq a1 (.int .i64 0)) λa=>
 vK (gV a true (some a1)) λb=>
 vK (gV a true (some a0)) λc=>
 vK (gV a true (aK c)) λd=>
 vK (gV a true (am 0 d)) λe=>
 vK (gV a true (ldV h e)) λf=>
 vK (gV a true (aq f)) λg=>
 vK (gV a true (ag .i .lss b g)) λj=>
 vK (az a j (.bool false)) λk=>
 R k h
theorem DF (H:tP a0 a1 h R):ae prog ir #[a0,a1] h R:=fk f144 (.s .z (.s .z .z)) H
def iz (a0:Value)(h:af)(R:Value→af→Prop):Prop:=
 dK (λc=>
 vK (aq a0) λe=>
 vK (ag .i .lss e (.int .i64 1)) λf=>
 aA f (
 Ji h λs g=>
 c [] g) (
 c [] h))
 λt u d=>
 vK (aR 1 a0 (.int .i64 0)) λj=>
 vK (ldV d j) λk=>
 aU [k,(.int .i64 1)] d λa v b l=>
 vK (aq a0) λm=>
 vK (ag .i .lss (ix a 1) m) λn=>
 aA n (
 vK (aR 1 a0 (ix a 1)) λo=>
 vK (ldV b o) λp=>
 vK (pF (ix a 0) p) λq=>
 vK (ag .i .add (ix a 1) (.int .i64 1)) λr=>
 l [q,r] b) (
 R (ix a 0) b)
theorem pC (H:iz a0 h R):ae prog ft #[a0] h R:=fk f145 (.s .z (.j 480 [] (.s .z (.s .z .z)) (.s .z (.s (.s .z (.l 16773144 [3,4] (.s (.s .z (.s .z .z)) (.s .z .z)))) (.s .z .z))))) H
def Bd (a0 a1:Value)(h:af)(R:Value→af→Prop):Prop:=
 vK (aq a0) λk=>
 vK (aq a1) λl=>
 vK (ia k l) λf=>
 mkK (.int .i64 0) 3 1 8 f f h λb m=>
 Ch 1 b a0 m λap n=>
 vK (aq a1) λo=>
 aU [(.int .i64 0)] n λa ar c g=>
 vK (ag .i .lss (ix a 0) o) λp=>
 aA p (
 vK (aR 1 a1 (ix a 0)) λq=>
 vK (ldV c q) λj=>
 vK (aq a0) λr=>
 vK (ag .i .geq (ix a 0) r) λs=>
 aA s (
 vK (ia (.int .i64 0) j) λt=>
 vK (aR 1 b (ix a 0)) λu=>
 stK 1 u t c λau v=>
 vK (ag .i .add (ix a 0) (.int .i64 1)) λw=>
 g [w] v) (
 vK (aR 1 b (ix a 0)) λx=>
 vK (ldV c x) λy=>
 vK (ia y j) λz=>
 vK (aR 1 b (ix a 0)) λaa=>
 stK 1 aa z c λav ab=>
 vK (ag .i .add (ix a 0) (.int .i64 1)) λac=>
 g [ac] ab)) (
 vK (aq a1) λad=>
 aU [ad] c λd aw e ae=>
 vK (aq a0) λah=>
 vK (ag .i .lss (ix d 0) ah) λai=>
 aA ai (
 vK (aR 1 b (ix d 0)) λaj=>
 vK (ldV e aj) λak=>
 vK (ia (.int .i64 0) ak) λal=>
 vK (aR 1 b (ix d 0)) λam=>
 stK 1 am al e λax an=>
 vK (ag .i .add (ix d 0) (.int .i64 1)) λao=>
 ae [ao] an) (
 R b e))
theorem KP (H:Bd a0 a1 h R):ae prog w7 #[a0,a1] h R:=fk f146 (.s .z (.s .z (.s .z (.s (.s .z (.l 17592184996032 [20] (.s .z (.s (.s .z .z) (.s (.s .z (.s .z (.s .z .z))) .z))))) (.s (.s .z (.l 1152851135862669568 [8] (.s (.s .z (.s .z .z)) (.s .z .z)))) (.s .z .z)))))) H
def rH (a0:Value)(h:af)(R:Value→af→Prop):Prop:=
 vK (aK a0) λa=>
 vK (am 0 a) λb=>
 vK (ldV h b) λc=>
 vK (aK a0) λd=>
 vK (am 1 d) λe=>
 vK (ldV h e) λf=>
 vK (ag .i .mul c f) λg=>
 R g h
theorem BJ (H:rH a0 h R):ae prog mq #[a0] h R:=fk f147 (.s .z (.s .z .z)) H
def De (a0 a1 a2:Value)(h:af)(R:Value→af→Prop):Prop:=
 vK (ag .i .lss a2 (.int .i64 1)) λa=>
 vK (gV a false (some a2)) λc=>
 vK (gV a false (ag .i .gtr c (.int .i64 65536))) λd=>
 vK (az a (.bool true) d) λe=>
 aA e (
 R (.int .i64 0) h) (
 vK (ag .i .eql a0 (.int .i64 0)) λf=>
 aA f (
 vK (ag .i .sub a2 (.int .i64 1)) λg=>
 ae prog oK #[a1,(.int .i64 0),g] h λj k=>
 R j k) (
 vK (ag .i .eql a0 (.int .i64 1)) λl=>
 aA l (
 vK (ag .i .mul (.int .i64 2) a2) λm=>
 ae prog pV #[a1,m] h λb n=>
 vK (ag .i .mul (.int .i64 2) a2) λo=>
 vK (ag .i .sub o (.int .i64 1)) λp=>
 vK (ag .i .sub p b) λq=>
 vK (pF b q) λr=>
 R r n) (
 vK (ag .i .eql a0 (.int .i64 2)) λs=>
 aA s (
 ae prog pV #[a1,a2] h λt u=>
 R t u) (
 R (.int .i64 0) h))))
theorem MU (H:De a0 a1 a2 h R):ae prog jI #[a0,a1,a2] h R:=fk f148 (.s .z (.s (.s .z (.s (.s .z .z) .z)) (.s (.s .z (.s .z (.s (.s .z .z) (.s .z (.s (.s .z (.s .z .z)) (.s .z (.s (.s .z .z) .z))))))) (.s .z .z)))) H
def vj (a0 a1:Value)(h:af)(R:Value→af→Prop):Prop:=
 aP #[(.int .i64 0),(.int .i64 0),(.int .i64 0),(.int .i64 0)] 114 h λe b=>
 bC b λS=>
 vK (aK a0) λl=>
 vK (am 3 l) λm=>
 qK S (λb=>ldV b m) λn=>
 vK (aK a0) λo=>
 vK (am 4 o) λp=>
 qK S (λb=>ldV b p) λq=>
 ae prog fD #[a0] b λr f=>
 S f∧(vK (ag .i .rem a1 r) λs=>
 vK (ag .i .mul s n) λg=>
 ae prog fD #[a0] f λt a=>
 S a∧(vK (ag .i .quo a1 t) λu=>
 vK (ag .i .mul u q) λj=>
 bC a λS=>
 vK (aK a0) λv=>
 vK (am 3 v) λw=>
 qK S (λa=>ldV a w) λx=>
 vK (aK a0) λy=>
 vK (am 0 y) λz=>
 vK (am 0 z) λaa=>
 qK S (λa=>ldV a aa) λab=>
 vK (aK a0) λac=>
 vK (am 4 ac) λad=>
 qK S (λa=>ldV a ad) λah=>
 vK (aK a0) λai=>
 vK (am 0 ai) λaj=>
 vK (am 1 aj) λak=>
 qK S (λa=>ldV a ak) λal=>
 ae prog bB #[ab] a λan c=>
 S c∧(vK (ag .i .sub an g) λao=>
 qK S (λc=>pF x ao) λap=>
 ae prog bB #[al] c λaq d=>
 S d∧(vK (ag .i .sub aq j) λar=>
 qK S (λd=>pF ah ar) λau=>
 vK ((aF #[(.int .i64 0),(.int .i64 0),(.int .i64 0),(.int .i64 0)] [(0,1,g),(1,1,j),(2,1,ap),(3,1,au)]).map .agg) λav=>
 stK 4 e av d λax k=>
 vK (aH 4 k e) λaw=>
 R aw k))))
theorem EA (H:vj a0 a1 h R):ae prog kL #[a0,a1] h R:=fk f149 (.s .z (.s (.d (.op 0 .r (.op 1 .r (.op 4 .r (.op 5 .r (.op 6 .r (.op 7 .r (.op 9 .r (.op 10 .r (.op 13 .r (.op 14 .r (.op 15 .r (.op 16 .r (.op 2 .e (.op 3 .r (.op 8 .r (.op 11 .e (.op 12 .r (.op 17 .r (.op 18 .r (.op 19 .r .nil))))))))))))))))))))) (.s (.d (.op 0 .r (.op 1 .r (.op 2 .r (.op 3 .r (.op 4 .r (.op 5 .r (.op 6 .r (.op 7 .r (.op 8 .r (.op 9 .r (.op 10 .r (.op 12 .r (.op 15 .r (.op 16 .r (.op 17 .r (.op 18 .r (.op 19 .r (.op 20 .r (.op 21 .r (.op 22 .r (.op 23 .r (.op 25 .r (.op 11 .e (.op 13 .r (.op 14 .r (.op 24 .e (.op 26 .r (.op 27 .r (.op 28 .r (.op 29 .n .nil))))))))))))))))))))))))))))))) .z))) H
def qu (a0:Value)(h:af)(R:Value→af→Prop):Prop:=
 vK (aK a0) λa=>
 vK (am 2 a) λb=>
 vK (ldV h b) λc=>
 R c h
theorem Ao (H:qu a0 h R):ae prog eF #[a0] h R:=fk f150 (.s .z (.s .z .z)) H
def oR (a0 a1 a2:Value)(h:af)(R:Value→af→Prop):Prop:=
 vK (ia a1 (.int .i64 0)) λd=>
 vK (aK a0) λk=>
 vK (am 1 k) λl=>
 vK (ldV h l) λm=>
 vK (aq m) λn=>
 vK (pF a2 n) λf=>
 vK (ag .i .geq d f) λo=>
 aA o (
 R (.tuple #[(.int .i64 0),(.int .i64 0)]) h) (
 vK (aK a0) λp=>
 vK (am 1 p) λq=>
 vK (ldV h q) λr=>
 vK (aR 2 r d) λs=>
 vK (am 0 s) λt=>
 vK (ldV h t) λg=>
 vK (aK a0) λu=>
 vK (am 1 u) λv=>
 vK (ldV h v) λw=>
 vK (un 2 w (some d) (some f)) λj=>
 vK (aq j) λx=>
 aU [g,g,(.int .i64 0)] h λa av e y=>
 vK (ag .i .lss (ix a 2) x) λz=>
 aA z (
 vK (aR 2 j (ix a 2)) λaa=>
 vK (aH 2 e aa) λab=>
 aP #[(.int .i64 0),(.slice none 0 0)] 189 e λb ac=>
 stK 2 b ab ac λaw c=>
 vK (am 0 b) λad=>
 vK (ldV c ad) λae=>
 vK (pF (ix a 0) ae) λah=>
 vK (am 0 b) λai=>
 vK (ldV c ai) λaj=>
 vK (am 1 b) λak=>
 vK (ldV c ak) λal=>
 vK (aq al) λan=>
 vK (ag .i .add aj an) λao=>
 vK (ia (ix a 1) ao) λap=>
 vK (ag .i .add (ix a 2) (.int .i64 1)) λar=>
 y [ah,ap,ar] c) (
 vK (ag .i .sub (ix a 1) (ix a 0)) λau=>
 R (.tuple #[(ix a 0),au]) e))
theorem yM (H:oR a0 a1 a2 h R):ae prog fB #[a0,a1,a2] h R:=fk f151 (.s .z (.s .z (.s (.s .z (.s (.s .z .z) .z)) (.s .z (.s .z (.s (.s .z (.l 144114088564229440 [6,8,40] (.s .z (.s (.s .z .z) (.s (.s .z (.s .z .z)) .z))))) (.s .z .z))))))) H
def eE (a0:Value)(h:af)(R:Value→af→Prop):Prop:=
 vK (ag .sl .eql a0 (.slice none 0 0)) λa=>
 aA a (
 R (.slice none 0 0) h) (
 cE #[] 2 0 [] h λb c=>
 cF (.int .i64 0) 2 1 8 b a0 c λd e=>
 R d e)
theorem gZ (H:eE a0 h R):ae prog cC #[a0] h R:=fk f152 (.s .z (.s (.s .z (.s (.s .z .z) .z)) (.s .z .z))) H
def gN (a0:Value)(h:af)(R:Value→af→Prop):Prop:=
 vK (ag .sl .eql a0 (.slice none 0 0)) λa=>
 aA a (
 R (.slice none 0 0) h) (
 cE #[] 3 0 [] h λb c=>
 cF (.int .i64 0) 3 1 8 b a0 c λd e=>
 R d e)
theorem mL (H:gN a0 h R):ae prog c5 #[a0] h R:=fk f153 (.s .z (.s (.s .z (.s (.s .z .z) .z)) (.s .z .z))) H
def yx (a0 a1:Value)(h:af)(R:Value→af→Prop):Prop:=
 vK (aq a0) λc=>
 vK (aq a1) λd=>
 vK (ag .i .neq c d) λe=>
 aA e (
 R (.bool false) h) (
 vK (aq a0) λf=>
 aU [(.int .i64 0)] h λb q a g=>
 vK (ag .i .lss (ix b 0) f) λj=>
 aA j (
 vK (aR 1 a0 (ix b 0)) λk=>
 vK (ldV a k) λl=>
 vK (aR 1 a1 (ix b 0)) λm=>
 vK (ldV a m) λn=>
 vK (ag .i .gtr l n) λo=>
 aA o (
 R (.bool false) a) (
 vK (ag .i .add (ix b 0) (.int .i64 1)) λp=>
 g [p] a)) (
 R (.bool true) a))
theorem Iu (H:yx a0 a1 h R):ae prog uR #[a0,a1] h R:=fk f157 (.s .z (.s (.s .z (.s (.s .z .z) .z)) (.s (.s .z (.l 67100720 [13] (.s .z (.s (.s .z .z) (.s (.s .z (.s .z (.s (.s .z .z) .z))) .z))))) (.s .z .z)))) H
def yz (a0 a1:Value)(h:af)(R:Value→af→Prop):Prop:=
 ae prog eJ #[a0,a1] h λa b=>
 R a b
theorem Iw (H:yz a0 a1 h R):ae prog uS #[a0,a1] h R:=fk f158 (.s .z (.s .z .z)) H
def AE (a0:Value)(h:af)(R:Value→af→Prop):Prop:=
 vK (ag .i .geq a0 (.int .i64 1)) λa=>
 vK (gV a true (some a0)) λb=>
 vK (gV a true (ag .i .leq b (.int .i64 65536))) λc=>
 vK (az a c (.bool false)) λd=>
 R d h
theorem Kj (H:AE a0 h R):ae prog mh #[a0] h R:=fk f162 (.s .z (.s .z .z)) H
def GU (a0 a1 a2 a3:Value)(h:af)(R:Value→af→Prop):Prop:=
 ae prog wO #[a0,a1,a2,a3] h λb e=>
 vK (aE b 0) λc=>
 vK (aE b 1) λf=>
 aU [(.slice none 0 0),(.int .i64 0)] e λa s d g=>
 vK (ag .i .lss (ix a 1) f) λj=>
 aA j (
 vK (ag .i .add c (ix a 1)) λk=>
 ae prog zN #[a0,a1,a2,a3,k] d λl m=>
 cE #[(.int .i64 0)] 2 1 [(0,1,l)] m λn o=>
 cF (.int .i64 0) 2 1 8 (ix a 0) n o λp q=>
 vK (ag .i .add (ix a 1) (.int .i64 1)) λr=>
 g [p,r] q) (
 R (.tuple #[c,(ix a 0)]) d)
theorem Qf (H:GU a0 a1 a2 a3 h R):ae prog Aj #[a0,a1,a2,a3] h R:=fk f163 (.s .z (.s .z (.s (.s .z (.l 68717382144 [9,21] (.s .z (.s (.s .z .z) (.s (.s .z .z) .z))))) (.s .z .z)))) H
def tj (a0:Value)(h:af)(R:Value→af→Prop):Prop:=
 ae prog wG #[a0] h λt u=>
 vK (ag .i .neq t (.int .i64 0)) λbw=>
 aA bw (
 R (.tuple #[(.slice none 0 0),t]) u) (
 ae prog wH #[a0] u λv f=>
 dK (λbx=>
 bC f λS=>
 qK S (λf=>aq a0) λa=>
 qK S (λf=>aq a0) λb=>
 qK S (λf=>aq a0) λc=>
 (λC22:Value→Value→Value→Value→af→Prop=>
 (λC29:Value→Value→Value→Value→af→Prop=>
 (λC35:Value→Value→Value→Value→af→Prop=>
 (λC43:Value→Value→Value→af→Prop=>
 (λC51:Value→Value→Value→af→Prop=>
 (λC58:Value→Value→Value→af→Prop=>
 (λC63:Value→Value→Value→af→Prop=>
 (λC68:Value→Value→Value→af→Prop=>
 (λC75:Value→Value→Value→af→Prop=>
 (λC83:Value→Value→af→Prop=>
 (λC91:Value→Value→af→Prop=>
 (λC99:Value→Value→af→Prop=>
 (λC107:Value→Value→af→Prop=>
 (λC115:Value→Value→af→Prop=>
 (λC123:Value→Value→af→Prop=>
 (mkK (.int .i64 0) 2 1 8 a a f λo j=>
 S j∧((mkK (.int .i64 0) 3 1 8 b b j λbz w=>
 S w∧(C83 o bz w))∧((mkK (.int .i64 0) 2 1 8 c c j λb0 x=>
 S x∧(C91 o b0 x))∧(aP #[(.slice none 0 0)] 28 j λb1 y=>
 S y∧(C99 o b1 y)))))∧((mkK (.int .i64 0) 3 1 8 b b f λp k=>
 S k∧((mkK (.int .i64 0) 2 1 8 a a k λb2 z=>
 S z∧(C83 b2 p z))∧((mkK (.int .i64 0) 2 1 8 c c k λb3 aa=>
 S aa∧(C107 p b3 aa))∧(aP #[(.slice none 0 0)] 28 k λb4 ab=>
 S ab∧(C115 p b4 ab)))))∧((mkK (.int .i64 0) 2 1 8 c c f λq l=>
 S l∧((mkK (.int .i64 0) 2 1 8 a a l λb5 ac=>
 S ac∧(C91 b5 q ac))∧((mkK (.int .i64 0) 3 1 8 b b l λb6 ad=>
 S ad∧(C107 b6 q ad))∧(aP #[(.slice none 0 0)] 28 l λb7 ah=>
 S ah∧(C123 q b7 ah)))))∧(aP #[(.slice none 0 0)] 28 f λr m=>
 S m∧((mkK (.int .i64 0) 2 1 8 a a m λb8 ai=>
 S ai∧(C99 b8 r ai))∧((mkK (.int .i64 0) 3 1 8 b b m λb9 aj=>
 S aj∧(C115 b9 r aj))∧(mkK (.int .i64 0) 2 1 8 c c m λca ak=>
 S ak∧(C123 ca r ak)))))))) (λal am an=>
 (mkK (.int .i64 0) 2 1 8 a a an λcb ao=>
 S ao∧(C68 cb al am ao))∧(mkK (.int .i64 0) 3 1 8 b b an λcc ap=>
 S ap∧(C75 cc al am ap)))) (λar au av=>
 (mkK (.int .i64 0) 2 1 8 a a av λcd aw=>
 S aw∧(C63 cd ar au aw))∧(mkK (.int .i64 0) 2 1 8 c c av λce ax=>
 S ax∧(C75 ar ce au ax)))) (λay az a1=>
 (mkK (.int .i64 0) 2 1 8 a a a1 λcf a2=>
 S a2∧(C58 cf ay az a2))∧(aP #[(.slice none 0 0)] 28 a1 λcg a3=>
 S a3∧(C75 ay az cg a3)))) (λa4 a5 a6=>
 (mkK (.int .i64 0) 3 1 8 b b a6 λch a7=>
 S a7∧(C43 ch a5 a4 a7))∧(mkK (.int .i64 0) 2 1 8 c c a6 λci a8=>
 S a8∧(C51 ci a5 a4 a8)))) (λa9 ba bb=>
 (mkK (.int .i64 0) 3 1 8 b b bb λcj bc=>
 S bc∧(C58 a9 cj ba bc))∧(aP #[(.slice none 0 0)] 28 bb λck bd=>
 S bd∧(C68 a9 ba ck bd)))) (λbe bf bg=>
 (mkK (.int .i64 0) 2 1 8 c c bg λcl bh=>
 S bh∧(C58 be bf cl bh))∧(aP #[(.slice none 0 0)] 28 bg λcm bi=>
 S bi∧(C63 be bf cm bi)))) (λcn co cp cq=>
 mkK (.int .i64 0) 2 1 8 a a cq λcr bj=>
 S bj∧(C35 cr cn co cp bj))) (λcs ct cu cv=>
 C51 ct cu cs cv)) (λcw cx cy cz=>
 C43 cx cy cw cz)) (λc0 c1 c2 c3=>
 aP #[(.slice none 0 0)] 28 c3 λc4 bk=>
 S bk∧(C35 c0 c1 c2 c4 bk))) (λc5 c6 c7 c8=>
 mkK (.int .i64 0) 3 1 8 b b c8 λc9 bl=>
 S bl∧(C29 c9 c5 c6 c7 bl))) (λda db dc dd=>
 mkK (.int .i64 0) 2 1 8 c c dd λde bm=>
 S bm∧(C22 de db dc da bm))) (λdf dg dh di dj=>
 C29 dg dh di df dj)) (λdk dl dm dn dp=>
 C22 dl dm dn dk dp)) (λdq bn dr ds dt=>
 stK 1 bn dq dt λen bo=>
 S bo∧(bx [dr,ds,bn] bo)))
 λd eo du=>
 vK (aq a0) λdv=>
 aU [(.int .i64 16384),(.int .i64 0)] du λe ep g dw=>
 vK (ag .i .lss (ix e 1) dv) λdx=>
 aA dx (
 vK (aR 1 a0 (ix e 1)) λdy=>
 vK (ldV g dy) λbp=>
 bC g λS=>
 qK S (λg=>ldV g (ix d 2)) λdz=>
 vK (ag .i .mul bp (.int .i64 16384)) λd0=>
 vK (ag .i .mul bp (.int .i64 16384)) λd1=>
 ae prog iY #[d0,v] g λd2 bq=>
 S bq∧(ae prog pV #[d1,v] bq λd3 br=>
 S br∧(vK (aR 1 (ix d 0) (ix e 1)) λd4=>
 stK 1 d4 d2 br λeq bs=>
 S bs∧(vK (aR 1 dz (ix e 1)) λd5=>
 stK 1 d5 d3 bs λer d6=>
 vK (aR 1 (ix d 1) (ix e 1)) λd7=>
 stK 1 d7 (ix e 1) d6 λes bt=>
 vK (aR 1 (ix d 0) (ix e 1)) λd8=>
 vK (ldV bt d8) λd9=>
 vK (ag .i .sub (ix e 0) d9) λea=>
 vK (ag .i .add (ix e 1) (.int .i64 1)) λeb=>
 dw [ea,eb] bt)))) (
 ae prog dB #[(ix d 1),(.func (.func kc) #[] #[(ix d 2)])] g λet ec=>
 vK (un 1 (ix d 1) none (some (ix e 0))) λbu=>
 vK (aq bu) λed=>
 aU [(.int .i64 0)] ec λs eu n ee=>
 vK (ag .i .lss (ix s 0) ed) λef=>
 aA ef (
 vK (aR 1 bu (ix s 0)) λeg=>
 vK (ldV n eg) λbv=>
 vK (aR 1 (ix d 0) bv) λeh=>
 vK (ldV n eh) λei=>
 vK (ag .i .add ei (.int .i64 1)) λej=>
 vK (aR 1 (ix d 0) bv) λek=>
 stK 1 ek ej n λev el=>
 vK (ag .i .add (ix s 0) (.int .i64 1)) λem=>
 ee [em] el) (
 R (.tuple #[(ix d 0),(.int .i64 0)]) n)))
theorem Dp (H:tj a0 h R):ae prog ij #[a0] h R:=fk f164 (.s .z (.s (.s .z (.s .z (.s (.s .z .z) .z))) (.s .z (.j 1071645568 [7,8,9] (.d (.op 0 .r (.op 1 .r (.op 3 .r (.op 4 .r (.op 6 .r (.op 7 .r (.alt (.op 2 .e (.alt (.op 5 .e (.alt (.op 8 .e (.op 9 .e (.op 10 .r (.op 11 .r (.op 12 .e .nil))))) (.op 9 .e (.op 10 .r (.op 11 .r (.op 8 .e (.op 12 .e .nil))))))) (.alt (.op 8 .e (.alt (.op 5 .e (.op 9 .e (.op 10 .r (.op 11 .r (.op 12 .e .nil))))) (.op 9 .e (.op 10 .r (.op 5 .e (.op 11 .r (.op 12 .e .nil))))))) (.op 9 .e (.op 10 .r (.alt (.op 5 .e (.op 11 .r (.op 8 .e (.op 12 .e .nil)))) (.op 8 .e (.op 5 .e (.op 11 .r (.op 12 .e .nil)))))))))) (.alt (.op 5 .e (.alt (.op 2 .e (.alt (.op 8 .e (.op 9 .e (.op 10 .r (.op 11 .r (.op 12 .e .nil))))) (.op 9 .e (.op 10 .r (.op 11 .r (.op 8 .e (.op 12 .e .nil))))))) (.alt (.op 8 .e (.alt (.op 2 .e (.op 9 .e (.op 10 .r (.op 11 .r (.op 12 .e .nil))))) (.op 9 .e (.op 2 .e (.op 10 .r (.op 11 .r (.op 12 .e .nil))))))) (.op 9 .e (.alt (.op 2 .e (.op 10 .r (.op 11 .r (.op 8 .e (.op 12 .e .nil))))) (.op 8 .e (.op 2 .e (.op 10 .r (.op 11 .r (.op 12 .e .nil)))))))))) (.alt (.op 8 .e (.alt (.op 2 .e (.alt (.op 5 .e (.op 9 .e (.op 10 .r (.op 11 .r (.op 12 .e .nil))))) (.op 9 .e (.op 10 .r (.op 5 .e (.op 11 .r (.op 12 .e .nil))))))) (.alt (.op 5 .e (.alt (.op 2 .e (.op 9 .e (.op 10 .r (.op 11 .r (.op 12 .e .nil))))) (.op 9 .e (.op 2 .e (.op 10 .r (.op 11 .r (.op 12 .e .nil))))))) (.op 9 .e (.alt (.op 2 .e (.op 10 .r (.op 5 .e (.op 11 .r (.op 12 .e .nil))))) (.op 5 .e (.op 2 .e (.op 10 .r (.op 11 .r (.op 12 .e .nil)))))))))) (.op 9 .e (.alt (.op 2 .e (.op 10 .r (.alt (.op 5 .e (.op 11 .r (.op 8 .e (.op 12 .e .nil)))) (.op 8 .e (.op 5 .e (.op 11 .r (.op 12 .e .nil))))))) (.alt (.op 5 .e (.alt (.op 2 .e (.op 10 .r (.op 11 .r (.op 8 .e (.op 12 .e .nil))))) (.op 8 .e (.op 2 .e (.op 10 .r (.op 11 .r (.op 12 .e .nil))))))) (.op 8 .e (.alt (.op 2 .e (.op 10 .r (.op 5 .e (.op 11 .r (.op 12 .e .nil))))) (.op 5 .e (.op 2 .e (.op 10 .r (.op 11 .r (.op 12 .e .nil)))))))))))))))))))) (.s (.s .z (.l 4611686014132423744 [6,32] (.s .z (.s (.s .z .z) (.s (.s .z (.s (.d (.op 0 .r (.op 1 .r (.op 2 .r (.op 3 .r (.op 4 .r (.op 5 .r (.op 6 .r (.op 7 .r (.op 8 .r (.op 10 .r (.op 11 .r (.op 12 .r (.op 14 .r (.op 9 .e (.op 13 .e (.op 15 .r (.op 16 .e (.op 17 .r (.op 18 .n (.op 19 .r (.op 20 .n .nil)))))))))))))))))))))) .z)) .z))))) (.s .z (.s (.s .z (.l 1208335523804270469062656 [69] (.s .z (.s (.s .z .z) (.s (.s .z .z) .z))))) (.s .z .z)))))))) H
def rF (a0 a1 a2:Value)(h:af)(R:Value→af→Prop):Prop:=
 vK (aK a0) λd=>
 vK (am 1 d) λe=>
 vK (ldV h e) λf=>
 vK ((aF #[(.int .i64 0),(.slice none 0 0)] [(0,1,a1),(1,1,a2)]).map .agg) λg=>
 cE #[(.int .i64 0),(.slice none 0 0)] 189 1 [(0,2,g)] h λi j=>
 cF (.agg #[.int .i64 0,.slice none 0 0]) 189 2 32 f i j λk l=>
 vK (aK a0) λm=>
 vK (am 1 m) λn=>
 stK 1 n k l λad c=>
 vK (aK a0) λo=>
 vK (am 2 o) λp=>
 vK (ldV c p) λq=>
 vK (aq a2) λr=>
 vK (ia q r) λs=>
 vK (aK a0) λt=>
 vK (am 2 t) λu=>
 stK 1 u s c λag a=>
 bC a λS=>
 vK (aK a0) λv=>
 vK (am 3 v) λw=>
 qK S (λa=>ldV a w) λx=>
 ae prog uf #[a2] a λy b=>
 S b∧(qK S (λb=>ia x y) λz=>
 vK (aK a0) λaa=>
 vK (am 3 aa) λab=>
 stK 1 ab z b λah ac=>
 R (.tuple #[]) ac)
theorem BH (H:rF a0 a1 a2 h R):ae prog jp #[a0,a1,a2] h R:=fk f165 (.s .z (.s .z (.d (.op 0 .r (.op 1 .r (.op 2 .r (.op 3 .r (.op 4 .r (.op 5 .r (.op 6 .e (.op 7 .r (.op 8 .r (.op 9 .r (.op 10 .n .nil)))))))))))))) H
def uY (a0:Value)(h:af)(R:Value→af→Prop):Prop:=
 vK (ag .i .lss a0 (.int .i64 1)) λb=>
 vK (gV b false (some a0)) λe=>
 vK (gV b false (ag .i .gtr e (.int .i64 4194304))) λf=>
 vK (az b (.bool true) f) λg=>
 aA g (
 R (.tuple #[(.slice none 0 0),(.int .i64 7)]) h) (
 vK (ag .i .mul (.int .i64 3) a0) λj=>
 vK (ag .i .add j (.int .i64 65536)) λk=>
 vK (ag .i .sub k (.int .i64 1)) λl=>
 vK (ag .i .shr l (.int .u64 16)) λc=>
 vK (unV .neg c) λm=>
 aU [(.slice none 0 0),m] h λa w d n=>
 vK (ag .i .leq (ix a 1) c) λo=>
 aA o (
 ae prog wZ #[(ix a 1),a0] d λp q=>
 cE #[(.int .i64 0)] 2 1 [(0,1,p)] q λr s=>
 cF (.int .i64 0) 2 1 8 (ix a 0) r s λt u=>
 vK (ag .i .add (ix a 1) (.int .i64 1)) λv=>
 n [t,v] u) (
 R (.tuple #[(ix a 0),(.int .i64 0)]) d))
theorem Et (H:uY a0 h R):ae prog kJ #[a0] h R:=fk f166 (.s .z (.s (.s .z (.s (.s .z .z) .z)) (.s .z (.s .z (.s (.s .z (.l 2146435168 [5,6] (.s (.s .z (.s .z .z)) (.s .z .z)))) (.s .z .z)))))) H
def CL (a0:Value)(h:af)(R:Value→af→Prop):Prop:=
 vK (ag .i .lss a0 (.int .i64 0)) λa=>
 vK (gV a false (some a0)) λc=>
 vK (gV a false (ag .i .gtr c (.int .i64 511))) λd=>
 vK (az a (.bool true) d) λe=>
 aA e (
 R (.tuple #[(.slice none 0 0),(.int .i64 7)]) h) (
 cE #[(.int .i64 0)] 2 1 [(0,1,(.int .i64 1))] h λf g=>
 vK (ag .i .mul (.int .i64 2) a0) λj=>
 vK (ag .i .add j (.int .i64 1)) λk=>
 ae prog eI #[f,k] g λl m=>
 ae prog pS #[l] m λb n=>
 vK (aE b 0) λo=>
 vK (aE b 1) λp=>
 R (.tuple #[o,p]) n)
theorem Mv (H:CL a0 h R):ae prog zF #[a0] h R:=fk f167 (.s .z (.s (.s .z (.s (.s .z .z) .z)) (.s .z .z))) H
def CI (a0:Value)(h:af)(R:Value→af→Prop):Prop:=
 ae prog uf #[a0] h λc g=>
 vK (aq a0) λj=>
 vK (ag .i .rem j (.int .i64 2)) λk=>
 vK (ag .i .eql k (.int .i64 0)) λb=>
 vK (gV b false (some a0)) λl=>
 vK (gV b false (aq l)) λm=>
 vK (gV b false (ag .i .gtr m (.int .i64 1024))) λn=>
 vK (az b (.bool true) n) λd=>
 vK (gV d false (some c)) λo=>
 vK (gV d false (ag .i .lss o (.int .i64 1))) λp=>
 vK (az d (.bool true) p) λe=>
 vK (gV e false (some c)) λq=>
 vK (gV e false (ag .i .gtr q (.int .i64 1048576))) λr=>
 vK (az e (.bool true) r) λs=>
 aA s (
 R (.tuple #[(.slice none 0 0),(.int .i64 7)]) g) (
 vK (aq a0) λt=>
 aU [(.slice none 0 0),(.int .i64 0)] g λa ai f u=>
 vK (ag .i .lss (ix a 1) t) λv=>
 aA v (
 vK (aR 1 a0 (ix a 1)) λw=>
 vK (ldV f w) λx=>
 ae prog dw #[x,(.int .i64 1073741824),c] f λy z=>
 cE #[(.int .i64 0)] 2 1 [(0,1,y)] z λaa ab=>
 cF (.int .i64 0) 2 1 8 (ix a 0) aa ab λac ad=>
 vK (ag .i .add (ix a 1) (.int .i64 1)) λah=>
 u [ac,ah] ad) (
 R (.tuple #[(ix a 0),(.int .i64 0)]) f))
theorem Mt (H:CI a0 h R):ae prog pS #[a0] h R:=fk f168 (.s .z (.s .z (.s (.s .z (.s (.s .z .z) .z)) (.s .z (.s (.s .z (.l 1098974757024 [5,29] (.s .z (.s (.s .z .z) (.s (.s .z .z) .z))))) (.s .z .z)))))) H
def yo (h:af)(R:Value→af→Prop):Prop:=
 vK ((aF #[(.int .i64 0),(.int .i64 0),(.int .i64 0),(.int .i64 0),(.slice none 0 0),(.slice none 0 0),(.int .i64 0),(.int .i64 0),(.int .i64 0)] [(0,1,(.int .i64 3)),(7,1,(.int .i64 2)),(8,1,(.int .i64 1)),(6,1,(.int .i64 0))]).map .agg) λq=>
 ae prog lB #[q,(.int .i64 4),(.int .i64 3)] h λo r=>
 vK (aE o 0) λs=>
 vK (aE o 1) λt=>
 aP #[(.pointer none),(.pointer none),(.int .i64 0)] 81 r λa u=>
 stK 3 a s u λa7 v=>
 ae prog uO #[] v λk b=>
 vK (gV k true (some t)) λw=>
 vK (gV k true (ag .i .eql w (.int .i64 0))) λx=>
 vK (az k x (.bool false)) λg=>
 vK (gV g true (am 0 a)) λy=>
 vK (gV g true (ldV b y)) λz=>
 vK (gV g true (ag .p .neq z (.pointer none))) λaa=>
 vK (az g aa (.bool false)) λj=>
 vK (gV j true (am 1 a)) λab=>
 vK (gV j true (ldV b ab)) λac=>
 vK (gV j true (ag .p .neq ac (.pointer none))) λad=>
 vK (az j ad (.bool false)) λc=>
 vK (gV c true (am 0 a)) λah=>
 vK (gV c true (ldV b ah)) λai=>
 gK c true (λaj=>ae prog eG #[ai] b aj) b λak l=>
 vK (gV c true (ag .i .eql ak (.int .i64 4))) λal=>
 vK (az c al (.bool false)) λd=>
 vK (gV d true (am 0 a)) λan=>
 vK (gV d true (ldV l an)) λao=>
 gK d true (λap=>ae prog bB #[ao] l ap) l λaq m=>
 vK (gV d true (ag .i .eql aq (.int .i64 2))) λar=>
 vK (az d ar (.bool false)) λe=>
 vK (gV e true (am 1 a)) λau=>
 vK (gV e true (ldV m au)) λav=>
 gK e true (λaw=>ae prog eG #[av] m aw) m λax n=>
 vK (gV e true (ag .i .eql ax (.int .i64 3))) λay=>
 vK (az e ay (.bool false)) λf=>
 vK (gV f true (am 1 a)) λa0=>
 vK (gV f true (ldV n a0)) λa1=>
 gK f true (λa2=>ae prog bB #[a1] n a2) n λa3 a4=>
 vK (gV f true (ag .i .eql a3 (.int .i64 1))) λa5=>
 vK (az f a5 (.bool false)) λa6=>
 R a6 a4
theorem Ik (H:yo h R):ae prog oJ #[] h R:=fk f169 (.s .z (.s .z (.s .z .z))) H
def yp (h:af)(R:Value→af→Prop):Prop:=
 ae prog gx #[(.int .i64 2),(.int .i64 1),(.int .i64 3),(.int .i64 255)] h λf g=>
 vK (aE f 0) λb=>
 vK (aE f 1) λl=>
 vK (ag .i .eql l (.int .i64 0)) λd=>
 vK (gV d true (some b)) λm=>
 vK (gV d true (ag .p .neq m (.pointer none))) λn=>
 vK (az d n (.bool false)) λa=>
 vK (gV a true (some b)) λo=>
 gK a true (λq=>ae prog iM #[o] g q) g λr j=>
 vK (gV a true (aq r)) λs=>
 vK (gV a true (ag .i .eql s (.int .i64 6))) λt=>
 vK (az a t (.bool false)) λc=>
 vK (gV c true (some b)) λu=>
 gK c true (λv=>ae prog eK #[u,(.int .i64 1),(.int .i64 0),(.int .i64 2),(.int .u16 256)] j v) j λw k=>
 vK (gV c true (unV .not w)) λx=>
 vK (az c x (.bool false)) λe=>
 vK (gV e true (some b)) λy=>
 gK e true (λz=>ae prog eK #[y,(.int .i64 1),(.int .i64 0),(.int .i64 2),(.int .u16 255)] k z) k λaa ab=>
 vK (az e aa (.bool false)) λac=>
 R ac ab
theorem Il (H:yp h R):ae prog uN #[] h R:=fk f170 (.s .z (.s .z (.s .z .z))) H
def xu (a0 a1:Value)(h:af)(R:Value→af→Prop):Prop:=
 aP (Value.cells a1) 81 h λc j=>
 vK (aH 3 j c) λq=>
 ae prog iq #[a0,q] j λr a=>
 vK (unV .not r) λs=>
 aA s (
 R (.tuple #[(.pointer none),(.int .i64 6)]) a) (
 bC a λS=>
 vK (am 0 c) λt=>
 qK S (λa=>ldV a t) λu=>
 vK (am 1 c) λv=>
 qK S (λa=>ldV a v) λw=>
 ae prog bB #[u] a λx k=>
 S k∧(ae prog bB #[w] k λy z=>
 ae prog aO #[a0] z λaa ab=>
 ae prog cJ #[a0] ab λac ad=>
 ae prog gx #[x,y,aa,ac] ad λl m=>
 vK (aE l 0) λb=>
 vK (aE l 1) λn=>
 vK (ag .i .neq n (.int .i64 0)) λah=>
 aA ah (
 R (.tuple #[(.pointer none),n]) m) (
 ae prog bF #[b] m λai aj=>
 aU [(.int .i64 0)] aj λd ba o ak=>
 vK (ag .i .lss (ix d 0) ai) λal=>
 aA al (
 ae prog bD #[b] o λan ao=>
 aU [(.int .i64 0)] ao λe bb p ap=>
 vK (ag .i .lss (ix e 0) an) λaq=>
 aA aq (
 ae prog aO #[b] p λar au=>
 aU [(.int .i64 0)] au λf bc g av=>
 vK (ag .i .lss (ix f 0) ar) λaw=>
 aA aw (
 vK (aH 3 g c) λax=>
 ae prog w6 #[a0,ax,(ix e 0),(ix d 0),(ix f 0)] g λay az=>
 ae prog cJ #[a0] az λa2 a3=>
 ae prog mH #[ay,a2] a3 λa4 a5=>
 ae prog eK #[b,(ix e 0),(ix d 0),(ix f 0),a4] a5 λbd a6=>
 vK (ag .i .add (ix f 0) (.int .i64 1)) λa7=>
 av [a7] a6) (
 vK (ag .i .add (ix e 0) (.int .i64 1)) λa8=>
 ap [a8] g)) (
 vK (ag .i .add (ix d 0) (.int .i64 1)) λa9=>
 ak [a9] p)) (
 R (.tuple #[b,(.int .i64 0)]) o))))
theorem Gp (H:xu a0 a1 h R):ae prog sU #[a0,a1] h R:=fk f171 (.s .z (.s (.s .z (.s (.s .z .z) .z)) (.s (.d (.op 0 .r (.op 1 .r (.op 3 .r (.op 4 .r (.op 6 .r (.op 8 .r (.op 2 .e (.op 5 .n (.op 7 .n (.op 9 .n (.op 10 .n (.op 11 .r (.op 12 .r (.op 13 .r (.op 14 .r (.op 15 .r .nil))))))))))))))))) (.s (.s .z (.s (.s .z .z) .z)) (.s (.s .z (.l 18446744056529684224 [34] (.s .z (.s (.s .z .z) (.s (.s .z (.s .z (.l 9223371487098963456 [39] (.s .z (.s (.s .z .z) (.s (.s .z (.s .z (.l 4611668426241344512 [44] (.s .z (.s (.s .z .z) (.s (.s .z .z) .z)))))) .z)))))) .z))))) (.s .z .z)))))) H
end
section
variable {a0 a1 a2 a3 a4 a5 a6:Value}{h:af}{R:Value→af→Prop}
def xa (a0 a1 a2:Value)(h:af)(R:Value→af→Prop):Prop:=
 aP (Value.cells a2) 81 h λl a=>
 bC a λS=>
 vK (ag .p .neq a0 (.pointer none)) λm=>
 vK (gV m true (some a1)) λu=>
 vK (gV m true (ag .p .neq u (.pointer none))) λv=>
 vK (az m v (.bool false)) λj=>
 vK (gV j true (some a0)) λw=>
 vK (gV j true (some a1)) λx=>
 qK S (λa=>gV j true (peV a .neq w x)) λy=>
 vK (az j y (.bool false)) λk=>
 vK (gV k true (some a0)) λz=>
 qK S (λa=>gV k true (aH 3 a l)) λaa=>
 gK k true (λab=>ae prog iq #[z,aa] a ab) a λac f=>
 bC f λS=>
 vK (az k ac (.bool false)) λb=>
 vK (gV b true (some a1)) λad=>
 vK (gV b true (am 0 l)) λah=>
 qK S (λf=>gV b true (ldV f ah)) λai=>
 gK b true (λaj=>ae prog bD #[ad] f aj) f λak n=>
 S n∧(gK b true (λal=>ae prog bB #[ai] n al) n λan g=>
 bC g λS=>
 vK (gV b true (ag .i .eql ak an)) λao=>
 vK (az b ao (.bool false)) λc=>
 vK (gV c true (some a1)) λap=>
 vK (gV c true (am 1 l)) λaq=>
 qK S (λg=>gV c true (ldV g aq)) λar=>
 gK c true (λau=>ae prog bF #[ap] g au) g λav o=>
 S o∧(gK c true (λaw=>ae prog bB #[ar] o aw) o λax q=>
 vK (gV c true (ag .i .eql av ax)) λay=>
 vK (az c ay (.bool false)) λd=>
 vK (gV d true (some a1)) λa3=>
 vK (gV d true (some a0)) λa4=>
 gK d true (λa5=>ae prog aO #[a3] q a5) q λa6 r=>
 gK d true (λa7=>ae prog aO #[a4] r a7) r λa8 s=>
 vK (gV d true (ag .i .eql a6 a8)) λa9=>
 vK (az d a9 (.bool false)) λe=>
 vK (gV e true (some a1)) λba=>
 vK (gV e true (some a0)) λbb=>
 gK e true (λbc=>ae prog cJ #[ba] s bc) s λbd t=>
 gK e true (λbe=>ae prog cJ #[bb] t be) t λbf bg=>
 vK (gV e true (ag .i .eql bd bf)) λbh=>
 vK (az e bh (.bool false)) λbi=>
 R bi bg))
theorem FZ (H:xa a0 a1 a2 h R):ae prog sJ #[a0,a1,a2] h R:=fk f172 (.s .z (.s (.d (.op 0 .r (.op 1 .r (.op 2 .r (.op 3 .r (.op 4 .r (.op 5 .r (.op 6 .r (.op 7 .r (.op 8 .r (.op 9 .r (.op 10 .r (.op 11 .r (.op 12 .r (.op 13 .r (.op 14 .f (.op 15 .r (.op 16 .r (.op 17 .r (.op 19 .r (.op 20 .r (.op 18 .e (.op 21 .f (.op 22 .r (.op 23 .r (.op 24 .r (.op 25 .r (.op 27 .r (.op 28 .r (.op 26 .e (.op 29 .n (.op 30 .r (.op 31 .r (.op 32 .r (.op 33 .r (.op 35 .r (.op 34 .n (.op 36 .n (.op 37 .r (.op 38 .r (.op 39 .r (.op 40 .r (.op 42 .r (.op 41 .n (.op 43 .n (.op 44 .r (.op 45 .r (.op 46 .r .nil)))))))))))))))))))))))))))))))))))))))))))))))) .z)) H
def Fm (a0 a1:Value)(h:af)(R:Value→af→Prop):Prop:=
 vK (ia (.int .i64 1) a0) λa=>
 vK (pF a (.int .i64 65536)) λb=>
 vK (ia (.int .i64 0) a1) λc=>
 vK (pF c (.int .i64 262144)) λd=>
 Rw h λe f=>
 vK ((aF #[(.int .i64 0),(.int .i64 0),(.map none),(.slice none 0 0)] [(0,1,b),(1,1,d),(2,1,e)]).map .agg) λg=>
 aP (Value.cells g) 287 f λi j=>
 R i j
theorem Og (H:Fm a0 a1 h R):ae prog Cu #[a0,a1] h R:=fk f173 (.s .z (.s .z .z)) H
def rE (a0:Value)(h:af)(R:Value→af→Prop):Prop:=
 aP #[(.int .i64 0),(.int .i64 0)] 146 h λb l=>
 ae prog mf #[a0] l λm e=>
 aA m (
 vK ((aF #[(.int .i64 0),(.int .i64 0)] []).map .agg) λn=>
 stK 2 b n e λar f=>
 vK (aH 2 f b) λo=>
 R o f) (
 ae prog jn #[a0] e λp q=>
 aP #[(.int .i64 0),(.slice none 0 0)] 189 q λc r=>
 stK 2 c p r λau a=>
 bC a λS=>
 vK (aK a0) λs=>
 vK (am 15 s) λt=>
 qK S (λa=>ldV a t) λu=>
 vK (am 0 c) λv=>
 qK S (λa=>ldV a v) λw=>
 vK (am 0 c) λx=>
 qK S (λa=>ldV a x) λy=>
 vK (am 1 c) λz=>
 qK S (λa=>ldV a z) λaa=>
 qK S (λa=>aq aa) λab=>
 vK (ag .i .add y ab) λac=>
 ae prog nR #[u,w,ac] a λg d=>
 vK (aE g 0) λad=>
 vK (aE g 1) λah=>
 aA ah (
 vK ((aF #[(.int .i64 0),(.int .i64 0)] [(0,1,(.int .i64 1)),(1,1,ad)]).map .agg) λai=>
 stK 2 b ai d λav j=>
 vK (aH 2 j b) λaj=>
 R aj j) (
 vK (aK a0) λak=>
 vK (am 16 ak) λal=>
 vK (ldV d al) λan=>
 vK ((aF #[(.int .i64 0),(.int .i64 0)] [(0,1,(.int .i64 2)),(1,1,an)]).map .agg) λao=>
 stK 2 b ao d λaw k=>
 vK (aH 2 k b) λap=>
 R ap k))
theorem BG (H:rE a0 h R):ae prog gq #[a0] h R:=fk f174 (.s .z (.s (.s .z (.s (.s .z .z) .z)) (.s .z (.s (.s (.d (.op 0 .r (.op 1 .r (.op 2 .r (.op 3 .r (.op 4 .r (.op 5 .r (.op 6 .r (.op 7 .r (.op 8 .r (.op 9 .r (.op 10 .r (.op 11 .r (.op 12 .n (.op 13 .r (.op 14 .r (.op 15 .r (.op 16 .r (.op 17 .r .nil))))))))))))))))))) (.s .z (.s (.s .z .z) .z))) (.s .z .z))))) H
def oO (a0 a1:Value)(h:af)(R:Value→af→Prop):Prop:=
 bC h λS=>
 vK (aK a0) λe=>
 vK (am 2 e) λf=>
 vK (am 2 f) λg=>
 qK S (λh=>ldV h g) λj=>
 vK (aK a0) λk=>
 vK (am 0 k) λl=>
 qK S (λh=>ldV h l) λm=>
 ae prog bF #[m] h λn c=>
 S c∧(ae prog jI #[j,a1,n] c λo d=>
 vK (aK a0) λp=>
 vK (am 5 p) λq=>
 vK (am 1 q) λr=>
 vK (am 2 r) λs=>
 vK (ldV d s) λt=>
 aU [(.slice none 0 0),(.int .i64 0)] d λa an b u=>
 vK (ag .i .lss (ix a 1) t) λv=>
 aA v (
 vK (aK a0) λw=>
 vK (am 5 w) λx=>
 vK (am 1 x) λy=>
 vK (am 0 y) λz=>
 vK (ldV b z) λaa=>
 vK (ag .i .add aa (ix a 1)) λab=>
 ae prog kb #[a0,ab,o,(ix a 0)] b λac ad=>
 vK (ag .i .add (ix a 1) (.int .i64 1)) λah=>
 u [ac,ah] ad) (
 vK (aK a0) λai=>
 vK (am 15 ai) λaj=>
 vK (ldV b aj) λak=>
 ae prog qe #[ak,a1,(ix a 0)] b λao al=>
 R (.tuple #[]) al))
theorem yJ (H:oO a0 a1 h R):ae prog ka #[a0,a1] h R:=fk f175 (.s (.d (.op 0 .r (.op 1 .r (.op 2 .r (.op 3 .r (.op 4 .r (.op 5 .r (.op 6 .r (.op 7 .r (.op 8 .r (.op 9 .r (.op 10 .e (.op 11 .n (.op 12 .r .nil)))))))))))))) (.s .z (.s (.s .z (.l 2198989701216 [5,25] (.s .z (.s (.s .z .z) (.s (.s .z .z) .z))))) .z))) H
def qp (a0:Value)(h:af)(R:Value→af→Prop):Prop:=
 ae prog jn #[a0] h λt u=>
 aP #[(.int .i64 0),(.slice none 0 0)] 189 u λj v=>
 stK 2 j t v λca k=>
 vK (aK a0) λw=>
 vK (am 15 w) λx=>
 vK (ldV k x) λy=>
 ae prog ms #[y] k λl z=>
 mkK (.int .i64 0) 2 1 8 l l z λe m=>
 vK (am 1 j) λaa=>
 vK (ldV m aa) λn=>
 vK (aq n) λab=>
 aU [(.int .i64 0)] m λf cb b ac=>
 vK (ag .i .lss (ix f 0) ab) λad=>
 aA ad (
 vK (aR 1 n (ix f 0)) λah=>
 vK (ldV b ah) λai=>
 bC b λS=>
 vK (aK a0) λaj=>
 vK (am 15 aj) λak=>
 qK S (λb=>ldV b ak) λal=>
 vK (am 0 j) λan=>
 qK S (λb=>ldV b an) λao=>
 vK (ag .i .add ao (ix f 0)) λap=>
 ae prog qa #[al,ap] b λo ar=>
 vK (aE o 0) λp=>
 vK (aE o 1) λcc=>
 vK (aq p) λau=>
 aU [(.int .i64 0)] ar λc cd g av=>
 vK (ag .i .lss (ix c 0) au) λaw=>
 aA aw (
 vK (aR 1 p (ix c 0)) λax=>
 vK (ldV g ax) λay=>
 vK (aR 1 e (ix c 0)) λaz=>
 vK (ldV g az) λa1=>
 vK (ag .i .mul ai ay) λa2=>
 vK (ag .i .add a1 a2) λa3=>
 vK (aR 1 e (ix c 0)) λa4=>
 stK 1 a4 a3 g λce a5=>
 vK (ag .i .add (ix c 0) (.int .i64 1)) λa6=>
 av [a6] a5) (
 vK (ag .i .add (ix f 0) (.int .i64 1)) λa7=>
 ac [a7] g)) (
 vK (aK a0) λa8=>
 vK (am 1 a8) λa9=>
 vK (ldV b a9) λba=>
 ae prog aO #[ba] b λq bb=>
 vK (aq e) λbc=>
 aU [(.int .i64 0)] bb λd cf a bd=>
 vK (ag .i .lss (ix d 0) bc) λbe=>
 aA be (
 vK (aR 1 e (ix d 0)) λbf=>
 vK (ldV a bf) λbg=>
 bC a λS=>
 vK (aK a0) λbh=>
 vK (am 1 bh) λbi=>
 qK S (λa=>ldV a bi) λbj=>
 vK (aK a0) λbk=>
 vK (am 5 bk) λbl=>
 vK (am 1 bl) λbm=>
 vK (am 0 bm) λbn=>
 qK S (λa=>ldV a bn) λbo=>
 vK (ag .i .quo (ix d 0) q) λbp=>
 vK (ag .i .add bo bp) λbq=>
 vK (aK a0) λbr=>
 vK (am 16 br) λbs=>
 qK S (λa=>ldV a bs) λbt=>
 vK (ag .i .rem (ix d 0) q) λbu=>
 vK (aK a0) λbv=>
 vK (am 1 bv) λbw=>
 qK S (λa=>ldV a bw) λbx=>
 ae prog cJ #[bx] a λbz r=>
 S r∧(ae prog mH #[bg,bz] r λb0 s=>
 S s∧(ae prog eK #[bj,bq,bt,bu,b0] s λcg b1=>
 vK (ag .i .add (ix d 0) (.int .i64 1)) λb2=>
 bd [b2] b1))) (
 vK (aK a0) λb3=>
 vK (am 16 b3) λb4=>
 vK (ldV a b4) λb5=>
 vK (ag .i .add b5 (.int .i64 1)) λb6=>
 vK (aK a0) λb7=>
 vK (am 16 b7) λb8=>
 stK 1 b8 b6 a λch b9=>
 R (.tuple #[]) b9))
theorem Am (H:qp a0 h R):ae prog kT #[a0] h R:=fk f176 (.s .z (.s .z (.s (.s .z (.l 576460752286647280 [24] (.s .z (.s (.s .z .z) (.s (.s .z (.s (.d (.op 0 .r (.op 1 .r (.op 2 .r (.op 3 .r (.op 4 .r (.op 5 .r (.op 6 .r (.op 7 .r (.op 8 .n (.op 9 .r (.op 10 .r (.op 11 .r (.op 12 .r (.op 13 .r .nil))))))))))))))) (.s .z (.l 288221580058690304 [43] (.s .z (.s (.s .z .z) (.s (.s .z .z) .z))))))) .z))))) (.s .z (.s (.s .z (.l 2535301200382671826698568210432 [66] (.s .z (.s (.s .z .z) (.s (.s .z (.d (.op 0 .r (.op 1 .r (.op 2 .r (.op 3 .r (.op 4 .r (.op 5 .r (.op 6 .r (.op 7 .r (.op 8 .r (.op 9 .r (.op 10 .r (.op 11 .r (.op 12 .r (.op 13 .r (.op 14 .r (.op 15 .r (.op 16 .r (.op 17 .r (.op 18 .r (.op 19 .r (.op 20 .r (.op 21 .r (.op 22 .r (.op 23 .r (.op 24 .r (.op 25 .r (.op 26 .e (.op 27 .e (.op 28 .n .nil))))))))))))))))))))))))))))))) .z))))) .z))))) H
def A3 (a0:Value)(h:af)(R:Value→af→Prop):Prop:=
 aP (Value.cells a0) 120 h λc a=>
 vK (am 0 c) λf=>
 vK (ldV a f) λg=>
 vK (ag .i .geq g (.int .i64 0)) λd=>
 vK (gV d true (am 2 c)) λj=>
 vK (gV d true (ldV a j)) λk=>
 vK (gV d true (ag .i .geq k (.int .i64 0))) λl=>
 vK (az d l (.bool false)) λe=>
 vK (gV e true (am 3 c)) λm=>
 vK (gV e true (ldV a m)) λn=>
 vK (gV e true (ag .i .geq n (.int .i64 0))) λo=>
 vK (az e o (.bool false)) λb=>
 vK (gV b true (am 3 c)) λp=>
 vK (gV b true (ldV a p)) λq=>
 vK (gV b true (am 4 c)) λr=>
 vK (gV b true (ldV a r)) λs=>
 vK (gV b true (ag .i .lss q s)) λt=>
 vK (az b t (.bool false)) λu=>
 R u a
theorem KH (H:A3 a0 h R):ae prog wU #[a0] h R:=fk f178 (.s .z (.s .z .z)) H
def AH (a0:Value)(h:af)(R:Value→af→Prop):Prop:=
 vK (ag .i .geq a0 (.int .i64 1)) λa=>
 vK (gV a true (some a0)) λb=>
 vK (gV a true (ag .i .leq b (.int .i64 65536))) λc=>
 vK (az a c (.bool false)) λd=>
 R d h
theorem Km (H:AH a0 h R):ae prog jQ #[a0] h R:=fk f179 (.s .z (.s .z .z)) H
def xg (a0 a1 a2:Value)(h:af)(R:Value→af→Prop):Prop:=
 vK (ag .i .lss a0 (.int .i64 0)) λd=>
 vK (gV d false (some a0)) λn=>
 vK (gV d false (ag .i .gtr n (.int .i64 2))) λo=>
 vK (az d (.bool true) o) λb=>
 vK (gV b false (some a1)) λp=>
 gK b false (λq=>ae prog my #[p] h q) h λr e=>
 vK (gV b false (unV .not r)) λs=>
 vK (az b (.bool true) s) λc=>
 vK (gV c false (some a2)) λt=>
 gK c false (λu=>ae prog my #[t] e u) e λv f=>
 vK (gV c false (unV .not v)) λw=>
 vK (az c (.bool true) w) λx=>
 aA x (
 R (.tuple #[(.slice none 0 0),(.int .i64 6)]) f) (
 aU [(.slice none 0 0),(.int .i64 0)] f λa ao g y=>
 vK (ag .i .lss (ix a 1) a2) λz=>
 aA z (
 ae prog uh #[a0,a1,a2,(ix a 1)] g λj aa=>
 vK (aE j 0) λab=>
 vK (aE j 1) λac=>
 ae prog gu #[ac] aa λk l=>
 vK (aE k 0) λad=>
 vK (aE k 1) λm=>
 vK (ag .i .neq m (.int .i64 0)) λah=>
 aA ah (
 R (.tuple #[(.slice none 0 0),m]) l) (
 vK ((aF #[(.int .i64 0),(.slice none 0 0)] [(0,1,ab),(1,1,ad)]).map .agg) λai=>
 cE #[(.int .i64 0),(.slice none 0 0)] 240 1 [(0,2,ai)] l λaj ak=>
 cF (.agg #[.int .i64 0,.slice none 0 0]) 240 2 32 (ix a 0) aj ak λal am=>
 vK (ag .i .add (ix a 1) (.int .i64 1)) λan=>
 y [al,an] am)) (
 R (.tuple #[(ix a 0),(.int .i64 0)]) g))
theorem Gd (H:xg a0 a1 a2 h R):ae prog mz #[a0,a1,a2] h R:=fk f180 (.s .z (.s (.s .z (.s (.s .z .z) .z)) (.s .z (.s (.s .z (.l 144115185928388544 [8,31] (.s .z (.s (.s .z .z) (.s (.s .z (.s .z (.s .z (.s (.s .z (.s (.s .z .z) .z)) .z)))) .z))))) (.s .z .z))))) H
def tz (a0:Value)(h:af)(R:Value→af→Prop):Prop:=
 vK (ag .i .lss a0 (.int .i64 1)) λc=>
 vK (gV c false (some a0)) λf=>
 vK (gV c false (ag .i .gtr f (.int .i64 4194304))) λg=>
 vK (az c (.bool true) g) λj=>
 aA j (
 R (.tuple #[(.slice none 0 0),(.int .i64 7)]) h) (
 aU [(.int .i64 0)] h λb z d k=>
 vK (ag .i .mul (ix b 0) (.int .i64 65536)) λl=>
 vK (ag .i .mul (.int .i64 3) a0) λm=>
 vK (ag .i .lss l m) λn=>
 aA n (
 vK (ag .i .add (ix b 0) (.int .i64 1)) λo=>
 k [o] d) (
 vK (unV .neg (ix b 0)) λp=>
 aU [(.slice none 0 0),p] d λa aa e q=>
 vK (ag .i .leq (ix a 1) (ix b 0)) λr=>
 aA r (
 ae prog uG #[(ix a 1),a0] e λs t=>
 cE #[(.int .i64 0)] 2 1 [(0,1,s)] t λu v=>
 cF (.int .i64 0) 2 1 8 (ix a 0) u v λw x=>
 vK (ag .i .add (ix a 1) (.int .i64 1)) λy=>
 q [w,y] x) (
 R (.tuple #[(ix a 0),(.int .i64 0)]) e)))
theorem Du (H:tz a0 h R):ae prog nT #[a0] h R:=fk f181 (.s .z (.s (.s .z (.s (.s .z .z) .z)) (.s .z (.s (.l 1040400 [4] (.s (.s .z (.s .z .z)) .z)) (.s .z (.s (.s .z (.l 8585740384 [5,6] (.s (.s .z (.s .z .z)) (.s .z .z)))) (.s .z .z))))))) H
def AQ (a0:Value)(h:af)(R:Value→af→Prop):Prop:=
 vK (ag .i .lss a0 (.int .i64 0)) λb=>
 vK (gV b false (some a0)) λe=>
 vK (gV b false (ag .i .gtr e (.int .i64 511))) λf=>
 vK (az b (.bool true) f) λg=>
 aA g (
 R (.tuple #[(.slice none 0 0),(.int .i64 7)]) h) (
 vK (ag .i .mul (.int .i64 2) a0) λj=>
 vK (ag .i .add j (.int .i64 1)) λk=>
 aU [(.slice none 0 0),(.int .i64 0)] h λa v c l=>
 vK (ag .i .lss (ix a 1) k) λm=>
 aA m (
 cE #[(.int .i64 0)] 2 1 [(0,1,(.int .i64 1))] c λn o=>
 cF (.int .i64 0) 2 1 8 (ix a 0) n o λp q=>
 vK (ag .i .add (ix a 1) (.int .i64 1)) λr=>
 l [p,r] q) (
 ae prog mB #[(ix a 0)] c λd s=>
 vK (aE d 0) λt=>
 vK (aE d 1) λu=>
 R (.tuple #[t,u]) s))
theorem Kw (H:AQ a0 h R):ae prog wL #[a0] h R:=fk f182 (.s .z (.s (.s .z (.s (.s .z .z) .z)) (.s .z (.s (.s .z (.l 1032208 [4,14] (.s .z (.s (.s .z .z) (.s .z .z))))) (.s .z .z))))) H
def AN (a0:Value)(h:af)(R:Value→af→Prop):Prop:=
 ae prog uE #[a0] h λc g=>
 vK (aq a0) λj=>
 vK (ag .i .rem j (.int .i64 2)) λk=>
 vK (ag .i .eql k (.int .i64 0)) λb=>
 vK (gV b false (some a0)) λl=>
 vK (gV b false (aq l)) λm=>
 vK (gV b false (ag .i .gtr m (.int .i64 1024))) λn=>
 vK (az b (.bool true) n) λd=>
 vK (gV d false (some c)) λo=>
 vK (gV d false (ag .i .eql o (.int .i64 0))) λp=>
 vK (az d (.bool true) p) λe=>
 vK (gV e false (some c)) λq=>
 vK (gV e false (ag .i .gtr q (.int .i64 1048576))) λr=>
 vK (az e (.bool true) r) λs=>
 aA s (
 R (.tuple #[(.slice none 0 0),(.int .i64 7)]) g) (
 vK (aq a0) λt=>
 aU [(.slice none 0 0),(.int .i64 0)] g λa ai f u=>
 vK (ag .i .lss (ix a 1) t) λv=>
 aA v (
 vK (aR 1 a0 (ix a 1)) λw=>
 vK (ldV f w) λx=>
 ae prog cH #[x,(.int .i64 1073741824),c] f λy z=>
 cE #[(.int .i64 0)] 2 1 [(0,1,y)] z λaa ab=>
 cF (.int .i64 0) 2 1 8 (ix a 0) aa ab λac ad=>
 vK (ag .i .add (ix a 1) (.int .i64 1)) λah=>
 u [ac,ah] ad) (
 R (.tuple #[(ix a 0),(.int .i64 0)]) f))
theorem Kt (H:AN a0 h R):ae prog mB #[a0] h R:=fk f183 (.s .z (.s .z (.s (.s .z (.s (.s .z .z) .z)) (.s .z (.s (.s .z (.l 1098974757024 [5,29] (.s .z (.s (.s .z .z) (.s (.s .z .z) .z))))) (.s .z .z)))))) H
def xh (a0 a1:Value)(h:af)(R:Value→af→Prop):Prop:=
 ae prog my #[a1] h λg b=>
 vK (unV .not g) λj=>
 aA j (
 R (.tuple #[(.slice none 0 0),(.int .i64 6)]) b) (
 vK (aq a0) λk=>
 vK (ag .i .rem k (.int .i64 2)) λl=>
 vK (ag .i .eql l (.int .i64 0)) λm=>
 aA m (
 R (.tuple #[(.slice none 0 0),(.int .i64 7)]) b) (
 ae prog gu #[a0] b λc d=>
 vK (aE c 0) λn=>
 vK (aE c 1) λe=>
 vK (ag .i .neq e (.int .i64 0)) λo=>
 aA o (
 R (.tuple #[(.slice none 0 0),e]) d) (
 aU [(.slice none 0 0),(.int .i64 0)] d λa aa f p=>
 vK (ag .i .lss (ix a 1) a1) λq=>
 aA q (
 vK (aq a0) λr=>
 vK (ag .i .quo r (.int .i64 2)) λs=>
 vK (ag .i .sub (ix a 1) s) λt=>
 vK ((aF #[(.int .i64 0),(.slice none 0 0)] [(0,1,t),(1,1,n)]).map .agg) λu=>
 cE #[(.int .i64 0),(.slice none 0 0)] 240 1 [(0,2,u)] f λv w=>
 cF (.agg #[.int .i64 0,.slice none 0 0]) 240 2 32 (ix a 0) v w λx y=>
 vK (ag .i .add (ix a 1) (.int .i64 1)) λz=>
 p [x,z] y) (
 R (.tuple #[(ix a 0),(.int .i64 0)]) f))))
theorem Ge (H:xh a0 a1 h R):ae prog mA #[a0,a1] h R:=fk f184 (.s .z (.s (.s .z (.s (.s .z .z) .z)) (.s (.s .z (.s (.s .z .z) .z)) (.s .z (.s (.s .z (.s (.s .z .z) .z)) (.s .z (.s (.s .z (.l 1099444519680 [8,26] (.s .z (.s (.s .z .z) (.s (.s .z .z) .z))))) (.s .z .z)))))))) H
def yw (a0 a1 a2:Value)(h:af)(R:Value→af→Prop):Prop:=
 vK (pF a0 a2) λa=>
 vK (ia a1 a) λb=>
 R b h
theorem Is (H:yw a0 a1 a2 h R):ae prog oK #[a0,a1,a2] h R:=fk f185 (.s .z (.s .z .z)) H
def Db (a0 a1:Value)(h:af)(R:Value→af→Prop):Prop:=
 vK (ag .i .eql a1 (.int .i64 0)) λd=>
 vK (gV d false (some a1)) λe=>
 vK (gV d false (ag .i .eql e (.int .i64 (-1)))) λf=>
 vK (az d (.bool true) f) λg=>
 aA g (
 R (.int .i64 0) h) (
 vK (ag .i .rem a0 a1) λc=>
 vK (ag .i .neq c (.int .i64 0)) λa=>
 vK (gV a true (some c)) λj=>
 vK (gV a true (ag .i .lss j (.int .i64 0))) λk=>
 vK (gV a true (some a1)) λl=>
 vK (gV a true (ag .i .lss l (.int .i64 0))) λm=>
 vK (gV a true (ag .b .neq k m)) λn=>
 vK (az a n (.bool false)) λo=>
 aA o (
 vK (ag .i .add c a1) λp=>
 R p h) (
 R c h))
theorem MR (H:Db a0 a1 h R):ae prog pV #[a0,a1] h R:=fk f186 (.s .z (.s (.s .z (.s (.s .z .z) .z)) (.s .z (.s (.s .z (.s .z .z)) (.s .z .z))))) H
def gM (a0 a1:Value)(h:af)(R:Value→af→Prop):Prop:=
 vK (aq a0) λc=>
 vK (aq a1) λd=>
 vK (ag .i .neq c d) λe=>
 aA e (
 R (.bool false) h) (
 vK (aq a0) λf=>
 aU [(.int .i64 0)] h λb q a g=>
 vK (ag .i .lss (ix b 0) f) λj=>
 aA j (
 vK (aR 1 a0 (ix b 0)) λk=>
 vK (ldV a k) λl=>
 vK (aR 1 a1 (ix b 0)) λm=>
 vK (ldV a m) λn=>
 vK (ag .i .neq l n) λo=>
 aA o (
 R (.bool false) a) (
 vK (ag .i .add (ix b 0) (.int .i64 1)) λp=>
 g [p] a)) (
 R (.bool true) a))
theorem mK (H:gM a0 a1 h R):ae prog eJ #[a0,a1] h R:=fk f188 (.s .z (.s (.s .z (.s (.s .z .z) .z)) (.s (.s .z (.l 67100720 [13] (.s .z (.s (.s .z .z) (.s (.s .z (.s .z (.s (.s .z .z) .z))) .z))))) (.s .z .z)))) H
def AX (a0 a1 a2 a3:Value)(h:af)(R:Value→af→Prop):Prop:=
 ae prog Fg #[a0,a1,a2,a3] h λg b=>
 vK (unV .not g) λj=>
 aA j (
 R (.tuple #[(.int .i64 0),(.int .i64 0)]) b) (
 vK (ag .i .mul a3 a1) λk=>
 ae prog iY #[k,a2] b λc l=>
 vK (ag .i .add a3 (.int .i64 1)) λm=>
 vK (ag .i .mul m a1) λn=>
 ae prog wN #[n,a2] l λo a=>
 vK (ag .i .neq a0 (.int .i64 0)) λp=>
 aA p (
 vK (ag .i .mul (.int .i64 2) a3) λq=>
 vK (ag .i .add q (.int .i64 1)) λr=>
 vK (ag .i .mul r a1) λs=>
 vK (ag .i .sub s a2) λd=>
 vK (Ja 3 2 (.pointer (some ⟨dZ,0,none⟩)) a0) λt=>
 vK (am 1 t) λu=>
 vK (ldV a u) λv=>
 vK (ag .i .mul v (.int .i64 2)) λw=>
 vK (ia a1 a2) λx=>
 vK (ag .i .mul w x) λe=>
 vK (ag .i .sub d e) λy=>
 vK (ag .i .mul (.int .i64 2) a2) λz=>
 ae prog iY #[y,z] a λaa ab=>
 vK (ag .i .add aa (.int .i64 1)) λf=>
 vK (ag .i .add d e) λac=>
 vK (ag .i .mul (.int .i64 2) a2) λad=>
 ae prog wN #[ac,ad] ab λah ai=>
 vK (ag .i .sub ah f) λaj=>
 R (.tuple #[f,aj]) ai) (
 vK (ag .i .sub o c) λak=>
 R (.tuple #[c,ak]) a))
theorem KD (H:AX a0 a1 a2 a3 h R):ae prog wO #[a0,a1,a2,a3] h R:=fk f200 (.s .z (.s (.s .z (.s (.s .z .z) .z)) (.s .z (.s (.s .z (.s (.s .z .z) .z)) (.s .z .z))))) H
def CZ (a0 a1 a2 a3 a4:Value)(h:af)(R:Value→af→Prop):Prop:=
 vK (ag .i .eql a0 (.int .i64 0)) λc=>
 aA c (
 vK (ag .i .add a3 (.int .i64 1)) λd=>
 vK (ag .i .mul d a1) λe=>
 vK (ag .i .add a4 (.int .i64 1)) λf=>
 vK (ag .i .mul f a2) λg=>
 vK (pF e g) λj=>
 vK (ag .i .mul a3 a1) λk=>
 vK (ag .i .mul a4 a2) λl=>
 vK (ia k l) λm=>
 vK (ag .i .sub j m) λn=>
 ae prog dw #[n,(.int .i64 1073741824),a1] h λo p=>
 R o p) (
 vK (ag .i .mul (.int .i64 2) a2) λq=>
 vK (ag .i .mul q a4) λr=>
 vK (ag .i .mul (.int .i64 2) a3) λs=>
 vK (ag .i .add s (.int .i64 1)) λt=>
 vK (ag .i .mul t a1) λu=>
 vK (ag .i .sub r u) λv=>
 vK (ag .i .add v a2) λa=>
 vK (ia a1 a2) λw=>
 vK (ag .i .mul (.int .i64 2) w) λb=>
 vK (ag .i .eql a0 (.int .i64 1)) λx=>
 aA x (
 ae prog sP #[a,b] h λy z=>
 R y z) (
 ae prog sN #[a,b] h λaa ab=>
 R aa ab))
theorem MI (H:CZ a0 a1 a2 a3 a4 h R):ae prog zN #[a0,a1,a2,a3,a4] h R:=fk f201 (.s .z (.s (.s .z (.s (.s .z (.s .z .z)) .z)) (.s .z (.s (.s .z (.s (.s .z .z) .z)) (.s .z .z))))) H
def AD (a0:Value)(h:af)(R:Value→af→Prop):Prop:=
 vK (aq a0) λe=>
 vK (ag .i .eql e (.int .i64 0)) λa=>
 vK (gV a false (some a0)) λf=>
 vK (gV a false (aq f)) λg=>
 vK (gV a false (ag .i .gtr g (.int .i64 1048576))) λj=>
 vK (az a (.bool true) j) λb=>
 vK (gV b false (some a0)) λk=>
 gK b false (λl=>ae prog de #[k,(.func (.func kI) #[] #[])] h l) h λm c=>
 vK (az b (.bool true) m) λn=>
 aA n (
 R (.int .i64 7) c) (
 ae prog wH #[a0] c λo d=>
 vK (ag .i .lss o (.int .i64 268435456)) λp=>
 aA p (
 R (.int .i64 8) d) (
 R (.int .i64 0) d))
theorem Ki (H:AD a0 h R):ae prog wG #[a0] h R:=fk f202 (.s .z (.s (.s .z (.s (.s .z .z) .z)) (.s (.s .z (.s (.s .z .z) .z)) (.s .z .z)))) H
def Fk (a0:Value)(h:af)(R:Value→af→Prop):Prop:=
 vK (aq a0) λc=>
 aU [(.int .i64 0),(.int .i64 0)] h λa m b d=>
 vK (ag .i .lss (ix a 1) c) λe=>
 aA e (
 vK (aR 1 a0 (ix a 1)) λf=>
 vK (ldV b f) λg=>
 ae prog ul #[(ix a 0),g] b λj k=>
 vK (ag .i .add (ix a 1) (.int .i64 1)) λl=>
 d [j,l] k) (
 R (ix a 0) b)
theorem Oe (H:Fk a0 h R):ae prog wH #[a0] h R:=fk f203 (.s .z (.s .z (.s (.s .z (.l 65320 [3,8] (.s .z (.s (.s .z .z) (.s (.s .z .z) .z))))) (.s .z .z)))) H
def yv (a0 a1:Value)(h:af)(R:Value→af→Prop):Prop:=
 vK (ag .i .eql a1 (.int .i64 0)) λe=>
 aA e (
 R (.int .i64 0) h) (
 bC h λS=>
 ae prog gE #[a0] h λf g=>
 ae prog gE #[a1] g λj k=>
 vK (ag .i .quo f j) λc=>
 ae prog gE #[a0] k λl m=>
 ae prog gE #[a1] m λn d=>
 vK (ag .i .rem l n) λo=>
 vK (ag .i .lss a0 (.int .i64 0)) λp=>
 vK (ag .i .lss a1 (.int .i64 0)) λq=>
 vK (ag .b .neq p q) λa=>
 vK (gV a true (some o)) λr=>
 vK (gV a true (ag .i .neq r (.int .u64 0))) λs=>
 vK (az a s (.bool false)) λt=>
 aA t (
 vK (ag .i .add c (.int .u64 1)) λu=>
 ae prog jT #[u,a] d λv w=>
 R v w) (
 ae prog jT #[c,a] d λx y=>
 R x y))
theorem Ir (H:yv a0 a1 h R):ae prog iY #[a0,a1] h R:=fk f204 (.s .z (.s (.s .z (.s (.s .z .z) .z)) (.s (.d (.op 0 .r (.op 2 .r (.op 5 .r (.op 7 .r (.op 1 .n (.op 3 .n (.op 4 .r (.op 6 .n (.op 8 .n (.op 9 .r (.op 10 .r (.op 11 .r .nil))))))))))))) (.s .z (.s (.s .z (.s .z .z)) (.s .z .z)))))) H
def fH (a0 a1:Value)(h:af)(R:Value→af→Prop):Prop:=
 vK (aq a0) λa=>
 ae prog fR #[a0,a,a1] h λc b=>
 R (.tuple #[]) b
theorem kn (H:fH a0 a1 h R):ae prog dB #[a0,a1] h R:=fk f205 .z H
def oQ (a0 a1 a2:Value)(h:af)(R:Value→af→Prop):Prop:=
 bC h λS=>
 qK S (λh=>ldV h a2) λa=>
 vK (aR 1 a a1) λb=>
 qK S (λh=>ldV h b) λc=>
 qK S (λh=>ldV h a2) λd=>
 vK (aR 1 d a0) λe=>
 qK S (λh=>ldV h e) λf=>
 ae prog ki #[c,f] h λg i=>
 R g i
theorem yL (H:oQ a0 a1 a2 h R):ae prog kc #[a0,a1,a2] h R:=fk f206 (.s .z (.s (.d (.op 0 .r (.op 1 .r (.op 2 .r (.op 3 .r (.op 4 .r (.op 5 .r (.op 6 .r (.op 7 .r (.op 8 .n (.op 9 .r .nil))))))))))) .z)) H
def pe (a0 a1:Value)(h:af)(R:Value→af→Prop):Prop:=
 ae prog jr #[a0] h λc d=>
 ae prog jr #[a1] d λb a=>
 aA c (
 aA b (
 R (.int .i64 0) a) (
 R (.int .i64 (-1)) a)) (
 aA b (
 R (.int .i64 1) a) (
 vK (ag .i .lss a0 a1) λe=>
 aA e (
 R (.int .i64 (-1)) a) (
 vK (ag .i .gtr a0 a1) λf=>
 aA f (
 R (.int .i64 1) a) (
 R (.int .i64 0) a))))
theorem yV (H:pe a0 a1 h R):ae prog ki #[a0,a1] h R:=fk f207 (.s .z (.s .z (.s .z (.s (.s .z (.s (.s (.s .z (.s (.s .z .z) .z)) (.s .z .z)) .z)) (.s (.s .z (.s (.s .z .z) .z)) (.s (.s .z (.s (.s .z .z) .z)) (.s (.s .z (.s (.s .z .z) .z)) (.s .z .z)))))))) H
def CJ (a0:Value)(h:af)(R:Value→af→Prop):Prop:=
 vK (aq a0) λc=>
 aU [(.int .i64 0),(.int .i64 0)] h λa o b d=>
 vK (ag .i .lss (ix a 1) c) λe=>
 aA e (
 vK (aR 1 a0 (ix a 1)) λf=>
 vK (ldV b f) λg=>
 ae prog ue #[g] b λj k=>
 ae prog ul #[(ix a 0),j] k λl m=>
 vK (ag .i .add (ix a 1) (.int .i64 1)) λn=>
 d [l,n] m) (
 R (ix a 0) b)
theorem Mu (H:CJ a0 h R):ae prog uf #[a0] h R:=fk f208 (.s .z (.s .z (.s (.s .z (.l 130856 [3,8] (.s .z (.s (.s .z .z) (.s (.s .z .z) .z))))) (.s .z .z)))) H
def Bb (a0 a1:Value)(h:af)(R:Value→af→Prop):Prop:=
 ae prog wY #[a0,a1] h λa b=>
 ae prog Cw #[a] b λc d=>
 ae prog iX #[c,(.int .i64 10)] d λe f=>
 R e f
theorem KN (H:Bb a0 a1 h R):ae prog wZ #[a0,a1] h R:=fk f209 (.s .z (.s .z .z)) H
def gL (a0 a1:Value)(h:af)(R:Value→af→Prop):Prop:=
 dK (λe=>
 vK (ag .i .lss a1 (.int .i64 0)) λm=>
 aA m (
 Ji h λam n=>
 e [] n) (
 e [] h))
 λan ao o=>
 vK (aq a0) λp=>
 vK (eS .u64 p) λq=>
 vK (eS .u64 a1) λr=>
 ae prog qi #[q,r] o λf g=>
 vK (aE f 0) λs=>
 vK (aE f 1) λj=>
 dK (λk=>
 vK (ag .i .gtr s (.int .u64 0)) λc=>
 vK (gV c false (some j)) λt=>
 vK (gV c false (ag .i .gtr t (.int .u64 9223372036854775807))) λu=>
 vK (az c (.bool true) u) λv=>
 aA v (
 Ji g λap w=>
 k [] w) (
 k [] g))
 λar au x=>
 vK (eS .i64 j) λl=>
 mkK (.int .i64 0) 2 1 8 l l x λa y=>
 Ch 1 a a0 y λz aa=>
 aU [z] aa λb av d ab=>
 vK (aq a) λac=>
 vK (ag .i .lss (ix b 0) ac) λad=>
 aA ad (
 bC d λS=>
 vK (un 1 a (some (ix b 0)) none) λah=>
 vK (un 1 a none (some (ix b 0))) λai=>
 Ch 1 ah ai d λaj ak=>
 vK (ag .i .add (ix b 0) aj) λal=>
 ab [al] ak) (
 R a d)
theorem mJ (H:gL a0 a1 h R):ae prog eI #[a0,a1] h R:=fk f210 (.s .z (.j 3584 [] (.s .z (.s .z .z)) (.s .z (.j 266338304 [] (.s .z (.s .z .z)) (.s .z (.s .z (.s (.l 140720308486400 [8] (.s (.s .z (.s .z .z)) (.d (.op 0 .r (.op 1 .r (.op 2 .r (.op 3 .r (.op 4 .r (.op 5 .r (.op 6 .r (.op 7 .n (.op 8 .r (.op 9 .r .nil))))))))))))) (.s .z .z)))))))) H
def xP (a0 a1 a2:Value)(h:af)(R:Value→af→Prop):Prop:=
 vK (ag .i .eql a2 (.int .i64 0)) λr=>
 aA r (
 R (.int .i64 0) h) (
 ae prog mg #[a0,a1] h λe s=>
 vK (aE e 0) λj=>
 vK (aE e 1) λt=>
 vK (aE e 2) λu=>
 ae prog pR #[a2] s λf k=>
 vK (ag .i .lss a2 (.int .i64 0)) λv=>
 vK (ag .b .neq u v) λa=>
 vK (ag .i .geq j f) λw=>
 aA w (
 ae prog du #[(.int .u64 1),(.int .u64 0),a] k λx y=>
 R x y) (
 ae prog mG #[j,t,f] k λl m=>
 vK (aE l 0) λn=>
 vK (aE l 1) λg=>
 vK (ag .i .sub f g) λo=>
 vK (gV a true (some g)) λz=>
 vK (gV a true (some o)) λaa=>
 vK (gV a true (ag .i .gtr z aa)) λab=>
 vK (az a ab (.bool false)) λc=>
 vK (gV c false (some a)) λac=>
 vK (gV c false (unV .not ac)) λad=>
 vK (gV c false (some ad)) λd=>
 vK (gV d true (some g)) λah=>
 vK (gV d true (some o)) λai=>
 vK (gV d true (ag .i .geq ah ai)) λaj=>
 vK (gV c false (az d aj (.bool false))) λak=>
 vK (az c (.bool true) ak) λal=>
 aA al (
 ae prog fj #[n,(.int .u64 1),(.int .u64 0)] m λp am=>
 vK (aE p 0) λan=>
 vK (aE p 1) λao=>
 ae prog du #[ao,an,a] am λap aq=>
 R ap aq) (
 ae prog fj #[n,(.int .u64 0),(.int .u64 0)] m λq ar=>
 vK (aE q 0) λau=>
 vK (aE q 1) λav=>
 ae prog du #[av,au,a] ar λaw ax=>
 R aw ax)))
theorem Hz (H:xP a0 a1 a2 h R):ae prog dw #[a0,a1,a2] h R:=fk f211 (.s .z (.s (.s .z (.s (.s .z .z) .z)) (.s .z (.s .z (.s .z (.s (.s .z (.s (.s .z .z) .z)) (.s .z (.s .z (.s .z (.s (.s .z (.s .z .z)) (.s .z (.s .z .z)))))))))))) H
def yq (h:af)(R:Value→af→Prop):Prop:=
 ae prog uQ #[] h λs l=>
 vK (unV .not s) λe=>
 gK e false (λt=>ae prog uP #[] l t) l λu m=>
 vK (gV e false (unV .not u)) λv=>
 vK (az e (.bool true) v) λw=>
 aA w (
 R (.bool false) m) (
 ae prog jC #[(.int .i64 0),(.int .i64 4),(.int .i64 2)] m λn o=>
 vK (aE n 0) λb=>
 vK (aE n 1) λx=>
 vK (ag .i .neq x (.int .i64 0)) λf=>
 vK (gV f false (some b)) λy=>
 vK (gV f false (ag .p .eql y (.pointer none))) λz=>
 vK (az f (.bool true) z) λaa=>
 aA aa (
 R (.bool false) o) (
 ae prog bh #[b,(.int .i64 1)] o λab ac=>
 aP #[(.int .i64 0),(.slice none 0 0)] 189 ac λg ad=>
 stK 2 g ab ad λa6 ah=>
 ae prog fB #[b,(.int .i64 0),(.int .i64 2)] ah λq ai=>
 vK (aE q 0) λaj=>
 vK (aE q 1) λak=>
 ae prog bh #[b,(.int .i64 0)] ai λal c=>
 vK (mZ false 1 0 al) λan=>
 vK (ag .i .eql an (.int .i64 0)) λd=>
 vK (gV d true (am 0 g)) λao=>
 vK (gV d true (ldV c ao)) λap=>
 vK (gV d true (ag .i .eql ap (.int .i64 2))) λaq=>
 vK (az d aq (.bool false)) λa=>
 vK (gV a true (am 1 g)) λar=>
 vK (gV a true (ldV c ar)) λau=>
 gK a true (λav=>cE #[(.int .i64 0),(.int .i64 0)] 2 2 [(0,1,(.int .i64 8192)),(1,1,(.int .i64 8192))] c av) c λaw r=>
 gK a true (λax=>ae prog ri #[au,aw] r ax) r λay a0=>
 vK (az a ay (.bool false)) λj=>
 vK (gV j true (some aj)) λa1=>
 vK (gV j true (ag .i .eql a1 (.int .i64 0))) λa2=>
 vK (az j a2 (.bool false)) λk=>
 vK (gV k true (some ak)) λa3=>
 vK (gV k true (ag .i .eql a3 (.int .i64 4))) λa4=>
 vK (az k a4 (.bool false)) λa5=>
 R a5 a0))
theorem Im (H:yq h R):ae prog uO #[] h R:=fk f212 (.s .z (.s (.s .z (.s (.s .z .z) .z)) (.s .z (.s (.s .z (.s (.s .z .z) .z)) (.s .z (.s .z (.s .z .z))))))) H
def kY (a0:Value)(h:af)(R:Value→af→Prop):Prop:=
 vK (aK a0) λa=>
 vK (am 4 a) λb=>
 vK (ldV h b) λc=>
 ae prog cQ #[c] h λd e=>
 R d e
theorem vz (H:kY a0 h R):ae prog iM #[a0] h R:=fk f213 (.s .z (.s .z .z)) H
def qy (a0 a1 a2 a3 a4:Value)(h:af)(R:Value→af→Prop):Prop:=
 ae prog gy #[a0,a1,a2,a3] h λc b=>
 vK (ag .i .lss c (.int .i64 0)) λa=>
 vK (gV a false (some a4)) λd=>
 vK (gV a false (eS .i64 d)) λe=>
 vK (gV a false (some a0)) λf=>
 vK (gV a false (aK f)) λg=>
 vK (gV a false (am 3 g)) λj=>
 vK (gV a false (ldV b j)) λk=>
 vK (gV a false (ag .i .gtr e k)) λl=>
 vK (az a (.bool true) l) λm=>
 aA m (
 R (.bool false) b) (
 vK (aK a0) λn=>
 vK (am 4 n) λo=>
 vK (ldV b o) λp=>
 vK (aR 1 p c) λq=>
 stK 1 q a4 b λs r=>
 R (.bool true) r)
theorem Ar (H:qy a0 a1 a2 a3 a4 h R):ae prog eK #[a0,a1,a2,a3,a4] h R:=fk f214 (.s .z (.s .z (.s (.s .z (.s (.s .z .z) .z)) (.s .z (.s .z .z))))) H
def xt (a0 a1:Value)(h:af)(R:Value→af→Prop):Prop:=
 ae prog iX #[a0,(.int .i64 28)] h λa b=>
 vK (pF a1 (.int .i64 65535)) λc=>
 vK (ia (.int .i64 0) c) λd=>
 ae prog oK #[a,(.int .i64 0),d] b λe f=>
 vK (eS .u16 e) λg=>
 R g f
theorem Gn (H:xt a0 a1 h R):ae prog mH #[a0,a1] h R:=fk f215 (.s .z (.s .z .z)) H
def Bc (a0 a1 a2 a3 a4:Value)(h:af)(R:Value→af→Prop):Prop:=
 aP (Value.cells a1) 81 h λf s=>
 vK (aH 3 s f) λbg=>
 ae prog iq #[a0,bg] s λbi t=>
 vK (unV .not bi) λo=>
 vK (gV o false (some a4)) λbj=>
 vK (gV o false (ag .i .lss bj (.int .i64 0))) λbk=>
 vK (az o (.bool true) bk) λg=>
 vK (gV g false (some a4)) λbl=>
 vK (gV g false (some a0)) λbm=>
 gK g false (λbn=>ae prog aO #[bm] t bn) t λbo a=>
 vK (gV g false (ag .i .geq bl bo)) λbp=>
 vK (az g (.bool true) bp) λbq=>
 aA bq (
 R (.int .i64 0) a) (
 dK (λbr=>
 bC a λS=>
 vK (am 0 f) λbs=>
 qK S (λa=>ldV a bs) λj=>
 vK (am 1 f) λbt=>
 qK S (λa=>ldV a bt) λk=>
 (λC33:Value→Value→Value→Value→af→Prop=>
 (λC40:Value→Value→Value→af→Prop=>
 (λC47:Value→Value→Value→af→Prop=>
 (λC54:Value→Value→Value→af→Prop=>
 (λC62:Value→Value→af→Prop=>
 (λC70:Value→Value→af→Prop=>
 (λC76:Value→Value→af→Prop=>
 (ae prog bh #[j,a2] a λl m=>
 S m∧((ae prog bh #[k,a3] m λu p=>
 S p∧((aP #[(.int .i64 0),(.slice none 0 0)] 189 p λbu v=>
 S v∧(C40 l u bu v))∧(aP #[(.int .i64 0),(.slice none 0 0)] 189 p λbv w=>
 S w∧(C47 l u bv w))))∧((aP #[(.int .i64 0),(.slice none 0 0)] 189 m λbw x=>
 S x∧(C62 l bw x))∧(aP #[(.int .i64 0),(.slice none 0 0)] 189 m λbx y=>
 S y∧(C70 l bx y)))))∧((aP #[(.int .i64 0),(.slice none 0 0)] 189 a λz q=>
 S q∧((ae prog bh #[j,a2] q λbz aa=>
 S aa∧(C62 bz z aa))∧(aP #[(.int .i64 0),(.slice none 0 0)] 189 q λb0 ab=>
 S ab∧(C76 z b0 ab))))∧(aP #[(.int .i64 0),(.slice none 0 0)] 189 a λac r=>
 S r∧((ae prog bh #[j,a2] r λb1 ad=>
 S ad∧(C70 b1 ac ad))∧(aP #[(.int .i64 0),(.slice none 0 0)] 189 r λb2 ah=>
 S ah∧(C76 b2 ac ah)))))) (λb3 b4 b5=>
 ae prog bh #[j,a2] b5 λb6 ai=>
 S ai∧(C54 b6 b3 b4 ai))) (λaj ak al=>
 (ae prog bh #[k,a3] al λb7 an=>
 S an∧(C47 aj b7 ak an))∧(aP #[(.int .i64 0),(.slice none 0 0)] 189 al λb8 ao=>
 S ao∧(C54 aj b8 ak ao)))) (λap ar au=>
 (ae prog bh #[k,a3] au λb9 av=>
 S av∧(C40 ap b9 ar av))∧(aP #[(.int .i64 0),(.slice none 0 0)] 189 au λca aw=>
 S aw∧(C54 ap ar ca aw)))) (λcb cc cd ce=>
 ae prog bh #[k,a3] ce λcf ax=>
 S ax∧(C33 cb cf cc cd ax))) (λcg ch ci cj=>
 aP #[(.int .i64 0),(.slice none 0 0)] 189 cj λck ay=>
 S ay∧(C33 cg ch ck ci ay))) (λcl cm cn co=>
 aP #[(.int .i64 0),(.slice none 0 0)] 189 co λcp a5=>
 S a5∧(C33 cl cm cn cp a5))) (λcq cr a6 a7 cs=>
 stK 2 a6 cq cs λdt a8=>
 S a8∧(stK 2 a7 cr a8 λdu a9=>
 S a9∧(br [a6,a7] a9))))
 λn dv ba=>
 vK (am 1 (ix n 1)) λct=>
 vK (ldV ba ct) λbb=>
 vK (aq bb) λcu=>
 aU [(.int .i64 0),(.int .i64 0)] ba λd dw b cv=>
 vK (ag .i .lss (ix d 1) cu) λcw=>
 aA cw (
 vK (aR 1 bb (ix d 1)) λcx=>
 vK (ldV b cx) λcy=>
 bC b λS=>
 vK (am 2 f) λcz=>
 qK S (λb=>ldV b cz) λc0=>
 vK (am 0 (ix n 1)) λc1=>
 qK S (λb=>ldV b c1) λc2=>
 vK (ag .i .add c2 (ix d 1)) λc3=>
 ae prog bF #[a0] b λc4 bc=>
 S bc∧(ae prog jI #[c0,c3,c4] bc λc5 bd=>
 vK (am 1 (ix n 0)) λc6=>
 vK (ldV bd c6) λbe=>
 vK (aq be) λc7=>
 aU [(ix d 0),(.int .i64 0)] bd λe dx c c8=>
 vK (ag .i .lss (ix e 1) c7) λc9=>
 aA c9 (
 vK (aR 1 be (ix e 1)) λda=>
 vK (ldV c da) λdb=>
 bC c λS=>
 vK (am 2 f) λdc=>
 qK S (λc=>ldV c dc) λdd=>
 vK (am 0 (ix n 0)) λde=>
 qK S (λc=>ldV c de) λdf=>
 vK (ag .i .add df (ix e 1)) λdg=>
 ae prog bD #[a0] c λdh bf=>
 S bf∧(ae prog jI #[dd,dg,dh] bf λdi dj=>
 vK (ag .i .mul db cy) λdk=>
 ae prog fi #[a0,di,c5,a4] dj λdl dm=>
 vK (eS .i64 dl) λdn=>
 vK (ag .i .mul dk dn) λdp=>
 vK (ag .i .add (ix e 0) dp) λdq=>
 vK (ag .i .add (ix e 1) (.int .i64 1)) λdr=>
 c8 [dq,dr] dm)) (
 vK (ag .i .add (ix d 1) (.int .i64 1)) λds=>
 cv [(ix e 0),ds] c))) (
 R (ix d 0) b))
theorem KO (H:Bc a0 a1 a2 a3 a4 h R):ae prog w6 #[a0,a1,a2,a3,a4] h R:=fk f216 (.s .z (.s (.s .z (.s (.s .z .z) .z)) (.j 4380866648064 [11,12] (.d (.op 0 .r (.op 1 .r (.op 2 .r (.op 4 .r (.op 5 .r (.op 6 .r (.alt (.op 3 .e (.alt (.op 7 .e (.alt (.op 8 .e (.op 9 .e (.op 10 .e (.op 11 .e .nil)))) (.op 9 .e (.op 8 .e (.op 10 .e (.op 11 .e .nil)))))) (.alt (.op 8 .e (.alt (.op 7 .e (.op 9 .e (.op 10 .e (.op 11 .e .nil)))) (.op 9 .e (.op 7 .e (.op 10 .e (.op 11 .e .nil)))))) (.op 9 .e (.alt (.op 7 .e (.op 8 .e (.op 10 .e (.op 11 .e .nil)))) (.op 8 .e (.op 7 .e (.op 10 .e (.op 11 .e .nil))))))))) (.alt (.op 8 .e (.alt (.op 3 .e (.alt (.op 7 .e (.op 9 .e (.op 10 .e (.op 11 .e .nil)))) (.op 9 .e (.op 7 .e (.op 10 .e (.op 11 .e .nil)))))) (.op 9 .e (.op 3 .e (.op 7 .e (.op 10 .e (.op 11 .e .nil))))))) (.op 9 .e (.alt (.op 3 .e (.alt (.op 7 .e (.op 8 .e (.op 10 .e (.op 11 .e .nil)))) (.op 8 .e (.op 7 .e (.op 10 .e (.op 11 .e .nil)))))) (.op 8 .e (.op 3 .e (.op 7 .e (.op 10 .e (.op 11 .e .nil)))))))))))))))) (.s .z (.s (.s .z (.l 1237940039285345090528075776 [13,45] (.s .z (.s (.s .z .z) (.s (.s .z (.s (.d (.op 0 .r (.op 1 .r (.op 2 .r (.op 3 .r (.op 4 .r (.op 5 .r (.op 6 .r (.op 7 .e (.op 8 .n (.op 9 .r .nil))))))))))) (.s .z (.l 618970015031004119023099904 [13,62] (.s .z (.s (.s .z .z) (.s (.s .z (.s (.d (.op 0 .r (.op 1 .r (.op 2 .r (.op 3 .r (.op 4 .r (.op 5 .r (.op 6 .r (.op 7 .e (.op 8 .n (.op 9 .r .nil))))))))))) .z)) .z))))))) .z))))) (.s .z .z)))))) H
def rB (a0:Value)(h:af)(R:Value→af→Prop):Prop:=
 vK (aK a0) λa=>
 vK (am 16 a) λb=>
 vK (ldV h b) λc=>
 vK (aK a0) λd=>
 vK (am 5 d) λe=>
 vK (am 1 e) λf=>
 vK (am 1 f) λg=>
 vK (ldV h g) λj=>
 vK (aK a0) λk=>
 vK (am 5 k) λl=>
 vK (am 1 l) λm=>
 vK (am 3 m) λn=>
 vK (ldV h n) λo=>
 vK (ag .i .add j o) λp=>
 vK (ag .i .geq c p) λq=>
 R q h
theorem BD (H:rB a0 h R):ae prog mf #[a0] h R:=fk f217 (.s .z (.s .z .z)) H
def rC (a0:Value)(h:af)(R:Value→af→Prop):Prop:=
 aP #[(.int .i64 0),(.slice none 0 0)] 189 h λb a=>
 bC a λS=>
 vK (aK a0) λd=>
 vK (am 2 d) λe=>
 vK (am 1 e) λf=>
 qK S (λa=>ldV a f) λg=>
 vK (aK a0) λi=>
 vK (am 16 i) λj=>
 qK S (λa=>ldV a j) λk=>
 ae prog bh #[g,k] a λl m=>
 stK 2 b l m λo c=>
 vK (aH 2 c b) λn=>
 R n c
theorem BE (H:rC a0 h R):ae prog jn #[a0] h R:=fk f218 (.s .z (.s (.d (.op 0 .r (.op 1 .r (.op 2 .r (.op 3 .r (.op 4 .r (.op 5 .r (.op 6 .r (.op 7 .r (.op 8 .r (.op 9 .n (.op 10 .n .nil)))))))))))) .z)) H
def tu (a0 a1 a2:Value)(h:af)(R:Value→af→Prop):Prop:=
 aU [a1] h λa k b d=>
 vK (ag .i .lss (ix a 0) a2) λe=>
 aA e (
 ae prog kK #[a0,(ix a 0)] b λf c=>
 vK (unV .not f) λg=>
 aA g (
 R (.tuple #[(ix a 0),(.bool true)]) c) (
 vK (ag .i .add (ix a 0) (.int .i64 1)) λj=>
 d [j] c)) (
 R (.tuple #[(.int .i64 0),(.bool false)]) b)
theorem Dt (H:tu a0 a1 a2 h R):ae prog nR #[a0,a1,a2] h R:=fk f219 (.s .z (.s (.s .z (.l 1048000 [8] (.s (.s .z (.s .z .z)) (.s (.s .z (.s (.s .z .z) .z)) .z)))) (.s .z .z))) H
def oP (a0 a1 a2 a3:Value)(h:af)(R:Value→af→Prop):Prop:=
 vK (aK a0) λl=>
 vK (am 2 l) λm=>
 vK (am 0 m) λn=>
 vK (ldV h n) λo=>
 ae prog bh #[o,a1] h λp q=>
 aP #[(.int .i64 0),(.slice none 0 0)] 189 q λd r=>
 stK 2 d p r λbg f=>
 vK (aK a0) λs=>
 vK (am 0 s) λt=>
 vK (ldV f t) λu=>
 ae prog aO #[u] f λv w=>
 aU [a3,(.int .i64 0)] w λc bi e x=>
 vK (ag .i .lss (ix c 1) v) λy=>
 aA y (
 vK (am 1 d) λz=>
 vK (ldV e z) λg=>
 vK (aq g) λaa=>
 aU [(.int .i64 0),(.int .i64 0)] e λb bj a ab=>
 vK (ag .i .lss (ix b 1) aa) λac=>
 aA ac (
 vK (aR 1 g (ix b 1)) λad=>
 vK (ldV a ad) λah=>
 bC a λS=>
 vK (aK a0) λai=>
 vK (am 2 ai) λaj=>
 vK (am 2 aj) λak=>
 qK S (λa=>ldV a ak) λal=>
 vK (am 0 d) λan=>
 qK S (λa=>ldV a an) λao=>
 vK (ag .i .add ao (ix b 1)) λap=>
 vK (aK a0) λar=>
 vK (am 0 ar) λau=>
 qK S (λa=>ldV a au) λav=>
 ae prog bD #[av] a λaw j=>
 S j∧(ae prog jI #[al,ap,aw] j λax k=>
 vK (aK a0) λay=>
 vK (am 0 ay) λaz=>
 vK (ldV k az) λa4=>
 ae prog fi #[a4,ax,a2,(ix c 1)] k λa5 a6=>
 vK (eS .i64 a5) λa7=>
 vK (ag .i .mul ah a7) λa8=>
 vK (ag .i .add (ix b 0) a8) λa9=>
 vK (ag .i .add (ix b 1) (.int .i64 1)) λba=>
 ab [a9,ba] a6)) (
 cE #[(.int .i64 0)] 2 1 [(0,1,(ix b 0))] a λbb bc=>
 cF (.int .i64 0) 2 1 8 (ix c 0) bb bc λbd be=>
 vK (ag .i .add (ix c 1) (.int .i64 1)) λbf=>
 x [bd,bf] be)) (
 R (ix c 0) e)
theorem yK (H:oP a0 a1 a2 a3 h R):ae prog kb #[a0,a1,a2,a3] h R:=fk f220 (.s .z (.s .z (.s (.s .z (.l 4722366482869511027720 [3,27] (.s .z (.s (.s .z .z) (.s (.s .z (.s .z (.s (.s .z (.l 147573952581086509056 [11,33] (.s .z (.s (.s .z .z) (.s (.s .z (.s (.d (.op 0 .r (.op 1 .r (.op 2 .r (.op 3 .r (.op 4 .r (.op 5 .r (.op 6 .r (.op 7 .r (.op 8 .r (.op 9 .r (.op 10 .r (.op 11 .r (.op 12 .r (.op 13 .e (.op 14 .n (.op 15 .r .nil))))))))))))))))) .z)) .z))))) .z))) .z))))) (.s .z .z)))) H
def vd (a0 a1 a2:Value)(h:af)(R:Value→af→Prop):Prop:=
 vK (aq a2) λk=>
 vK (aK a0) λl=>
 vK (am 1 l) λm=>
 vK (ldV h m) λn=>
 vK (ag .i .neq k n) λb=>
 vK (gV b false (some a0)) λo=>
 vK (gV b false (some a1)) λp=>
 gK b false (λq=>ae prog kK #[o,p] h q) h λr c=>
 vK (az b (.bool true) r) λs=>
 aA s (
 R (.bool false) c) (
 dK (λd=>
 ae prog mu #[a0] c λe a=>
 vK (aE e 0) λf=>
 vK (aE e 1) λan=>
 vK (aK a0) λt=>
 vK (am 2 t) λu=>
 vK (ldV a u) λv=>
 vK (Lq a v) λw=>
 vK (aK a0) λx=>
 vK (am 0 x) λy=>
 vK (ldV a y) λz=>
 vK (ag .i .geq w z) λaa=>
 aA aa (
 vK (ag .i .lss a1 f) λab=>
 aA ab (
 R (.bool false) a) (
 ae prog nQ #[a0,f] a λao ac=>
 d [] ac)) (
 d [] a))
 λap ar ad=>
 ae prog mo #[a0] ad λg ah=>
 Ch 1 g a2 ah λau j=>
 vK (aK a0) λai=>
 vK (am 2 ai) λaj=>
 vK (ldV j aj) λak=>
 qQ (.int .i64) ak a1 g j λav al=>
 R (.bool true) al)
theorem Ev (H:vd a0 a1 a2 h R):ae prog qe #[a0,a1,a2] h R:=fk f221 (.s .z (.s (.s .z (.s (.s .z .z) .z)) (.j 8796088828352 [] (.s .z (.s .z (.s (.s (.s .z (.s (.s .z .z) .z)) .z) .z))) (.s .z (.s .z (.s .z (.s .z .z))))))) H
def rJ (a0:Value)(h:af)(R:Value→af→Prop):Prop:=
 vK (aK a0) λa=>
 vK (am 1 a) λb=>
 vK (ldV h b) λc=>
 R c h
theorem BK (H:rJ a0 h R):ae prog ms #[a0] h R:=fk f222 (.s .z (.s .z .z)) H
def uZ (a0 a1:Value)(h:af)(R:Value→af→Prop):Prop:=
 vK (aK a0) λb=>
 vK (am 2 b) λc=>
 vK (ldV h c) λd=>
 vK (FE (.int .i64) (.slice none 0 0) true h d a1) λa=>
 vK (aE a 0) λe=>
 vK (aE a 1) λf=>
 ae prog cC #[e] h λg i=>
 R (.tuple #[g,f]) i
theorem Eu (H:uZ a0 a1 h R):ae prog qa #[a0,a1] h R:=fk f223 (.s .z (.s .z (.s .z .z))) H
def AL (a0:Value)(h:af)(R:Value→af→Prop):Prop:=
 vK (ag .i .geq a0 (.int .i64 1)) λa=>
 vK (gV a true (some a0)) λb=>
 vK (gV a true (ag .i .leq b (.int .i64 65536))) λc=>
 vK (az a c (.bool false)) λd=>
 R d h
theorem Kr (H:AL a0 h R):ae prog my #[a0] h R:=fk f224 (.s .z (.s .z .z)) H
def CU (a0 a1 a2 a3:Value)(h:af)(R:Value→af→Prop):Prop:=
 ae prog zJ #[a0,a1,a2,a3] h λj d=>
 vK (unV .not j) λk=>
 aA k (
 R (.tuple #[(.int .i64 0),(.slice none 0 0)]) d) (
 vK (ag .i .mul a3 a1) λl=>
 vK (ag .i .quo l a2) λm=>
 aU [m] d λc ak n o=>
 vK (ag .i .sub (ix c 0) (.int .i64 1)) λp=>
 ae prog nU #[a0,a1,a2,a3,p] n λq e=>
 aA q (
 vK (ag .i .sub (ix c 0) (.int .i64 1)) λr=>
 o [r] e) (
 aU [(ix c 0)] e λb al s t=>
 ae prog nU #[a0,a1,a2,a3,(ix b 0)] s λu f=>
 vK (unV .not u) λv=>
 aA v (
 vK (ag .i .add (ix b 0) (.int .i64 1)) λw=>
 t [w] f) (
 aU [(ix b 0),(.slice none 0 0)] f λa am x y=>
 ae prog nU #[a0,a1,a2,a3,(ix a 0)] x λz g=>
 aA z (
 ae prog sO #[a0,a1,a2,a3,(ix a 0)] g λaa ab=>
 cE #[(.int .i64 0)] 2 1 [(0,1,aa)] ab λac ad=>
 cF (.int .i64 0) 2 1 8 (ix a 1) ac ad λah ai=>
 vK (ag .i .add (ix a 0) (.int .i64 1)) λaj=>
 y [aj,ah] ai) (
 R (.tuple #[(ix b 0),(ix a 1)]) g))))
theorem MD (H:CU a0 a1 a2 a3 h R):ae prog uh #[a0,a1,a2,a3] h R:=fk f225 (.s .z (.s (.s .z (.s (.s .z .z) .z)) (.s .z (.s (.l 8573158400 [10] (.s (.s .z (.s .z .z)) .z)) (.s (.l 4389456577536 [10] (.s (.s .z (.s .z .z)) .z)) (.s .z (.s .z (.s (.l 1152912708513829888 [10,12] (.s (.s .z (.s .z .z)) (.s .z .z))) (.s .z .z))))))))) H
def rL (a0:Value)(h:af)(R:Value→af→Prop):Prop:=
 vK (aq a0) λr=>
 vK (ag .i .lss r (.int .i64 1)) λd=>
 vK (gV d false (some a0)) λs=>
 vK (gV d false (aq s)) λt=>
 vK (gV d false (ag .i .gtr t (.int .i64 1048576))) λu=>
 vK (az d (.bool true) u) λv=>
 aA v (
 R (.tuple #[(.slice none 0 0),(.int .i64 7)]) h) (
 vK (aq a0) λw=>
 aU [(.int .i64 0)] h λe bp f x=>
 vK (ag .i .lss (ix e 0) w) λy=>
 aA y (
 vK (aR 1 a0 (ix e 0)) λz=>
 vK (ldV f z) λaa=>
 ae prog rh #[aa] f λab l=>
 vK (ag .i .gtr ab (.int .i64 1099511627776)) λac=>
 aA ac (
 R (.tuple #[(.slice none 0 0),(.int .i64 7)]) l) (
 vK (ag .i .add (ix e 0) (.int .i64 1)) λad=>
 x [ad] l)) (
 ae prog zI #[a0] f λg m=>
 vK (ag .i .lss g (.int .i64 268435456)) λah=>
 aA ah (
 R (.tuple #[(.slice none 0 0),(.int .i64 8)]) m) (
 vK (aq a0) λai=>
 aU [(.slice none 0 0),(.slice none 0 0),(.int .i64 16384),(.int .i64 0)] m λa bq j aj=>
 vK (ag .i .lss (ix a 3) ai) λak=>
 aA ak (
 vK (aR 1 a0 (ix a 3)) λal=>
 vK (ldV j al) λn=>
 vK (ag .i .mul n (.int .i64 16384)) λam=>
 ae prog oF #[am,g] j λk an=>
 cE #[(.int .i64 0)] 2 1 [(0,1,k)] an λao ap=>
 cF (.int .i64 0) 2 1 8 (ix a 0) ao ap λar au=>
 vK (ag .i .mul n (.int .i64 16384)) λav=>
 vK (ag .i .mul k g) λaw=>
 vK (ag .i .sub av aw) λax=>
 cE #[(.int .i64 0)] 2 1 [(0,1,ax)] au λay a1=>
 cF (.int .i64 0) 2 1 8 (ix a 1) ay a1 λa2 a3=>
 vK (ag .i .sub (ix a 2) k) λa4=>
 vK (ag .i .add (ix a 3) (.int .i64 1)) λa5=>
 aj [ar,a2,a4,a5] a3) (
 aU [(ix a 2)] j λo br p a6=>
 vK (ag .i .gtr (ix o 0) (.int .i64 0)) λa7=>
 aA a7 (
 vK (aq (ix a 1)) λa8=>
 aU [(.int .i64 0),(.int .i64 0)] p λb bs c q=>
 vK (ag .i .lss (ix b 1) a8) λa9=>
 aA a9 (
 vK (aR 1 (ix a 1) (ix b 1)) λba=>
 vK (ldV c ba) λbb=>
 vK (aR 1 (ix a 1) (ix b 0)) λbc=>
 vK (ldV c bc) λbd=>
 vK (ag .i .gtr bb bd) λbe=>
 aA be (
 vK (ag .i .add (ix b 1) (.int .i64 1)) λbf=>
 q [(ix b 1),bf] c) (
 vK (ag .i .add (ix b 1) (.int .i64 1)) λbg=>
 q [(ix b 0),bg] c)) (
 vK (aR 1 (ix a 0) (ix b 0)) λbh=>
 vK (ldV c bh) λbi=>
 vK (ag .i .add bi (.int .i64 1)) λbj=>
 vK (aR 1 (ix a 0) (ix b 0)) λbk=>
 stK 1 bk bj c λbt bl=>
 vK (aR 1 (ix a 1) (ix b 0)) λbm=>
 stK 1 bm (.int .i64 (-1)) bl λbu bn=>
 vK (ag .i .sub (ix o 0) (.int .i64 1)) λbo=>
 a6 [bo] bn)) (
 R (.tuple #[(ix a 0),(.int .i64 0)]) p)))))
theorem BM (H:rL a0 h R):ae prog gu #[a0] h R:=fk f226 (.s .z (.s (.s .z (.s (.s .z .z) .z)) (.s (.s .z (.l 8556380204 [25] (.s .z (.s (.s .z .z) (.s (.s .z (.s .z (.s (.s .z .z) .z))) .z))))) (.s .z (.s (.s .z (.s (.s .z .z) .z)) (.s .z (.s .z (.s .z (.s (.s .z (.l 18446743523953744768 [7,8,9,39] (.s .z (.s (.s .z .z) (.s (.s .z (.s .z (.s .z (.s .z .z)))) .z))))) (.s (.l 9903520295836298125483467264 [9] (.s (.s .z (.s .z .z)) (.s .z (.s (.s .z (.l 4835408130553337346023424 [13,68] (.s .z (.s (.s .z .z) (.s (.s .z (.s .z (.s .z .z))) .z))))) (.s .z (.s .z .z)))))) (.s .z .z))))))))))) H
def xV (a0 a1:Value)(h:af)(R:Value→af→Prop):Prop:=
 ae prog uF #[a0,a1] h λa b=>
 ae prog zL #[a] b λc d=>
 ae prog ks #[c,(.int .i64 10)] d λe f=>
 R e f
theorem HI (H:xV a0 a1 h R):ae prog uG #[a0,a1] h R:=fk f227 (.s .z (.s .z .z)) H
def xT (a0:Value)(h:af)(R:Value→af→Prop):Prop:=
 vK (aq a0) λc=>
 aU [(.int .i64 0),(.int .i64 0)] h λa o b d=>
 vK (ag .i .lss (ix a 1) c) λe=>
 aA e (
 vK (aR 1 a0 (ix a 1)) λf=>
 vK (ldV b f) λg=>
 ae prog rh #[g] b λj k=>
 ae prog q9 #[(ix a 0),j] k λl m=>
 vK (ag .i .add (ix a 1) (.int .i64 1)) λn=>
 d [l,n] m) (
 R (ix a 0) b)
theorem HG (H:xT a0 h R):ae prog uE #[a0] h R:=fk f228 (.s .z (.s .z (.s (.s .z (.l 130856 [3,8] (.s .z (.s (.s .z .z) (.s (.s .z .z) .z))))) (.s .z .z)))) H
def xk (a0 a1 a2:Value)(h:af)(R:Value→af→Prop):Prop:=
 vK (ag .i .eql a2 (.int .i64 0)) λe=>
 aA e (
 R (.int .i64 0) h) (
 ae prog eT #[a0] h λf g=>
 ae prog eT #[a1] g λj k=>
 ae prog oD #[f,j] k λl m=>
 aP #[(.int .u64 0),(.int .u64 0)] 351 m λc n=>
 stK 2 c l n λx a=>
 vK (ag .i .lss a0 (.int .i64 0)) λo=>
 vK (ag .i .lss a1 (.int .i64 0)) λp=>
 vK (ag .b .neq o p) λq=>
 bC a λS=>
 qK S (λa=>aH 2 a c) λr=>
 vK (ag .i .lss a2 (.int .i64 0)) λs=>
 vK (ag .b .neq q s) λt=>
 ae prog eT #[a2] a λu d=>
 S d∧(ae prog qg #[r,u,t] d λv w=>
 R v w))
theorem Gh (H:xk a0 a1 a2 h R):ae prog cH #[a0,a1,a2] h R:=fk f229 (.s .z (.s (.s .z (.s (.s .z .z) .z)) (.s .z (.s .z (.s (.d (.op 0 .r (.op 1 .r (.op 3 .r (.op 4 .r (.op 5 .r (.op 6 .r (.op 2 .e (.op 7 .n (.op 8 .r .nil)))))))))) .z))))) H
end
section
variable {a0 a1 a2 a3 a4 a5 a6:Value}{h:af}{R:Value→af→Prop}
def GT (a0 a1 a2 a3:Value)(h:af)(R:Value→af→Prop):Prop:=
 vK (ag .i .geq a0 (.int .i64 0)) λb=>
 vK (gV b true (some a0)) λj=>
 vK (gV b true (ag .i .lss j (.int .i64 3))) λk=>
 vK (az b k (.bool false)) λc=>
 vK (gV c true (some a1)) λl=>
 vK (gV c true (ag .i .geq l (.int .i64 1))) λm=>
 vK (az c m (.bool false)) λd=>
 vK (gV d true (some a1)) λn=>
 vK (gV d true (ag .i .leq n (.int .i64 65536))) λo=>
 vK (az d o (.bool false)) λe=>
 vK (gV e true (some a2)) λp=>
 vK (gV e true (ag .i .geq p (.int .i64 1))) λq=>
 vK (az e q (.bool false)) λf=>
 vK (gV f true (some a2)) λr=>
 vK (gV f true (ag .i .leq r (.int .i64 65536))) λs=>
 vK (az f s (.bool false)) λg=>
 vK (gV g true (some a3)) λt=>
 vK (gV g true (ag .i .geq t (.int .i64 0))) λu=>
 vK (az g u (.bool false)) λa=>
 vK (gV a true (some a3)) λv=>
 vK (gV a true (some a2)) λw=>
 vK (gV a true (ag .i .lss v w)) λx=>
 vK (az a x (.bool false)) λy=>
 R y h
theorem Qe (H:GT a0 a1 a2 a3 h R):ae prog Fg #[a0,a1,a2,a3] h R:=fk f236 (.s .z (.s .z .z)) H
def Fq (a0 a1:Value)(h:af)(R:Value→af→Prop):Prop:=
 vK (unV .neg a0) λa=>
 ae prog iY #[a,a1] h λb c=>
 vK (unV .neg b) λd=>
 R d c
theorem Oj (H:Fq a0 a1 h R):ae prog wN #[a0,a1] h R:=fk f237 (.s .z (.s .z .z)) H
def Ft (a0 a1:Value)(h:af)(R:Value→af→Prop):Prop:=
 vK (ag .i .lss a1 (.int .i64 1)) λd=>
 vK (gV d false (some a1)) λe=>
 vK (gV d false (ag .i .gtr e (.int .i64 262144))) λf=>
 vK (az d (.bool true) f) λb=>
 vK (gV b false (some a0)) λg=>
 vK (gV b false (some a1)) λj=>
 vK (gV b false (ag .i .mul (.int .i64 2) j)) λk=>
 vK (gV b false (ag .i .geq g k)) λl=>
 vK (az b (.bool true) l) λc=>
 vK (gV c false (some a0)) λm=>
 vK (gV c false (some a1)) λn=>
 vK (gV c false (ag .i .mul (.int .i64 (-2)) n)) λo=>
 vK (gV c false (ag .i .leq m o)) λp=>
 vK (az c (.bool true) p) λq=>
 aA q (
 R (.int .i64 0) h) (
 vK (unV .neg a0) λr=>
 vK (ia a0 r) λa=>
 vK (ag .i .mul (.int .i64 3) a) λs=>
 vK (ag .i .mul s a) λt=>
 vK (ag .i .mul t a) λu=>
 vK (ag .i .mul (.int .i64 5) a) λv=>
 vK (ag .i .mul v a) λw=>
 vK (ag .i .mul w a1) λx=>
 vK (ag .i .sub u x) λy=>
 vK (ag .i .mul (.int .i64 2) a1) λz=>
 vK (ag .i .mul z a1) λaa=>
 vK (ag .i .mul aa a1) λab=>
 vK (ag .i .add y ab) λac=>
 vK (ag .i .geq a a1) λad=>
 aA ad (
 vK (unV .neg a) λah=>
 vK (ag .i .mul ah a) λai=>
 vK (ag .i .mul ai a) λaj=>
 vK (ag .i .mul (.int .i64 5) a) λak=>
 vK (ag .i .mul ak a) λal=>
 vK (ag .i .mul al a1) λam=>
 vK (ag .i .add aj am) λan=>
 vK (ag .i .mul (.int .i64 8) a) λao=>
 vK (ag .i .mul ao a1) λap=>
 vK (ag .i .mul ap a1) λaq=>
 vK (ag .i .sub an aq) λar=>
 vK (ag .i .mul (.int .i64 4) a1) λau=>
 vK (ag .i .mul au a1) λav=>
 vK (ag .i .mul av a1) λaw=>
 vK (ag .i .add ar aw) λax=>
 vK (ag .i .mul (.int .i64 2) a1) λay=>
 vK (ag .i .mul ay a1) λa2=>
 vK (ag .i .mul a2 a1) λa3=>
 ae prog dw #[ax,(.int .i64 1073741824),a3] h λa4 a5=>
 R a4 a5) (
 vK (ag .i .mul (.int .i64 2) a1) λa6=>
 vK (ag .i .mul a6 a1) λa7=>
 vK (ag .i .mul a7 a1) λa8=>
 ae prog dw #[ac,(.int .i64 1073741824),a8] h λa9 ba=>
 R a9 ba))
theorem Om (H:Ft a0 a1 h R):ae prog sP #[a0,a1] h R:=fk f238 (.s .z (.s (.s .z (.s (.s .z .z) .z)) (.s .z (.s .z (.s (.s .z (.s .z .z)) (.s .z .z)))))) H
def xf (a0 a1:Value)(h:af)(R:Value→af→Prop):Prop:=
 ae prog Ct #[a0,a1] h λd b=>
 vK (unV .not d) λa=>
 vK (gV a false (some a0)) λe=>
 gK a false (λf=>ae prog ug #[e] b f) b λg c=>
 vK (gV a false (some a1)) λj=>
 vK (gV a false (ag .i .mul (.int .i64 3) j)) λk=>
 vK (gV a false (ag .i .geq g k)) λl=>
 vK (az a (.bool true) l) λm=>
 aA m (
 R (.int .i64 0) c) (
 ae prog oB #[a0,a1] c λn o=>
 vK (ag .i .mul (.int .i64 3) a1) λp=>
 ae prog oB #[a0,p] o λq r=>
 ae prog p9 #[n,q,(.int .i64 40)] r λs t=>
 ae prog iX #[s,(.int .i64 10)] t λu v=>
 R u v)
theorem Gc (H:xf a0 a1 h R):ae prog sN #[a0,a1] h R:=fk f239 (.s .z (.s (.s .z (.s (.s .z .z) .z)) (.s .z .z))) H
def fb (a0 a1:Value)(h:af)(R:Value→af→Prop):Prop:=
 ae prog ga #[a0,a1] h λa b=>
 vK (ag .i .geq a (.int .i64 0)) λc=>
 R c b
theorem jL (H:fb a0 a1 h R):ae prog de #[a0,a1] h R:=fk f240 (.s .z (.s .z .z)) H
def uX (a0:Value)(h:af)(R:Value→af→Prop):Prop:=
 ae prog ue #[a0] h λa b=>
 vK (ag .i .gtr a (.int .i64 1099511627776)) λc=>
 R c b
theorem Es (H:uX a0 h R):ae prog kI #[a0] h R:=fk f241 (.s .z (.s .z .z)) H
def CH (a0:Value)(h:af)(R:Value→af→Prop):Prop:=
 ae prog zQ #[a0,(.int .i64 (-1))] h λa b=>
 vK (ia a0 a) λc=>
 R c b
theorem Ms (H:CH a0 h R):ae prog ue #[a0] h R:=fk f242 (.s .z (.s .z .z)) H
def Dc (a0 a1:Value)(h:af)(R:Value→af→Prop):Prop:=
 vK (ag .i .add a0 a1) λc=>
 vK (ag .i .gtr a1 (.int .i64 0)) λa=>
 vK (gV a true (some c)) λd=>
 vK (gV a true (some a0)) λe=>
 vK (gV a true (ag .i .lss d e)) λf=>
 vK (az a f (.bool false)) λg=>
 aA g (
 R (.int .i64 9223372036854775807) h) (
 vK (ag .i .lss a1 (.int .i64 0)) λb=>
 vK (gV b true (some c)) λj=>
 vK (gV b true (some a0)) λk=>
 vK (gV b true (ag .i .gtr j k)) λl=>
 vK (az b l (.bool false)) λm=>
 aA m (
 R (.int .i64 (-9223372036854775808)) h) (
 R c h))
theorem MS (H:Dc a0 a1 h R):ae prog ul #[a0,a1] h R:=fk f243 (.s .z (.s .z (.s (.s .z (.s (.s .z .z) (.s .z (.s (.s .z .z) .z)))) (.s .z .z)))) H
def A8 (a0:Value)(h:af)(R:Value→af→Prop):Prop:=
 vK (ag .i .lss a0 (.int .i64 0)) λa=>
 aA a (
 vK (eS .u64 a0) λb=>
 vK (unV .neg b) λc=>
 R c h) (
 vK (eS .u64 a0) λd=>
 R d h)
theorem KK (H:A8 a0 h R):ae prog gE #[a0] h R:=fk f244 (.s .z (.s (.s .z (.s (.s .z .z) .z)) (.s .z .z))) H
def A9 (a0 a1:Value)(h:af)(R:Value→af→Prop):Prop:=
 vK (gV a1 true (some a0)) λa=>
 vK (gV a1 true (ag .i .geq a (.int .u64 9223372036854775808))) λb=>
 vK (az a1 b (.bool false)) λc=>
 aA c (
 R (.int .i64 (-9223372036854775808)) h) (
 aA a1 (
 vK (eS .i64 a0) λd=>
 vK (unV .neg d) λe=>
 R e h) (
 vK (ag .i .gtr a0 (.int .u64 9223372036854775807)) λf=>
 aA f (
 R (.int .i64 9223372036854775807) h) (
 vK (eS .i64 a0) λg=>
 R g h)))
theorem KL (H:A9 a0 a1 h R):ae prog jT #[a0,a1] h R:=fk f245 (.s .z (.s (.s .z (.s (.s .z .z) (.s .z (.s (.s .z .z) (.s .z (.s (.s .z .z) .z)))))) (.s .z .z))) H
def je (a0 a1 a2:Value)(h:af)(R:Value→af→Prop):Prop:=
 aU [(.int .i64 0),(.int .i64 20)] h λc ab e k=>
 vK (ag .i .leq (ix c 1) a1) λl=>
 aA l (
 ae prog cI #[a0,(ix c 0),(ix c 1),a2] e λac m=>
 vK (ag .i .add (ix c 1) (.int .i64 20)) λn=>
 k [(ix c 1),n] m) (
 ae prog cI #[a0,(ix c 0),a1,a2] e λad o=>
 aU [(.int .i64 20)] o λb ah f g=>
 vK (ag .i .lss (ix b 0) a1) λp=>
 aA p (
 vK (ag .i .mul (.int .i64 2) (ix b 0)) λq=>
 aU [(.int .i64 0),q] f λa ai d r=>
 vK (ag .i .leq (ix a 1) a1) λs=>
 aA s (
 vK (ag .i .add (ix a 0) (ix b 0)) λt=>
 ae prog bJ #[a0,(ix a 0),t,(ix a 1),a2] d λaj u=>
 vK (ag .i .mul (.int .i64 2) (ix b 0)) λv=>
 vK (ag .i .add (ix a 1) v) λw=>
 r [(ix a 1),w] u) (
 vK (ag .i .add (ix a 0) (ix b 0)) λj=>
 vK (ag .i .lss j a1) λx=>
 aA x (
 ae prog bJ #[a0,(ix a 0),j,a1,a2] d λak y=>
 vK (ag .i .mul (ix b 0) (.int .i64 2)) λz=>
 g [z] y) (
 vK (ag .i .mul (ix b 0) (.int .i64 2)) λaa=>
 g [aa] d))) (
 R (.tuple #[]) f))
theorem qL (H:je a0 a1 a2 h R):ae prog fR #[a0,a1,a2] h R:=fk f246 (.s .z (.s .z (.s (.l 8386944 [7,8] (.s (.s .z (.s .z .z)) (.s .z (.s .z .z)))) (.s .z (.l 9223372036586341312 [6] (.s (.s .z (.s .z .z)) (.s .z (.s (.l 562941363487104 [7,8] (.s (.s .z (.s .z .z)) (.s .z (.s .z .z)))) (.s (.s .z (.s .z (.s .z .z))) .z))))))))) H
def rW (a0:Value)(h:af)(R:Value→af→Prop):Prop:=
 vK (ag .i .neq a0 a0) λa=>
 R a h
theorem BV (H:rW a0 h R):ae prog jr #[a0] h R:=fk f247 (.s .z (.s .z .z)) H
def yu (a0 a1:Value)(h:af)(R:Value→af→Prop):Prop:=
 vK (ag .i .leq a1 (.int .i64 0)) λa=>
 aA a (
 R a0 h) (
 vK (ag .i .geq a1 (.int .i64 64)) λb=>
 aA b (
 R (.int .i64 0) h) (
 vK (ag .i .shr a0 a1) λc=>
 vK (ag .i .sub a1 (.int .i64 1)) λd=>
 vK (ag .i .shr a0 d) λe=>
 vK (ag .i .and e (.int .i64 1)) λf=>
 vK (ag .i .add c f) λg=>
 R g h))
theorem Iq (H:yu a0 a1 h R):ae prog iX #[a0,a1] h R:=fk f248 (.s .z (.s (.s .z (.s (.s .z .z) .z)) (.s (.s .z (.s (.s .z .z) .z)) (.s .z .z)))) H
def Fw (a0:Value)(h:af)(R:Value→af→Prop):Prop:=
 vK (ia (.int .i64 0) a0) λc=>
 vK (ag .i .quo c (.int .i64 762123384786)) λg=>
 vK (ag .i .rem c (.int .i64 762123384786)) λj=>
 aU [(.int .i64 1099511627776),(.int .i64 1099511627776),(.int .i64 0)] h λa v d e=>
 vK (ag .i .lss (ix a 2) (.int .i64 16)) λk=>
 aA k (
 vK (ag .i .add (ix a 2) (.int .i64 1)) λl=>
 vK (ag .i .shl l (.int .u64 40)) λm=>
 ae prog dw #[(ix a 1),j,m] d λb f=>
 vK (ag .i .rem (ix a 2) (.int .i64 2)) λn=>
 vK (ag .i .eql n (.int .i64 0)) λo=>
 aA o (
 vK (ag .i .sub (ix a 0) b) λp=>
 vK (ag .i .add (ix a 2) (.int .i64 1)) λq=>
 e [p,b,q] f) (
 vK (ag .i .add (ix a 0) b) λr=>
 vK (ag .i .add (ix a 2) (.int .i64 1)) λs=>
 e [r,b,s] f)) (
 ae prog iX #[(ix a 0),g] d λt u=>
 R t u)
theorem Oq (H:Fw a0 h R):ae prog Cw #[a0] h R:=fk f249 (.s .z (.s .z (.s .z (.s .z (.s (.s .z (.l 8589918432 [5,6,14] (.s .z (.s (.s .z .z) (.s (.s .z (.s .z (.s .z (.s .z .z)))) .z))))) (.s .z .z)))))) H
def Ba (a0 a1:Value)(h:af)(R:Value→af→Prop):Prop:=
 vK (ag .i .lss a1 (.int .i64 1)) λa=>
 vK (gV a false (some a1)) λd=>
 vK (gV a false (ag .i .gtr d (.int .i64 4194304))) λe=>
 vK (az a (.bool true) e) λb=>
 vK (gV b false (some a0)) λf=>
 vK (gV b false (ag .i .lss f (.int .i64 (-16384)))) λg=>
 vK (az b (.bool true) g) λc=>
 vK (gV c false (some a0)) λj=>
 vK (gV c false (ag .i .gtr j (.int .i64 16384))) λk=>
 vK (az c (.bool true) k) λl=>
 aA l (
 R (.int .i64 9223372036854775807) h) (
 vK (ag .i .mul a0 a0) λm=>
 vK (ag .i .shl m (.int .u64 31)) λn=>
 vK (ag .i .mul a1 a1) λo=>
 ae prog dw #[n,(.int .i64 1099511627776),o] h λp q=>
 R p q)
theorem KM (H:Ba a0 a1 h R):ae prog wY #[a0,a1] h R:=fk f250 (.s .z (.s (.s .z (.s (.s .z .z) .z)) (.s .z .z))) H
def vl (a0 a1:Value)(h:af)(R:Value→af→Prop):Prop:=
 aA (.bool false) (
 vK (eS .u32 a0) λc=>
 vK (eS .u32 a1) λd=>
 ae prog Ec #[c,d] h λa e=>
 vK (aE a 0) λf=>
 vK (aE a 1) λg=>
 vK (eS .u64 f) λi=>
 vK (eS .u64 g) λj=>
 R (.tuple #[i,j]) e) (
 ae prog jq #[a0,a1] h λb k=>
 vK (aE b 0) λl=>
 vK (aE b 1) λm=>
 R (.tuple #[l,m]) k)
theorem EC (H:vl a0 a1 h R):ae prog qi #[a0,a1] h R:=fk f251 (.s .z (.s (.s (.s .z (.s .z .z)) .z) (.s .z (.s .z .z)))) H
def xc (a0 a1:Value)(h:af)(R:Value→af→Prop):Prop:=
 ae prog pR #[a0] h λc d=>
 ae prog pR #[a1] d λe f=>
 ae prog jq #[c,e] f λa g=>
 vK (aE a 0) λj=>
 vK (aE a 1) λk=>
 vK (ag .i .lss a0 (.int .i64 0)) λl=>
 vK (ag .i .lss a1 (.int .i64 0)) λm=>
 vK (ag .b .neq l m) λn=>
 R (.tuple #[j,k,n]) g
theorem F9 (H:xc a0 a1 h R):ae prog mg #[a0,a1] h R:=fk f252 (.s .z (.s .z (.s .z .z))) H
def CG (a0:Value)(h:af)(R:Value→af→Prop):Prop:=
 vK (ag .i .lss a0 (.int .i64 0)) λa=>
 aA a (
 vK (eS .u64 a0) λb=>
 vK (unV .neg b) λc=>
 R c h) (
 vK (eS .u64 a0) λd=>
 R d h)
theorem Mr (H:CG a0 h R):ae prog pR #[a0] h R:=fk f253 (.s .z (.s (.s .z (.s (.s .z .z) .z)) (.s .z .z))) H
def xO (a0 a1 a2:Value)(h:af)(R:Value→af→Prop):Prop:=
 vK (gV a2 true (some a0)) λc=>
 vK (gV a2 true (ag .i .gtr c (.int .u64 0))) λd=>
 vK (gV a2 true (some d)) λa=>
 vK (gV a false (some a1)) λe=>
 vK (gV a false (ag .i .gtr e (.int .u64 9223372036854775808))) λf=>
 vK (gV a2 true (az a (.bool true) f)) λg=>
 vK (az a2 g (.bool false)) λj=>
 aA j (
 R (.int .i64 (-9223372036854775808)) h) (
 aA a2 (
 vK (unV .neg a1) λk=>
 vK (eS .i64 k) λl=>
 R l h) (
 vK (ag .i .gtr a0 (.int .u64 0)) λb=>
 vK (gV b false (some a1)) λm=>
 vK (gV b false (ag .i .gtr m (.int .u64 9223372036854775807))) λn=>
 vK (az b (.bool true) n) λo=>
 aA o (
 R (.int .i64 9223372036854775807) h) (
 vK (eS .i64 a1) λp=>
 R p h)))
theorem Hs (H:xO a0 a1 a2 h R):ae prog du #[a0,a1,a2] h R:=fk f254 (.s .z (.s (.s .z (.s (.s .z .z) (.s .z (.s (.s .z .z) (.s .z (.s (.s .z .z) .z)))))) (.s .z .z))) H
def rV (a0 a1 a2:Value)(h:af)(R:Value→af→Prop):Prop:=
 dK (λo=>
 vK (ag .i .eql a2 (.int .u64 0)) λai=>
 aA ai (
 vK (ldV h (.pointer (some ⟨vN,0,none⟩))) λb3=>
 Ji h λb4 aj=>
 o [] aj) (
 o [] h))
 λb5 b6 j=>
 dK (λp=>
 vK (ag .i .leq a2 a0) λak=>
 aA ak (
 vK (ldV j (.pointer (some ⟨td,0,none⟩))) λb7=>
 Ji j λb8 al=>
 p [] al) (
 p [] j))
 λb9 ca q=>
 vK (ag .i .eql a0 (.int .u64 0)) λam=>
 aA am (
 vK (ag .i .quo a1 a2) λan=>
 vK (ag .i .rem a1 a2) λao=>
 R (.tuple #[an,ao]) q) (
 ae prog fU #[a2] q λap aq=>
 vK (eS .u64 ap) λf=>
 vK (ag .i .shl a2 f) λg=>
 vK (ag .i .shr g (.int .u64 32)) λc=>
 vK (ag .i .and g (.int .u64 4294967295)) λr=>
 vK (ag .i .shl a0 f) λar=>
 vK (ag .i .sub (.int .u64 64) f) λau=>
 vK (ag .i .shr a1 au) λav=>
 vK (ag .i .or ar av) λk=>
 vK (ag .i .shl a1 f) λs=>
 vK (ag .i .shr s (.int .u64 32)) λt=>
 vK (ag .i .and s (.int .u64 4294967295)) λu=>
 vK (ag .i .quo k c) λv=>
 vK (ag .i .mul v c) λaw=>
 vK (ag .i .sub k aw) λax=>
 dK (λw=>
 aU [v,ax] aq λd cb l ay=>
 vK (ag .i .geq (ix d 0) (.int .u64 4294967296)) λa=>
 vK (gV a false (some (ix d 0))) λa3=>
 vK (gV a false (some r)) λa4=>
 vK (gV a false (ag .i .mul a3 a4)) λa5=>
 vK (gV a false (some (ix d 1))) λa6=>
 vK (gV a false (ag .i .mul (.int .u64 4294967296) a6)) λa7=>
 vK (gV a false (some t)) λa8=>
 vK (gV a false (ag .i .add a7 a8)) λa9=>
 vK (gV a false (ag .i .gtr a5 a9)) λba=>
 vK (az a (.bool true) ba) λbb=>
 aA bb (
 vK (ag .i .sub (ix d 0) (.int .u64 1)) λx=>
 vK (ag .i .add (ix d 1) c) λy=>
 vK (ag .i .geq y (.int .u64 4294967296)) λbc=>
 aA bc (
 w [x] l) (
 ay [x,y] l)) (
 w [(ix d 0)] l))
 λz cc bd=>
 vK (ag .i .mul k (.int .u64 4294967296)) λbe=>
 vK (ag .i .add be t) λbf=>
 vK (ag .i .mul (ix z 0) g) λbg=>
 vK (ag .i .sub bf bg) λm=>
 vK (ag .i .quo m c) λaa=>
 vK (ag .i .mul aa c) λbh=>
 vK (ag .i .sub m bh) λbi=>
 dK (λab=>
 aU [bi,aa] bd λe cd n bj=>
 vK (ag .i .geq (ix e 1) (.int .u64 4294967296)) λb=>
 vK (gV b false (some (ix e 1))) λbk=>
 vK (gV b false (some r)) λbl=>
 vK (gV b false (ag .i .mul bk bl)) λbm=>
 vK (gV b false (some (ix e 0))) λbn=>
 vK (gV b false (ag .i .mul (.int .u64 4294967296) bn)) λbo=>
 vK (gV b false (some u)) λbp=>
 vK (gV b false (ag .i .add bo bp)) λbq=>
 vK (gV b false (ag .i .gtr bm bq)) λbr=>
 vK (az b (.bool true) br) λbs=>
 aA bs (
 vK (ag .i .sub (ix e 1) (.int .u64 1)) λac=>
 vK (ag .i .add (ix e 0) c) λad=>
 vK (ag .i .geq ad (.int .u64 4294967296)) λbt=>
 aA bt (
 ab [ac] n) (
 bj [ad,ac] n)) (
 ab [(ix e 1)] n))
 λah ce bu=>
 vK (ag .i .mul (ix z 0) (.int .u64 4294967296)) λbv=>
 vK (ag .i .add bv (ix ah 0)) λbw=>
 vK (ag .i .mul m (.int .u64 4294967296)) λbx=>
 vK (ag .i .add bx u) λbz=>
 vK (ag .i .mul (ix ah 0) g) λb0=>
 vK (ag .i .sub bz b0) λb1=>
 vK (ag .i .shr b1 f) λb2=>
 R (.tuple #[bw,b2]) bu)
theorem BU (H:rV a0 a1 a2 h R):ae prog mG #[a0,a1,a2] h R:=fk f255 (.s .z (.j 3670016 [] (.s .z (.s .z .z)) (.j 62914560 [] (.s .z (.s .z .z)) (.s (.s .z (.s (.s .z .z) .z)) (.s .z (.s .z (.s .z (.s .z (.s .z (.s .z (.s .z (.s .z (.s .z (.s .z (.s (.m 77371104881383677504880640 [15] (.l 77371104881383677504880640 [15,16] (.s (.s .z (.s .z .z)) (.s .z (.s .z (.s .z (.s .z .z))))))) (.s .z (.s .z (.s .z (.s (.m 2658450920967430832890008133748195328 [18] (.l 2658450920967430832890008133748195328 [16,18] (.s (.s .z (.s .z .z)) (.s .z (.s .z (.s .z (.s .z .z))))))) (.s .z .z)))))))))))))))))))) H
def yt (h:af)(R:Value→af→Prop):Prop:=
 ae prog Aj #[(.int .i64 0),(.int .i64 4),(.int .i64 2),(.int .i64 1)] h λj c=>
 vK (aE j 0) λl=>
 vK (aE j 1) λe=>
 vK (ag .i .eql l (.int .i64 2)) λd=>
 vK (gV d true (some e)) λm=>
 vK (gV d true (aq m)) λn=>
 vK (gV d true (ag .i .eql n (.int .i64 2))) λo=>
 vK (az d o (.bool false)) λa=>
 vK (gV a true (some e)) λp=>
 vK (gV a true (aR 1 p (.int .i64 0))) λq=>
 vK (gV a true (ldV c q)) λr=>
 vK (gV a true (ag .i .eql r (.int .i64 536870912))) λs=>
 vK (az a s (.bool false)) λb=>
 vK (gV b true (some e)) λt=>
 vK (gV b true (aR 1 t (.int .i64 1))) λu=>
 vK (gV b true (ldV c u)) λv=>
 vK (gV b true (ag .i .eql v (.int .i64 536870912))) λw=>
 vK (az b w (.bool false)) λf=>
 gK f true (λx=>ae prog sP #[(.int .i64 0),(.int .i64 1)] c x) c λy k=>
 vK (gV f true (ag .i .eql y (.int .i64 1073741824))) λz=>
 vK (az f z (.bool false)) λg=>
 gK g true (λaa=>ae prog sP #[(.int .i64 1),(.int .i64 2)] k aa) k λab ac=>
 vK (gV g true (ag .i .eql ab (.int .i64 603979776))) λad=>
 vK (az g ad (.bool false)) λah=>
 R ah ac
theorem Ip (H:yt h R):ae prog uQ #[] h R:=fk f257 (.s .z (.s .z (.s .z .z))) H
def yr (h:af)(R:Value→af→Prop):Prop:=
 cE #[(.int .i64 0),(.int .i64 0),(.int .i64 0)] 2 3 [(0,1,(.int .i64 536870912)),(1,1,(.int .i64 536870912)),(2,1,(.int .i64 536870912))] h λj k=>
 ae prog ij #[j] k λd l=>
 vK (aE d 0) λm=>
 vK (aE d 1) λn=>
 ae prog kJ #[(.int .i64 65536)] l λe f=>
 vK (aE e 0) λo=>
 vK (aE e 1) λp=>
 vK (ag .i .eql n (.int .i64 0)) λa=>
 vK (gV a true (some m)) λq=>
 gK a true (λr=>cE #[(.int .i64 0),(.int .i64 0),(.int .i64 0)] 2 3 [(0,1,(.int .i64 5462)),(1,1,(.int .i64 5461)),(2,1,(.int .i64 5461))] f r) f λs g=>
 gK a true (λt=>ae prog ri #[q,s] g t) g λu v=>
 vK (az a u (.bool false)) λc=>
 vK (gV c true (some p)) λw=>
 vK (gV c true (ag .i .eql w (.int .i64 0))) λx=>
 vK (az c x (.bool false)) λb=>
 vK (gV b true (some o)) λy=>
 vK (gV b true (aq y)) λz=>
 vK (gV b true (ag .i .eql z (.int .i64 7))) λaa=>
 vK (az b aa (.bool false)) λab=>
 R ab v
theorem Io (H:yr h R):ae prog uP #[] h R:=fk f258 (.s .z (.s .z (.s .z (.s .z .z)))) H
def AP (a0 a1:Value)(h:af)(R:Value→af→Prop):Prop:=
 vK (aq a0) λc=>
 vK (aq a1) λd=>
 vK (ag .i .neq c d) λe=>
 aA e (
 R (.bool false) h) (
 vK (aq a0) λf=>
 aU [(.int .i64 0)] h λb q a g=>
 vK (ag .i .lss (ix b 0) f) λj=>
 aA j (
 vK (aR 1 a0 (ix b 0)) λk=>
 vK (ldV a k) λl=>
 vK (aR 1 a1 (ix b 0)) λm=>
 vK (ldV a m) λn=>
 vK (ag .i .neq l n) λo=>
 aA o (
 R (.bool false) a) (
 vK (ag .i .add (ix b 0) (.int .i64 1)) λp=>
 g [p] a)) (
 R (.bool true) a))
theorem Kv (H:AP a0 a1 h R):ae prog ri #[a0,a1] h R:=fk f259 (.s .z (.s (.s .z (.s (.s .z .z) .z)) (.s (.s .z (.l 67100720 [13] (.s .z (.s (.s .z .z) (.s (.s .z (.s .z (.s (.s .z .z) .z))) .z))))) (.s .z .z)))) H
def ve (a0 a1:Value)(h:af)(R:Value→af→Prop):Prop:=
 vK (aK a0) λb=>
 vK (am 2 b) λc=>
 vK (ldV h c) λd=>
 vK (FE (.int .i64) (.slice none 0 0) true h d a1) λa=>
 vK (aE a 0) λf=>
 vK (aE a 1) λe=>
 R e h
theorem Ew (H:ve a0 a1 h R):ae prog kK #[a0,a1] h R:=fk f260 (.s .z (.s .z (.s .z .z))) H
def rK (a0:Value)(h:af)(R:Value→af→Prop):Prop:=
 vK (aK a0) λa=>
 vK (am 2 a) λb=>
 vK (ldV h b) λc=>
 vK (Lq h c) λd=>
 vK (ag .i .eql d (.int .i64 0)) λe=>
 aA e (
 R (.tuple #[(.int .i64 0),(.bool false)]) h) (
 vK (aK a0) λf=>
 vK (am 2 f) λg=>
 vK (ldV h g) λj=>
 ae prog dy #[j] h λk l=>
 ae prog mm #[k] l λm n=>
 ae prog fG #[m] n λo p=>
 R (.tuple #[o,(.bool true)]) p)
theorem BL (H:rK a0 h R):ae prog mu #[a0] h R:=fk f261 (.s .z (.s (.s .z (.s (.s .z .z) .z)) (.s .z .z))) H
def tt (a0 a1:Value)(h:af)(R:Value→af→Prop):Prop:=
 bC h λS=>
 vK (aK a0) λd=>
 vK (am 3 d) λe=>
 qK S (λh=>ldV h e) λf=>
 vK (aK a0) λg=>
 vK (am 2 g) λi=>
 qK S (λh=>ldV h i) λj=>
 qK S (λh=>FE (.int .i64) (.slice none 0 0) false h j a1) λk=>
 cE #[(.slice none 0 0)] 28 1 [(0,1,k)] h λl a=>
 S a∧(cF (.slice none 0 0) 28 1 24 f l a λm b=>
 S b∧(vK (aK a0) λn=>
 vK (am 3 n) λo=>
 stK 1 o m b λt c=>
 vK (aK a0) λp=>
 vK (am 2 p) λq=>
 vK (ldV c q) λr=>
 lW (.int .i64) r a1 c λu s=>
 R (.tuple #[]) s))
theorem Ds (H:tt a0 a1 h R):ae prog nQ #[a0,a1] h R:=fk f262 (.s (.d (.op 0 .r (.op 1 .r (.op 2 .r (.op 3 .r (.op 4 .r (.op 5 .r (.op 6 .r (.op 7 .r (.op 8 .r (.op 9 .r (.op 10 .r (.op 11 .e (.op 12 .e (.op 13 .r (.op 14 .r (.op 15 .n .nil))))))))))))))))) .z) H
def rG (a0:Value)(h:af)(R:Value→af→Prop):Prop:=
 vK (aK a0) λc=>
 vK (am 3 c) λd=>
 vK (ldV h d) λe=>
 vK (aq e) λa=>
 vK (ag .i .gtr a (.int .i64 0)) λf=>
 aA f (
 vK (aK a0) λg=>
 vK (am 3 g) λj=>
 vK (ldV h j) λk=>
 vK (ag .i .sub a (.int .i64 1)) λl=>
 vK (aR 1 k l) λm=>
 vK (ldV h m) λn=>
 vK (aK a0) λo=>
 vK (am 3 o) λp=>
 vK (ldV h p) λq=>
 vK (ag .i .sub a (.int .i64 1)) λr=>
 vK (un 1 q none (some r)) λs=>
 vK (aK a0) λt=>
 vK (am 3 t) λu=>
 stK 1 u s h λaa v=>
 R n v) (
 vK (aK a0) λw=>
 vK (am 1 w) λx=>
 vK (ldV h x) λb=>
 mkK (.int .i64 0) 2 1 8 b b h λy z=>
 R y z)
theorem BI (H:rG a0 h R):ae prog mo #[a0] h R:=fk f263 (.s .z (.s (.s .z (.s .z (.s (.s .z (.s .z (.s .z .z))) .z))) (.s .z .z))) H
def CV (a0 a1 a2 a3:Value)(h:af)(R:Value→af→Prop):Prop:=
 vK (ag .i .geq a0 (.int .i64 0)) λb=>
 vK (gV b true (some a0)) λj=>
 vK (gV b true (ag .i .leq j (.int .i64 2))) λk=>
 vK (az b k (.bool false)) λc=>
 vK (gV c true (some a1)) λl=>
 vK (gV c true (ag .i .geq l (.int .i64 1))) λm=>
 vK (az c m (.bool false)) λd=>
 vK (gV d true (some a1)) λn=>
 vK (gV d true (ag .i .leq n (.int .i64 65536))) λo=>
 vK (az d o (.bool false)) λe=>
 vK (gV e true (some a2)) λp=>
 vK (gV e true (ag .i .geq p (.int .i64 1))) λq=>
 vK (az e q (.bool false)) λf=>
 vK (gV f true (some a2)) λr=>
 vK (gV f true (ag .i .leq r (.int .i64 65536))) λs=>
 vK (az f s (.bool false)) λg=>
 vK (gV g true (some a3)) λt=>
 vK (gV g true (ag .i .geq t (.int .i64 0))) λu=>
 vK (az g u (.bool false)) λa=>
 vK (gV a true (some a3)) λv=>
 vK (gV a true (some a2)) λw=>
 vK (gV a true (ag .i .lss v w)) λx=>
 vK (az a x (.bool false)) λy=>
 R y h
theorem ME (H:CV a0 a1 a2 a3 h R):ae prog zJ #[a0,a1,a2,a3] h R:=fk f264 (.s .z (.s .z .z)) H
def Fp (a0 a1 a2 a3 a4:Value)(h:af)(R:Value→af→Prop):Prop:=
 vK (ag .i .eql a0 (.int .i64 0)) λl=>
 aA l (
 vK (ag .i .add a4 (.int .i64 1)) λm=>
 vK (ag .i .mul m a2) λn=>
 vK (ag .i .mul a3 a1) λo=>
 vK (ag .i .gtr n o) λa=>
 vK (gV a true (some a4)) λp=>
 vK (gV a true (some a2)) λq=>
 vK (gV a true (ag .i .mul p q)) λr=>
 vK (gV a true (some a3)) λs=>
 vK (gV a true (ag .i .add s (.int .i64 1))) λt=>
 vK (gV a true (some a1)) λu=>
 vK (gV a true (ag .i .mul t u)) λv=>
 vK (gV a true (ag .i .lss r v)) λw=>
 vK (az a w (.bool false)) λx=>
 R x h) (
 ae prog jR #[a1,a2,a3,a4] h λe f=>
 vK (aE e 0) λd=>
 vK (aE e 1) λg=>
 vK (ag .i .mul (.int .i64 2) g) λj=>
 vK (ag .i .eql a0 (.int .i64 2)) λy=>
 aA y (
 vK (ag .i .mul (.int .i64 3) g) λk=>
 vK (ag .i .lss d k) λb=>
 vK (gV b true (some d)) λz=>
 vK (gV b true (some k)) λaa=>
 vK (gV b true (unV .neg aa)) λab=>
 vK (gV b true (ag .i .gtr z ab)) λac=>
 vK (az b ac (.bool false)) λad=>
 R ad f) (
 vK (ag .i .lss d j) λc=>
 vK (gV c true (some d)) λah=>
 vK (gV c true (some j)) λai=>
 vK (gV c true (unV .neg ai)) λaj=>
 vK (gV c true (ag .i .gtr ah aj)) λak=>
 vK (az c ak (.bool false)) λal=>
 R al f))
theorem Oi (H:Fp a0 a1 a2 a3 a4 h R):ae prog nU #[a0,a1,a2,a3,a4] h R:=fk f265 (.s .z (.s (.s .z (.s (.s .z .z) .z)) (.s .z (.s .z (.s (.s .z (.s .z .z)) (.s .z .z)))))) H
def xi (a0 a1 a2 a3 a4:Value)(h:af)(R:Value→af→Prop):Prop:=
 vK (ag .i .eql a0 (.int .i64 0)) λl=>
 aA l (
 vK (ag .i .mul a3 a1) λa=>
 dK (λb=>
 vK (ag .i .mul a4 a2) λm=>
 vK (ag .i .gtr m a) λn=>
 aA n (
 vK (ag .i .mul a4 a2) λo=>
 b [o] h) (
 b [a] h))
 λc aj d=>
 vK (ag .i .add a3 (.int .i64 1)) λp=>
 vK (ag .i .mul p a1) λe=>
 vK (ag .i .add a4 (.int .i64 1)) λq=>
 vK (ag .i .mul q a2) λr=>
 vK (ag .i .lss r e) λs=>
 aA s (
 vK (ag .i .add a4 (.int .i64 1)) λt=>
 vK (ag .i .mul t a2) λu=>
 vK (ag .i .sub u (ix c 0)) λv=>
 ae prog cH #[v,(.int .i64 1073741824),a1] d λw x=>
 R w x) (
 vK (ag .i .sub e (ix c 0)) λy=>
 ae prog cH #[y,(.int .i64 1073741824),a1] d λz aa=>
 R z aa)) (
 ae prog jR #[a1,a2,a3,a4] h λf g=>
 vK (aE f 0) λj=>
 vK (aE f 1) λk=>
 vK (ag .i .eql a0 (.int .i64 1)) λab=>
 aA ab (
 ae prog wM #[j,k] g λac ad=>
 R ac ad) (
 ae prog qf #[j,k] g λah ai=>
 R ah ai))
theorem Gf (H:xi a0 a1 a2 a3 a4 h R):ae prog sO #[a0,a1,a2,a3,a4] h R:=fk f266 (.s .z (.s (.s .z (.s (.s .z (.j 267388928 [11] (.s .z (.s .z .z)) (.s .z (.s (.s .z (.s .z .z)) (.s .z .z))))) .z)) (.s .z (.s (.s .z (.s (.s .z .z) .z)) (.s .z .z))))) H
def AO (a0:Value)(h:af)(R:Value→af→Prop):Prop:=
 vK (ag .i .geq a0 (.int .i64 0)) λa=>
 aA a (
 R a0 h) (
 vK (ag .i .lss a0 (.int .i64 (-9223372036854775807))) λb=>
 aA b (
 R (.int .i64 9223372036854775807) h) (
 vK (unV .neg a0) λc=>
 R c h))
theorem Ku (H:AO a0 h R):ae prog rh #[a0] h R:=fk f267 (.s .z (.s (.s .z (.s (.s .z .z) .z)) (.s (.s .z (.s (.s .z .z) .z)) (.s .z .z)))) H
def CT (a0:Value)(h:af)(R:Value→af→Prop):Prop:=
 vK (aq a0) λc=>
 aU [(.int .i64 0),(.int .i64 0)] h λa m b d=>
 vK (ag .i .lss (ix a 1) c) λe=>
 aA e (
 vK (aR 1 a0 (ix a 1)) λf=>
 vK (ldV b f) λg=>
 ae prog q9 #[(ix a 0),g] b λj k=>
 vK (ag .i .add (ix a 1) (.int .i64 1)) λl=>
 d [j,l] k) (
 R (ix a 0) b)
theorem MC (H:CT a0 h R):ae prog zI #[a0] h R:=fk f268 (.s .z (.s .z (.s (.s .z (.l 65320 [3,8] (.s .z (.s (.s .z .z) (.s (.s .z .z) .z))))) (.s .z .z)))) H
def yb (a0 a1:Value)(h:af)(R:Value→af→Prop):Prop:=
 vK (ag .i .eql a1 (.int .i64 0)) λg=>
 aA g (
 R (.int .i64 0) h) (
 ae prog eT #[a0] h λj k=>
 vK ((aF #[(.int .u64 0),(.int .u64 0)] [(0,1,(.int .u64 0)),(1,1,j)]).map .agg) λl=>
 ae prog eT #[a1] k λm n=>
 ae prog rj #[l,m] n λe o=>
 vK (aE e 0) λp=>
 vK (aE e 1) λq=>
 aP #[(.int .u64 0),(.int .u64 0)] 351 o λa r=>
 stK 2 a p r λak d=>
 vK (ag .i .lss a0 (.int .i64 0)) λs=>
 vK (ag .i .lss a1 (.int .i64 0)) λt=>
 vK (ag .b .neq s t) λc=>
 vK (gV c true (some q)) λu=>
 vK (gV c true (ag .i .gtr u (.int .u64 0))) λv=>
 vK (az c v (.bool false)) λw=>
 aA w (
 vK (aH 2 d a) λx=>
 vK ((aF #[(.int .u64 0),(.int .u64 0)] [(0,1,(.int .u64 0)),(1,1,(.int .u64 1))]).map .agg) λy=>
 ae prog gv #[x,y] d λz aa=>
 stK 2 a z aa λal f=>
 vK (aH 2 f a) λab=>
 ae prog da #[ab,c] f λac ad=>
 R ac ad) (
 vK (aH 2 d a) λah=>
 ae prog da #[ah,c] d λai aj=>
 R ai aj))
theorem HV (H:yb a0 a1 h R):ae prog oF #[a0,a1] h R:=fk f269 (.s .z (.s (.s .z (.s (.s .z .z) .z)) (.s .z (.s .z (.s (.s .z (.s .z .z)) (.s .z .z)))))) H
def xY (a0 a1:Value)(h:af)(R:Value→af→Prop):Prop:=
 vK (ag .i .lss a1 (.int .i64 1)) λw=>
 aA w (
 R a0 h) (
 vK (ag .i .gtr a1 (.int .i64 64)) λx=>
 aA x (
 R (.int .i64 0) h) (
 vK ((aF #[(.int .u64 0),(.int .u64 0)] [(0,1,(.int .u64 0)),(1,1,(.int .u64 1))]).map .agg) λy=>
 aP #[(.int .u64 0),(.int .u64 0)] 351 h λc z=>
 stK 2 c y z λci aa=>
 vK (ag .i .sub a1 (.int .i64 1)) λab=>
 aU [(.int .i64 0)] aa λp cj n ac=>
 vK (ag .i .lss (ix p 0) ab) λad=>
 aA ad (
 vK (aH 2 n c) λah=>
 ae prog dO #[ah,(.int .u64 0)] n λai aj=>
 stK 2 c ai aj λck ak=>
 vK (ag .i .add (ix p 0) (.int .i64 1)) λal=>
 ac [al] ak) (
 ae prog eT #[a0] n λam an=>
 vK ((aF #[(.int .u64 0),(.int .u64 0)] [(0,1,(.int .u64 0)),(1,1,am)]).map .agg) λao=>
 aP #[(.int .u64 0),(.int .u64 0)] 351 an λj ap=>
 stK 2 j ao ap λcl aq=>
 vK ((aF #[(.int .u64 0),(.int .u64 0)] []).map .agg) λar=>
 aP #[(.int .u64 0),(.int .u64 0)] 351 aq λb au=>
 stK 2 b ar au λcm av=>
 aU [(.int .i64 127)] av λo cn a aw=>
 vK (ag .i .geq (ix o 0) a1) λax=>
 aA ax (
 bC a λS=>
 qK S (λa=>aH 2 a b) λay=>
 qK S (λa=>aH 2 a j) λaz=>
 ae prog gw #[az,(ix o 0)] a λa2 q=>
 S q∧(ae prog dO #[ay,a2] q λa3 a4=>
 stK 2 b a3 a4 λco a5=>
 vK (ag .i .sub (ix o 0) (.int .i64 1)) λa6=>
 aw [a6] a5)) (
 vK (aH 2 a j) λa7=>
 aP #[(.int .u64 0),(.int .u64 0)] 351 a λd a8=>
 stK 2 d a7 a8 λcp a9=>
 aU [a1] a9 λe cq f r=>
 vK (ag .i .lss (ix e 0) (.int .i64 128)) λba=>
 aA ba (
 vK (aH 2 f j) λbb=>
 ae prog gw #[bb,(ix e 0)] f λbc s=>
 vK (ag .i .eql bc (.int .u64 1)) λbd=>
 aA bd (
 vK ((aF #[(.int .u64 0),(.int .u64 0)] [(0,1,(.int .u64 0)),(1,1,(.int .u64 1))]).map .agg) λbe=>
 aP #[(.int .u64 0),(.int .u64 0)] 351 s λk bf=>
 stK 2 k be bf λcr bg=>
 aU [(.int .i64 0)] bg λt cs g bh=>
 vK (ag .i .lss (ix t 0) (ix e 0)) λbi=>
 aA bi (
 vK (aH 2 g k) λbj=>
 ae prog dO #[bj,(.int .u64 0)] g λbk bl=>
 stK 2 k bk bl λct bm=>
 vK (ag .i .add (ix t 0) (.int .i64 1)) λbn=>
 bh [bn] bm) (
 vK (aH 2 g d) λbo=>
 vK (aH 2 g k) λbp=>
 ae prog oE #[bo,bp] g λbq br=>
 stK 2 d bq br λcu bs=>
 vK (ag .i .add (ix e 0) (.int .i64 1)) λbt=>
 r [bt] bs)) (
 vK (ag .i .add (ix e 0) (.int .i64 1)) λbu=>
 r [bu] s)) (
 vK (aH 2 f d) λbv=>
 vK (aH 2 f c) λbw=>
 ae prog iL #[bv,bw] f λbx l=>
 vK (unV .not bx) λbz=>
 dK (λu=>
 vK (ag .i .lss a0 (.int .i64 0)) λb0=>
 aA b0 (
 vK (aH 2 l c) λb1=>
 vK (aH 2 l d) λb2=>
 ae prog iL #[b1,b2] l λb3 b4=>
 u [b3] b4) (
 u [bz] l))
 λb5 cv m=>
 aA (ix b5 0) (
 vK (aH 2 m b) λb6=>
 vK ((aF #[(.int .u64 0),(.int .u64 0)] [(0,1,(.int .u64 0)),(1,1,(.int .u64 1))]).map .agg) λb7=>
 ae prog gv #[b6,b7] m λb8 b9=>
 stK 2 b b8 b9 λcw v=>
 vK (aH 2 v b) λca=>
 vK (ag .i .lss a0 (.int .i64 0)) λcb=>
 ae prog da #[ca,cb] v λcc cd=>
 R cc cd) (
 vK (aH 2 m b) λce=>
 vK (ag .i .lss a0 (.int .i64 0)) λcf=>
 ae prog da #[ce,cf] m λcg ch=>
 R cg ch))))))
theorem HT (H:xY a0 a1 h R):ae prog ks #[a0,a1] h R:=fk f270 (.s .z (.s (.s .z (.s (.s .z .z) .z)) (.s (.s .z (.s (.s .z .z) .z)) (.s .z (.s (.s .z (.l 65011712 [21] (.s .z (.s (.s .z .z) (.s .z .z))))) (.s .z (.s .z (.s (.s .z (.l 1098437886208 [8] (.s (.s .z (.s .z .z)) (.s (.d (.op 0 .r (.op 1 .r (.op 2 .r (.op 3 .e (.op 4 .n (.op 5 .n .nil))))))) .z)))) (.s .z (.s (.s .z (.l 1152917106560338944 [10] (.s (.s .z (.s .z .z)) (.s (.s .z (.s (.s .z (.s (.s .z (.l 139611588448485376 [52] (.s .z (.s (.s .z .z) (.s .z .z))))) .z)) .z)) .z)))) (.s .z (.j 571849066284996104192 [12] (.s .z (.s .z .z)) (.s (.s .z (.s .z .z)) (.s .z .z)))))))))))))) H
def CX (a0:Value)(h:af)(R:Value→af→Prop):Prop:=
 dK (λc=>
 vK (ag .i .lss a0 (.int .i64 0)) λk=>
 aA k (
 c [(.int .i64 0)] h) (
 c [a0] h))
 λd aa l=>
 ae prog oF #[(ix d 0),(.int .i64 762123384786)] l λe m=>
 vK (ag .i .mul e (.int .i64 762123384786)) λn=>
 vK (ag .i .sub (ix d 0) n) λo=>
 aU [(.int .i64 1099511627776),(.int .i64 0),(.int .i64 1099511627776),(.int .i64 1)] m λa ab f g=>
 vK (ag .i .leq (ix a 3) (.int .i64 16)) λp=>
 aA p (
 vK (ag .i .mul (ix a 3) (.int .i64 1099511627776)) λq=>
 ae prog cH #[(ix a 2),o,q] f λb j=>
 vK (ag .i .rem (ix a 3) (.int .i64 2)) λr=>
 vK (ag .i .eql r (.int .i64 1)) λs=>
 aA s (
 vK (ag .i .add (ix a 1) b) λt=>
 vK (ag .i .add (ix a 3) (.int .i64 1)) λu=>
 g [(ix a 0),t,b,u] j) (
 vK (ag .i .add (ix a 0) b) λv=>
 vK (ag .i .add (ix a 3) (.int .i64 1)) λw=>
 g [v,(ix a 1),b,w] j)) (
 vK (ag .i .sub (ix a 0) (ix a 1)) λx=>
 ae prog ks #[x,e] f λy z=>
 R y z)
theorem MG (H:CX a0 h R):ae prog zL #[a0] h R:=fk f271 (.s .z (.j 1537 [0] (.s .z (.s .z .z)) (.s .z (.s .z (.s .z (.s .z (.s .z (.s (.s .z (.l 34359607776 [5,6,7,8] (.s (.s .z (.s .z .z)) (.s (.s .z (.s .z (.s .z .z))) .z)))) (.s .z .z))))))))) H
def xU (a0 a1:Value)(h:af)(R:Value→af→Prop):Prop:=
 vK (ag .i .lss a1 (.int .i64 1)) λa=>
 vK (gV a false (some a1)) λd=>
 vK (gV a false (ag .i .gtr d (.int .i64 4194304))) λe=>
 vK (az a (.bool true) e) λb=>
 vK (gV b false (some a0)) λf=>
 vK (gV b false (ag .i .lss f (.int .i64 (-16384)))) λg=>
 vK (az b (.bool true) g) λc=>
 vK (gV c false (some a0)) λj=>
 vK (gV c false (ag .i .gtr j (.int .i64 16384))) λk=>
 vK (az c (.bool true) k) λl=>
 aA l (
 R (.int .i64 9223372036854775807) h) (
 vK (ag .i .mul a0 a0) λm=>
 vK (ag .i .mul m (.int .i64 2147483648)) λn=>
 vK (ag .i .mul a1 a1) λo=>
 ae prog cH #[n,(.int .i64 1099511627776),o] h λp q=>
 R p q)
theorem HH (H:xU a0 a1 h R):ae prog uF #[a0,a1] h R:=fk f272 (.s .z (.s (.s .z (.s (.s .z .z) .z)) (.s .z .z))) H
def AM (a0 a1:Value)(h:af)(R:Value→af→Prop):Prop:=
 vK (ag .i .gtr a1 (.int .i64 0)) λa=>
 vK (gV a true (some a0)) λc=>
 vK (gV a true (some a1)) λd=>
 vK (gV a true (ag .i .sub (.int .i64 9223372036854775807) d)) λe=>
 vK (gV a true (ag .i .gtr c e)) λf=>
 vK (az a f (.bool false)) λg=>
 aA g (
 R (.int .i64 9223372036854775807) h) (
 vK (ag .i .lss a1 (.int .i64 0)) λb=>
 vK (gV b true (some a0)) λj=>
 vK (gV b true (some a1)) λk=>
 vK (gV b true (ag .i .sub (.int .i64 (-9223372036854775808)) k)) λl=>
 vK (gV b true (ag .i .lss j l)) λm=>
 vK (az b m (.bool false)) λn=>
 aA n (
 R (.int .i64 (-9223372036854775808)) h) (
 vK (ag .i .add a0 a1) λo=>
 R o h))
theorem Ks (H:AM a0 a1 h R):ae prog q9 #[a0,a1] h R:=fk f273 (.s .z (.s (.s .z (.s (.s .z .z) .z)) (.s (.s .z (.s (.s .z .z) .z)) (.s .z .z)))) H
def xX (a0 a1:Value)(h:af)(R:Value→af→Prop):Prop:=
 aP #[(.int .u64 0),(.int .u64 0)] 351 h λe j=>
 vK ((aF #[(.int .u64 0),(.int .u64 0)] []).map .agg) λk=>
 aP #[(.int .u64 0),(.int .u64 0)] 351 j λa l=>
 stK 2 a k l λad m=>
 aU [(.int .i64 63)] m λb ah c f=>
 vK (ag .i .geq (ix b 0) (.int .i64 0)) λn=>
 aA n (
 vK (aH 2 c a) λo=>
 ae prog dO #[o,(.int .u64 0)] c λp q=>
 stK 2 a p q λai d=>
 vK (ag .i .shr a1 (ix b 0)) λr=>
 vK (ag .i .and r (.int .u64 1)) λs=>
 vK (ag .i .eql s (.int .u64 1)) λt=>
 aA t (
 vK (aH 2 d a) λu=>
 vK ((aF #[(.int .u64 0),(.int .u64 0)] [(0,1,(.int .u64 0)),(1,1,a0)]).map .agg) λv=>
 ae prog gv #[u,v] d λw x=>
 stK 2 a w x λaj y=>
 vK (ag .i .sub (ix b 0) (.int .i64 1)) λz=>
 f [z] y) (
 vK (ag .i .sub (ix b 0) (.int .i64 1)) λaa=>
 f [aa] d)) (
 vK (aH 2 c a) λab=>
 stK 2 e ab c λak g=>
 vK (aH 2 g e) λac=>
 R ac g)
theorem HN (H:xX a0 a1 h R):ae prog oD #[a0,a1] h R:=fk f274 (.s .z (.s .z (.s (.s .z (.l 8388416 [6] (.s (.s .z (.s .z .z)) (.s (.s .z (.s .z (.s .z .z))) .z)))) (.s .z .z)))) H
def AS (a0:Value)(h:af)(R:Value→af→Prop):Prop:=
 vK (ag .i .lss a0 (.int .i64 0)) λa=>
 aA a (
 vK (ag .i .add a0 (.int .i64 1)) λb=>
 vK (unV .neg b) λc=>
 vK (eS .u64 c) λd=>
 vK (ag .i .add d (.int .u64 1)) λe=>
 R e h) (
 vK (eS .u64 a0) λf=>
 R f h)
theorem Ky (H:AS a0 h R):ae prog eT #[a0] h R:=fk f275 (.s .z (.s (.s .z (.s (.s .z .z) .z)) (.s .z .z))) H
def vh (a0 a1 a2:Value)(h:af)(R:Value→af→Prop):Prop:=
 aP (Value.cells a0) 351 h λk e=>
 vK (aH 2 e k) λl=>
 ae prog rj #[l,a1] e λf m=>
 vK (aE f 0) λn=>
 vK (aE f 1) λo=>
 aP #[(.int .u64 0),(.int .u64 0)] 351 m λa p=>
 stK 2 a n p λaq q=>
 vK ((aF #[(.int .u64 0),(.int .u64 0)] [(0,1,(.int .u64 0)),(1,1,o)]).map .agg) λr=>
 ae prog dO #[r,(.int .u64 0)] q λs t=>
 aP #[(.int .u64 0),(.int .u64 0)] 351 t λc u=>
 stK 2 c s u λar g=>
 vK (aH 2 g c) λv=>
 vK ((aF #[(.int .u64 0),(.int .u64 0)] [(0,1,(.int .u64 0)),(1,1,a1)]).map .agg) λw=>
 ae prog iL #[v,w] g λx d=>
 vK (unV .not x) λy=>
 dK (λi=>
 aA a2 (
 vK ((aF #[(.int .u64 0),(.int .u64 0)] [(0,1,(.int .u64 0)),(1,1,a1)]).map .agg) λz=>
 vK (aH 2 d c) λaa=>
 ae prog iL #[z,aa] d λab ac=>
 i [ab] ac) (
 i [y] d))
 λad au b=>
 aA (ix ad 0) (
 vK (aH 2 b a) λag=>
 vK ((aF #[(.int .u64 0),(.int .u64 0)] [(0,1,(.int .u64 0)),(1,1,(.int .u64 1))]).map .agg) λah=>
 ae prog gv #[ag,ah] b λai aj=>
 stK 2 a ai aj λav j=>
 vK (aH 2 j a) λak=>
 ae prog da #[ak,a2] j λal am=>
 R al am) (
 vK (aH 2 b a) λan=>
 ae prog da #[an,a2] b λao ap=>
 R ao ap)
theorem Ez (H:vh a0 a1 a2 h R):ae prog qg #[a0,a1,a2] h R:=fk f276 (.s .z (.s .z (.s .z (.s .z (.j 1040188416 [10] (.s .z (.s .z .z)) (.s (.s .z (.s .z .z)) (.s .z .z))))))) H
def Fl (a0 a1:Value)(h:af)(R:Value→af→Prop):Prop:=
 vK (ag .i .geq a1 (.int .i64 1)) λc=>
 vK (gV c true (some a1)) λd=>
 vK (gV c true (ag .i .leq d (.int .i64 1048576))) λe=>
 vK (az c e (.bool false)) λa=>
 vK (gV a true (some a0)) λf=>
 vK (gV a true (some a1)) λg=>
 vK (gV a true (ag .i .mul (.int .i64 (-4)) g)) λj=>
 vK (gV a true (ag .i .geq f j)) λk=>
 vK (az a k (.bool false)) λb=>
 vK (gV b true (some a0)) λl=>
 vK (gV b true (some a1)) λm=>
 vK (gV b true (ag .i .mul (.int .i64 4) m)) λn=>
 vK (gV b true (ag .i .leq l n)) λo=>
 vK (az b o (.bool false)) λp=>
 R p h
theorem Of (H:Fl a0 a1 h R):ae prog Ct #[a0,a1] h R:=fk f278 (.s .z (.s .z .z)) H
def CM (a0:Value)(h:af)(R:Value→af→Prop):Prop:=
 vK (unV .neg a0) λa=>
 vK (ia a0 a) λb=>
 R b h
theorem Mw (H:CM a0 h R):ae prog ug #[a0] h R:=fk f279 (.s .z (.s .z .z)) H
def uW (a0 a1 a2:Value)(h:af)(R:Value→af→Prop):Prop:=
 vK (ia (.int .i64 0) a2) λb=>
 vK (ag .i .geq b (.int .i64 128)) λr=>
 aA r (
 R (.int .i64 0) h) (
 ae prog mg #[a0,a1] h λg j=>
 vK (aE g 0) λc=>
 vK (aE g 1) λd=>
 vK (aE g 2) λe=>
 vK (ag .i .eql b (.int .i64 0)) λs=>
 aA s (
 ae prog du #[c,d,e] j λt u=>
 R t u) (
 ae prog qY #[c,d,b] j λk v=>
 vK (aE k 0) λl=>
 vK (aE k 1) λm=>
 vK (ag .i .sub b (.int .i64 1)) λw=>
 ae prog qY #[c,d,w] v λn o=>
 vK (aE n 0) λav=>
 vK (aE n 1) λx=>
 vK (ag .i .and x (.int .u64 1)) λy=>
 vK (ag .i .eql y (.int .u64 0)) λf=>
 vK (gV f false (some e)) λz=>
 vK (gV f false (some z)) λa=>
 vK (gV a true (some c)) λaa=>
 vK (gV a true (some d)) λab=>
 vK (gV a true (some b)) λac=>
 vK (gV a true (ag .i .sub ac (.int .i64 1))) λad=>
 gK a true (λah=>ae prog wF #[aa,ab,ad] o ah) o λai p=>
 vK (gV f false (az a ai (.bool false))) λaj=>
 vK (az f (.bool true) aj) λak=>
 aA ak (
 ae prog du #[l,m,e] p λal am=>
 R al am) (
 ae prog fj #[m,(.int .u64 1),(.int .u64 0)] p λq an=>
 vK (aE q 0) λao=>
 vK (aE q 1) λap=>
 vK (ag .i .add l ap) λaq=>
 ae prog du #[aq,ao,e] an λar au=>
 R ar au)))
theorem Er (H:uW a0 a1 a2 h R):ae prog p9 #[a0,a1,a2] h R:=fk f280 (.s .z (.s .z (.s (.s .z (.s (.s .z .z) .z)) (.s .z (.s (.s .z (.s (.s .z .z) .z)) (.s .z (.s .z (.s (.s .z (.s (.s .z .z) .z)) (.s .z (.s .z .z)))))))))) H
def xQ (a0 a1:Value)(h:af)(R:Value→af→Prop):Prop:=
 ae prog ug #[a0] h λb f=>
 ae prog dw #[(.int .i64 10851744800547),b,a1] f λg j=>
 ae prog dw #[g,b,a1] j λk l=>
 aU [(.int .i64 1099511627776),(.int .i64 1099511627776),(.int .i64 1),(.int .i64 1)] l λa x c m=>
 vK (ag .i .leq (ix a 3) (.int .i64 30)) λn=>
 aA n (
 vK (unV .neg (ix a 2)) λd=>
 vK (ag .i .mul (.int .i64 2) (ix a 3)) λo=>
 vK (ag .i .mul (.int .i64 2) (ix a 3)) λp=>
 vK (ag .i .add p (.int .i64 1)) λq=>
 vK (ag .i .mul o q) λr=>
 vK (ag .i .shl r (.int .u64 40)) λs=>
 ae prog dw #[(ix a 1),k,s] c λe t=>
 vK (ag .i .mul d e) λu=>
 vK (ag .i .add (ix a 0) u) λv=>
 vK (ag .i .add (ix a 3) (.int .i64 1)) λw=>
 m [v,e,d,w] t) (
 R (ix a 0) c)
theorem HA (H:xQ a0 a1 h R):ae prog oB #[a0,a1] h R:=fk f281 (.s .z (.s .z (.s .z (.s .z (.s (.s .z (.l 549755552704 [6,7,8,9] (.s (.s .z (.s .z .z)) (.s (.s .z (.s .z .z)) .z)))) (.s .z .z)))))) H
def fM (a0 a1:Value)(h:af)(R:Value→af→Prop):Prop:=
 vK (aq a0) λd=>
 aU [(.int .i64 0)] h λa m b e=>
 vK (ag .i .lss (ix a 0) d) λf=>
 aA f (
 vK (aR 1 a0 (ix a 0)) λg=>
 vK (ldV b g) λj=>
 clK prog a1 #[j] b λk c=>
 aA k (
 R (ix a 0) c) (
 vK (ag .i .add (ix a 0) (.int .i64 1)) λl=>
 e [l] c)) (
 R (.int .i64 (-1)) b)
theorem kR (H:fM a0 a1 h R):ae prog ga #[a0,a1] h R:=fk f282 (.s .z (.s (.s .z (.l 524080 [8] (.s .z (.s (.s .z .z) (.s (.s .z (.s .z (.s (.s .z .z) .z))) .z))))) (.s .z .z))) H
def Da (a0 a1:Value)(h:af)(R:Value→af→Prop):Prop:=
 ae prog gE #[a0] h λd e=>
 ae prog gE #[a1] e λf g=>
 ae prog jq #[d,f] g λa c=>
 vK (aE a 0) λj=>
 vK (aE a 1) λk=>
 vK (ag .i .neq j (.int .u64 0)) λl=>
 aA l (
 vK (ag .i .lss a0 (.int .i64 0)) λm=>
 vK (ag .i .lss a1 (.int .i64 0)) λn=>
 vK (ag .b .neq m n) λo=>
 ae prog jT #[(.int .u64 18446744073709551615),o] c λp q=>
 R p q) (
 vK (ag .i .lss a0 (.int .i64 0)) λr=>
 vK (ag .i .lss a1 (.int .i64 0)) λs=>
 vK (ag .b .neq r s) λt=>
 ae prog jT #[k,t] c λu v=>
 R u v)
theorem MQ (H:Da a0 a1 h R):ae prog zQ #[a0,a1] h R:=fk f283 (.s .z (.s .z (.s (.s .z (.s .z .z)) (.s .z .z)))) H
def fK (a0 a1 a2 a3:Value)(h:af)(R:Value→af→Prop):Prop:=
 vK (ag .i .add a1 (.int .i64 1)) λg=>
 aU [g] h λe ao f j=>
 vK (ag .i .lss (ix e 0) a2) λk=>
 aA k (
 aU [(ix e 0)] f λb ap c l=>
 bC c λS=>
 vK (ag .i .gtr (ix b 0) a1) λa=>
 vK (gV a true (some a3)) λm=>
 vK (gV a true (some a0)) λn=>
 vK (gV a true (some (ix b 0))) λo=>
 vK (gV a true (aR 1 n o)) λp=>
 qK S (λc=>gV a true (ldV c p)) λq=>
 vK (gV a true (some a0)) λr=>
 vK (gV a true (some (ix b 0))) λs=>
 vK (gV a true (ag .i .sub s (.int .i64 1))) λt=>
 vK (gV a true (aR 1 r t)) λu=>
 qK S (λc=>gV a true (ldV c u)) λv=>
 gK a true (λw=>clK prog m #[q,v] c w) c λx d=>
 vK (gV a true (ag .i .lss x (.int .i64 0))) λy=>
 vK (az a y (.bool false)) λz=>
 aA z (
 bC d λS=>
 vK (ag .i .sub (ix b 0) (.int .i64 1)) λaa=>
 vK (ag .i .sub (ix b 0) (.int .i64 1)) λab=>
 vK (aR 1 a0 ab) λac=>
 qK S (λd=>ldV d ac) λad=>
 vK (aR 1 a0 (ix b 0)) λae=>
 qK S (λd=>ldV d ae) λah=>
 vK (aR 1 a0 (ix b 0)) λai=>
 stK 1 ai ad d λaq aj=>
 vK (aR 1 a0 aa) λak=>
 stK 1 ak ah aj λar al=>
 vK (ag .i .sub (ix b 0) (.int .i64 1)) λam=>
 l [am] al) (
 vK (ag .i .add (ix e 0) (.int .i64 1)) λan=>
 j [an] d)) (
 R (.tuple #[]) f)
theorem kQ (H:fK a0 a1 a2 a3 h R):ae prog cI #[a0,a1,a2,a3] h R:=fk f284 (.s .z (.l 9007199254737664 [8] (.s (.s .z (.s .z .z)) (.s (.s .z (.l 9007199254479360 [9] (.s (.s (.d (.op 0 .r (.op 1 .r (.op 2 .r (.op 3 .r (.op 4 .r (.op 5 .r (.op 6 .r (.op 7 .r (.op 8 .r (.op 9 .r (.op 10 .r (.op 11 .r (.op 12 .r (.op 13 .r (.op 14 .n (.op 15 .r (.op 16 .r .nil)))))))))))))))))) (.s .z .z)) (.s (.d (.op 0 .r (.op 1 .r (.op 2 .r (.op 3 .r (.op 4 .r (.op 5 .r (.op 6 .r (.op 7 .r (.op 8 .r (.op 9 .r (.op 10 .r (.op 11 .r (.op 12 .r (.op 13 .r (.op 14 .r (.op 15 .n (.op 16 .r (.op 17 .n .nil))))))))))))))))))) .z)))) .z)))) H
def iy (a0 a1 a2 a3 a4:Value)(h:af)(R:Value→af→Prop):Prop:=
 vK (ag .i .sub a2 a1) λak=>
 vK (ag .i .eql ak (.int .i64 1)) λal=>
 aA al (
 aU [a2,a3] h λe de f x=>
 vK (ag .i .lss (ix e 0) (ix e 1)) λam=>
 aA am (
 vK (ag .i .add (ix e 0) (ix e 1)) λan=>
 vK (eS .u64 an) λao=>
 vK (ag .i .shr ao (.int .u64 1)) λap=>
 vK (eS .i64 ap) λt=>
 bC f λS=>
 vK (aR 1 a0 t) λaq=>
 qK S (λf=>ldV f aq) λar=>
 vK (aR 1 a0 a1) λau=>
 qK S (λf=>ldV f au) λav=>
 clK prog a4 #[ar,av] f λaw y=>
 vK (ag .i .lss aw (.int .i64 0)) λax=>
 aA ax (
 vK (ag .i .add t (.int .i64 1)) λay=>
 x [ay,(ix e 1)] y) (
 x [(ix e 0),t] y)) (
 aU [a1] f λm df g a5=>
 vK (ag .i .sub (ix e 0) (.int .i64 1)) λa6=>
 vK (ag .i .lss (ix m 0) a6) λa7=>
 aA a7 (
 bC g λS=>
 vK (ag .i .add (ix m 0) (.int .i64 1)) λa8=>
 vK (ag .i .add (ix m 0) (.int .i64 1)) λa9=>
 vK (aR 1 a0 a9) λba=>
 qK S (λg=>ldV g ba) λbb=>
 vK (aR 1 a0 (ix m 0)) λbc=>
 qK S (λg=>ldV g bc) λbd=>
 vK (aR 1 a0 (ix m 0)) λbe=>
 stK 1 be bb g λdg bf=>
 vK (aR 1 a0 a8) λbg=>
 stK 1 bg bd bf λdh bh=>
 vK (ag .i .add (ix m 0) (.int .i64 1)) λbi=>
 a5 [bi] bh) (
 R (.tuple #[]) g))) (
 vK (ag .i .sub a3 a2) λbj=>
 vK (ag .i .eql bj (.int .i64 1)) λbk=>
 aA bk (
 aU [a1,a2] h λj di k z=>
 vK (ag .i .lss (ix j 0) (ix j 1)) λbl=>
 aA bl (
 vK (ag .i .add (ix j 0) (ix j 1)) λbm=>
 vK (eS .u64 bm) λbn=>
 vK (ag .i .shr bn (.int .u64 1)) λbo=>
 vK (eS .i64 bo) λu=>
 bC k λS=>
 vK (aR 1 a0 a2) λbp=>
 qK S (λk=>ldV k bp) λbq=>
 vK (aR 1 a0 u) λbr=>
 qK S (λk=>ldV k br) λbs=>
 clK prog a4 #[bq,bs] k λbt aa=>
 vK (ag .i .lss bt (.int .i64 0)) λbu=>
 vK (unV .not bu) λbv=>
 aA bv (
 vK (ag .i .add u (.int .i64 1)) λbw=>
 z [bw,(ix j 1)] aa) (
 z [(ix j 0),u] aa)) (
 aU [a2] k λn dj l bx=>
 vK (ag .i .gtr (ix n 0) (ix j 0)) λbz=>
 aA bz (
 bC l λS=>
 vK (ag .i .sub (ix n 0) (.int .i64 1)) λb0=>
 vK (ag .i .sub (ix n 0) (.int .i64 1)) λb1=>
 vK (aR 1 a0 b1) λb2=>
 qK S (λl=>ldV l b2) λb3=>
 vK (aR 1 a0 (ix n 0)) λb4=>
 qK S (λl=>ldV l b4) λb5=>
 vK (aR 1 a0 (ix n 0)) λb6=>
 stK 1 b6 b3 l λdk b7=>
 vK (aR 1 a0 b0) λb8=>
 stK 1 b8 b5 b7 λdl b9=>
 vK (ag .i .sub (ix n 0) (.int .i64 1)) λca=>
 bx [ca] b9) (
 R (.tuple #[]) l))) (
 vK (ag .i .add a1 a3) λcb=>
 vK (eS .u64 cb) λcc=>
 vK (ag .i .shr cc (.int .u64 1)) λcd=>
 vK (eS .i64 cd) λb=>
 vK (ag .i .add b a2) λv=>
 dK (λab=>
 vK (ag .i .gtr a2 b) λce=>
 aA ce (
 vK (ag .i .sub v a3) λcf=>
 ab [cf,b] h) (
 ab [a1,a2] h))
 λac dm cg=>
 vK (ag .i .sub v (.int .i64 1)) λch=>
 aU [(ix ac 0),(ix ac 1)] cg λa dn c ad=>
 vK (ag .i .lss (ix a 0) (ix a 1)) λci=>
 aA ci (
 vK (ag .i .add (ix a 0) (ix a 1)) λcj=>
 vK (eS .u64 cj) λck=>
 vK (ag .i .shr ck (.int .u64 1)) λcl=>
 vK (eS .i64 cl) λo=>
 bC c λS=>
 vK (ag .i .sub ch o) λcm=>
 vK (aR 1 a0 cm) λcn=>
 qK S (λc=>ldV c cn) λco=>
 vK (aR 1 a0 o) λcp=>
 qK S (λc=>ldV c cp) λcq=>
 clK prog a4 #[co,cq] c λcr ah=>
 vK (ag .i .lss cr (.int .i64 0)) λcs=>
 vK (unV .not cs) λct=>
 aA ct (
 vK (ag .i .add o (.int .i64 1)) λcu=>
 ad [cu,(ix a 1)] ah) (
 ad [(ix a 0),o] ah)) (
 vK (ag .i .sub v (ix a 0)) λd=>
 dK (λai=>
 vK (ag .i .lss (ix a 0) a2) λp=>
 vK (gV p true (some a2)) λcv=>
 vK (gV p true (some d)) λcw=>
 vK (gV p true (ag .i .lss cv cw)) λcx=>
 vK (az p cx (.bool false)) λcy=>
 aA cy (
 ae prog fS #[a0,(ix a 0),a2,d,a4] c λdp cz=>
 ai [] cz) (
 ai [] c))
 λdq dr w=>
 vK (ag .i .lss a1 (ix a 0)) λq=>
 vK (gV q true (some (ix a 0))) λc0=>
 vK (gV q true (some b)) λc1=>
 vK (gV q true (ag .i .lss c0 c1)) λc2=>
 vK (az q c2 (.bool false)) λc3=>
 aA c3 (
 ae prog bJ #[a0,a1,(ix a 0),b,a4] w λds aj=>
 vK (ag .i .lss b d) λr=>
 vK (gV r true (some d)) λc4=>
 vK (gV r true (some a3)) λc5=>
 vK (gV r true (ag .i .lss c4 c5)) λc6=>
 vK (az r c6 (.bool false)) λc7=>
 aA c7 (
 ae prog bJ #[a0,b,d,a3,a4] aj λdt c8=>
 R (.tuple #[]) c8) (
 R (.tuple #[]) aj)) (
 vK (ag .i .lss b d) λs=>
 vK (gV s true (some d)) λc9=>
 vK (gV s true (some a3)) λda=>
 vK (gV s true (ag .i .lss c9 da)) λdb=>
 vK (az s db (.bool false)) λdc=>
 aA dc (
 ae prog bJ #[a0,b,d,a3,a4] w λdu dd=>
 R (.tuple #[]) dd) (
 R (.tuple #[]) w)))))
theorem pB (H:iy a0 a1 a2 a3 a4 h R):ae prog bJ #[a0,a1,a2,a3,a4] h R:=fk f285 (.s (.s .z (.s (.s .z (.s .z (.s (.l 18014396362005504 [10,11] (.s (.s .z (.s .z .z)) (.s .z (.s (.d (.op 0 .r (.op 1 .r (.op 2 .r (.op 3 .r (.op 4 .r (.op 5 .r (.op 6 .r (.op 7 .r (.op 8 .r (.op 9 .n (.op 10 .r .nil)))))))))))) (.s .z .z))))) (.s (.s .z (.l 151115691423031627882496 [13] (.s (.s .z (.s .z .z)) (.s (.d (.op 0 .r (.op 1 .r (.op 2 .r (.op 3 .r (.op 4 .r (.op 5 .r (.op 6 .r (.op 7 .r (.op 8 .r (.op 9 .r (.op 10 .r (.op 11 .r (.op 12 .r (.op 13 .r (.op 14 .r (.op 15 .n (.op 16 .r (.op 17 .n .nil))))))))))))))))))) .z)))) .z)))) .z)) (.s (.s .z (.s (.s .z (.s .z (.s (.l 162259267157806806474544612753408 [14,15] (.s (.s .z (.s .z .z)) (.s .z (.s (.d (.op 0 .r (.op 1 .r (.op 2 .r (.op 3 .r (.op 4 .r (.op 5 .r (.op 6 .r (.op 7 .r (.op 8 .r (.op 9 .n (.op 10 .r (.op 11 .r .nil))))))))))))) (.s .z .z))))) (.s (.s .z (.l 680564409323323268500022431707515977728 [17] (.s (.s .z (.s .z .z)) (.s (.d (.op 0 .r (.op 1 .r (.op 2 .r (.op 3 .r (.op 4 .r (.op 5 .r (.op 6 .r (.op 7 .r (.op 8 .r (.op 9 .r (.op 10 .r (.op 11 .r (.op 12 .r (.op 13 .r (.op 14 .r (.op 15 .n (.op 16 .r (.op 17 .n .nil))))))))))))))))))) .z)))) .z)))) .z)) (.s .z (.s .z (.s .z (.j 178057512444517944145699250583176761402458112 [20,21] (.s .z (.s (.s .z .z) (.s .z .z))) (.s .z (.s (.l 47890484938435180470718404069304177263338029388398592 [20,21] (.s (.s .z (.s .z .z)) (.s .z (.s (.d (.op 0 .r (.op 1 .r (.op 2 .r (.op 3 .r (.op 4 .r (.op 5 .r (.op 6 .r (.op 7 .r (.op 8 .r (.op 9 .r (.op 10 .r (.op 11 .n (.op 12 .r (.op 13 .r .nil))))))))))))))) (.s .z .z))))) (.s .z (.j 6276718611501464291621199836450878838806450759683488612352 [] (.s .z (.s .z .z)) (.s (.s .z (.s .z .z)) (.s .z (.s .z .z))))))))))))) H
def jg (a0:Value)(h:af)(R:Value→af→Prop):Prop:=
 ae prog uj #[a0] h λa b=>
 vK (ag .i .sub (.int .i64 64) a) λc=>
 R c b
theorem qN (H:jg a0 h R):ae prog fU #[a0] h R:=fk f288 (.s .z (.s .z .z)) H
def iP (a0:Value)(h:af)(R:Value→af→Prop):Prop:=
 dK (λc=>
 vK (aq a0) λe=>
 vK (ag .i .lss e (.int .i64 1)) λf=>
 aA f (
 Ji h λs g=>
 c [] g) (
 c [] h))
 λt u d=>
 vK (aR 1 a0 (.int .i64 0)) λj=>
 vK (ldV d j) λk=>
 aU [k,(.int .i64 1)] d λa v b l=>
 vK (aq a0) λm=>
 vK (ag .i .lss (ix a 1) m) λn=>
 aA n (
 vK (aR 1 a0 (ix a 1)) λo=>
 vK (ldV b o) λp=>
 vK (pF (ix a 0) p) λq=>
 vK (ag .i .add (ix a 1) (.int .i64 1)) λr=>
 l [q,r] b) (
 R (ix a 0) b)
theorem pY (H:iP a0 h R):ae prog fG #[a0] h R:=fk f289 (.s .z (.j 480 [] (.s .z (.s .z .z)) (.s .z (.s (.s .z (.l 16773144 [3,4] (.s (.s .z (.s .z .z)) (.s .z .z)))) (.s .z .z))))) H
def dm (a0:Value)(h:af)(R:Value→af→Prop):Prop:=
 aP (Value.cells a0) 284 h λa b=>
 R (.func (.func cW) #[] #[a]) b
theorem gH (H:dm a0 h R):ae prog dy #[a0] h R:=fk f291 (.s .z (.s .z .z)) H
def tC (a0 a1 a2 a3:Value)(h:af)(R:Value→af→Prop):Prop:=
 vK (ag .i .mul (.int .i64 2) a0) λb=>
 dK (λa=>
 vK (ag .i .gtr a1 a0) λc=>
 aA c (
 vK (ag .i .mul (.int .i64 2) a1) λd=>
 a [d] h) (
 a [b] h))
 λe p f=>
 vK (ag .i .mul (.int .i64 2) a1) λg=>
 vK (ag .i .mul g a3) λj=>
 vK (ag .i .mul (.int .i64 2) a2) λk=>
 vK (ag .i .add k (.int .i64 1)) λl=>
 vK (ag .i .mul l a0) λm=>
 vK (ag .i .sub j m) λn=>
 vK (ag .i .add n a1) λo=>
 R (.tuple #[o,(ix e 0)]) f
theorem Dv (H:tC a0 a1 a2 a3 h R):ae prog jR #[a0,a1,a2,a3] h R:=fk f292 (.s .z (.s .z (.j 254976 [10] (.s .z (.s .z .z)) (.s .z .z)))) H
def AR (a0 a1:Value)(h:af)(R:Value→af→Prop):Prop:=
 vK (ag .i .lss a1 (.int .i64 1)) λd=>
 vK (gV d false (some a1)) λl=>
 vK (gV d false (ag .i .gtr l (.int .i64 262144))) λm=>
 vK (az d (.bool true) m) λn=>
 aA n (
 R (.int .i64 0) h) (
 vK (ag .i .mul (.int .i64 2) a1) λo=>
 vK (ag .i .geq a0 o) λa=>
 vK (gV a false (some a0)) λp=>
 vK (gV a false (some a1)) λq=>
 vK (gV a false (ag .i .mul (.int .i64 (-2)) q)) λr=>
 vK (gV a false (ag .i .leq p r)) λs=>
 vK (az a (.bool true) s) λt=>
 aA t (
 R (.int .i64 0) h) (
 dK (λf=>
 vK (ag .i .lss a0 (.int .i64 0)) λu=>
 aA u (
 vK (unV .neg a0) λv=>
 f [v] h) (
 f [a0] h))
 λb aw g=>
 vK (ag .i .mul (ix b 0) (ix b 0)) λe=>
 vK (ag .i .mul e (ix b 0)) λj=>
 vK (ag .i .mul a1 a1) λk=>
 vK (ag .i .mul k a1) λc=>
 vK (ag .i .lss (ix b 0) a1) λw=>
 aA w (
 vK (ag .i .mul (.int .i64 3) j) λx=>
 vK (ag .i .mul (.int .i64 5) e) λy=>
 vK (ag .i .mul y a1) λz=>
 vK (ag .i .sub x z) λaa=>
 vK (ag .i .mul (.int .i64 2) c) λab=>
 vK (ag .i .add aa ab) λac=>
 vK (ag .i .mul (.int .i64 2) c) λad=>
 ae prog cH #[ac,(.int .i64 1073741824),ad] g λah ai=>
 R ah ai) (
 vK (ag .i .mul (.int .i64 5) e) λaj=>
 vK (ag .i .mul aj a1) λak=>
 vK (ag .i .sub ak j) λal=>
 vK (ag .i .mul (.int .i64 8) (ix b 0)) λam=>
 vK (ag .i .mul am k) λan=>
 vK (ag .i .sub al an) λao=>
 vK (ag .i .mul (.int .i64 4) c) λap=>
 vK (ag .i .add ao ap) λaq=>
 vK (ag .i .mul (.int .i64 2) c) λar=>
 ae prog cH #[aq,(.int .i64 1073741824),ar] g λau av=>
 R au av)))
theorem Kx (H:AR a0 a1 h R):ae prog wM #[a0,a1] h R:=fk f293 (.s .z (.s (.s .z (.s (.s .z .z) .z)) (.s (.s .z (.s (.s .z .z) .z)) (.j 503316481 [0] (.s .z (.s .z .z)) (.s .z (.s .z (.s .z (.s .z (.s (.s .z (.s (.s .z .z) .z)) (.s .z .z)))))))))) H
def vg (a0 a1:Value)(h:af)(R:Value→af→Prop):Prop:=
 ae prog zK #[a0,a1] h λd c=>
 vK (unV .not d) λa=>
 vK (gV a false (some a0)) λe=>
 vK (gV a false (some a1)) λf=>
 vK (gV a false (ag .i .mul (.int .i64 3) f)) λg=>
 vK (gV a false (ag .i .geq e g)) λj=>
 vK (az a (.bool true) j) λb=>
 vK (gV b false (some a0)) λk=>
 vK (gV b false (some a1)) λl=>
 vK (gV b false (ag .i .mul (.int .i64 (-3)) l)) λm=>
 vK (gV b false (ag .i .leq k m)) λn=>
 vK (az b (.bool true) n) λo=>
 aA o (
 R (.int .i64 0) c) (
 ae prog mC #[a0,a1] c λp q=>
 vK (ag .i .mul (.int .i64 3) a1) λr=>
 ae prog mC #[a0,r] q λs t=>
 ae prog nV #[p,s,(.int .i64 40)] t λu v=>
 ae prog ks #[u,(.int .i64 10)] v λw x=>
 R w x)
theorem Ey (H:vg a0 a1 h R):ae prog qf #[a0,a1] h R:=fk f294 (.s .z (.s (.s .z (.s (.s .z .z) .z)) (.s .z (.s .z .z)))) H
def AU (a0 a1:Value)(h:af)(R:Value→af→Prop):Prop:=
 aP (Value.cells a0) 351 h λq r=>
 aP #[(.int .u64 0),(.int .u64 0)] 351 r λd s=>
 vK ((aF #[(.int .u64 0),(.int .u64 0)] []).map .agg) λt=>
 aP #[(.int .u64 0),(.int .u64 0)] 351 s λb u=>
 stK 2 b t u λbb v=>
 vK ((aF #[(.int .u64 0),(.int .u64 0)] []).map .agg) λw=>
 aP #[(.int .u64 0),(.int .u64 0)] 351 v λc x=>
 stK 2 c w x λbc f=>
 vK (ag .i .eql a1 (.int .u64 0)) λy=>
 aA y (
 vK (aH 2 f b) λz=>
 stK 2 d z f λbd k=>
 vK (aH 2 k d) λaa=>
 R (.tuple #[aa,(.int .u64 0)]) k) (
 aU [(.int .i64 127)] f λe be a l=>
 vK (ag .i .geq (ix e 0) (.int .i64 0)) λab=>
 aA ab (
 bC a λS=>
 qK S (λa=>aH 2 a c) λac=>
 qK S (λa=>aH 2 a q) λad=>
 ae prog gw #[ad,(ix e 0)] a λah m=>
 S m∧(ae prog dO #[ac,ah] m λai aj=>
 stK 2 c ai aj λbf n=>
 vK (aH 2 n b) λak=>
 ae prog dO #[ak,(.int .u64 0)] n λal an=>
 stK 2 b al an λbg o=>
 vK (aH 2 o c) λao=>
 vK ((aF #[(.int .u64 0),(.int .u64 0)] [(0,1,(.int .u64 0)),(1,1,a1)]).map .agg) λap=>
 ae prog iL #[ao,ap] o λaq g=>
 vK (unV .not aq) λar=>
 aA ar (
 vK (aH 2 g c) λau=>
 vK ((aF #[(.int .u64 0),(.int .u64 0)] [(0,1,(.int .u64 0)),(1,1,a1)]).map .agg) λav=>
 ae prog oE #[au,av] g λaw ax=>
 stK 2 c aw ax λbh p=>
 vK (am 1 b) λay=>
 vK (ldV p ay) λaz=>
 vK (ag .i .add az (.int .u64 1)) λa2=>
 vK (am 1 b) λa3=>
 stK 1 a3 a2 p λbi a4=>
 vK (ag .i .sub (ix e 0) (.int .i64 1)) λa5=>
 l [a5] a4) (
 vK (ag .i .sub (ix e 0) (.int .i64 1)) λa6=>
 l [a6] g))) (
 bC a λS=>
 qK S (λa=>aH 2 a b) λa7=>
 vK (am 1 c) λa8=>
 qK S (λa=>ldV a a8) λa9=>
 stK 2 d a7 a λbj j=>
 S j∧(vK (aH 2 j d) λba=>
 R (.tuple #[ba,a9]) j)))
theorem KA (H:AU a0 a1 h R):ae prog rj #[a0,a1] h R:=fk f295 (.s .z (.s .z (.s .z (.s (.s .z (.s (.s .z .z) .z)) (.s (.s .z (.l 274877890816 [8] (.s (.s .z (.s .z .z)) (.s (.s (.d (.op 0 .r (.op 1 .r (.op 2 .r (.op 3 .e (.op 4 .n (.op 5 .n .nil))))))) (.s .z (.s .z (.s (.s .z .z) .z)))) .z)))) (.s (.d (.op 0 .r (.op 1 .r (.op 2 .r (.op 3 .e (.op 4 .r .nil)))))) .z)))))) H
def AT (a0 a1:Value)(h:af)(R:Value→af→Prop):Prop:=
 aP (Value.cells a0) 351 h λe l=>
 aP (Value.cells a1) 351 l λf m=>
 aP #[(.int .u64 0),(.int .u64 0)] 351 m λd c=>
 vK (am 0 e) λn=>
 vK (ldV c n) λo=>
 vK (am 0 f) λp=>
 vK (ldV c p) λq=>
 vK (ag .i .add o q) λr=>
 vK (am 1 e) λs=>
 vK (ldV c s) λt=>
 vK (am 1 f) λu=>
 vK (ldV c u) λv=>
 vK (ag .i .add t v) λw=>
 vK ((aF #[(.int .u64 0),(.int .u64 0)] [(0,1,r),(1,1,w)]).map .agg) λx=>
 aP #[(.int .u64 0),(.int .u64 0)] 351 c λa y=>
 stK 2 a x y λap b=>
 vK (am 1 a) λz=>
 vK (ldV b z) λaa=>
 vK (am 1 e) λab=>
 vK (ldV b ab) λac=>
 vK (ag .i .lss aa ac) λad=>
 aA ad (
 vK (am 0 a) λae=>
 vK (ldV b ae) λah=>
 vK (ag .i .add ah (.int .u64 1)) λai=>
 vK (am 0 a) λaj=>
 stK 1 aj ai b λaq g=>
 vK (aH 2 g a) λak=>
 stK 2 d ak g λar j=>
 vK (aH 2 j d) λal=>
 R al j) (
 vK (aH 2 b a) λan=>
 stK 2 d an b λau k=>
 vK (aH 2 k d) λao=>
 R ao k)
theorem Kz (H:AT a0 a1 h R):ae prog gv #[a0,a1] h R:=fk f296 (.s .z (.s .z (.s (.s .z (.s .z .z)) (.s .z .z)))) H
def AW (a0 a1:Value)(h:af)(R:Value→af→Prop):Prop:=
 aP (Value.cells a0) 351 h λb a=>
 aA a1 (
 vK (am 0 b) λe=>
 vK (ldV a e) λf=>
 vK (ag .i .gtr f (.int .u64 0)) λc=>
 vK (gV c false (am 1 b)) λg=>
 vK (gV c false (ldV a g)) λj=>
 vK (gV c false (ag .i .gtr j (.int .u64 9223372036854775807))) λk=>
 vK (az c (.bool true) k) λl=>
 aA l (
 R (.int .i64 (-9223372036854775808)) a) (
 vK (am 1 b) λm=>
 vK (ldV a m) λn=>
 vK (eS .i64 n) λo=>
 vK (unV .neg o) λp=>
 R p a)) (
 vK (am 0 b) λq=>
 vK (ldV a q) λr=>
 vK (ag .i .gtr r (.int .u64 0)) λd=>
 vK (gV d false (am 1 b)) λs=>
 vK (gV d false (ldV a s)) λt=>
 vK (gV d false (ag .i .gtr t (.int .u64 9223372036854775807))) λu=>
 vK (az d (.bool true) u) λv=>
 aA v (
 R (.int .i64 9223372036854775807) a) (
 vK (am 1 b) λw=>
 vK (ldV a w) λx=>
 vK (eS .i64 x) λy=>
 R y a))
theorem KC (H:AW a0 a1 h R):ae prog da #[a0,a1] h R:=fk f297 (.s .z (.s (.s .z (.s (.s (.s .z (.s (.s .z .z) .z)) (.s .z .z)) .z)) (.s (.s .z (.s (.s .z .z) .z)) (.s .z .z)))) H
def xW (a0 a1:Value)(h:af)(R:Value→af→Prop):Prop:=
 aP (Value.cells a0) 351 h λb e=>
 aP #[(.int .u64 0),(.int .u64 0)] 351 e λc a=>
 vK (am 0 b) λf=>
 vK (ldV a f) λg=>
 vK (ag .i .shl g (.int .u64 1)) λj=>
 vK (am 1 b) λk=>
 vK (ldV a k) λl=>
 vK (ag .i .shr l (.int .u64 63)) λm=>
 vK (ag .i .add j m) λn=>
 vK (am 1 b) λo=>
 vK (ldV a o) λp=>
 vK (ag .i .shl p (.int .u64 1)) λq=>
 vK (ag .i .add q a1) λr=>
 vK ((aF #[(.int .u64 0),(.int .u64 0)] [(0,1,n),(1,1,r)]).map .agg) λs=>
 stK 2 c s a λu d=>
 vK (aH 2 d c) λt=>
 R t d
theorem HM (H:xW a0 a1 h R):ae prog dO #[a0,a1] h R:=fk f298 (.s .z (.s .z .z)) H
def CY (a0 a1:Value)(h:af)(R:Value→af→Prop):Prop:=
 aP (Value.cells a0) 351 h λb a=>
 vK (ag .i .geq a1 (.int .i64 64)) λc=>
 aA c (
 vK (am 0 b) λd=>
 vK (ldV a d) λe=>
 vK (ag .i .sub a1 (.int .i64 64)) λf=>
 vK (ag .i .shr e f) λg=>
 vK (ag .i .and g (.int .u64 1)) λj=>
 R j a) (
 vK (am 1 b) λk=>
 vK (ldV a k) λl=>
 vK (ag .i .shr l a1) λm=>
 vK (ag .i .and m (.int .u64 1)) λn=>
 R n a)
theorem MH (H:CY a0 a1 h R):ae prog gw #[a0,a1] h R:=fk f299 (.s .z (.s (.s .z (.s (.s .z .z) .z)) (.s .z .z))) H
def xZ (a0 a1:Value)(h:af)(R:Value→af→Prop):Prop:=
 aP (Value.cells a0) 351 h λe l=>
 aP (Value.cells a1) 351 l λf m=>
 aP #[(.int .u64 0),(.int .u64 0)] 351 m λd b=>
 vK (am 0 e) λn=>
 vK (ldV b n) λo=>
 vK (am 0 f) λp=>
 vK (ldV b p) λq=>
 vK (ag .i .sub o q) λr=>
 vK (am 1 e) λs=>
 vK (ldV b s) λt=>
 vK (am 1 f) λu=>
 vK (ldV b u) λv=>
 vK (ag .i .sub t v) λw=>
 vK ((aF #[(.int .u64 0),(.int .u64 0)] [(0,1,r),(1,1,w)]).map .agg) λx=>
 aP #[(.int .u64 0),(.int .u64 0)] 351 b λc y=>
 stK 2 c x y λap a=>
 vK (am 1 e) λz=>
 vK (ldV a z) λaa=>
 vK (am 1 f) λab=>
 vK (ldV a ab) λac=>
 vK (ag .i .lss aa ac) λad=>
 aA ad (
 vK (am 0 c) λae=>
 vK (ldV a ae) λah=>
 vK (ag .i .sub ah (.int .u64 1)) λai=>
 vK (am 0 c) λaj=>
 stK 1 aj ai a λaq g=>
 vK (aH 2 g c) λak=>
 stK 2 d ak g λar j=>
 vK (aH 2 j d) λal=>
 R al j) (
 vK (aH 2 a c) λan=>
 stK 2 d an a λau k=>
 vK (aH 2 k d) λao=>
 R ao k)
theorem HU (H:xZ a0 a1 h R):ae prog oE #[a0,a1] h R:=fk f300 (.s .z (.s .z (.s (.s .z (.s .z .z)) (.s .z .z)))) H
def AV (a0 a1:Value)(h:af)(R:Value→af→Prop):Prop:=
 aP (Value.cells a0) 351 h λb d=>
 aP (Value.cells a1) 351 d λc a=>
 vK (am 0 b) λe=>
 vK (ldV a e) λf=>
 vK (am 0 c) λg=>
 vK (ldV a g) λj=>
 vK (ag .i .neq f j) λk=>
 aA k (
 vK (am 0 b) λl=>
 vK (ldV a l) λm=>
 vK (am 0 c) λn=>
 vK (ldV a n) λo=>
 vK (ag .i .lss m o) λp=>
 R p a) (
 vK (am 1 b) λq=>
 vK (ldV a q) λr=>
 vK (am 1 c) λs=>
 vK (ldV a s) λt=>
 vK (ag .i .lss r t) λu=>
 R u a)
theorem KB (H:AV a0 a1 h R):ae prog iL #[a0,a1] h R:=fk f301 (.s .z (.s (.s .z (.s (.s .z .z) .z)) (.s .z .z))) H
def AB (a0 a1 a2:Value)(h:af)(R:Value→af→Prop):Prop:=
 vK (ag .i .geq a2 (.int .i64 64)) λa=>
 aA a (
 vK (ag .i .sub a2 (.int .i64 64)) λb=>
 vK (ag .i .shr a0 b) λc=>
 R (.tuple #[(.int .u64 0),c]) h) (
 vK (ag .i .shr a0 a2) λd=>
 vK (ag .i .shr a1 a2) λe=>
 vK (ag .i .sub (.int .i64 64) a2) λf=>
 vK (ag .i .shl a0 f) λg=>
 vK (ag .i .or e g) λj=>
 R (.tuple #[d,j]) h)
theorem Kg (H:AB a0 a1 a2 h R):ae prog qY #[a0,a1,a2] h R:=fk f302 (.s .z (.s (.s .z (.s (.s .z .z) .z)) (.s .z .z))) H
def AC (a0 a1 a2:Value)(h:af)(R:Value→af→Prop):Prop:=
 vK (ag .i .geq a2 (.int .i64 64)) λb=>
 aA b (
 vK (ag .i .eql a1 (.int .u64 0)) λa=>
 vK (gV a true (some a0)) λc=>
 vK (gV a true (some a2)) λd=>
 vK (gV a true (ag .i .sub (.int .i64 128) d)) λe=>
 vK (gV a true (ag .i .shl c e)) λf=>
 vK (gV a true (ag .i .eql f (.int .u64 0))) λg=>
 vK (az a g (.bool false)) λj=>
 R j h) (
 vK (ag .i .sub (.int .i64 64) a2) λk=>
 vK (ag .i .shl a1 k) λl=>
 vK (ag .i .eql l (.int .u64 0)) λm=>
 R m h)
theorem Kh (H:AC a0 a1 a2 h R):ae prog wF #[a0,a1,a2] h R:=fk f303 (.s .z (.s (.s .z (.s (.s .z .z) .z)) (.s .z .z))) H
def jf (a0 a1 a2 a3 a4:Value)(h:af)(R:Value→af→Prop):Prop:=
 vK (ag .i .sub a2 a1) λd=>
 vK (ag .i .sub a3 a2) λe=>
 aU [d,e] h λa t b c=>
 vK (ag .i .neq (ix a 0) (ix a 1)) λf=>
 aA f (
 vK (ag .i .gtr (ix a 0) (ix a 1)) λg=>
 aA g (
 vK (ag .i .sub a2 (ix a 0)) λj=>
 ae prog cB #[a0,j,a2,(ix a 1),a4] b λu k=>
 vK (ag .i .sub (ix a 0) (ix a 1)) λl=>
 c [l,(ix a 1)] k) (
 vK (ag .i .sub a2 (ix a 0)) λm=>
 vK (ag .i .add a2 (ix a 1)) λn=>
 vK (ag .i .sub n (ix a 0)) λo=>
 ae prog cB #[a0,m,o,(ix a 0),a4] b λv p=>
 vK (ag .i .sub (ix a 1) (ix a 0)) λq=>
 c [(ix a 0),q] p)) (
 vK (ag .i .sub a2 (ix a 0)) λr=>
 ae prog cB #[a0,r,a2,(ix a 0),a4] b λw s=>
 R (.tuple #[]) s)
theorem qM (H:jf a0 a1 a2 a3 a4 h R):ae prog fS #[a0,a1,a2,a3,a4] h R:=fk f304 (.s .z (.s .z (.s (.l 1125899906583552 [10,11] (.s (.s .z (.s .z .z)) (.s .z (.s (.s .z .z) (.s .z .z))))) .z))) H
def CW (a0 a1:Value)(h:af)(R:Value→af→Prop):Prop:=
 vK (ag .i .lss a1 (.int .i64 1)) λb=>
 vK (gV b false (some a1)) λc=>
 vK (gV b false (ag .i .gtr c (.int .i64 1048576))) λd=>
 vK (az b (.bool true) d) λe=>
 aA e (
 R (.bool false) h) (
 vK (ag .i .mul (.int .i64 4) a1) λf=>
 vK (ag .i .leq a0 f) λa=>
 vK (gV a true (some a0)) λg=>
 vK (gV a true (some a1)) λj=>
 vK (gV a true (ag .i .mul (.int .i64 (-4)) j)) λk=>
 vK (gV a true (ag .i .geq g k)) λl=>
 vK (az a l (.bool false)) λm=>
 R m h)
theorem MF (H:CW a0 a1 h R):ae prog zK #[a0,a1] h R:=fk f307 (.s .z (.s (.s .z (.s (.s .z .z) .z)) (.s .z .z))) H
def tD (a0 a1 a2:Value)(h:af)(R:Value→af→Prop):Prop:=
 dK (λp=>
 vK (ag .i .lss a2 (.int .i64 0)) λt=>
 aA t (
 p [(.int .i64 0)] h) (
 p [a2] h))
 λe bw q=>
 vK (ag .i .gtr (ix e 0) (.int .i64 127)) λu=>
 aA u (
 R (.int .i64 0) q) (
 vK (ag .i .lss a0 (.int .i64 0)) λv=>
 vK (ag .i .lss a1 (.int .i64 0)) λw=>
 vK (ag .b .neq v w) λj=>
 ae prog eT #[a0] q λx y=>
 ae prog eT #[a1] y λz aa=>
 ae prog oD #[x,z] aa λab ac=>
 aP #[(.int .u64 0),(.int .u64 0)] 351 ac λf ad=>
 stK 2 f ab ad λbx m=>
 vK (ag .i .eql (ix e 0) (.int .i64 0)) λah=>
 aA ah (
 vK (aH 2 m f) λai=>
 ae prog da #[ai,j] m λaj ak=>
 R aj ak) (
 vK ((aF #[(.int .u64 0),(.int .u64 0)] []).map .agg) λal=>
 aP #[(.int .u64 0),(.int .u64 0)] 351 m λc am=>
 stK 2 c al am λbz an=>
 aU [(.int .i64 127)] an λn b0 d ao=>
 vK (ag .i .geq (ix n 0) (ix e 0)) λap=>
 aA ap (
 bC d λS=>
 qK S (λd=>aH 2 d c) λaq=>
 qK S (λd=>aH 2 d f) λar=>
 ae prog gw #[ar,(ix n 0)] d λau r=>
 S r∧(ae prog dO #[aq,au] r λav aw=>
 stK 2 c av aw λb1 ax=>
 vK (ag .i .sub (ix n 0) (.int .i64 1)) λay=>
 ao [ay] ax)) (
 vK (ag .i .sub (ix e 0) (.int .i64 1)) λa3=>
 aU [(.bool false),(.int .i64 0)] d λa b2 g a4=>
 vK (ag .i .lss (ix a 1) a3) λa5=>
 aA a5 (
 vK (gV (ix a 0) false (aH 2 g f)) λa6=>
 vK (gV (ix a 0) false (some (ix a 1))) λa7=>
 gK (ix a 0) false (λa8=>ae prog gw #[a6,a7] g a8) g λa9 ba=>
 vK (gV (ix a 0) false (ag .i .eql a9 (.int .u64 1))) λbb=>
 vK (az (ix a 0) (.bool true) bb) λbc=>
 vK (ag .i .add (ix a 1) (.int .i64 1)) λbd=>
 a4 [bc,bd] ba) (
 vK (aH 2 g f) λbe=>
 vK (ag .i .sub (ix e 0) (.int .i64 1)) λbf=>
 ae prog gw #[be,bf] g λbg k=>
 vK (ag .i .eql bg (.int .u64 1)) λl=>
 vK (gV l true (some (ix a 0))) λbh=>
 vK (gV l true (some bh)) λo=>
 vK (gV o false (some j)) λbi=>
 vK (gV o false (unV .not bi)) λbj=>
 vK (gV l true (az o (.bool true) bj)) λbk=>
 vK (az l bk (.bool false)) λbl=>
 aA bl (
 vK (aH 2 k c) λbm=>
 vK ((aF #[(.int .u64 0),(.int .u64 0)] [(1,1,(.int .u64 1))]).map .agg) λbn=>
 ae prog gv #[bm,bn] k λbo bp=>
 stK 2 c bo bp λb3 s=>
 vK (aH 2 s c) λbq=>
 ae prog da #[bq,j] s λbr bs=>
 R br bs) (
 vK (aH 2 k c) λbt=>
 ae prog da #[bt,j] k λbu bv=>
 R bu bv)))))
theorem Dw (H:tD a0 a1 a2 h R):ae prog nV #[a0,a1,a2] h R:=fk f308 (.s .z (.j 24580 [2] (.s .z (.s .z .z)) (.s (.s .z (.s (.s .z .z) .z)) (.s .z (.s .z (.s (.s .z (.s (.s .z .z) .z)) (.s .z (.s (.s .z (.l 8787503088640 [10] (.s (.s .z (.s .z .z)) (.s (.d (.op 0 .r (.op 1 .r (.op 2 .r (.op 3 .e (.op 4 .n (.op 5 .n .nil))))))) .z)))) (.s .z (.s (.s .z (.l 72022409665845248 [11,45] (.s .z (.s (.s .z .z) (.s (.s .z .z) .z))))) (.s (.s .z (.s .z .z)) (.s .z .z)))))))))))) H
def xj (a0 a1:Value)(h:af)(R:Value→af→Prop):Prop:=
 dK (λc=>
 vK (ag .i .lss a0 (.int .i64 0)) λj=>
 aA j (
 vK (unV .neg a0) λk=>
 c [k] h) (
 c [a0] h))
 λd ad l=>
 ae prog cH #[(.int .i64 10851744800547),(ix d 0),a1] l λm n=>
 ae prog cH #[m,(ix d 0),a1] n λo p=>
 aU [(.int .i64 1099511627776),(.int .i64 0),(.int .i64 1099511627776),(.int .i64 1)] p λa ah e f=>
 vK (ag .i .leq (ix a 3) (.int .i64 30)) λq=>
 aA q (
 vK (ag .i .mul (.int .i64 2) (ix a 3)) λr=>
 vK (ag .i .mul (.int .i64 2) (ix a 3)) λs=>
 vK (ag .i .add s (.int .i64 1)) λt=>
 vK (ag .i .mul r t) λu=>
 vK (ag .i .mul u (.int .i64 1099511627776)) λv=>
 ae prog cH #[(ix a 2),o,v] e λb g=>
 vK (ag .i .rem (ix a 3) (.int .i64 2)) λw=>
 vK (ag .i .eql w (.int .i64 1)) λx=>
 aA x (
 vK (ag .i .add (ix a 1) b) λy=>
 vK (ag .i .add (ix a 3) (.int .i64 1)) λz=>
 f [(ix a 0),y,b,z] g) (
 vK (ag .i .add (ix a 0) b) λaa=>
 vK (ag .i .add (ix a 3) (.int .i64 1)) λab=>
 f [aa,(ix a 1),b,ab] g)) (
 vK (ag .i .sub (ix a 0) (ix a 1)) λac=>
 R ac e)
theorem Gg (H:xj a0 a1 h R):ae prog mC #[a0,a1] h R:=fk f309 (.s .z (.j 61441 [0] (.s .z (.s .z .z)) (.s .z (.s .z (.s .z (.s .z (.s .z (.s (.s .z (.l 140737479970688 [7,8,9,10] (.s (.s .z (.s .z .z)) (.s (.s .z (.s .z (.s .z (.s .z .z)))) .z)))) (.s .z .z))))))))) H
def gU (a0 a1 a2 a3 a4:Value)(h:af)(R:Value→af→Prop):Prop:=
 aU [(.int .i64 0)] h λb t a c=>
 vK (ag .i .lss (ix b 0) a3) λd=>
 aA d (
 bC a λS=>
 vK (ag .i .add a1 (ix b 0)) λe=>
 vK (ag .i .add a2 (ix b 0)) λf=>
 vK (ag .i .add a2 (ix b 0)) λg=>
 vK (aR 1 a0 g) λj=>
 qK S (λa=>ldV a j) λk=>
 vK (ag .i .add a1 (ix b 0)) λl=>
 vK (aR 1 a0 l) λm=>
 qK S (λa=>ldV a m) λn=>
 vK (aR 1 a0 e) λo=>
 stK 1 o k a λu p=>
 vK (aR 1 a0 f) λq=>
 stK 1 q n p λv r=>
 vK (ag .i .add (ix b 0) (.int .i64 1)) λs=>
 c [s] r) (
 R (.tuple #[]) a)
theorem nD (H:gU a0 a1 a2 a3 a4 h R):ae prog cB #[a0,a1,a2,a3,a4] h R:=fk f310 (.s .z (.l 274877905920 [10] (.s (.s .z (.s .z .z)) (.s (.d (.op 0 .r (.op 1 .r (.op 2 .r (.op 3 .r (.op 4 .r (.op 5 .r (.op 6 .r (.op 7 .r (.op 8 .r (.op 9 .r (.op 10 .r (.op 11 .r (.op 12 .r (.op 13 .r (.op 14 .r (.op 15 .r (.op 16 .r (.op 17 .r (.op 18 .r (.op 19 .r (.op 20 .r (.op 21 .n (.op 22 .r (.op 23 .n .nil))))))))))))))))))))))))) .z)))) H
end
def iJ:Nat→ByteArray
 |0=>⟨#[99,108,97,109,112]⟩
 |1=>⟨#[109,105,114,114,111,114]⟩
 |2=>⟨#[119,114,97,112]⟩
 |_=>⟨#[]⟩
def Qz:Nat→ByteArray
 |0=>⟨#[98,111,120]⟩
 |1=>⟨#[99,117,98,105,99]⟩
 |2=>⟨#[108,97,110,99,122,111,115]⟩
 |_=>⟨#[]⟩
def OT:Nat→Int
 |0=>0
 |1=>2
 |_=>3
def TabH (h:af)(name:String)(k:IntKind)(zs:List Int):Prop:=∃g t f,prog.globalNamed name=some g∧h[g]? =some (.cells (zs.map λz=>Value.int k z).toArray t f)
theorem TabH.is {h:af}{name:String}{k:IntKind}{zs:List Int}(H:TabH h name k zs)(w:World)(A:w.heap=h):Lib.TabIs prog w name k zs:=by
 obtain⟨g,t,f,h1,D⟩:=H;subst A;unfold Lib.TabIs World.var?;rw[h1,Option.bind_some,D]
structure dr (h:af):Prop where
 names:∃v,aB h ⟨ma,0,none⟩=some v∧SlC 1 h v 3 [.string (iJ 0),.string (iJ 1),.string (iJ 2)]
 kinds:∀i,i<3→aB h ⟨dZ,2*i,none⟩=some (.string (Qz i))∧aB h ⟨dZ,2*i+1,none⟩=some (.int .i64 (OT i))
theorem dr.ext {h h':af}(H:dr h)(e:Ext h h'):dr h':=by
 obtain⟨⟨v,h1,D⟩,A⟩:=H;exact⟨⟨v,e.cell h1,D.ext e⟩,λi hi=>⟨e.cell (A i hi).1,e.cell (A i hi).2⟩⟩
end Go.Proofs.YtjljhnandbbldaaGreatDoor
namespace Go.Crisp
open Go Go.ChangeShapes Go.WideShapes Go.ChangeAt Go.RowKit
def zD (P:Program)(L:List (String×DataW Unit))(h:af):Prop:=∀w:World,w.heap=h→laidMetH P L w
theorem row_laid {H:Type}{I:TypeId×Value→H}{C:Checked}{os:Os}{f:FuncId}{fn:Func}{s:ChangeSpec}{ab:List PathCond}{rt:TypeId}{U:List TS}{L:List (String×DataW Unit)}
  (a9:pD C.prog f=true) (own:ownKnob C.prog.godebug=none) (started:os.Started) (al:C.prog.inits.idxOf? f=none) (be:C.prog.funcs[f]? =some fn)
  (ax:laidOutB C.prog=true) (F:s.vars=[]) (hp:DG C.prog U fn.params.toList=true) (an:fn.params.toList.all (λt=>C.prog.readableRec t&&decide (t<C.prog.types.size))=true)
  (ay:fn.resultTypes=#[rt]) (a8:C.prog.underlying rt=some .bool)
  (D:∀ds:List (DataW H),ds.length=U.length→s.fn H ds={results:=[.lit (.bool true)],args:=ds})
  (aa:∃(w:World) (A:Tape) (i:Input),w.os=os∧(w.forCall A i).Shaped C.prog∧i.vars=[]∧Input.okWide C.prog (w.forCall A i) .any w.heap.size f i∧
   ((s.pre I C.prog fn ab false (w.forCall A i).memory i.args∧laidMetH C.prog L (w.forCall A i).memory)∧sizedMet I C.prog fn (OpenSpec.ofChange s) false (w.forCall A i).memory i.args)∧Assume.holds {} C.prog (lone (Frame.enter C.prog f i.args .normal) [] (w.forCall A i)))
  (G:∀(h:af) (args:Array Value),zD C.prog L h→sV U h args.toList→ae C.prog f args h λr h'=>r=.bool true∧Ext h h'):
  ReturnsInHanded {} C os f .any (λw args=>(s.pre I C.prog fn ab false w args∧laidMetH C.prog L w)∧sizedMet I C.prog fn (OpenSpec.ofChange s) false w args) (s.post I C.prog fn false true false false):=by
 refine returnsInHanded_of_change_and (X:=λw _=>laidMetH C.prog L w) (λ_ _ _ hh h=>h.of_heap hh) own started al be aa ?_;intro W bg args ds gs before ar hW _ aw hL _;have bc:=hW;obtain⟨p,q,hA,hV,rfl,_,_⟩:=hW;rw[F]at hV;obtain⟨rfl,rfl⟩:=trodVars_none hV;have bd:s.plain.varTypes C.prog=[]:=by simp[DataSpec.varTypes,ChangeSpec.plain,F]
 rw[bd,List.append_nil,List.append_nil]at aw;have hw:xz (DataW.weightsEach C.prog fn.params.toList ds):=λn hn=>by
  have:=List.all_eq_true.1 aw n hn;exact of_decide_eq_true this
 have a7:sV U W.heap args.toList:=R0 hp (λj t v ht hv=>ar j t v (by simpa using ht) (by simpa using hv)) hA hw;have ad:ds.length=U.length:=by
  have l1:∀{ids:List TypeId} {vs:List Value} {ds:List (DataW H)} {ps:List MemPlace},DataW.TrodAll I C.prog W 0 (λ_=>true) true ids vs ds ps→ds.length=ids.length:=by
   intro ids;induction ids with
   |nil=>intro vs ds ps h;obtain⟨rfl,rfl,rfl⟩:=trodAll_nil h;rfl
   |cons t ids ih=>intro vs ds ps h;obtain⟨v,bk,d,bo,p,q,rfl,rfl,rfl,h1,h2⟩:=trodAll_cons h;simp[ih h2]
  have l2:∀(U:List TS) (ids:List TypeId),DG C.prog U ids=true→ids.length=U.length:=by
   intro U;induction U with
   |nil=>intro ids h;cases ids<;>simp_all [DG]
   |cons t U ih=>intro ids h;cases ids<;>simp[DG]at h;simp[ih _ h.2]
  rw[l1 hA,l2 _ _ hp]
 refine((G W.heap args (λw hw=>hL.of_heap hw.symm) a7).calls a9 W rfl).mono λe W' ⟨v,he,hs,hv,hx⟩=>?_
 subst he hv;have au:Below W.heap.size W W':=⟨hs.1,hs.2.1,hs.2.2,hx.1,λk hk=>hx.2 k hk⟩
 refine⟨_,rfl,ds,[],_,[],p,[],bc,?_,?_,?_,au.frame _,λh=>by cases h⟩
 ·rw[List.append_nil,D ds ad,ay];exact trodAll_mk1 (shut_bool a8 _)
 ·rw[List.append_nil,D ds ad];exact LJ ax au an hA
 ·rw[List.append_nil,D ds ad,F];rfl
theorem FG {P:Program}{w:World}:∀{L:List (String×DataW Unit)} {F:List MemPlace},DataW.LaidVars P w L F→∀{n:String} {d:DataW Unit},(n,d)∈L→
  ∃g t cs A p,P.globalNamed n=some g∧(P.globals[g]?).map (·.type)=some t∧w.var? P n=some cs∧DataW.trod (λ_=>()) P w 0 (λ_=>true) false A t cs.toList=some (d,p)
 | [],_,_,n,d,hm=>absurd hm (by simp)
 |(n',d')::r,_,h,n,d,hm=>by
  obtain⟨g,t,cs,A,p,q,h1,G,D,H,I,_⟩:=h;rcases List.mem_cons.1 hm with e|e
  ·cases e;exact⟨g,t,cs,A,p,h1,G,D,H⟩
  ·exact FG I e
theorem zD.at {P:Program}{L:List (String×DataW Unit)}{h:af}(H:zD P L h)(G:(L.all λx=>x.2.handleName?.isNone)=true){n:String}{d:DataW Unit}(D:(n,d)∈L)(w:World)(I:w.heap=h):
  ∃g t cs A p,P.globalNamed n=some g∧(P.globals[g]?).map (·.type)=some t∧w.var? P n=some cs∧DataW.trod (λ_=>()) P w 0 (λ_=>true) false A t cs.toList=some (d,p):=by
 have:=H w I;rw[MakeChecks.laidMetH_plain _ _ _ G]at this;obtain⟨U,F,_⟩:=this;exact FG F D
def Xm (P:Program)(n:String)(g:Nat)(k:Program→TypeId→Bool):Bool:=
 decide (P.globalNamed n=some g)&&(match(P.globals[g]?).map (·.type)with|some t=>k P t|none=>false)
def Rz (k:IntKind)(P:Program)(t:TypeId):Bool:=match P.underlying t with|some (.int k')=>decide (k=k')&&P.cellsOf t==1|_=>false
def IZ (P:Program)(t:TypeId):Bool:=match P.underlying t with|some .string=>P.cellsOf t==1|_=>false
def M6 (e:Program→TypeId→Bool)(P:Program)(t:TypeId):Bool:=match P.underlying t with|some (.slice u)=>e P u|_=>false
def Uj (n:Nat)(e:Program→TypeId→Bool)(P:Program)(t:TypeId):Bool:=match P.underlying t with|some (.array n' u)=>n==n'&&P.cellsOf t==n*P.cellsOf u&&e P u|_=>false
def Qv (a b:Program→TypeId→Bool)(P:Program)(t:TypeId):Bool:=match P.underlying t with|some (.struct ⟨[x,y]⟩)=>x.offset==0&&y.offset==1&&a P x.type&&b P y.type&&P.cellsOf t==2|_=>false
theorem zD.kind {P:Program}{L:List (String×DataW Unit)}{h:af}(H:zD P L h)(hn:(L.all λx=>x.2.handleName?.isNone)=true){n:String}{d:DataW Unit}(hm:(n,d)∈L)(w:World)(I:w.heap=h)
  {g:Nat} {k:Program→TypeId→Bool} (D:Xm P n g k=true):
  ∃t cs A p,P.globalNamed n=some g∧k P t=true∧w.var? P n=some cs∧(∀i,aB h ⟨g,i,none⟩=cs[i]?)∧DataW.trod (λ_=>()) P w 0 (λ_=>true) false A t cs.toList=some (d,p):=by
 obtain⟨U,t,cs,A,p,h1,h2,F,h4⟩:=H.at hn hm w I;unfold Xm at D;rw[Bool.and_eq_true,decide_eq_true_eq]at D;obtain⟨W,G⟩:=D;obtain rfl:U=g:=Option.some.inj (h1.symm.trans W);rw[h2]at G;refine⟨t,cs,A,p,h1,G,F,λi=>?_,h4⟩;subst I;exact World.var?_cell h1 F i
theorem Sa {k:IntKind}{P:Program}{w:World}{D:Nat}{t:TypeId}{cs:List Value}{z:Int}{p:List MemPlace}(A:Rz k P t=true)(h:DataW.trod (λ_=>()) P w 0 (λ_=>true) false D t cs=some (.lit (.int k z),p)):cs=[.int k z]∧P.cellsOf t=1:=by
 unfold Rz at A;split at A
 ·rename_i k' hu;rw[Bool.and_eq_true,decide_eq_true_eq]at A;obtain⟨rfl,hc⟩:=A;obtain⟨n,rfl,F,_⟩:=DataW.trod_int hu h;cases F;exact⟨rfl,by simpa using hc⟩
 ·cases A
theorem K3 {P:Program}{w:World}{A:Nat}{t:TypeId}{cs:List Value}{z:List UInt8}{p:List MemPlace}(D:IZ P t=true)(h:DataW.trod (λ_=>()) P w 0 (λ_=>true) false A t cs=some (.lit (.string z),p)):cs=[.string ⟨⟨z⟩⟩]∧P.cellsOf t=1:=by
 unfold IZ at D;split at D
 ·rename_i hu;obtain⟨s,rfl,F,_⟩:=DataW.trod_string hu h;cases F;exact⟨rfl,by simpa using D⟩
 ·cases D
theorem Bo {cs:List Value}{i:Nat}{v:Value}(h:(cs.drop i).take 1=[v]):cs[i]? =some v:=by
 have:=congrArg (λl=>l[0]?) h;simpa using this
theorem R9 {P:Program}{w:World}{h:af}(hw:w.heap=h){G:Nat}{t:TypeId}{cs:List Value}{zs:List (List UInt8)}{p:List MemPlace}(hz:zs≠[])(F:M6 IZ P t=true)
  (H:DataW.trod (λ_=>()) P w 0 (λ_=>true) false G t cs=some (.slice (zs.map λz=>.lit (.string z)) [],p)):
  ∃b o cap,cs=[.slice (some ⟨b,o,none⟩) zs.length cap]∧∀i (hi:i<zs.length),aB h ⟨b,o+i,none⟩=some (.string ⟨⟨zs[i]⟩⟩):=by
 unfold M6 at F;split at F
 ·rename_i u hu;have c1:P.cellsOf u=1:=by
   unfold IZ at F;split at F
   ·simpa using F
   ·cases F
  rcases DataW.trod_slice hu H with⟨_,he⟩|⟨a,len,cap,A,rest,m,rfl,rfl,he,_,_,_,al,I,_⟩
  ·cases he
  ·have L:A.map (·.1)=zs.map λz=>DataW.lit (.string z):=by
    have:=congrArg (λx=>x.1) he;simp only[DataW.slice.injEq]at this;exact this.1.symm
   have hl:A.length=zs.length:=by simpa using congrArg List.length L
   have aa:len=zs.length:=by omega
   subst aa;have ha:∃b o,a=⟨b,o,none⟩:=by
    have h0:0<zs.length:=List.length_pos_iff.2 hz;have:=I 0 h0;rw[List.getElem?_eq_getElem (by omega)]at this;cases hc:w.cells? 0 (a.add (0*P.cellsOf u)) (P.cellsOf u)with
    |none=>rw[hc]at this;cases this
    | some l=>
     obtain⟨b,o,s⟩:=a;cases s with
     |none=>exact⟨b,o,rfl⟩
     |some x=>
      exfalso;obtain⟨h3,D⟩:=Ci hc;rw[c1]at h3;have D:=D 0 (by omega);unfold aB at D;split at D
      ·rw[if_pos (by unfold Addr.add;split<;>simp_all)]at D;cases D
      ·cases D
   obtain⟨b,o,rfl⟩:=ha;refine⟨b,o,cap,rfl,λi hi=>?_⟩;have h1:=I i hi;have ab:A[i]? =some (A[i]'(by omega)):=List.getElem?_eq_getElem (by omega);rw[ab,c1,Nat.mul_one]at h1;have D:(A[i]'(by omega)).1=.lit (.string zs[i]):=by
    have:=congrArg (λl=>l[i]?) L;simpa[hi,hl]using this
   obtain⟨x,y,W⟩:∃x y,A[i]'(by omega)=(x,y):=⟨_,_,rfl⟩
   rw[W]at h1 D;simp only at D;rw[D,Option.bind_eq_some_iff]at h1;obtain⟨l,ad,U⟩:=h1;have h3:=(K3 F U).1;subst h3;have h4:=(Ci ad).2 0 (by simp);rw[D7,D7,hw]at h4;simpa using h4
 ·cases F
theorem PJ {k:IntKind}{P:Program}{w:World}{I:Nat}{t:TypeId}{cs:List Value}{zs:List (List UInt8×Int)}{p:List MemPlace}(H:Uj zs.length (Qv IZ (Rz k)) P t=true)
  (h:DataW.trod (λ_=>()) P w 0 (λ_=>true) false I t cs=some (.agg (zs.map λz=>.agg [.lit (.string z.1),.lit (.int k z.2)]),p)):
  ∀i (hi:i<zs.length),cs[2*i]? =some (.string ⟨⟨zs[i].1⟩⟩)∧cs[2*i+1]? =some (.int k zs[i].2):=by
 unfold Uj at H;split at H
 ·rename_i n u hu;rw[Bool.and_eq_true,Bool.and_eq_true]at H;obtain⟨⟨hn,hc⟩,hi⟩:=H;obtain⟨U,m,rfl,he,hl,hx,W⟩:=DataW.trod_array hu h;have hn:zs.length=n:=by simpa using hn
  subst hn;unfold Qv at hi;split at hi
  ·rename_i f1 f2 hs;simp only[Bool.and_eq_true,beq_iff_eq]at hi;obtain⟨⟨⟨⟨o1,o2⟩,t1⟩,t2⟩,c2⟩:=hi;have al:U.map (·.1)=zs.map λz=>DataW.agg [.lit (.string z.1),.lit (.int k z.2)]:=by
    have:=congrArg (λx=>x.1) he;simpa using this.symm
   intro i L;have h1:=W i L;have aa:U[i]? =some (U[i]'(by omega)):=List.getElem?_eq_getElem (by omega);rw[aa,c2]at h1;have h2:(U[i]'(by omega)).1=.agg [.lit (.string zs[i].1),.lit (.int k zs[i].2)]:=by
    have:=congrArg (λl=>l[i]?) al;simpa[L,hx]using this
   obtain⟨a,b,ad⟩:∃a b,U[i]'(by omega)=(a,b):=⟨_,_,rfl⟩
   rw[ad]at h1 h2;simp only at h2;rw[h2]at h1;obtain⟨ys,m',rfl,A,an,hy,D⟩:=DataW.trod_struct hs h1;have ab:ys.length=2:=hy
   match ys,ab,A,D with
   | [y1,y2],_,A,D=>
    have A:=congrArg (λx=>x.1) A;simp only[List.map_cons,List.map_nil,DataW.agg.injEq,List.cons.injEq,and_true]at A;have a1:=D 0 f1 rfl;have a2:=D 1 f2 rfl;rw[o1]at a1;rw[o2]at a2;obtain⟨a,b⟩:=y1;obtain⟨a',b'⟩:=y2;simp only at A;obtain⟨rfl,rfl⟩:=A;have F:=K3 t1 a1;have G:=Sa t2 a2;rw[F.2]at F;rw[G.2]at G;have F:=Bo F.1;have G:=Bo G.1;rw[List.getElem?_take_of_lt (by omega),List.getElem?_drop]at F G;refine⟨?_,?_⟩
    ·rw[Nat.mul_comm];simpa using F
    ·rw[Nat.mul_comm];simpa using G
  ·cases hi
 ·cases H
end Go.Crisp
namespace Go.Proofs.YtjljhnandbbldaaGreatDoor
open Go Go.Crisp
open _root_.Go.Proofs.Tryz
theorem Uo {L:List (String×DataW Unit)}{h:af}(H:zD prog L h)(hn:(L.all λx=>x.2.handleName?.isNone)=true)
  (m1:("smalto/border.names",Rows.laid_smalto_border_names)∈L) (m2:("smalto/raw.kinds",Rows.laid_smalto_raw_kinds)∈L):dr h:=by
 let w:World:=⟨h,λ_ _=>0,0,default,#[]⟩
 refine⟨?_,?_⟩
 ·obtain⟨t,cs,fuel,p,_,hk,_,hc,ht⟩:=H.kind hn m1 w rfl (g:=ma) (k:=M6 IZ) (by kernel_rfl);obtain⟨b,o,cap,he,hx⟩:=R9 (h:=h) rfl (zs:=[[99,108,97,109,112],[109,105,114,114,111,114],[119,114,97,112]]) (by simp) hk ht;have h0:=hc 0;obtain⟨l⟩:=cs;rw[show l=_ from he]at h0;refine⟨_,h0,by simp,some ⟨b,o,none⟩,cap,rfl,.inr ⟨b,o,rfl,λj hj=>?_⟩⟩;have:=hx j hj;rw[this]
  match j,hj with
  |0,_=>rfl
  |1,_=>rfl
  |2,_=>rfl
 ·obtain⟨t,cs,fuel,p,_,hk,_,hc,ht⟩:=H.kind hn m2 w rfl (g:=dZ) (k:=Uj 3 (Qv IZ (Rz .i64))) (by kernel_rfl);have:=PJ (zs:=[([98,111,120],0),([99,117,98,105,99],2),([108,97,110,99,122,111,115],3)]) hk ht;intro i hi;have h1:=this i hi;rw[hc,hc];rw[Array.getElem?_toList,Array.getElem?_toList]at h1;rw[h1.1,h1.2]
  match i,hi with
  |0,_=>exact⟨rfl,rfl⟩
  |1,_=>exact⟨rfl,rfl⟩
  |2,_=>exact⟨rfl,rfl⟩
end Go.Proofs.YtjljhnandbbldaaGreatDoor
namespace Go.Crisp
open Go
theorem iN (n:Int):I64 (IntKind.i64.wrap n):=by rw[gF];unfold I64;omega
theorem ry (a b:Int):IntKind.i64.wrap (IntKind.i64.wrap a+b)=IntKind.i64.wrap (a+b):=by rw[gF,gF,gF];omega
theorem nr (a b:Int):IntKind.i64.wrap (a+IntKind.i64.wrap b)=IntKind.i64.wrap (a+b):=by rw[gF,gF,gF];omega
theorem vO (a b:Int):IntKind.i64.wrap (IntKind.i64.wrap a-b)=IntKind.i64.wrap (a-b):=by rw[gF,gF,gF];omega
theorem Bs (a b:Int):IntKind.i64.wrap (a-IntKind.i64.wrap b)=IntKind.i64.wrap (a-b):=by rw[gF,gF,gF];omega
def lH (x n:Int):Int:=if n≤0 then x else if 64≤n then 0 else x/2^n.toNat+x/2^(n.toNat-1)%2
theorem V6 {x:Int}{k:Nat}(D:I64 x): -9223372036854775808≤x/2^k∧x/2^k≤9223372036854775807:=by
 obtain⟨F,G⟩:=D;have A:(0:Int)<2^k:=Int.pow_pos (by omega);constructor
 ·rw[Int.le_ediv_iff_mul_le A];have: -9223372036854775808*(2:Int)^k≤ -9223372036854775808*1:=Int.mul_le_mul_of_nonpos_left (by omega) (by omega);omega
 ·apply Int.le_of_lt_add_one;rw[Int.ediv_lt_iff_lt_mul A];have:(9223372036854775807+1)*1≤(9223372036854775807+1)*(2:Int)^k:=Int.mul_le_mul_of_nonneg_left (by omega) (by omega);omega
theorem Bv {x n:Int}(A:I64 x):I64 (lH x n):=by
 unfold lH;split
 ·exact A
 split
 ·unfold I64;omega
 ·have F:(2:Int)^n.toNat=2^(n.toNat-1)*2:=by
   obtain⟨j,D⟩:∃j,n.toNat=j+1:=⟨n.toNat-1,by omega⟩
   rw[D,Nat.add_sub_cancel,Int.pow_succ]
  have H:(0:Int)<2^(n.toNat-1):=Int.pow_pos (by omega);have G:x/2^n.toNat=x/2^(n.toNat-1)/2:=by rw[F,Int.ediv_ediv,if_neg (by omega),Int.sub_zero]
  have:=V6 (k:=n.toNat-1) A;unfold I64;rw[G];omega
def dW (r:Int):Nat→Int×Int
 |0=>(1099511627776,1099511627776)
 | i+1=>(IntKind.i64.wrap (if i%2=0 then(dW r i).1-cg (dW r i).2 r (((i:Int)+1)*1099511627776)else(dW r i).1+cg (dW r i).2 r (((i:Int)+1)*1099511627776)),
   cg (dW r i).2 r (((i:Int)+1)*1099511627776))
def SP (t:Int):Int:=lH (dW (max 0 t%762123384786) 16).1 (max 0 t/762123384786)
def BA (d sigma:Int):Int:=if sigma<1∨4194304<sigma∨d< -16384∨16384<d then 9223372036854775807 else cg (d*d*2147483648) 1099511627776 (sigma*sigma)
def y8 (d sigma:Int):Int:=lH (SP (BA d sigma)) 10
theorem eW (a b d:Int):I64 (cg a b d):=by
 unfold cg;split
 ·unfold I64;omega
 ·exact LA _ _
theorem zg (r:Int):∀i,I64 (dW r i).1∧I64 (dW r i).2
 |0=>⟨by unfold I64 dW;omega,by unfold I64 dW;omega⟩
 |i+1=>by simp only[dW];exact⟨iN _,eW _ _ _⟩
theorem Jj (t:Int):I64 (SP t):=Bv (zg _ _).1
theorem Hm (d s:Int):I64 (BA d s):=by
 unfold BA;split
 ·unfold I64;omega
 ·exact eW _ _ _
theorem Qy (d s:Int):I64 (y8 d s):=Bv (Jj _)
theorem K6 {d B:Int}(h1: -B≤d)(A:d≤B):0≤d*d∧d*d≤B*B:=by
 refine⟨by rcases Int.le_total 0 d with h|h;exact Int.mul_nonneg h h;exact Int.mul_nonneg_of_nonpos_of_nonpos h h,?_⟩;rcases Int.le_total 0 d with h|h
 ·exact Int.mul_le_mul A A h (by omega)
 ·have: -d* -d≤B*B:=Int.mul_le_mul (by omega) (by omega) (by omega) (by omega)
  rwa [Int.neg_mul_neg]at this
def Gr (p q:Int):Prop:=1≤q∧q≤1048576∧ -4*q≤p∧p≤4*q
instance (p q:Int):Decidable (Gr p q):=by unfold Gr;infer_instance
def bS (u:Int):Nat→Int×Int
 |0=>(1099511627776,1099511627776)
 | i+1=>(IntKind.i64.wrap (if i%2=0 then(bS u i).1-cg (bS u i).2 u (2*((i:Int)+1)*(2*((i:Int)+1)+1)*1099511627776)else(bS u i).1+cg (bS u i).2 u (2*((i:Int)+1)*(2*((i:Int)+1)+1)*1099511627776)),
   cg (bS u i).2 u (2*((i:Int)+1)*(2*((i:Int)+1)+1)*1099511627776))
def vX (p q:Int):Int:=(bS (cg (cg 10851744800547 (max p (-p)) q) (max p (-p)) q) 30).1
theorem vW (r:Int):∀i,I64 (bS r i).1∧I64 (bS r i).2
 |0=>⟨by unfold I64 bS;omega,by unfold I64 bS;omega⟩
 |i+1=>by simp only[bS];exact⟨iN _,eW _ _ _⟩
theorem tS (p q:Int):I64 (vX p q):=(vW _ _).1
def GS (m n:Nat)(below:Bool):Nat:=if n=0 then m else m/2^n+(if m/2^(n-1)%2=1∧¬(below=true∧m%2^(n-1)=0)then 1 else 0)
def nG (a b n:Int):Int:=if 128≤n then 0 else iB (GS (a.natAbs*b.natAbs) n.toNat (jl a b)) (jl a b)
theorem uw (a b n:Int):I64 (nG a b n):=by
 unfold nG;split
 ·unfold I64;omega
 ·exact LA _ _
def sr (p q:Int):Int:=if¬Gr p q∨3*q≤max p (-p)then 0 else lH (nG (vX p q) (vX p (3*q)) 40) 10
theorem M5 (p q:Int):I64 (sr p q):=by
 unfold sr;split
 ·unfold I64;omega
 ·exact Bv (uw _ _ _)
def gD (b w:Bool)(v:Value):Value:=bif b==w then v else undef
theorem gD_tt (v:Value):gD true true v=v:=Eq.trans rfl rfl
theorem gD_ff (v:Value):gD false false v=v:=Eq.trans rfl rfl
theorem gD_tf (v:Value):gD true false v=undef:=Eq.trans rfl rfl
theorem gD_ft (v:Value):gD false true v=undef:=Eq.trans rfl rfl
theorem gD_gD (b w:Bool)(v:Value):gD b w (gD b w v)=gD b w v:=by cases b<;>cases w<;>rfl
theorem gV_gD (b w:Bool)(v:Value):gV (.bool b) w (some v)=some (gD b w v):=by cases b<;>cases w<;>rfl
theorem gV_un (b w:Bool)(o:UnOp)(v:Value):gV (.bool b) w (unV o (gD b w v))=gV (.bool b) w (unV o v):=by cases b<;>cases w<;>rfl
theorem Wl (b w:Bool)(e:EK)(o:BinOp)(v u:Value):gV (.bool b) w (ag e o (gD b w v) u)=gV (.bool b) w (ag e o v u):=by cases b<;>cases w<;>rfl
theorem Wj (b w:Bool)(e:EK)(o:BinOp)(v u:Value):gV (.bool b) w (ag e o u (gD b w v))=gV (.bool b) w (ag e o u v):=by cases b<;>cases w<;>rfl
theorem XW (b w:Bool)(k:IntKind)(v:Value):gV (.bool b) w (eS k (gD b w v))=gV (.bool b) w (eS k v):=by cases b<;>cases w<;>rfl
theorem XU (b w:Bool)(n:Nat)(v:Value):gV (.bool b) w (am n (gD b w v))=gV (.bool b) w (am n v):=by cases b<;>cases w<;>rfl
theorem gV_ld (b w:Bool)(h:af)(v:Value):gV (.bool b) w (ldV h (gD b w v))=gV (.bool b) w (ldV h v):=by cases b<;>cases w<;>rfl
theorem XT (b w:Bool)(n:Nat)(h:af)(v:Value):gV (.bool b) w (aH n h (gD b w v))=gV (.bool b) w (aH n h v):=by cases b<;>cases w<;>rfl
theorem Wi (b w:Bool)(n:Nat)(v u:Value):gV (.bool b) w (aR n (gD b w v) u)=gV (.bool b) w (aR n v u):=by cases b<;>cases w<;>rfl
theorem Wh (b w:Bool)(n:Nat)(v u:Value):gV (.bool b) w (aR n u (gD b w v))=gV (.bool b) w (aR n u v):=by cases b<;>cases w<;>rfl
theorem Uv (b w:Bool)(v:Value):gV (.bool b) w (aq (gD b w v))=gV (.bool b) w (aq v):=by cases b<;>cases w<;>rfl
theorem Uu (b w:Bool)(v:Value):gV (.bool b) w (EL (gD b w v))=gV (.bool b) w (EL v):=by cases b<;>cases w<;>rfl
theorem XV (b w:Bool)(n:Nat)(v:Value):gV (.bool b) w (aE (gD b w v) n)=gV (.bool b) w (aE v n):=by cases b<;>cases w<;>rfl
theorem XS (b w:Bool)(v:Value):gV (.bool b) w (aK (gD b w v))=gV (.bool b) w (aK v):=by cases b<;>cases w<;>rfl
theorem Wg (b w:Bool)(v u:Value):gV (.bool b) w (ia (gD b w v) u)=gV (.bool b) w (ia v u):=by cases b<;>cases w<;>rfl
theorem We (b w:Bool)(v u:Value):gV (.bool b) w (ia u (gD b w v))=gV (.bool b) w (ia u v):=by cases b<;>cases w<;>rfl
theorem Wd (b w:Bool)(v u:Value):gV (.bool b) w (pF (gD b w v) u)=gV (.bool b) w (pF v u):=by cases b<;>cases w<;>rfl
theorem Wc (b w:Bool)(v u:Value):gV (.bool b) w (pF u (gD b w v))=gV (.bool b) w (pF u v):=by cases b<;>cases w<;>rfl
theorem Wb (b w a:Bool)(n o:Nat)(v:Value):gV (.bool b) w (mZ a n o (gD b w v))=gV (.bool b) w (mZ a n o v):=by cases b<;>cases w<;>rfl
theorem Ur (b w:Bool)(v u x:Value):gV (.bool b) w (az (gD b w v) u x)=gV (.bool b) w (az v u x):=by cases b<;>cases w<;>rfl
theorem Uq (b w:Bool)(v u x:Value):gV (.bool b) w (az v (gD b w u) x)=gV (.bool b) w (az v u x):=by cases b<;>cases w<;>rfl
theorem Up (b w:Bool)(v u x:Value):gV (.bool b) w (az v u (gD b w x))=gV (.bool b) w (az v u x):=by cases b<;>cases w<;>rfl
theorem T0 (b c:Bool):az (.bool b) (gD b true (.bool c)) (.bool false)=some (.bool (b&&c)):=by cases b<;>rfl
theorem VT (b c:Bool):az (.bool b) (.bool true) (gD b false (.bool c))=some (.bool (b||c)):=by cases b<;>rfl
theorem Uw (b w c A:Bool)(r:Option Value):gV (gD b w (.bool c)) A r=gV (.bool ((b==w)&&(c==A))) true r:=by cases b<;>cases w<;>cases c<;>cases A<;>rfl
theorem Ux (b w c A:Bool)(m:(Value→af→Prop)→Prop)(h:af)(K:Value→af→Prop):gK (gD b w (.bool c)) A m h K=gK (.bool ((b==w)&&(c==A))) true m h K:=by cases b<;>cases w<;>cases c<;>cases A<;>rfl
theorem ON (b c d:Bool):gV (.bool b) true (az (.bool c) (gD (b&&c) true (.bool d)) (.bool false))=some (gD b true (.bool (c&&d))):=by cases b<;>cases c<;>rfl
theorem OP (b c d:Bool):gV (.bool b) false (az (.bool c) (gD (!b&&c) true (.bool d)) (.bool false))=some (gD b false (.bool (c&&d))):=by cases b<;>cases c<;>rfl
theorem RE (b c d:Bool):gV (.bool b) true (az (.bool c) (.bool true) (gD (b&& !c) true (.bool d)))=some (gD b true (.bool (c||d))):=by cases b<;>cases c<;>rfl
theorem RF (b c d:Bool):gV (.bool b) false (az (.bool c) (.bool true) (gD (!b&& !c) true (.bool d)))=some (gD b false (.bool (c||d))):=by cases b<;>cases c<;>rfl
theorem SL (p q:Prop)[Decidable p][Decidable q](d:Bool):gV (.bool (decide p)) true (az (.bool (decide q)) (gD (decide (p∧q)) true (.bool d)) (.bool false))=some (gD (decide p) true (.bool (decide q&&d))):=by rw[Bool.decide_and];exact ON _ _ _
theorem SM (p q:Prop)[Decidable p][Decidable q](d:Bool):gV (.bool (decide p)) false (az (.bool (decide q)) (gD (decide (¬p∧q)) true (.bool d)) (.bool false))=some (gD (decide p) false (.bool (decide q&&d))):=by rw[Bool.decide_and,decide_not];exact OP _ _ _
theorem Us (p q:Prop)[Decidable p][Decidable q](d:Bool):gV (.bool (decide p)) true (az (.bool (decide q)) (.bool true) (gD (decide (p∧¬q)) true (.bool d)))=some (gD (decide p) true (.bool (decide q||d))):=by rw[Bool.decide_and,decide_not];exact RE _ _ _
theorem Ut (p q:Prop)[Decidable p][Decidable q](d:Bool):gV (.bool (decide p)) false (az (.bool (decide q)) (.bool true) (gD (decide (¬p∧¬q)) true (.bool d)))=some (gD (decide p) false (.bool (decide q||d))):=by rw[Bool.decide_and,decide_not,decide_not];exact RF _ _ _
theorem beq_t (b:Bool):(b==true)=b:=by cases b<;>rfl
theorem beq_f (b:Bool):(b==false)= !b:=by cases b<;>rfl
theorem Wu (p q:Prop)[Decidable p][Decidable q]:(decide p&&decide q)=decide (p∧q):=(Bool.decide_and p q).symm
theorem X7 (p q:Prop)[Decidable p][Decidable q]:(decide p||decide q)=decide (p∨q):=(Bool.decide_or p q).symm
theorem RK (p:Prop)[Decidable p]:(!decide p)=decide (¬p):=decide_not.symm
theorem X6 (p:Prop)[Decidable p]:decide (True∧p)=decide p:=by by_cases h:p<;>simp[h]
theorem X9 (p:Prop)[Decidable p]:decide (p∧True)=decide p:=by by_cases h:p<;>simp[h]
theorem X8 (p:Prop)[Decidable p]:decide (False∧p)=false:=by simp
theorem Ya (p:Prop)[Decidable p]:decide (p∧False)=false:=by simp
theorem gK_f {b:Bool}{m:(Value→af→Prop)→Prop}{h:af}{K:Value→af→Prop}(h1:b=false→m K)(A:b=true→K undef h):gK (.bool b) false m h K:=by
 cases b
 ·exact h1 rfl
 ·exact A rfl
theorem jN {init:List Value}{h:af}{body:List Value→Env→af→(List Value→af→Prop)→Prop}(st:Nat→List Value)(N A:Nat)(hi:init=st A)(h0:A≤N)
  (step:∀i again ρj,A≤i→i≤N→(i<N→again (st (i+1)) h)→body (st i) ρj h again):aU init h body:=by
 refine cO (λd D h'=>∃i,d=N-i∧A≤i∧i≤N∧D=st i∧h'=h) (N-A) ⟨A,rfl,Nat.le_refl _,h0,hi,rfl⟩ ?_;rintro d D ρj h' again ⟨i,rfl,h1,G,rfl,rfl⟩ H;exact step i again ρj h1 G λF=>H _ _ (N-(i+1)) (by omega) ⟨i+1,rfl,by omega,F,rfl,rfl⟩
theorem bA {α:Type}{init:List Value}{h:af}{body:List Value→Env→af→(List Value→af→Prop)→Prop}(N A:Nat)(st:Nat→α→List Value)(I:Nat→α→af→Prop)(a0:α)(hi:init=st A a0)(h0:A≤N)(W:I A a0 h)
  (step:∀i a h again ρj,A≤i→i≤N→I i a h→(∀D h',i<N→I (i+1) D h'→again (st (i+1) D) h')→body (st i a) ρj h again):aU init h body:=by
 refine cO (λd G h'=>∃i a,d=N-i∧A≤i∧i≤N∧G=st i a∧I i a h') (N-A) ⟨A,a0,rfl,Nat.le_refl _,h0,hi,W⟩ ?_;rintro d G ρj h' again ⟨i,a,rfl,h1,U,rfl,hi⟩ H;exact step i a h' again ρj h1 U hi λD h' L F=>H _ _ (N-(i+1)) (by omega) ⟨i+1,D,rfl,by omega,L,rfl,F⟩
attribute [go_sem] gD_gD gD_tt gD_ff gD_tf gD_ft gV_gD gV_un Wl Wj XW XU gV_ld XT Wi Wh Uv Uu XV XS Wg We Wd Wc Wb Ur Uq Up true_or or_true false_or or_false X6 X9 X8 Ya T0 VT Uw Ux ON OP RE RF SL SM Us Ut beq_t beq_f Wu X7 RK
attribute [irreducible] gD
end Go.Crisp
namespace Go.Proofs.YtjljhnandbbldaaGreatDoor
open Go Go.Crisp
attribute [local irreducible] ae cE aP stK aA vK qK bC gK dK aU mkK cF Ch DH zZ bsK
open _root_.Go.Proofs.Tryz
theorem lk {h:af}{x:Int}(A:I64 x):ae prog gE #[.int .i64 x] h λr h'=>r=.int .u64 (x.natAbs:Int)∧h'=h:=by
 apply KK;unfold A8;simp only[go_sem];refine aj (λh0=>?_) (λh0=>?_)
 ·rw[NH A h0];exact⟨rfl,trivial⟩
 ·rw[NG A h0];exact⟨rfl,trivial⟩
theorem pN {h:af}{m:Nat}{b:Bool}(A:m<18446744073709551616):ae prog jT #[.int .u64 (m:Int),.bool b] h λr h'=>r=.int .i64 (iB m b)∧h'=h:=by
 apply KL;unfold A9;unfold iB;cases b
 ·simp only[go_sem,Bool.false_eq_true,if_false];refine aj (λh0=>?_) (λh0=>?_)
  ·rw[if_pos (by omega)];exact⟨rfl,trivial⟩
  ·rw[if_neg (by omega),w64 (by omega) (by omega)];exact⟨rfl,trivial⟩
 ·simp only[go_sem,if_true];refine aj (λh0=>?_) (λh0=>?_)
  ·rw[if_pos (by omega)];exact⟨rfl,trivial⟩
  ·rw[if_neg (by omega),w64 (n:=(m:Int)) (by omega) (by omega),w64 (by omega) (by omega)];exact⟨by congr 1;omega,trivial⟩
theorem Gw {a b:Nat}(D:0<b)(A:a<18446744073709551616):ag .i .quo (.int .u64 (a:Int)) (.int .u64 (b:Int))=some (.int .u64 ((a/b:Nat):Int)):=by
 have e:(a:Int).tdiv (b:Int)=((a/b:Nat):Int):=(Int.ofNat_tdiv a b).symm;rw[kq _ _ _ _ (by omega),e,eO (Nat.lt_of_le_of_lt (Nat.div_le_self _ _) A)]
theorem Rq {a b:Nat}(A:0<b):ag .i .rem (.int .u64 (a:Int)) (.int .u64 (b:Int))=some (.int .u64 ((a%b:Nat):Int)):=by
 have e:(a:Int).tmod (b:Int)=((a%b:Nat):Int):=(Int.ofNat_tmod a b).symm;rw[dc _ _ _ _ (by omega),e]
theorem hG {x:Int}(h:I64 x):x.natAbs<18446744073709551616:=by unfold I64 at h;omega
theorem nF {x:Int}(h:I64 x):x.natAbs≤9223372036854775808:=by unfold I64 at h;omega
theorem GC {h:af}{a b:Int}(F:I64 a)(H:I64 b):ae prog iY #[.int .i64 a,.int .i64 b] h λr h'=>r=.int .i64 (EQ a b)∧h'=h:=by
 apply Ir;unfold yv;simp only[go_sem];unfold EQ;refine aj (λh0=>?_) (λh0=>?_)
 ·rw[if_pos h0];exact⟨rfl,trivial⟩
 rw[if_neg h0];refine aI (λh'=>h'=h) rfl ?_;refine(lk F).mono λv1 h1 ⟨e1,w1⟩=>?_
 subst e1 w1
 try refine⟨rfl,?_⟩
 refine(lk H).mono λv2 h2 ⟨L,w2⟩=>?_
 subst L w2
 try refine⟨rfl,?_⟩
 have D:0<b.natAbs:=by omega
 have I:=nF F;rw[Gw D (hG F),ah];refine(lk F).mono λv3 h3 ⟨W,w3⟩=>?_
 subst W w3
 try refine⟨rfl,?_⟩
 refine(lk H).mono λv4 h4 ⟨U,w4⟩=>?_
 subst U w4
 try refine⟨rfl,?_⟩
 rw[Rq D,ah];simp only[go_sem];have hq:a.natAbs/b.natAbs≤a.natAbs:=Nat.div_le_self _ _;by_cases hd:jl a b=true
 ·have A:(!(decide (a<0)==decide (b<0)))=true:=hd;rw[A];simp only[go_sem];by_cases G:a.natAbs%b.natAbs=0
  ·have q:(((a.natAbs%b.natAbs:Nat):Int)=0)=True:=eq_true (by omega);simp only[go_sem,q];rw[hd];unfold Cf;rw[if_neg (by simp[G])];exact pN (by omega)
  ·have q:(((a.natAbs%b.natAbs:Nat):Int)=0)=False:=eq_false (by omega);simp only[go_sem,q];rw[hd,show((a.natAbs/b.natAbs:Nat):Int)+1=((a.natAbs/b.natAbs+1:Nat):Int)from rfl,eO (m:=a.natAbs/b.natAbs+1) (by omega)];unfold Cf;rw[if_pos ⟨rfl,G⟩];exact pN (m:=a.natAbs/b.natAbs+1) (by omega)
 ·have hd:jl a b=false:=by simpa using hd
  have A:(!(decide (a<0)==decide (b<0)))=false:=hd;rw[A];simp only[go_sem];rw[hd];unfold Cf;rw[if_neg (by simp)];exact pN (by omega)
theorem Xh (a:Int):ag .i .and (.int .i64 a) (.int .i64 1)=some (.int .i64 (a%2)):=by
 have e:(BitVec.ofInt 64 a&&& BitVec.ofInt 64 1).toNat=(a%2).toNat:=by
  rw[BitVec.toNat_and,BitVec.toNat_ofInt,BitVec.toNat_ofInt];have h1:(1%((2^64:Nat):Int)).toNat=1:=by decide
  rw[h1,Nat.and_one_is_mod];omega
 show some (Value.int .i64 (IntKind.i64.wrap (((BitVec.ofInt 64 a&&& BitVec.ofInt 64 1).toNat:Nat):Int)))=_;rw[e,w64 (by omega) (by omega)]
 congr 2;omega
theorem Rl (x:Int)(n:Nat)(A:n≤64):ag .i .shr (.int .i64 x) (.int .i64 (n:Int))=some (.int .i64 (x/2^n)):=by
 show(if(n:Int)<0 then none else some (Value.int .i64 (x.fdiv (2^(min (n:Int).toNat 64)))))=_;rw[if_neg (by omega),Int.toNat_natCast,Nat.min_eq_left A,Int.fdiv_eq_ediv_of_nonneg _ (Int.le_of_lt (Int.pow_pos (by omega)))]
theorem GB {h:af}{x n:Int}(F:I64 x)(H:I64 n):ae prog iX #[.int .i64 x,.int .i64 n] h λr h'=>r=.int .i64 (lH x n)∧h'=h:=by
 apply Iq;unfold yu;simp only[go_sem];unfold lH;refine aj (λh0=>?_) (λh0=>?_)
 ·rw[if_pos h0];exact⟨rfl,trivial⟩
 rw[if_neg h0];refine aj (λh1=>?_) (λh1=>?_)
 ·rw[if_pos h1];exact⟨rfl,trivial⟩
 rw[if_neg h1];obtain⟨k,rfl⟩:∃k:Nat,n=(k:Int):=⟨n.toNat,by omega⟩
 rw[w64 (n:=(k:Int)-1) (by omega) (by omega),show(k:Int)-1=((k-1:Nat):Int)by omega,Rl x k (by omega),ah,Rl x (k-1) (by omega),ah,Xh,ah];simp only[go_sem,Int.toNat_natCast];refine⟨?_,trivial⟩
 congr 1
 have D:(2:Int)^k=2*2^(k-1):=by
  obtain⟨j,rfl⟩:∃j,k=j+1:=⟨k-1,by omega⟩
  rw[Nat.add_sub_cancel,Int.pow_succ,Int.mul_comm]
 have A:(0:Int)<2^(k-1):=Int.pow_pos (by omega);have U:x/2^k=x/2^(k-1)/2:=by rw[D,Int.mul_comm,Int.ediv_ediv,if_neg (by omega),Int.sub_zero]
 obtain⟨I,L⟩:=F;have G: -9223372036854775808≤x/2^(k-1)∧x/2^(k-1)≤9223372036854775807:=by
  constructor
  ·rw[Int.le_ediv_iff_mul_le A];have: -9223372036854775808*(2:Int)^(k-1)≤ -9223372036854775808*1:=Int.mul_le_mul_of_nonpos_left (by omega) (by omega);omega
  ·apply Int.le_of_lt_add_one;rw[Int.ediv_lt_iff_lt_mul A];have:(9223372036854775807+1)*1≤(9223372036854775807+1)*(2:Int)^(k-1):=Int.mul_le_mul_of_nonneg_left (by omega) (by omega);omega
 rw[w64 (by omega) (by omega)]
end Go.Proofs.YtjljhnandbbldaaGreatDoor
namespace Go.Proofs.YtjljhnandbbldaaGreatDoor
open Go Go.Crisp
open _root_.Go.Proofs.Tryz
def Kb:Go.Shelf.Ren:=⟨λn=>match n with|264=>287|n=>n,λn=>match n with|46=>260|53=>303|n=>n,λn=>n⟩
theorem SF:Go.Proofs.Lays.n264 prog Kb where
 mixed:=by kernel_rfl
 f264:=by kernel_rfl
 t46:=by kernel_rfl
 a46:=λw=>bR (by kernel_rfl)
 z46:=λw=>aX (by kernel_rfl)
 v46:=λw=>aS (by kernel_rfl)
 t53:=by kernel_rfl
 a53:=λw=>bR (by kernel_rfl)
 z53:=λw=>aX (by kernel_rfl)
 v53:=λw=>aS (by kernel_rfl)
def Kc:Go.Shelf.Ren:=⟨λn=>match n with|129=>199|n=>n,λn=>match n with|3=>3|4=>4|5=>5|9=>9|46=>260|53=>303|n=>n,λn=>n⟩
theorem SG:Go.Proofs.Lays.n129 prog Kc where
 mixed:=by kernel_rfl
 f129:=by kernel_rfl
 t3:=by kernel_rfl
 a3:=λw=>bR (by kernel_rfl)
 z3:=λw=>aX (by kernel_rfl)
 v3:=λw=>aS (by kernel_rfl)
 t4:=by kernel_rfl
 a4:=λw=>bR (by kernel_rfl)
 z4:=λw=>aX (by kernel_rfl)
 v4:=λw=>aS (by kernel_rfl)
 t5:=by kernel_rfl
 a5:=λw=>bR (by kernel_rfl)
 z5:=λw=>aX (by kernel_rfl)
 v5:=λw=>aS (by kernel_rfl)
 t9:=by kernel_rfl
 a9:=λw=>bR (by kernel_rfl)
 z9:=λw=>aX (by kernel_rfl)
 v9:=λw=>aS (by kernel_rfl)
 t46:=by kernel_rfl
 a46:=λw=>bR (by kernel_rfl)
 z46:=λw=>aX (by kernel_rfl)
 v46:=λw=>aS (by kernel_rfl)
 t53:=by kernel_rfl
 a53:=λw=>bR (by kernel_rfl)
 z53:=λw=>aX (by kernel_rfl)
 v53:=λw=>aS (by kernel_rfl)
def Kd:Go.Shelf.Ren:=⟨λn=>match n with|25=>256|n=>n,λn=>match n with|22=>303|n=>n,λn=>n⟩
theorem SH:Go.Proofs.Lays7.n25 prog Kd where
 mixed:=by kernel_rfl
 f25:=by kernel_rfl
 t22:=by kernel_rfl
 a22:=λw=>bR (by kernel_rfl)
 z22:=λw=>aX (by kernel_rfl)
 v22:=λw=>aS (by kernel_rfl)
 i22:=by kernel_rfl
end Go.Proofs.YtjljhnandbbldaaGreatDoor
namespace Go.Proofs.YtjljhnandbbldaaGreatDoor
open Go Go.Crisp
attribute [local irreducible] ae cE aP stK aA vK qK bC gK dK aU mkK cF Ch DH zZ bsK
open _root_.Go.Proofs.Tryz
theorem Cj {h:af}{x:Int}(A:I64 x):ae prog pR #[.int .i64 x] h λr h'=>r=.int .u64 (x.natAbs:Int)∧h'=h:=by
 apply Mr;unfold CG;simp only[go_sem];refine aj (λh0=>?_) (λh0=>?_)
 ·rw[NH A h0];exact⟨rfl,trivial⟩
 ·rw[NG A h0];exact⟨rfl,trivial⟩
section
attribute [local semireducible] ae
theorem Nk {h:af}{x y:Nat}(D:x<18446744073709551616)(F:y<18446744073709551616):
  ae prog jq #[.int .u64 (x:Int),.int .u64 (y:Int)] h λr h'=>r=.tuple #[.int .u64 ((x*y/18446744073709551616:Nat):Int),.int .u64 ((x*y%18446744073709551616:Nat):Int)]∧h'=h:=by
 refine ae.ofCalls (by kernel_rfl) λw A=>?_
 refine(Any.bits_Mul64 SF x y D F w).mono ?_;rintro e w' ⟨rfl,rfl⟩;exact⟨_,rfl,cV.refl _,rfl,A⟩
end
theorem LS {h:af}{a b:Int}(A:I64 a)(D:I64 b):ae prog mg #[.int .i64 a,.int .i64 b] h λr h'=>
  r=.tuple #[.int .u64 ((a.natAbs*b.natAbs/18446744073709551616:Nat):Int),.int .u64 ((a.natAbs*b.natAbs%18446744073709551616:Nat):Int),.bool (jl a b)]∧h'=h:=by
 apply F9;unfold xc;refine(Cj A).mono λv1 h1 ⟨I,w1⟩=>?_
 subst I w1;refine(Cj D).mono λW h2 ⟨F,L⟩=>?_
 subst F;refine(Nk (hG A) (hG D)).mono λU h3 ⟨G,H⟩=>?_
 subst G;simp only[go_sem];exact⟨rfl,H.trans L⟩
section
attribute [local semireducible] ae
theorem RY {h:af}{x y c:Nat}(hc:c≤1):ae prog fj #[.int .u64 (x:Int),.int .u64 (y:Int),.int .u64 (c:Int)] h λr h'=>
  r=.tuple #[.int .u64 (((x+y+c)%18446744073709551616:Nat):Int),.int .u64 (((x+y+c)/18446744073709551616:Nat):Int)]∧h'=h:=
 ae.ofRun λw A=>⟨_,w,Any7.bits_Add64 SH x y c hc w,cV.refl _,rfl,A⟩
theorem W9 {h:af}{x:Nat}(D:x<18446744073709551616):ae prog uj #[.int .u64 (x:Int)] h λr h'=>r=.int .i64 (Lib.bitLen x:Int)∧h'=h:=by
 refine ae.ofCalls (by kernel_rfl) λw A=>?_
 refine(Any.bits_Len64 SG (x:Int) w (by omega) (by omega)).mono ?_;rintro e w' ⟨rfl,rfl⟩;exact⟨_,rfl,cV.refl _,rfl,A⟩
end
theorem EY {h:af}{x:Nat}(A:x<18446744073709551616):ae prog fU #[.int .u64 (x:Int)] h λr h'=>r=.int .i64 (64-(Lib.bitLen x:Int))∧h'=h:=by
 apply qN;unfold jg;refine(W9 A).mono λv h1 ⟨D,w1⟩=>?_
 subst D;have:=Lib.bitLen_le x 64 (Nat.le_refl _) A;have this:Lib.bitLen x≤64:=this;simp only[go_sem];rw[w64 (by omega) (by omega)];exact⟨rfl,w1⟩
theorem zn {h:af}{m:Nat}{b:Bool}(A:m<340282366920938463463374607431768211456):
  ae prog du #[.int .u64 ((m/18446744073709551616:Nat):Int),.int .u64 ((m%18446744073709551616:Nat):Int),.bool b] h λr h'=>r=.int .i64 (iB m b)∧h'=h:=by
 apply Hs;unfold xO;unfold iB;cases b
 ·simp only[go_sem,Bool.false_eq_true,if_false];refine aj (λh0=>?_) (λh0=>?_)
  ·rw[if_pos (by omega)];exact⟨rfl,trivial⟩
  ·rw[if_neg (by omega),w64 (by omega) (by omega)];exact⟨by congr 1;omega,trivial⟩
 ·simp only[go_sem,if_true];refine aj (λh0=>?_) (λh0=>?_)
  ·rw[if_pos (by omega)];exact⟨rfl,trivial⟩
  ·have e:IntKind.i64.wrap (IntKind.u64.wrap (0-((m%18446744073709551616:Nat):Int)))= -((m%18446744073709551616:Nat):Int):=by
    rw[dF,gF];omega
   rw[e];refine⟨?_,trivial⟩
   congr 1
   split<;>omega
end Go.Proofs.YtjljhnandbbldaaGreatDoor
namespace Go.Crisp
open Go
section
structure JX (u d Y yn1 yn0 q r:Nat):Prop where
 eq:q*yn1+r=u
 up:(u*4294967296+d)/Y≤q
section
variable {u d Y yn1 yn0 q r:Nat}(hY:Y=yn1*4294967296+yn0)(h0:yn0<4294967296)(h1:2147483648≤yn1)(h1':yn1<4294967296)(hu:u<Y)(hd:d<4294967296)
theorem LB (hY:Y=yn1*4294967296+yn0)(g:JX u d Y yn1 yn0 q r):q*Y+r*4294967296=u*4294967296+q*yn0:=by
 have:=g.eq;rw[hY,Nat.mul_add,←Nat.mul_assoc,←this,Nat.add_mul];omega
theorem Jp (hu:u<Y)(hd:d<4294967296):(u*4294967296+d)/Y<4294967296:=by
 rw[Nat.div_lt_iff_lt_mul (by omega)];have:(u+1)*4294967296≤Y*4294967296:=Nat.mul_le_mul_right _ hu;rw[Nat.add_mul]at this;rw[Nat.mul_comm 4294967296 Y];omega
theorem OM (hY:Y=yn1*4294967296+yn0)(h1:2147483648≤yn1)(hu:u<Y)(hd:d<4294967296):JX u d Y yn1 yn0 (u/yn1) (u-u/yn1*yn1):=by
 have A:u/yn1*yn1≤u:=Nat.div_mul_le_self u yn1;refine⟨by omega,?_⟩;rw[Nat.le_div_iff_mul_le (by omega)];have hq:(u*4294967296+d)/Y*Y≤u*4294967296+d:=Nat.div_mul_le_self _ _;generalize(u*4294967296+d)/Y=Q at hq;rw[hY,Nat.mul_add,←Nat.mul_assoc]at hq;generalize Q*yn1=a at hq ⊢;omega
theorem Cb (hY:Y=yn1*4294967296+yn0)(h1:2147483648≤yn1)(hu:u<Y)(hd:d<4294967296)(g:JX u d Y yn1 yn0 q r)(h:4294967296≤q∨4294967296*r+d<q*yn0):1≤q∧JX u d Y yn1 yn0 (q-1) (r+yn1):=by
 have A:=Jp hu hd;have F:(u*4294967296+d)/Y<q:=by
  rcases h with h|h
  ·exact Nat.lt_of_lt_of_le A h
  ·rw[Nat.div_lt_iff_lt_mul (by omega)];have:=LB hY g
   clear hY A
   generalize q*Y=a at this ⊢;omega
 have D:1≤q:=Nat.lt_of_le_of_lt (Nat.zero_le _) F;refine⟨D,⟨?_,Nat.le_sub_one_of_lt F⟩⟩;have:=g.eq;obtain⟨k,rfl⟩:∃k,q=k+1:=⟨q-1,by omega⟩
 rw[Nat.add_mul]at this;rw[Nat.add_sub_cancel];omega
theorem Jd (hY:Y=yn1*4294967296+yn0)(h1:2147483648≤yn1)(g:JX u d Y yn1 yn0 q r)(h:q*yn0≤4294967296*r+d):q=(u*4294967296+d)/Y:=by
 have:=LB hY g;have A:=g.up;have:q≤(u*4294967296+d)/Y:=by
  rw[Nat.le_div_iff_mul_le (by omega)]
  clear hY A
  generalize q*Y=a at this ⊢;omega
 exact Nat.le_antisymm this A
theorem Qx (hY:Y=yn1*4294967296+yn0)(h0:yn0<4294967296)(h1:2147483648≤yn1)(hu:u<Y)(g:JX u d Y yn1 yn0 q r)(h:4294967296≤r):q=(u*4294967296+d)/Y:=by
 refine Jd hY h1 g ?_;have e:=g.eq;have hq:q<4294967296:=by
  rcases Nat.lt_or_ge q 4294967296 with A|A
  ·exact A
  ·have:4294967296*yn1≤q*yn1:=Nat.mul_le_mul_right _ A;omega
 have:q*yn0≤q*4294967296:=Nat.mul_le_mul_left _ (by omega);omega
theorem Uk (h1:2147483648≤yn1)(hY:Y=yn1*4294967296+yn0)(h0:yn0<4294967296)(hu:u<Y):u/yn1<4294967298:=by
 rw[Nat.div_lt_iff_lt_mul (by omega)];omega
end
theorem QH {M Y d0 q r:Nat}(hY:0<Y)(hq:M/Y=q)(A:M%Y=r):
  (M*4294967296+d0)/Y=q*4294967296+(r*4294967296+d0)/Y∧(M*4294967296+d0)%Y=(r*4294967296+d0)%Y:=by
 have h:=Nat.div_add_mod M Y;rw[hq,A]at h;have e:M*4294967296+d0=(r*4294967296+d0)+Y*(q*4294967296):=by
  rw[←h,Nat.add_mul,Nat.mul_assoc,Nat.add_assoc,Nat.add_comm]
 rw[e];exact⟨by rw[Nat.add_mul_div_left _ _ hY,Nat.add_comm],by rw[Nat.add_mul_mod_self_left]⟩
end
end Go.Crisp
