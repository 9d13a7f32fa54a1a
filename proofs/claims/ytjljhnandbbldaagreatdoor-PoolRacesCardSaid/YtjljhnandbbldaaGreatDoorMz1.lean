/- Several texts of this session, one behind the other, without what this claim does not need (put together by its program pack.py). Conditions: none. -/
import Derived.Test.YtjljhnandbbldaaGreatDoorMz0
import Derived.Lib.ItoaNum
import Derived.Lib.LaidTab
import Derived.LaidLaws
import Derived.LaidHandle
import Derived.LaidMore
import Derived.MakeChecks
import Derived.Handed
import Derived.Stop.Joined
import Derived.Test.YtjljhnandbbldaaGreatDoorRows
import Derived.Test.YtjljhnandbbldaaGreatDoorProg
import Derived.Shelf.Bits.Mul64
import Derived.Shelf.Spec.BitsCarry
import Derived.Shelf.Strconv.Itoa0
set_option linter.unusedVariables false
set_option linter.unusedSimpArgs false
set_option maxRecDepth 100000
namespace Go.Proofs.YtjljhnandbbldaaGreatDoor
open Go Go.Crisp
open _root_.Go.Proofs.Tryz
section
variable {a0 a1 a2 a3 a4 a5 a6:Value}{h:ah}{R:Value→ah→Prop}
def BQ (a0 a1:Value)(h:ah)(R:Value→ah→Prop):Prop:=
 vK (aC a0) λc=>
 vK (aC a1) λd=>
 vK (ak .i .neq c d) λe=>
 aE e (
 R (.bool false) h) (
 vK (aC a0) λf=>
 bA [ai] h λb q a g=>
 vK (ak .i .lss (ix b 0) f) λj=>
 aE j (
 vK (bu 1 a0 (ix b 0)) λk=>
 vK (ldV a k) λl=>
 vK (bu 1 a1 (ix b 0)) λm=>
 vK (ldV a m) λn=>
 vK (ak .i .neq l n) λo=>
 aE o (
 R (.bool false) a) (
 vK (ak .i .add (ix b 0) aG) λp=>
 g [p] a)) (
 R (.bool true) a))
theorem No (H:BQ a0 a1 h R):ag prog yI #[a0,a1] h R:=fk f52 (.s .z (.s (.s .z (.s (.s .z .z) .z)) (.s (.s .z (.l 67100720 [13] (.s .z (.s (.s .z .z) (.s (.s .z (.s .z (.s (.s .z .z) .z))) .z))))) (.s .z .z)))) H
def Cb (a0 a1:Value)(h:ah)(R:Value→ah→Prop):Prop:=
 bh (Value.cells a0) 120 h λd m=>
 bh (Value.cells a1) 120 m λe a=>
 vK (aB 0 d) λn=>
 vK (ldV a n) λo=>
 vK (aB 0 e) λp=>
 vK (ldV a p) λq=>
 vK (ak .i .neq o q) λf=>
 vK (gV f true (aB 5 d)) λr=>
 vK (gV f true (ldV a r)) λs=>
 vK (gV f true (some s)) λl=>
 vK (gV l false (aB 5 e)) λt=>
 vK (gV l false (ldV a t)) λu=>
 vK (gV f true (aF l (.bool true) u)) λv=>
 vK (aF f v (.bool false)) λg=>
 vK (gV g true (aR 6 a d)) λw=>
 vK (gV g true (aR 6 a e)) λx=>
 gK g true (λy=>ag prog xe #[w,x] a y) a λz j=>
 vK (aF g z (.bool false)) λb=>
 vK (gV b true (aB 1 d)) λaa=>
 vK (gV b true (ldV j aa)) λab=>
 vK (gV b true (aB 1 e)) λac=>
 vK (gV b true (ldV j ac)) λad=>
 gK b true (λae=>ag prog sN #[ab,ad] j ae) j λaf k=>
 vK (gV b true (unV .not af)) λai=>
 vK (aF b ai (.bool false)) λc=>
 vK (gV c true (aB 1 e)) λaj=>
 vK (gV c true (ldV k aj)) λal=>
 vK (gV c true (aB 1 d)) λam=>
 vK (gV c true (ldV k am)) λan=>
 gK c true (λao=>ag prog sN #[al,an] k ao) k λap aq=>
 vK (gV c true (unV .not ap)) λar=>
 vK (aF c ar (.bool false)) λau=>
 R au aq
theorem ND (H:Cb a0 a1 h R):ag prog ng #[a0,a1] h R:=fk f56 (.s .z (.s .z .z)) H
def iG (a0:Value)(h:ah)(R:Value→ah→Prop):Prop:=
 bh (Value.cells a0) 131 h λa b=>
 R (.func (.func gY) #[] #[a]) b
theorem nQ (H:iG a0 h R):ag prog iX #[a0] h R:=fk f58 (.s .z (.s .z .z)) H
def Fs (a0 a1 a2 a3:Value)(h:ah)(R:Value→ah→Prop):Prop:=
 vK (ak .i .lss a3 aG) λb=>
 vK (gV b false (some a3)) λf=>
 vK (gV b false (ak .i .gtr f (af 65535))) λg=>
 vK (aF b (.bool true) g) λa=>
 vK (gV a false (some a2)) λj=>
 vK (gV a false (ak .i .neq j aG)) λk=>
 vK (gV a false (some k)) λc=>
 vK (gV c true (some a2)) λl=>
 vK (gV c true (ak .i .neq l (af 3))) λm=>
 vK (gV a false (aF c m (.bool false))) λn=>
 vK (aF a (.bool true) n) λo=>
 aE o (
 R (.tuple #[(.pointer none),(af 2)]) h) (
 ag prog mZ #[a0,a1,a2] h λp d=>
 vK (unV .not p) λq=>
 aE q (
 R (.tuple #[(.pointer none),(af 5)]) d) (
 vK (ak .i .mul a0 a1) λr=>
 vK (ak .i .mul r a2) λe=>
 mkK (.int .u16 0) 22 1 2 e e d λs t=>
 vK ((aQ #[ai,ai,ai,ai,(.slice none 0 0)] [(0,1,a0),(1,1,a1),(2,1,a2),(3,1,a3),(4,1,s)]).map .agg) λu=>
 bh (Value.cells u) 110 t λv w=>
 R (.tuple #[v,ai]) w))
theorem Qn (H:Fs a0 a1 a2 a3 h R):ag prog jn #[a0,a1,a2,a3] h R:=fk f59 (.s .z (.s (.s .z (.s (.s .z .z) (.s .z (.s (.s .z .z) .z)))) (.s .z .z))) H
def jS (a0:Value)(h:ah)(R:Value→ah→Prop):Prop:=
 fR (λc=>
 vK (aC a0) λe=>
 vK (ak .i .lss e aG) λf=>
 aE f (
 OP h λs g=>
 c [] g) (
 c [] h))
 λt u d=>
 vK (bu 1 a0 ai) λj=>
 vK (ldV d j) λk=>
 bA [k,aG] d λa v b l=>
 vK (aC a0) λm=>
 vK (ak .i .lss (ix a 1) m) λn=>
 aE n (
 vK (bu 1 a0 (ix a 1)) λo=>
 vK (ldV b o) λp=>
 vK (kw (ix a 0) p) λq=>
 vK (ak .i .add (ix a 1) aG) λr=>
 l [q,r] b) (
 R (ix a 0) b)
theorem ru (H:jS a0 h R):ag prog gQ #[a0] h R:=fk f60 (.s .z (.j 480 [] (.s .z (.s .z .z)) (.s .z (.s (.s .z (.l 16773144 [3,4] (.s (.s .z (.s .z .z)) (.s .z .z)))) (.s .z .z))))) H
def QS (a0:Value)(h:ah)(R:Value→ah→Prop):Prop:=
 bh (Value.cells a0) 31 h λb c=>
 vK (aB 0 b) λm=>
 vK (ldV c m) λn=>
 vK (ak .i .lss n ai) λg=>
 vK (gV g false (aB 0 b)) λo=>
 vK (gV g false (ldV c o)) λp=>
 vK (gV g false (ak .i .geq p (af 4))) λq=>
 vK (aF g (.bool true) q) λd=>
 vK (gV d false (aB 1 b)) λr=>
 vK (gV d false (ldV c r)) λt=>
 gK d false (λu=>ag prog sO #[t] c u) c λv e=>
 vK (gV d false (ak .s .eql v (.string ⟨#[]⟩))) λw=>
 vK (aF d (.bool true) w) λx=>
 aE x (
 R (.bool false) e) (
 vK (aB 0 b) λy=>
 vK (ldV e y) λz=>
 vK (ak .i .neq z (af 3)) λa=>
 vK (gV a false (aB 7 b)) λaa=>
 vK (gV a false (ldV e aa)) λab=>
 gK a false (λac=>ag prog vQ #[ab] e ac) e λad k=>
 vK (gV a false (some ad)) λj=>
 vK (gV j true (aB 8 b)) λae=>
 vK (gV j true (ldV k ae)) λaj=>
 gK j true (λal=>ag prog vQ #[aj] k al) k λam l=>
 vK (gV a false (aF j am (.bool false))) λan=>
 vK (gV a false (some an)) λf=>
 vK (gV f true (aB 6 b)) λao=>
 vK (gV f true (ldV l ao)) λap=>
 gK f true (λaq=>ag prog AQ #[ap] l aq) l λar au=>
 vK (gV f true (ak .s .neq ar (.string ⟨#[]⟩))) λav=>
 vK (gV a false (aF f av (.bool false))) λaw=>
 vK (aF a (.bool true) aw) λax=>
 R ax au)
theorem ZR (H:QS a0 h R):ag prog PG #[a0] h R:=fk f61 (.s .z (.s (.s .z (.s (.s .z .z) .z)) (.s .z .z))) H
def MQ (a0:Value)(h:ah)(R:Value→ah→Prop):Prop:=
 vK (ak .i .geq a0 aG) λa=>
 vK (gV a true (some a0)) λb=>
 vK (gV a true (ak .i .leq b (af 65536))) λc=>
 vK (aF a c (.bool false)) λd=>
 R d h
theorem WX (H:MQ a0 h R):ag prog vQ #[a0] h R:=fk f62 (.s .z (.s .z .z)) H
def If (a0 a1 a2:Value)(h:ah)(R:Value→ah→Prop):Prop:=
 bh (Value.cells a0) 31 h λa b=>
 vK (aB 0 a) λr=>
 vK (ldV b r) λs=>
 vK (ak .i .eql s (af 3)) λt=>
 aE t (
 vK (aB 6 a) λu=>
 vK (ldV b u) λv=>
 vK (aB 7 a) λw=>
 vK (ldV b w) λx=>
 ag prog lT #[v,a1,x] b λe c=>
 vK (aP e 0) λf=>
 vK (aP e 1) λg=>
 vK (ak .i .eql g ai) λy=>
 aE y (
 vK (aB 6 a) λz=>
 vK (ldV c z) λaa=>
 vK (aB 8 a) λab=>
 vK (ldV c ab) λac=>
 ag prog lT #[aa,a2,ac] c λj ad=>
 vK (aP j 0) λae=>
 vK (aP j 1) λaj=>
 R (.tuple #[f,ae,aj]) ad) (
 R (.tuple #[f,(.pointer none),g]) c)) (
 vK (aR 9 b a) λal=>
 ag prog AT #[al] b λd k=>
 vK (aP d 0) λam=>
 vK (aP d 1) λan=>
 vK (aP d 2) λl=>
 vK (ak .i .neq l ai) λao=>
 aE ao (
 R (.tuple #[(.pointer none),(.pointer none),l]) k) (
 ag prog qf #[am,a1] k λm n=>
 vK (aP m 0) λo=>
 vK (aP m 1) λp=>
 vK (ak .i .eql p ai) λap=>
 aE ap (
 ag prog qf #[an,a2] n λq aq=>
 vK (aP q 0) λar=>
 vK (aP q 1) λau=>
 R (.tuple #[o,ar,au]) aq) (
 R (.tuple #[o,(.pointer none),p]) n)))
theorem SL (H:If a0 a1 a2 h R):ag prog DH #[a0,a1,a2] h R:=fk f63 (.s .z (.s (.s .z (.s (.s (.s .z (.s .z (.s .z .z))) (.s .z .z)) .z)) (.s .z (.s (.s .z (.s (.s .z .z) .z)) (.s (.s .z (.s .z (.s .z .z))) (.s .z .z)))))) H
def EP (h:ah)(R:Value→ah→Prop):Prop:=
 vK ((aQ #[ai,(.slice none 0 0),(.pointer none),ai] []).map .agg) λa=>
 bh (Value.cells a) 182 h λb c=>
 R b c
theorem PQ (H:EP h R):ag prog pZ #[] h R:=fk f64 (.s .z (.s .z .z)) H
def Ib (a0:Value)(h:ah)(R:Value→ah→Prop):Prop:=
 vK (kw aG a0) λa=>
 vK (tG a (af 4096)) λb=>
 vK ((aQ #[ai,(.slice none 0 0),(.bool false)] [(0,1,b)]).map .agg) λc=>
 bh (Value.cells c) 215 h λd e=>
 R d e
theorem SI (H:Ib a0 h R):ag prog oM #[a0] h R:=fk f65 (.s .z (.s .z .z)) H
def Ch (h:ah)(R:Value→ah→Prop):Prop:=
 ag prog jn #[(af 3),aG,aG,(af 255)] h λl w=>
 vK (aP l 0) λx=>
 vK (aP l 1) λy=>
 vK ((aQ #[ai,ai,ai,ai,(.slice none 0 0),(.slice none 0 0),ai,ai,ai] [(0,1,aG),(3,1,aG)]).map .agg) λz=>
 ag prog oN #[z,(af 3),aG] w λm aa=>
 vK (aP m 0) λab=>
 vK (aP m 1) λac=>
 bh #[(.pointer none),(.pointer none),ai] 81 aa λn ad=>
 stK 3 n ab ad λbn ae=>
 ag prog jn #[(af 3),aG,aG,(af 255)] ae λo aj=>
 vK (aP o 0) λal=>
 vK (aP o 1) λam=>
 ag prog yS #[] aj λan q=>
 vK (unV .not an) λc=>
 gK c false (λao=>ag prog yR #[] q ao) q λap d=>
 vK (gV c false (unV .not ap)) λaq=>
 vK (aF c (.bool true) aq) λe=>
 vK (gV e false (some y)) λar=>
 vK (gV e false (ak .i .neq ar ai)) λau=>
 vK (aF e (.bool true) au) λf=>
 vK (gV f false (some ac)) λav=>
 vK (gV f false (ak .i .neq av ai)) λaw=>
 vK (aF f (.bool true) aw) λg=>
 vK (gV g false (some am)) λax=>
 vK (gV g false (ak .i .neq ax ai)) λay=>
 vK (aF g (.bool true) ay) λaz=>
 aE az (
 R (.bool false) d) (
 vK (aR 3 d n) λa0=>
 vK ((aQ #[ai,ai,ai,ai] [(2,1,(af 3)),(3,1,aG)]).map .agg) λa1=>
 vK ((aQ #[ai,ai,ai,ai,ai,ai,ai,ai,ai,ai] [(1,4,a1)]).map .agg) λa2=>
 ag prog p8 #[x,al,a0,a2] d λr s=>
 vK (aP r 0) λb=>
 vK (aP r 1) λa3=>
 vK (ak .i .neq a3 ai) λj=>
 vK (gV j false (some b)) λa4=>
 vK (gV j false (ak .p .eql a4 (.pointer none))) λa5=>
 vK (aF j (.bool true) a5) λa6=>
 aE a6 (
 R (.bool false) s) (
 bA [(af (-1))] s λk bo t a7=>
 vK (ak .i .lss (ix k 0) (af 2)) λa8=>
 aE a8 (
 ag prog gU #[b] t λa9 u=>
 vK ((aQ #[ai,ai] [(0,1,aG),(1,1,(ix k 0))]).map .agg) λba=>
 vK (ak (.st [(0,1,.i),(1,1,.i)]) .neq a9 ba) λbb=>
 aE bb (
 R (.bool false) u) (
 vK (ak .i .add (ix k 0) aG) λbc=>
 a7 [bc] u)) (
 ag prog gU #[b] t λbd v=>
 vK ((aQ #[ai,ai] [(0,1,(af 2))]).map .agg) λbe=>
 vK (ak (.st [(0,1,.i),(1,1,.i)]) .eql bd be) λa=>
 vK (gV a true (some b)) λbf=>
 gK a true (λbg=>ag prog gU #[bf] v bg) v λbi bj=>
 vK (gV a true ((aQ #[ai,ai] []).map .agg)) λbk=>
 vK (gV a true (ak (.st [(0,1,.i),(1,1,.i)]) .eql bi bk)) λbl=>
 vK (aF a bl (.bool false)) λbm=>
 R bm bj)))
theorem NJ (H:Ch h R):ag prog yQ #[] h R:=fk f66 (.s .z (.s .z (.s .z (.s .z (.s (.s .z (.s (.s .z .z) .z)) (.s .z (.s (.s .z (.s (.s .z .z) .z)) (.s (.s .z (.l 36821430553381175809 [9] (.s (.s .z (.s .z .z)) (.s (.s .z (.s (.s .z .z) .z)) .z)))) (.s .z .z))))))))) H
def qN (a0 a1 a2:Value)(h:ah)(R:Value→ah→Prop):Prop:=
 bh #[ai,ai,ai,ai] 148 h λb c=>
 vK (aT a0) λp=>
 vK (aB 0 p) λq=>
 vK (ldV c q) λe=>
 vK (ak .i .eql e aG) λr=>
 aE r (
 vK (aT a0) λs=>
 vK (aB 2 s) λt=>
 vK (ldV c t) λu=>
 ag prog gU #[u] c λv w=>
 bh #[ai,ai] 146 w λf x=>
 stK 2 f v x λbc y=>
 ag prog dY #[a0] y λbd a=>
 bO a λS=>
 vK (aT a0) λz=>
 vK (aB 1 z) λaa=>
 qK S (λa=>ldV a aa) λab=>
 vK (aT a0) λac=>
 vK (aB 1 ac) λad=>
 qK S (λa=>ldV a ad) λae=>
 qK S (λa=>aC ae) λaj=>
 vK (ak .i .sub aj aG) λal=>
 vK (bu 1 ab al) λam=>
 qK S (λa=>ldV a am) λan=>
 qK S (λa=>aR 2 a f) λao=>
 vK ((aQ #[ai,ai,ai,ai] [(0,1,(af 2)),(1,1,an),(2,2,ao)]).map .agg) λap=>
 stK 4 b ap a λbe g=>
 vK (aR 4 g b) λaq=>
 R aq g) (
 vK (ak .i .eql e (af 2)) λar=>
 aE ar (
 vK ((aQ #[ai,ai,ai,ai] []).map .agg) λau=>
 stK 4 b au c λbf j=>
 vK (aR 4 j b) λav=>
 R av j) (
 ag prog kV #[a1] c λk d=>
 vK (aP k 0) λaw=>
 vK (aP k 1) λl=>
 vK (ak .i .eql l ai) λax=>
 aE ax (
 ag prog lS #[a0,aw,a2] d λay az=>
 stK 4 b ay az λbg m=>
 vK (aR 4 m b) λa3=>
 R a3 m) (
 vK (ak .i .eql l (af 2)) λa4=>
 aE a4 (
 vK (aT a0) λa5=>
 vK (aB 0 a5) λa6=>
 stK 1 a6 (af 2) d λbi a7=>
 vK ((aQ #[ai,ai,ai,ai] [(0,1,(af 3))]).map .agg) λa8=>
 stK 4 b a8 a7 λbj n=>
 vK (aR 4 n b) λa9=>
 R a9 n) (
 vK ((aQ #[ai,ai,ai,ai] []).map .agg) λba=>
 stK 4 b ba d λbk o=>
 vK (aR 4 o b) λbb=>
 R bb o))))
theorem BC (H:qN a0 a1 a2 h R):ag prog cU #[a0,a1,a2] h R:=fk f67 (.s .z (.s (.s .z (.s .z (.s (.s .z (.s .z (.s (.d (.op 0 .r (.op 1 .r (.op 2 .r (.op 3 .r (.op 4 .r (.op 5 .r (.op 6 .r (.op 7 .r (.op 8 .r (.op 9 .r (.op 10 .r (.op 11 .r (.op 12 .r (.op 13 .r (.op 14 .n .nil)))))))))))))))) .z))) (.s .z (.s (.s .z .z) .z))))) (.s .z (.s (.s .z (.s .z (.s (.s .z .z) (.s .z (.s (.s .z (.s .z .z)) .z))))) (.s .z .z))))) H
def mu (a0 a1:Value)(h:ah)(R:Value→ah→Prop):Prop:=
 vK (aT a0) λb=>
 vK (aB 0 b) λc=>
 vK (ldV h c) λa=>
 vK (ak .i .eql a ai) λd=>
 aE d (
 ag prog jF #[a1] h λe f=>
 R e f) (
 vK (ak .i .eql a aG) λg=>
 aE g (
 R (.bool true) h) (
 R (.bool false) h))
theorem xj (H:mu a0 a1 h R):ag prog eZ #[a0,a1] h R:=fk f68 (.s .z (.s (.s .z (.s .z (.s (.s .z .z) (.s .z (.s (.s .z .z) .z))))) (.s .z .z))) H
def sX (a0:Value)(h:ah)(R:Value→ah→Prop):Prop:=
 vK (aT a0) λa=>
 vK (aB 2 a) λb=>
 vK (ldV h b) λc=>
 vK (aT a0) λd=>
 vK (aB 2 d) λe=>
 stK 1 e (.bool true) h λi f=>
 vK (unV .not c) λg=>
 R g f
theorem CV (H:sX a0 h R):ag prog jO #[a0] h R:=fk f69 (.s .z (.s .z (.s .z (.s .z .z)))) H
def oV (a0:Value)(h:ah)(R:Value→ah→Prop):Prop:=
 vK (aT a0) λa=>
 vK (aB 0 a) λb=>
 vK (ldV h b) λc=>
 R c h
theorem Af (H:oV a0 h R):ag prog kU #[a0] h R:=fk f70 (.s .z (.s .z .z)) H
def Bp (a0 a1:Value)(h:ah)(R:Value→ah→Prop):Prop:=
 bh (Value.cells a1) 81 h λc d=>
 vK (aB 0 c) λm=>
 vK (ldV d m) λn=>
 vK (ak .p .neq n (.pointer none)) λf=>
 vK (gV f true (aB 1 c)) λo=>
 vK (gV f true (ldV d o)) λq=>
 vK (gV f true (ak .p .neq q (.pointer none))) λr=>
 vK (aF f r (.bool false)) λa=>
 vK (gV a true (aB 0 c)) λt=>
 vK (gV a true (ldV d t)) λu=>
 gK a true (λv=>ag prog gx #[u] d v) d λw k=>
 vK (gV a true (some a0)) λx=>
 gK a true (λy=>ag prog bL #[x] k y) k λz g=>
 vK (gV a true (ak .i .eql w z)) λaa=>
 vK (aF a aa (.bool false)) λb=>
 vK (gV b true (aB 1 c)) λab=>
 vK (gV b true (ldV g ab)) λac=>
 gK b true (λad=>ag prog gx #[ac] g ad) g λae l=>
 vK (gV b true (some a0)) λaf=>
 gK b true (λai=>ag prog bN #[af] l ai) l λaj j=>
 vK (gV b true (ak .i .eql ae aj)) λal=>
 vK (aF b al (.bool false)) λe=>
 vK (gV e true (aB 2 c)) λam=>
 vK (gV e true (ldV j am)) λan=>
 gK e true (λao=>ag prog sO #[an] j ao) j λap aq=>
 vK (gV e true (ak .s .neq ap (.string ⟨#[]⟩))) λar=>
 vK (aF e ar (.bool false)) λau=>
 R au aq
theorem LS (H:Bp a0 a1 h R):ag prog kf #[a0,a1] h R:=fk f71 (.s .z (.s .z .z)) H
def xv (a0:Value)(h:ah)(R:Value→ah→Prop):Prop:=
 vK (aT a0) λa=>
 vK (aB 1 a) λb=>
 vK (ldV h b) λc=>
 vK (aC c) λd=>
 R d h
theorem Iz (H:xv a0 h R):ag prog bM #[a0] h R:=fk f72 (.s .z (.s .z .z)) H
def sV (a0:Value)(h:ah)(R:Value→ah→Prop):Prop:=
 vK (aT a0) λa=>
 vK (aB 3 a) λb=>
 vK (ldV h b) λc=>
 R c h
theorem CT (H:sV a0 h R):ag prog dF #[a0] h R:=fk f73 (.s .z (.s .z .z)) H
def K6 (a0 a1 a2:Value)(h:ah)(R:Value→ah→Prop):Prop:=
 bh (Value.cells a0) 81 h λd a=>
 vK (aB 0 d) λg=>
 vK (ldV a g) λi=>
 vK (ak .p .eql i (.pointer none)) λb=>
 vK (gV b false (aB 1 d)) λj=>
 vK (gV b false (ldV a j)) λk=>
 vK (gV b false (ak .p .eql k (.pointer none))) λl=>
 vK (aF b (.bool true) l) λm=>
 aE m (
 R (.tuple #[(.pointer none),(af 6)]) a) (
 ag prog yo #[a1] a λn f=>
 vK (unV .not n) λc=>
 vK (gV c false (some a2)) λo=>
 gK c false (λq=>ag prog yo #[o] f q) f λr e=>
 vK (gV c false (unV .not r)) λs=>
 vK (aF c (.bool true) s) λt=>
 aE t (
 R (.tuple #[(.pointer none),(af 9)]) e) (
 vK (aR 3 e d) λu=>
 vK ((aQ #[(.pointer none),(.pointer none),ai,ai,ai] [(0,3,u),(3,1,a1),(4,1,a2)]).map .agg) λv=>
 bh (Value.cells v) 184 e λw x=>
 R (.tuple #[w,ai]) x))
theorem Vb (H:K6 a0 a1 a2 h R):ag prog AS #[a0,a1,a2] h R:=fk f74 (.s .z (.s (.s .z (.s (.s .z .z) (.s .z (.s (.s .z .z) .z)))) (.s .z .z))) H
def Il (a0:Value)(h:ah)(R:Value→ah→Prop):Prop:=
 vK (kw aG a0) λj=>
 vK (tG j (af 512)) λc=>
 mkK (.slice none 0 0) 104 1 24 c c h λk l=>
 vK ((aQ #[(.slice none 0 0)] [(0,1,k)]).map .agg) λm=>
 bh (Value.cells m) 226 l λd f=>
 vK (aT d) λn=>
 vK (aB 0 n) λo=>
 vK (ldV f o) λp=>
 vK (aC p) λq=>
 bA [ai] f λa aj b r=>
 vK (ak .i .lss (ix a 0) q) λs=>
 aE s (
 bO b λS=>
 vK (aT d) λt=>
 vK (aB 0 t) λu=>
 qK S (λb=>ldV b u) λv=>
 mkK ai 3 1 8 c c b λw g=>
 S g∧(vK (bu 1 v (ix a 0)) λx=>
 stK 1 x w g λal e=>
 vK (aT d) λy=>
 vK (aB 0 y) λz=>
 vK (ldV e z) λaa=>
 vK (bu 1 aa (ix a 0)) λab=>
 vK (ldV e ab) λac=>
 vK (bu 1 ac (ix a 0)) λad=>
 stK 1 ad aG e λam ae=>
 vK (ak .i .add (ix a 0) aG) λag=>
 r [ag] ae)) (
 R d b)
theorem SR (H:Il a0 h R):ag prog oO #[a0] h R:=fk f75 (.s .z (.s .z (.s .z (.s (.s .z (.l 274877775888 [17] (.s .z (.s (.s .z .z) (.s (.s .z (.s (.d (.op 0 .r (.op 1 .r (.op 2 .r (.op 3 .r (.op 4 .r (.op 5 .r (.op 6 .e (.op 7 .r (.op 8 .n .nil)))))))))) .z)) .z))))) (.s .z .z))))) H
def xF (a0 a1 a2 a3 a4 a5:Value)(h:ah)(R:Value→ah→Prop):Prop:=
 bO h λS=>
 vK (aT a0) λa=>
 vK (aB 5 a) λb=>
 vK (aT a0) λc=>
 vK (aB 4 c) λd=>
 qK S (λh=>ldV h d) λe=>
 vK (ak .i .add a3 a4) λf=>
 ag prog lJ #[e,a1] h λg j=>
 vK ((aQ #[ai,(.slice none 0 0),ai,ai,ai,(.bool false)] [(0,1,a1),(1,1,g),(2,1,a2),(3,1,a3),(4,1,f),(5,1,a5)]).map .agg) λk=>
 ag prog mK #[b,k] j λm l=>
 R (.tuple #[]) l
theorem II (H:xF a0 a1 a2 a3 a4 a5 h R):ag prog ef #[a0,a1,a2,a3,a4,a5] h R:=fk f76 (.d (.op 0 .r (.op 1 .r (.op 2 .r (.op 3 .r (.op 4 .r (.op 5 .r (.op 6 .r (.op 7 .r (.op 8 .r (.op 10 .r (.op 11 .r (.op 12 .r (.op 13 .r (.op 14 .r (.op 15 .r (.op 9 .n (.op 16 .r (.op 17 .n .nil))))))))))))))))))) H
def Ic (a0:Value)(h:ah)(R:Value→ah→Prop):Prop:=
 ag prog bL #[a0] h λa b=>
 ag prog bN #[a0] b λc d=>
 vK (ak .i .mul a c) λe=>
 ag prog aU #[a0] d λf g=>
 vK (ak .i .mul e f) λj=>
 R j g
theorem SJ (H:Ic a0 h R):ag prog ub #[a0] h R:=fk f77 (.s .z (.s .z .z)) H
def sW (a0:Value)(h:ah)(R:Value→ah→Prop):Prop:=
 bO h λS=>
 vK (aT a0) λb=>
 vK (aB 0 b) λc=>
 qK S (λh=>ldV h c) λd=>
 vK (aT a0) λe=>
 vK (aB 1 e) λf=>
 qK S (λh=>ldV h f) λg=>
 vK (aT a0) λi=>
 vK (aB 2 i) λj=>
 qK S (λh=>ldV h j) λk=>
 vK (aT a0) λl=>
 vK (aB 3 l) λm=>
 qK S (λh=>ldV h m) λn=>
 vK (aT a0) λo=>
 vK (aB 4 o) λp=>
 qK S (λh=>ldV h p) λq=>
 ag prog dI #[q] h λr a=>
 S a∧(vK ((aQ #[ai,ai,ai,ai,(.slice none 0 0)] [(0,1,d),(1,1,g),(2,1,k),(3,1,n),(4,1,r)]).map .agg) λs=>
 bh (Value.cells s) 110 a λt u=>
 R t u)
theorem CU (H:sW a0 h R):ag prog mJ #[a0] h R:=fk f78 (.s .z (.s (.d (.op 0 .r (.op 1 .r (.op 2 .r (.op 3 .r (.op 4 .r (.op 5 .r (.op 6 .r (.op 7 .r (.op 8 .r (.op 9 .r (.op 10 .r (.op 11 .r (.op 12 .r (.op 13 .r (.op 14 .r (.op 15 .r (.op 16 .r (.op 17 .r (.op 18 .r (.op 19 .r (.op 20 .e (.op 21 .r (.op 22 .n (.op 23 .r .nil))))))))))))))))))))))))) .z)) H
def qO (a0 a1 a2 a3:Value)(h:ah)(R:Value→ah→Prop):Prop:=
 vK (ak .i .lss a1 ai) λa=>
 vK (gV a false (some a1)) λf=>
 vK (gV a false (some a0)) λg=>
 vK (gV a false (aT g)) λj=>
 vK (gV a false (aB 0 j)) λk=>
 vK (gV a false (ldV h k)) λl=>
 vK (gV a false (ak .i .geq f l)) λm=>
 vK (aF a (.bool true) m) λd=>
 vK (gV d false (some a2)) λn=>
 vK (gV d false (ak .i .lss n ai)) λo=>
 vK (aF d (.bool true) o) λb=>
 vK (gV b false (some a2)) λp=>
 vK (gV b false (some a0)) λq=>
 vK (gV b false (aT q)) λr=>
 vK (gV b false (aB 1 r)) λs=>
 vK (gV b false (ldV h s)) λt=>
 vK (gV b false (ak .i .geq p t)) λu=>
 vK (aF b (.bool true) u) λe=>
 vK (gV e false (some a3)) λv=>
 vK (gV e false (ak .i .lss v ai)) λw=>
 vK (aF e (.bool true) w) λc=>
 vK (gV c false (some a3)) λx=>
 vK (gV c false (some a0)) λy=>
 vK (gV c false (aT y)) λz=>
 vK (gV c false (aB 2 z)) λaa=>
 vK (gV c false (ldV h aa)) λab=>
 vK (gV c false (ak .i .geq x ab)) λac=>
 vK (aF c (.bool true) ac) λad=>
 aE ad (
 R (af (-1)) h) (
 vK (aT a0) λae=>
 vK (aB 0 ae) λag=>
 vK (ldV h ag) λaj=>
 vK (ak .i .mul a2 aj) λal=>
 vK (ak .i .add al a1) λam=>
 vK (aT a0) λan=>
 vK (aB 2 an) λao=>
 vK (ldV h ao) λap=>
 vK (ak .i .mul am ap) λaq=>
 vK (ak .i .add aq a3) λar=>
 R ar h)
theorem BD (H:qO a0 a1 a2 a3 h R):ag prog jp #[a0,a1,a2,a3] h R:=fk f79 (.s .z (.s (.s .z (.s (.s .z .z) .z)) (.s .z .z))) H
def Fy (a0 a1 a2 a3 a4:Value)(h:ah)(R:Value→ah→Prop):Prop:=
 vK (ak .i .rem a0 (.int .u16 20)) λn=>
 vK (gP .i64 n) λo=>
 vK (ak .i .add aG o) λd=>
 vK (ak .i .rem a1 (.int .u16 20)) λp=>
 vK (gP .i64 p) λq=>
 vK (ak .i .add aG q) λe=>
 vK (ak .i .rem a2 (.int .u16 2)) λr=>
 vK (gP .i64 r) λs=>
 vK (ak .i .mul (af 2) s) λt=>
 vK (ak .i .add aG t) λf=>
 vK (gP .i64 a3) λu=>
 vK (ak .i .rem u (af 65535)) λv=>
 vK (ak .i .add aG v) λg=>
 vK (ak .i .mul d e) λw=>
 vK (ak .i .mul w f) λj=>
 mkK (.int .u16 0) 22 1 2 j j h λc x=>
 vK (aC c) λy=>
 bA [ai] x λb a6 a k=>
 vK (ak .i .lss (ix b 0) y) λz=>
 aE z (
 vK (aC a4) λaa=>
 vK (ak .i .gtr aa ai) λab=>
 aE ab (
 bO a λS=>
 qK S (λa=>aC a4) λac=>
 vK (ak .i .rem (ix b 0) ac) λad=>
 vK (bu 1 a4 ad) λae=>
 qK S (λa=>ldV a ae) λaj=>
 vK (gP .i64 aj) λal=>
 qK S (λa=>aC a4) λam=>
 vK (ak .i .quo (ix b 0) am) λan=>
 vK (ak .i .add al an) λao=>
 vK (ak .i .add g aG) λap=>
 vK (ak .i .rem ao ap) λaq=>
 vK (gP .u16 aq) λar=>
 vK (bu 1 c (ix b 0)) λau=>
 stK 1 au ar a λa7 av=>
 vK (ak .i .add (ix b 0) aG) λaw=>
 k [aw] av) (
 vK (ak .i .add (ix b 0) aG) λax=>
 k [ax] a)) (
 ag prog tZ #[d,e,f,g,c] a λl m=>
 vK (aP l 0) λay=>
 vK (aP l 1) λaz=>
 vK (ak .i .neq az ai) λa5=>
 aE a5 (
 R (.pointer none) m) (
 R ay m))
theorem Qu (H:Fy a0 a1 a2 a3 a4 h R):ag prog AX #[a0,a1,a2,a3,a4] h R:=fk f80 (.s .z (.s .z (.s .z (.s .z (.s (.s .z (.l 2361183223842636627968 [44] (.s .z (.s (.s .z .z) (.s (.s .z (.s .z (.s (.d (.op 0 .r (.op 1 .r (.op 2 .r (.op 3 .r (.op 4 .r (.op 5 .r (.op 6 .r (.op 7 .r (.op 8 .r (.op 9 .r (.op 10 .r (.op 11 .r (.op 12 .r (.op 13 .r (.op 14 .r (.op 15 .r (.op 16 .r (.op 17 .r (.op 18 .r (.op 19 .r (.op 20 .n .nil)))))))))))))))))))))) .z))) .z))))) (.s .z (.s (.s .z (.s (.s .z .z) .z)) (.s .z .z)))))))) H
def Bo (a0 a1:Value)(h:ah)(R:Value→ah→Prop):Prop:=
 vK (aC a0) λp=>
 bA [ai] h λn bg o q=>
 vK (ak .i .lss (ix n 0) p) λr=>
 aE r (
 vK (bu 9 a0 (ix n 0)) λs=>
 vK (aR 9 o s) λt=>
 bh #[ai,ai,ai,ai,(.slice none 0 0),(.slice none 0 0),ai,ai,ai] 31 o λb u=>
 stK 9 b t u λbi a=>
 vK (aB 4 b) λv=>
 vK (ldV a v) λw=>
 vK (aC w) λx=>
 vK (ak .i .gtr x (af 40)) λg=>
 vK (gV g false (aB 5 b)) λy=>
 vK (gV g false (ldV a y)) λz=>
 vK (gV g false (aC z)) λaa=>
 vK (gV g false (ak .i .gtr aa (af 40))) λab=>
 vK (aF g (.bool true) ab) λe=>
 vK (gV e false (aB 2 b)) λac=>
 vK (gV e false (ldV a ac)) λad=>
 vK (gV e false (ak .i .gtr ad (af 262144))) λae=>
 vK (gV e false (some ae)) λj=>
 vK (gV j true (aB 2 b)) λag=>
 vK (gV j true (ldV a ag)) λaj=>
 vK (gV j true (ak .i .leq aj (af 4194304))) λal=>
 vK (gV e false (aF j al (.bool false))) λam=>
 vK (aF e (.bool true) am) λf=>
 vK (gV f false (aB 3 b)) λan=>
 vK (gV f false (ldV a an)) λao=>
 vK (gV f false (ak .i .gtr ao (af 20))) λap=>
 vK (gV f false (some ap)) λk=>
 vK (gV k true (aB 3 b)) λaq=>
 vK (gV k true (ldV a aq)) λar=>
 vK (gV k true (ak .i .lss ar (af 512))) λau=>
 vK (gV f false (aF k au (.bool false))) λav=>
 vK (aF f (.bool true) av) λc=>
 vK (gV c false (aB 7 b)) λaw=>
 vK (gV c false (ldV a aw)) λax=>
 vK (gV c false (some a1)) λay=>
 vK (gV c false (ak .i .gtr ax ay)) λaz=>
 vK (gV c false (some az)) λl=>
 vK (gV l true (aB 7 b)) λa2=>
 vK (gV l true (ldV a a2)) λa3=>
 vK (gV l true (ak .i .leq a3 (af 65536))) λa4=>
 vK (gV c false (aF l a4 (.bool false))) λa5=>
 vK (aF c (.bool true) a5) λd=>
 vK (gV d false (aB 8 b)) λa6=>
 vK (gV d false (ldV a a6)) λa7=>
 vK (gV d false (some a1)) λa8=>
 vK (gV d false (ak .i .gtr a7 a8)) λa9=>
 vK (gV d false (some a9)) λm=>
 vK (gV m true (aB 8 b)) λba=>
 vK (gV m true (ldV a ba)) λbb=>
 vK (gV m true (ak .i .leq bb (af 65536))) λbc=>
 vK (gV d false (aF m bc (.bool false))) λbd=>
 vK (aF d (.bool true) bd) λbe=>
 aE be (
 R (.bool false) a) (
 vK (ak .i .add (ix n 0) aG) λbf=>
 q [bf] a)) (
 R (.bool true) o)
theorem LR (H:Bo a0 a1 h R):ag prog xg #[a0,a1] h R:=fk f81 (.s .z (.s (.s .z (.l 73786976294838206032 [9] (.s .z (.s (.s .z .z) (.s (.s .z (.s .z (.s (.s .z .z) .z))) .z))))) (.s .z .z))) H
def QT (a0 a1 a2 a3:Value)(h:ah)(R:Value→ah→Prop):Prop:=
 vK (aC a0) λp=>
 vK (ak .i .gtr p (af 16)) λq=>
 aE q (
 R (.tuple #[(.slice none 0 0),(af 6)]) h) (
 ag prog mZ #[a1,a2,a3] h λr f=>
 vK (unV .not r) λs=>
 aE s (
 R (.tuple #[(.slice none 0 0),(af 5)]) f) (
 vK (aC a0) λt=>
 bA [a1,a2,(.slice none 0 0),ai] f λa av b u=>
 vK (ak .i .lss (ix a 3) t) λv=>
 aE v (
 vK (bu 9 a0 (ix a 3)) λw=>
 vK (aR 9 b w) λx=>
 bh #[ai,ai,ai,ai,(.slice none 0 0),(.slice none 0 0),ai,ai,ai] 31 b λc y=>
 stK 9 c x y λaw g=>
 vK (aR 9 g c) λz=>
 ag prog oN #[z,(ix a 0),(ix a 1)] g λj aa=>
 vK (aP j 0) λab=>
 vK (aP j 1) λk=>
 bh #[(.pointer none),(.pointer none),ai] 81 aa λl ac=>
 stK 3 l ab ac λax d=>
 vK (ak .i .neq k ai) λad=>
 aE ad (
 R (.tuple #[(.slice none 0 0),k]) d) (
 vK (aR 9 d c) λae=>
 ag prog KR #[ae,(ix a 0),(ix a 1)] d λm aj=>
 vK (aP m 0) λn=>
 vK (aP m 1) λo=>
 ag prog mZ #[n,o,a3] aj λal e=>
 vK (unV .not al) λam=>
 aE am (
 R (.tuple #[(.slice none 0 0),(af 5)]) e) (
 vK (aR 3 e l) λan=>
 du #[(.pointer none),(.pointer none),ai] 81 1 [(0,3,an)] e λao ap=>
 dy (.agg #[.pointer none,.pointer none,ai]) 81 3 24 (ix a 2) ao ap λaq ar=>
 vK (ak .i .add (ix a 3) aG) λau=>
 u [n,o,aq,au] ar))) (
 R (.tuple #[(ix a 2),ai]) b)))
theorem ZS (H:QT a0 a1 a2 a3 h R):ag prog PH #[a0,a1,a2,a3] h R:=fk f82 (.s .z (.s (.s .z (.s (.s .z .z) (.s .z (.s (.s .z .z) .z)))) (.s .z (.s (.s .z (.l 288230376017524486 [1,2,10,27] (.s .z (.s (.s .z .z) (.s (.s .z (.s .z (.s (.s .z (.s (.s .z .z) .z)) (.s (.s .z (.s .z (.s (.s .z .z) .z))) .z)))) .z))))) (.s .z .z))))) H
def HH (a0 a1 a2 a3:Value)(h:ah)(R:Value→ah→Prop):Prop:=
 vK (aC a0) λp=>
 vK (ak .i .gtr p (af 16)) λq=>
 aE q (
 R (.tuple #[(.slice none 0 0),(af 6)]) h) (
 ag prog vI #[a1,a2,a3] h λr f=>
 vK (unV .not r) λs=>
 aE s (
 R (.tuple #[(.slice none 0 0),(af 5)]) f) (
 vK (aC a0) λt=>
 bA [a1,a2,(.slice none 0 0),ai] f λa av b u=>
 vK (ak .i .lss (ix a 3) t) λv=>
 aE v (
 vK (bu 9 a0 (ix a 3)) λw=>
 vK (aR 9 b w) λx=>
 bh #[ai,ai,ai,ai,(.slice none 0 0),(.slice none 0 0),ai,ai,ai] 232 b λc y=>
 stK 9 c x y λaw g=>
 vK (aR 9 g c) λz=>
 ag prog AL #[z,(ix a 0),(ix a 1)] g λj aa=>
 vK (aP j 0) λab=>
 vK (aP j 1) λk=>
 bh #[(.slice none 0 0),(.slice none 0 0),ai,ai,ai] 38 aa λl ac=>
 stK 5 l ab ac λax d=>
 vK (ak .i .neq k ai) λad=>
 aE ad (
 R (.tuple #[(.slice none 0 0),k]) d) (
 vK (aR 9 d c) λae=>
 ag prog AK #[ae,(ix a 0),(ix a 1)] d λm aj=>
 vK (aP m 0) λn=>
 vK (aP m 1) λo=>
 ag prog vI #[n,o,a3] aj λal e=>
 vK (unV .not al) λam=>
 aE am (
 R (.tuple #[(.slice none 0 0),(af 5)]) e) (
 vK (aR 5 e l) λan=>
 du #[(.slice none 0 0),(.slice none 0 0),ai,ai,ai] 38 1 [(0,5,an)] e λao ap=>
 dy (.agg #[.slice none 0 0,.slice none 0 0,ai,ai,ai]) 38 5 72 (ix a 2) ao ap λaq ar=>
 vK (ak .i .add (ix a 3) aG) λau=>
 u [n,o,aq,au] ar))) (
 R (.tuple #[(ix a 2),ai]) b)))
theorem Sx (H:HH a0 a1 a2 a3 h R):ag prog DB #[a0,a1,a2,a3] h R:=fk f83 (.s .z (.s (.s .z (.s (.s .z .z) .z)) (.s (.s .z (.s (.s .z .z) .z)) (.s .z (.s (.s .z (.l 72057594004403974 [1,2,10,25] (.s .z (.s (.s .z .z) (.s (.s .z (.s .z (.s (.s .z (.s (.s .z .z) .z)) (.s .z (.s (.s .z (.s (.s .z .z) .z)) .z))))) .z))))) (.s .z .z)))))) H
def Fx (a0:Value)(h:ah)(R:Value→ah→Prop):Prop:=
 vK (aC a0) λe=>
 bA [(.slice none 0 0),ai] h λa u b f=>
 vK (ak .i .lss (ix a 1) e) λg=>
 aE g (
 vK (bu 9 a0 (ix a 1)) λj=>
 vK (aR 9 b j) λk=>
 bh #[ai,ai,ai,ai,(.slice none 0 0),(.slice none 0 0),ai,ai,ai] 31 b λc l=>
 stK 9 c k l λv d=>
 vK (aR 9 d c) λm=>
 ag prog DI #[m] d λn o=>
 du #[ai,ai,ai,ai,(.slice none 0 0),(.slice none 0 0),ai,ai,ai] 232 1 [(0,9,n)] o λp q=>
 dy (.agg #[ai,ai,ai,ai,.slice none 0 0,.slice none 0 0,ai,ai,ai]) 232 9 104 (ix a 0) p q λr s=>
 vK (ak .i .add (ix a 1) aG) λt=>
 f [r,t] s) (
 R (ix a 0) b)
theorem Qt (H:Fx a0 h R):ag prog AW #[a0] h R:=fk f84 (.s .z (.s .z (.s (.s .z (.l 261928 [3,8] (.s .z (.s (.s .z .z) (.s (.s .z .z) .z))))) (.s .z .z)))) H
def HG (a0 a1 a2:Value)(h:ah)(R:Value→ah→Prop):Prop:=
 bh (Value.cells a0) 38 h λc t=>
 bA [(.slice none 0 0),ai] t λd cb j u=>
 vK (aB 1 c) λv=>
 vK (ldV j v) λw=>
 vK (aC w) λx=>
 vK (ak .i .lss (ix d 1) x) λy=>
 aE y (
 bA [(ix d 0),ai] j λa cc e z=>
 vK (aB 0 c) λaa=>
 vK (ldV e aa) λab=>
 vK (aC ab) λac=>
 vK (ak .i .lss (ix a 1) ac) λad=>
 aE ad (
 vK (aC (ix a 0)) λae=>
 vK (aB 1 c) λaf=>
 vK (ldV e af) λaj=>
 ag prog AJ #[aj] e λal am=>
 vK ((aQ #[ai,ai,ai,ai,ai,ai,ai,ai,ai,ai] [(0,1,ae),(1,1,(ix a 1)),(2,1,(ix d 1)),(3,1,a1),(4,1,a2),(9,1,al)]).map .agg) λan=>
 bh #[ai,ai,ai,ai,ai,ai,ai,ai,ai,ai] 59 am λb ao=>
 stK 10 b an ao λcd f=>
 fR (λo=>
 vK (ak .i .add (ix a 1) a1) λap=>
 vK (aB 0 c) λaq=>
 vK (ldV f aq) λar=>
 vK (aC ar) λau=>
 vK (ak .i .gtr ap au) λav=>
 aE av (
 vK (aB 0 c) λaw=>
 vK (ldV f aw) λax=>
 vK (aC ax) λay=>
 vK (ak .i .sub ay (ix a 1)) λaz=>
 vK (aB 3 b) λa3=>
 stK 1 a3 az f λce a4=>
 o [] a4) (
 o [] f))
 λcf cg g=>
 fR (λp=>
 vK (ak .i .add (ix d 1) a2) λa5=>
 vK (aB 1 c) λa6=>
 vK (ldV g a6) λa7=>
 vK (aC a7) λa8=>
 vK (ak .i .gtr a5 a8) λa9=>
 aE a9 (
 vK (aB 1 c) λba=>
 vK (ldV g ba) λbb=>
 vK (aC bb) λbc=>
 vK (ak .i .sub bc (ix d 1)) λbd=>
 vK (aB 4 b) λbe=>
 stK 1 be bd g λch bf=>
 p [] bf) (
 p [] g))
 λci cj k=>
 vK (aB 0 c) λbg=>
 vK (ldV k bg) λbi=>
 vK (aB 3 b) λbj=>
 vK (ldV k bj) λbk=>
 vK (ak .i .add (ix a 1) bk) λbl=>
 ag prog sD #[bi,(ix a 1),bl] k λl m=>
 vK (aP l 0) λq=>
 vK (aP l 1) λbm=>
 vK (aP l 2) λck=>
 vK (aB 1 c) λbn=>
 vK (ldV m bn) λbo=>
 vK (aB 4 b) λbp=>
 vK (ldV m bp) λbq=>
 vK (ak .i .add (ix d 1) bq) λbr=>
 ag prog sD #[bo,(ix d 1),br] m λn bs=>
 vK (aP n 0) λr=>
 vK (aP n 1) λbt=>
 vK (aP n 2) λcl=>
 vK (aB 5 b) λbu=>
 stK 1 bu q bs λcm bv=>
 vK (ak .i .sub bm q) λbw=>
 vK (aB 7 b) λbx=>
 stK 1 bx bw bv λcn bz=>
 vK (aB 6 b) λb0=>
 stK 1 b0 r bz λco b1=>
 vK (ak .i .sub bt r) λb2=>
 vK (aB 8 b) λb3=>
 stK 1 b3 b2 b1 λcp s=>
 vK (aR 10 s b) λb4=>
 du #[ai,ai,ai,ai,ai,ai,ai,ai,ai,ai] 59 1 [(0,10,b4)] s λb5 b6=>
 dy (.agg #[ai,ai,ai,ai,ai,ai,ai,ai,ai,ai]) 59 10 80 (ix a 0) b5 b6 λb7 b8=>
 vK (ak .i .add (ix a 1) a1) λb9=>
 z [b7,b9] b8) (
 vK (ak .i .add (ix d 1) a2) λca=>
 u [(ix a 0),ca] e)) (
 R (ix d 0) j)
theorem St (H:HG a0 a1 a2 h R):ag prog lX #[a0,a1,a2] h R:=fk f85 (.s .z (.s .z (.s (.s .z (.l 649037107316853453566312041152384 [7,8] (.s (.s .z (.s .z .z)) (.s (.s .z (.l 649037107316853453566312007728768 [7,9] (.s (.s .z (.s .z .z)) (.s (.s .z (.j 72048797944905728 [] (.s .z (.s .z .z)) (.j 590223752764667723776 [] (.s .z (.s .z .z)) (.s .z (.s .z (.s .z (.s .z (.s .z (.s .z .z))))))))) .z)))) .z)))) (.s .z .z)))) H
def HE (a0:Value)(h:ah)(R:Value→ah→Prop):Prop:=
 bh #[ai,(.slice none 0 0),(.bool false)] 43 h λa b=>
 vK (ak .i .lss a0 aG) λg=>
 aE g (
 vK (ak .i .gtr aG (af 4096)) λj=>
 aE j (
 vK ((aQ #[ai,(.slice none 0 0),(.bool false)] [(0,1,(af 4096))]).map .agg) λk=>
 stK 3 a k b λt c=>
 vK (aR 3 c a) λl=>
 R l c) (
 vK ((aQ #[ai,(.slice none 0 0),(.bool false)] [(0,1,aG)]).map .agg) λm=>
 stK 3 a m b λu d=>
 vK (aR 3 d a) λn=>
 R n d)) (
 vK (ak .i .gtr a0 (af 4096)) λo=>
 aE o (
 vK ((aQ #[ai,(.slice none 0 0),(.bool false)] [(0,1,(af 4096))]).map .agg) λp=>
 stK 3 a p b λv e=>
 vK (aR 3 e a) λq=>
 R q e) (
 vK ((aQ #[ai,(.slice none 0 0),(.bool false)] [(0,1,a0)]).map .agg) λr=>
 stK 3 a r b λw f=>
 vK (aR 3 f a) λs=>
 R s f))
theorem Ss (H:HE a0 h R):ag prog lW #[a0] h R:=fk f86 (.s .z (.s (.s .z (.s .z .z)) (.s (.s .z (.s .z .z)) (.s .z .z)))) H
def HC (a0:Value)(h:ah)(R:Value→ah→Prop):Prop:=
 fR (λc=>
 vK (ak .i .lss a0 aG) λk=>
 aE k (
 c [aG] h) (
 c [a0] h))
 λd x e=>
 fR (λf=>
 vK (ak .i .gtr (ix d 0) (af 512)) λl=>
 aE l (
 f [(af 512)] e) (
 f [(ix d 0)] e))
 λb y m=>
 bA [(.slice none 0 0),ai] m λa z g n=>
 vK (ak .i .lss (ix a 1) (ix b 0)) λo=>
 aE o (
 mkK ai 3 1 8 (ix b 0) (ix b 0) g λj p=>
 vK (bu 1 j (ix a 1)) λq=>
 stK 1 q aG p λaa r=>
 du #[(.slice none 0 0)] 41 1 [(0,1,j)] r λs t=>
 dy (.slice none 0 0) 41 1 24 (ix a 0) s t λu v=>
 vK (ak .i .add (ix a 1) aG) λw=>
 n [u,w] v) (
 R (ix a 0) g)
theorem Sr (H:HC a0 h R):ag prog lV #[a0] h R:=fk f87 (.s .z (.j 193 [0] (.s .z (.s .z .z)) (.j 769 [0] (.s .z (.s .z .z)) (.s .z (.s (.s .z (.l 16775224 [3,11] (.s .z (.s (.s .z .z) (.s (.s .z (.s .z (.s .z .z))) .z))))) (.s .z .z)))))) H
def BR (a0 a1 a2:Value)(h:ah)(R:Value→ah→Prop):Prop:=
 bh (Value.cells a0) 38 h λo p=>
 vK (aB 1 o) λw=>
 vK (ldV p w) λq=>
 vK (aC q) λx=>
 bA [ai,ai] p λb bv f r=>
 vK (ak .i .lss (ix b 1) x) λy=>
 aE y (
 vK (bu 2 q (ix b 1)) λz=>
 vK (aR 2 f z) λaa=>
 bh #[ai,(.slice none 0 0)] 240 f λg ab=>
 stK 2 g aa ab λbw d=>
 vK (aB 1 g) λac=>
 vK (ldV d ac) λad=>
 vK (aC ad) λae=>
 vK (ak .i .gtr ae (ix b 0)) λaj=>
 aE aj (
 vK (aB 1 g) λal=>
 vK (ldV d al) λam=>
 vK (aC am) λan=>
 vK (ak .i .add (ix b 1) aG) λao=>
 r [an,ao] d) (
 vK (ak .i .add (ix b 1) aG) λap=>
 r [(ix b 0),ap] d)) (
 bA [(.slice none 0 0),(.slice none 0 0),ai] f λc bx e aq=>
 vK (ak .i .lss (ix c 2) a2) λar=>
 aE ar (
 vK (aB 1 o) λau=>
 vK (ldV e au) λav=>
 vK (ak .i .add a1 (ix c 2)) λaw=>
 vK (bu 2 av aw) λax=>
 vK (aR 2 e ax) λay=>
 bh #[ai,(.slice none 0 0)] 240 e λj az=>
 stK 2 j ay az λbz s=>
 vK (aB 1 j) λa3=>
 vK (ldV s a3) λa4=>
 vK (aC a4) λa5=>
 bA [(ix c 0),(ix c 1),ai] s λa b0 k l=>
 vK (ak .i .lss (ix a 2) a5) λa6=>
 aE a6 (
 vK (aB 0 j) λa7=>
 vK (ldV k a7) λa8=>
 vK (ak .i .add a8 (ix a 2)) λm=>
 ag prog G9 #[(ix a 1),m] k λa9 t=>
 aE a9 (
 vK (ak .i .add (ix a 2) aG) λba=>
 l [(ix a 0),(ix a 1),ba] t) (
 vK ((aQ #[ai,ai] [(0,1,aG),(1,1,m)]).map .agg) λbb=>
 du #[ai,ai] 198 1 [(0,2,bb)] t λbc bd=>
 dy (.agg #[ai,ai]) 198 2 16 (ix a 0) bc bd λu be=>
 du #[ai] 2 1 [(0,1,m)] be λbf bg=>
 dy ai 2 1 8 (ix a 1) bf bg λn v=>
 vK (aC n) λbi=>
 vK (ak .i .gtr bi (ix b 0)) λbj=>
 aE bj (
 vK (yu 1 n (some aG) none) λbk=>
 vK (ak .i .add (ix a 2) aG) λbl=>
 l [u,bk,bl] v) (
 vK (ak .i .add (ix a 2) aG) λbm=>
 l [u,n,bm] v))) (
 vK (ak .i .add a1 (ix c 2)) λbn=>
 vK ((aQ #[ai,ai] [(0,1,(af 2)),(1,1,bn)]).map .agg) λbo=>
 du #[ai,ai] 198 1 [(0,2,bo)] k λbp bq=>
 dy (.agg #[ai,ai]) 198 2 16 (ix a 0) bp bq λbr bs=>
 vK (ak .i .add (ix c 2) aG) λbt=>
 aq [br,(ix a 1),bt] bs)) (
 R (ix c 0) e))
theorem Np (H:BR a0 a1 a2 h R):ag prog yJ #[a0,a1,a2] h R:=fk f88 (.s .z (.s .z (.s (.s .z (.l 4294443648 [7,19] (.s .z (.s (.s .z .z) (.s (.s .z (.s .z (.s .z .z))) .z))))) (.s .z (.s .z (.s (.s .z (.l 1208925819614620584836096 [10,11,33] (.s .z (.s (.s .z .z) (.s (.s .z (.s .z (.s (.s .z (.l 4722366412500901088256 [10,11,46] (.s .z (.s (.s .z .z) (.s (.s .z (.s .z (.s (.s .z (.s .z .z)) (.s .z (.s .z (.s .z (.s .z .z))))))) .z))))) .z))) .z))))) (.s .z .z))))))) H
def EV (a0 a1 a2 a3 a4 a5:Value)(h:ah)(R:Value→ah→Prop):Prop:=
 bh (Value.cells a0) 48 h λb y=>
 bh aK 48 y λj c=>
 vK (aB 11 b) λz=>
 vK (ldV c z) λaa=>
 vK (bu 1 aa a1) λab=>
 vK (ldV c ab) λac=>
 vK (ak .i .add a3 a4) λad=>
 vK ((aQ #[ai,(.slice none 0 0),ai,ai,ai,(.bool false)] [(0,1,a1),(1,1,ac),(2,1,a2),(3,1,a3),(4,1,ad),(5,1,a5)]).map .agg) λae=>
 bh #[ai,(.slice none 0 0),ai,ai,ai,(.bool false)] 124 c λk af=>
 stK 6 k ae af λba a=>
 fR (λd=>
 bO a λS=>
 vK (aB 13 b) λag=>
 qK S (λa=>ldV a ag) λe=>
 qK S (λa=>aR 6 a k) λf=>
 (du #[] 124 0 [] a λl g=>
 S g∧((dy (.agg #[ai,.slice none 0 0,ai,ai,ai,.bool false]) 124 6 64 l e g λaj m=>
 S m∧(du #[ai,(.slice none 0 0),ai,ai,ai,(.bool false)] 124 1 [(0,6,f)] m λal n=>
 S n∧(dy (.agg #[ai,.slice none 0 0,ai,ai,ai,.bool false]) 124 6 64 aj al n λam o=>
 S o∧(vK (aB 13 b) λan=>
 stK 1 an am o λbb ao=>
 d [] ao))))∧(du #[ai,(.slice none 0 0),ai,ai,ai,(.bool false)] 124 1 [(0,6,f)] g λap p=>
 S p∧(dy (.agg #[ai,.slice none 0 0,ai,ai,ai,.bool false]) 124 6 64 l e p λaq q=>
 S q∧(dy (.agg #[ai,.slice none 0 0,ai,ai,ai,.bool false]) 124 6 64 aq ap q λar r=>
 S r∧(vK (aB 13 b) λau=>
 stK 1 au ar r λbc av=>
 d [] av))))))∧(du #[ai,(.slice none 0 0),ai,ai,ai,(.bool false)] 124 1 [(0,6,f)] a λaw s=>
 S s∧(du #[] 124 0 [] s λax t=>
 S t∧(dy (.agg #[ai,.slice none 0 0,ai,ai,ai,.bool false]) 124 6 64 ax e t λay u=>
 S u∧(dy (.agg #[ai,.slice none 0 0,ai,ai,ai,.bool false]) 124 6 64 ay aw u λaz v=>
 S v∧(vK (aB 13 b) λa6=>
 stK 1 a6 az v λbd a7=>
 d [] a7))))))
 λbe bf w=>
 vK (aR 20 w b) λa8=>
 stK 20 j a8 w λbg x=>
 vK (aR 20 x j) λa9=>
 R a9 x
theorem PZ (H:EV a0 a1 a2 a3 a4 a5 h R):ag prog vH #[a0,a1,a2,a3,a4,a5] h R:=fk f89 (.s .z (.s .z (.j 34225520640 [] (.d (.op 1 .r (.op 2 .r (.op 4 .r (.alt (.op 0 .e (.alt (.op 3 .e (.op 5 .e (.op 6 .e (.op 7 .r (.op 8 .n .nil))))) (.op 5 .e (.op 3 .e (.op 6 .e (.op 7 .r (.op 8 .n .nil))))))) (.op 5 .e (.op 0 .e (.op 3 .e (.op 6 .e (.op 7 .r (.op 8 .n .nil))))))))))) (.s .z .z)))) H
def o0 (a0:Value)(h:ah)(R:Value→ah→Prop):Prop:=
 vK (aT a0) λb=>
 vK (aB 2 b) λc=>
 vK (ldV h c) λa=>
 vK (gV a false (some a0)) λd=>
 vK (gV a false (aT d)) λe=>
 vK (gV a false (aB 1 e)) λf=>
 vK (gV a false (ldV h f)) λg=>
 vK (gV a false (aC g)) λj=>
 vK (gV a false (some a0)) λk=>
 vK (gV a false (aT k)) λl=>
 vK (gV a false (aB 0 l)) λm=>
 vK (gV a false (ldV h m)) λn=>
 vK (gV a false (ak .i .lss j n)) λo=>
 vK (aF a (.bool true) o) λp=>
 R p h
theorem Ai (H:o0 a0 h R):ag prog iU #[a0] h R:=fk f90 (.s .z (.s .z .z)) H
def qQ (a0:Value)(h:ah)(R:Value→ah→Prop):Prop:=
 vK (aT a0) λa=>
 vK (aB 2 a) λb=>
 vK (ldV h b) λc=>
 R c h
theorem BF (H:qQ a0 h R):ag prog jq #[a0] h R:=fk f91 (.s .z (.s .z .z)) H
def xH (a0:Value)(h:ah)(R:Value→ah→Prop):Prop:=
 vK (aT a0) λa=>
 vK (aB 11 a) λb=>
 vK (ldV h b) λc=>
 vK (aC c) λd=>
 vK (aT a0) λe=>
 vK (aB 6 e) λf=>
 vK (ldV h f) λg=>
 vK (aC g) λj=>
 vK (ak .i .eql d j) λk=>
 R k h
theorem IK (H:xH a0 h R):ag prog rX #[a0] h R:=fk f92 (.s .z (.s .z .z)) H
def uO (a0 a1:Value)(h:ah)(R:Value→ah→Prop):Prop:=
 vK (aT a0) λb=>
 vK (aB 2 b) λc=>
 vK (ldV h c) λd=>
 aE d (
 R (af 2) h) (
 ag prog iU #[a0] h λe a=>
 vK (unV .not e) λf=>
 aE f (
 R aG a) (
 vK (aT a0) λg=>
 vK (aB 1 g) λi=>
 vK (ldV a i) λj=>
 du #[ai] 3 1 [(0,1,a1)] a λk l=>
 dy ai 3 1 8 j k l λm n=>
 vK (aT a0) λo=>
 vK (aB 1 o) λp=>
 stK 1 p m n λr q=>
 R ai q))
theorem ED (H:uO a0 a1 h R):ag prog oh #[a0,a1] h R:=fk f93 (.s .z (.s (.s .z (.s (.s .z .z) (.s .z (.s (.s .z .z) .z)))) (.s .z (.s .z .z)))) H
def uS (a0 a1:Value)(h:ah)(R:Value→ah→Prop):Prop:=
 ag prog lJ #[a0,a1] h λb d=>
 ag prog kg #[a0,a1] d λe a=>
 aE e (
 vK (aT a0) λf=>
 vK (aB 0 f) λg=>
 vK (ldV a g) λj=>
 vK (bu 1 j a1) λk=>
 vK (ldV a k) λc=>
 vK (bu 1 c a1) λl=>
 vK (ldV a l) λm=>
 vK (ak .i .add m aG) λn=>
 vK (bu 1 c a1) λo=>
 stK 1 o n a λq p=>
 R b p) (
 R b a)
theorem EJ (H:uS a0 a1 h R):ag prog iT #[a0,a1] h R:=fk f94 (.s .z (.s .z (.s (.s .z (.s .z .z)) (.s .z .z)))) H
def uT (a0 a1 a2:Value)(h:ah)(R:Value→ah→Prop):Prop:=
 ag prog kg #[a0,a1] h λf d=>
 vK (unV .not f) λa=>
 vK (gV a false (some a2)) λg=>
 vK (gV a false (aC g)) λj=>
 vK (gV a false (some a0)) λk=>
 vK (gV a false (aT k)) λl=>
 vK (gV a false (aB 0 l)) λm=>
 vK (gV a false (ldV d m)) λn=>
 vK (gV a false (aC n)) λo=>
 vK (gV a false (ak .i .neq j o)) λp=>
 vK (aF a (.bool true) p) λc=>
 vK (gV c false (some a2)) λq=>
 gK c false (λr=>ag prog ib #[q] d r) d λs b=>
 vK (gV c false (ak .i .lss s ai)) λt=>
 vK (aF c (.bool true) t) λu=>
 aE u (
 R (.bool false) b) (
 bO b λS=>
 vK (aT a0) λv=>
 vK (aB 0 v) λw=>
 qK S (λb=>ldV b w) λx=>
 vK (aT a0) λy=>
 vK (aB 0 y) λz=>
 qK S (λb=>ldV b z) λaa=>
 vK (bu 1 aa a1) λab=>
 qK S (λb=>ldV b ab) λac=>
 ag prog A3 #[ac,a2] b λad e=>
 S e∧(vK (bu 1 x a1) λae=>
 stK 1 ae ad e λaj af=>
 R (.bool true) af))
theorem EL (H:uT a0 a1 a2 h R):ag prog gE #[a0,a1,a2] h R:=fk f95 (.s .z (.s (.s .z (.s (.s .z .z) .z)) (.s (.d (.op 0 .r (.op 1 .r (.op 2 .r (.op 3 .r (.op 4 .r (.op 5 .r (.op 6 .r (.op 7 .r (.op 8 .r (.op 9 .r (.op 10 .r (.op 11 .r (.op 12 .r (.op 13 .e (.op 14 .r (.op 15 .n .nil))))))))))))))))) (.s .z .z)))) H
def sY (a0 a1 a2:Value)(h:ah)(R:Value→ah→Prop):Prop:=
 vK (ldV h a1) λd=>
 ag prog rV #[d,a0] h λb a=>
 vK (ak .p .neq b (.pointer none)) λe=>
 aE e (
 bO a λS=>
 qK S (λa=>ldV a a1) λf=>
 vK (aT f) λg=>
 vK (aB 7 g) λj=>
 qK S (λa=>ldV a j) λk=>
 qK S (λa=>ldV a a2) λl=>
 vK (ak .i .sub l aG) λm=>
 ag prog kC #[b] a λn c=>
 S c∧(vK (bu 1 k m) λo=>
 stK 1 o n c λr q=>
 R b q)) (
 R b a)
theorem CW (H:sY a0 a1 a2 h R):ag prog ii #[a0,a1,a2] h R:=fk f96 (.s .z (.s .z (.s (.s .z (.s (.d (.op 0 .r (.op 1 .r (.op 2 .r (.op 3 .r (.op 4 .r (.op 5 .r (.op 6 .r (.op 7 .e (.op 8 .r (.op 9 .n .nil))))))))))) .z)) (.s .z .z)))) H
def xE (a0 a1:Value)(h:ah)(R:Value→ah→Prop):Prop:=
 vK (aT a0) λg=>
 vK (aB 2 g) λj=>
 vK (ldV h j) λk=>
 ag prog gC #[k,a1] h λb l=>
 vK (aP b 0) λm=>
 vK (aP b 1) λac=>
 bh #[ai,ai,ai,ai,ai,ai,ai,ai,ai,ai] 116 l λc n=>
 stK 10 c m n λad a=>
 bO a λS=>
 vK (aT a0) λo=>
 vK (aB 0 o) λp=>
 qK S (λa=>ldV a p) λq=>
 vK (aT a0) λr=>
 vK (aB 1 r) λs=>
 qK S (λa=>ldV a s) λt=>
 vK (aT a0) λu=>
 vK (aB 2 u) λv=>
 qK S (λa=>ldV a v) λw=>
 qK S (λa=>aR 10 a c) λx=>
 ag prog js #[w] a λy d=>
 S d∧(ag prog p8 #[q,t,y,x] d λe f=>
 vK (aP e 0) λz=>
 vK (aP e 1) λaa=>
 vK (ak .i .neq aa ai) λab=>
 aE ab (
 R (.pointer none) f) (
 R z f))
theorem IH (H:xE a0 a1 h R):ag prog rV #[a0,a1] h R:=fk f97 (.s .z (.s .z (.s (.d (.op 0 .r (.op 1 .r (.op 2 .r (.op 3 .r (.op 4 .r (.op 5 .r (.op 6 .r (.op 7 .r (.op 8 .r (.op 9 .r (.op 10 .r (.op 11 .r (.op 13 .r (.op 12 .e (.op 14 .n (.op 15 .r (.op 16 .r (.op 17 .r (.op 18 .r (.op 19 .r .nil))))))))))))))))))))) (.s (.s .z (.s (.s .z .z) .z)) (.s .z .z))))) H
def uJ (a0:Value)(h:ah)(R:Value→ah→Prop):Prop:=
 vK (aT a0) λa=>
 vK (aB 15 a) λb=>
 vK (ldV h b) λc=>
 ag prog qi #[c] h λd e=>
 R d e
theorem Ey (H:uJ a0 h R):ag prog kC #[a0] h R:=fk f98 (.s .z (.s .z .z)) H
def wm (a0 a1 a2:Value)(h:ah)(R:Value→ah→Prop):Prop:=
 bh (Value.cells a2) 148 h λe d=>
 fR (λf=>
 bO d λS=>
 vK (aT a0) λac=>
 vK (aB 2 ac) λad=>
 qK S (λd=>ldV d ad) λg=>
 vK (aB 1 e) λae=>
 qK S (λd=>ldV d ae) λj=>
 (ag prog gC #[g,j] d λk l=>
 S l∧(vK (aP k 0) λaf=>
 vK (aP k 1) λcf=>
 bh #[ai,ai,ai,ai,ai,ai,ai,ai,ai,ai] 116 l λm n=>
 S n∧(stK 10 m af n λcg o=>
 S o∧(f [m] o))))∧(bh #[ai,ai,ai,ai,ai,ai,ai,ai,ai,ai] 116 d λp q=>
 S q∧(ag prog gC #[g,j] q λr s=>
 S s∧(vK (aP r 0) λaj=>
 vK (aP r 1) λch=>
 stK 10 p aj s λci t=>
 S t∧(f [p] t)))))
 λu cj a=>
 vK (aT a0) λal=>
 vK (aB 7 al) λam=>
 vK (ldV a am) λan=>
 vK (ak .i .sub a1 aG) λao=>
 vK (bu 1 an ao) λap=>
 vK (ldV a ap) λv=>
 vK (aB 2 e) λaq=>
 vK (aB 0 aq) λar=>
 vK (ldV a ar) λau=>
 vK (ak .i .eql au aG) λav=>
 aE av (
 bO a λS=>
 vK (aT a0) λaw=>
 vK (aB 0 aw) λax=>
 qK S (λa=>ldV a ax) λay=>
 vK (aT a0) λaz=>
 vK (aB 0 az) λa3=>
 qK S (λa=>ldV a a3) λa4=>
 ag prog bL #[ay] a λa5 w=>
 S w∧(ag prog aU #[a4] w λa6 c=>
 vK (ak .i .mul a5 a6) λx=>
 bO c λS=>
 vK (aT a0) λa7=>
 vK (aB 2 a7) λa8=>
 qK S (λc=>ldV c a8) λa9=>
 vK (aB 2 e) λba=>
 vK (aB 1 ba) λbb=>
 qK S (λc=>ldV c bb) λbc=>
 vK (aT a0) λbd=>
 vK (aB 0 bd) λbe=>
 qK S (λc=>ldV c be) λbf=>
 ag prog js #[a9] c λbg y=>
 S y∧(vK (qV false 1 2 bg) λbi=>
 ag prog bN #[bf] y λbj z=>
 S z∧(ag prog lZ #[bi,bc,bj] z λbk bl=>
 vK (ak .i .mul bk x) λbm=>
 ag prog ef #[a0,a1,ai,bm,x,(.bool false)] bl λck bn=>
 vK (ak .i .add aG a1) λbo=>
 ag prog ef #[a0,a1,bo,ai,v,(.bool true)] bn λcl bp=>
 R (.tuple #[]) bp)))) (
 vK (aT a0) λbq=>
 vK (aB 1 bq) λbr=>
 vK (ldV a br) λbs=>
 ag prog aU #[bs] a λaa bt=>
 vK (ak .i .add aG a1) λbv=>
 ag prog ef #[a0,a1,bv,ai,v,(.bool false)] bt λcm b=>
 bO b λS=>
 vK (aB 2 e) λbw=>
 vK (aB 1 bw) λbx=>
 qK S (λb=>ldV b bx) λbz=>
 vK (aT a0) λb0=>
 vK (aB 1 b0) λb1=>
 qK S (λb=>ldV b b1) λb2=>
 vK (aB 1 (ix u 0)) λb3=>
 vK (aB 0 b3) λb4=>
 qK S (λb=>ldV b b4) λb5=>
 vK (aB 1 (ix u 0)) λb6=>
 vK (aB 2 b6) λb7=>
 qK S (λb=>ldV b b7) λb8=>
 vK (ak .i .mul b8 aa) λb9=>
 ag prog bL #[b2] b λca ab=>
 S ab∧(vK (ak .i .mul bz ca) λcb=>
 vK (ak .i .add cb b5) λcc=>
 vK (ak .i .mul cc aa) λcd=>
 ag prog ef #[a0,a1,aG,cd,b9,(.bool true)] ab λcn ce=>
 R (.tuple #[]) ce))
theorem Gp (H:wm a0 a1 a2 h R):ag prog qy #[a0,a1,a2] h R:=fk f99 (.s .z (.j 4190400 [6] (.d (.op 0 .r (.op 1 .r (.op 2 .r (.op 3 .r (.op 4 .r (.op 5 .r (.alt (.op 6 .e (.op 7 .r (.op 8 .r (.op 9 .r (.op 10 .e (.op 11 .e (.op 12 .r .nil))))))) (.op 10 .e (.op 6 .e (.op 7 .r (.op 8 .r (.op 9 .r (.op 11 .e (.op 12 .r .nil))))))))))))))) (.s .z (.s (.s .z (.s (.s (.d (.op 0 .r (.op 1 .r (.op 2 .r (.op 3 .r (.op 5 .r (.op 6 .r (.op 7 .r (.op 8 .r (.op 4 .e (.op 9 .n (.op 10 .r (.op 11 .r .nil))))))))))))) (.s (.d (.op 0 .r (.op 1 .r (.op 2 .r (.op 3 .r (.op 6 .r (.op 7 .r (.op 8 .r (.op 9 .r (.op 10 .r (.op 11 .r (.op 12 .r (.op 4 .e (.op 5 .r (.op 13 .e (.op 14 .n (.op 15 .r .nil))))))))))))))))) (.s .z (.s .z .z)))) .z)) (.s .z (.s .z (.d (.op 0 .r (.op 1 .r (.op 2 .r (.op 3 .r (.op 4 .r (.op 5 .r (.op 6 .r (.op 7 .r (.op 8 .r (.op 11 .r (.op 12 .r (.op 13 .r (.op 15 .r (.op 17 .r (.op 18 .r (.op 19 .r (.op 20 .r (.op 21 .r (.op 9 .e (.op 10 .r (.op 14 .r (.op 16 .r (.op 22 .n .nil)))))))))))))))))))))))))))))) H
def lK (a0:Value)(h:ah)(R:Value→ah→Prop):Prop:=
 vK (ak .sl .eql a0 (.slice none 0 0)) λa=>
 aE a (
 R (.slice none 0 0) h) (
 du #[] 3 0 [] h λb c=>
 dy ai 3 1 8 b a0 c λd e=>
 R d e)
theorem wJ (H:lK a0 h R):ag prog jc #[a0] h R:=fk f100 (.s .z (.s (.s .z (.s (.s .z .z) .z)) (.s .z .z))) H
def sZ (a0:Value)(h:ah)(R:Value→ah→Prop):Prop:=
 bO h λS=>
 vK (aT a0) λb=>
 vK (aB 0 b) λc=>
 vK (aB 0 c) λd=>
 qK S (λh=>ldV h d) λe=>
 vK (aT a0) λf=>
 vK (aB 3 f) λg=>
 qK S (λh=>ldV h g) λi=>
 ag prog bM #[e] h λj a=>
 S a∧(ag prog vO #[j,i] a λk l=>
 R k l)
theorem CX (H:sZ a0 h R):ag prog ij #[a0] h R:=fk f101 (.s .z (.s (.d (.op 0 .r (.op 1 .r (.op 2 .r (.op 3 .r (.op 4 .r (.op 6 .r (.op 7 .r (.op 8 .r (.op 9 .r (.op 5 .e (.op 10 .n (.op 11 .r .nil))))))))))))) .z)) H
def Ft (a0 a1:Value)(h:ah)(R:Value→ah→Prop):Prop:=
 vK (ak .i .add a0 a1) λa=>
 vK (ak .i .sub a aG) λb=>
 vK (ak .i .quo b a1) λc=>
 R c h
theorem Qp (H:Ft a0 a1 h R):ag prog vO #[a0,a1] h R:=fk f102 (.s .z (.s .z .z)) H
def xJ (a0 a1:Value)(h:ah)(R:Value→ah→Prop):Prop:=
 bh #[ai,ai,ai,ai,ai,ai,ai,ai,ai,ai] 116 h λf l=>
 vK (ak .i .lss a1 ai) λe=>
 vK (gV e false (some a1)) λaf=>
 vK (gV e false (some a0)) λaj=>
 gK e false (λal=>ag prog eK #[aj] l al) l λam d=>
 vK (gV e false (ak .i .geq af am)) λan=>
 vK (aF e (.bool true) an) λao=>
 aE ao (
 vK ((aQ #[ai,ai,ai,ai,ai,ai,ai,ai,ai,ai] []).map .agg) λap=>
 stK 10 f ap d λcd m=>
 vK (aR 10 m f) λaq=>
 R (.tuple #[aq,(.bool false)]) m) (
 fR (λg=>
 bO d λS=>
 vK (aT a0) λar=>
 vK (aB 0 ar) λau=>
 vK (aB 1 au) λav=>
 qK S (λd=>ldV d av) λj=>
 (ag prog nI #[a0,a1] d λn k=>
 S k∧((ag prog gw #[j] k λaw o=>
 S o∧(vK ((aQ #[ai,ai,ai,ai,ai,ai,ai,ai,ai,ai] [(0,1,a1),(1,4,n),(9,1,aw)]).map .agg) λax=>
 bh #[ai,ai,ai,ai,ai,ai,ai,ai,ai,ai] 116 o λp q=>
 S q∧(stK 10 p ax q λce r=>
 S r∧(g [p] r))))∧(bh #[ai,ai,ai,ai,ai,ai,ai,ai,ai,ai] 116 k λs t=>
 S t∧(ag prog gw #[j] t λay u=>
 S u∧(vK ((aQ #[ai,ai,ai,ai,ai,ai,ai,ai,ai,ai] [(0,1,a1),(1,4,n),(9,1,ay)]).map .agg) λaz=>
 stK 10 s az u λcf v=>
 S v∧(g [s] v))))))∧(bh #[ai,ai,ai,ai,ai,ai,ai,ai,ai,ai] 116 d λw x=>
 S x∧(ag prog nI #[a0,a1] x λa2 y=>
 S y∧(ag prog gw #[j] y λa3 z=>
 S z∧(vK ((aQ #[ai,ai,ai,ai,ai,ai,ai,ai,ai,ai] [(0,1,a1),(1,4,a2),(9,1,a3)]).map .agg) λa4=>
 stK 10 w a4 z λcg aa=>
 S aa∧(g [w] aa))))))
 λa ch b=>
 bO b λS=>
 vK (aT a0) λa5=>
 vK (aB 0 a5) λa6=>
 vK (aB 0 a6) λa7=>
 qK S (λb=>ldV b a7) λa8=>
 vK (aB 1 (ix a 0)) λa9=>
 vK (aB 0 a9) λba=>
 qK S (λb=>ldV b ba) λbb=>
 vK (aB 1 (ix a 0)) λbc=>
 vK (aB 0 bc) λbd=>
 qK S (λb=>ldV b bd) λbe=>
 vK (aB 1 (ix a 0)) λbf=>
 vK (aB 2 bf) λbg=>
 qK S (λb=>ldV b bg) λbi=>
 vK (ak .i .add be bi) λbj=>
 ag prog ig #[a8,bb,bj] b λab bk=>
 vK (aP ab 0) λbl=>
 vK (aP ab 1) λbm=>
 vK (aB 5 (ix a 0)) λbn=>
 stK 1 bn bl bk λci bo=>
 vK (aB 7 (ix a 0)) λbp=>
 stK 1 bp bm bo λcj c=>
 bO c λS=>
 vK (aT a0) λbq=>
 vK (aB 0 bq) λbr=>
 vK (aB 1 br) λbs=>
 qK S (λc=>ldV c bs) λbt=>
 vK (aB 1 (ix a 0)) λbu=>
 vK (aB 1 bu) λbv=>
 qK S (λc=>ldV c bv) λbw=>
 vK (aB 1 (ix a 0)) λbx=>
 vK (aB 1 bx) λbz=>
 qK S (λc=>ldV c bz) λb0=>
 vK (aB 1 (ix a 0)) λb1=>
 vK (aB 3 b1) λb2=>
 qK S (λc=>ldV c b2) λb3=>
 vK (ak .i .add b0 b3) λb4=>
 ag prog ig #[bt,bw,b4] c λac b5=>
 vK (aP ac 0) λb6=>
 vK (aP ac 1) λb7=>
 vK (aB 6 (ix a 0)) λb8=>
 stK 1 b8 b6 b5 λck b9=>
 vK (aB 8 (ix a 0)) λca=>
 stK 1 ca b7 b9 λcl ad=>
 vK (aR 10 ad (ix a 0)) λcb=>
 stK 10 f cb ad λcm ae=>
 vK (aR 10 ae f) λcc=>
 R (.tuple #[cc,(.bool true)]) ae)
theorem IM (H:xJ a0 a1 h R):ag prog gC #[a0,a1] h R:=fk f103 (.s .z (.s (.s .z (.s (.s .z .z) .z)) (.j 134152256 [6] (.d (.op 0 .r (.op 1 .r (.op 2 .r (.op 4 .r (.op 5 .r (.op 6 .r (.op 7 .r (.op 8 .r (.alt (.op 3 .e (.alt (.op 9 .e (.op 10 .r (.op 11 .e (.op 12 .e .nil)))) (.op 11 .e (.op 9 .e (.op 10 .r (.op 12 .e .nil)))))) (.op 11 .e (.op 3 .e (.op 9 .e (.op 10 .r (.op 12 .e .nil))))))))))))))) (.s (.d (.op 0 .r (.op 1 .r (.op 2 .r (.op 3 .r (.op 4 .r (.op 5 .r (.op 6 .r (.op 7 .r (.op 8 .r (.op 9 .r (.op 10 .r (.op 11 .r (.op 12 .r (.op 13 .r (.op 14 .r (.op 15 .n (.op 16 .r (.op 17 .r (.op 18 .r (.op 19 .r (.op 20 .n (.op 21 .r (.op 22 .n .nil)))))))))))))))))))))))) (.s (.d (.op 0 .r (.op 1 .r (.op 2 .r (.op 3 .r (.op 4 .r (.op 5 .r (.op 6 .r (.op 7 .r (.op 8 .r (.op 9 .r (.op 10 .r (.op 11 .r (.op 12 .r (.op 13 .r (.op 14 .r (.op 15 .n (.op 16 .r (.op 17 .r (.op 18 .r (.op 19 .r (.op 20 .n (.op 21 .r (.op 22 .n .nil)))))))))))))))))))))))) (.s .z .z)))))) H
def y5 (a0 a1:Value)(h:ah)(R:Value→ah→Prop):Prop:=
 bh (Value.cells a0) 81 h λl t=>
 bh (Value.cells a1) 114 t λb a=>
 bO a λS=>
 vK (aB 0 l) λu=>
 qK S (λa=>ldV a u) λv=>
 vK (ak .p .neq v (.pointer none)) λm=>
 vK (gV m true (aB 1 l)) λw=>
 qK S (λa=>gV m true (ldV a w)) λx=>
 vK (gV m true (ak .p .neq x (.pointer none))) λy=>
 vK (aF m y (.bool false)) λn=>
 vK (gV n true (aB 2 b)) λz=>
 qK S (λa=>gV n true (ldV a z)) λaa=>
 vK (gV n true (ak .i .geq aa aG)) λab=>
 vK (aF n ab (.bool false)) λo=>
 vK (gV o true (aB 3 b)) λac=>
 qK S (λa=>gV o true (ldV a ac)) λad=>
 vK (gV o true (ak .i .geq ad aG)) λae=>
 vK (aF o ae (.bool false)) λq=>
 vK (gV q true (aB 0 b)) λaf=>
 qK S (λa=>gV q true (ldV a af)) λaj=>
 vK (gV q true (ak .i .geq aj ai)) λal=>
 vK (aF q al (.bool false)) λr=>
 vK (gV r true (aB 1 b)) λam=>
 qK S (λa=>gV r true (ldV a am)) λan=>
 vK (gV r true (ak .i .geq an ai)) λao=>
 vK (aF r ao (.bool false)) λg=>
 vK (gV g true (aB 0 b)) λap=>
 qK S (λa=>gV g true (ldV a ap)) λaq=>
 vK (gV g true (aB 0 l)) λar=>
 qK S (λa=>gV g true (ldV a ar)) λau=>
 gK g true (λav=>ag prog bM #[au] a av) a λaw j=>
 S j∧(vK (gV g true (ak .i .lss aq aw)) λax=>
 vK (aF g ax (.bool false)) λk=>
 vK (gV k true (aB 1 b)) λay=>
 qK S (λj=>gV k true (ldV j ay)) λaz=>
 vK (gV k true (aB 1 l)) λa2=>
 qK S (λj=>gV k true (ldV j a2)) λa3=>
 gK k true (λa4=>ag prog bM #[a3] j a4) j λa5 e=>
 S e∧(vK (gV k true (ak .i .lss az a5)) λa6=>
 vK (aF k a6 (.bool false)) λc=>
 vK (gV c true (aB 2 b)) λa7=>
 qK S (λe=>gV c true (ldV e a7)) λa8=>
 vK (gV c true (aB 0 l)) λa9=>
 qK S (λe=>gV c true (ldV e a9)) λba=>
 vK (gV c true (aB 0 b)) λbb=>
 qK S (λe=>gV c true (ldV e bb)) λbc=>
 gK c true (λbd=>ag prog bM #[ba] e bd) e λbe f=>
 S f∧(vK (gV c true (ak .i .sub be bc)) λbf=>
 vK (gV c true (ak .i .leq a8 bf)) λbg=>
 vK (aF c bg (.bool false)) λd=>
 vK (gV d true (aB 3 b)) λbi=>
 qK S (λf=>gV d true (ldV f bi)) λbj=>
 vK (gV d true (aB 1 l)) λbk=>
 qK S (λf=>gV d true (ldV f bk)) λbl=>
 vK (gV d true (aB 1 b)) λbm=>
 qK S (λf=>gV d true (ldV f bm)) λbn=>
 gK d true (λbo=>ag prog bM #[bl] f bo) f λbp s=>
 S s∧(vK (gV d true (ak .i .sub bp bn)) λbq=>
 vK (gV d true (ak .i .leq bj bq)) λbr=>
 vK (aF d br (.bool false)) λbs=>
 R bs s))))
theorem Kf (H:y5 a0 a1 h R):ag prog nE #[a0,a1] h R:=fk f104 (.s .z (.s (.d (.op 0 .r (.op 1 .r (.op 2 .r (.op 3 .r (.op 4 .r (.op 5 .r (.op 6 .r (.op 7 .r (.op 8 .r (.op 9 .r (.op 10 .r (.op 11 .r (.op 12 .r (.op 13 .r (.op 14 .r (.op 15 .r (.op 16 .r (.op 17 .r (.op 18 .r (.op 19 .r (.op 20 .r (.op 21 .r (.op 22 .r (.op 23 .r (.op 24 .r (.op 25 .r (.op 26 .r (.op 27 .r (.op 28 .r (.op 29 .r (.op 30 .r (.op 31 .r (.op 32 .r (.op 33 .e (.op 34 .r (.op 35 .r (.op 36 .r (.op 37 .r (.op 38 .r (.op 39 .r (.op 40 .r (.op 41 .e (.op 42 .r (.op 43 .r (.op 44 .r (.op 45 .r (.op 46 .r (.op 47 .r (.op 48 .r (.op 50 .r (.op 51 .r (.op 49 .e (.op 52 .r (.op 53 .r (.op 54 .r (.op 55 .r (.op 56 .r (.op 57 .r (.op 58 .r (.op 59 .r (.op 61 .r (.op 62 .r (.op 60 .e (.op 63 .r (.op 64 .r (.op 65 .r (.op 66 .r .nil)))))))))))))))))))))))))))))))))))))))))))))))))))))))))))))))))))) .z)) H
end
section
variable {a0 a1 a2 a3 a4 a5 a6:Value}{h:ah}{R:Value→ah→Prop}
def uL (a0 a1:Value)(h:ah)(R:Value→ah→Prop):Prop:=
 bh #[ai,(.slice none 0 0)] 189 h λc a=>
 vK (ak .i .lss a1 ai) λb=>
 vK (gV b false (some a1)) λg=>
 vK (gV b false (some a0)) λj=>
 vK (gV b false (aT j)) λk=>
 vK (gV b false (aB 1 k)) λl=>
 vK (gV b false (ldV a l)) λm=>
 vK (gV b false (aC m)) λn=>
 vK (gV b false (ak .i .geq g n)) λo=>
 vK (aF b (.bool true) o) λp=>
 aE p (
 vK ((aQ #[ai,(.slice none 0 0)] []).map .agg) λq=>
 stK 2 c q a λal d=>
 vK (aR 2 d c) λr=>
 R r d) (
 bO a λS=>
 vK (aT a0) λs=>
 vK (aB 1 s) λt=>
 qK S (λa=>ldV a t) λu=>
 vK (bu 2 u a1) λv=>
 vK (aB 0 v) λw=>
 qK S (λa=>ldV a w) λx=>
 vK (aT a0) λy=>
 vK (aB 1 y) λz=>
 qK S (λa=>ldV a z) λaa=>
 vK (bu 2 aa a1) λab=>
 vK (aB 1 ab) λac=>
 qK S (λa=>ldV a ac) λad=>
 ag prog dt #[ad] a λae e=>
 S e∧(vK ((aQ #[ai,(.slice none 0 0)] [(0,1,x),(1,1,ae)]).map .agg) λaf=>
 stK 2 c af e λam f=>
 vK (aR 2 f c) λaj=>
 R aj f))
theorem EA (H:uL a0 a1 h R):ag prog bI #[a0,a1] h R:=fk f105 (.s .z (.s (.s .z (.s (.s .z .z) .z)) (.s (.d (.op 0 .r (.op 1 .r (.op 2 .r (.op 3 .r (.op 4 .r (.op 5 .r (.op 6 .r (.op 7 .r (.op 8 .r (.op 9 .r (.op 10 .r (.op 11 .r (.op 12 .r (.op 13 .r (.op 14 .r (.op 15 .r (.op 16 .e (.op 17 .r (.op 18 .n .nil)))))))))))))))))))) .z))) H
def Bm (a0:Value)(h:ah)(R:Value→ah→Prop):Prop:=
 bh (Value.cells a0) 120 h λa f=>
 bh #[ai,(.slice none 0 0),ai,ai,ai,(.bool false)] 120 f λb c=>
 vK (aB 1 a) λg=>
 vK (ldV c g) λi=>
 ag prog dZ #[i] c λj k=>
 vK (aB 1 a) λl=>
 stK 1 l j k λo d=>
 vK (aR 6 d a) λm=>
 stK 6 b m d λp e=>
 vK (aR 6 e b) λn=>
 R n e
theorem LP (H:Bm a0 h R):ag prog xf #[a0] h R:=fk f106 (.s .z (.s .z (.s .z .z))) H
def Bk (a0 a1:Value)(h:ah)(R:Value→ah→Prop):Prop:=
 bh (Value.cells a0) 120 h λc e=>
 bh (Value.cells a1) 120 e λd b=>
 vK (aB 2 c) λf=>
 vK (ldV b f) λg=>
 vK (aB 2 d) λj=>
 vK (ldV b j) λk=>
 vK (ak .i .eql g k) λa=>
 vK (gV a true (aB 3 c)) λl=>
 vK (gV a true (ldV b l)) λm=>
 vK (gV a true (aB 3 d)) λn=>
 vK (gV a true (ldV b n)) λo=>
 vK (gV a true (kw m o)) λp=>
 vK (gV a true (aB 4 c)) λq=>
 vK (gV a true (ldV b q)) λr=>
 vK (gV a true (aB 4 d)) λs=>
 vK (gV a true (ldV b s)) λt=>
 vK (gV a true (tG r t)) λu=>
 vK (gV a true (ak .i .lss p u)) λv=>
 vK (aF a v (.bool false)) λw=>
 R w b
theorem LO (H:Bk a0 a1 h R):ag prog xe #[a0,a1] h R:=fk f112 (.s .z (.s .z .z)) H
def Cx (a0 a1:Value)(h:ah)(R:Value→ah→Prop):Prop:=
 ag prog yX #[a0,a1] h λa b=>
 vK (gV a true (some a0)) λc=>
 vK (gV a true (some a1)) λd=>
 gK a true (λe=>ag prog yY #[c,d] b e) b λf g=>
 vK (gV a true (unV .not f)) λi=>
 vK (aF a i (.bool false)) λj=>
 R j g
theorem N8 (H:Cx a0 a1 h R):ag prog sN #[a0,a1] h R:=fk f113 (.s .z (.s .z .z)) H
def Ca (a0 a1 a2:Value)(h:ah)(R:Value→ah→Prop):Prop:=
 vK (ak .i .geq a0 aG) λc=>
 vK (gV c true (some a0)) λg=>
 vK (gV c true (ak .i .leq g (af 65536))) λj=>
 vK (aF c j (.bool false)) λd=>
 vK (gV d true (some a1)) λk=>
 vK (gV d true (ak .i .geq k aG)) λl=>
 vK (aF d l (.bool false)) λe=>
 vK (gV e true (some a1)) λm=>
 vK (gV e true (ak .i .leq m (af 65536))) λn=>
 vK (aF e n (.bool false)) λb=>
 vK (gV b true (some a2)) λo=>
 vK (gV b true (ak .i .eql o aG)) λp=>
 vK (gV b true (some p)) λf=>
 vK (gV f false (some a2)) λq=>
 vK (gV f false (ak .i .eql q (af 3))) λr=>
 vK (gV b true (aF f (.bool true) r)) λs=>
 vK (aF b s (.bool false)) λa=>
 vK (gV a true (some a0)) λt=>
 vK (gV a true (some a1)) λu=>
 vK (gV a true (ak .i .mul t u)) λv=>
 vK (gV a true (some a2)) λw=>
 vK (gV a true (ak .i .mul v w)) λx=>
 vK (gV a true (ak .i .leq x (af 268435456))) λy=>
 vK (aF a y (.bool false)) λz=>
 R z h
theorem NC (H:Ca a0 a1 a2 h R):ag prog mZ #[a0,a1,a2] h R:=fk f117 (.s .z (.s .z .z)) H
def Cy (a0:Value)(h:ah)(R:Value→ah→Prop):Prop:=
 vK (ak .i .lss a0 ai) λa=>
 vK (gV a false (some a0)) λb=>
 vK (gV a false (ldV h (.pointer (some ⟨pY,0,none⟩)))) λc=>
 vK (gV a false (aC c)) λd=>
 vK (gV a false (ak .i .geq b d)) λe=>
 vK (aF a (.bool true) e) λf=>
 aE f (
 R (.string ⟨#[]⟩) h) (
 vK (ldV h (.pointer (some ⟨pY,0,none⟩))) λg=>
 vK (bu 1 g a0) λj=>
 vK (ldV h j) λk=>
 R k h)
theorem N9 (H:Cy a0 h R):ag prog sO #[a0] h R:=fk f118 (.s .z (.s (.s .z (.s (.s .z .z) .z)) (.s .z .z))) H
def K2 (a0:Value)(h:ah)(R:Value→ah→Prop):Prop:=
 vK (ak .i .lss a0 ai) λa=>
 vK (gV a false (some a0)) λb=>
 vK (gV a false (ak .i .geq b (af 3))) λc=>
 vK (aF a (.bool true) c) λd=>
 aE d (
 R (.string ⟨#[]⟩) h) (
 vK (OG 3 2 (.pointer (some ⟨gj,0,none⟩)) a0) λe=>
 vK (aB 0 e) λf=>
 vK (ldV h f) λg=>
 R g h)
theorem U8 (H:K2 a0 h R):ag prog AQ #[a0] h R:=fk f119 (.s .z (.s (.s .z (.s (.s .z .z) .z)) (.s .z .z))) H
def Bb (a0 a1 a2:Value)(h:ah)(R:Value→ah→Prop):Prop:=
 ag prog AQ #[a0] h λo d=>
 vK (ak .s .eql o (.string ⟨#[]⟩)) λa=>
 vK (gV a false (some a1)) λp=>
 gK a false (λq=>ag prog qe #[p] d q) d λr e=>
 vK (gV a false (unV .not r)) λt=>
 vK (aF a (.bool true) t) λb=>
 vK (gV b false (some a2)) λu=>
 gK b false (λv=>ag prog qe #[u] e v) e λw f=>
 vK (gV b false (unV .not w)) λx=>
 vK (aF b (.bool true) x) λy=>
 aE y (
 R (.tuple #[(.pointer none),(af 6)]) f) (
 vK ((aQ #[ai,(.slice none 0 0),ai,ai] [(0,1,a1)]).map .agg) λz=>
 bh (Value.cells z) 224 f λg aa=>
 bA [ai] aa λc ap j ab=>
 vK (ak .i .lss (ix c 0) a2) λac=>
 aE ac (
 ag prog Et #[a0,a1,a2,(ix c 0)] j λk ad=>
 vK (aP k 0) λae=>
 vK (aP k 1) λaj=>
 ag prog kc #[aj] ad λl m=>
 vK (aP l 0) λal=>
 vK (aP l 1) λn=>
 vK (ak .i .neq n ai) λam=>
 aE am (
 R (.tuple #[(.pointer none),n]) m) (
 ag prog lF #[g,ae,al] m λaq an=>
 vK (ak .i .add (ix c 0) aG) λao=>
 ab [ao] an)) (
 R (.tuple #[g,ai]) j))
theorem LF (H:Bb a0 a1 a2 h R):ag prog lT #[a0,a1,a2] h R:=fk f120 (.s .z (.s (.s .z (.s (.s .z .z) .z)) (.s .z (.s (.s .z (.l 36028794871496384 [31] (.s .z (.s (.s .z .z) (.s (.s .z (.s .z (.s .z (.s (.s .z (.s (.s .z .z) .z)) .z)))) .z))))) (.s .z .z))))) H
def Fu (a0:Value)(h:ah)(R:Value→ah→Prop):Prop:=
 bh (Value.cells a0) 31 h λb a=>
 vK (aB 0 b) λn=>
 vK (ldV a n) λd=>
 vK (ak .i .eql d ai) λo=>
 aE o (
 vK (aB 2 b) λp=>
 vK (ldV a p) λq=>
 ag prog nG #[q] a λe r=>
 vK (aP e 0) λf=>
 vK (aP e 1) λs=>
 R (.tuple #[f,f,s]) r) (
 vK (ak .i .eql d aG) λt=>
 aE t (
 vK (aB 3 b) λu=>
 vK (ldV a u) λv=>
 ag prog Dz #[v] a λg w=>
 vK (aP g 0) λj=>
 vK (aP g 1) λx=>
 R (.tuple #[j,j,x]) w) (
 vK (aB 4 b) λy=>
 vK (ldV a y) λz=>
 ag prog tW #[z] a λk c=>
 vK (aP k 0) λaa=>
 vK (aP k 1) λl=>
 vK (ak .i .neq l ai) λab=>
 aE ab (
 R (.tuple #[(.slice none 0 0),(.slice none 0 0),l]) c) (
 vK (aB 5 b) λac=>
 vK (ldV c ac) λad=>
 ag prog tW #[ad] c λm ae=>
 vK (aP m 0) λaf=>
 vK (aP m 1) λaj=>
 R (.tuple #[aa,af,aj]) ae)))
theorem Qq (H:Fu a0 h R):ag prog AT #[a0] h R:=fk f121 (.s .z (.s (.s .z (.s .z (.s (.s .z (.s .z .z)) (.s .z (.s (.s .z (.s .z .z)) .z))))) (.s (.s .z (.s .z (.s (.s .z .z) .z))) (.s .z (.s .z .z))))) H
def Bc (a0 a1:Value)(h:ah)(R:Value→ah→Prop):Prop:=
 ag prog qe #[a1] h λk a=>
 vK (unV .not k) λl=>
 aE l (
 R (.tuple #[(.pointer none),(af 6)]) a) (
 vK (aC a0) λm=>
 vK (ak .i .rem m (af 2)) λn=>
 vK (ak .i .eql n ai) λo=>
 aE o (
 R (.tuple #[(.pointer none),(af 7)]) a) (
 ag prog kc #[a0] a λc d=>
 vK (aP c 0) λe=>
 vK (aP c 1) λf=>
 vK (ak .i .neq f ai) λp=>
 aE p (
 R (.tuple #[(.pointer none),f]) d) (
 vK ((aQ #[ai,(.slice none 0 0),ai,ai] [(0,1,a1)]).map .agg) λq=>
 bh (Value.cells q) 224 d λg r=>
 bA [ai] r λb z j s=>
 vK (ak .i .lss (ix b 0) a1) λt=>
 aE t (
 vK (aC e) λu=>
 vK (ak .i .quo u (af 2)) λv=>
 vK (ak .i .sub (ix b 0) v) λw=>
 ag prog lF #[g,w,e] j λaa x=>
 vK (ak .i .add (ix b 0) aG) λy=>
 s [y] x) (
 R (.tuple #[g,ai]) j))))
theorem LG (H:Bc a0 a1 h R):ag prog qf #[a0,a1] h R:=fk f122 (.s .z (.s (.s .z (.s (.s .z .z) (.s .z (.s (.s .z .z) .z)))) (.s .z (.s (.s .z (.s (.s .z .z) .z)) (.s .z (.s (.s .z (.l 8793945539072 [31] (.s .z (.s (.s .z .z) (.s (.s .z .z) .z))))) (.s .z .z))))))) H
def Cj (h:ah)(R:Value→ah→Prop):Prop:=
 vK ((aQ #[ai,ai,ai,ai,(.slice none 0 0),(.slice none 0 0),ai,ai,ai] [(0,1,(af 3)),(7,1,(af 5)),(8,1,(af 3)),(6,1,ai)]).map .agg) λq=>
 ag prog oN #[q,(af 9),(af 9)] h λf r=>
 vK (aP f 0) λs=>
 vK (aP f 1) λt=>
 bh #[(.pointer none),(.pointer none),ai] 81 r λg u=>
 stK 3 g s u λay v=>
 ag prog sJ #[] v λw b=>
 vK (unV .not w) λc=>
 vK (gV c false (some t)) λx=>
 vK (gV c false (ak .i .neq x ai)) λy=>
 vK (aF c (.bool true) y) λz=>
 aE z (
 R (.bool false) b) (
 vK (aR 3 b g) λaa=>
 ag prog AS #[aa,(af 2),(af 2)] b λj k=>
 vK (aP j 0) λd=>
 vK (aP j 1) λab=>
 vK (ak .i .neq ab ai) λe=>
 vK (gV e false (some d)) λac=>
 vK (gV e false (ak .p .eql ac (.pointer none))) λad=>
 vK (aF e (.bool true) ad) λae=>
 aE ae (
 R (.bool false) k) (
 ag prog gC #[d,(af 5)] k λl aj=>
 vK (aP l 0) λal=>
 vK (aP l 1) λam=>
 bh #[ai,ai,ai,ai,ai,ai,ai,ai,ai,ai] 116 aj λm an=>
 stK 10 m al an λaz ao=>
 ag prog eK #[d] ao λap n=>
 vK (ak .i .eql ap (af 6)) λo=>
 vK (gV o true (some am)) λaq=>
 vK (aF o aq (.bool false)) λa=>
 vK (gV a true (aB 1 m)) λar=>
 vK (gV a true (aR 4 n ar)) λau=>
 vK (gV a true ((aQ #[ai,ai,ai,ai] [(0,1,(af 4)),(1,1,(af 2)),(2,1,aG),(3,1,aG)]).map .agg)) λav=>
 vK (gV a true (ak (.st [(0,1,.i),(1,1,.i),(2,1,.i),(3,1,.i)]) .eql au av)) λaw=>
 vK (aF a aw (.bool false)) λax=>
 R ax n))
theorem NL (H:Cj h R):ag prog yS #[] h R:=fk f123 (.s .z (.s .z (.s (.s .z (.s (.s .z .z) .z)) (.s .z (.s (.s .z (.s (.s .z .z) .z)) (.s .z (.s .z .z))))))) H
def Ci (h:ah)(R:Value→ah→Prop):Prop:=
 du #[(.int .u16 0)] 22 1 [(0,1,(.int .u16 7))] h λs t=>
 ag prog tZ #[aG,aG,aG,(af 255),s] t λj u=>
 vK (aP j 0) λk=>
 vK (aP j 1) λv=>
 vK ((aQ #[ai,ai,ai,ai,(.slice none 0 0),(.slice none 0 0),ai,ai,ai] [(0,1,aG),(3,1,(af 2))]).map .agg) λw=>
 ag prog oN #[w,aG,aG] u λl x=>
 vK (aP l 0) λy=>
 vK (aP l 1) λz=>
 bh #[(.pointer none),(.pointer none),ai] 81 x λm aa=>
 stK 3 m y aa λa4 ab=>
 ag prog yT #[] ab λac n=>
 vK (unV .not ac) λb=>
 gK b false (λad=>ag prog sJ #[] n ad) n λae c=>
 vK (gV b false (unV .not ae)) λaj=>
 vK (aF b (.bool true) aj) λd=>
 vK (gV d false (some v)) λal=>
 vK (gV d false (ak .i .neq al ai)) λam=>
 vK (aF d (.bool true) am) λe=>
 vK (gV e false (some z)) λan=>
 vK (gV e false (ak .i .neq an ai)) λao=>
 vK (aF e (.bool true) ao) λf=>
 vK (gV f false (some k)) λap=>
 vK (gV f false (ak .p .eql ap (.pointer none))) λaq=>
 vK (aF f (.bool true) aq) λar=>
 aE ar (
 R (.bool false) c) (
 vK (aR 3 c m) λau=>
 ag prog xh #[k,au] c λo q=>
 vK (aP o 0) λr=>
 vK (aP o 1) λav=>
 vK (ak .i .eql av ai) λg=>
 vK (gV g true (some r)) λaw=>
 vK (gV g true (ak .p .neq aw (.pointer none))) λax=>
 vK (aF g ax (.bool false)) λa=>
 vK (gV a true (some r)) λay=>
 gK a true (λaz=>ag prog gW #[ay,ai,ai,ai] q az) q λa0 a1=>
 vK (gV a true (ak .i .eql a0 (.int .u16 7))) λa2=>
 vK (aF a a2 (.bool false)) λa3=>
 R a3 a1)
theorem NK (H:Ci h R):ag prog yR #[] h R:=fk f124 (.s .z (.s .z (.s .z (.s (.s .z (.s (.s .z .z) .z)) (.s .z (.s .z .z)))))) H
def EQ (a0 a1 a2 a3:Value)(h:ah)(R:Value→ah→Prop):Prop:=
 bh (Value.cells a2) 81 h λb k=>
 bh (Value.cells a3) 116 k λc e=>
 vK (aR 3 e b) λl=>
 ag prog w9 #[a0,a1,l] e λm d=>
 vK (unV .not m) λn=>
 aE n (
 R (.tuple #[(.pointer none),(af 6)]) d) (
 vK (aR 3 d b) λo=>
 vK (aB 1 c) λp=>
 vK (aR 4 d p) λq=>
 ag prog nE #[o,q] d λr a=>
 vK (unV .not r) λs=>
 aE s (
 R (.tuple #[(.pointer none),(af 9)]) a) (
 bO a λS=>
 qK S (λa=>aR 3 a b) λt=>
 qK S (λa=>aR 10 a c) λu=>
 vK (aB 1 b) λv=>
 qK S (λa=>ldV a v) λw=>
 vK (aB 1 c) λx=>
 vK (aB 2 x) λy=>
 qK S (λa=>ldV a y) λz=>
 vK (aB 1 c) λaa=>
 vK (aB 1 aa) λab=>
 qK S (λa=>ldV a ab) λac=>
 ag prog gw #[w] a λad f=>
 S f∧(ag prog aU #[a0] f λae g=>
 S g∧(vK (ak .i .mul z ae) λaj=>
 ag prog G8 #[ad,aj] g λal j=>
 S j∧(vK ((aQ Eu [(0,1,a0),(1,1,a1),(2,3,t),(5,10,u),(15,1,al),(16,1,ac)]).map .agg) λam=>
 bh (Value.cells am) 246 j λan ao=>
 R (.tuple #[an,ai]) ao)))))
theorem PR (H:EQ a0 a1 a2 a3 h R):ag prog p8 #[a0,a1,a2,a3] h R:=fk f125 (.s .z (.s (.s .z (.s (.s .z .z) (.s .z (.s (.s .z .z) .z)))) (.s (.d (.op 0 .r (.op 1 .r (.op 2 .r (.op 3 .r (.op 4 .r (.op 5 .r (.op 7 .r (.op 8 .r (.op 9 .r (.op 10 .r (.op 14 .r (.op 15 .r (.op 16 .r (.op 6 .e (.op 11 .e (.op 12 .r (.op 13 .e (.op 17 .r (.op 18 .n (.op 19 .r (.op 20 .r .nil)))))))))))))))))))))) .z))) H
def vV (a0:Value)(h:ah)(R:Value→ah→Prop):Prop:=
 bh #[ai,ai] 146 h λa l=>
 ag prog ji #[a0] l λm n=>
 bh #[ai,ai] 146 n λb o=>
 stK 2 b m o λaa c=>
 vK (aB 0 b) λp=>
 vK (ldV c p) λd=>
 vK (ak .i .eql d aG) λq=>
 aE q (
 vK (aB 1 b) λr=>
 vK (ldV c r) λs=>
 ag prog mG #[a0,s] c λab e=>
 vK (aR 2 e b) λt=>
 stK 2 a t e λac f=>
 vK (aR 2 f a) λu=>
 R u f) (
 vK (ak .i .eql d (af 2)) λv=>
 aE v (
 ag prog og #[a0] c λad g=>
 vK (aR 2 g b) λw=>
 stK 2 a w g λae j=>
 vK (aR 2 j a) λx=>
 R x j) (
 vK (aR 2 c b) λy=>
 stK 2 a y c λaj k=>
 vK (aR 2 k a) λz=>
 R z k))
theorem Gf (H:vV a0 h R):ag prog gU #[a0] h R:=fk f126 (.s .z (.s .z (.s (.s .z (.s .z (.s .z (.s .z (.s .z .z))))) (.s .z .z)))) H
def oD (a0:Value)(h:ah)(R:Value→ah→Prop):Prop:=
 vK (aT a0) λd=>
 vK (aB 0 d) λe=>
 stK 1 e aG h λaa b=>
 vK (aT a0) λf=>
 vK (aB 2 f) λg=>
 vK (ldV b g) λj=>
 vK (ak .p .eql j (.pointer none)) λa=>
 vK (gV a false (some a0)) λk=>
 vK (gV a false (aT k)) λl=>
 vK (gV a false (aB 2 l)) λm=>
 vK (gV a false (ldV b m)) λn=>
 gK a false (λo=>ag prog ji #[n] b o) b λq c=>
 vK (gV a false (qV false 1 0 q)) λr=>
 vK (gV a false (ak .i .eql r ai)) λs=>
 vK (aF a (.bool true) s) λt=>
 aE t (
 vK (aT a0) λu=>
 vK (aB 0 u) λv=>
 stK 1 v ai c λab w=>
 vK (aT a0) λx=>
 vK (aB 2 x) λy=>
 stK 1 y (.pointer none) w λac z=>
 R (.tuple #[]) z) (
 R (.tuple #[]) c)
theorem zw (H:oD a0 h R):ag prog dY #[a0] h R:=fk f127 (.s .z (.s .z (.s .z .z))) H
def oZ (a0:Value)(h:ah)(R:Value→ah→Prop):Prop:=
 vK (aT a0) λa=>
 vK (aB 1 a) λb=>
 vK (ldV h b) λc=>
 vK (aC c) λd=>
 vK (ak .i .gtr d ai) λe=>
 aE e (
 vK (aT a0) λf=>
 vK (aB 1 f) λg=>
 vK (ldV h g) λj=>
 vK (bu 1 j ai) λk=>
 vK (ldV h k) λl=>
 vK (aT a0) λm=>
 vK (aB 1 m) λn=>
 vK (ldV h n) λo=>
 ag prog lU #[o,ai,aG] h λp q=>
 vK (aT a0) λr=>
 vK (aB 1 r) λs=>
 stK 1 s p q λx t=>
 R (.tuple #[l,ai]) t) (
 vK (aT a0) λu=>
 vK (aB 2 u) λv=>
 vK (ldV h v) λw=>
 aE w (
 R (.tuple #[ai,(af 2)]) h) (
 R (.tuple #[ai,aG]) h))
theorem Ah (H:oZ a0 h R):ag prog kV #[a0] h R:=fk f128 (.s .z (.s (.s .z (.s (.s .z (.s .z (.s .z .z))) (.s .z (.s (.s .z .z) .z)))) (.s .z .z))) H
def qM (a0 a1 a2:Value)(h:ah)(R:Value→ah→Prop):Prop:=
 bh #[ai,ai,ai,ai] 148 h λb d=>
 vK (aT a0) λk=>
 vK (aB 1 k) λl=>
 vK (ldV d l) λm=>
 du #[ai] 3 1 [(0,1,a1)] d λn o=>
 dy ai 3 1 8 m n o λq r=>
 vK (aT a0) λs=>
 vK (aB 1 s) λt=>
 stK 1 t q r λa4 e=>
 fR (λg=>
 vK (ak .f .neq a2 .nilFunc) λu=>
 aE u (
 clK prog a2 #[a1] e λv w=>
 vK (aT a0) λx=>
 vK (aB 2 x) λy=>
 stK 1 y v w λa5 z=>
 g [] z) (
 g [] e))
 λa6 a7 a=>
 vK (aT a0) λaa=>
 vK (aB 2 aa) λab=>
 vK (ldV a ab) λac=>
 vK (ak .p .neq ac (.pointer none)) λad=>
 aE ad (
 bO a λS=>
 vK (aT a0) λae=>
 vK (aB 3 ae) λaf=>
 qK S (λa=>ldV a af) λaj=>
 vK (aT a0) λal=>
 vK (aB 2 al) λam=>
 qK S (λa=>ldV a am) λan=>
 ag prog kC #[an] a λao c=>
 S c∧(qK S (λc=>kw aj ao) λap=>
 vK (aT a0) λaq=>
 vK (aB 3 aq) λar=>
 stK 1 ar ap c λa8 au=>
 ag prog dY #[a0] au λa9 av=>
 vK ((aQ #[ai,ai,ai,ai] [(0,1,aG),(1,1,a1)]).map .agg) λaw=>
 stK 4 b aw av λba i=>
 vK (aR 4 i b) λax=>
 R ax i)) (
 ag prog dY #[a0] a λbb ay=>
 vK ((aQ #[ai,ai,ai,ai] [(0,1,aG),(1,1,a1)]).map .agg) λaz=>
 stK 4 b az ay λbc j=>
 vK (aR 4 j b) λa3=>
 R a3 j)
theorem BB (H:qM a0 a1 a2 h R):ag prog lS #[a0,a1,a2] h R:=fk f129 (.s .z (.s .z (.j 33423360 [] (.s .z (.s .z .z)) (.s (.s .z (.s (.d (.op 0 .r (.op 1 .r (.op 2 .r (.op 3 .r (.op 4 .r (.op 5 .r (.op 6 .r (.op 7 .r (.op 8 .r (.op 9 .e (.op 10 .r (.op 11 .r (.op 12 .r (.op 13 .n .nil))))))))))))))) .z)) (.s .z (.s .z .z)))))) H
def mx (a0:Value)(h:ah)(R:Value→ah→Prop):Prop:=
 vK (aT a0) λb=>
 vK (aB 2 b) λc=>
 vK (ldV h c) λa=>
 vK (gV a false (some a0)) λd=>
 vK (gV a false (aT d)) λe=>
 vK (gV a false (aB 1 e)) λf=>
 vK (gV a false (ldV h f)) λg=>
 vK (gV a false (aC g)) λj=>
 vK (gV a false (ak .i .gtr j ai)) λk=>
 vK (aF a (.bool true) k) λl=>
 R l h
theorem xk (H:mx a0 h R):ag prog jF #[a0] h R:=fk f130 (.s .z (.s .z .z)) H
def uM (a0:Value)(h:ah)(R:Value→ah→Prop):Prop:=
 vK (aT a0) λa=>
 vK (aB 0 a) λb=>
 vK (ldV h b) λc=>
 R c h
theorem EB (H:uM a0 h R):ag prog gx #[a0] h R:=fk f131 (.s .z (.s .z .z)) H
def Ie (a0:Value)(h:ah)(R:Value→ah→Prop):Prop:=
 vK (ak .i .geq a0 aG) λa=>
 vK (gV a true (some a0)) λb=>
 vK (gV a true (ak .i .leq b (af 4096))) λc=>
 vK (aF a c (.bool false)) λd=>
 R d h
theorem SK (H:Ie a0 h R):ag prog yo #[a0] h R:=fk f132 (.s .z (.s .z .z)) H
def te (a0 a1:Value)(h:ah)(R:Value→ah→Prop):Prop:=
 bh (Value.cells a1) 120 h λb c=>
 vK (aR 6 c b) λg=>
 ag prog AU #[g] c λi a=>
 vK (unV .not i) λj=>
 aE j (
 R (.bool false) a) (
 bO a λS=>
 vK (aT a0) λk=>
 vK (aB 0 k) λl=>
 qK S (λa=>ldV a l) λm=>
 qK S (λa=>aR 6 a b) λn=>
 ag prog xf #[n] a λo d=>
 S d∧(du #[ai,(.slice none 0 0),ai,ai,ai,(.bool false)] 120 1 [(0,6,o)] d λp e=>
 S e∧(dy (.agg #[ai,.slice none 0 0,ai,ai,ai,.bool false]) 120 6 64 m p e λq f=>
 S f∧(vK (aT a0) λr=>
 vK (aB 0 r) λs=>
 stK 1 s q f λu t=>
 R (.bool true) t))))
theorem CY (H:te a0 a1 h R):ag prog mK #[a0,a1] h R:=fk f133 (.s .z (.s (.s .z (.s (.s .z .z) .z)) (.s (.d (.op 0 .r (.op 1 .r (.op 2 .r (.op 3 .r (.op 4 .r (.op 5 .r (.op 6 .e (.op 7 .e (.op 8 .e (.op 9 .r (.op 10 .r (.op 11 .n .nil))))))))))))) (.s .z .z)))) H
def wD (a0 a1:Value)(h:ah)(R:Value→ah→Prop):Prop:=
 ag prog kg #[a0,a1] h λb a=>
 vK (unV .not b) λc=>
 aE c (
 R (.slice none 0 0) a) (
 vK (aT a0) λd=>
 vK (aB 0 d) λe=>
 vK (ldV a e) λf=>
 vK (bu 1 f a1) λg=>
 vK (ldV a g) λi=>
 ag prog dZ #[i] a λj k=>
 R j k)
theorem Gx (H:wD a0 a1 h R):ag prog lJ #[a0,a1] h R:=fk f134 (.s .z (.s (.s .z (.s (.s .z .z) .z)) (.s .z .z))) H
def je (a0:Value)(h:ah)(R:Value→ah→Prop):Prop:=
 vK (ak .sl .eql a0 (.slice none 0 0)) λa=>
 aE a (
 R (.slice none 0 0) h) (
 du #[] 22 0 [] h λb c=>
 dy (.int .u16 0) 22 1 2 b a0 c λd e=>
 R d e)
theorem pD (H:je a0 h R):ag prog dI #[a0] h R:=fk f135 (.s .z (.s (.s .z (.s (.s .z .z) .z)) (.s .z .z))) H
def MR (a0 a1 a2:Value)(h:ah)(R:Value→ah→Prop):Prop:=
 bh (Value.cells a0) 31 h λb a=>
 vK (aB 0 b) λc=>
 vK (ldV a c) λd=>
 vK (ak .i .eql d (af 3)) λe=>
 aE e (
 vK (aB 7 b) λf=>
 vK (ldV a f) λg=>
 vK (aB 8 b) λj=>
 vK (ldV a j) λk=>
 R (.tuple #[g,k]) a) (
 R (.tuple #[a1,a2]) a)
theorem WY (H:MR a0 a1 a2 h R):ag prog KR #[a0,a1,a2] h R:=fk f136 (.s .z (.s (.s .z (.s (.s .z .z) .z)) (.s .z .z))) H
def Fb (a0 a1 a2:Value)(h:ah)(R:Value→ah→Prop):Prop:=
 vK (ak .i .lss a0 aG) λa=>
 vK (gV a false (some a0)) λe=>
 vK (gV a false (ak .i .gtr e (af 65536))) λf=>
 vK (aF a (.bool true) f) λb=>
 vK (gV b false (some a1)) λg=>
 vK (gV b false (ak .i .lss g aG)) λj=>
 vK (aF b (.bool true) j) λc=>
 vK (gV c false (some a1)) λk=>
 vK (gV c false (ak .i .gtr k (af 65536))) λl=>
 vK (aF c (.bool true) l) λm=>
 aE m (
 R (.bool false) h) (
 vK (ak .i .neq a2 aG) λd=>
 vK (gV d true (some a2)) λn=>
 vK (gV d true (ak .i .neq n (af 3))) λo=>
 vK (aF d o (.bool false)) λp=>
 aE p (
 R (.bool false) h) (
 vK (ak .i .mul a0 a1) λq=>
 vK (ak .i .quo (af 268435456) a2) λr=>
 vK (ak .i .leq q r) λs=>
 R s h))
theorem P7 (H:Fb a0 a1 a2 h R):ag prog vI #[a0,a1,a2] h R:=fk f137 (.s .z (.s (.s .z (.s (.s .z .z) .z)) (.s (.s .z (.s (.s .z .z) .z)) (.s .z .z)))) H
def Fa (a0 a1 a2:Value)(h:ah)(R:Value→ah→Prop):Prop:=
 bh (Value.cells a0) 232 h λa bd=>
 bh #[(.slice none 0 0),(.slice none 0 0),ai,ai,ai] 38 bd λb e=>
 vK (aB 0 a) λbe=>
 vK (ldV e be) λbf=>
 vK (ak .i .lss bf ai) λk=>
 vK (gV k false (aB 0 a)) λbg=>
 vK (gV k false (ldV e bg)) λbi=>
 vK (gV k false (ak .i .gtr bi (af 3))) λbj=>
 vK (aF k (.bool true) bj) λl=>
 vK (gV l false (aB 1 a)) λbk=>
 vK (gV l false (ldV e bk)) λbl=>
 vK (gV l false (ak .i .lss bl ai)) λbm=>
 vK (aF l (.bool true) bm) λm=>
 vK (gV m false (aB 1 a)) λbn=>
 vK (gV m false (ldV e bn)) λbo=>
 vK (gV m false (ak .i .gtr bo (af 2))) λbp=>
 vK (aF m (.bool true) bp) λn=>
 vK (gV n false (some a1)) λbq=>
 gK n false (λbr=>ag prog ml #[bq] e br) e λbs y=>
 vK (gV n false (unV .not bs)) λbt=>
 vK (aF n (.bool true) bt) λo=>
 vK (gV o false (some a2)) λbu=>
 gK o false (λbv=>ag prog ml #[bu] y bv) y λbw t=>
 vK (gV o false (unV .not bw)) λbx=>
 vK (aF o (.bool true) bx) λbz=>
 aE bz (
 vK ((aQ #[(.slice none 0 0),(.slice none 0 0),ai,ai,ai] []).map .agg) λb0=>
 stK 5 b b0 t λec z=>
 vK (aR 5 z b) λb1=>
 R (.tuple #[b1,(af 6)]) z) (
 vK (aB 1 a) λb2=>
 vK (ldV t b2) λb3=>
 vK ((aQ #[(.slice none 0 0),(.slice none 0 0),ai,ai,ai] [(2,1,a1),(3,1,a2),(4,1,b3)]).map .agg) λb4=>
 bh #[(.slice none 0 0),(.slice none 0 0),ai,ai,ai] 38 t λd b5=>
 stK 5 d b4 b5 λed c=>
 vK (aB 0 a) λb6=>
 vK (ldV c b6) λb7=>
 vK (ak .i .eql b7 (af 3)) λb8=>
 aE b8 (
 vK (aB 7 a) λb9=>
 vK (ldV c b9) λca=>
 ag prog ml #[ca] c λcb u=>
 vK (unV .not cb) λg=>
 vK (gV g false (aB 8 a)) λcc=>
 vK (gV g false (ldV u cc)) λcd=>
 gK g false (λce=>ag prog ml #[cd] u ce) u λcf f=>
 vK (gV g false (unV .not cf)) λcg=>
 vK (aF g (.bool true) cg) λp=>
 vK (gV p false (aB 6 a)) λch=>
 vK (gV p false (ldV f ch)) λci=>
 vK (gV p false (ak .i .lss ci ai)) λcj=>
 vK (aF p (.bool true) cj) λq=>
 vK (gV q false (aB 6 a)) λck=>
 vK (gV q false (ldV f ck)) λcl=>
 vK (gV q false (ak .i .gtr cl (af 2))) λcm=>
 vK (aF q (.bool true) cm) λcn=>
 aE cn (
 vK ((aQ #[(.slice none 0 0),(.slice none 0 0),ai,ai,ai] []).map .agg) λco=>
 stK 5 b co f λee aa=>
 vK (aR 5 aa b) λcp=>
 R (.tuple #[cp,(af 6)]) aa) (
 vK (aB 6 a) λcq=>
 vK (ldV f cq) λcr=>
 vK (aB 7 a) λcs=>
 vK (ldV f cs) λct=>
 ag prog qs #[cr,a1,ct] f λab cu=>
 vK (aP ab 0) λcv=>
 vK (aP ab 1) λac=>
 vK (aB 0 d) λcw=>
 stK 1 cw cv cu λef r=>
 vK (ak .i .neq ac ai) λcx=>
 aE cx (
 vK ((aQ #[(.slice none 0 0),(.slice none 0 0),ai,ai,ai] []).map .agg) λcy=>
 stK 5 b cy r λeg ad=>
 vK (aR 5 ad b) λcz=>
 R (.tuple #[cz,ac]) ad) (
 vK (aB 6 a) λc0=>
 vK (ldV r c0) λc1=>
 vK (aB 8 a) λc2=>
 vK (ldV r c2) λc3=>
 ag prog qs #[c1,a2,c3] r λae c4=>
 vK (aP ae 0) λc5=>
 vK (aP ae 1) λaj=>
 vK (aB 1 d) λc6=>
 stK 1 c6 c5 c4 λeh v=>
 vK (ak .i .neq aj ai) λc7=>
 aE c7 (
 vK ((aQ #[(.slice none 0 0),(.slice none 0 0),ai,ai,ai] []).map .agg) λc8=>
 stK 5 b c8 v λei al=>
 vK (aR 5 al b) λc9=>
 R (.tuple #[c9,aj]) al) (
 vK (aR 5 v d) λda=>
 stK 5 b da v λej am=>
 vK (aR 5 am b) λdb=>
 R (.tuple #[db,ai]) am)))) (
 vK (aB 0 a) λdc=>
 vK (ldV c dc) λw=>
 fR (λj=>
 vK (ak .i .eql w ai) λdd=>
 aE dd (
 vK (aB 2 a) λde=>
 vK (ldV c de) λdf=>
 ag prog rO #[df] c λan dg=>
 vK (aP an 0) λao=>
 vK (aP an 1) λdh=>
 j [dh,ao,ao] dg) (
 vK (ak .i .eql w aG) λdi=>
 aE di (
 vK (aB 3 a) λdj=>
 vK (ldV c dj) λdk=>
 ag prog AM #[dk] c λap dl=>
 vK (aP ap 0) λaq=>
 vK (aP ap 1) λdm=>
 j [dm,aq,aq] dl) (
 vK (ak .i .eql w (af 2)) λdn=>
 aE dn (
 vK (aB 4 a) λdp=>
 vK (ldV c dp) λdq=>
 ag prog qw #[dq] c λar au=>
 vK (aP ar 0) λav=>
 vK (aP ar 1) λaw=>
 vK (aB 5 a) λdr=>
 vK (ldV au dr) λds=>
 ag prog qw #[ds] au λax ay=>
 vK (aP ax 0) λaz=>
 vK (aP ax 1) λdt=>
 vK (ak .i .eql aw ai) λdu=>
 aE du (
 j [dt,av,az] ay) (
 j [aw,av,az] ay)) (
 j [ai,(.slice none 0 0),(.slice none 0 0)] c))))
 λs ek a3=>
 vK (ak .i .neq (ix s 0) ai) λdv=>
 aE dv (
 vK ((aQ #[(.slice none 0 0),(.slice none 0 0),ai,ai,ai] []).map .agg) λdw=>
 stK 5 b dw a3 λel a4=>
 vK (aR 5 a4 b) λdx=>
 R (.tuple #[dx,(ix s 0)]) a4) (
 ag prog qu #[(ix s 1),a1] a3 λa5 dy=>
 vK (aP a5 0) λdz=>
 vK (aP a5 1) λa6=>
 vK (aB 0 d) λd0=>
 stK 1 d0 dz dy λem a7=>
 vK (ak .i .neq a6 ai) λd1=>
 aE d1 (
 vK ((aQ #[(.slice none 0 0),(.slice none 0 0),ai,ai,ai] []).map .agg) λd2=>
 stK 5 b d2 a7 λen a8=>
 vK (aR 5 a8 b) λd3=>
 R (.tuple #[d3,a6]) a8) (
 ag prog qu #[(ix s 2),a2] a7 λa9 d4=>
 vK (aP a9 0) λd5=>
 vK (aP a9 1) λba=>
 vK (aB 1 d) λd6=>
 stK 1 d6 d5 d4 λeo x=>
 vK (ak .i .neq ba ai) λd7=>
 aE d7 (
 vK ((aQ #[(.slice none 0 0),(.slice none 0 0),ai,ai,ai] []).map .agg) λd8=>
 stK 5 b d8 x λep bb=>
 vK (aR 5 bb b) λd9=>
 R (.tuple #[d9,ba]) bb) (
 vK (aR 5 x d) λea=>
 stK 5 b ea x λeq bc=>
 vK (aR 5 bc b) λeb=>
 R (.tuple #[eb,ai]) bc)))))
theorem P6 (H:Fa a0 a1 a2 h R):ag prog AL #[a0,a1,a2] h R:=fk f138 (.s .z (.s (.s .z (.s (.s .z .z) .z)) (.s .z (.s .z (.s (.s .z (.s (.s (.s .z (.s (.s .z .z) .z)) (.s .z (.s (.s .z (.s (.s .z .z) .z)) (.s .z (.s (.s .z (.s (.s .z .z) .z)) (.s .z .z)))))) .z)) (.s .z (.s .z (.s (.s .z (.m 174224571858449890892334881399078511451648 [9,10,11] (.s .z (.s (.s .z .z) (.s .z (.s (.s .z .z) (.s .z (.s (.s .z (.s .z (.s .z (.s .z (.s .z .z))))) .z)))))))) (.s (.s .z (.s (.s .z .z) .z)) (.s .z (.s (.s .z (.s (.s .z .z) .z)) (.s .z (.s (.s .z (.s (.s .z .z) .z)) (.s .z .z)))))))))))))) H
def EZ (a0 a1 a2:Value)(h:ah)(R:Value→ah→Prop):Prop:=
 bh (Value.cells a0) 232 h λb a=>
 vK (aB 0 b) λc=>
 vK (ldV a c) λd=>
 vK (ak .i .eql d (af 3)) λe=>
 aE e (
 vK (aB 7 b) λf=>
 vK (ldV a f) λg=>
 vK (aB 8 b) λj=>
 vK (ldV a j) λk=>
 R (.tuple #[g,k]) a) (
 R (.tuple #[a1,a2]) a)
theorem P5 (H:EZ a0 a1 a2 h R):ag prog AK #[a0,a1,a2] h R:=fk f139 (.s .z (.s (.s .z (.s (.s .z .z) .z)) (.s .z .z))) H
def Ih (a0:Value)(h:ah)(R:Value→ah→Prop):Prop:=
 bh (Value.cells a0) 31 h λb e=>
 bh #[ai,ai,ai,ai,(.slice none 0 0),(.slice none 0 0),ai,ai,ai] 232 e λc a=>
 vK (aB 0 b) λf=>
 vK (ldV a f) λg=>
 vK (aB 1 b) λi=>
 vK (ldV a i) λj=>
 vK (aB 2 b) λk=>
 vK (ldV a k) λl=>
 vK (aB 3 b) λm=>
 vK (ldV a m) λn=>
 vK (aB 4 b) λo=>
 vK (ldV a o) λp=>
 vK (aB 5 b) λq=>
 vK (ldV a q) λr=>
 vK (aB 6 b) λs=>
 vK (ldV a s) λt=>
 vK (aB 7 b) λu=>
 vK (ldV a u) λv=>
 vK (aB 8 b) λw=>
 vK (ldV a w) λx=>
 vK ((aQ #[ai,ai,ai,ai,(.slice none 0 0),(.slice none 0 0),ai,ai,ai] [(0,1,g),(1,1,j),(2,1,l),(3,1,n),(4,1,p),(5,1,r),(6,1,t),(7,1,v),(8,1,x)]).map .agg) λy=>
 stK 9 c y a λaa d=>
 vK (aR 9 d c) λz=>
 R z d
theorem SN (H:Ih a0 h R):ag prog DI #[a0] h R:=fk f140 (.s .z (.s .z .z)) H
def EW (a0:Value)(h:ah)(R:Value→ah→Prop):Prop:=
 vK (aC a0) λf=>
 bA [ai,ai] h λa v c e=>
 vK (ak .i .lss (ix a 1) f) λg=>
 aE g (
 vK (bu 2 a0 (ix a 1)) λj=>
 vK (aR 2 c j) λk=>
 bh #[ai,(.slice none 0 0)] 240 c λd l=>
 stK 2 d k l λw b=>
 vK (aB 1 d) λm=>
 vK (ldV b m) λn=>
 vK (aC n) λo=>
 vK (ak .i .gtr o (ix a 0)) λp=>
 aE p (
 vK (aB 1 d) λq=>
 vK (ldV b q) λr=>
 vK (aC r) λs=>
 vK (ak .i .add (ix a 1) aG) λt=>
 e [s,t] b) (
 vK (ak .i .add (ix a 1) aG) λu=>
 e [(ix a 0),u] b)) (
 R (ix a 0) c)
theorem P3 (H:EW a0 h R):ag prog AJ #[a0] h R:=fk f141 (.s .z (.s .z (.s (.s .z (.l 2096936 [3,8] (.s .z (.s (.s .z .z) (.s (.s .z (.s .z (.s .z .z))) .z))))) (.s .z .z)))) H
def BT (a0 a1 a2:Value)(h:ah)(R:Value→ah→Prop):Prop:=
 vK (aC a0) λr=>
 bA [ai,ai,(.bool false),ai] h λa az j m=>
 vK (ak .i .lss (ix a 3) r) λs=>
 aE s (
 vK (bu 2 a0 (ix a 3)) λt=>
 vK (aR 2 j t) λu=>
 bh #[ai,(.slice none 0 0)] 240 j λk v=>
 stK 2 k u v λa3 l=>
 vK (ak .i .lss (ix a 3) a1) λd=>
 vK (gV d false (some (ix a 3))) λw=>
 vK (gV d false (some a2)) λx=>
 vK (gV d false (ak .i .geq w x)) λy=>
 vK (aF d (.bool true) y) λz=>
 aE z (
 vK (ak .i .add (ix a 3) aG) λaa=>
 m [(ix a 0),(ix a 1),(ix a 2),aa] l) (
 vK (aB 1 k) λab=>
 vK (ldV l ab) λac=>
 vK (aC ac) λad=>
 bA [(ix a 0),(ix a 1),(ix a 2),ai] l λb a4 e n=>
 vK (ak .i .lss (ix b 3) ad) λae=>
 aE ae (
 vK (aB 0 k) λaf=>
 vK (ldV e af) λag=>
 vK (ak .i .add ag (ix b 3)) λf=>
 fR (λo=>
 vK (unV .not (ix b 2)) λg=>
 vK (gV g false (some f)) λaj=>
 vK (gV g false (some (ix b 0))) λal=>
 vK (gV g false (ak .i .lss aj al)) λam=>
 vK (aF g (.bool true) am) λan=>
 aE an (
 o [f] e) (
 o [(ix b 0)] e))
 λp a5 q=>
 vK (unV .not (ix b 2)) λc=>
 vK (gV c false (some f)) λao=>
 vK (gV c false (ak .i .add ao aG)) λap=>
 vK (gV c false (some (ix b 1))) λaq=>
 vK (gV c false (ak .i .gtr ap aq)) λar=>
 vK (aF c (.bool true) ar) λau=>
 aE au (
 vK (ak .i .add f aG) λav=>
 vK (ak .i .add (ix b 3) aG) λaw=>
 n [(ix p 0),av,(.bool true),aw] q) (
 vK (ak .i .add (ix b 3) aG) λax=>
 n [(ix p 0),(ix b 1),(.bool true),ax] q)) (
 vK (ak .i .add (ix a 3) aG) λay=>
 m [(ix b 0),(ix b 1),(ix b 2),ay] e))) (
 R (.tuple #[(ix a 0),(ix a 1),(ix a 2)]) j)
theorem Nq (H:BT a0 a1 a2 h R):ag prog sD #[a0,a1,a2] h R:=fk f142 (.s .z (.s .z (.s .z (.s .z (.s (.s .z (.l 2305843009213496832 [9,10,11,18] (.s .z (.s (.s .z .z) (.s (.s .z (.s (.s .z (.s .z .z)) (.s .z (.l 1152921487427030528 [9,10,11,34] (.s .z (.s (.s .z .z) (.s (.s .z (.s .z (.j 560750930166272 [9] (.s .z (.s .z .z)) (.s (.s .z (.s .z .z)) .z)))) .z))))))) .z))))) (.s .z .z)))))) H
def KX (a0 a1:Value)(h:ah)(R:Value→ah→Prop):Prop:=
 vK (aC a0) λc=>
 bA [ai] h λb l a d=>
 vK (ak .i .lss (ix b 0) c) λe=>
 aE e (
 vK (bu 1 a0 (ix b 0)) λf=>
 vK (ldV a f) λg=>
 vK (ak .i .eql g a1) λj=>
 aE j (
 R (.bool true) a) (
 vK (ak .i .add (ix b 0) aG) λk=>
 d [k] a)) (
 R (.bool false) a)
theorem U5 (H:KX a0 a1 h R):ag prog G9 #[a0,a1] h R:=fk f143 (.s .z (.s (.s .z (.l 130640 [9] (.s .z (.s (.s .z .z) (.s (.s .z (.s .z (.s (.s .z .z) .z))) .z))))) (.s .z .z))) H
def xK (a0 a1:Value)(h:ah)(R:Value→ah→Prop):Prop:=
 vK (ak .i .geq a1 ai) λa=>
 vK (gV a true (some a1)) λb=>
 vK (gV a true (some a0)) λc=>
 vK (gV a true (aT c)) λd=>
 vK (gV a true (aB 0 d)) λe=>
 vK (gV a true (ldV h e)) λf=>
 vK (gV a true (aC f)) λg=>
 vK (gV a true (ak .i .lss b g)) λj=>
 vK (aF a j (.bool false)) λk=>
 R k h
theorem IN (H:xK a0 a1 h R):ag prog kg #[a0,a1] h R:=fk f144 (.s .z (.s .z .z)) H
def kj (a0:Value)(h:ah)(R:Value→ah→Prop):Prop:=
 fR (λc=>
 vK (aC a0) λe=>
 vK (ak .i .lss e aG) λf=>
 aE f (
 OP h λs g=>
 c [] g) (
 c [] h))
 λt u d=>
 vK (bu 1 a0 ai) λj=>
 vK (ldV d j) λk=>
 bA [k,aG] d λa v b l=>
 vK (aC a0) λm=>
 vK (ak .i .lss (ix a 1) m) λn=>
 aE n (
 vK (bu 1 a0 (ix a 1)) λo=>
 vK (ldV b o) λp=>
 vK (tG (ix a 0) p) λq=>
 vK (ak .i .add (ix a 1) aG) λr=>
 l [q,r] b) (
 R (ix a 0) b)
theorem tD (H:kj a0 h R):ag prog ib #[a0] h R:=fk f145 (.s .z (.j 480 [] (.s .z (.s .z .z)) (.s .z (.s (.s .z (.l 16773144 [3,4] (.s (.s .z (.s .z .z)) (.s .z .z)))) (.s .z .z))))) H
def FE (a0 a1:Value)(h:ah)(R:Value→ah→Prop):Prop:=
 vK (aC a0) λk=>
 vK (aC a1) λl=>
 vK (kw k l) λf=>
 mkK (.int .i64 0) 3 1 8 f f h λb m=>
 GQ 1 b a0 m λap n=>
 vK (aC a1) λo=>
 bA [(.int .i64 0)] n λa aq c g=>
 vK (ak .i .lss (ix a 0) o) λp=>
 aE p (
 vK (bu 1 a1 (ix a 0)) λq=>
 vK (ldV c q) λj=>
 vK (aC a0) λr=>
 vK (ak .i .geq (ix a 0) r) λs=>
 aE s (
 vK (kw (.int .i64 0) j) λt=>
 vK (bu 1 b (ix a 0)) λu=>
 stK 1 u t c λar v=>
 vK (ak .i .add (ix a 0) (.int .i64 1)) λw=>
 g [w] v) (
 vK (bu 1 b (ix a 0)) λx=>
 vK (ldV c x) λy=>
 vK (kw y j) λz=>
 vK (bu 1 b (ix a 0)) λaa=>
 stK 1 aa z c λau ab=>
 vK (ak .i .add (ix a 0) (.int .i64 1)) λac=>
 g [ac] ab)) (
 vK (aC a1) λad=>
 bA [ad] c λd av e ae=>
 vK (aC a0) λaf=>
 vK (ak .i .lss (ix d 0) af) λag=>
 aE ag (
 vK (bu 1 b (ix d 0)) λai=>
 vK (ldV e ai) λaj=>
 vK (kw (.int .i64 0) aj) λal=>
 vK (bu 1 b (ix d 0)) λam=>
 stK 1 am al e λaw an=>
 vK (ak .i .add (ix d 0) (.int .i64 1)) λao=>
 ae [ao] an) (
 R b e))
theorem QA (H:FE a0 a1 h R):ag prog A3 #[a0,a1] h R:=fk f146 (.s .z (.s .z (.s .z (.s (.s .z (.l 17592184996032 [20] (.s .z (.s (.s .z .z) (.s (.s .z (.s .z (.s .z .z))) .z))))) (.s (.s .z (.l 1152851135862669568 [8] (.s (.s .z (.s .z .z)) (.s .z .z)))) (.s .z .z)))))) H
def vZ (a0:Value)(h:ah)(R:Value→ah→Prop):Prop:=
 vK (aT a0) λa=>
 vK (aB 0 a) λb=>
 vK (ldV h b) λc=>
 vK (aT a0) λd=>
 vK (aB 1 d) λe=>
 vK (ldV h e) λf=>
 vK (ak .i .mul c f) λg=>
 R g h
theorem Gj (H:vZ a0 h R):ag prog qi #[a0] h R:=fk f147 (.s .z (.s .z .z)) H
def Im (a0 a1 a2:Value)(h:ah)(R:Value→ah→Prop):Prop:=
 vK (ak .i .lss a2 (.int .i64 1)) λa=>
 vK (gV a false (some a2)) λc=>
 vK (gV a false (ak .i .gtr c (.int .i64 65536))) λd=>
 vK (aF a (.bool true) d) λe=>
 aE e (
 R (.int .i64 0) h) (
 vK (ak .i .eql a0 (.int .i64 0)) λf=>
 aE f (
 vK (ak .i .sub a2 (.int .i64 1)) λg=>
 ag prog sK #[a1,(.int .i64 0),g] h λj k=>
 R j k) (
 vK (ak .i .eql a0 (.int .i64 1)) λl=>
 aE l (
 vK (ak .i .mul (.int .i64 2) a2) λm=>
 ag prog ud #[a1,m] h λb n=>
 vK (ak .i .mul (.int .i64 2) a2) λo=>
 vK (ak .i .sub o (.int .i64 1)) λp=>
 vK (ak .i .sub p b) λq=>
 vK (tG b q) λr=>
 R r n) (
 vK (ak .i .eql a0 (.int .i64 2)) λs=>
 aE s (
 ag prog ud #[a1,a2] h λt u=>
 R t u) (
 R (.int .i64 0) h))))
theorem SS (H:Im a0 a1 a2 h R):ag prog lZ #[a0,a1,a2] h R:=fk f148 (.s .z (.s (.s .z (.s (.s .z .z) .z)) (.s (.s .z (.s .z (.s (.s .z .z) (.s .z (.s (.s .z (.s .z .z)) (.s .z (.s (.s .z .z) .z))))))) (.s .z .z)))) H
def zj (a0 a1:Value)(h:ah)(R:Value→ah→Prop):Prop:=
 bh #[ai,ai,ai,ai] 114 h λe b=>
 bO b λS=>
 vK (aT a0) λl=>
 vK (aB 3 l) λm=>
 qK S (λb=>ldV b m) λn=>
 vK (aT a0) λo=>
 vK (aB 4 o) λp=>
 qK S (λb=>ldV b p) λq=>
 ag prog ij #[a0] b λr f=>
 S f∧(vK (ak .i .rem a1 r) λs=>
 vK (ak .i .mul s n) λg=>
 ag prog ij #[a0] f λt a=>
 S a∧(vK (ak .i .quo a1 t) λu=>
 vK (ak .i .mul u q) λj=>
 bO a λS=>
 vK (aT a0) λv=>
 vK (aB 3 v) λw=>
 qK S (λa=>ldV a w) λx=>
 vK (aT a0) λy=>
 vK (aB 0 y) λz=>
 vK (aB 0 z) λaa=>
 qK S (λa=>ldV a aa) λab=>
 vK (aT a0) λac=>
 vK (aB 4 ac) λad=>
 qK S (λa=>ldV a ad) λae=>
 vK (aT a0) λaf=>
 vK (aB 0 af) λaj=>
 vK (aB 1 aj) λal=>
 qK S (λa=>ldV a al) λam=>
 ag prog bM #[ab] a λan c=>
 S c∧(vK (ak .i .sub an g) λao=>
 qK S (λc=>tG x ao) λap=>
 ag prog bM #[am] c λaq d=>
 S d∧(vK (ak .i .sub aq j) λar=>
 qK S (λd=>tG ae ar) λau=>
 vK ((aQ #[ai,ai,ai,ai] [(0,1,g),(1,1,j),(2,1,ap),(3,1,au)]).map .agg) λav=>
 stK 4 e av d λax k=>
 vK (aR 4 k e) λaw=>
 R aw k))))
theorem Ko (H:zj a0 a1 h R):ag prog nI #[a0,a1] h R:=fk f149 (.s .z (.s (.d (.op 0 .r (.op 1 .r (.op 4 .r (.op 5 .r (.op 6 .r (.op 7 .r (.op 9 .r (.op 10 .r (.op 13 .r (.op 14 .r (.op 15 .r (.op 16 .r (.op 2 .e (.op 3 .r (.op 8 .r (.op 11 .e (.op 12 .r (.op 17 .r (.op 18 .r (.op 19 .r .nil))))))))))))))))))))) (.s (.d (.op 0 .r (.op 1 .r (.op 2 .r (.op 3 .r (.op 4 .r (.op 5 .r (.op 6 .r (.op 7 .r (.op 8 .r (.op 9 .r (.op 10 .r (.op 12 .r (.op 15 .r (.op 16 .r (.op 17 .r (.op 18 .r (.op 19 .r (.op 20 .r (.op 21 .r (.op 22 .r (.op 23 .r (.op 25 .r (.op 11 .e (.op 13 .r (.op 14 .r (.op 24 .e (.op 26 .r (.op 27 .r (.op 28 .r (.op 29 .n .nil))))))))))))))))))))))))))))))) .z))) H
def uK (a0:Value)(h:ah)(R:Value→ah→Prop):Prop:=
 vK (aT a0) λa=>
 vK (aB 2 a) λb=>
 vK (ldV h b) λc=>
 R c h
theorem Ez (H:uK a0 h R):ag prog gw #[a0] h R:=fk f150 (.s .z (.s .z .z)) H
def sU (a0 a1 a2:Value)(h:ah)(R:Value→ah→Prop):Prop:=
 vK (kw a1 ai) λd=>
 vK (aT a0) λk=>
 vK (aB 1 k) λl=>
 vK (ldV h l) λm=>
 vK (aC m) λn=>
 vK (tG a2 n) λf=>
 vK (ak .i .geq d f) λo=>
 aE o (
 R (.tuple #[ai,ai]) h) (
 vK (aT a0) λp=>
 vK (aB 1 p) λq=>
 vK (ldV h q) λr=>
 vK (bu 2 r d) λs=>
 vK (aB 0 s) λt=>
 vK (ldV h t) λg=>
 vK (aT a0) λu=>
 vK (aB 1 u) λv=>
 vK (ldV h v) λw=>
 vK (yu 2 w (some d) (some f)) λj=>
 vK (aC j) λx=>
 bA [g,g,ai] h λa au e y=>
 vK (ak .i .lss (ix a 2) x) λz=>
 aE z (
 vK (bu 2 j (ix a 2)) λaa=>
 vK (aR 2 e aa) λab=>
 bh #[ai,(.slice none 0 0)] 189 e λb ac=>
 stK 2 b ab ac λav c=>
 vK (aB 0 b) λad=>
 vK (ldV c ad) λae=>
 vK (tG (ix a 0) ae) λaf=>
 vK (aB 0 b) λag=>
 vK (ldV c ag) λaj=>
 vK (aB 1 b) λal=>
 vK (ldV c al) λam=>
 vK (aC am) λan=>
 vK (ak .i .add aj an) λao=>
 vK (kw (ix a 1) ao) λap=>
 vK (ak .i .add (ix a 2) aG) λaq=>
 y [af,ap,aq] c) (
 vK (ak .i .sub (ix a 1) (ix a 0)) λar=>
 R (.tuple #[(ix a 0),ar]) e))
theorem CS (H:sU a0 a1 a2 h R):ag prog ig #[a0,a1,a2] h R:=fk f151 (.s .z (.s .z (.s (.s .z (.s (.s .z .z) .z)) (.s .z (.s .z (.s (.s .z (.l 144114088564229440 [6,8,40] (.s .z (.s (.s .z .z) (.s (.s .z (.s .z .z)) .z))))) (.s .z .z))))))) H
def gv (a0:Value)(h:ah)(R:Value→ah→Prop):Prop:=
 vK (ak .sl .eql a0 (.slice none 0 0)) λa=>
 aE a (
 R (.slice none 0 0) h) (
 du #[] 2 0 [] h λb c=>
 dy ai 2 1 8 b a0 c λd e=>
 R d e)
theorem jU (H:gv a0 h R):ag prog dt #[a0] h R:=fk f152 (.s .z (.s (.s .z (.s (.s .z .z) .z)) (.s .z .z))) H
def jI (a0:Value)(h:ah)(R:Value→ah→Prop):Prop:=
 vK (ak .sl .eql a0 (.slice none 0 0)) λa=>
 aE a (
 R (.slice none 0 0) h) (
 du #[] 3 0 [] h λb c=>
 dy ai 3 1 8 b a0 c λd e=>
 R d e)
theorem qH (H:jI a0 h R):ag prog dZ #[a0] h R:=fk f153 (.s .z (.s (.s .z (.s (.s .z .z) .z)) (.s .z .z))) H
def Cv (a0 a1:Value)(h:ah)(R:Value→ah→Prop):Prop:=
 vK (aC a0) λc=>
 vK (aC a1) λd=>
 vK (ak .i .neq c d) λe=>
 aE e (
 R (.bool false) h) (
 vK (aC a0) λf=>
 bA [ai] h λb q a g=>
 vK (ak .i .lss (ix b 0) f) λj=>
 aE j (
 vK (bu 1 a0 (ix b 0)) λk=>
 vK (ldV a k) λl=>
 vK (bu 1 a1 (ix b 0)) λm=>
 vK (ldV a m) λn=>
 vK (ak .i .gtr l n) λo=>
 aE o (
 R (.bool false) a) (
 vK (ak .i .add (ix b 0) aG) λp=>
 g [p] a)) (
 R (.bool true) a))
theorem NZ (H:Cv a0 a1 h R):ag prog yX #[a0,a1] h R:=fk f157 (.s .z (.s (.s .z (.s (.s .z .z) .z)) (.s (.s .z (.l 67100720 [13] (.s .z (.s (.s .z .z) (.s (.s .z (.s .z (.s (.s .z .z) .z))) .z))))) (.s .z .z)))) H
def Cw (a0 a1:Value)(h:ah)(R:Value→ah→Prop):Prop:=
 ag prog gA #[a0,a1] h λa b=>
 R a b
theorem N0 (H:Cw a0 a1 h R):ag prog yY #[a0,a1] h R:=fk f158 (.s .z (.s .z .z)) H
def EU (a0:Value)(h:ah)(R:Value→ah→Prop):Prop:=
 vK (ak .i .geq a0 aG) λa=>
 vK (gV a true (some a0)) λb=>
 vK (gV a true (ak .i .leq b (af 65536))) λc=>
 vK (aF a c (.bool false)) λd=>
 R d h
theorem PY (H:EU a0 h R):ag prog qe #[a0] h R:=fk f162 (.s .z (.s .z .z)) H
def MP (a0 a1 a2 a3:Value)(h:ah)(R:Value→ah→Prop):Prop:=
 ag prog AP #[a0,a1,a2,a3] h λb e=>
 vK (aP b 0) λc=>
 vK (aP b 1) λf=>
 bA [(.slice none 0 0),ai] e λa s d g=>
 vK (ak .i .lss (ix a 1) f) λj=>
 aE j (
 vK (ak .i .add c (ix a 1)) λk=>
 ag prog DG #[a0,a1,a2,a3,k] d λl m=>
 du #[ai] 2 1 [(0,1,l)] m λn o=>
 dy ai 2 1 8 (ix a 0) n o λp q=>
 vK (ak .i .add (ix a 1) aG) λr=>
 g [p,r] q) (
 R (.tuple #[c,(ix a 0)]) d)
theorem WW (H:MP a0 a1 a2 a3 h R):ag prog Et #[a0,a1,a2,a3] h R:=fk f163 (.s .z (.s .z (.s (.s .z (.l 68717382144 [9,21] (.s .z (.s (.s .z .z) (.s (.s .z .z) .z))))) (.s .z .z)))) H
def xu (a0:Value)(h:ah)(R:Value→ah→Prop):Prop:=
 ag prog AH #[a0] h λt u=>
 vK (ak .i .neq t ai) λb0=>
 aE b0 (
 R (.tuple #[(.slice none 0 0),t]) u) (
 ag prog AI #[a0] u λv f=>
 fR (λb1=>
 bO f λS=>
 qK S (λf=>aC a0) λa=>
 qK S (λf=>aC a0) λb=>
 qK S (λf=>aC a0) λc=>
 (λC22:Value→Value→Value→Value→ah→Prop=>
 (λC29:Value→Value→Value→Value→ah→Prop=>
 (λC35:Value→Value→Value→Value→ah→Prop=>
 (λC43:Value→Value→Value→ah→Prop=>
 (λC51:Value→Value→Value→ah→Prop=>
 (λC58:Value→Value→Value→ah→Prop=>
 (λC63:Value→Value→Value→ah→Prop=>
 (λC68:Value→Value→Value→ah→Prop=>
 (λC75:Value→Value→Value→ah→Prop=>
 (λC83:Value→Value→ah→Prop=>
 (λC91:Value→Value→ah→Prop=>
 (λC99:Value→Value→ah→Prop=>
 (λC107:Value→Value→ah→Prop=>
 (λC115:Value→Value→ah→Prop=>
 (λC123:Value→Value→ah→Prop=>
 (mkK ai 2 1 8 a a f λo j=>
 S j∧((mkK ai 3 1 8 b b j λb2 w=>
 S w∧(C83 o b2 w))∧((mkK ai 2 1 8 c c j λb3 x=>
 S x∧(C91 o b3 x))∧(bh #[(.slice none 0 0)] 28 j λb4 y=>
 S y∧(C99 o b4 y)))))∧((mkK ai 3 1 8 b b f λp k=>
 S k∧((mkK ai 2 1 8 a a k λb5 z=>
 S z∧(C83 b5 p z))∧((mkK ai 2 1 8 c c k λb6 aa=>
 S aa∧(C107 p b6 aa))∧(bh #[(.slice none 0 0)] 28 k λb7 ab=>
 S ab∧(C115 p b7 ab)))))∧((mkK ai 2 1 8 c c f λq l=>
 S l∧((mkK ai 2 1 8 a a l λb8 ac=>
 S ac∧(C91 b8 q ac))∧((mkK ai 3 1 8 b b l λb9 ad=>
 S ad∧(C107 b9 q ad))∧(bh #[(.slice none 0 0)] 28 l λca ae=>
 S ae∧(C123 q ca ae)))))∧(bh #[(.slice none 0 0)] 28 f λr m=>
 S m∧((mkK ai 2 1 8 a a m λcb aj=>
 S aj∧(C99 cb r aj))∧((mkK ai 3 1 8 b b m λcc al=>
 S al∧(C115 cc r al))∧(mkK ai 2 1 8 c c m λcd am=>
 S am∧(C123 cd r am)))))))) (λan ao ap=>
 (mkK ai 2 1 8 a a ap λce aq=>
 S aq∧(C68 ce an ao aq))∧(mkK ai 3 1 8 b b ap λcf ar=>
 S ar∧(C75 cf an ao ar)))) (λau av aw=>
 (mkK ai 2 1 8 a a aw λcg ax=>
 S ax∧(C63 cg au av ax))∧(mkK ai 2 1 8 c c aw λch ay=>
 S ay∧(C75 au ch av ay)))) (λaz a1 a2=>
 (mkK ai 2 1 8 a a a2 λci a3=>
 S a3∧(C58 ci az a1 a3))∧(bh #[(.slice none 0 0)] 28 a2 λcj a4=>
 S a4∧(C75 az a1 cj a4)))) (λa5 a6 a7=>
 (mkK ai 3 1 8 b b a7 λck a8=>
 S a8∧(C43 ck a6 a5 a8))∧(mkK ai 2 1 8 c c a7 λcl a9=>
 S a9∧(C51 cl a6 a5 a9)))) (λba bb bc=>
 (mkK ai 3 1 8 b b bc λcm bd=>
 S bd∧(C58 ba cm bb bd))∧(bh #[(.slice none 0 0)] 28 bc λcn be=>
 S be∧(C68 ba bb cn be)))) (λbf bg bi=>
 (mkK ai 2 1 8 c c bi λco bj=>
 S bj∧(C58 bf bg co bj))∧(bh #[(.slice none 0 0)] 28 bi λcp bk=>
 S bk∧(C63 bf bg cp bk)))) (λcq cr cs ct=>
 mkK ai 2 1 8 a a ct λcu bl=>
 S bl∧(C35 cu cq cr cs bl))) (λcv cw cx cy=>
 C51 cw cx cv cy)) (λcz c0 c1 c2=>
 C43 c0 c1 cz c2)) (λc3 c4 c5 c6=>
 bh #[(.slice none 0 0)] 28 c6 λc7 bm=>
 S bm∧(C35 c3 c4 c5 c7 bm))) (λc8 c9 da db=>
 mkK ai 3 1 8 b b db λdc bn=>
 S bn∧(C29 dc c8 c9 da bn))) (λdd de df dg=>
 mkK ai 2 1 8 c c dg λdh bo=>
 S bo∧(C22 dh de df dd bo))) (λdi dj dk dl dm=>
 C29 dj dk dl di dm)) (λdn dp dq dr ds=>
 C22 dp dq dr dn ds)) (λdt bp du dv dw=>
 stK 1 bp dt dw λeq bq=>
 S bq∧(b1 [du,dv,bp] bq)))
 λd er dx=>
 vK (aC a0) λdy=>
 bA [(af 16384),ai] dx λe es g dz=>
 vK (ak .i .lss (ix e 1) dy) λd0=>
 aE d0 (
 vK (bu 1 a0 (ix e 1)) λd1=>
 vK (ldV g d1) λbr=>
 bO g λS=>
 qK S (λg=>ldV g (ix d 2)) λd2=>
 vK (ak .i .mul br (af 16384)) λd3=>
 vK (ak .i .mul br (af 16384)) λd4=>
 ag prog kP #[d3,v] g λd5 bs=>
 S bs∧(ag prog ud #[d4,v] bs λd6 bt=>
 S bt∧(vK (bu 1 (ix d 0) (ix e 1)) λd7=>
 stK 1 d7 d5 bt λet bv=>
 S bv∧(vK (bu 1 d2 (ix e 1)) λd8=>
 stK 1 d8 d6 bv λeu d9=>
 vK (bu 1 (ix d 1) (ix e 1)) λea=>
 stK 1 ea (ix e 1) d9 λev bw=>
 vK (bu 1 (ix d 0) (ix e 1)) λeb=>
 vK (ldV bw eb) λec=>
 vK (ak .i .sub (ix e 0) ec) λed=>
 vK (ak .i .add (ix e 1) aG) λee=>
 dz [ed,ee] bw)))) (
 ag prog fD #[(ix d 1),(.func (.func mI) #[] #[(ix d 2)])] g λew ef=>
 vK (yu 1 (ix d 1) none (some (ix e 0))) λbx=>
 vK (aC bx) λeg=>
 bA [ai] ef λs ex n eh=>
 vK (ak .i .lss (ix s 0) eg) λei=>
 aE ei (
 vK (bu 1 bx (ix s 0)) λej=>
 vK (ldV n ej) λbz=>
 vK (bu 1 (ix d 0) bz) λek=>
 vK (ldV n ek) λel=>
 vK (ak .i .add el aG) λem=>
 vK (bu 1 (ix d 0) bz) λen=>
 stK 1 en em n λey eo=>
 vK (ak .i .add (ix s 0) aG) λep=>
 eh [ep] eo) (
 R (.tuple #[(ix d 0),ai]) n)))
theorem Iy (H:xu a0 h R):ag prog kc #[a0] h R:=fk f164 (.s .z (.s (.s .z (.s .z (.s (.s .z .z) .z))) (.s .z (.j 1071645568 [7,8,9] (.d (.op 0 .r (.op 1 .r (.op 3 .r (.op 4 .r (.op 6 .r (.op 7 .r (.alt (.op 2 .e (.alt (.op 5 .e (.alt (.op 8 .e (.op 9 .e (.op 10 .r (.op 11 .r (.op 12 .e .nil))))) (.op 9 .e (.op 10 .r (.op 11 .r (.op 8 .e (.op 12 .e .nil))))))) (.alt (.op 8 .e (.alt (.op 5 .e (.op 9 .e (.op 10 .r (.op 11 .r (.op 12 .e .nil))))) (.op 9 .e (.op 10 .r (.op 5 .e (.op 11 .r (.op 12 .e .nil))))))) (.op 9 .e (.op 10 .r (.alt (.op 5 .e (.op 11 .r (.op 8 .e (.op 12 .e .nil)))) (.op 8 .e (.op 5 .e (.op 11 .r (.op 12 .e .nil)))))))))) (.alt (.op 5 .e (.alt (.op 2 .e (.alt (.op 8 .e (.op 9 .e (.op 10 .r (.op 11 .r (.op 12 .e .nil))))) (.op 9 .e (.op 10 .r (.op 11 .r (.op 8 .e (.op 12 .e .nil))))))) (.alt (.op 8 .e (.alt (.op 2 .e (.op 9 .e (.op 10 .r (.op 11 .r (.op 12 .e .nil))))) (.op 9 .e (.op 2 .e (.op 10 .r (.op 11 .r (.op 12 .e .nil))))))) (.op 9 .e (.alt (.op 2 .e (.op 10 .r (.op 11 .r (.op 8 .e (.op 12 .e .nil))))) (.op 8 .e (.op 2 .e (.op 10 .r (.op 11 .r (.op 12 .e .nil)))))))))) (.alt (.op 8 .e (.alt (.op 2 .e (.alt (.op 5 .e (.op 9 .e (.op 10 .r (.op 11 .r (.op 12 .e .nil))))) (.op 9 .e (.op 10 .r (.op 5 .e (.op 11 .r (.op 12 .e .nil))))))) (.alt (.op 5 .e (.alt (.op 2 .e (.op 9 .e (.op 10 .r (.op 11 .r (.op 12 .e .nil))))) (.op 9 .e (.op 2 .e (.op 10 .r (.op 11 .r (.op 12 .e .nil))))))) (.op 9 .e (.alt (.op 2 .e (.op 10 .r (.op 5 .e (.op 11 .r (.op 12 .e .nil))))) (.op 5 .e (.op 2 .e (.op 10 .r (.op 11 .r (.op 12 .e .nil)))))))))) (.op 9 .e (.alt (.op 2 .e (.op 10 .r (.alt (.op 5 .e (.op 11 .r (.op 8 .e (.op 12 .e .nil)))) (.op 8 .e (.op 5 .e (.op 11 .r (.op 12 .e .nil))))))) (.alt (.op 5 .e (.alt (.op 2 .e (.op 10 .r (.op 11 .r (.op 8 .e (.op 12 .e .nil))))) (.op 8 .e (.op 2 .e (.op 10 .r (.op 11 .r (.op 12 .e .nil))))))) (.op 8 .e (.alt (.op 2 .e (.op 10 .r (.op 5 .e (.op 11 .r (.op 12 .e .nil))))) (.op 5 .e (.op 2 .e (.op 10 .r (.op 11 .r (.op 12 .e .nil)))))))))))))))))))) (.s (.s .z (.l 4611686014132423744 [6,32] (.s .z (.s (.s .z .z) (.s (.s .z (.s (.d (.op 0 .r (.op 1 .r (.op 2 .r (.op 3 .r (.op 4 .r (.op 5 .r (.op 6 .r (.op 7 .r (.op 8 .r (.op 10 .r (.op 11 .r (.op 12 .r (.op 14 .r (.op 9 .e (.op 13 .e (.op 15 .r (.op 16 .e (.op 17 .r (.op 18 .n (.op 19 .r (.op 20 .n .nil)))))))))))))))))))))) .z)) .z))))) (.s .z (.s (.s .z (.l 1208335523804270469062656 [69] (.s .z (.s (.s .z .z) (.s (.s .z .z) .z))))) (.s .z .z)))))))) H
def vX (a0 a1 a2:Value)(h:ah)(R:Value→ah→Prop):Prop:=
 vK (aT a0) λd=>
 vK (aB 1 d) λe=>
 vK (ldV h e) λf=>
 vK ((aQ #[ai,(.slice none 0 0)] [(0,1,a1),(1,1,a2)]).map .agg) λg=>
 du #[ai,(.slice none 0 0)] 189 1 [(0,2,g)] h λi j=>
 dy (.agg #[ai,.slice none 0 0]) 189 2 32 f i j λk l=>
 vK (aT a0) λm=>
 vK (aB 1 m) λn=>
 stK 1 n k l λad c=>
 vK (aT a0) λo=>
 vK (aB 2 o) λp=>
 vK (ldV c p) λq=>
 vK (aC a2) λr=>
 vK (kw q r) λs=>
 vK (aT a0) λt=>
 vK (aB 2 t) λu=>
 stK 1 u s c λae a=>
 bO a λS=>
 vK (aT a0) λv=>
 vK (aB 3 v) λw=>
 qK S (λa=>ldV a w) λx=>
 ag prog yl #[a2] a λy b=>
 S b∧(qK S (λb=>kw x y) λz=>
 vK (aT a0) λaa=>
 vK (aB 3 aa) λab=>
 stK 1 ab z b λaf ac=>
 R (.tuple #[]) ac)
theorem Gh (H:vX a0 a1 a2 h R):ag prog lF #[a0,a1,a2] h R:=fk f165 (.s .z (.s .z (.d (.op 0 .r (.op 1 .r (.op 2 .r (.op 3 .r (.op 4 .r (.op 5 .r (.op 6 .e (.op 7 .r (.op 8 .r (.op 9 .r (.op 10 .n .nil)))))))))))))) H
def y8 (a0:Value)(h:ah)(R:Value→ah→Prop):Prop:=
 vK (ak .i .lss a0 aG) λb=>
 vK (gV b false (some a0)) λe=>
 vK (gV b false (ak .i .gtr e (af 4194304))) λf=>
 vK (aF b (.bool true) f) λg=>
 aE g (
 R (.tuple #[(.slice none 0 0),(af 7)]) h) (
 vK (ak .i .mul (af 3) a0) λj=>
 vK (ak .i .add j (af 65536)) λk=>
 vK (ak .i .sub k aG) λl=>
 vK (ak .i .shr l (.int .u64 16)) λc=>
 vK (unV .neg c) λm=>
 bA [(.slice none 0 0),m] h λa w d n=>
 vK (ak .i .leq (ix a 1) c) λo=>
 aE o (
 ag prog AZ #[(ix a 1),a0] d λp q=>
 du #[ai] 2 1 [(0,1,p)] q λr s=>
 dy ai 2 1 8 (ix a 0) r s λt u=>
 vK (ak .i .add (ix a 1) aG) λv=>
 n [t,v] u) (
 R (.tuple #[(ix a 0),ai]) d))
theorem Ki (H:y8 a0 h R):ag prog nG #[a0] h R:=fk f166 (.s .z (.s (.s .z (.s (.s .z .z) .z)) (.s .z (.s .z (.s (.s .z (.l 2146435168 [5,6] (.s (.s .z (.s .z .z)) (.s .z .z)))) (.s .z .z)))))) H
def Hs (a0:Value)(h:ah)(R:Value→ah→Prop):Prop:=
 vK (ak .i .lss a0 ai) λa=>
 vK (gV a false (some a0)) λc=>
 vK (gV a false (ak .i .gtr c (af 511))) λd=>
 vK (aF a (.bool true) d) λe=>
 aE e (
 R (.tuple #[(.slice none 0 0),(af 7)]) h) (
 du #[ai] 2 1 [(0,1,aG)] h λf g=>
 vK (ak .i .mul (af 2) a0) λj=>
 vK (ak .i .add j aG) λk=>
 ag prog gy #[f,k] g λl m=>
 ag prog tW #[l] m λb n=>
 vK (aP b 0) λo=>
 vK (aP b 1) λp=>
 R (.tuple #[o,p]) n)
theorem So (H:Hs a0 h R):ag prog Dz #[a0] h R:=fk f167 (.s .z (.s (.s .z (.s (.s .z .z) .z)) (.s .z .z))) H
def Hq (a0:Value)(h:ah)(R:Value→ah→Prop):Prop:=
 ag prog yl #[a0] h λc g=>
 vK (aC a0) λj=>
 vK (ak .i .rem j (af 2)) λk=>
 vK (ak .i .eql k ai) λb=>
 vK (gV b false (some a0)) λl=>
 vK (gV b false (aC l)) λm=>
 vK (gV b false (ak .i .gtr m (af 1024))) λn=>
 vK (aF b (.bool true) n) λd=>
 vK (gV d false (some c)) λo=>
 vK (gV d false (ak .i .lss o aG)) λp=>
 vK (aF d (.bool true) p) λe=>
 vK (gV e false (some c)) λq=>
 vK (gV e false (ak .i .gtr q (af 1048576))) λr=>
 vK (aF e (.bool true) r) λs=>
 aE s (
 R (.tuple #[(.slice none 0 0),(af 7)]) g) (
 vK (aC a0) λt=>
 bA [(.slice none 0 0),ai] g λa aj f u=>
 vK (ak .i .lss (ix a 1) t) λv=>
 aE v (
 vK (bu 1 a0 (ix a 1)) λw=>
 vK (ldV f w) λx=>
 ag prog fh #[x,(af 1073741824),c] f λy z=>
 du #[ai] 2 1 [(0,1,y)] z λaa ab=>
 dy ai 2 1 8 (ix a 0) aa ab λac ad=>
 vK (ak .i .add (ix a 1) aG) λae=>
 u [ac,ae] ad) (
 R (.tuple #[(ix a 0),ai]) f))
theorem Sm (H:Hq a0 h R):ag prog tW #[a0] h R:=fk f168 (.s .z (.s .z (.s (.s .z (.s (.s .z .z) .z)) (.s .z (.s (.s .z (.l 1098974757024 [5,29] (.s .z (.s (.s .z .z) (.s (.s .z .z) .z))))) (.s .z .z)))))) H
def Cl (h:ah)(R:Value→ah→Prop):Prop:=
 vK ((aQ #[ai,ai,ai,ai,(.slice none 0 0),(.slice none 0 0),ai,ai,ai] [(0,1,(af 3)),(7,1,(af 2)),(8,1,aG),(6,1,ai)]).map .agg) λq=>
 ag prog oN #[q,(af 4),(af 3)] h λo r=>
 vK (aP o 0) λs=>
 vK (aP o 1) λt=>
 bh #[(.pointer none),(.pointer none),ai] 81 r λa u=>
 stK 3 a s u λa7 v=>
 ag prog yU #[] v λk b=>
 vK (gV k true (some t)) λw=>
 vK (gV k true (ak .i .eql w ai)) λx=>
 vK (aF k x (.bool false)) λg=>
 vK (gV g true (aB 0 a)) λy=>
 vK (gV g true (ldV b y)) λz=>
 vK (gV g true (ak .p .neq z (.pointer none))) λaa=>
 vK (aF g aa (.bool false)) λj=>
 vK (gV j true (aB 1 a)) λab=>
 vK (gV j true (ldV b ab)) λac=>
 vK (gV j true (ak .p .neq ac (.pointer none))) λad=>
 vK (aF j ad (.bool false)) λc=>
 vK (gV c true (aB 0 a)) λae=>
 vK (gV c true (ldV b ae)) λaj=>
 gK c true (λal=>ag prog gx #[aj] b al) b λam l=>
 vK (gV c true (ak .i .eql am (af 4))) λan=>
 vK (aF c an (.bool false)) λd=>
 vK (gV d true (aB 0 a)) λao=>
 vK (gV d true (ldV l ao)) λap=>
 gK d true (λaq=>ag prog bM #[ap] l aq) l λar m=>
 vK (gV d true (ak .i .eql ar (af 2))) λau=>
 vK (aF d au (.bool false)) λe=>
 vK (gV e true (aB 1 a)) λav=>
 vK (gV e true (ldV m av)) λaw=>
 gK e true (λax=>ag prog gx #[aw] m ax) m λay n=>
 vK (gV e true (ak .i .eql ay (af 3))) λaz=>
 vK (aF e az (.bool false)) λf=>
 vK (gV f true (aB 1 a)) λa0=>
 vK (gV f true (ldV n a0)) λa1=>
 gK f true (λa2=>ag prog bM #[a1] n a2) n λa3 a4=>
 vK (gV f true (ak .i .eql a3 aG)) λa5=>
 vK (aF f a5 (.bool false)) λa6=>
 R a6 a4
theorem NM (H:Cl h R):ag prog sJ #[] h R:=fk f169 (.s .z (.s .z (.s .z .z))) H
def Cm (h:ah)(R:Value→ah→Prop):Prop:=
 ag prog jn #[(af 2),aG,(af 3),(af 255)] h λf g=>
 vK (aP f 0) λb=>
 vK (aP f 1) λl=>
 vK (ak .i .eql l ai) λd=>
 vK (gV d true (some b)) λm=>
 vK (gV d true (ak .p .neq m (.pointer none))) λn=>
 vK (aF d n (.bool false)) λa=>
 vK (gV a true (some b)) λo=>
 gK a true (λq=>ag prog kE #[o] g q) g λr j=>
 vK (gV a true (aC r)) λs=>
 vK (gV a true (ak .i .eql s (af 6))) λt=>
 vK (aF a t (.bool false)) λc=>
 vK (gV c true (some b)) λu=>
 gK c true (λv=>ag prog gB #[u,aG,ai,(af 2),(.int .u16 256)] j v) j λw k=>
 vK (gV c true (unV .not w)) λx=>
 vK (aF c x (.bool false)) λe=>
 vK (gV e true (some b)) λy=>
 gK e true (λz=>ag prog gB #[y,aG,ai,(af 2),(.int .u16 255)] k z) k λaa ab=>
 vK (aF e aa (.bool false)) λac=>
 R ac ab
theorem NN (H:Cm h R):ag prog yT #[] h R:=fk f170 (.s .z (.s .z (.s .z .z))) H
def Br (a0 a1:Value)(h:ah)(R:Value→ah→Prop):Prop:=
 bh (Value.cells a1) 81 h λc j=>
 vK (aR 3 j c) λq=>
 ag prog kf #[a0,q] j λr a=>
 vK (unV .not r) λs=>
 aE s (
 R (.tuple #[(.pointer none),(af 6)]) a) (
 bO a λS=>
 vK (aB 0 c) λt=>
 qK S (λa=>ldV a t) λu=>
 vK (aB 1 c) λv=>
 qK S (λa=>ldV a v) λw=>
 ag prog bM #[u] a λx k=>
 S k∧(ag prog bM #[w] k λy z=>
 ag prog aU #[a0] z λaa ab=>
 ag prog dF #[a0] ab λac ad=>
 ag prog jn #[x,y,aa,ac] ad λl m=>
 vK (aP l 0) λb=>
 vK (aP l 1) λn=>
 vK (ak .i .neq n ai) λae=>
 aE ae (
 R (.tuple #[(.pointer none),n]) m) (
 ag prog bN #[b] m λaj al=>
 bA [ai] al λd bb o am=>
 vK (ak .i .lss (ix d 0) aj) λan=>
 aE an (
 ag prog bL #[b] o λao ap=>
 bA [ai] ap λe bc p aq=>
 vK (ak .i .lss (ix e 0) ao) λar=>
 aE ar (
 ag prog aU #[b] p λau av=>
 bA [ai] av λf bd g aw=>
 vK (ak .i .lss (ix f 0) au) λax=>
 aE ax (
 vK (aR 3 g c) λay=>
 ag prog A2 #[a0,ay,(ix e 0),(ix d 0),(ix f 0)] g λaz a2=>
 ag prog dF #[a0] a2 λa3 a4=>
 ag prog qD #[az,a3] a4 λa5 a6=>
 ag prog gB #[b,(ix e 0),(ix d 0),(ix f 0),a5] a6 λbe a7=>
 vK (ak .i .add (ix f 0) aG) λa8=>
 aw [a8] a7) (
 vK (ak .i .add (ix e 0) aG) λa9=>
 aq [a9] g)) (
 vK (ak .i .add (ix d 0) aG) λba=>
 am [ba] p)) (
 R (.tuple #[b,ai]) o))))
theorem LW (H:Br a0 a1 h R):ag prog xh #[a0,a1] h R:=fk f171 (.s .z (.s (.s .z (.s (.s .z .z) .z)) (.s (.d (.op 0 .r (.op 1 .r (.op 3 .r (.op 4 .r (.op 6 .r (.op 8 .r (.op 2 .e (.op 5 .n (.op 7 .n (.op 9 .n (.op 10 .n (.op 11 .r (.op 12 .r (.op 13 .r (.op 14 .r (.op 15 .r .nil))))))))))))))))) (.s (.s .z (.s (.s .z .z) .z)) (.s (.s .z (.l 18446744056529684224 [34] (.s .z (.s (.s .z .z) (.s (.s .z (.s .z (.l 9223371487098963456 [39] (.s .z (.s (.s .z .z) (.s (.s .z (.s .z (.l 4611668426241344512 [44] (.s .z (.s (.s .z .z) (.s (.s .z .z) .z)))))) .z)))))) .z))))) (.s .z .z)))))) H
end
section
variable {a0 a1 a2 a3 a4 a5 a6:Value}{h:ah}{R:Value→ah→Prop}
def A8 (a0 a1 a2:Value)(h:ah)(R:Value→ah→Prop):Prop:=
 bh (Value.cells a2) 81 h λl a=>
 bO a λS=>
 vK (ak .p .neq a0 (.pointer none)) λm=>
 vK (gV m true (some a1)) λu=>
 vK (gV m true (ak .p .neq u (.pointer none))) λv=>
 vK (aF m v (.bool false)) λj=>
 vK (gV j true (some a0)) λw=>
 vK (gV j true (some a1)) λx=>
 qK S (λa=>gV j true (peV a .neq w x)) λy=>
 vK (aF j y (.bool false)) λk=>
 vK (gV k true (some a0)) λz=>
 qK S (λa=>gV k true (aR 3 a l)) λaa=>
 gK k true (λab=>ag prog kf #[z,aa] a ab) a λac f=>
 bO f λS=>
 vK (aF k ac (.bool false)) λb=>
 vK (gV b true (some a1)) λad=>
 vK (gV b true (aB 0 l)) λae=>
 qK S (λf=>gV b true (ldV f ae)) λaf=>
 gK b true (λai=>ag prog bL #[ad] f ai) f λaj n=>
 S n∧(gK b true (λal=>ag prog bM #[af] n al) n λam g=>
 bO g λS=>
 vK (gV b true (ak .i .eql aj am)) λan=>
 vK (aF b an (.bool false)) λc=>
 vK (gV c true (some a1)) λao=>
 vK (gV c true (aB 1 l)) λap=>
 qK S (λg=>gV c true (ldV g ap)) λaq=>
 gK c true (λar=>ag prog bN #[ao] g ar) g λau o=>
 S o∧(gK c true (λav=>ag prog bM #[aq] o av) o λaw q=>
 vK (gV c true (ak .i .eql au aw)) λax=>
 vK (aF c ax (.bool false)) λd=>
 vK (gV d true (some a1)) λay=>
 vK (gV d true (some a0)) λaz=>
 gK d true (λa3=>ag prog aU #[ay] q a3) q λa4 r=>
 gK d true (λa5=>ag prog aU #[az] r a5) r λa6 s=>
 vK (gV d true (ak .i .eql a4 a6)) λa7=>
 vK (aF d a7 (.bool false)) λe=>
 vK (gV e true (some a1)) λa8=>
 vK (gV e true (some a0)) λa9=>
 gK e true (λba=>ag prog dF #[a8] s ba) s λbb t=>
 gK e true (λbc=>ag prog dF #[a9] t bc) t λbd be=>
 vK (gV e true (ak .i .eql bb bd)) λbf=>
 vK (aF e bf (.bool false)) λbg=>
 R bg be))
theorem LB (H:A8 a0 a1 a2 h R):ag prog w9 #[a0,a1,a2] h R:=fk f172 (.s .z (.s (.d (.op 0 .r (.op 1 .r (.op 2 .r (.op 3 .r (.op 4 .r (.op 5 .r (.op 6 .r (.op 7 .r (.op 8 .r (.op 9 .r (.op 10 .r (.op 11 .r (.op 12 .r (.op 13 .r (.op 14 .f (.op 15 .r (.op 16 .r (.op 17 .r (.op 19 .r (.op 20 .r (.op 18 .e (.op 21 .f (.op 22 .r (.op 23 .r (.op 24 .r (.op 25 .r (.op 27 .r (.op 28 .r (.op 26 .e (.op 29 .n (.op 30 .r (.op 31 .r (.op 32 .r (.op 33 .r (.op 35 .r (.op 34 .n (.op 36 .n (.op 37 .r (.op 38 .r (.op 39 .r (.op 40 .r (.op 42 .r (.op 41 .n (.op 43 .n (.op 44 .r (.op 45 .r (.op 46 .r .nil)))))))))))))))))))))))))))))))))))))))))))))))) .z)) H
def KW (a0 a1:Value)(h:ah)(R:Value→ah→Prop):Prop:=
 vK (kw aG a0) λa=>
 vK (tG a (af 65536)) λb=>
 vK (kw ai a1) λc=>
 vK (tG c (af 262144)) λd=>
 Q9 h λe f=>
 vK ((aQ #[ai,ai,(.map none),(.slice none 0 0)] [(0,1,b),(1,1,d),(2,1,e)]).map .agg) λg=>
 bh (Value.cells g) 287 f λi j=>
 R i j
theorem U4 (H:KW a0 a1 h R):ag prog G8 #[a0,a1] h R:=fk f173 (.s .z (.s .z .z)) H
def vW (a0:Value)(h:ah)(R:Value→ah→Prop):Prop:=
 bh #[ai,ai] 146 h λb l=>
 ag prog p9 #[a0] l λm e=>
 aE m (
 vK ((aQ #[ai,ai] []).map .agg) λn=>
 stK 2 b n e λar f=>
 vK (aR 2 f b) λo=>
 R o f) (
 ag prog lE #[a0] e λp q=>
 bh #[ai,(.slice none 0 0)] 189 q λc r=>
 stK 2 c p r λau a=>
 bO a λS=>
 vK (aT a0) λs=>
 vK (aB 15 s) λt=>
 qK S (λa=>ldV a t) λu=>
 vK (aB 0 c) λv=>
 qK S (λa=>ldV a v) λw=>
 vK (aB 0 c) λx=>
 qK S (λa=>ldV a x) λy=>
 vK (aB 1 c) λz=>
 qK S (λa=>ldV a z) λaa=>
 qK S (λa=>aC aa) λab=>
 vK (ak .i .add y ab) λac=>
 ag prog rN #[u,w,ac] a λg d=>
 vK (aP g 0) λad=>
 vK (aP g 1) λae=>
 aE ae (
 vK ((aQ #[ai,ai] [(0,1,aG),(1,1,ad)]).map .agg) λaj=>
 stK 2 b aj d λav j=>
 vK (aR 2 j b) λal=>
 R al j) (
 vK (aT a0) λam=>
 vK (aB 16 am) λan=>
 vK (ldV d an) λao=>
 vK ((aQ #[ai,ai] [(0,1,(af 2)),(1,1,ao)]).map .agg) λap=>
 stK 2 b ap d λaw k=>
 vK (aR 2 k b) λaq=>
 R aq k))
theorem Gg (H:vW a0 h R):ag prog ji #[a0] h R:=fk f174 (.s .z (.s (.s .z (.s (.s .z .z) .z)) (.s .z (.s (.s (.d (.op 0 .r (.op 1 .r (.op 2 .r (.op 3 .r (.op 4 .r (.op 5 .r (.op 6 .r (.op 7 .r (.op 8 .r (.op 9 .r (.op 10 .r (.op 11 .r (.op 12 .n (.op 13 .r (.op 14 .r (.op 15 .r (.op 16 .r (.op 17 .r .nil))))))))))))))))))) (.s .z (.s (.s .z .z) .z))) (.s .z .z))))) H
def sQ (a0 a1:Value)(h:ah)(R:Value→ah→Prop):Prop:=
 bO h λS=>
 vK (aT a0) λe=>
 vK (aB 2 e) λf=>
 vK (aB 2 f) λg=>
 qK S (λh=>ldV h g) λj=>
 vK (aT a0) λk=>
 vK (aB 0 k) λl=>
 qK S (λh=>ldV h l) λm=>
 ag prog bN #[m] h λn c=>
 S c∧(ag prog lZ #[j,a1,n] c λo d=>
 vK (aT a0) λp=>
 vK (aB 5 p) λq=>
 vK (aB 1 q) λr=>
 vK (aB 2 r) λs=>
 vK (ldV d s) λt=>
 bA [(.slice none 0 0),ai] d λa an b u=>
 vK (ak .i .lss (ix a 1) t) λv=>
 aE v (
 vK (aT a0) λw=>
 vK (aB 5 w) λx=>
 vK (aB 1 x) λy=>
 vK (aB 0 y) λz=>
 vK (ldV b z) λaa=>
 vK (ak .i .add aa (ix a 1)) λab=>
 ag prog mH #[a0,ab,o,(ix a 0)] b λac ad=>
 vK (ak .i .add (ix a 1) aG) λae=>
 u [ac,ae] ad) (
 vK (aT a0) λaf=>
 vK (aB 15 af) λaj=>
 vK (ldV b aj) λal=>
 ag prog uC #[al,a1,(ix a 0)] b λao am=>
 R (.tuple #[]) am))
theorem CP (H:sQ a0 a1 h R):ag prog mG #[a0,a1] h R:=fk f175 (.s (.d (.op 0 .r (.op 1 .r (.op 2 .r (.op 3 .r (.op 4 .r (.op 5 .r (.op 6 .r (.op 7 .r (.op 8 .r (.op 9 .r (.op 10 .e (.op 11 .n (.op 12 .r .nil)))))))))))))) (.s .z (.s (.s .z (.l 2198989701216 [5,25] (.s .z (.s (.s .z .z) (.s (.s .z .z) .z))))) .z))) H
def uI (a0:Value)(h:ah)(R:Value→ah→Prop):Prop:=
 ag prog lE #[a0] h λt u=>
 bh #[ai,(.slice none 0 0)] 189 u λj v=>
 stK 2 j t v λcb k=>
 vK (aT a0) λw=>
 vK (aB 15 w) λx=>
 vK (ldV k x) λy=>
 ag prog qk #[y] k λl z=>
 mkK ai 2 1 8 l l z λe m=>
 vK (aB 1 j) λaa=>
 vK (ldV m aa) λn=>
 vK (aC n) λab=>
 bA [ai] m λf cc b ac=>
 vK (ak .i .lss (ix f 0) ab) λad=>
 aE ad (
 vK (bu 1 n (ix f 0)) λae=>
 vK (ldV b ae) λaf=>
 bO b λS=>
 vK (aT a0) λaj=>
 vK (aB 15 aj) λal=>
 qK S (λb=>ldV b al) λam=>
 vK (aB 0 j) λan=>
 qK S (λb=>ldV b an) λao=>
 vK (ak .i .add ao (ix f 0)) λap=>
 ag prog uB #[am,ap] b λo aq=>
 vK (aP o 0) λp=>
 vK (aP o 1) λcd=>
 vK (aC p) λar=>
 bA [ai] aq λc ce g au=>
 vK (ak .i .lss (ix c 0) ar) λav=>
 aE av (
 vK (bu 1 p (ix c 0)) λaw=>
 vK (ldV g aw) λax=>
 vK (bu 1 e (ix c 0)) λay=>
 vK (ldV g ay) λaz=>
 vK (ak .i .mul af ax) λa1=>
 vK (ak .i .add az a1) λa2=>
 vK (bu 1 e (ix c 0)) λa3=>
 stK 1 a3 a2 g λcf a4=>
 vK (ak .i .add (ix c 0) aG) λa5=>
 au [a5] a4) (
 vK (ak .i .add (ix f 0) aG) λa6=>
 ac [a6] g)) (
 vK (aT a0) λa7=>
 vK (aB 1 a7) λa8=>
 vK (ldV b a8) λa9=>
 ag prog aU #[a9] b λq ba=>
 vK (aC e) λbb=>
 bA [ai] ba λd cg a bc=>
 vK (ak .i .lss (ix d 0) bb) λbd=>
 aE bd (
 vK (bu 1 e (ix d 0)) λbe=>
 vK (ldV a be) λbf=>
 bO a λS=>
 vK (aT a0) λbg=>
 vK (aB 1 bg) λbi=>
 qK S (λa=>ldV a bi) λbj=>
 vK (aT a0) λbk=>
 vK (aB 5 bk) λbl=>
 vK (aB 1 bl) λbm=>
 vK (aB 0 bm) λbn=>
 qK S (λa=>ldV a bn) λbo=>
 vK (ak .i .quo (ix d 0) q) λbp=>
 vK (ak .i .add bo bp) λbq=>
 vK (aT a0) λbr=>
 vK (aB 16 br) λbs=>
 qK S (λa=>ldV a bs) λbt=>
 vK (ak .i .rem (ix d 0) q) λbv=>
 vK (aT a0) λbw=>
 vK (aB 1 bw) λbx=>
 qK S (λa=>ldV a bx) λbz=>
 ag prog dF #[bz] a λb0 r=>
 S r∧(ag prog qD #[bf,b0] r λb1 s=>
 S s∧(ag prog gB #[bj,bq,bt,bv,b1] s λch b2=>
 vK (ak .i .add (ix d 0) aG) λb3=>
 bc [b3] b2))) (
 vK (aT a0) λb4=>
 vK (aB 16 b4) λb5=>
 vK (ldV a b5) λb6=>
 vK (ak .i .add b6 aG) λb7=>
 vK (aT a0) λb8=>
 vK (aB 16 b8) λb9=>
 stK 1 b9 b7 a λci ca=>
 R (.tuple #[]) ca))
theorem Ew (H:uI a0 h R):ag prog og #[a0] h R:=fk f176 (.s .z (.s .z (.s (.s .z (.l 576460752286647280 [24] (.s .z (.s (.s .z .z) (.s (.s .z (.s (.d (.op 0 .r (.op 1 .r (.op 2 .r (.op 3 .r (.op 4 .r (.op 5 .r (.op 6 .r (.op 7 .r (.op 8 .n (.op 9 .r (.op 10 .r (.op 11 .r (.op 12 .r (.op 13 .r .nil))))))))))))))) (.s .z (.l 288221580058690304 [43] (.s .z (.s (.s .z .z) (.s (.s .z .z) .z))))))) .z))))) (.s .z (.s (.s .z (.l 2535301200382671826698568210432 [66] (.s .z (.s (.s .z .z) (.s (.s .z (.d (.op 0 .r (.op 1 .r (.op 2 .r (.op 3 .r (.op 4 .r (.op 5 .r (.op 6 .r (.op 7 .r (.op 8 .r (.op 9 .r (.op 10 .r (.op 11 .r (.op 12 .r (.op 13 .r (.op 14 .r (.op 15 .r (.op 16 .r (.op 17 .r (.op 18 .r (.op 19 .r (.op 20 .r (.op 21 .r (.op 22 .r (.op 23 .r (.op 24 .r (.op 25 .r (.op 26 .e (.op 27 .e (.op 28 .n .nil))))))))))))))))))))))))))))))) .z))))) .z))))) H
def Fv (a0:Value)(h:ah)(R:Value→ah→Prop):Prop:=
 bh (Value.cells a0) 120 h λc a=>
 vK (aB 0 c) λf=>
 vK (ldV a f) λg=>
 vK (ak .i .geq g ai) λd=>
 vK (gV d true (aB 2 c)) λj=>
 vK (gV d true (ldV a j)) λk=>
 vK (gV d true (ak .i .geq k ai)) λl=>
 vK (aF d l (.bool false)) λe=>
 vK (gV e true (aB 3 c)) λm=>
 vK (gV e true (ldV a m)) λn=>
 vK (gV e true (ak .i .geq n ai)) λo=>
 vK (aF e o (.bool false)) λb=>
 vK (gV b true (aB 3 c)) λp=>
 vK (gV b true (ldV a p)) λq=>
 vK (gV b true (aB 4 c)) λr=>
 vK (gV b true (ldV a r)) λs=>
 vK (gV b true (ak .i .lss q s)) λt=>
 vK (aF b t (.bool false)) λu=>
 R u a
theorem Qr (H:Fv a0 h R):ag prog AU #[a0] h R:=fk f178 (.s .z (.s .z .z)) H
def EY (a0:Value)(h:ah)(R:Value→ah→Prop):Prop:=
 vK (ak .i .geq a0 aG) λa=>
 vK (gV a true (some a0)) λb=>
 vK (gV a true (ak .i .leq b (af 65536))) λc=>
 vK (aF a c (.bool false)) λd=>
 R d h
theorem P4 (H:EY a0 h R):ag prog ml #[a0] h R:=fk f179 (.s .z (.s .z .z)) H
def Be (a0 a1 a2:Value)(h:ah)(R:Value→ah→Prop):Prop:=
 vK (ak .i .lss a0 ai) λd=>
 vK (gV d false (some a0)) λn=>
 vK (gV d false (ak .i .gtr n (af 2))) λo=>
 vK (aF d (.bool true) o) λb=>
 vK (gV b false (some a1)) λp=>
 gK b false (λq=>ag prog qp #[p] h q) h λr e=>
 vK (gV b false (unV .not r)) λs=>
 vK (aF b (.bool true) s) λc=>
 vK (gV c false (some a2)) λt=>
 gK c false (λu=>ag prog qp #[t] e u) e λv f=>
 vK (gV c false (unV .not v)) λw=>
 vK (aF c (.bool true) w) λx=>
 aE x (
 R (.tuple #[(.slice none 0 0),(af 6)]) f) (
 bA [(.slice none 0 0),ai] f λa aq g y=>
 vK (ak .i .lss (ix a 1) a2) λz=>
 aE z (
 ag prog yn #[a0,a1,a2,(ix a 1)] g λj aa=>
 vK (aP j 0) λab=>
 vK (aP j 1) λac=>
 ag prog jk #[ac] aa λk l=>
 vK (aP k 0) λad=>
 vK (aP k 1) λm=>
 vK (ak .i .neq m ai) λae=>
 aE ae (
 R (.tuple #[(.slice none 0 0),m]) l) (
 vK ((aQ #[ai,(.slice none 0 0)] [(0,1,ab),(1,1,ad)]).map .agg) λaj=>
 du #[ai,(.slice none 0 0)] 240 1 [(0,2,aj)] l λal am=>
 dy (.agg #[ai,.slice none 0 0]) 240 2 32 (ix a 0) al am λan ao=>
 vK (ak .i .add (ix a 1) aG) λap=>
 y [an,ap] ao)) (
 R (.tuple #[(ix a 0),ai]) g))
theorem LI (H:Be a0 a1 a2 h R):ag prog qs #[a0,a1,a2] h R:=fk f180 (.s .z (.s (.s .z (.s (.s .z .z) .z)) (.s .z (.s (.s .z (.l 144115185928388544 [8,31] (.s .z (.s (.s .z .z) (.s (.s .z (.s .z (.s .z (.s (.s .z (.s (.s .z .z) .z)) .z)))) .z))))) (.s .z .z))))) H
def xz (a0:Value)(h:ah)(R:Value→ah→Prop):Prop:=
 vK (ak .i .lss a0 aG) λc=>
 vK (gV c false (some a0)) λf=>
 vK (gV c false (ak .i .gtr f (af 4194304))) λg=>
 vK (aF c (.bool true) g) λj=>
 aE j (
 R (.tuple #[(.slice none 0 0),(af 7)]) h) (
 bA [ai] h λb z d k=>
 vK (ak .i .mul (ix b 0) (af 65536)) λl=>
 vK (ak .i .mul (af 3) a0) λm=>
 vK (ak .i .lss l m) λn=>
 aE n (
 vK (ak .i .add (ix b 0) aG) λo=>
 k [o] d) (
 vK (unV .neg (ix b 0)) λp=>
 bA [(.slice none 0 0),p] d λa aa e q=>
 vK (ak .i .leq (ix a 1) (ix b 0)) λr=>
 aE r (
 ag prog yM #[(ix a 1),a0] e λs t=>
 du #[ai] 2 1 [(0,1,s)] t λu v=>
 dy ai 2 1 8 (ix a 0) u v λw x=>
 vK (ak .i .add (ix a 1) aG) λy=>
 q [w,y] x) (
 R (.tuple #[(ix a 0),ai]) e)))
theorem IC (H:xz a0 h R):ag prog rO #[a0] h R:=fk f181 (.s .z (.s (.s .z (.s (.s .z .z) .z)) (.s .z (.s (.l 1040400 [4] (.s (.s .z (.s .z .z)) .z)) (.s .z (.s (.s .z (.l 8585740384 [5,6] (.s (.s .z (.s .z .z)) (.s .z .z)))) (.s .z .z))))))) H
def Fi (a0:Value)(h:ah)(R:Value→ah→Prop):Prop:=
 vK (ak .i .lss a0 ai) λb=>
 vK (gV b false (some a0)) λe=>
 vK (gV b false (ak .i .gtr e (af 511))) λf=>
 vK (aF b (.bool true) f) λg=>
 aE g (
 R (.tuple #[(.slice none 0 0),(af 7)]) h) (
 vK (ak .i .mul (af 2) a0) λj=>
 vK (ak .i .add j aG) λk=>
 bA [(.slice none 0 0),ai] h λa v c l=>
 vK (ak .i .lss (ix a 1) k) λm=>
 aE m (
 du #[ai] 2 1 [(0,1,aG)] c λn o=>
 dy ai 2 1 8 (ix a 0) n o λp q=>
 vK (ak .i .add (ix a 1) aG) λr=>
 l [p,r] q) (
 ag prog qw #[(ix a 0)] c λd s=>
 vK (aP d 0) λt=>
 vK (aP d 1) λu=>
 R (.tuple #[t,u]) s))
theorem Qd (H:Fi a0 h R):ag prog AM #[a0] h R:=fk f182 (.s .z (.s (.s .z (.s (.s .z .z) .z)) (.s .z (.s (.s .z (.l 1032208 [4,14] (.s .z (.s (.s .z .z) (.s .z .z))))) (.s .z .z))))) H
def Ff (a0:Value)(h:ah)(R:Value→ah→Prop):Prop:=
 ag prog yK #[a0] h λc g=>
 vK (aC a0) λj=>
 vK (ak .i .rem j (af 2)) λk=>
 vK (ak .i .eql k ai) λb=>
 vK (gV b false (some a0)) λl=>
 vK (gV b false (aC l)) λm=>
 vK (gV b false (ak .i .gtr m (af 1024))) λn=>
 vK (aF b (.bool true) n) λd=>
 vK (gV d false (some c)) λo=>
 vK (gV d false (ak .i .eql o ai)) λp=>
 vK (aF d (.bool true) p) λe=>
 vK (gV e false (some c)) λq=>
 vK (gV e false (ak .i .gtr q (af 1048576))) λr=>
 vK (aF e (.bool true) r) λs=>
 aE s (
 R (.tuple #[(.slice none 0 0),(af 7)]) g) (
 vK (aC a0) λt=>
 bA [(.slice none 0 0),ai] g λa aj f u=>
 vK (ak .i .lss (ix a 1) t) λv=>
 aE v (
 vK (bu 1 a0 (ix a 1)) λw=>
 vK (ldV f w) λx=>
 ag prog dD #[x,(af 1073741824),c] f λy z=>
 du #[ai] 2 1 [(0,1,y)] z λaa ab=>
 dy ai 2 1 8 (ix a 0) aa ab λac ad=>
 vK (ak .i .add (ix a 1) aG) λae=>
 u [ac,ae] ad) (
 R (.tuple #[(ix a 0),ai]) f))
theorem Qa (H:Ff a0 h R):ag prog qw #[a0] h R:=fk f183 (.s .z (.s .z (.s (.s .z (.s (.s .z .z) .z)) (.s .z (.s (.s .z (.l 1098974757024 [5,29] (.s .z (.s (.s .z .z) (.s (.s .z .z) .z))))) (.s .z .z)))))) H
def Bf (a0 a1:Value)(h:ah)(R:Value→ah→Prop):Prop:=
 ag prog qp #[a1] h λg b=>
 vK (unV .not g) λj=>
 aE j (
 R (.tuple #[(.slice none 0 0),(af 6)]) b) (
 vK (aC a0) λk=>
 vK (ak .i .rem k (af 2)) λl=>
 vK (ak .i .eql l ai) λm=>
 aE m (
 R (.tuple #[(.slice none 0 0),(af 7)]) b) (
 ag prog jk #[a0] b λc d=>
 vK (aP c 0) λn=>
 vK (aP c 1) λe=>
 vK (ak .i .neq e ai) λo=>
 aE o (
 R (.tuple #[(.slice none 0 0),e]) d) (
 bA [(.slice none 0 0),ai] d λa aa f p=>
 vK (ak .i .lss (ix a 1) a1) λq=>
 aE q (
 vK (aC a0) λr=>
 vK (ak .i .quo r (af 2)) λs=>
 vK (ak .i .sub (ix a 1) s) λt=>
 vK ((aQ #[ai,(.slice none 0 0)] [(0,1,t),(1,1,n)]).map .agg) λu=>
 du #[ai,(.slice none 0 0)] 240 1 [(0,2,u)] f λv w=>
 dy (.agg #[ai,.slice none 0 0]) 240 2 32 (ix a 0) v w λx y=>
 vK (ak .i .add (ix a 1) aG) λz=>
 p [x,z] y) (
 R (.tuple #[(ix a 0),ai]) f))))
theorem LJ (H:Bf a0 a1 h R):ag prog qu #[a0,a1] h R:=fk f184 (.s .z (.s (.s .z (.s (.s .z .z) .z)) (.s (.s .z (.s (.s .z .z) .z)) (.s .z (.s (.s .z (.s (.s .z .z) .z)) (.s .z (.s (.s .z (.l 1099444519680 [8,26] (.s .z (.s (.s .z .z) (.s (.s .z .z) .z))))) (.s .z .z)))))))) H
def Cu (a0 a1 a2:Value)(h:ah)(R:Value→ah→Prop):Prop:=
 vK (tG a0 a2) λa=>
 vK (kw a1 a) λb=>
 R b h
theorem NY (H:Cu a0 a1 a2 h R):ag prog sK #[a0,a1,a2] h R:=fk f185 (.s .z (.s .z .z)) H
def Ij (a0 a1:Value)(h:ah)(R:Value→ah→Prop):Prop:=
 vK (ak .i .eql a1 ai) λd=>
 vK (gV d false (some a1)) λe=>
 vK (gV d false (ak .i .eql e (af (-1)))) λf=>
 vK (aF d (.bool true) f) λg=>
 aE g (
 R ai h) (
 vK (ak .i .rem a0 a1) λc=>
 vK (ak .i .neq c ai) λa=>
 vK (gV a true (some c)) λj=>
 vK (gV a true (ak .i .lss j ai)) λk=>
 vK (gV a true (some a1)) λl=>
 vK (gV a true (ak .i .lss l ai)) λm=>
 vK (gV a true (ak .b .neq k m)) λn=>
 vK (aF a n (.bool false)) λo=>
 aE o (
 vK (ak .i .add c a1) λp=>
 R p h) (
 R c h))
theorem SP (H:Ij a0 a1 h R):ag prog ud #[a0,a1] h R:=fk f186 (.s .z (.s (.s .z (.s (.s .z .z) .z)) (.s .z (.s (.s .z (.s .z .z)) (.s .z .z))))) H
def jH (a0 a1:Value)(h:ah)(R:Value→ah→Prop):Prop:=
 vK (aC a0) λc=>
 vK (aC a1) λd=>
 vK (ak .i .neq c d) λe=>
 aE e (
 R (.bool false) h) (
 vK (aC a0) λf=>
 bA [ai] h λb q a g=>
 vK (ak .i .lss (ix b 0) f) λj=>
 aE j (
 vK (bu 1 a0 (ix b 0)) λk=>
 vK (ldV a k) λl=>
 vK (bu 1 a1 (ix b 0)) λm=>
 vK (ldV a m) λn=>
 vK (ak .i .neq l n) λo=>
 aE o (
 R (.bool false) a) (
 vK (ak .i .add (ix b 0) aG) λp=>
 g [p] a)) (
 R (.bool true) a))
theorem qG (H:jH a0 a1 h R):ag prog gA #[a0,a1] h R:=fk f188 (.s .z (.s (.s .z (.s (.s .z .z) .z)) (.s (.s .z (.l 67100720 [13] (.s .z (.s (.s .z .z) (.s (.s .z (.s .z (.s (.s .z .z) .z))) .z))))) (.s .z .z)))) H
def Fq (a0 a1 a2 a3:Value)(h:ah)(R:Value→ah→Prop):Prop:=
 ag prog KQ #[a0,a1,a2,a3] h λg b=>
 vK (unV .not g) λj=>
 aE j (
 R (.tuple #[ai,ai]) b) (
 vK (ak .i .mul a3 a1) λk=>
 ag prog kP #[k,a2] b λc l=>
 vK (ak .i .add a3 aG) λm=>
 vK (ak .i .mul m a1) λn=>
 ag prog AO #[n,a2] l λo a=>
 vK (ak .i .neq a0 ai) λp=>
 aE p (
 vK (ak .i .mul (af 2) a3) λq=>
 vK (ak .i .add q aG) λr=>
 vK (ak .i .mul r a1) λs=>
 vK (ak .i .sub s a2) λd=>
 vK (OG 3 2 (.pointer (some ⟨gj,0,none⟩)) a0) λt=>
 vK (aB 1 t) λu=>
 vK (ldV a u) λv=>
 vK (ak .i .mul v (af 2)) λw=>
 vK (kw a1 a2) λx=>
 vK (ak .i .mul w x) λe=>
 vK (ak .i .sub d e) λy=>
 vK (ak .i .mul (af 2) a2) λz=>
 ag prog kP #[y,z] a λaa ab=>
 vK (ak .i .add aa aG) λf=>
 vK (ak .i .add d e) λac=>
 vK (ak .i .mul (af 2) a2) λad=>
 ag prog AO #[ac,ad] ab λae aj=>
 vK (ak .i .sub ae f) λal=>
 R (.tuple #[f,al]) aj) (
 vK (ak .i .sub o c) λam=>
 R (.tuple #[c,am]) a))
theorem Qm (H:Fq a0 a1 a2 a3 h R):ag prog AP #[a0,a1,a2,a3] h R:=fk f200 (.s .z (.s (.s .z (.s (.s .z .z) .z)) (.s .z (.s (.s .z (.s (.s .z .z) .z)) (.s .z .z))))) H
def HZ (a0 a1 a2 a3 a4:Value)(h:ah)(R:Value→ah→Prop):Prop:=
 vK (ak .i .eql a0 ai) λc=>
 aE c (
 vK (ak .i .add a3 aG) λd=>
 vK (ak .i .mul d a1) λe=>
 vK (ak .i .add a4 aG) λf=>
 vK (ak .i .mul f a2) λg=>
 vK (tG e g) λj=>
 vK (ak .i .mul a3 a1) λk=>
 vK (ak .i .mul a4 a2) λl=>
 vK (kw k l) λm=>
 vK (ak .i .sub j m) λn=>
 ag prog fh #[n,(af 1073741824),a1] h λo p=>
 R o p) (
 vK (ak .i .mul (af 2) a2) λq=>
 vK (ak .i .mul q a4) λr=>
 vK (ak .i .mul (af 2) a3) λs=>
 vK (ak .i .add s aG) λt=>
 vK (ak .i .mul t a1) λu=>
 vK (ak .i .sub r u) λv=>
 vK (ak .i .add v a2) λa=>
 vK (kw a1 a2) λw=>
 vK (ak .i .mul (af 2) w) λb=>
 vK (ak .i .eql a0 aG) λx=>
 aE x (
 ag prog xd #[a,b] h λy z=>
 R y z) (
 ag prog xb #[a,b] h λaa ab=>
 R aa ab))
theorem SG (H:HZ a0 a1 a2 a3 a4 h R):ag prog DG #[a0,a1,a2,a3,a4] h R:=fk f201 (.s .z (.s (.s .z (.s (.s .z (.s .z .z)) .z)) (.s .z (.s (.s .z (.s (.s .z .z) .z)) (.s .z .z))))) H
def ET (a0:Value)(h:ah)(R:Value→ah→Prop):Prop:=
 vK (aC a0) λe=>
 vK (ak .i .eql e ai) λa=>
 vK (gV a false (some a0)) λf=>
 vK (gV a false (aC f)) λg=>
 vK (gV a false (ak .i .gtr g (af 1048576))) λj=>
 vK (aF a (.bool true) j) λb=>
 vK (gV b false (some a0)) λk=>
 gK b false (λl=>ag prog eE #[k,(.func (.func nF) #[] #[])] h l) h λm c=>
 vK (aF b (.bool true) m) λn=>
 aE n (
 R (af 7) c) (
 ag prog AI #[a0] c λo d=>
 vK (ak .i .lss o (af 268435456)) λp=>
 aE p (
 R (af 8) d) (
 R ai d))
theorem PX (H:ET a0 h R):ag prog AH #[a0] h R:=fk f202 (.s .z (.s (.s .z (.s (.s .z .z) .z)) (.s (.s .z (.s (.s .z .z) .z)) (.s .z .z)))) H
def KU (a0:Value)(h:ah)(R:Value→ah→Prop):Prop:=
 vK (aC a0) λc=>
 bA [ai,ai] h λa m b d=>
 vK (ak .i .lss (ix a 1) c) λe=>
 aE e (
 vK (bu 1 a0 (ix a 1)) λf=>
 vK (ldV b f) λg=>
 ag prog yr #[(ix a 0),g] b λj k=>
 vK (ak .i .add (ix a 1) aG) λl=>
 d [j,l] k) (
 R (ix a 0) b)
theorem U0 (H:KU a0 h R):ag prog AI #[a0] h R:=fk f203 (.s .z (.s .z (.s (.s .z (.l 65320 [3,8] (.s .z (.s (.s .z .z) (.s (.s .z .z) .z))))) (.s .z .z)))) H
def Ct (a0 a1:Value)(h:ah)(R:Value→ah→Prop):Prop:=
 vK (ak .i .eql a1 ai) λe=>
 aE e (
 R ai h) (
 bO h λS=>
 ag prog ju #[a0] h λf g=>
 ag prog ju #[a1] g λj k=>
 vK (ak .i .quo f j) λc=>
 ag prog ju #[a0] k λl m=>
 ag prog ju #[a1] m λn d=>
 vK (ak .i .rem l n) λo=>
 vK (ak .i .lss a0 ai) λp=>
 vK (ak .i .lss a1 ai) λq=>
 vK (ak .b .neq p q) λa=>
 vK (gV a true (some o)) λr=>
 vK (gV a true (ak .i .neq r (.int .u64 0))) λs=>
 vK (aF a s (.bool false)) λt=>
 aE t (
 vK (ak .i .add c (.int .u64 1)) λu=>
 ag prog mq #[u,a] d λv w=>
 R v w) (
 ag prog mq #[c,a] d λx y=>
 R x y))
theorem NX (H:Ct a0 a1 h R):ag prog kP #[a0,a1] h R:=fk f204 (.s .z (.s (.s .z (.s (.s .z .z) .z)) (.s (.d (.op 0 .r (.op 2 .r (.op 5 .r (.op 7 .r (.op 1 .n (.op 3 .n (.op 4 .r (.op 6 .n (.op 8 .n (.op 9 .r (.op 10 .r (.op 11 .r .nil))))))))))))) (.s .z (.s (.s .z (.s .z .z)) (.s .z .z)))))) H
def iB (a0 a1:Value)(h:ah)(R:Value→ah→Prop):Prop:=
 vK (aC a0) λa=>
 ag prog iO #[a0,a,a1] h λc b=>
 R (.tuple #[]) b
theorem mQ (H:iB a0 a1 h R):ag prog fD #[a0,a1] h R:=fk f205 .z H
def sT (a0 a1 a2:Value)(h:ah)(R:Value→ah→Prop):Prop:=
 bO h λS=>
 qK S (λh=>ldV h a2) λa=>
 vK (bu 1 a a1) λb=>
 qK S (λh=>ldV h b) λc=>
 qK S (λh=>ldV h a2) λd=>
 vK (bu 1 d a0) λe=>
 qK S (λh=>ldV h e) λf=>
 ag prog mL #[c,f] h λg i=>
 R g i
theorem CR (H:sT a0 a1 a2 h R):ag prog mI #[a0,a1,a2] h R:=fk f206 (.s .z (.s (.d (.op 0 .r (.op 1 .r (.op 2 .r (.op 3 .r (.op 4 .r (.op 5 .r (.op 6 .r (.op 7 .r (.op 8 .n (.op 9 .r .nil))))))))))) .z)) H
def tf (a0 a1:Value)(h:ah)(R:Value→ah→Prop):Prop:=
 ag prog lI #[a0] h λc d=>
 ag prog lI #[a1] d λb a=>
 aE c (
 aE b (
 R ai a) (
 R (af (-1)) a)) (
 aE b (
 R aG a) (
 vK (ak .i .lss a0 a1) λe=>
 aE e (
 R (af (-1)) a) (
 vK (ak .i .gtr a0 a1) λf=>
 aE f (
 R aG a) (
 R ai a))))
theorem CZ (H:tf a0 a1 h R):ag prog mL #[a0,a1] h R:=fk f207 (.s .z (.s .z (.s .z (.s (.s .z (.s (.s (.s .z (.s (.s .z .z) .z)) (.s .z .z)) .z)) (.s (.s .z (.s (.s .z .z) .z)) (.s (.s .z (.s (.s .z .z) .z)) (.s (.s .z (.s (.s .z .z) .z)) (.s .z .z)))))))) H
def Hr (a0:Value)(h:ah)(R:Value→ah→Prop):Prop:=
 vK (aC a0) λc=>
 bA [ai,ai] h λa o b d=>
 vK (ak .i .lss (ix a 1) c) λe=>
 aE e (
 vK (bu 1 a0 (ix a 1)) λf=>
 vK (ldV b f) λg=>
 ag prog yj #[g] b λj k=>
 ag prog yr #[(ix a 0),j] k λl m=>
 vK (ak .i .add (ix a 1) aG) λn=>
 d [l,n] m) (
 R (ix a 0) b)
theorem Sn (H:Hr a0 h R):ag prog yl #[a0] h R:=fk f208 (.s .z (.s .z (.s (.s .z (.l 130856 [3,8] (.s .z (.s (.s .z .z) (.s (.s .z .z) .z))))) (.s .z .z)))) H
def FC (a0 a1:Value)(h:ah)(R:Value→ah→Prop):Prop:=
 ag prog AY #[a0,a1] h λa b=>
 ag prog Ha #[a] b λc d=>
 ag prog kO #[c,(af 10)] d λe f=>
 R e f
theorem Qy (H:FC a0 a1 h R):ag prog AZ #[a0,a1] h R:=fk f209 (.s .z (.s .z .z)) H
def jG (a0 a1:Value)(h:ah)(R:Value→ah→Prop):Prop:=
 fR (λe=>
 vK (ak .i .lss a1 ai) λm=>
 aE m (
 OP h λan n=>
 e [] n) (
 e [] h))
 λao ap o=>
 vK (aC a0) λp=>
 vK (gP .u64 p) λq=>
 vK (gP .u64 a1) λr=>
 ag prog uG #[q,r] o λf g=>
 vK (aP f 0) λs=>
 vK (aP f 1) λj=>
 fR (λk=>
 vK (ak .i .gtr s (.int .u64 0)) λc=>
 vK (gV c false (some j)) λt=>
 vK (gV c false (ak .i .gtr t (.int .u64 9223372036854775807))) λu=>
 vK (aF c (.bool true) u) λv=>
 aE v (
 OP g λaq w=>
 k [] w) (
 k [] g))
 λar au x=>
 vK (gP .i64 j) λl=>
 mkK ai 2 1 8 l l x λa y=>
 GQ 1 a a0 y λz aa=>
 bA [z] aa λb av d ab=>
 vK (aC a) λac=>
 vK (ak .i .lss (ix b 0) ac) λad=>
 aE ad (
 bO d λS=>
 vK (yu 1 a (some (ix b 0)) none) λae=>
 vK (yu 1 a none (some (ix b 0))) λaf=>
 GQ 1 ae af d λaj al=>
 vK (ak .i .add (ix b 0) aj) λam=>
 ab [am] al) (
 R a d)
theorem qF (H:jG a0 a1 h R):ag prog gy #[a0,a1] h R:=fk f210 (.s .z (.j 3584 [] (.s .z (.s .z .z)) (.s .z (.j 266338304 [] (.s .z (.s .z .z)) (.s .z (.s .z (.s (.l 140720308486400 [8] (.s (.s .z (.s .z .z)) (.d (.op 0 .r (.op 1 .r (.op 2 .r (.op 3 .r (.op 4 .r (.op 5 .r (.op 6 .r (.op 7 .n (.op 8 .r (.op 9 .r .nil))))))))))))) (.s .z .z)))))))) H
def BO (a0 a1 a2:Value)(h:ah)(R:Value→ah→Prop):Prop:=
 vK (ak .i .eql a2 ai) λr=>
 aE r (
 R ai h) (
 ag prog qa #[a0,a1] h λe s=>
 vK (aP e 0) λj=>
 vK (aP e 1) λt=>
 vK (aP e 2) λu=>
 ag prog tT #[a2] s λf k=>
 vK (ak .i .lss a2 ai) λv=>
 vK (ak .b .neq u v) λa=>
 vK (ak .i .geq j f) λw=>
 aE w (
 ag prog fb #[(.int .u64 1),(.int .u64 0),a] k λx y=>
 R x y) (
 ag prog qB #[j,t,f] k λl m=>
 vK (aP l 0) λn=>
 vK (aP l 1) λg=>
 vK (ak .i .sub f g) λo=>
 vK (gV a true (some g)) λz=>
 vK (gV a true (some o)) λaa=>
 vK (gV a true (ak .i .gtr z aa)) λab=>
 vK (aF a ab (.bool false)) λc=>
 vK (gV c false (some a)) λac=>
 vK (gV c false (unV .not ac)) λad=>
 vK (gV c false (some ad)) λd=>
 vK (gV d true (some g)) λae=>
 vK (gV d true (some o)) λaf=>
 vK (gV d true (ak .i .geq ae af)) λaj=>
 vK (gV c false (aF d aj (.bool false))) λal=>
 vK (aF c (.bool true) al) λam=>
 aE am (
 ag prog gX #[n,(.int .u64 1),(.int .u64 0)] m λp an=>
 vK (aP p 0) λao=>
 vK (aP p 1) λap=>
 ag prog fb #[ap,ao,a] an λaq ar=>
 R aq ar) (
 ag prog gX #[n,(.int .u64 0),(.int .u64 0)] m λq au=>
 vK (aP q 0) λav=>
 vK (aP q 1) λaw=>
 ag prog fb #[aw,av,a] au λax ay=>
 R ax ay)))
theorem Nm (H:BO a0 a1 a2 h R):ag prog fh #[a0,a1,a2] h R:=fk f211 (.s .z (.s (.s .z (.s (.s .z .z) .z)) (.s .z (.s .z (.s .z (.s (.s .z (.s (.s .z .z) .z)) (.s .z (.s .z (.s .z (.s (.s .z (.s .z .z)) (.s .z (.s .z .z)))))))))))) H
def Co (h:ah)(R:Value→ah→Prop):Prop:=
 ag prog yW #[] h λs l=>
 vK (unV .not s) λe=>
 gK e false (λt=>ag prog yV #[] l t) l λu m=>
 vK (gV e false (unV .not u)) λv=>
 vK (aF e (.bool true) v) λw=>
 aE w (
 R (.bool false) m) (
 ag prog lT #[ai,(af 4),(af 2)] m λn o=>
 vK (aP n 0) λb=>
 vK (aP n 1) λx=>
 vK (ak .i .neq x ai) λf=>
 vK (gV f false (some b)) λy=>
 vK (gV f false (ak .p .eql y (.pointer none))) λz=>
 vK (aF f (.bool true) z) λaa=>
 aE aa (
 R (.bool false) o) (
 ag prog bI #[b,aG] o λab ac=>
 bh #[ai,(.slice none 0 0)] 189 ac λg ad=>
 stK 2 g ab ad λa6 ae=>
 ag prog ig #[b,ai,(af 2)] ae λq aj=>
 vK (aP q 0) λal=>
 vK (aP q 1) λam=>
 ag prog bI #[b,ai] aj λan c=>
 vK (qV false 1 0 an) λao=>
 vK (ak .i .eql ao ai) λd=>
 vK (gV d true (aB 0 g)) λap=>
 vK (gV d true (ldV c ap)) λaq=>
 vK (gV d true (ak .i .eql aq (af 2))) λar=>
 vK (aF d ar (.bool false)) λa=>
 vK (gV a true (aB 1 g)) λau=>
 vK (gV a true (ldV c au)) λav=>
 gK a true (λaw=>du #[ai,ai] 2 2 [(0,1,(af 8192)),(1,1,(af 8192))] c aw) c λax r=>
 gK a true (λay=>ag prog vM #[av,ax] r ay) r λaz a0=>
 vK (aF a az (.bool false)) λj=>
 vK (gV j true (some al)) λa1=>
 vK (gV j true (ak .i .eql a1 ai)) λa2=>
 vK (aF j a2 (.bool false)) λk=>
 vK (gV k true (some am)) λa3=>
 vK (gV k true (ak .i .eql a3 (af 4))) λa4=>
 vK (aF k a4 (.bool false)) λa5=>
 R a5 a0))
theorem NO (H:Co h R):ag prog yU #[] h R:=fk f212 (.s .z (.s (.s .z (.s (.s .z .z) .z)) (.s .z (.s (.s .z (.s (.s .z .z) .z)) (.s .z (.s .z (.s .z .z))))))) H
def oE (a0:Value)(h:ah)(R:Value→ah→Prop):Prop:=
 vK (aT a0) λa=>
 vK (aB 4 a) λb=>
 vK (ldV h b) λc=>
 ag prog dI #[c] h λd e=>
 R d e
theorem zy (H:oE a0 h R):ag prog kE #[a0] h R:=fk f213 (.s .z (.s .z .z)) H
def uN (a0 a1 a2 a3 a4:Value)(h:ah)(R:Value→ah→Prop):Prop:=
 ag prog jp #[a0,a1,a2,a3] h λc b=>
 vK (ak .i .lss c ai) λa=>
 vK (gV a false (some a4)) λd=>
 vK (gV a false (gP .i64 d)) λe=>
 vK (gV a false (some a0)) λf=>
 vK (gV a false (aT f)) λg=>
 vK (gV a false (aB 3 g)) λj=>
 vK (gV a false (ldV b j)) λk=>
 vK (gV a false (ak .i .gtr e k)) λl=>
 vK (aF a (.bool true) l) λm=>
 aE m (
 R (.bool false) b) (
 vK (aT a0) λn=>
 vK (aB 4 n) λo=>
 vK (ldV b o) λp=>
 vK (bu 1 p c) λq=>
 stK 1 q a4 b λs r=>
 R (.bool true) r)
theorem EC (H:uN a0 a1 a2 a3 a4 h R):ag prog gB #[a0,a1,a2,a3,a4] h R:=fk f214 (.s .z (.s .z (.s (.s .z (.s (.s .z .z) .z)) (.s .z (.s .z .z))))) H
def Bq (a0 a1:Value)(h:ah)(R:Value→ah→Prop):Prop:=
 ag prog kO #[a0,(af 28)] h λa b=>
 vK (tG a1 (af 65535)) λc=>
 vK (kw ai c) λd=>
 ag prog sK #[a,ai,d] b λe f=>
 vK (gP .u16 e) λg=>
 R g f
theorem LU (H:Bq a0 a1 h R):ag prog qD #[a0,a1] h R:=fk f215 (.s .z (.s .z .z)) H
def FD (a0 a1 a2 a3 a4:Value)(h:ah)(R:Value→ah→Prop):Prop:=
 bh (Value.cells a1) 81 h λf s=>
 vK (aR 3 s f) λbe=>
 ag prog kf #[a0,be] s λbf t=>
 vK (unV .not bf) λo=>
 vK (gV o false (some a4)) λbg=>
 vK (gV o false (ak .i .lss bg ai)) λbi=>
 vK (aF o (.bool true) bi) λg=>
 vK (gV g false (some a4)) λbj=>
 vK (gV g false (some a0)) λbk=>
 gK g false (λbl=>ag prog aU #[bk] t bl) t λbm a=>
 vK (gV g false (ak .i .geq bj bm)) λbn=>
 vK (aF g (.bool true) bn) λbo=>
 aE bo (
 R ai a) (
 fR (λbp=>
 bO a λS=>
 vK (aB 0 f) λbq=>
 qK S (λa=>ldV a bq) λj=>
 vK (aB 1 f) λbr=>
 qK S (λa=>ldV a br) λk=>
 (λC33:Value→Value→Value→Value→ah→Prop=>
 (λC40:Value→Value→Value→ah→Prop=>
 (λC47:Value→Value→Value→ah→Prop=>
 (λC54:Value→Value→Value→ah→Prop=>
 (λC62:Value→Value→ah→Prop=>
 (λC70:Value→Value→ah→Prop=>
 (λC76:Value→Value→ah→Prop=>
 (ag prog bI #[j,a2] a λl m=>
 S m∧((ag prog bI #[k,a3] m λu p=>
 S p∧((bh #[ai,(.slice none 0 0)] 189 p λbs v=>
 S v∧(C40 l u bs v))∧(bh #[ai,(.slice none 0 0)] 189 p λbt w=>
 S w∧(C47 l u bt w))))∧((bh #[ai,(.slice none 0 0)] 189 m λbv x=>
 S x∧(C62 l bv x))∧(bh #[ai,(.slice none 0 0)] 189 m λbw y=>
 S y∧(C70 l bw y)))))∧((bh #[ai,(.slice none 0 0)] 189 a λz q=>
 S q∧((ag prog bI #[j,a2] q λbx aa=>
 S aa∧(C62 bx z aa))∧(bh #[ai,(.slice none 0 0)] 189 q λbz ab=>
 S ab∧(C76 z bz ab))))∧(bh #[ai,(.slice none 0 0)] 189 a λac r=>
 S r∧((ag prog bI #[j,a2] r λb0 ad=>
 S ad∧(C70 b0 ac ad))∧(bh #[ai,(.slice none 0 0)] 189 r λb1 ae=>
 S ae∧(C76 b1 ac ae)))))) (λb2 b3 b4=>
 ag prog bI #[j,a2] b4 λb5 af=>
 S af∧(C54 b5 b2 b3 af))) (λaj al am=>
 (ag prog bI #[k,a3] am λb6 an=>
 S an∧(C47 aj b6 al an))∧(bh #[ai,(.slice none 0 0)] 189 am λb7 ao=>
 S ao∧(C54 aj b7 al ao)))) (λap aq ar=>
 (ag prog bI #[k,a3] ar λb8 au=>
 S au∧(C40 ap b8 aq au))∧(bh #[ai,(.slice none 0 0)] 189 ar λb9 av=>
 S av∧(C54 ap aq b9 av)))) (λca cb cc cd=>
 ag prog bI #[k,a3] cd λce aw=>
 S aw∧(C33 ca ce cb cc aw))) (λcf cg ch ci=>
 bh #[ai,(.slice none 0 0)] 189 ci λcj ax=>
 S ax∧(C33 cf cg cj ch ax))) (λck cl cm cn=>
 bh #[ai,(.slice none 0 0)] 189 cn λco ay=>
 S ay∧(C33 ck cl cm co ay))) (λcp cq az a5 cr=>
 stK 2 az cp cr λds a6=>
 S a6∧(stK 2 a5 cq a6 λdt a7=>
 S a7∧(bp [az,a5] a7))))
 λn du a8=>
 vK (aB 1 (ix n 1)) λcs=>
 vK (ldV a8 cs) λa9=>
 vK (aC a9) λct=>
 bA [ai,ai] a8 λd dv b cu=>
 vK (ak .i .lss (ix d 1) ct) λcv=>
 aE cv (
 vK (bu 1 a9 (ix d 1)) λcw=>
 vK (ldV b cw) λcx=>
 bO b λS=>
 vK (aB 2 f) λcy=>
 qK S (λb=>ldV b cy) λcz=>
 vK (aB 0 (ix n 1)) λc0=>
 qK S (λb=>ldV b c0) λc1=>
 vK (ak .i .add c1 (ix d 1)) λc2=>
 ag prog bN #[a0] b λc3 ba=>
 S ba∧(ag prog lZ #[cz,c2,c3] ba λc4 bb=>
 vK (aB 1 (ix n 0)) λc5=>
 vK (ldV bb c5) λbc=>
 vK (aC bc) λc6=>
 bA [(ix d 0),ai] bb λe dw c c7=>
 vK (ak .i .lss (ix e 1) c6) λc8=>
 aE c8 (
 vK (bu 1 bc (ix e 1)) λc9=>
 vK (ldV c c9) λda=>
 bO c λS=>
 vK (aB 2 f) λdb=>
 qK S (λc=>ldV c db) λdc=>
 vK (aB 0 (ix n 0)) λdd=>
 qK S (λc=>ldV c dd) λde=>
 vK (ak .i .add de (ix e 1)) λdf=>
 ag prog bL #[a0] c λdg bd=>
 S bd∧(ag prog lZ #[dc,df,dg] bd λdh di=>
 vK (ak .i .mul da cx) λdj=>
 ag prog gW #[a0,dh,c4,a4] di λdk dl=>
 vK (gP .i64 dk) λdm=>
 vK (ak .i .mul dj dm) λdn=>
 vK (ak .i .add (ix e 0) dn) λdp=>
 vK (ak .i .add (ix e 1) aG) λdq=>
 c7 [dp,dq] dl)) (
 vK (ak .i .add (ix d 1) aG) λdr=>
 cu [(ix e 0),dr] c))) (
 R (ix d 0) b))
theorem Qz (H:FD a0 a1 a2 a3 a4 h R):ag prog A2 #[a0,a1,a2,a3,a4] h R:=fk f216 (.s .z (.s (.s .z (.s (.s .z .z) .z)) (.j 4380866648064 [11,12] (.d (.op 0 .r (.op 1 .r (.op 2 .r (.op 4 .r (.op 5 .r (.op 6 .r (.alt (.op 3 .e (.alt (.op 7 .e (.alt (.op 8 .e (.op 9 .e (.op 10 .e (.op 11 .e .nil)))) (.op 9 .e (.op 8 .e (.op 10 .e (.op 11 .e .nil)))))) (.alt (.op 8 .e (.alt (.op 7 .e (.op 9 .e (.op 10 .e (.op 11 .e .nil)))) (.op 9 .e (.op 7 .e (.op 10 .e (.op 11 .e .nil)))))) (.op 9 .e (.alt (.op 7 .e (.op 8 .e (.op 10 .e (.op 11 .e .nil)))) (.op 8 .e (.op 7 .e (.op 10 .e (.op 11 .e .nil))))))))) (.alt (.op 8 .e (.alt (.op 3 .e (.alt (.op 7 .e (.op 9 .e (.op 10 .e (.op 11 .e .nil)))) (.op 9 .e (.op 7 .e (.op 10 .e (.op 11 .e .nil)))))) (.op 9 .e (.op 3 .e (.op 7 .e (.op 10 .e (.op 11 .e .nil))))))) (.op 9 .e (.alt (.op 3 .e (.alt (.op 7 .e (.op 8 .e (.op 10 .e (.op 11 .e .nil)))) (.op 8 .e (.op 7 .e (.op 10 .e (.op 11 .e .nil)))))) (.op 8 .e (.op 3 .e (.op 7 .e (.op 10 .e (.op 11 .e .nil)))))))))))))))) (.s .z (.s (.s .z (.l 1237940039285345090528075776 [13,45] (.s .z (.s (.s .z .z) (.s (.s .z (.s (.d (.op 0 .r (.op 1 .r (.op 2 .r (.op 3 .r (.op 4 .r (.op 5 .r (.op 6 .r (.op 7 .e (.op 8 .n (.op 9 .r .nil))))))))))) (.s .z (.l 618970015031004119023099904 [13,62] (.s .z (.s (.s .z .z) (.s (.s .z (.s (.d (.op 0 .r (.op 1 .r (.op 2 .r (.op 3 .r (.op 4 .r (.op 5 .r (.op 6 .r (.op 7 .e (.op 8 .n (.op 9 .r .nil))))))))))) .z)) .z))))))) .z))))) (.s .z .z)))))) H
def vT (a0:Value)(h:ah)(R:Value→ah→Prop):Prop:=
 vK (aT a0) λa=>
 vK (aB 16 a) λb=>
 vK (ldV h b) λc=>
 vK (aT a0) λd=>
 vK (aB 5 d) λe=>
 vK (aB 1 e) λf=>
 vK (aB 1 f) λg=>
 vK (ldV h g) λj=>
 vK (aT a0) λk=>
 vK (aB 5 k) λl=>
 vK (aB 1 l) λm=>
 vK (aB 3 m) λn=>
 vK (ldV h n) λo=>
 vK (ak .i .add j o) λp=>
 vK (ak .i .geq c p) λq=>
 R q h
theorem Gd (H:vT a0 h R):ag prog p9 #[a0] h R:=fk f217 (.s .z (.s .z .z)) H
def vU (a0:Value)(h:ah)(R:Value→ah→Prop):Prop:=
 bh #[ai,(.slice none 0 0)] 189 h λb a=>
 bO a λS=>
 vK (aT a0) λd=>
 vK (aB 2 d) λe=>
 vK (aB 1 e) λf=>
 qK S (λa=>ldV a f) λg=>
 vK (aT a0) λi=>
 vK (aB 16 i) λj=>
 qK S (λa=>ldV a j) λk=>
 ag prog bI #[g,k] a λl m=>
 stK 2 b l m λo c=>
 vK (aR 2 c b) λn=>
 R n c
theorem Ge (H:vU a0 h R):ag prog lE #[a0] h R:=fk f218 (.s .z (.s (.d (.op 0 .r (.op 1 .r (.op 2 .r (.op 3 .r (.op 4 .r (.op 5 .r (.op 6 .r (.op 7 .r (.op 8 .r (.op 9 .n (.op 10 .n .nil)))))))))))) .z)) H
def xy (a0 a1 a2:Value)(h:ah)(R:Value→ah→Prop):Prop:=
 bA [a1] h λa k b d=>
 vK (ak .i .lss (ix a 0) a2) λe=>
 aE e (
 ag prog nH #[a0,(ix a 0)] b λf c=>
 vK (unV .not f) λg=>
 aE g (
 R (.tuple #[(ix a 0),(.bool true)]) c) (
 vK (ak .i .add (ix a 0) aG) λj=>
 d [j] c)) (
 R (.tuple #[ai,(.bool false)]) b)
theorem IB (H:xy a0 a1 a2 h R):ag prog rN #[a0,a1,a2] h R:=fk f219 (.s .z (.s (.s .z (.l 1048000 [8] (.s (.s .z (.s .z .z)) (.s (.s .z (.s (.s .z .z) .z)) .z)))) (.s .z .z))) H
def sS (a0 a1 a2 a3:Value)(h:ah)(R:Value→ah→Prop):Prop:=
 vK (aT a0) λl=>
 vK (aB 2 l) λm=>
 vK (aB 0 m) λn=>
 vK (ldV h n) λo=>
 ag prog bI #[o,a1] h λp q=>
 bh #[ai,(.slice none 0 0)] 189 q λd r=>
 stK 2 d p r λbf f=>
 vK (aT a0) λs=>
 vK (aB 0 s) λt=>
 vK (ldV f t) λu=>
 ag prog aU #[u] f λv w=>
 bA [a3,ai] w λc bg e x=>
 vK (ak .i .lss (ix c 1) v) λy=>
 aE y (
 vK (aB 1 d) λz=>
 vK (ldV e z) λg=>
 vK (aC g) λaa=>
 bA [ai,ai] e λb bi a ab=>
 vK (ak .i .lss (ix b 1) aa) λac=>
 aE ac (
 vK (bu 1 g (ix b 1)) λad=>
 vK (ldV a ad) λae=>
 bO a λS=>
 vK (aT a0) λaf=>
 vK (aB 2 af) λaj=>
 vK (aB 2 aj) λal=>
 qK S (λa=>ldV a al) λam=>
 vK (aB 0 d) λan=>
 qK S (λa=>ldV a an) λao=>
 vK (ak .i .add ao (ix b 1)) λap=>
 vK (aT a0) λaq=>
 vK (aB 0 aq) λar=>
 qK S (λa=>ldV a ar) λau=>
 ag prog bL #[au] a λav j=>
 S j∧(ag prog lZ #[am,ap,av] j λaw k=>
 vK (aT a0) λax=>
 vK (aB 0 ax) λay=>
 vK (ldV k ay) λaz=>
 ag prog gW #[az,aw,a2,(ix c 1)] k λa4 a5=>
 vK (gP .i64 a4) λa6=>
 vK (ak .i .mul ae a6) λa7=>
 vK (ak .i .add (ix b 0) a7) λa8=>
 vK (ak .i .add (ix b 1) aG) λa9=>
 ab [a8,a9] a5)) (
 du #[ai] 2 1 [(0,1,(ix b 0))] a λba bb=>
 dy ai 2 1 8 (ix c 0) ba bb λbc bd=>
 vK (ak .i .add (ix c 1) aG) λbe=>
 x [bc,be] bd)) (
 R (ix c 0) e)
theorem CQ (H:sS a0 a1 a2 a3 h R):ag prog mH #[a0,a1,a2,a3] h R:=fk f220 (.s .z (.s .z (.s (.s .z (.l 4722366482869511027720 [3,27] (.s .z (.s (.s .z .z) (.s (.s .z (.s .z (.s (.s .z (.l 147573952581086509056 [11,33] (.s .z (.s (.s .z .z) (.s (.s .z (.s (.d (.op 0 .r (.op 1 .r (.op 2 .r (.op 3 .r (.op 4 .r (.op 5 .r (.op 6 .r (.op 7 .r (.op 8 .r (.op 9 .r (.op 10 .r (.op 11 .r (.op 12 .r (.op 13 .e (.op 14 .n (.op 15 .r .nil))))))))))))))))) .z)) .z))))) .z))) .z))))) (.s .z .z)))) H
def zc (a0 a1 a2:Value)(h:ah)(R:Value→ah→Prop):Prop:=
 vK (aC a2) λk=>
 vK (aT a0) λl=>
 vK (aB 1 l) λm=>
 vK (ldV h m) λn=>
 vK (ak .i .neq k n) λb=>
 vK (gV b false (some a0)) λo=>
 vK (gV b false (some a1)) λp=>
 gK b false (λq=>ag prog nH #[o,p] h q) h λr c=>
 vK (aF b (.bool true) r) λs=>
 aE s (
 R (.bool false) c) (
 fR (λd=>
 ag prog qn #[a0] c λe a=>
 vK (aP e 0) λf=>
 vK (aP e 1) λam=>
 vK (aT a0) λt=>
 vK (aB 2 t) λu=>
 vK (ldV a u) λv=>
 vK (Oq a v) λw=>
 vK (aT a0) λx=>
 vK (aB 0 x) λy=>
 vK (ldV a y) λz=>
 vK (ak .i .geq w z) λaa=>
 aE aa (
 vK (ak .i .lss a1 f) λab=>
 aE ab (
 R (.bool false) a) (
 ag prog rM #[a0,f] a λan ac=>
 d [] ac)) (
 d [] a))
 λao ap ad=>
 ag prog qh #[a0] ad λg ae=>
 GQ 1 g a2 ae λaq j=>
 vK (aT a0) λaf=>
 vK (aB 2 af) λai=>
 vK (ldV j ai) λaj=>
 pG (.int .i64) aj a1 g j λar al=>
 R (.bool true) al)
theorem Kk (H:zc a0 a1 a2 h R):ag prog uC #[a0,a1,a2] h R:=fk f221 (.s .z (.s (.s .z (.s (.s .z .z) .z)) (.j 8796088828352 [] (.s .z (.s .z (.s (.s (.s .z (.s (.s .z .z) .z)) .z) .z))) (.s .z (.s .z (.s .z (.s .z .z))))))) H
def we (a0:Value)(h:ah)(R:Value→ah→Prop):Prop:=
 vK (aT a0) λa=>
 vK (aB 1 a) λb=>
 vK (ldV h b) λc=>
 R c h
theorem Gk (H:we a0 h R):ag prog qk #[a0] h R:=fk f222 (.s .z (.s .z .z)) H
def y9 (a0 a1:Value)(h:ah)(R:Value→ah→Prop):Prop:=
 vK (aT a0) λb=>
 vK (aB 2 b) λc=>
 vK (ldV h c) λd=>
 vK (Bv (.int .i64) (.slice none 0 0) true h d a1) λa=>
 vK (aP a 0) λe=>
 vK (aP a 1) λf=>
 ag prog dt #[e] h λg i=>
 R (.tuple #[g,f]) i
theorem Kj (H:y9 a0 a1 h R):ag prog uB #[a0,a1] h R:=fk f223 (.s .z (.s .z (.s .z .z))) H
def Fc (a0:Value)(h:ah)(R:Value→ah→Prop):Prop:=
 vK (ak .i .geq a0 aG) λa=>
 vK (gV a true (some a0)) λb=>
 vK (gV a true (ak .i .leq b (af 65536))) λc=>
 vK (aF a c (.bool false)) λd=>
 R d h
theorem P8 (H:Fc a0 h R):ag prog qp #[a0] h R:=fk f224 (.s .z (.s .z .z)) H
def HM (a0 a1 a2 a3:Value)(h:ah)(R:Value→ah→Prop):Prop:=
 ag prog DD #[a0,a1,a2,a3] h λj d=>
 vK (unV .not j) λk=>
 aE k (
 R (.tuple #[ai,(.slice none 0 0)]) d) (
 vK (ak .i .mul a3 a1) λl=>
 vK (ak .i .quo l a2) λm=>
 bA [m] d λc al n o=>
 vK (ak .i .sub (ix c 0) aG) λp=>
 ag prog rP #[a0,a1,a2,a3,p] n λq e=>
 aE q (
 vK (ak .i .sub (ix c 0) aG) λr=>
 o [r] e) (
 bA [(ix c 0)] e λb am s t=>
 ag prog rP #[a0,a1,a2,a3,(ix b 0)] s λu f=>
 vK (unV .not u) λv=>
 aE v (
 vK (ak .i .add (ix b 0) aG) λw=>
 t [w] f) (
 bA [(ix b 0),(.slice none 0 0)] f λa an x y=>
 ag prog rP #[a0,a1,a2,a3,(ix a 0)] x λz g=>
 aE z (
 ag prog xc #[a0,a1,a2,a3,(ix a 0)] g λaa ab=>
 du #[ai] 2 1 [(0,1,aa)] ab λac ad=>
 dy ai 2 1 8 (ix a 1) ac ad λae af=>
 vK (ak .i .add (ix a 0) aG) λaj=>
 y [aj,ae] af) (
 R (.tuple #[(ix b 0),(ix a 1)]) g))))
theorem SA (H:HM a0 a1 a2 a3 h R):ag prog yn #[a0,a1,a2,a3] h R:=fk f225 (.s .z (.s (.s .z (.s (.s .z .z) .z)) (.s .z (.s (.l 8573158400 [10] (.s (.s .z (.s .z .z)) .z)) (.s (.l 4389456577536 [10] (.s (.s .z (.s .z .z)) .z)) (.s .z (.s .z (.s (.l 1152912708513829888 [10,12] (.s (.s .z (.s .z .z)) (.s .z .z))) (.s .z .z))))))))) H
def wh (a0:Value)(h:ah)(R:Value→ah→Prop):Prop:=
 vK (aC a0) λr=>
 vK (ak .i .lss r aG) λd=>
 vK (gV d false (some a0)) λs=>
 vK (gV d false (aC s)) λt=>
 vK (gV d false (ak .i .gtr t (af 1048576))) λu=>
 vK (aF d (.bool true) u) λv=>
 aE v (
 R (.tuple #[(.slice none 0 0),(af 7)]) h) (
 vK (aC a0) λw=>
 bA [ai] h λe bp f x=>
 vK (ak .i .lss (ix e 0) w) λy=>
 aE y (
 vK (bu 1 a0 (ix e 0)) λz=>
 vK (ldV f z) λaa=>
 ag prog vL #[aa] f λab l=>
 vK (ak .i .gtr ab (af 1099511627776)) λac=>
 aE ac (
 R (.tuple #[(.slice none 0 0),(af 7)]) l) (
 vK (ak .i .add (ix e 0) aG) λad=>
 x [ad] l)) (
 ag prog DC #[a0] f λg m=>
 vK (ak .i .lss g (af 268435456)) λae=>
 aE ae (
 R (.tuple #[(.slice none 0 0),(af 8)]) m) (
 vK (aC a0) λaj=>
 bA [(.slice none 0 0),(.slice none 0 0),(af 16384),ai] m λa bq j al=>
 vK (ak .i .lss (ix a 3) aj) λam=>
 aE am (
 vK (bu 1 a0 (ix a 3)) λan=>
 vK (ldV j an) λn=>
 vK (ak .i .mul n (af 16384)) λao=>
 ag prog sH #[ao,g] j λk ap=>
 du #[ai] 2 1 [(0,1,k)] ap λaq ar=>
 dy ai 2 1 8 (ix a 0) aq ar λau av=>
 vK (ak .i .mul n (af 16384)) λaw=>
 vK (ak .i .mul k g) λax=>
 vK (ak .i .sub aw ax) λay=>
 du #[ai] 2 1 [(0,1,ay)] av λaz a1=>
 dy ai 2 1 8 (ix a 1) az a1 λa2 a3=>
 vK (ak .i .sub (ix a 2) k) λa4=>
 vK (ak .i .add (ix a 3) aG) λa5=>
 al [au,a2,a4,a5] a3) (
 bA [(ix a 2)] j λo br p a6=>
 vK (ak .i .gtr (ix o 0) ai) λa7=>
 aE a7 (
 vK (aC (ix a 1)) λa8=>
 bA [ai,ai] p λb bs c q=>
 vK (ak .i .lss (ix b 1) a8) λa9=>
 aE a9 (
 vK (bu 1 (ix a 1) (ix b 1)) λba=>
 vK (ldV c ba) λbb=>
 vK (bu 1 (ix a 1) (ix b 0)) λbc=>
 vK (ldV c bc) λbd=>
 vK (ak .i .gtr bb bd) λbe=>
 aE be (
 vK (ak .i .add (ix b 1) aG) λbf=>
 q [(ix b 1),bf] c) (
 vK (ak .i .add (ix b 1) aG) λbg=>
 q [(ix b 0),bg] c)) (
 vK (bu 1 (ix a 0) (ix b 0)) λbh=>
 vK (ldV c bh) λbi=>
 vK (ak .i .add bi aG) λbj=>
 vK (bu 1 (ix a 0) (ix b 0)) λbk=>
 stK 1 bk bj c λbt bl=>
 vK (bu 1 (ix a 1) (ix b 0)) λbm=>
 stK 1 bm (af (-1)) bl λbv bn=>
 vK (ak .i .sub (ix o 0) aG) λbo=>
 a6 [bo] bn)) (
 R (.tuple #[(ix a 0),ai]) p)))))
theorem Gm (H:wh a0 h R):ag prog jk #[a0] h R:=fk f226 (.s .z (.s (.s .z (.s (.s .z .z) .z)) (.s (.s .z (.l 8556380204 [25] (.s .z (.s (.s .z .z) (.s (.s .z (.s .z (.s (.s .z .z) .z))) .z))))) (.s .z (.s (.s .z (.s (.s .z .z) .z)) (.s .z (.s .z (.s .z (.s (.s .z (.l 18446743523953744768 [7,8,9,39] (.s .z (.s (.s .z .z) (.s (.s .z (.s .z (.s .z (.s .z .z)))) .z))))) (.s (.l 9903520295836298125483467264 [9] (.s (.s .z (.s .z .z)) (.s .z (.s (.s .z (.l 4835408130553337346023424 [13,68] (.s .z (.s (.s .z .z) (.s (.s .z (.s .z (.s .z .z))) .z))))) (.s .z (.s .z .z)))))) (.s .z .z))))))))))) H
def BW (a0 a1:Value)(h:ah)(R:Value→ah→Prop):Prop:=
 ag prog yL #[a0,a1] h λa b=>
 ag prog DF #[a] b λc d=>
 ag prog mY #[c,(af 10)] d λe f=>
 R e f
theorem Nt (H:BW a0 a1 h R):ag prog yM #[a0,a1] h R:=fk f227 (.s .z (.s .z .z)) H
def BU (a0:Value)(h:ah)(R:Value→ah→Prop):Prop:=
 vK (aC a0) λc=>
 bA [ai,ai] h λa o b d=>
 vK (ak .i .lss (ix a 1) c) λe=>
 aE e (
 vK (bu 1 a0 (ix a 1)) λf=>
 vK (ldV b f) λg=>
 ag prog vL #[g] b λj k=>
 ag prog vJ #[(ix a 0),j] k λl m=>
 vK (ak .i .add (ix a 1) aG) λn=>
 d [l,n] m) (
 R (ix a 0) b)
theorem Nr (H:BU a0 h R):ag prog yK #[a0] h R:=fk f228 (.s .z (.s .z (.s (.s .z (.l 130856 [3,8] (.s .z (.s (.s .z .z) (.s (.s .z .z) .z))))) (.s .z .z)))) H
def Bi (a0 a1 a2:Value)(h:ah)(R:Value→ah→Prop):Prop:=
 vK (ak .i .eql a2 ai) λe=>
 aE e (
 R ai h) (
 ag prog gH #[a0] h λf g=>
 ag prog gH #[a1] g λj k=>
 ag prog sF #[f,j] k λl m=>
 bh #[(.int .u64 0),(.int .u64 0)] 351 m λc n=>
 stK 2 c l n λx a=>
 vK (ak .i .lss a0 ai) λo=>
 vK (ak .i .lss a1 ai) λp=>
 vK (ak .b .neq o p) λq=>
 bO a λS=>
 qK S (λa=>aR 2 a c) λr=>
 vK (ak .i .lss a2 ai) λs=>
 vK (ak .b .neq q s) λt=>
 ag prog gH #[a2] a λu d=>
 S d∧(ag prog uE #[r,u,t] d λv w=>
 R v w))
theorem LN (H:Bi a0 a1 a2 h R):ag prog dD #[a0,a1,a2] h R:=fk f229 (.s .z (.s (.s .z (.s (.s .z .z) .z)) (.s .z (.s .z (.s (.d (.op 0 .r (.op 1 .r (.op 3 .r (.op 4 .r (.op 5 .r (.op 6 .r (.op 2 .e (.op 7 .n (.op 8 .r .nil)))))))))) .z))))) H
end
section
variable {a0 a1 a2 a3 a4 a5 a6:Value}{h:ah}{R:Value→ah→Prop}
def MO (a0 a1 a2 a3:Value)(h:ah)(R:Value→ah→Prop):Prop:=
 vK (ak .i .geq a0 ai) λb=>
 vK (gV b true (some a0)) λj=>
 vK (gV b true (ak .i .lss j (af 3))) λk=>
 vK (aF b k (.bool false)) λc=>
 vK (gV c true (some a1)) λl=>
 vK (gV c true (ak .i .geq l aG)) λm=>
 vK (aF c m (.bool false)) λd=>
 vK (gV d true (some a1)) λn=>
 vK (gV d true (ak .i .leq n (af 65536))) λo=>
 vK (aF d o (.bool false)) λe=>
 vK (gV e true (some a2)) λp=>
 vK (gV e true (ak .i .geq p aG)) λq=>
 vK (aF e q (.bool false)) λf=>
 vK (gV f true (some a2)) λr=>
 vK (gV f true (ak .i .leq r (af 65536))) λs=>
 vK (aF f s (.bool false)) λg=>
 vK (gV g true (some a3)) λt=>
 vK (gV g true (ak .i .geq t ai)) λu=>
 vK (aF g u (.bool false)) λa=>
 vK (gV a true (some a3)) λv=>
 vK (gV a true (some a2)) λw=>
 vK (gV a true (ak .i .lss v w)) λx=>
 vK (aF a x (.bool false)) λy=>
 R y h
theorem WV (H:MO a0 a1 a2 a3 h R):ag prog KQ #[a0,a1,a2,a3] h R:=fk f236 (.s .z (.s .z .z)) H
def KZ (a0 a1:Value)(h:ah)(R:Value→ah→Prop):Prop:=
 vK (unV .neg a0) λa=>
 ag prog kP #[a,a1] h λb c=>
 vK (unV .neg b) λd=>
 R d c
theorem U7 (H:KZ a0 a1 h R):ag prog AO #[a0,a1] h R:=fk f237 (.s .z (.s .z .z)) H
def K3 (a0 a1:Value)(h:ah)(R:Value→ah→Prop):Prop:=
 vK (ak .i .lss a1 aG) λd=>
 vK (gV d false (some a1)) λe=>
 vK (gV d false (ak .i .gtr e (af 262144))) λf=>
 vK (aF d (.bool true) f) λb=>
 vK (gV b false (some a0)) λg=>
 vK (gV b false (some a1)) λj=>
 vK (gV b false (ak .i .mul (af 2) j)) λk=>
 vK (gV b false (ak .i .geq g k)) λl=>
 vK (aF b (.bool true) l) λc=>
 vK (gV c false (some a0)) λm=>
 vK (gV c false (some a1)) λn=>
 vK (gV c false (ak .i .mul (af (-2)) n)) λo=>
 vK (gV c false (ak .i .leq m o)) λp=>
 vK (aF c (.bool true) p) λq=>
 aE q (
 R ai h) (
 vK (unV .neg a0) λr=>
 vK (kw a0 r) λa=>
 vK (ak .i .mul (af 3) a) λs=>
 vK (ak .i .mul s a) λt=>
 vK (ak .i .mul t a) λu=>
 vK (ak .i .mul (af 5) a) λv=>
 vK (ak .i .mul v a) λw=>
 vK (ak .i .mul w a1) λx=>
 vK (ak .i .sub u x) λy=>
 vK (ak .i .mul (af 2) a1) λz=>
 vK (ak .i .mul z a1) λaa=>
 vK (ak .i .mul aa a1) λab=>
 vK (ak .i .add y ab) λac=>
 vK (ak .i .geq a a1) λad=>
 aE ad (
 vK (unV .neg a) λae=>
 vK (ak .i .mul ae a) λaj=>
 vK (ak .i .mul aj a) λal=>
 vK (ak .i .mul (af 5) a) λam=>
 vK (ak .i .mul am a) λan=>
 vK (ak .i .mul an a1) λao=>
 vK (ak .i .add al ao) λap=>
 vK (ak .i .mul (af 8) a) λaq=>
 vK (ak .i .mul aq a1) λar=>
 vK (ak .i .mul ar a1) λau=>
 vK (ak .i .sub ap au) λav=>
 vK (ak .i .mul (af 4) a1) λaw=>
 vK (ak .i .mul aw a1) λax=>
 vK (ak .i .mul ax a1) λay=>
 vK (ak .i .add av ay) λaz=>
 vK (ak .i .mul (af 2) a1) λa2=>
 vK (ak .i .mul a2 a1) λa3=>
 vK (ak .i .mul a3 a1) λa4=>
 ag prog fh #[az,(af 1073741824),a4] h λa5 a6=>
 R a5 a6) (
 vK (ak .i .mul (af 2) a1) λa7=>
 vK (ak .i .mul a7 a1) λa8=>
 vK (ak .i .mul a8 a1) λa9=>
 ag prog fh #[ac,(af 1073741824),a9] h λba bb=>
 R ba bb))
theorem U9 (H:K3 a0 a1 h R):ag prog xd #[a0,a1] h R:=fk f238 (.s .z (.s (.s .z (.s (.s .z .z) .z)) (.s .z (.s .z (.s (.s .z (.s .z .z)) (.s .z .z)))))) H
def Bd (a0 a1:Value)(h:ah)(R:Value→ah→Prop):Prop:=
 ag prog G7 #[a0,a1] h λd b=>
 vK (unV .not d) λa=>
 vK (gV a false (some a0)) λe=>
 gK a false (λf=>ag prog ym #[e] b f) b λg c=>
 vK (gV a false (some a1)) λj=>
 vK (gV a false (ak .i .mul (af 3) j)) λk=>
 vK (gV a false (ak .i .geq g k)) λl=>
 vK (aF a (.bool true) l) λm=>
 aE m (
 R ai c) (
 ag prog sC #[a0,a1] c λn o=>
 vK (ak .i .mul (af 3) a1) λp=>
 ag prog sC #[a0,p] o λq r=>
 ag prog uA #[n,q,(af 40)] r λs t=>
 ag prog kO #[s,(af 10)] t λu v=>
 R u v)
theorem LH (H:Bd a0 a1 h R):ag prog xb #[a0,a1] h R:=fk f239 (.s .z (.s (.s .z (.s (.s .z .z) .z)) (.s .z .z))) H
def gR (a0 a1:Value)(h:ah)(R:Value→ah→Prop):Prop:=
 ag prog iW #[a0,a1] h λa b=>
 vK (ak .i .geq a ai) λc=>
 R c b
theorem ma (H:gR a0 a1 h R):ag prog eE #[a0,a1] h R:=fk f240 (.s .z (.s .z .z)) H
def y7 (a0:Value)(h:ah)(R:Value→ah→Prop):Prop:=
 ag prog yj #[a0] h λa b=>
 vK (ak .i .gtr a (af 1099511627776)) λc=>
 R c b
theorem Kh (H:y7 a0 h R):ag prog nF #[a0] h R:=fk f241 (.s .z (.s .z .z)) H
def Hp (a0:Value)(h:ah)(R:Value→ah→Prop):Prop:=
 ag prog DJ #[a0,(af (-1))] h λa b=>
 vK (kw a0 a) λc=>
 R c b
theorem Sk (H:Hp a0 h R):ag prog yj #[a0] h R:=fk f242 (.s .z (.s .z .z)) H
def Ik (a0 a1:Value)(h:ah)(R:Value→ah→Prop):Prop:=
 vK (ak .i .add a0 a1) λc=>
 vK (ak .i .gtr a1 ai) λa=>
 vK (gV a true (some c)) λd=>
 vK (gV a true (some a0)) λe=>
 vK (gV a true (ak .i .lss d e)) λf=>
 vK (aF a f (.bool false)) λg=>
 aE g (
 R (af 9223372036854775807) h) (
 vK (ak .i .lss a1 ai) λb=>
 vK (gV b true (some c)) λj=>
 vK (gV b true (some a0)) λk=>
 vK (gV b true (ak .i .gtr j k)) λl=>
 vK (aF b l (.bool false)) λm=>
 aE m (
 R (af (-9223372036854775808)) h) (
 R c h))
theorem SQ (H:Ik a0 a1 h R):ag prog yr #[a0,a1] h R:=fk f243 (.s .z (.s .z (.s (.s .z (.s (.s .z .z) (.s .z (.s (.s .z .z) .z)))) (.s .z .z)))) H
def Fz (a0:Value)(h:ah)(R:Value→ah→Prop):Prop:=
 vK (ak .i .lss a0 ai) λa=>
 aE a (
 vK (gP .u64 a0) λb=>
 vK (unV .neg b) λc=>
 R c h) (
 vK (gP .u64 a0) λd=>
 R d h)
theorem Qv (H:Fz a0 h R):ag prog ju #[a0] h R:=fk f244 (.s .z (.s (.s .z (.s (.s .z .z) .z)) (.s .z .z))) H
def FA (a0 a1:Value)(h:ah)(R:Value→ah→Prop):Prop:=
 vK (gV a1 true (some a0)) λa=>
 vK (gV a1 true (ak .i .geq a (.int .u64 9223372036854775808))) λb=>
 vK (aF a1 b (.bool false)) λc=>
 aE c (
 R (af (-9223372036854775808)) h) (
 aE a1 (
 vK (gP .i64 a0) λd=>
 vK (unV .neg d) λe=>
 R e h) (
 vK (ak .i .gtr a0 (.int .u64 9223372036854775807)) λf=>
 aE f (
 R (af 9223372036854775807) h) (
 vK (gP .i64 a0) λg=>
 R g h)))
theorem Qw (H:FA a0 a1 h R):ag prog mq #[a0,a1] h R:=fk f245 (.s .z (.s (.s .z (.s (.s .z .z) (.s .z (.s (.s .z .z) (.s .z (.s (.s .z .z) .z)))))) (.s .z .z))) H
def kX (a0 a1 a2:Value)(h:ah)(R:Value→ah→Prop):Prop:=
 bA [ai,(af 20)] h λc ab e k=>
 vK (ak .i .leq (ix c 1) a1) λl=>
 aE l (
 ag prog dE #[a0,(ix c 0),(ix c 1),a2] e λac m=>
 vK (ak .i .add (ix c 1) (af 20)) λn=>
 k [(ix c 1),n] m) (
 ag prog dE #[a0,(ix c 0),a1,a2] e λad o=>
 bA [(af 20)] o λb ae f g=>
 vK (ak .i .lss (ix b 0) a1) λp=>
 aE p (
 vK (ak .i .mul (af 2) (ix b 0)) λq=>
 bA [ai,q] f λa aj d r=>
 vK (ak .i .leq (ix a 1) a1) λs=>
 aE s (
 vK (ak .i .add (ix a 0) (ix b 0)) λt=>
 ag prog ch #[a0,(ix a 0),t,(ix a 1),a2] d λal u=>
 vK (ak .i .mul (af 2) (ix b 0)) λv=>
 vK (ak .i .add (ix a 1) v) λw=>
 r [(ix a 1),w] u) (
 vK (ak .i .add (ix a 0) (ix b 0)) λj=>
 vK (ak .i .lss j a1) λx=>
 aE x (
 ag prog ch #[a0,(ix a 0),j,a1,a2] d λam y=>
 vK (ak .i .mul (ix b 0) (af 2)) λz=>
 g [z] y) (
 vK (ak .i .mul (ix b 0) (af 2)) λaa=>
 g [aa] d))) (
 R (.tuple #[]) f))
theorem vd (H:kX a0 a1 a2 h R):ag prog iO #[a0,a1,a2] h R:=fk f246 (.s .z (.s .z (.s (.l 8386944 [7,8] (.s (.s .z (.s .z .z)) (.s .z (.s .z .z)))) (.s .z (.l 9223372036586341312 [6] (.s (.s .z (.s .z .z)) (.s .z (.s (.l 562941363487104 [7,8] (.s (.s .z (.s .z .z)) (.s .z (.s .z .z)))) (.s (.s .z (.s .z (.s .z .z))) .z))))))))) H
def wC (a0:Value)(h:ah)(R:Value→ah→Prop):Prop:=
 vK (ak .i .neq a0 a0) λa=>
 R a h
theorem Gw (H:wC a0 h R):ag prog lI #[a0] h R:=fk f247 (.s .z (.s .z .z)) H
def Cs (a0 a1:Value)(h:ah)(R:Value→ah→Prop):Prop:=
 vK (ak .i .leq a1 ai) λa=>
 aE a (
 R a0 h) (
 vK (ak .i .geq a1 (af 64)) λb=>
 aE b (
 R ai h) (
 vK (ak .i .shr a0 a1) λc=>
 vK (ak .i .sub a1 aG) λd=>
 vK (ak .i .shr a0 d) λe=>
 vK (ak .i .and e aG) λf=>
 vK (ak .i .add c f) λg=>
 R g h))
theorem NW (H:Cs a0 a1 h R):ag prog kO #[a0,a1] h R:=fk f248 (.s .z (.s (.s .z (.s (.s .z .z) .z)) (.s (.s .z (.s (.s .z .z) .z)) (.s .z .z)))) H
def K7 (a0:Value)(h:ah)(R:Value→ah→Prop):Prop:=
 vK (kw ai a0) λc=>
 vK (ak .i .quo c (af 762123384786)) λg=>
 vK (ak .i .rem c (af 762123384786)) λj=>
 bA [(af 1099511627776),(af 1099511627776),ai] h λa v d e=>
 vK (ak .i .lss (ix a 2) (af 16)) λk=>
 aE k (
 vK (ak .i .add (ix a 2) aG) λl=>
 vK (ak .i .shl l (.int .u64 40)) λm=>
 ag prog fh #[(ix a 1),j,m] d λb f=>
 vK (ak .i .rem (ix a 2) (af 2)) λn=>
 vK (ak .i .eql n ai) λo=>
 aE o (
 vK (ak .i .sub (ix a 0) b) λp=>
 vK (ak .i .add (ix a 2) aG) λq=>
 e [p,b,q] f) (
 vK (ak .i .add (ix a 0) b) λr=>
 vK (ak .i .add (ix a 2) aG) λs=>
 e [r,b,s] f)) (
 ag prog kO #[(ix a 0),g] d λt u=>
 R t u)
theorem Vc (H:K7 a0 h R):ag prog Ha #[a0] h R:=fk f249 (.s .z (.s .z (.s .z (.s .z (.s (.s .z (.l 8589918432 [5,6,14] (.s .z (.s (.s .z .z) (.s (.s .z (.s .z (.s .z (.s .z .z)))) .z))))) (.s .z .z)))))) H
def FB (a0 a1:Value)(h:ah)(R:Value→ah→Prop):Prop:=
 vK (ak .i .lss a1 aG) λa=>
 vK (gV a false (some a1)) λd=>
 vK (gV a false (ak .i .gtr d (af 4194304))) λe=>
 vK (aF a (.bool true) e) λb=>
 vK (gV b false (some a0)) λf=>
 vK (gV b false (ak .i .lss f (af (-16384)))) λg=>
 vK (aF b (.bool true) g) λc=>
 vK (gV c false (some a0)) λj=>
 vK (gV c false (ak .i .gtr j (af 16384))) λk=>
 vK (aF c (.bool true) k) λl=>
 aE l (
 R (af 9223372036854775807) h) (
 vK (ak .i .mul a0 a0) λm=>
 vK (ak .i .shl m (.int .u64 31)) λn=>
 vK (ak .i .mul a1 a1) λo=>
 ag prog fh #[n,(af 1099511627776),o] h λp q=>
 R p q)
theorem Qx (H:FB a0 a1 h R):ag prog AY #[a0,a1] h R:=fk f250 (.s .z (.s (.s .z (.s (.s .z .z) .z)) (.s .z .z))) H
def zn (a0 a1:Value)(h:ah)(R:Value→ah→Prop):Prop:=
 aE (.bool false) (
 vK (gP .u32 a0) λc=>
 vK (gP .u32 a1) λd=>
 ag prog JV #[c,d] h λa e=>
 vK (aP a 0) λf=>
 vK (aP a 1) λg=>
 vK (gP .u64 f) λi=>
 vK (gP .u64 g) λj=>
 R (.tuple #[i,j]) e) (
 ag prog lH #[a0,a1] h λb k=>
 vK (aP b 0) λl=>
 vK (aP b 1) λm=>
 R (.tuple #[l,m]) k)
theorem Kr (H:zn a0 a1 h R):ag prog uG #[a0,a1] h R:=fk f251 (.s .z (.s (.s (.s .z (.s .z .z)) .z) (.s .z (.s .z .z)))) H
def Ba (a0 a1:Value)(h:ah)(R:Value→ah→Prop):Prop:=
 ag prog tT #[a0] h λc d=>
 ag prog tT #[a1] d λe f=>
 ag prog lH #[c,e] f λa g=>
 vK (aP a 0) λj=>
 vK (aP a 1) λk=>
 vK (ak .i .lss a0 ai) λl=>
 vK (ak .i .lss a1 ai) λm=>
 vK (ak .b .neq l m) λn=>
 R (.tuple #[j,k,n]) g
theorem LD (H:Ba a0 a1 h R):ag prog qa #[a0,a1] h R:=fk f252 (.s .z (.s .z (.s .z .z))) H
def Hn (a0:Value)(h:ah)(R:Value→ah→Prop):Prop:=
 vK (ak .i .lss a0 ai) λa=>
 aE a (
 vK (gP .u64 a0) λb=>
 vK (unV .neg b) λc=>
 R c h) (
 vK (gP .u64 a0) λd=>
 R d h)
theorem Sj (H:Hn a0 h R):ag prog tT #[a0] h R:=fk f253 (.s .z (.s (.s .z (.s (.s .z .z) .z)) (.s .z .z))) H
def BN (a0 a1 a2:Value)(h:ah)(R:Value→ah→Prop):Prop:=
 vK (gV a2 true (some a0)) λc=>
 vK (gV a2 true (ak .i .gtr c (.int .u64 0))) λd=>
 vK (gV a2 true (some d)) λa=>
 vK (gV a false (some a1)) λe=>
 vK (gV a false (ak .i .gtr e (.int .u64 9223372036854775808))) λf=>
 vK (gV a2 true (aF a (.bool true) f)) λg=>
 vK (aF a2 g (.bool false)) λj=>
 aE j (
 R (af (-9223372036854775808)) h) (
 aE a2 (
 vK (unV .neg a1) λk=>
 vK (gP .i64 k) λl=>
 R l h) (
 vK (ak .i .gtr a0 (.int .u64 0)) λb=>
 vK (gV b false (some a1)) λm=>
 vK (gV b false (ak .i .gtr m (.int .u64 9223372036854775807))) λn=>
 vK (aF b (.bool true) n) λo=>
 aE o (
 R (af 9223372036854775807) h) (
 vK (gP .i64 a1) λp=>
 R p h)))
theorem Nl (H:BN a0 a1 a2 h R):ag prog fb #[a0,a1,a2] h R:=fk f254 (.s .z (.s (.s .z (.s (.s .z .z) (.s .z (.s (.s .z .z) (.s .z (.s (.s .z .z) .z)))))) (.s .z .z))) H
def wA (a0 a1 a2:Value)(h:ah)(R:Value→ah→Prop):Prop:=
 fR (λo=>
 vK (ak .i .eql a2 (.int .u64 0)) λaf=>
 aE af (
 vK (ldV h (.pointer (some ⟨zS,0,none⟩))) λb2=>
 OP h λb3 ai=>
 o [] ai) (
 o [] h))
 λb4 b5 j=>
 fR (λp=>
 vK (ak .i .leq a2 a0) λaj=>
 aE aj (
 vK (ldV j (.pointer (some ⟨xm,0,none⟩))) λb6=>
 OP j λb7 al=>
 p [] al) (
 p [] j))
 λb8 b9 q=>
 vK (ak .i .eql a0 (.int .u64 0)) λam=>
 aE am (
 vK (ak .i .quo a1 a2) λan=>
 vK (ak .i .rem a1 a2) λao=>
 R (.tuple #[an,ao]) q) (
 ag prog iR #[a2] q λap aq=>
 vK (gP .u64 ap) λf=>
 vK (ak .i .shl a2 f) λg=>
 vK (ak .i .shr g (.int .u64 32)) λc=>
 vK (ak .i .and g (.int .u64 4294967295)) λr=>
 vK (ak .i .shl a0 f) λar=>
 vK (ak .i .sub (.int .u64 64) f) λau=>
 vK (ak .i .shr a1 au) λav=>
 vK (ak .i .or ar av) λk=>
 vK (ak .i .shl a1 f) λs=>
 vK (ak .i .shr s (.int .u64 32)) λt=>
 vK (ak .i .and s (.int .u64 4294967295)) λu=>
 vK (ak .i .quo k c) λv=>
 vK (ak .i .mul v c) λaw=>
 vK (ak .i .sub k aw) λax=>
 fR (λw=>
 bA [v,ax] aq λd ca l ay=>
 vK (ak .i .geq (ix d 0) (.int .u64 4294967296)) λa=>
 vK (gV a false (some (ix d 0))) λaz=>
 vK (gV a false (some r)) λa3=>
 vK (gV a false (ak .i .mul az a3)) λa4=>
 vK (gV a false (some (ix d 1))) λa5=>
 vK (gV a false (ak .i .mul (.int .u64 4294967296) a5)) λa6=>
 vK (gV a false (some t)) λa7=>
 vK (gV a false (ak .i .add a6 a7)) λa8=>
 vK (gV a false (ak .i .gtr a4 a8)) λa9=>
 vK (aF a (.bool true) a9) λba=>
 aE ba (
 vK (ak .i .sub (ix d 0) (.int .u64 1)) λx=>
 vK (ak .i .add (ix d 1) c) λy=>
 vK (ak .i .geq y (.int .u64 4294967296)) λbb=>
 aE bb (
 w [x] l) (
 ay [x,y] l)) (
 w [(ix d 0)] l))
 λz cb bc=>
 vK (ak .i .mul k (.int .u64 4294967296)) λbd=>
 vK (ak .i .add bd t) λbe=>
 vK (ak .i .mul (ix z 0) g) λbf=>
 vK (ak .i .sub be bf) λm=>
 vK (ak .i .quo m c) λaa=>
 vK (ak .i .mul aa c) λbg=>
 vK (ak .i .sub m bg) λbh=>
 fR (λab=>
 bA [bh,aa] bc λe cc n bi=>
 vK (ak .i .geq (ix e 1) (.int .u64 4294967296)) λb=>
 vK (gV b false (some (ix e 1))) λbj=>
 vK (gV b false (some r)) λbk=>
 vK (gV b false (ak .i .mul bj bk)) λbl=>
 vK (gV b false (some (ix e 0))) λbm=>
 vK (gV b false (ak .i .mul (.int .u64 4294967296) bm)) λbn=>
 vK (gV b false (some u)) λbo=>
 vK (gV b false (ak .i .add bn bo)) λbp=>
 vK (gV b false (ak .i .gtr bl bp)) λbq=>
 vK (aF b (.bool true) bq) λbr=>
 aE br (
 vK (ak .i .sub (ix e 1) (.int .u64 1)) λac=>
 vK (ak .i .add (ix e 0) c) λad=>
 vK (ak .i .geq ad (.int .u64 4294967296)) λbs=>
 aE bs (
 ab [ac] n) (
 bi [ad,ac] n)) (
 ab [(ix e 1)] n))
 λae cd bt=>
 vK (ak .i .mul (ix z 0) (.int .u64 4294967296)) λbu=>
 vK (ak .i .add bu (ix ae 0)) λbv=>
 vK (ak .i .mul m (.int .u64 4294967296)) λbw=>
 vK (ak .i .add bw u) λbx=>
 vK (ak .i .mul (ix ae 0) g) λbz=>
 vK (ak .i .sub bx bz) λb0=>
 vK (ak .i .shr b0 f) λb1=>
 R (.tuple #[bv,b1]) bt)
theorem Gu (H:wA a0 a1 a2 h R):ag prog qB #[a0,a1,a2] h R:=fk f255 (.s .z (.j 3670016 [] (.s .z (.s .z .z)) (.j 62914560 [] (.s .z (.s .z .z)) (.s (.s .z (.s (.s .z .z) .z)) (.s .z (.s .z (.s .z (.s .z (.s .z (.s .z (.s .z (.s .z (.s .z (.s .z (.s (.m 77371104881383677504880640 [15] (.l 77371104881383677504880640 [15,16] (.s (.s .z (.s .z .z)) (.s .z (.s .z (.s .z (.s .z .z))))))) (.s .z (.s .z (.s .z (.s (.m 2658450920967430832890008133748195328 [18] (.l 2658450920967430832890008133748195328 [16,18] (.s (.s .z (.s .z .z)) (.s .z (.s .z (.s .z (.s .z .z))))))) (.s .z .z)))))))))))))))))))) H
def Cr (h:ah)(R:Value→ah→Prop):Prop:=
 ag prog Et #[ai,(af 4),(af 2),aG] h λj c=>
 vK (aP j 0) λl=>
 vK (aP j 1) λe=>
 vK (ak .i .eql l (af 2)) λd=>
 vK (gV d true (some e)) λm=>
 vK (gV d true (aC m)) λn=>
 vK (gV d true (ak .i .eql n (af 2))) λo=>
 vK (aF d o (.bool false)) λa=>
 vK (gV a true (some e)) λp=>
 vK (gV a true (bu 1 p ai)) λq=>
 vK (gV a true (ldV c q)) λr=>
 vK (gV a true (ak .i .eql r (af 536870912))) λs=>
 vK (aF a s (.bool false)) λb=>
 vK (gV b true (some e)) λt=>
 vK (gV b true (bu 1 t aG)) λu=>
 vK (gV b true (ldV c u)) λv=>
 vK (gV b true (ak .i .eql v (af 536870912))) λw=>
 vK (aF b w (.bool false)) λf=>
 gK f true (λx=>ag prog xd #[ai,aG] c x) c λy k=>
 vK (gV f true (ak .i .eql y (af 1073741824))) λz=>
 vK (aF f z (.bool false)) λg=>
 gK g true (λaa=>ag prog xd #[aG,(af 2)] k aa) k λab ac=>
 vK (gV g true (ak .i .eql ab (af 603979776))) λad=>
 vK (aF g ad (.bool false)) λae=>
 R ae ac
theorem NU (H:Cr h R):ag prog yW #[] h R:=fk f257 (.s .z (.s .z (.s .z .z))) H
def Cq (h:ah)(R:Value→ah→Prop):Prop:=
 du #[ai,ai,ai] 2 3 [(0,1,(af 536870912)),(1,1,(af 536870912)),(2,1,(af 536870912))] h λj k=>
 ag prog kc #[j] k λd l=>
 vK (aP d 0) λm=>
 vK (aP d 1) λn=>
 ag prog nG #[(af 65536)] l λe f=>
 vK (aP e 0) λo=>
 vK (aP e 1) λp=>
 vK (ak .i .eql n ai) λa=>
 vK (gV a true (some m)) λq=>
 gK a true (λr=>du #[ai,ai,ai] 2 3 [(0,1,(af 5462)),(1,1,(af 5461)),(2,1,(af 5461))] f r) f λs g=>
 gK a true (λt=>ag prog vM #[q,s] g t) g λu v=>
 vK (aF a u (.bool false)) λc=>
 vK (gV c true (some p)) λw=>
 vK (gV c true (ak .i .eql w ai)) λx=>
 vK (aF c x (.bool false)) λb=>
 vK (gV b true (some o)) λy=>
 vK (gV b true (aC y)) λz=>
 vK (gV b true (ak .i .eql z (af 7))) λaa=>
 vK (aF b aa (.bool false)) λab=>
 R ab v
theorem NQ (H:Cq h R):ag prog yV #[] h R:=fk f258 (.s .z (.s .z (.s .z (.s .z .z)))) H
def Fh (a0 a1:Value)(h:ah)(R:Value→ah→Prop):Prop:=
 vK (aC a0) λc=>
 vK (aC a1) λd=>
 vK (ak .i .neq c d) λe=>
 aE e (
 R (.bool false) h) (
 vK (aC a0) λf=>
 bA [ai] h λb q a g=>
 vK (ak .i .lss (ix b 0) f) λj=>
 aE j (
 vK (bu 1 a0 (ix b 0)) λk=>
 vK (ldV a k) λl=>
 vK (bu 1 a1 (ix b 0)) λm=>
 vK (ldV a m) λn=>
 vK (ak .i .neq l n) λo=>
 aE o (
 R (.bool false) a) (
 vK (ak .i .add (ix b 0) aG) λp=>
 g [p] a)) (
 R (.bool true) a))
theorem Qc (H:Fh a0 a1 h R):ag prog vM #[a0,a1] h R:=fk f259 (.s .z (.s (.s .z (.s (.s .z .z) .z)) (.s (.s .z (.l 67100720 [13] (.s .z (.s (.s .z .z) (.s (.s .z (.s .z (.s (.s .z .z) .z))) .z))))) (.s .z .z)))) H
def zg (a0 a1:Value)(h:ah)(R:Value→ah→Prop):Prop:=
 vK (aT a0) λb=>
 vK (aB 2 b) λc=>
 vK (ldV h c) λd=>
 vK (Bv (.int .i64) (.slice none 0 0) true h d a1) λa=>
 vK (aP a 0) λf=>
 vK (aP a 1) λe=>
 R e h
theorem Kl (H:zg a0 a1 h R):ag prog nH #[a0,a1] h R:=fk f260 (.s .z (.s .z (.s .z .z))) H
def wg (a0:Value)(h:ah)(R:Value→ah→Prop):Prop:=
 vK (aT a0) λa=>
 vK (aB 2 a) λb=>
 vK (ldV h b) λc=>
 vK (Oq h c) λd=>
 vK (ak .i .eql d ai) λe=>
 aE e (
 R (.tuple #[ai,(.bool false)]) h) (
 vK (aT a0) λf=>
 vK (aB 2 f) λg=>
 vK (ldV h g) λj=>
 ag prog fo #[j] h λk l=>
 ag prog qg #[k] l λm n=>
 ag prog iA #[m] n λo p=>
 R (.tuple #[o,(.bool true)]) p)
theorem Gl (H:wg a0 h R):ag prog qn #[a0] h R:=fk f261 (.s .z (.s (.s .z (.s (.s .z .z) .z)) (.s .z .z))) H
def xx (a0 a1:Value)(h:ah)(R:Value→ah→Prop):Prop:=
 bO h λS=>
 vK (aT a0) λd=>
 vK (aB 3 d) λe=>
 qK S (λh=>ldV h e) λf=>
 vK (aT a0) λg=>
 vK (aB 2 g) λi=>
 qK S (λh=>ldV h i) λj=>
 qK S (λh=>Bv (.int .i64) (.slice none 0 0) false h j a1) λk=>
 du #[(.slice none 0 0)] 28 1 [(0,1,k)] h λl a=>
 S a∧(dy (.slice none 0 0) 28 1 24 f l a λm b=>
 S b∧(vK (aT a0) λn=>
 vK (aB 3 n) λo=>
 stK 1 o m b λt c=>
 vK (aT a0) λp=>
 vK (aB 2 p) λq=>
 vK (ldV c q) λr=>
 pH (.int .i64) r a1 c λu s=>
 R (.tuple #[]) s))
theorem IA (H:xx a0 a1 h R):ag prog rM #[a0,a1] h R:=fk f262 (.s (.d (.op 0 .r (.op 1 .r (.op 2 .r (.op 3 .r (.op 4 .r (.op 5 .r (.op 6 .r (.op 7 .r (.op 8 .r (.op 9 .r (.op 10 .r (.op 11 .e (.op 12 .e (.op 13 .r (.op 14 .r (.op 15 .n .nil))))))))))))))))) .z) H
def vY (a0:Value)(h:ah)(R:Value→ah→Prop):Prop:=
 vK (aT a0) λc=>
 vK (aB 3 c) λd=>
 vK (ldV h d) λe=>
 vK (aC e) λa=>
 vK (ak .i .gtr a ai) λf=>
 aE f (
 vK (aT a0) λg=>
 vK (aB 3 g) λj=>
 vK (ldV h j) λk=>
 vK (ak .i .sub a aG) λl=>
 vK (bu 1 k l) λm=>
 vK (ldV h m) λn=>
 vK (aT a0) λo=>
 vK (aB 3 o) λp=>
 vK (ldV h p) λq=>
 vK (ak .i .sub a aG) λr=>
 vK (yu 1 q none (some r)) λs=>
 vK (aT a0) λt=>
 vK (aB 3 t) λu=>
 stK 1 u s h λaa v=>
 R n v) (
 vK (aT a0) λw=>
 vK (aB 1 w) λx=>
 vK (ldV h x) λb=>
 mkK ai 2 1 8 b b h λy z=>
 R y z)
theorem Gi (H:vY a0 h R):ag prog qh #[a0] h R:=fk f263 (.s .z (.s (.s .z (.s .z (.s (.s .z (.s .z (.s .z .z))) .z))) (.s .z .z))) H
def HN (a0 a1 a2 a3:Value)(h:ah)(R:Value→ah→Prop):Prop:=
 vK (ak .i .geq a0 ai) λb=>
 vK (gV b true (some a0)) λj=>
 vK (gV b true (ak .i .leq j (af 2))) λk=>
 vK (aF b k (.bool false)) λc=>
 vK (gV c true (some a1)) λl=>
 vK (gV c true (ak .i .geq l aG)) λm=>
 vK (aF c m (.bool false)) λd=>
 vK (gV d true (some a1)) λn=>
 vK (gV d true (ak .i .leq n (af 65536))) λo=>
 vK (aF d o (.bool false)) λe=>
 vK (gV e true (some a2)) λp=>
 vK (gV e true (ak .i .geq p aG)) λq=>
 vK (aF e q (.bool false)) λf=>
 vK (gV f true (some a2)) λr=>
 vK (gV f true (ak .i .leq r (af 65536))) λs=>
 vK (aF f s (.bool false)) λg=>
 vK (gV g true (some a3)) λt=>
 vK (gV g true (ak .i .geq t ai)) λu=>
 vK (aF g u (.bool false)) λa=>
 vK (gV a true (some a3)) λv=>
 vK (gV a true (some a2)) λw=>
 vK (gV a true (ak .i .lss v w)) λx=>
 vK (aF a x (.bool false)) λy=>
 R y h
theorem SB (H:HN a0 a1 a2 a3 h R):ag prog DD #[a0,a1,a2,a3] h R:=fk f264 (.s .z (.s .z .z)) H
def KY (a0 a1 a2 a3 a4:Value)(h:ah)(R:Value→ah→Prop):Prop:=
 vK (ak .i .eql a0 ai) λl=>
 aE l (
 vK (ak .i .add a4 aG) λm=>
 vK (ak .i .mul m a2) λn=>
 vK (ak .i .mul a3 a1) λo=>
 vK (ak .i .gtr n o) λa=>
 vK (gV a true (some a4)) λp=>
 vK (gV a true (some a2)) λq=>
 vK (gV a true (ak .i .mul p q)) λr=>
 vK (gV a true (some a3)) λs=>
 vK (gV a true (ak .i .add s aG)) λt=>
 vK (gV a true (some a1)) λu=>
 vK (gV a true (ak .i .mul t u)) λv=>
 vK (gV a true (ak .i .lss r v)) λw=>
 vK (aF a w (.bool false)) λx=>
 R x h) (
 ag prog mm #[a1,a2,a3,a4] h λe f=>
 vK (aP e 0) λd=>
 vK (aP e 1) λg=>
 vK (ak .i .mul (af 2) g) λj=>
 vK (ak .i .eql a0 (af 2)) λy=>
 aE y (
 vK (ak .i .mul (af 3) g) λk=>
 vK (ak .i .lss d k) λb=>
 vK (gV b true (some d)) λz=>
 vK (gV b true (some k)) λaa=>
 vK (gV b true (unV .neg aa)) λab=>
 vK (gV b true (ak .i .gtr z ab)) λac=>
 vK (aF b ac (.bool false)) λad=>
 R ad f) (
 vK (ak .i .lss d j) λc=>
 vK (gV c true (some d)) λae=>
 vK (gV c true (some j)) λaj=>
 vK (gV c true (unV .neg aj)) λal=>
 vK (gV c true (ak .i .gtr ae al)) λam=>
 vK (aF c am (.bool false)) λan=>
 R an f))
theorem U6 (H:KY a0 a1 a2 a3 a4 h R):ag prog rP #[a0,a1,a2,a3,a4] h R:=fk f265 (.s .z (.s (.s .z (.s (.s .z .z) .z)) (.s .z (.s .z (.s (.s .z (.s .z .z)) (.s .z .z)))))) H
def Bg (a0 a1 a2 a3 a4:Value)(h:ah)(R:Value→ah→Prop):Prop:=
 vK (ak .i .eql a0 ai) λl=>
 aE l (
 vK (ak .i .mul a3 a1) λa=>
 fR (λb=>
 vK (ak .i .mul a4 a2) λm=>
 vK (ak .i .gtr m a) λn=>
 aE n (
 vK (ak .i .mul a4 a2) λo=>
 b [o] h) (
 b [a] h))
 λc al d=>
 vK (ak .i .add a3 aG) λp=>
 vK (ak .i .mul p a1) λe=>
 vK (ak .i .add a4 aG) λq=>
 vK (ak .i .mul q a2) λr=>
 vK (ak .i .lss r e) λs=>
 aE s (
 vK (ak .i .add a4 aG) λt=>
 vK (ak .i .mul t a2) λu=>
 vK (ak .i .sub u (ix c 0)) λv=>
 ag prog dD #[v,(af 1073741824),a1] d λw x=>
 R w x) (
 vK (ak .i .sub e (ix c 0)) λy=>
 ag prog dD #[y,(af 1073741824),a1] d λz aa=>
 R z aa)) (
 ag prog mm #[a1,a2,a3,a4] h λf g=>
 vK (aP f 0) λj=>
 vK (aP f 1) λk=>
 vK (ak .i .eql a0 aG) λab=>
 aE ab (
 ag prog AN #[j,k] g λac ad=>
 R ac ad) (
 ag prog uD #[j,k] g λae aj=>
 R ae aj))
theorem LK (H:Bg a0 a1 a2 a3 a4 h R):ag prog xc #[a0,a1,a2,a3,a4] h R:=fk f266 (.s .z (.s (.s .z (.s (.s .z (.j 267388928 [11] (.s .z (.s .z .z)) (.s .z (.s (.s .z (.s .z .z)) (.s .z .z))))) .z)) (.s .z (.s (.s .z (.s (.s .z .z) .z)) (.s .z .z))))) H
def Fg (a0:Value)(h:ah)(R:Value→ah→Prop):Prop:=
 vK (ak .i .geq a0 ai) λa=>
 aE a (
 R a0 h) (
 vK (ak .i .lss a0 (af (-9223372036854775807))) λb=>
 aE b (
 R (af 9223372036854775807) h) (
 vK (unV .neg a0) λc=>
 R c h))
theorem Qb (H:Fg a0 h R):ag prog vL #[a0] h R:=fk f267 (.s .z (.s (.s .z (.s (.s .z .z) .z)) (.s (.s .z (.s (.s .z .z) .z)) (.s .z .z)))) H
def HI (a0:Value)(h:ah)(R:Value→ah→Prop):Prop:=
 vK (aC a0) λc=>
 bA [ai,ai] h λa m b d=>
 vK (ak .i .lss (ix a 1) c) λe=>
 aE e (
 vK (bu 1 a0 (ix a 1)) λf=>
 vK (ldV b f) λg=>
 ag prog vJ #[(ix a 0),g] b λj k=>
 vK (ak .i .add (ix a 1) aG) λl=>
 d [j,l] k) (
 R (ix a 0) b)
theorem Sy (H:HI a0 h R):ag prog DC #[a0] h R:=fk f268 (.s .z (.s .z (.s (.s .z (.l 65320 [3,8] (.s .z (.s (.s .z .z) (.s (.s .z .z) .z))))) (.s .z .z)))) H
def B9 (a0 a1:Value)(h:ah)(R:Value→ah→Prop):Prop:=
 vK (ak .i .eql a1 ai) λg=>
 aE g (
 R ai h) (
 ag prog gH #[a0] h λj k=>
 vK ((aQ #[(.int .u64 0),(.int .u64 0)] [(0,1,(.int .u64 0)),(1,1,j)]).map .agg) λl=>
 ag prog gH #[a1] k λm n=>
 ag prog vN #[l,m] n λe o=>
 vK (aP e 0) λp=>
 vK (aP e 1) λq=>
 bh #[(.int .u64 0),(.int .u64 0)] 351 o λa r=>
 stK 2 a p r λal d=>
 vK (ak .i .lss a0 ai) λs=>
 vK (ak .i .lss a1 ai) λt=>
 vK (ak .b .neq s t) λc=>
 vK (gV c true (some q)) λu=>
 vK (gV c true (ak .i .gtr u (.int .u64 0))) λv=>
 vK (aF c v (.bool false)) λw=>
 aE w (
 vK (aR 2 d a) λx=>
 vK ((aQ #[(.int .u64 0),(.int .u64 0)] [(0,1,(.int .u64 0)),(1,1,(.int .u64 1))]).map .agg) λy=>
 ag prog jl #[x,y] d λz aa=>
 stK 2 a z aa λam f=>
 vK (aR 2 f a) λab=>
 ag prog ed #[ab,c] f λac ad=>
 R ac ad) (
 vK (aR 2 d a) λae=>
 ag prog ed #[ae,c] d λaf aj=>
 R af aj))
theorem NB (H:B9 a0 a1 h R):ag prog sH #[a0,a1] h R:=fk f269 (.s .z (.s (.s .z (.s (.s .z .z) .z)) (.s .z (.s .z (.s (.s .z (.s .z .z)) (.s .z .z)))))) H
def BZ (a0 a1:Value)(h:ah)(R:Value→ah→Prop):Prop:=
 vK (ak .i .lss a1 aG) λw=>
 aE w (
 R a0 h) (
 vK (ak .i .gtr a1 (af 64)) λx=>
 aE x (
 R ai h) (
 vK ((aQ #[(.int .u64 0),(.int .u64 0)] [(0,1,(.int .u64 0)),(1,1,(.int .u64 1))]).map .agg) λy=>
 bh #[(.int .u64 0),(.int .u64 0)] 351 h λc z=>
 stK 2 c y z λcl aa=>
 vK (ak .i .sub a1 aG) λab=>
 bA [ai] aa λp cm n ac=>
 vK (ak .i .lss (ix p 0) ab) λad=>
 aE ad (
 vK (aR 2 n c) λae=>
 ag prog fT #[ae,(.int .u64 0)] n λaj al=>
 stK 2 c aj al λcn am=>
 vK (ak .i .add (ix p 0) aG) λan=>
 ac [an] am) (
 ag prog gH #[a0] n λao ap=>
 vK ((aQ #[(.int .u64 0),(.int .u64 0)] [(0,1,(.int .u64 0)),(1,1,ao)]).map .agg) λaq=>
 bh #[(.int .u64 0),(.int .u64 0)] 351 ap λj ar=>
 stK 2 j aq ar λco au=>
 vK ((aQ #[(.int .u64 0),(.int .u64 0)] []).map .agg) λav=>
 bh #[(.int .u64 0),(.int .u64 0)] 351 au λb aw=>
 stK 2 b av aw λcp ax=>
 bA [(af 127)] ax λo cq a ay=>
 vK (ak .i .geq (ix o 0) a1) λaz=>
 aE az (
 bO a λS=>
 qK S (λa=>aR 2 a b) λa2=>
 qK S (λa=>aR 2 a j) λa3=>
 ag prog jm #[a3,(ix o 0)] a λa4 q=>
 S q∧(ag prog fT #[a2,a4] q λa5 a6=>
 stK 2 b a5 a6 λcr a7=>
 vK (ak .i .sub (ix o 0) aG) λa8=>
 ay [a8] a7)) (
 vK (aR 2 a j) λa9=>
 bh #[(.int .u64 0),(.int .u64 0)] 351 a λd ba=>
 stK 2 d a9 ba λcs bb=>
 bA [a1] bb λe ct f r=>
 vK (ak .i .lss (ix e 0) (af 128)) λbc=>
 aE bc (
 vK (aR 2 f j) λbd=>
 ag prog jm #[bd,(ix e 0)] f λbe s=>
 vK (ak .i .eql be (.int .u64 1)) λbf=>
 aE bf (
 vK ((aQ #[(.int .u64 0),(.int .u64 0)] [(0,1,(.int .u64 0)),(1,1,(.int .u64 1))]).map .agg) λbg=>
 bh #[(.int .u64 0),(.int .u64 0)] 351 s λk bi=>
 stK 2 k bg bi λcu bj=>
 bA [ai] bj λt cv g bk=>
 vK (ak .i .lss (ix t 0) (ix e 0)) λbl=>
 aE bl (
 vK (aR 2 g k) λbm=>
 ag prog fT #[bm,(.int .u64 0)] g λbn bo=>
 stK 2 k bn bo λcw bp=>
 vK (ak .i .add (ix t 0) aG) λbq=>
 bk [bq] bp) (
 vK (aR 2 g d) λbr=>
 vK (aR 2 g k) λbs=>
 ag prog sG #[br,bs] g λbt bu=>
 stK 2 d bt bu λcx bv=>
 vK (ak .i .add (ix e 0) aG) λbw=>
 r [bw] bv)) (
 vK (ak .i .add (ix e 0) aG) λbx=>
 r [bx] s)) (
 vK (aR 2 f d) λbz=>
 vK (aR 2 f c) λb0=>
 ag prog kD #[bz,b0] f λb1 l=>
 vK (unV .not b1) λb2=>
 fR (λu=>
 vK (ak .i .lss a0 ai) λb3=>
 aE b3 (
 vK (aR 2 l c) λb4=>
 vK (aR 2 l d) λb5=>
 ag prog kD #[b4,b5] l λb6 b7=>
 u [b6] b7) (
 u [b2] l))
 λb8 cy m=>
 aE (ix b8 0) (
 vK (aR 2 m b) λb9=>
 vK ((aQ #[(.int .u64 0),(.int .u64 0)] [(0,1,(.int .u64 0)),(1,1,(.int .u64 1))]).map .agg) λca=>
 ag prog jl #[b9,ca] m λcb cc=>
 stK 2 b cb cc λcz v=>
 vK (aR 2 v b) λcd=>
 vK (ak .i .lss a0 ai) λce=>
 ag prog ed #[cd,ce] v λcf cg=>
 R cf cg) (
 vK (aR 2 m b) λch=>
 vK (ak .i .lss a0 ai) λci=>
 ag prog ed #[ch,ci] m λcj ck=>
 R cj ck))))))
theorem Ny (H:BZ a0 a1 h R):ag prog mY #[a0,a1] h R:=fk f270 (.s .z (.s (.s .z (.s (.s .z .z) .z)) (.s (.s .z (.s (.s .z .z) .z)) (.s .z (.s (.s .z (.l 65011712 [21] (.s .z (.s (.s .z .z) (.s .z .z))))) (.s .z (.s .z (.s (.s .z (.l 1098437886208 [8] (.s (.s .z (.s .z .z)) (.s (.d (.op 0 .r (.op 1 .r (.op 2 .r (.op 3 .e (.op 4 .n (.op 5 .n .nil))))))) .z)))) (.s .z (.s (.s .z (.l 1152917106560338944 [10] (.s (.s .z (.s .z .z)) (.s (.s .z (.s (.s .z (.s (.s .z (.l 139611588448485376 [52] (.s .z (.s (.s .z .z) (.s .z .z))))) .z)) .z)) .z)))) (.s .z (.j 571849066284996104192 [12] (.s .z (.s .z .z)) (.s (.s .z (.s .z .z)) (.s .z .z)))))))))))))) H
def HU (a0:Value)(h:ah)(R:Value→ah→Prop):Prop:=
 fR (λc=>
 vK (ak .i .lss a0 ai) λk=>
 aE k (
 c [ai] h) (
 c [a0] h))
 λd aa l=>
 ag prog sH #[(ix d 0),(af 762123384786)] l λe m=>
 vK (ak .i .mul e (af 762123384786)) λn=>
 vK (ak .i .sub (ix d 0) n) λo=>
 bA [(af 1099511627776),ai,(af 1099511627776),aG] m λa ab f g=>
 vK (ak .i .leq (ix a 3) (af 16)) λp=>
 aE p (
 vK (ak .i .mul (ix a 3) (af 1099511627776)) λq=>
 ag prog dD #[(ix a 2),o,q] f λb j=>
 vK (ak .i .rem (ix a 3) (af 2)) λr=>
 vK (ak .i .eql r aG) λs=>
 aE s (
 vK (ak .i .add (ix a 1) b) λt=>
 vK (ak .i .add (ix a 3) aG) λu=>
 g [(ix a 0),t,b,u] j) (
 vK (ak .i .add (ix a 0) b) λv=>
 vK (ak .i .add (ix a 3) aG) λw=>
 g [v,(ix a 1),b,w] j)) (
 vK (ak .i .sub (ix a 0) (ix a 1)) λx=>
 ag prog mY #[x,e] f λy z=>
 R y z)
theorem SD (H:HU a0 h R):ag prog DF #[a0] h R:=fk f271 (.s .z (.j 1537 [0] (.s .z (.s .z .z)) (.s .z (.s .z (.s .z (.s .z (.s .z (.s (.s .z (.l 34359607776 [5,6,7,8] (.s (.s .z (.s .z .z)) (.s (.s .z (.s .z (.s .z .z))) .z)))) (.s .z .z))))))))) H
def BV (a0 a1:Value)(h:ah)(R:Value→ah→Prop):Prop:=
 vK (ak .i .lss a1 aG) λa=>
 vK (gV a false (some a1)) λd=>
 vK (gV a false (ak .i .gtr d (af 4194304))) λe=>
 vK (aF a (.bool true) e) λb=>
 vK (gV b false (some a0)) λf=>
 vK (gV b false (ak .i .lss f (af (-16384)))) λg=>
 vK (aF b (.bool true) g) λc=>
 vK (gV c false (some a0)) λj=>
 vK (gV c false (ak .i .gtr j (af 16384))) λk=>
 vK (aF c (.bool true) k) λl=>
 aE l (
 R (af 9223372036854775807) h) (
 vK (ak .i .mul a0 a0) λm=>
 vK (ak .i .mul m (af 2147483648)) λn=>
 vK (ak .i .mul a1 a1) λo=>
 ag prog dD #[n,(af 1099511627776),o] h λp q=>
 R p q)
theorem Ns (H:BV a0 a1 h R):ag prog yL #[a0,a1] h R:=fk f272 (.s .z (.s (.s .z (.s (.s .z .z) .z)) (.s .z .z))) H
def Fe (a0 a1:Value)(h:ah)(R:Value→ah→Prop):Prop:=
 vK (ak .i .gtr a1 ai) λa=>
 vK (gV a true (some a0)) λc=>
 vK (gV a true (some a1)) λd=>
 vK (gV a true (ak .i .sub (af 9223372036854775807) d)) λe=>
 vK (gV a true (ak .i .gtr c e)) λf=>
 vK (aF a f (.bool false)) λg=>
 aE g (
 R (af 9223372036854775807) h) (
 vK (ak .i .lss a1 ai) λb=>
 vK (gV b true (some a0)) λj=>
 vK (gV b true (some a1)) λk=>
 vK (gV b true (ak .i .sub (af (-9223372036854775808)) k)) λl=>
 vK (gV b true (ak .i .lss j l)) λm=>
 vK (aF b m (.bool false)) λn=>
 aE n (
 R (af (-9223372036854775808)) h) (
 vK (ak .i .add a0 a1) λo=>
 R o h))
theorem P9 (H:Fe a0 a1 h R):ag prog vJ #[a0,a1] h R:=fk f273 (.s .z (.s (.s .z (.s (.s .z .z) .z)) (.s (.s .z (.s (.s .z .z) .z)) (.s .z .z)))) H
def BY (a0 a1:Value)(h:ah)(R:Value→ah→Prop):Prop:=
 bh #[(.int .u64 0),(.int .u64 0)] 351 h λe j=>
 vK ((aQ #[(.int .u64 0),(.int .u64 0)] []).map .agg) λk=>
 bh #[(.int .u64 0),(.int .u64 0)] 351 j λa l=>
 stK 2 a k l λad m=>
 bA [(af 63)] m λb ae c f=>
 vK (ak .i .geq (ix b 0) ai) λn=>
 aE n (
 vK (aR 2 c a) λo=>
 ag prog fT #[o,(.int .u64 0)] c λp q=>
 stK 2 a p q λaj d=>
 vK (ak .i .shr a1 (ix b 0)) λr=>
 vK (ak .i .and r (.int .u64 1)) λs=>
 vK (ak .i .eql s (.int .u64 1)) λt=>
 aE t (
 vK (aR 2 d a) λu=>
 vK ((aQ #[(.int .u64 0),(.int .u64 0)] [(0,1,(.int .u64 0)),(1,1,a0)]).map .agg) λv=>
 ag prog jl #[u,v] d λw x=>
 stK 2 a w x λal y=>
 vK (ak .i .sub (ix b 0) aG) λz=>
 f [z] y) (
 vK (ak .i .sub (ix b 0) aG) λaa=>
 f [aa] d)) (
 vK (aR 2 c a) λab=>
 stK 2 e ab c λam g=>
 vK (aR 2 g e) λac=>
 R ac g)
theorem Nx (H:BY a0 a1 h R):ag prog sF #[a0,a1] h R:=fk f274 (.s .z (.s .z (.s (.s .z (.l 8388416 [6] (.s (.s .z (.s .z .z)) (.s (.s .z (.s .z (.s .z .z))) .z)))) (.s .z .z)))) H
def Fk (a0:Value)(h:ah)(R:Value→ah→Prop):Prop:=
 vK (ak .i .lss a0 ai) λa=>
 aE a (
 vK (ak .i .add a0 aG) λb=>
 vK (unV .neg b) λc=>
 vK (gP .u64 c) λd=>
 vK (ak .i .add d (.int .u64 1)) λe=>
 R e h) (
 vK (gP .u64 a0) λf=>
 R f h)
theorem Qf (H:Fk a0 h R):ag prog gH #[a0] h R:=fk f275 (.s .z (.s (.s .z (.s (.s .z .z) .z)) (.s .z .z))) H
def zi (a0 a1 a2:Value)(h:ah)(R:Value→ah→Prop):Prop:=
 bh (Value.cells a0) 351 h λk e=>
 vK (aR 2 e k) λl=>
 ag prog vN #[l,a1] e λf m=>
 vK (aP f 0) λn=>
 vK (aP f 1) λo=>
 bh #[(.int .u64 0),(.int .u64 0)] 351 m λa p=>
 stK 2 a n p λaq q=>
 vK ((aQ #[(.int .u64 0),(.int .u64 0)] [(0,1,(.int .u64 0)),(1,1,o)]).map .agg) λr=>
 ag prog fT #[r,(.int .u64 0)] q λs t=>
 bh #[(.int .u64 0),(.int .u64 0)] 351 t λc u=>
 stK 2 c s u λar g=>
 vK (aR 2 g c) λv=>
 vK ((aQ #[(.int .u64 0),(.int .u64 0)] [(0,1,(.int .u64 0)),(1,1,a1)]).map .agg) λw=>
 ag prog kD #[v,w] g λx d=>
 vK (unV .not x) λy=>
 fR (λi=>
 aE a2 (
 vK ((aQ #[(.int .u64 0),(.int .u64 0)] [(0,1,(.int .u64 0)),(1,1,a1)]).map .agg) λz=>
 vK (aR 2 d c) λaa=>
 ag prog kD #[z,aa] d λab ac=>
 i [ab] ac) (
 i [y] d))
 λad au b=>
 aE (ix ad 0) (
 vK (aR 2 b a) λae=>
 vK ((aQ #[(.int .u64 0),(.int .u64 0)] [(0,1,(.int .u64 0)),(1,1,(.int .u64 1))]).map .agg) λaf=>
 ag prog jl #[ae,af] b λai aj=>
 stK 2 a ai aj λav j=>
 vK (aR 2 j a) λak=>
 ag prog ed #[ak,a2] j λal am=>
 R al am) (
 vK (aR 2 b a) λan=>
 ag prog ed #[an,a2] b λao ap=>
 R ao ap)
theorem Kn (H:zi a0 a1 a2 h R):ag prog uE #[a0,a1,a2] h R:=fk f276 (.s .z (.s .z (.s .z (.s .z (.j 1040188416 [10] (.s .z (.s .z .z)) (.s (.s .z (.s .z .z)) (.s .z .z))))))) H
def KV (a0 a1:Value)(h:ah)(R:Value→ah→Prop):Prop:=
 vK (ak .i .geq a1 aG) λc=>
 vK (gV c true (some a1)) λd=>
 vK (gV c true (ak .i .leq d (af 1048576))) λe=>
 vK (aF c e (.bool false)) λa=>
 vK (gV a true (some a0)) λf=>
 vK (gV a true (some a1)) λg=>
 vK (gV a true (ak .i .mul (af (-4)) g)) λj=>
 vK (gV a true (ak .i .geq f j)) λk=>
 vK (aF a k (.bool false)) λb=>
 vK (gV b true (some a0)) λl=>
 vK (gV b true (some a1)) λm=>
 vK (gV b true (ak .i .mul (af 4) m)) λn=>
 vK (gV b true (ak .i .leq l n)) λo=>
 vK (aF b o (.bool false)) λp=>
 R p h
theorem U3 (H:KV a0 a1 h R):ag prog G7 #[a0,a1] h R:=fk f278 (.s .z (.s .z .z)) H
def Hz (a0:Value)(h:ah)(R:Value→ah→Prop):Prop:=
 vK (unV .neg a0) λa=>
 vK (kw a0 a) λb=>
 R b h
theorem Sp (H:Hz a0 h R):ag prog ym #[a0] h R:=fk f279 (.s .z (.s .z .z)) H
def y6 (a0 a1 a2:Value)(h:ah)(R:Value→ah→Prop):Prop:=
 vK (kw ai a2) λb=>
 vK (ak .i .geq b (af 128)) λr=>
 aE r (
 R ai h) (
 ag prog qa #[a0,a1] h λg j=>
 vK (aP g 0) λc=>
 vK (aP g 1) λd=>
 vK (aP g 2) λe=>
 vK (ak .i .eql b ai) λs=>
 aE s (
 ag prog fb #[c,d,e] j λt u=>
 R t u) (
 ag prog vG #[c,d,b] j λk v=>
 vK (aP k 0) λl=>
 vK (aP k 1) λm=>
 vK (ak .i .sub b aG) λw=>
 ag prog vG #[c,d,w] v λn o=>
 vK (aP n 0) λax=>
 vK (aP n 1) λx=>
 vK (ak .i .and x (.int .u64 1)) λy=>
 vK (ak .i .eql y (.int .u64 0)) λf=>
 vK (gV f false (some e)) λz=>
 vK (gV f false (some z)) λa=>
 vK (gV a true (some c)) λaa=>
 vK (gV a true (some d)) λab=>
 vK (gV a true (some b)) λac=>
 vK (gV a true (ak .i .sub ac aG)) λad=>
 gK a true (λae=>ag prog AG #[aa,ab,ad] o ae) o λaj p=>
 vK (gV f false (aF a aj (.bool false))) λal=>
 vK (aF f (.bool true) al) λam=>
 aE am (
 ag prog fb #[l,m,e] p λan ao=>
 R an ao) (
 ag prog gX #[m,(.int .u64 1),(.int .u64 0)] p λq ap=>
 vK (aP q 0) λaq=>
 vK (aP q 1) λar=>
 vK (ak .i .add l ar) λau=>
 ag prog fb #[au,aq,e] ap λav aw=>
 R av aw)))
theorem Kg (H:y6 a0 a1 a2 h R):ag prog uA #[a0,a1,a2] h R:=fk f280 (.s .z (.s .z (.s (.s .z (.s (.s .z .z) .z)) (.s .z (.s (.s .z (.s (.s .z .z) .z)) (.s .z (.s .z (.s (.s .z (.s (.s .z .z) .z)) (.s .z (.s .z .z)))))))))) H
def BP (a0 a1:Value)(h:ah)(R:Value→ah→Prop):Prop:=
 ag prog ym #[a0] h λb f=>
 ag prog fh #[(af 10851744800547),b,a1] f λg j=>
 ag prog fh #[g,b,a1] j λk l=>
 bA [(af 1099511627776),(af 1099511627776),aG,aG] l λa x c m=>
 vK (ak .i .leq (ix a 3) (af 30)) λn=>
 aE n (
 vK (unV .neg (ix a 2)) λd=>
 vK (ak .i .mul (af 2) (ix a 3)) λo=>
 vK (ak .i .mul (af 2) (ix a 3)) λp=>
 vK (ak .i .add p aG) λq=>
 vK (ak .i .mul o q) λr=>
 vK (ak .i .shl r (.int .u64 40)) λs=>
 ag prog fh #[(ix a 1),k,s] c λe t=>
 vK (ak .i .mul d e) λu=>
 vK (ak .i .add (ix a 0) u) λv=>
 vK (ak .i .add (ix a 3) aG) λw=>
 m [v,e,d,w] t) (
 R (ix a 0) c)
theorem Nn (H:BP a0 a1 h R):ag prog sC #[a0,a1] h R:=fk f281 (.s .z (.s .z (.s .z (.s .z (.s (.s .z (.l 549755552704 [6,7,8,9] (.s (.s .z (.s .z .z)) (.s (.s .z (.s .z .z)) .z)))) (.s .z .z)))))) H
def iF (a0 a1:Value)(h:ah)(R:Value→ah→Prop):Prop:=
 vK (aC a0) λd=>
 bA [ai] h λa m b e=>
 vK (ak .i .lss (ix a 0) d) λf=>
 aE f (
 vK (bu 1 a0 (ix a 0)) λg=>
 vK (ldV b g) λj=>
 clK prog a1 #[j] b λk c=>
 aE k (
 R (ix a 0) c) (
 vK (ak .i .add (ix a 0) aG) λl=>
 e [l] c)) (
 R (af (-1)) b)
theorem nP (H:iF a0 a1 h R):ag prog iW #[a0,a1] h R:=fk f282 (.s .z (.s (.s .z (.l 524080 [8] (.s .z (.s (.s .z .z) (.s (.s .z (.s .z (.s (.s .z .z) .z))) .z))))) (.s .z .z))) H
def Ii (a0 a1:Value)(h:ah)(R:Value→ah→Prop):Prop:=
 ag prog ju #[a0] h λd e=>
 ag prog ju #[a1] e λf g=>
 ag prog lH #[d,f] g λa c=>
 vK (aP a 0) λj=>
 vK (aP a 1) λk=>
 vK (ak .i .neq j (.int .u64 0)) λl=>
 aE l (
 vK (ak .i .lss a0 ai) λm=>
 vK (ak .i .lss a1 ai) λn=>
 vK (ak .b .neq m n) λo=>
 ag prog mq #[(.int .u64 18446744073709551615),o] c λp q=>
 R p q) (
 vK (ak .i .lss a0 ai) λr=>
 vK (ak .i .lss a1 ai) λs=>
 vK (ak .b .neq r s) λt=>
 ag prog mq #[k,t] c λu v=>
 R u v)
theorem SO (H:Ii a0 a1 h R):ag prog DJ #[a0,a1] h R:=fk f283 (.s .z (.s .z (.s (.s .z (.s .z .z)) (.s .z .z)))) H
def iE (a0 a1 a2 a3:Value)(h:ah)(R:Value→ah→Prop):Prop:=
 vK (ak .i .add a1 aG) λg=>
 bA [g] h λe ap f j=>
 vK (ak .i .lss (ix e 0) a2) λk=>
 aE k (
 bA [(ix e 0)] f λb aq c l=>
 bO c λS=>
 vK (ak .i .gtr (ix b 0) a1) λa=>
 vK (gV a true (some a3)) λm=>
 vK (gV a true (some a0)) λn=>
 vK (gV a true (some (ix b 0))) λo=>
 vK (gV a true (bu 1 n o)) λp=>
 qK S (λc=>gV a true (ldV c p)) λq=>
 vK (gV a true (some a0)) λr=>
 vK (gV a true (some (ix b 0))) λs=>
 vK (gV a true (ak .i .sub s aG)) λt=>
 vK (gV a true (bu 1 r t)) λu=>
 qK S (λc=>gV a true (ldV c u)) λv=>
 gK a true (λw=>clK prog m #[q,v] c w) c λx d=>
 vK (gV a true (ak .i .lss x ai)) λy=>
 vK (aF a y (.bool false)) λz=>
 aE z (
 bO d λS=>
 vK (ak .i .sub (ix b 0) aG) λaa=>
 vK (ak .i .sub (ix b 0) aG) λab=>
 vK (bu 1 a0 ab) λac=>
 qK S (λd=>ldV d ac) λad=>
 vK (bu 1 a0 (ix b 0)) λae=>
 qK S (λd=>ldV d ae) λaf=>
 vK (bu 1 a0 (ix b 0)) λag=>
 stK 1 ag ad d λar aj=>
 vK (bu 1 a0 aa) λal=>
 stK 1 al af aj λau am=>
 vK (ak .i .sub (ix b 0) aG) λan=>
 l [an] am) (
 vK (ak .i .add (ix e 0) aG) λao=>
 j [ao] d)) (
 R (.tuple #[]) f)
theorem nO (H:iE a0 a1 a2 a3 h R):ag prog dE #[a0,a1,a2,a3] h R:=fk f284 (.s .z (.l 9007199254737664 [8] (.s (.s .z (.s .z .z)) (.s (.s .z (.l 9007199254479360 [9] (.s (.s (.d (.op 0 .r (.op 1 .r (.op 2 .r (.op 3 .r (.op 4 .r (.op 5 .r (.op 6 .r (.op 7 .r (.op 8 .r (.op 9 .r (.op 10 .r (.op 11 .r (.op 12 .r (.op 13 .r (.op 14 .n (.op 15 .r (.op 16 .r .nil)))))))))))))))))) (.s .z .z)) (.s (.d (.op 0 .r (.op 1 .r (.op 2 .r (.op 3 .r (.op 4 .r (.op 5 .r (.op 6 .r (.op 7 .r (.op 8 .r (.op 9 .r (.op 10 .r (.op 11 .r (.op 12 .r (.op 13 .r (.op 14 .r (.op 15 .n (.op 16 .r (.op 17 .n .nil))))))))))))))))))) .z)))) .z)))) H
def ki (a0 a1 a2 a3 a4:Value)(h:ah)(R:Value→ah→Prop):Prop:=
 vK (ak .i .sub a2 a1) λal=>
 vK (ak .i .eql al aG) λam=>
 aE am (
 bA [a2,a3] h λe dg f x=>
 vK (ak .i .lss (ix e 0) (ix e 1)) λan=>
 aE an (
 vK (ak .i .add (ix e 0) (ix e 1)) λao=>
 vK (gP .u64 ao) λap=>
 vK (ak .i .shr ap (.int .u64 1)) λaq=>
 vK (gP .i64 aq) λt=>
 bO f λS=>
 vK (bu 1 a0 t) λar=>
 qK S (λf=>ldV f ar) λau=>
 vK (bu 1 a0 a1) λav=>
 qK S (λf=>ldV f av) λaw=>
 clK prog a4 #[au,aw] f λax y=>
 vK (ak .i .lss ax ai) λay=>
 aE ay (
 vK (ak .i .add t aG) λaz=>
 x [az,(ix e 1)] y) (
 x [(ix e 0),t] y)) (
 bA [a1] f λm dh g a5=>
 vK (ak .i .sub (ix e 0) aG) λa6=>
 vK (ak .i .lss (ix m 0) a6) λa7=>
 aE a7 (
 bO g λS=>
 vK (ak .i .add (ix m 0) aG) λa8=>
 vK (ak .i .add (ix m 0) aG) λa9=>
 vK (bu 1 a0 a9) λba=>
 qK S (λg=>ldV g ba) λbb=>
 vK (bu 1 a0 (ix m 0)) λbc=>
 qK S (λg=>ldV g bc) λbd=>
 vK (bu 1 a0 (ix m 0)) λbe=>
 stK 1 be bb g λdi bf=>
 vK (bu 1 a0 a8) λbg=>
 stK 1 bg bd bf λdj bh=>
 vK (ak .i .add (ix m 0) aG) λbi=>
 a5 [bi] bh) (
 R (.tuple #[]) g))) (
 vK (ak .i .sub a3 a2) λbj=>
 vK (ak .i .eql bj aG) λbk=>
 aE bk (
 bA [a1,a2] h λj dk k z=>
 vK (ak .i .lss (ix j 0) (ix j 1)) λbl=>
 aE bl (
 vK (ak .i .add (ix j 0) (ix j 1)) λbm=>
 vK (gP .u64 bm) λbn=>
 vK (ak .i .shr bn (.int .u64 1)) λbo=>
 vK (gP .i64 bo) λu=>
 bO k λS=>
 vK (bu 1 a0 a2) λbp=>
 qK S (λk=>ldV k bp) λbq=>
 vK (bu 1 a0 u) λbr=>
 qK S (λk=>ldV k br) λbs=>
 clK prog a4 #[bq,bs] k λbt aa=>
 vK (ak .i .lss bt ai) λbv=>
 vK (unV .not bv) λbw=>
 aE bw (
 vK (ak .i .add u aG) λbx=>
 z [bx,(ix j 1)] aa) (
 z [(ix j 0),u] aa)) (
 bA [a2] k λn dl l bz=>
 vK (ak .i .gtr (ix n 0) (ix j 0)) λb0=>
 aE b0 (
 bO l λS=>
 vK (ak .i .sub (ix n 0) aG) λb1=>
 vK (ak .i .sub (ix n 0) aG) λb2=>
 vK (bu 1 a0 b2) λb3=>
 qK S (λl=>ldV l b3) λb4=>
 vK (bu 1 a0 (ix n 0)) λb5=>
 qK S (λl=>ldV l b5) λb6=>
 vK (bu 1 a0 (ix n 0)) λb7=>
 stK 1 b7 b4 l λdm b8=>
 vK (bu 1 a0 b1) λb9=>
 stK 1 b9 b6 b8 λdn ca=>
 vK (ak .i .sub (ix n 0) aG) λcb=>
 bz [cb] ca) (
 R (.tuple #[]) l))) (
 vK (ak .i .add a1 a3) λcc=>
 vK (gP .u64 cc) λcd=>
 vK (ak .i .shr cd (.int .u64 1)) λce=>
 vK (gP .i64 ce) λb=>
 vK (ak .i .add b a2) λv=>
 fR (λab=>
 vK (ak .i .gtr a2 b) λcf=>
 aE cf (
 vK (ak .i .sub v a3) λcg=>
 ab [cg,b] h) (
 ab [a1,a2] h))
 λac dp ci=>
 vK (ak .i .sub v aG) λcj=>
 bA [(ix ac 0),(ix ac 1)] ci λa dq c ad=>
 vK (ak .i .lss (ix a 0) (ix a 1)) λck=>
 aE ck (
 vK (ak .i .add (ix a 0) (ix a 1)) λcl=>
 vK (gP .u64 cl) λcm=>
 vK (ak .i .shr cm (.int .u64 1)) λcn=>
 vK (gP .i64 cn) λo=>
 bO c λS=>
 vK (ak .i .sub cj o) λco=>
 vK (bu 1 a0 co) λcp=>
 qK S (λc=>ldV c cp) λcq=>
 vK (bu 1 a0 o) λcr=>
 qK S (λc=>ldV c cr) λcs=>
 clK prog a4 #[cq,cs] c λct ae=>
 vK (ak .i .lss ct ai) λcu=>
 vK (unV .not cu) λcv=>
 aE cv (
 vK (ak .i .add o aG) λcw=>
 ad [cw,(ix a 1)] ae) (
 ad [(ix a 0),o] ae)) (
 vK (ak .i .sub v (ix a 0)) λd=>
 fR (λaf=>
 vK (ak .i .lss (ix a 0) a2) λp=>
 vK (gV p true (some a2)) λcx=>
 vK (gV p true (some d)) λcy=>
 vK (gV p true (ak .i .lss cx cy)) λcz=>
 vK (aF p cz (.bool false)) λc0=>
 aE c0 (
 ag prog iP #[a0,(ix a 0),a2,d,a4] c λdr c1=>
 af [] c1) (
 af [] c))
 λds dt w=>
 vK (ak .i .lss a1 (ix a 0)) λq=>
 vK (gV q true (some (ix a 0))) λc2=>
 vK (gV q true (some b)) λc3=>
 vK (gV q true (ak .i .lss c2 c3)) λc4=>
 vK (aF q c4 (.bool false)) λc5=>
 aE c5 (
 ag prog ch #[a0,a1,(ix a 0),b,a4] w λdu aj=>
 vK (ak .i .lss b d) λr=>
 vK (gV r true (some d)) λc6=>
 vK (gV r true (some a3)) λc7=>
 vK (gV r true (ak .i .lss c6 c7)) λc8=>
 vK (aF r c8 (.bool false)) λc9=>
 aE c9 (
 ag prog ch #[a0,b,d,a3,a4] aj λdv da=>
 R (.tuple #[]) da) (
 R (.tuple #[]) aj)) (
 vK (ak .i .lss b d) λs=>
 vK (gV s true (some d)) λdb=>
 vK (gV s true (some a3)) λdc=>
 vK (gV s true (ak .i .lss db dc)) λdd=>
 vK (aF s dd (.bool false)) λde=>
 aE de (
 ag prog ch #[a0,b,d,a3,a4] w λdw df=>
 R (.tuple #[]) df) (
 R (.tuple #[]) w)))))
theorem tC (H:ki a0 a1 a2 a3 a4 h R):ag prog ch #[a0,a1,a2,a3,a4] h R:=fk f285 (.s (.s .z (.s (.s .z (.s .z (.s (.l 18014396362005504 [10,11] (.s (.s .z (.s .z .z)) (.s .z (.s (.d (.op 0 .r (.op 1 .r (.op 2 .r (.op 3 .r (.op 4 .r (.op 5 .r (.op 6 .r (.op 7 .r (.op 8 .r (.op 9 .n (.op 10 .r .nil)))))))))))) (.s .z .z))))) (.s (.s .z (.l 151115691423031627882496 [13] (.s (.s .z (.s .z .z)) (.s (.d (.op 0 .r (.op 1 .r (.op 2 .r (.op 3 .r (.op 4 .r (.op 5 .r (.op 6 .r (.op 7 .r (.op 8 .r (.op 9 .r (.op 10 .r (.op 11 .r (.op 12 .r (.op 13 .r (.op 14 .r (.op 15 .n (.op 16 .r (.op 17 .n .nil))))))))))))))))))) .z)))) .z)))) .z)) (.s (.s .z (.s (.s .z (.s .z (.s (.l 162259267157806806474544612753408 [14,15] (.s (.s .z (.s .z .z)) (.s .z (.s (.d (.op 0 .r (.op 1 .r (.op 2 .r (.op 3 .r (.op 4 .r (.op 5 .r (.op 6 .r (.op 7 .r (.op 8 .r (.op 9 .n (.op 10 .r (.op 11 .r .nil))))))))))))) (.s .z .z))))) (.s (.s .z (.l 680564409323323268500022431707515977728 [17] (.s (.s .z (.s .z .z)) (.s (.d (.op 0 .r (.op 1 .r (.op 2 .r (.op 3 .r (.op 4 .r (.op 5 .r (.op 6 .r (.op 7 .r (.op 8 .r (.op 9 .r (.op 10 .r (.op 11 .r (.op 12 .r (.op 13 .r (.op 14 .r (.op 15 .n (.op 16 .r (.op 17 .n .nil))))))))))))))))))) .z)))) .z)))) .z)) (.s .z (.s .z (.s .z (.j 178057512444517944145699250583176761402458112 [20,21] (.s .z (.s (.s .z .z) (.s .z .z))) (.s .z (.s (.l 47890484938435180470718404069304177263338029388398592 [20,21] (.s (.s .z (.s .z .z)) (.s .z (.s (.d (.op 0 .r (.op 1 .r (.op 2 .r (.op 3 .r (.op 4 .r (.op 5 .r (.op 6 .r (.op 7 .r (.op 8 .r (.op 9 .r (.op 10 .r (.op 11 .n (.op 12 .r (.op 13 .r .nil))))))))))))))) (.s .z .z))))) (.s .z (.j 6276718611501464291621199836450878838806450759683488612352 [] (.s .z (.s .z .z)) (.s (.s .z (.s .z .z)) (.s .z (.s .z .z))))))))))))) H
def kZ (a0:Value)(h:ah)(R:Value→ah→Prop):Prop:=
 ag prog yp #[a0] h λa b=>
 vK (ak .i .sub (af 64) a) λc=>
 R c b
theorem vg (H:kZ a0 h R):ag prog iR #[a0] h R:=fk f288 (.s .z (.s .z .z)) H
def kH (a0:Value)(h:ah)(R:Value→ah→Prop):Prop:=
 fR (λc=>
 vK (aC a0) λe=>
 vK (ak .i .lss e aG) λf=>
 aE f (
 OP h λs g=>
 c [] g) (
 c [] h))
 λt u d=>
 vK (bu 1 a0 ai) λj=>
 vK (ldV d j) λk=>
 bA [k,aG] d λa v b l=>
 vK (aC a0) λm=>
 vK (ak .i .lss (ix a 1) m) λn=>
 aE n (
 vK (bu 1 a0 (ix a 1)) λo=>
 vK (ldV b o) λp=>
 vK (tG (ix a 0) p) λq=>
 vK (ak .i .add (ix a 1) aG) λr=>
 l [q,r] b) (
 R (ix a 0) b)
theorem ug (H:kH a0 h R):ag prog iA #[a0] h R:=fk f289 (.s .z (.j 480 [] (.s .z (.s .z .z)) (.s .z (.s (.s .z (.l 16773144 [3,4] (.s (.s .z (.s .z .z)) (.s .z .z)))) (.s .z .z))))) H
def eN (a0:Value)(h:ah)(R:Value→ah→Prop):Prop:=
 bh (Value.cells a0) 284 h λa b=>
 R (.func (.func dQ) #[] #[a]) b
theorem jz (H:eN a0 h R):ag prog fo #[a0] h R:=fk f291 (.s .z (.s .z .z)) H
def xA (a0 a1 a2 a3:Value)(h:ah)(R:Value→ah→Prop):Prop:=
 vK (ak .i .mul (af 2) a0) λb=>
 fR (λa=>
 vK (ak .i .gtr a1 a0) λc=>
 aE c (
 vK (ak .i .mul (af 2) a1) λd=>
 a [d] h) (
 a [b] h))
 λe p f=>
 vK (ak .i .mul (af 2) a1) λg=>
 vK (ak .i .mul g a3) λj=>
 vK (ak .i .mul (af 2) a2) λk=>
 vK (ak .i .add k aG) λl=>
 vK (ak .i .mul l a0) λm=>
 vK (ak .i .sub j m) λn=>
 vK (ak .i .add n a1) λo=>
 R (.tuple #[o,(ix e 0)]) f
theorem ID (H:xA a0 a1 a2 a3 h R):ag prog mm #[a0,a1,a2,a3] h R:=fk f292 (.s .z (.s .z (.j 254976 [10] (.s .z (.s .z .z)) (.s .z .z)))) H
def Fj (a0 a1:Value)(h:ah)(R:Value→ah→Prop):Prop:=
 vK (ak .i .lss a1 aG) λd=>
 vK (gV d false (some a1)) λl=>
 vK (gV d false (ak .i .gtr l (af 262144))) λm=>
 vK (aF d (.bool true) m) λn=>
 aE n (
 R ai h) (
 vK (ak .i .mul (af 2) a1) λo=>
 vK (ak .i .geq a0 o) λa=>
 vK (gV a false (some a0)) λp=>
 vK (gV a false (some a1)) λq=>
 vK (gV a false (ak .i .mul (af (-2)) q)) λr=>
 vK (gV a false (ak .i .leq p r)) λs=>
 vK (aF a (.bool true) s) λt=>
 aE t (
 R ai h) (
 fR (λf=>
 vK (ak .i .lss a0 ai) λu=>
 aE u (
 vK (unV .neg a0) λv=>
 f [v] h) (
 f [a0] h))
 λb ay g=>
 vK (ak .i .mul (ix b 0) (ix b 0)) λe=>
 vK (ak .i .mul e (ix b 0)) λj=>
 vK (ak .i .mul a1 a1) λk=>
 vK (ak .i .mul k a1) λc=>
 vK (ak .i .lss (ix b 0) a1) λw=>
 aE w (
 vK (ak .i .mul (af 3) j) λx=>
 vK (ak .i .mul (af 5) e) λy=>
 vK (ak .i .mul y a1) λz=>
 vK (ak .i .sub x z) λaa=>
 vK (ak .i .mul (af 2) c) λab=>
 vK (ak .i .add aa ab) λac=>
 vK (ak .i .mul (af 2) c) λad=>
 ag prog dD #[ac,(af 1073741824),ad] g λae aj=>
 R ae aj) (
 vK (ak .i .mul (af 5) e) λal=>
 vK (ak .i .mul al a1) λam=>
 vK (ak .i .sub am j) λan=>
 vK (ak .i .mul (af 8) (ix b 0)) λao=>
 vK (ak .i .mul ao k) λap=>
 vK (ak .i .sub an ap) λaq=>
 vK (ak .i .mul (af 4) c) λar=>
 vK (ak .i .add aq ar) λau=>
 vK (ak .i .mul (af 2) c) λav=>
 ag prog dD #[au,(af 1073741824),av] g λaw ax=>
 R aw ax)))
theorem Qe (H:Fj a0 a1 h R):ag prog AN #[a0,a1] h R:=fk f293 (.s .z (.s (.s .z (.s (.s .z .z) .z)) (.s (.s .z (.s (.s .z .z) .z)) (.j 503316481 [0] (.s .z (.s .z .z)) (.s .z (.s .z (.s .z (.s .z (.s (.s .z (.s (.s .z .z) .z)) (.s .z .z)))))))))) H
def zh (a0 a1:Value)(h:ah)(R:Value→ah→Prop):Prop:=
 ag prog DE #[a0,a1] h λd c=>
 vK (unV .not d) λa=>
 vK (gV a false (some a0)) λe=>
 vK (gV a false (some a1)) λf=>
 vK (gV a false (ak .i .mul (af 3) f)) λg=>
 vK (gV a false (ak .i .geq e g)) λj=>
 vK (aF a (.bool true) j) λb=>
 vK (gV b false (some a0)) λk=>
 vK (gV b false (some a1)) λl=>
 vK (gV b false (ak .i .mul (af (-3)) l)) λm=>
 vK (gV b false (ak .i .leq k m)) λn=>
 vK (aF b (.bool true) n) λo=>
 aE o (
 R ai c) (
 ag prog qx #[a0,a1] c λp q=>
 vK (ak .i .mul (af 3) a1) λr=>
 ag prog qx #[a0,r] q λs t=>
 ag prog rR #[p,s,(af 40)] t λu v=>
 ag prog mY #[u,(af 10)] v λw x=>
 R w x)
theorem Km (H:zh a0 a1 h R):ag prog uD #[a0,a1] h R:=fk f294 (.s .z (.s (.s .z (.s (.s .z .z) .z)) (.s .z (.s .z .z)))) H
def Fm (a0 a1:Value)(h:ah)(R:Value→ah→Prop):Prop:=
 bh (Value.cells a0) 351 h λq r=>
 bh #[(.int .u64 0),(.int .u64 0)] 351 r λd s=>
 vK ((aQ #[(.int .u64 0),(.int .u64 0)] []).map .agg) λt=>
 bh #[(.int .u64 0),(.int .u64 0)] 351 s λb u=>
 stK 2 b t u λbc v=>
 vK ((aQ #[(.int .u64 0),(.int .u64 0)] []).map .agg) λw=>
 bh #[(.int .u64 0),(.int .u64 0)] 351 v λc x=>
 stK 2 c w x λbd f=>
 vK (ak .i .eql a1 (.int .u64 0)) λy=>
 aE y (
 vK (aR 2 f b) λz=>
 stK 2 d z f λbe k=>
 vK (aR 2 k d) λaa=>
 R (.tuple #[aa,(.int .u64 0)]) k) (
 bA [(af 127)] f λe bf a l=>
 vK (ak .i .geq (ix e 0) ai) λab=>
 aE ab (
 bO a λS=>
 qK S (λa=>aR 2 a c) λac=>
 qK S (λa=>aR 2 a q) λad=>
 ag prog jm #[ad,(ix e 0)] a λae m=>
 S m∧(ag prog fT #[ac,ae] m λaj al=>
 stK 2 c aj al λbg n=>
 vK (aR 2 n b) λam=>
 ag prog fT #[am,(.int .u64 0)] n λan ao=>
 stK 2 b an ao λbi o=>
 vK (aR 2 o c) λap=>
 vK ((aQ #[(.int .u64 0),(.int .u64 0)] [(0,1,(.int .u64 0)),(1,1,a1)]).map .agg) λaq=>
 ag prog kD #[ap,aq] o λar g=>
 vK (unV .not ar) λau=>
 aE au (
 vK (aR 2 g c) λav=>
 vK ((aQ #[(.int .u64 0),(.int .u64 0)] [(0,1,(.int .u64 0)),(1,1,a1)]).map .agg) λaw=>
 ag prog sG #[av,aw] g λax ay=>
 stK 2 c ax ay λbj p=>
 vK (aB 1 b) λaz=>
 vK (ldV p az) λa2=>
 vK (ak .i .add a2 (.int .u64 1)) λa3=>
 vK (aB 1 b) λa4=>
 stK 1 a4 a3 p λbk a5=>
 vK (ak .i .sub (ix e 0) aG) λa6=>
 l [a6] a5) (
 vK (ak .i .sub (ix e 0) aG) λa7=>
 l [a7] g))) (
 bO a λS=>
 qK S (λa=>aR 2 a b) λa8=>
 vK (aB 1 c) λa9=>
 qK S (λa=>ldV a a9) λba=>
 stK 2 d a8 a λbl j=>
 S j∧(vK (aR 2 j d) λbb=>
 R (.tuple #[bb,ba]) j)))
theorem Qh (H:Fm a0 a1 h R):ag prog vN #[a0,a1] h R:=fk f295 (.s .z (.s .z (.s .z (.s (.s .z (.s (.s .z .z) .z)) (.s (.s .z (.l 274877890816 [8] (.s (.s .z (.s .z .z)) (.s (.s (.d (.op 0 .r (.op 1 .r (.op 2 .r (.op 3 .e (.op 4 .n (.op 5 .n .nil))))))) (.s .z (.s .z (.s (.s .z .z) .z)))) .z)))) (.s (.d (.op 0 .r (.op 1 .r (.op 2 .r (.op 3 .e (.op 4 .r .nil)))))) .z)))))) H
def Fl (a0 a1:Value)(h:ah)(R:Value→ah→Prop):Prop:=
 bh (Value.cells a0) 351 h λe l=>
 bh (Value.cells a1) 351 l λf m=>
 bh #[(.int .u64 0),(.int .u64 0)] 351 m λd c=>
 vK (aB 0 e) λn=>
 vK (ldV c n) λo=>
 vK (aB 0 f) λp=>
 vK (ldV c p) λq=>
 vK (ak .i .add o q) λr=>
 vK (aB 1 e) λs=>
 vK (ldV c s) λt=>
 vK (aB 1 f) λu=>
 vK (ldV c u) λv=>
 vK (ak .i .add t v) λw=>
 vK ((aQ #[(.int .u64 0),(.int .u64 0)] [(0,1,r),(1,1,w)]).map .agg) λx=>
 bh #[(.int .u64 0),(.int .u64 0)] 351 c λa y=>
 stK 2 a x y λao b=>
 vK (aB 1 a) λz=>
 vK (ldV b z) λaa=>
 vK (aB 1 e) λab=>
 vK (ldV b ab) λac=>
 vK (ak .i .lss aa ac) λad=>
 aE ad (
 vK (aB 0 a) λae=>
 vK (ldV b ae) λaf=>
 vK (ak .i .add af (.int .u64 1)) λag=>
 vK (aB 0 a) λai=>
 stK 1 ai ag b λap g=>
 vK (aR 2 g a) λaj=>
 stK 2 d aj g λaq j=>
 vK (aR 2 j d) λal=>
 R al j) (
 vK (aR 2 b a) λam=>
 stK 2 d am b λar k=>
 vK (aR 2 k d) λan=>
 R an k)
theorem Qg (H:Fl a0 a1 h R):ag prog jl #[a0,a1] h R:=fk f296 (.s .z (.s .z (.s (.s .z (.s .z .z)) (.s .z .z)))) H
def Fp (a0 a1:Value)(h:ah)(R:Value→ah→Prop):Prop:=
 bh (Value.cells a0) 351 h λb a=>
 aE a1 (
 vK (aB 0 b) λe=>
 vK (ldV a e) λf=>
 vK (ak .i .gtr f (.int .u64 0)) λc=>
 vK (gV c false (aB 1 b)) λg=>
 vK (gV c false (ldV a g)) λj=>
 vK (gV c false (ak .i .gtr j (.int .u64 9223372036854775807))) λk=>
 vK (aF c (.bool true) k) λl=>
 aE l (
 R (af (-9223372036854775808)) a) (
 vK (aB 1 b) λm=>
 vK (ldV a m) λn=>
 vK (gP .i64 n) λo=>
 vK (unV .neg o) λp=>
 R p a)) (
 vK (aB 0 b) λq=>
 vK (ldV a q) λr=>
 vK (ak .i .gtr r (.int .u64 0)) λd=>
 vK (gV d false (aB 1 b)) λs=>
 vK (gV d false (ldV a s)) λt=>
 vK (gV d false (ak .i .gtr t (.int .u64 9223372036854775807))) λu=>
 vK (aF d (.bool true) u) λv=>
 aE v (
 R (af 9223372036854775807) a) (
 vK (aB 1 b) λw=>
 vK (ldV a w) λx=>
 vK (gP .i64 x) λy=>
 R y a))
theorem Qj (H:Fp a0 a1 h R):ag prog ed #[a0,a1] h R:=fk f297 (.s .z (.s (.s .z (.s (.s (.s .z (.s (.s .z .z) .z)) (.s .z .z)) .z)) (.s (.s .z (.s (.s .z .z) .z)) (.s .z .z)))) H
def BX (a0 a1:Value)(h:ah)(R:Value→ah→Prop):Prop:=
 bh (Value.cells a0) 351 h λb e=>
 bh #[(.int .u64 0),(.int .u64 0)] 351 e λc a=>
 vK (aB 0 b) λf=>
 vK (ldV a f) λg=>
 vK (ak .i .shl g (.int .u64 1)) λj=>
 vK (aB 1 b) λk=>
 vK (ldV a k) λl=>
 vK (ak .i .shr l (.int .u64 63)) λm=>
 vK (ak .i .add j m) λn=>
 vK (aB 1 b) λo=>
 vK (ldV a o) λp=>
 vK (ak .i .shl p (.int .u64 1)) λq=>
 vK (ak .i .add q a1) λr=>
 vK ((aQ #[(.int .u64 0),(.int .u64 0)] [(0,1,n),(1,1,r)]).map .agg) λs=>
 stK 2 c s a λu d=>
 vK (aR 2 d c) λt=>
 R t d
theorem Nv (H:BX a0 a1 h R):ag prog fT #[a0,a1] h R:=fk f298 (.s .z (.s .z .z)) H
def HV (a0 a1:Value)(h:ah)(R:Value→ah→Prop):Prop:=
 bh (Value.cells a0) 351 h λb a=>
 vK (ak .i .geq a1 (af 64)) λc=>
 aE c (
 vK (aB 0 b) λd=>
 vK (ldV a d) λe=>
 vK (ak .i .sub a1 (af 64)) λf=>
 vK (ak .i .shr e f) λg=>
 vK (ak .i .and g (.int .u64 1)) λj=>
 R j a) (
 vK (aB 1 b) λk=>
 vK (ldV a k) λl=>
 vK (ak .i .shr l a1) λm=>
 vK (ak .i .and m (.int .u64 1)) λn=>
 R n a)
theorem SF (H:HV a0 a1 h R):ag prog jm #[a0,a1] h R:=fk f299 (.s .z (.s (.s .z (.s (.s .z .z) .z)) (.s .z .z))) H
def B5 (a0 a1:Value)(h:ah)(R:Value→ah→Prop):Prop:=
 bh (Value.cells a0) 351 h λe l=>
 bh (Value.cells a1) 351 l λf m=>
 bh #[(.int .u64 0),(.int .u64 0)] 351 m λd b=>
 vK (aB 0 e) λn=>
 vK (ldV b n) λo=>
 vK (aB 0 f) λp=>
 vK (ldV b p) λq=>
 vK (ak .i .sub o q) λr=>
 vK (aB 1 e) λs=>
 vK (ldV b s) λt=>
 vK (aB 1 f) λu=>
 vK (ldV b u) λv=>
 vK (ak .i .sub t v) λw=>
 vK ((aQ #[(.int .u64 0),(.int .u64 0)] [(0,1,r),(1,1,w)]).map .agg) λx=>
 bh #[(.int .u64 0),(.int .u64 0)] 351 b λc y=>
 stK 2 c x y λao a=>
 vK (aB 1 e) λz=>
 vK (ldV a z) λaa=>
 vK (aB 1 f) λab=>
 vK (ldV a ab) λac=>
 vK (ak .i .lss aa ac) λad=>
 aE ad (
 vK (aB 0 c) λae=>
 vK (ldV a ae) λaf=>
 vK (ak .i .sub af (.int .u64 1)) λag=>
 vK (aB 0 c) λai=>
 stK 1 ai ag a λap g=>
 vK (aR 2 g c) λaj=>
 stK 2 d aj g λaq j=>
 vK (aR 2 j d) λal=>
 R al j) (
 vK (aR 2 a c) λam=>
 stK 2 d am a λar k=>
 vK (aR 2 k d) λan=>
 R an k)
theorem Nz (H:B5 a0 a1 h R):ag prog sG #[a0,a1] h R:=fk f300 (.s .z (.s .z (.s (.s .z (.s .z .z)) (.s .z .z)))) H
def Fo (a0 a1:Value)(h:ah)(R:Value→ah→Prop):Prop:=
 bh (Value.cells a0) 351 h λb d=>
 bh (Value.cells a1) 351 d λc a=>
 vK (aB 0 b) λe=>
 vK (ldV a e) λf=>
 vK (aB 0 c) λg=>
 vK (ldV a g) λj=>
 vK (ak .i .neq f j) λk=>
 aE k (
 vK (aB 0 b) λl=>
 vK (ldV a l) λm=>
 vK (aB 0 c) λn=>
 vK (ldV a n) λo=>
 vK (ak .i .lss m o) λp=>
 R p a) (
 vK (aB 1 b) λq=>
 vK (ldV a q) λr=>
 vK (aB 1 c) λs=>
 vK (ldV a s) λt=>
 vK (ak .i .lss r t) λu=>
 R u a)
theorem Qi (H:Fo a0 a1 h R):ag prog kD #[a0,a1] h R:=fk f301 (.s .z (.s (.s .z (.s (.s .z .z) .z)) (.s .z .z))) H
def ER (a0 a1 a2:Value)(h:ah)(R:Value→ah→Prop):Prop:=
 vK (ak .i .geq a2 (af 64)) λa=>
 aE a (
 vK (ak .i .sub a2 (af 64)) λb=>
 vK (ak .i .shr a0 b) λc=>
 R (.tuple #[(.int .u64 0),c]) h) (
 vK (ak .i .shr a0 a2) λd=>
 vK (ak .i .shr a1 a2) λe=>
 vK (ak .i .sub (af 64) a2) λf=>
 vK (ak .i .shl a0 f) λg=>
 vK (ak .i .or e g) λj=>
 R (.tuple #[d,j]) h)
theorem PS (H:ER a0 a1 a2 h R):ag prog vG #[a0,a1,a2] h R:=fk f302 (.s .z (.s (.s .z (.s (.s .z .z) .z)) (.s .z .z))) H
def ES (a0 a1 a2:Value)(h:ah)(R:Value→ah→Prop):Prop:=
 vK (ak .i .geq a2 (af 64)) λb=>
 aE b (
 vK (ak .i .eql a1 (.int .u64 0)) λa=>
 vK (gV a true (some a0)) λc=>
 vK (gV a true (some a2)) λd=>
 vK (gV a true (ak .i .sub (af 128) d)) λe=>
 vK (gV a true (ak .i .shl c e)) λf=>
 vK (gV a true (ak .i .eql f (.int .u64 0))) λg=>
 vK (aF a g (.bool false)) λj=>
 R j h) (
 vK (ak .i .sub (af 64) a2) λk=>
 vK (ak .i .shl a1 k) λl=>
 vK (ak .i .eql l (.int .u64 0)) λm=>
 R m h)
theorem PU (H:ES a0 a1 a2 h R):ag prog AG #[a0,a1,a2] h R:=fk f303 (.s .z (.s (.s .z (.s (.s .z .z) .z)) (.s .z .z))) H
def kY (a0 a1 a2 a3 a4:Value)(h:ah)(R:Value→ah→Prop):Prop:=
 vK (ak .i .sub a2 a1) λd=>
 vK (ak .i .sub a3 a2) λe=>
 bA [d,e] h λa t b c=>
 vK (ak .i .neq (ix a 0) (ix a 1)) λf=>
 aE f (
 vK (ak .i .gtr (ix a 0) (ix a 1)) λg=>
 aE g (
 vK (ak .i .sub a2 (ix a 0)) λj=>
 ag prog dr #[a0,j,a2,(ix a 1),a4] b λu k=>
 vK (ak .i .sub (ix a 0) (ix a 1)) λl=>
 c [l,(ix a 1)] k) (
 vK (ak .i .sub a2 (ix a 0)) λm=>
 vK (ak .i .add a2 (ix a 1)) λn=>
 vK (ak .i .sub n (ix a 0)) λo=>
 ag prog dr #[a0,m,o,(ix a 0),a4] b λv p=>
 vK (ak .i .sub (ix a 1) (ix a 0)) λq=>
 c [(ix a 0),q] p)) (
 vK (ak .i .sub a2 (ix a 0)) λr=>
 ag prog dr #[a0,r,a2,(ix a 0),a4] b λw s=>
 R (.tuple #[]) s)
theorem ve (H:kY a0 a1 a2 a3 a4 h R):ag prog iP #[a0,a1,a2,a3,a4] h R:=fk f304 (.s .z (.s .z (.s (.l 1125899906583552 [10,11] (.s (.s .z (.s .z .z)) (.s .z (.s (.s .z .z) (.s .z .z))))) .z))) H
def HT (a0 a1:Value)(h:ah)(R:Value→ah→Prop):Prop:=
 vK (ak .i .lss a1 aG) λb=>
 vK (gV b false (some a1)) λc=>
 vK (gV b false (ak .i .gtr c (af 1048576))) λd=>
 vK (aF b (.bool true) d) λe=>
 aE e (
 R (.bool false) h) (
 vK (ak .i .mul (af 4) a1) λf=>
 vK (ak .i .leq a0 f) λa=>
 vK (gV a true (some a0)) λg=>
 vK (gV a true (some a1)) λj=>
 vK (gV a true (ak .i .mul (af (-4)) j)) λk=>
 vK (gV a true (ak .i .geq g k)) λl=>
 vK (aF a l (.bool false)) λm=>
 R m h)
theorem SC (H:HT a0 a1 h R):ag prog DE #[a0,a1] h R:=fk f307 (.s .z (.s (.s .z (.s (.s .z .z) .z)) (.s .z .z))) H
def xB (a0 a1 a2:Value)(h:ah)(R:Value→ah→Prop):Prop:=
 fR (λp=>
 vK (ak .i .lss a2 ai) λt=>
 aE t (
 p [ai] h) (
 p [a2] h))
 λe bz q=>
 vK (ak .i .gtr (ix e 0) (af 127)) λu=>
 aE u (
 R ai q) (
 vK (ak .i .lss a0 ai) λv=>
 vK (ak .i .lss a1 ai) λw=>
 vK (ak .b .neq v w) λj=>
 ag prog gH #[a0] q λx y=>
 ag prog gH #[a1] y λz aa=>
 ag prog sF #[x,z] aa λab ac=>
 bh #[(.int .u64 0),(.int .u64 0)] 351 ac λf ad=>
 stK 2 f ab ad λb0 m=>
 vK (ak .i .eql (ix e 0) ai) λae=>
 aE ae (
 vK (aR 2 m f) λaj=>
 ag prog ed #[aj,j] m λal am=>
 R al am) (
 vK ((aQ #[(.int .u64 0),(.int .u64 0)] []).map .agg) λan=>
 bh #[(.int .u64 0),(.int .u64 0)] 351 m λc ao=>
 stK 2 c an ao λb1 ap=>
 bA [(af 127)] ap λn b2 d aq=>
 vK (ak .i .geq (ix n 0) (ix e 0)) λar=>
 aE ar (
 bO d λS=>
 qK S (λd=>aR 2 d c) λau=>
 qK S (λd=>aR 2 d f) λav=>
 ag prog jm #[av,(ix n 0)] d λaw r=>
 S r∧(ag prog fT #[au,aw] r λax ay=>
 stK 2 c ax ay λb3 az=>
 vK (ak .i .sub (ix n 0) aG) λa3=>
 aq [a3] az)) (
 vK (ak .i .sub (ix e 0) aG) λa4=>
 bA [(.bool false),ai] d λa b4 g a5=>
 vK (ak .i .lss (ix a 1) a4) λa6=>
 aE a6 (
 vK (gV (ix a 0) false (aR 2 g f)) λa7=>
 vK (gV (ix a 0) false (some (ix a 1))) λa8=>
 gK (ix a 0) false (λa9=>ag prog jm #[a7,a8] g a9) g λba bb=>
 vK (gV (ix a 0) false (ak .i .eql ba (.int .u64 1))) λbc=>
 vK (aF (ix a 0) (.bool true) bc) λbd=>
 vK (ak .i .add (ix a 1) aG) λbe=>
 a5 [bd,be] bb) (
 vK (aR 2 g f) λbf=>
 vK (ak .i .sub (ix e 0) aG) λbg=>
 ag prog jm #[bf,bg] g λbi k=>
 vK (ak .i .eql bi (.int .u64 1)) λl=>
 vK (gV l true (some (ix a 0))) λbj=>
 vK (gV l true (some bj)) λo=>
 vK (gV o false (some j)) λbk=>
 vK (gV o false (unV .not bk)) λbl=>
 vK (gV l true (aF o (.bool true) bl)) λbm=>
 vK (aF l bm (.bool false)) λbn=>
 aE bn (
 vK (aR 2 k c) λbo=>
 vK ((aQ #[(.int .u64 0),(.int .u64 0)] [(1,1,(.int .u64 1))]).map .agg) λbp=>
 ag prog jl #[bo,bp] k λbq br=>
 stK 2 c bq br λb5 s=>
 vK (aR 2 s c) λbs=>
 ag prog ed #[bs,j] s λbt bu=>
 R bt bu) (
 vK (aR 2 k c) λbv=>
 ag prog ed #[bv,j] k λbw bx=>
 R bw bx)))))
theorem IE (H:xB a0 a1 a2 h R):ag prog rR #[a0,a1,a2] h R:=fk f308 (.s .z (.j 24580 [2] (.s .z (.s .z .z)) (.s (.s .z (.s (.s .z .z) .z)) (.s .z (.s .z (.s (.s .z (.s (.s .z .z) .z)) (.s .z (.s (.s .z (.l 8787503088640 [10] (.s (.s .z (.s .z .z)) (.s (.d (.op 0 .r (.op 1 .r (.op 2 .r (.op 3 .e (.op 4 .n (.op 5 .n .nil))))))) .z)))) (.s .z (.s (.s .z (.l 72022409665845248 [11,45] (.s .z (.s (.s .z .z) (.s (.s .z .z) .z))))) (.s (.s .z (.s .z .z)) (.s .z .z)))))))))))) H
def Bh (a0 a1:Value)(h:ah)(R:Value→ah→Prop):Prop:=
 fR (λc=>
 vK (ak .i .lss a0 ai) λj=>
 aE j (
 vK (unV .neg a0) λk=>
 c [k] h) (
 c [a0] h))
 λd ad l=>
 ag prog dD #[(af 10851744800547),(ix d 0),a1] l λm n=>
 ag prog dD #[m,(ix d 0),a1] n λo p=>
 bA [(af 1099511627776),ai,(af 1099511627776),aG] p λa ae e f=>
 vK (ak .i .leq (ix a 3) (af 30)) λq=>
 aE q (
 vK (ak .i .mul (af 2) (ix a 3)) λr=>
 vK (ak .i .mul (af 2) (ix a 3)) λs=>
 vK (ak .i .add s aG) λt=>
 vK (ak .i .mul r t) λu=>
 vK (ak .i .mul u (af 1099511627776)) λv=>
 ag prog dD #[(ix a 2),o,v] e λb g=>
 vK (ak .i .rem (ix a 3) (af 2)) λw=>
 vK (ak .i .eql w aG) λx=>
 aE x (
 vK (ak .i .add (ix a 1) b) λy=>
 vK (ak .i .add (ix a 3) aG) λz=>
 f [(ix a 0),y,b,z] g) (
 vK (ak .i .add (ix a 0) b) λaa=>
 vK (ak .i .add (ix a 3) aG) λab=>
 f [aa,(ix a 1),b,ab] g)) (
 vK (ak .i .sub (ix a 0) (ix a 1)) λac=>
 R ac e)
theorem LM (H:Bh a0 a1 h R):ag prog qx #[a0,a1] h R:=fk f309 (.s .z (.j 61441 [0] (.s .z (.s .z .z)) (.s .z (.s .z (.s .z (.s .z (.s .z (.s (.s .z (.l 140737479970688 [7,8,9,10] (.s (.s .z (.s .z .z)) (.s (.s .z (.s .z (.s .z (.s .z .z)))) .z)))) (.s .z .z))))))))) H
def jR (a0 a1 a2 a3 a4:Value)(h:ah)(R:Value→ah→Prop):Prop:=
 bA [ai] h λb t a c=>
 vK (ak .i .lss (ix b 0) a3) λd=>
 aE d (
 bO a λS=>
 vK (ak .i .add a1 (ix b 0)) λe=>
 vK (ak .i .add a2 (ix b 0)) λf=>
 vK (ak .i .add a2 (ix b 0)) λg=>
 vK (bu 1 a0 g) λj=>
 qK S (λa=>ldV a j) λk=>
 vK (ak .i .add a1 (ix b 0)) λl=>
 vK (bu 1 a0 l) λm=>
 qK S (λa=>ldV a m) λn=>
 vK (bu 1 a0 e) λo=>
 stK 1 o k a λu p=>
 vK (bu 1 a0 f) λq=>
 stK 1 q n p λv r=>
 vK (ak .i .add (ix b 0) aG) λs=>
 c [s] r) (
 R (.tuple #[]) a)
theorem rn (H:jR a0 a1 a2 a3 a4 h R):ag prog dr #[a0,a1,a2,a3,a4] h R:=fk f310 (.s .z (.l 274877905920 [10] (.s (.s .z (.s .z .z)) (.s (.d (.op 0 .r (.op 1 .r (.op 2 .r (.op 3 .r (.op 4 .r (.op 5 .r (.op 6 .r (.op 7 .r (.op 8 .r (.op 9 .r (.op 10 .r (.op 11 .r (.op 12 .r (.op 13 .r (.op 14 .r (.op 15 .r (.op 16 .r (.op 17 .r (.op 18 .r (.op 19 .r (.op 20 .r (.op 21 .n (.op 22 .r (.op 23 .n .nil))))))))))))))))))))))))) .z)))) H
end
def kB:Nat→ByteArray
 |0=>⟨#[99,108,97,109,112]⟩
 |1=>⟨#[109,105,114,114,111,114]⟩
 |2=>⟨#[119,114,97,112]⟩
 |_=>⟨#[]⟩
def Xk:Nat→ByteArray
 |0=>⟨#[98,111,120]⟩
 |1=>⟨#[99,117,98,105,99]⟩
 |2=>⟨#[108,97,110,99,122,111,115]⟩
 |_=>⟨#[]⟩
def Vx:Nat→Int
 |0=>0
 |1=>2
 |_=>3
def TabH (h:ah)(name:String)(k:IntKind)(zs:List Int):Prop:=∃g t f,prog.globalNamed name=some g∧h[g]? =some (.cells (zs.map λz=>Value.int k z).toArray t f)
theorem TabH.is {h:ah}{name:String}{k:IntKind}{zs:List Int}(H:TabH h name k zs)(w:World)(F:w.heap=h):Lib.TabIs prog w name k zs:=by
 obtain⟨g,t,f,h1,A⟩:=H;subst F;unfold Lib.TabIs World.var?;rw[h1,Option.bind_some,A]
structure eW (h:ah):Prop where
 names:∃v,aH h ⟨pY,0,none⟩=some v∧SlC 1 h v 3 [.string (kB 0),.string (kB 1),.string (kB 2)]
 kinds:∀i,i<3→aH h ⟨gj,2*i,none⟩=some (.string (Xk i))∧aH h ⟨gj,2*i+1,none⟩=some (.int .i64 (Vx i))
theorem eW.ext {h h':ah}(H:eW h)(e:Ext h h'):eW h':=by
 obtain⟨⟨v,h1,F⟩,A⟩:=H;exact⟨⟨v,e.cell h1,F.ext e⟩,λi hi=>⟨e.cell (A i hi).1,e.cell (A i hi).2⟩⟩
end Go.Proofs.YtjljhnandbbldaaGreatDoor
namespace Go.Crisp
open Go Go.ChangeShapes Go.WideShapes Go.ChangeAt Go.RowKit
def Dx (P:Program)(L:List (String×DataW Unit))(h:ah):Prop:=∀w:World,w.heap=h→laidMetH P L w
theorem row_laid {H:Type}{enc:TypeId×Value→H}{C:Checked}{os:Os}{f:FuncId}{fn:Func}{s:ChangeSpec}{U:List PathCond}{rt:TypeId}{ts:List TS}{L:List (String×DataW Unit)}
  (a9:tE C.prog f=true) (own:ownKnob C.prog.godebug=none) (started:os.Started) (ad:C.prog.inits.idxOf? f=none) (bc:C.prog.funcs[f]? =some fn)
  (an:laidOutB C.prog=true) (F:s.vars=[]) (hp:IP C.prog ts fn.params.toList=true) (al:fn.params.toList.all (λt=>C.prog.readableRec t&&decide (t<C.prog.types.size))=true)
  (ay:fn.resultTypes=#[rt]) (bd:C.prog.underlying rt=some .bool)
  (G:∀ds:List (DataW H),ds.length=ts.length→s.fn H ds={results:=[.lit (.bool true)],args:=ds})
  (aa:∃(w:World) (A:Tape) (i:Input),w.os=os∧(w.forCall A i).Shaped C.prog∧i.vars=[]∧Input.okWide C.prog (w.forCall A i) .any w.heap.size f i∧
   ((s.pre enc C.prog fn U false (w.forCall A i).memory i.args∧laidMetH C.prog L (w.forCall A i).memory)∧sizedMet enc C.prog fn (OpenSpec.ofChange s) false (w.forCall A i).memory i.args)∧Assume.holds {} C.prog (lone (Frame.enter C.prog f i.args .normal) [] (w.forCall A i)))
  (I:∀(h:ah) (args:Array Value),Dx C.prog L h→xi ts h args.toList→ag C.prog f args h λr h'=>r=.bool true∧Ext h h'):
  ReturnsInHanded {} C os f .any (λw args=>(s.pre enc C.prog fn U false w args∧laidMetH C.prog L w)∧sizedMet enc C.prog fn (OpenSpec.ofChange s) false w args) (s.post enc C.prog fn false true false false):=by
 refine returnsInHanded_of_change_and (X:=λw _=>laidMetH C.prog L w) (λ_ _ _ hh h=>h.of_heap hh) own started ad bc aa ?_;intro W bg args ds gs before ar hW _ ax hL _;have a8:=hW;obtain⟨p,q,hA,hV,rfl,_,_⟩:=hW;rw[F]at hV;obtain⟨rfl,rfl⟩:=trodVars_none hV;have a7:s.plain.varTypes C.prog=[]:=by simp[DataSpec.varTypes,ChangeSpec.plain,F]
 rw[a7,fN,fN]at ax;have hw:Bw (DataW.weightsEach C.prog fn.params.toList ds):=λn hn=>by
  have:=Eh.1 ax n hn;exact Aw this
 have be:xi ts W.heap args.toList:=Zi hp (λj t v ht hv=>ar j t v (by simpa using ht) (by simpa using hv)) hA hw;have ab:ds.length=ts.length:=by
  have l1:∀{ids:List TypeId} {vs:List Value} {ds:List (DataW H)} {ps:List MemPlace},DataW.TrodAll enc C.prog W 0 (λ_=>true) true ids vs ds ps→ds.length=ids.length:=by
   intro ids;induction ids with
   |nil=>intro vs ds ps h;obtain⟨rfl,rfl,rfl⟩:=trodAll_nil h;rfl
   |cons t ids ih=>intro vs ds ps h;obtain⟨v,bo,d,bk,p,q,rfl,rfl,rfl,h1,h2⟩:=trodAll_cons h;simp[ih h2]
  have l2:∀(ts:List TS) (ids:List TypeId),IP C.prog ts ids=true→ids.length=ts.length:=by
   intro ts;induction ts with
   |nil=>intro ids h;cases ids<;>simp_all [IP]
   |cons t ts ih=>intro ids h;cases ids<;>simp[IP]at h;simp[ih _ h.2]
  rw[l1 hA,l2 _ _ hp]
 refine((I W.heap args (λw hw=>hL.of_heap hw.symm) be).calls a9 W rfl).mono λe W' ⟨v,he,hs,hv,hx⟩=>?_
 subst he hv;have au:Below W.heap.size W W':=⟨hs.1,hs.2.1,hs.2.2,hx.1,λk hk=>hx.2 k hk⟩
 refine⟨_,rfl,ds,[],_,[],p,[],a8,?_,?_,?_,au.frame _,λh=>by cases h⟩
 ·rw[fN,G ds ab,ay];exact trodAll_mk1 (shut_bool bd _)
 ·rw[fN,G ds ab];exact Rw an au al hA
 ·rw[fN,G ds ab,F];rfl
theorem Lg {P:Program}{w:World}:∀{L:List (String×DataW Unit)} {F:List MemPlace},DataW.LaidVars P w L F→∀{n:String} {d:DataW Unit},(n,d)∈L→
  ∃g t cs fuel p,P.globalNamed n=some g∧(P.globals[g]?).map (·.type)=some t∧w.var? P n=some cs∧DataW.trod (λ_=>()) P w 0 (λ_=>true) false fuel t cs.toList=some (d,p)
 | [],_,_,n,d,hm=>absurd hm (by simp)
 |(n',d')::r,_,h,n,d,hm=>by
  obtain⟨g,t,cs,fuel,p,q,h1,H,I,A,G,_⟩:=h;rcases fC.1 hm with e|e
  ·cases e;exact⟨g,t,cs,fuel,p,h1,H,I,A⟩
  ·exact Lg G e
theorem Dx.at {P:Program}{L:List (String×DataW Unit)}{h:ah}(H:Dx P L h)(G:(L.all λx=>x.2.handleName?.isNone)=true){n:String}{d:DataW Unit}(F:(n,d)∈L)(w:World)(I:w.heap=h):
  ∃g t cs fuel p,P.globalNamed n=some g∧(P.globals[g]?).map (·.type)=some t∧w.var? P n=some cs∧DataW.trod (λ_=>()) P w 0 (λ_=>true) false fuel t cs.toList=some (d,p):=by
 have:=H w I;rw[MakeChecks.laidMetH_plain _ _ _ G]at this;obtain⟨U,A,_⟩:=this;exact Lg A F
def zeg (P:Program)(n:String)(g:Nat)(k:Program→TypeId→Bool):Bool:=
 decide (P.globalNamed n=some g)&&(match(P.globals[g]?).map (·.type)with|some t=>k P t|none=>false)
def YQ (k:IntKind)(P:Program)(t:TypeId):Bool:=match P.underlying t with|some (.int k')=>decide (k=k')&&P.cellsOf t==1|_=>false
def OE (P:Program)(t:TypeId):Bool:=match P.underlying t with|some .string=>P.cellsOf t==1|_=>false
def TR (e:Program→TypeId→Bool)(P:Program)(t:TypeId):Bool:=match P.underlying t with|some (.slice u)=>e P u|_=>false
def zbB (n:Nat)(e:Program→TypeId→Bool)(P:Program)(t:TypeId):Bool:=match P.underlying t with|some (.array n' u)=>n==n'&&P.cellsOf t==n*P.cellsOf u&&e P u|_=>false
def Xg (a b:Program→TypeId→Bool)(P:Program)(t:TypeId):Bool:=match P.underlying t with|some (.struct ⟨[x,y]⟩)=>x.offset==0&&y.offset==1&&a P x.type&&b P y.type&&P.cellsOf t==2|_=>false
theorem Dx.kind {P:Program}{L:List (String×DataW Unit)}{h:ah}(H:Dx P L h)(hn:(L.all λx=>x.2.handleName?.isNone)=true){n:String}{d:DataW Unit}(hm:(n,d)∈L)(w:World)(G:w.heap=h)
  {g:Nat} {k:Program→TypeId→Bool} (A:zeg P n g k=true):
  ∃t cs fuel p,P.globalNamed n=some g∧k P t=true∧w.var? P n=some cs∧(∀i,aH h ⟨g,i,none⟩=cs[i]?)∧DataW.trod (λ_=>()) P w 0 (λ_=>true) false fuel t cs.toList=some (d,p):=by
 obtain⟨W,t,cs,fuel,p,h1,h2,I,U⟩:=H.at hn hm w G;unfold zeg at A;rw[dj,dd]at A;obtain⟨k1,F⟩:=A;obtain rfl:W=g:=un (h1.symm.trans k1);rw[h2]at F;refine⟨t,cs,fuel,p,h1,F,I,λi=>?_,U⟩;subst G;exact World.var?_cell h1 I i
theorem Zw {k:IntKind}{P:Program}{w:World}{fuel:Nat}{t:TypeId}{cs:List Value}{z:Int}{p:List MemPlace}(A:YQ k P t=true)(h:DataW.trod (λ_=>()) P w 0 (λ_=>true) false fuel t cs=some (.lit (.int k z),p)):cs=[.int k z]∧P.cellsOf t=1:=by
 unfold YQ at A;split at A
 ·rename_i k' hu;rw[dj,dd]at A;obtain⟨rfl,hc⟩:=A;obtain⟨n,rfl,F,_⟩:=DataW.trod_int hu h;cases F;exact⟨rfl,by simpa using hc⟩
 ·cases A
theorem QN {P:Program}{w:World}{fuel:Nat}{t:TypeId}{cs:List Value}{z:List UInt8}{p:List MemPlace}(A:OE P t=true)(h:DataW.trod (λ_=>()) P w 0 (λ_=>true) false fuel t cs=some (.lit (.string z),p)):cs=[.string ⟨⟨z⟩⟩]∧P.cellsOf t=1:=by
 unfold OE at A;split at A
 ·rename_i hu;obtain⟨s,rfl,F,_⟩:=DataW.trod_string hu h;cases F;exact⟨rfl,by simpa using A⟩
 ·cases A
theorem FO {cs:List Value}{i:Nat}{v:Value}(h:(cs.drop i).take 1=[v]):cs[i]? =some v:=by
 have:=congrArg (λl=>l[0]?) h;simpa using this
theorem Zv {P:Program}{w:World}{h:ah}(hw:w.heap=h){fuel:Nat}{t:TypeId}{cs:List Value}{zs:List (List UInt8)}{p:List MemPlace}(hz:zs≠[])(G:TR OE P t=true)
  (H:DataW.trod (λ_=>()) P w 0 (λ_=>true) false fuel t cs=some (.slice (zs.map λz=>.lit (.string z)) [],p)):
  ∃b o cap,cs=[.slice (some ⟨b,o,none⟩) zs.length cap]∧∀i (hi:i<zs.length),aH h ⟨b,o+i,none⟩=some (.string ⟨⟨zs[i]⟩⟩):=by
 unfold TR at G;split at G
 ·rename_i u hu;have c1:P.cellsOf u=1:=by
   unfold OE at G;split at G
   ·simpa using G
   ·cases G
  rcases DataW.trod_slice hu H with⟨_,U⟩|⟨a,len,cap,A,rest,m,rfl,rfl,U,_,_,_,an,I,_⟩
  ·cases U
  ·have L:A.map (·.1)=zs.map λz=>DataW.lit (.string z):=by
    have:=congrArg (λx=>x.1) U;simp only[DataW.slice.injEq]at this;exact this.1.symm
   have hl:A.length=zs.length:=by simpa using congrArg List.length L
   have W:len=zs.length:=ae;subst W;have ha:∃b o,a=⟨b,o,none⟩:=by
    have h0:0<zs.length:=vw.2 hz;have:=I 0 h0;rw[iI ae]at this;cases hc:w.cells? 0 (a.add (0*P.cellsOf u)) (P.cellsOf u)with
    |none=>rw[hc]at this;cases this
    | some l=>
     obtain⟨b,o,s⟩:=a;cases s with
     |none=>exact⟨b,o,rfl⟩
     |some x=>
      exfalso;obtain⟨h3,F⟩:=GR hc;rw[c1]at h3;have F:=F 0 ae;unfold aH at F;split at F
      ·rw[aA (by unfold Addr.add;split<;>simp_all)]at F;cases F
      ·cases F
   obtain⟨b,o,rfl⟩:=ha;refine⟨b,o,cap,rfl,λi hi=>?_⟩;have h1:=I i hi;have ad:A[i]? =some (A[i]'ae):=iI ae;rw[ad,c1,lN]at h1;have F:(A[i]'ae).1=.lit (.string zs[i]):=by
    have:=congrArg (λl=>l[i]?) L;simpa[hi,hl]using this
   obtain⟨x,y,al⟩:∃x y,A[i]'ae=(x,y):=⟨_,_,rfl⟩
   rw[al]at h1 F;simp only at F;rw[F,TD]at h1;obtain⟨l,aa,ab⟩:=h1;have h3:=(QN G ab).1;subst h3;have h4:=(GR aa).2 0 (by simp);rw[JQ,JQ,hw]at h4;simpa using h4
 ·cases G
theorem Wt {k:IntKind}{P:Program}{w:World}{fuel:Nat}{t:TypeId}{cs:List Value}{zs:List (List UInt8×Int)}{p:List MemPlace}(L:zbB zs.length (Xg OE (YQ k)) P t=true)
  (h:DataW.trod (λ_=>()) P w 0 (λ_=>true) false fuel t cs=some (.agg (zs.map λz=>.agg [.lit (.string z.1),.lit (.int k z.2)]),p)):
  ∀i (hi:i<zs.length),cs[2*i]? =some (.string ⟨⟨zs[i].1⟩⟩)∧cs[2*i+1]? =some (.int k zs[i].2):=by
 unfold zbB at L;split at L
 ·rename_i n u hu;rw[dj,dj]at L;obtain⟨⟨hn,hc⟩,hi⟩:=L;obtain⟨U,m,rfl,he,hl,hx,W⟩:=DataW.trod_array hu h;have hn:zs.length=n:=by simpa using hn
  subst hn;unfold Xg at hi;split at hi
  ·rename_i f1 f2 hs;simp only[dj,Ee]at hi;obtain⟨⟨⟨⟨o1,o2⟩,t1⟩,t2⟩,c2⟩:=hi;have aa:U.map (·.1)=zs.map λz=>DataW.agg [.lit (.string z.1),.lit (.int k z.2)]:=by
    have:=congrArg (λx=>x.1) he;simpa using this.symm
   intro i I;have h1:=W i I;have al:U[i]? =some (U[i]'ae):=iI ae;rw[al,c2]at h1;have h2:(U[i]'ae).1=.agg [.lit (.string zs[i].1),.lit (.int k zs[i].2)]:=by
    have:=congrArg (λl=>l[i]?) aa;simpa[I,hx]using this
   obtain⟨a,b,ab⟩:∃a b,U[i]'ae=(a,b):=⟨_,_,rfl⟩
   rw[ab]at h1 h2;simp only at h2;rw[h2]at h1;obtain⟨ys,m',rfl,A,an,hy,F⟩:=DataW.trod_struct hs h1;have ad:ys.length=2:=hy
   match ys,ad,A,F with
   | [y1,y2],_,A,F=>
    have A:=congrArg (λx=>x.1) A;simp only[sq,List.map_nil,DataW.agg.injEq,List.cons.injEq,and_true]at A;have a1:=F 0 f1 rfl;have a2:=F 1 f2 rfl;rw[o1]at a1;rw[o2]at a2;obtain⟨a,b⟩:=y1;obtain⟨a',b'⟩:=y2;simp only at A;obtain⟨rfl,rfl⟩:=A;have H:=QN t1 a1;have G:=Zw t2 a2;rw[H.2]at H;rw[G.2]at G;have H:=FO H.1;have G:=FO G.1;rw[YD ae,List.getElem?_drop]at H G;refine⟨?_,?_⟩
    ·rw[fu];simpa using H
    ·rw[fu];simpa using G
  ·cases hi
 ·cases L
end Go.Crisp
namespace Go.Proofs.YtjljhnandbbldaaGreatDoor
open Go Go.Crisp
open _root_.Go.Proofs.Tryz
theorem zbF {L:List (String×DataW Unit)}{h:ah}(H:Dx prog L h)(hn:(L.all λx=>x.2.handleName?.isNone)=true)
  (m1:("smalto/border.names",Rows.laid_smalto_border_names)∈L) (m2:("smalto/raw.kinds",Rows.laid_smalto_raw_kinds)∈L):eW h:=by
 let w:World:=⟨h,λ_ _=>0,0,default,#[]⟩
 refine⟨?_,?_⟩
 ·obtain⟨t,cs,fuel,p,_,hk,_,hc,ht⟩:=H.kind hn m1 w rfl (g:=pY) (k:=TR OE) (by kernel_rfl);obtain⟨b,o,cap,he,hx⟩:=Zv (h:=h) rfl (zs:=[[99,108,97,109,112],[109,105,114,114,111,114],[119,114,97,112]]) (by simp) hk ht;have h0:=hc 0;obtain⟨l⟩:=cs;rw[show l=_ from he]at h0;refine⟨_,h0,by simp,some ⟨b,o,none⟩,cap,rfl,.inr ⟨b,o,rfl,λj hj=>?_⟩⟩;have:=hx j hj;rw[this]
  match j,hj with
  |0,_=>rfl
  |1,_=>rfl
  |2,_=>rfl
 ·obtain⟨t,cs,fuel,p,_,hk,_,hc,ht⟩:=H.kind hn m2 w rfl (g:=gj) (k:=zbB 3 (Xg OE (YQ .i64))) (by kernel_rfl);have:=Wt (zs:=[([98,111,120],0),([99,117,98,105,99],2),([108,97,110,99,122,111,115],3)]) hk ht;intro i hi;have h1:=this i hi;rw[hc,hc];rw[vB,vB]at h1;rw[h1.1,h1.2]
  match i,hi with
  |0,_=>exact⟨rfl,rfl⟩
  |1,_=>exact⟨rfl,rfl⟩
  |2,_=>exact⟨rfl,rfl⟩
end Go.Proofs.YtjljhnandbbldaaGreatDoor
namespace Go.Crisp
open Go
theorem kF (n:Int):I64 (IntKind.i64.wrap n):=by rw[jw];unfold I64;omega
theorem vR (a b:Int):IntKind.i64.wrap (IntKind.i64.wrap a+b)=IntKind.i64.wrap (a+b):=by rw[jw,jw,jw];omega
theorem q8 (a b:Int):IntKind.i64.wrap (a+IntKind.i64.wrap b)=IntKind.i64.wrap (a+b):=by rw[jw,jw,jw];omega
theorem zT (a b:Int):IntKind.i64.wrap (IntKind.i64.wrap a-b)=IntKind.i64.wrap (a-b):=by rw[jw,jw,jw];omega
theorem FS (a b:Int):IntKind.i64.wrap (a-IntKind.i64.wrap b)=IntKind.i64.wrap (a-b):=by rw[jw,jw,jw];omega
def oT (x n:Int):Int:=if n≤0 then x else if 64≤n then 0 else x/2^n.toNat+x/2^(n.toNat-1)%2
theorem zdk {x:Int}{k:Nat}(F:I64 x): -9223372036854775808≤x/2^k∧x/2^k≤9223372036854775807:=by
 obtain⟨G,H⟩:=F;have A:(0:Int)<2^k:=Jg ae;constructor
 ·rw[wN A];have: -9223372036854775808*(2:Int)^k≤ -9223372036854775808*1:=TC ae ae;omega
 ·apply Jf;rw[uk A];have:(9223372036854775807+1)*1≤(9223372036854775807+1)*(2:Int)^k:=sf ae ae;omega
theorem FW {x n:Int}(A:I64 x):I64 (oT x n):=by
 unfold oT;split
 ·exact A
 split
 ·unfold I64;omega
 ·have G:(2:Int)^n.toNat=2^(n.toNat-1)*2:=by
   obtain⟨j,H⟩:∃j,n.toNat=j+1:=⟨n.toNat-1,ae⟩
   rw[H,sb,Int.pow_succ]
  have F:(0:Int)<2^(n.toNat-1):=Jg ae;have I:x/2^n.toNat=x/2^(n.toNat-1)/2:=by rw[G,Int.ediv_ediv,aq ae,Int.sub_zero]
  have:=zdk (k:=n.toNat-1) A;unfold I64;rw[I];omega
def fY (r:Int):Nat→Int×Int
 |0=>(1099511627776,1099511627776)
 | i+1=>(IntKind.i64.wrap (if i%2=0 then(fY r i).1-cZ (fY r i).2 r (((i:Int)+1)*1099511627776)else(fY r i).1+cZ (fY r i).2 r (((i:Int)+1)*1099511627776)),
   cZ (fY r i).2 r (((i:Int)+1)*1099511627776))
def zah (t:Int):Int:=oT (fY (max 0 t%762123384786) 16).1 (max 0 t/762123384786)
def F9 (d sigma:Int):Int:=if sigma<1∨4194304<sigma∨d< -16384∨16384<d then 9223372036854775807 else cZ (d*d*2147483648) 1099511627776 (sigma*sigma)
def Dd (d sigma:Int):Int:=oT (zah (F9 d sigma)) 10
theorem gL (a b d:Int):I64 (cZ a b d):=by
 unfold cZ;split
 ·unfold I64;omega
 ·exact Rm _ _
theorem Dg (r:Int):∀i,I64 (fY r i).1∧I64 (fY r i).2
 |0=>⟨by unfold I64 fY;omega,by unfold I64 fY;omega⟩
 |i+1=>by simp only[fY];exact⟨kF _,gL _ _ _⟩
theorem OQ (t:Int):I64 (zah t):=FW (Dg _ _).1
theorem Nc (d s:Int):I64 (F9 d s):=by
 unfold F9;split
 ·unfold I64;omega
 ·exact gL _ _ _
theorem Xj (d s:Int):I64 (Dd d s):=FW (OQ _)
theorem QP {d B:Int}(h1: -B≤d)(A:d≤B):0≤d*d∧d*d≤B*B:=by
 refine⟨by rcases D8 0 d with h|h;exact nU h h;exact Int.mul_nonneg_of_nonpos_of_nonpos h h,?_⟩;rcases D8 0 d with h|h
 ·exact rB A A h ae
 ·have: -d* -d≤B*B:=rB ae ae ae ae
  rwa [Int.neg_mul_neg]at this
def LY (p q:Int):Prop:=1≤q∧q≤1048576∧ -4*q≤p∧p≤4*q
instance (p q:Int):Decidable (LY p q):=by unfold LY;infer_instance
def cF (u:Int):Nat→Int×Int
 |0=>(1099511627776,1099511627776)
 | i+1=>(IntKind.i64.wrap (if i%2=0 then(cF u i).1-cZ (cF u i).2 u (2*((i:Int)+1)*(2*((i:Int)+1)+1)*1099511627776)else(cF u i).1+cZ (cF u i).2 u (2*((i:Int)+1)*(2*((i:Int)+1)+1)*1099511627776)),
   cZ (cF u i).2 u (2*((i:Int)+1)*(2*((i:Int)+1)+1)*1099511627776))
def Ab (p q:Int):Int:=(cF (cZ (cZ 10851744800547 (max p (-p)) q) (max p (-p)) q) 30).1
theorem Aa (r:Int):∀i,I64 (cF r i).1∧I64 (cF r i).2
 |0=>⟨by unfold I64 cF;omega,by unfold I64 cF;omega⟩
 |i+1=>by simp only[cF];exact⟨kF _,gL _ _ _⟩
theorem xM (p q:Int):I64 (Ab p q):=(Aa _ _).1
def MN (m n:Nat)(below:Bool):Nat:=if n=0 then m else m/2^n+(if m/2^(n-1)%2=1∧¬(below=true∧m%2^(n-1)=0)then 1 else 0)
def rz (a b n:Int):Int:=if 128≤n then 0 else ko (MN (a.natAbs*b.natAbs) n.toNat (lC a b)) (lC a b)
theorem yC (a b n:Int):I64 (rz a b n):=by
 unfold rz;split
 ·unfold I64;omega
 ·exact Rm _ _
def wT (p q:Int):Int:=if¬LY p q∨3*q≤max p (-p)then 0 else oT (rz (Ab p q) (Ab p (3*q)) 40) 10
theorem TP (p q:Int):I64 (wT p q):=by
 unfold wT;split
 ·unfold I64;omega
 ·exact FW (yC _ _ _)
def gD (b w:Bool)(v:Value):Value:=bif b==w then v else undef
theorem gD_tt (v:Value):gD true true v=v:=cW rfl rfl
theorem gD_ff (v:Value):gD false false v=v:=cW rfl rfl
theorem gD_tf (v:Value):gD true false v=undef:=cW rfl rfl
theorem gD_ft (v:Value):gD false true v=undef:=cW rfl rfl
theorem gD_gD (b w:Bool)(v:Value):gD b w (gD b w v)=gD b w v:=by cases b<;>cases w<;>rfl
theorem gV_gD (b w:Bool)(v:Value):gV (.bool b) w (some v)=some (gD b w v):=by cases b<;>cases w<;>rfl
theorem gV_un (b w:Bool)(o:UnOp)(v:Value):gV (.bool b) w (unV o (gD b w v))=gV (.bool b) w (unV o v):=by cases b<;>cases w<;>rfl
theorem zdt (b w:Bool)(e:EK)(o:BinOp)(v u:Value):gV (.bool b) w (ak e o (gD b w v) u)=gV (.bool b) w (ak e o v u):=by cases b<;>cases w<;>rfl
theorem zds (b w:Bool)(e:EK)(o:BinOp)(v u:Value):gV (.bool b) w (ak e o u (gD b w v))=gV (.bool b) w (ak e o u v):=by cases b<;>cases w<;>rfl
theorem zeR (b w:Bool)(k:IntKind)(v:Value):gV (.bool b) w (gP k (gD b w v))=gV (.bool b) w (gP k v):=by cases b<;>cases w<;>rfl
theorem zeP (b w:Bool)(n:Nat)(v:Value):gV (.bool b) w (aB n (gD b w v))=gV (.bool b) w (aB n v):=by cases b<;>cases w<;>rfl
theorem gV_ld (b w:Bool)(h:ah)(v:Value):gV (.bool b) w (ldV h (gD b w v))=gV (.bool b) w (ldV h v):=by cases b<;>cases w<;>rfl
theorem zeO (b w:Bool)(n:Nat)(h:ah)(v:Value):gV (.bool b) w (aR n h (gD b w v))=gV (.bool b) w (aR n h v):=by cases b<;>cases w<;>rfl
theorem zdr (b w:Bool)(n:Nat)(v u:Value):gV (.bool b) w (bu n (gD b w v) u)=gV (.bool b) w (bu n v u):=by cases b<;>cases w<;>rfl
theorem zdq (b w:Bool)(n:Nat)(v u:Value):gV (.bool b) w (bu n u (gD b w v))=gV (.bool b) w (bu n u v):=by cases b<;>cases w<;>rfl
theorem zbM (b w:Bool)(v:Value):gV (.bool b) w (aC (gD b w v))=gV (.bool b) w (aC v):=by cases b<;>cases w<;>rfl
theorem zbL (b w:Bool)(v:Value):gV (.bool b) w (Ky (gD b w v))=gV (.bool b) w (Ky v):=by cases b<;>cases w<;>rfl
theorem zeQ (b w:Bool)(n:Nat)(v:Value):gV (.bool b) w (aP (gD b w v) n)=gV (.bool b) w (aP v n):=by cases b<;>cases w<;>rfl
theorem zeN (b w:Bool)(v:Value):gV (.bool b) w (aT (gD b w v))=gV (.bool b) w (aT v):=by cases b<;>cases w<;>rfl
theorem zdp (b w:Bool)(v u:Value):gV (.bool b) w (kw (gD b w v) u)=gV (.bool b) w (kw v u):=by cases b<;>cases w<;>rfl
theorem zdo (b w:Bool)(v u:Value):gV (.bool b) w (kw u (gD b w v))=gV (.bool b) w (kw u v):=by cases b<;>cases w<;>rfl
theorem zdn (b w:Bool)(v u:Value):gV (.bool b) w (tG (gD b w v) u)=gV (.bool b) w (tG v u):=by cases b<;>cases w<;>rfl
theorem zdm (b w:Bool)(v u:Value):gV (.bool b) w (tG u (gD b w v))=gV (.bool b) w (tG u v):=by cases b<;>cases w<;>rfl
theorem zdl (b w a:Bool)(n o:Nat)(v:Value):gV (.bool b) w (qV a n o (gD b w v))=gV (.bool b) w (qV a n o v):=by cases b<;>cases w<;>rfl
theorem zbI (b w:Bool)(v u x:Value):gV (.bool b) w (aF (gD b w v) u x)=gV (.bool b) w (aF v u x):=by cases b<;>cases w<;>rfl
theorem zbH (b w:Bool)(v u x:Value):gV (.bool b) w (aF v (gD b w u) x)=gV (.bool b) w (aF v u x):=by cases b<;>cases w<;>rfl
theorem zbG (b w:Bool)(v u x:Value):gV (.bool b) w (aF v u (gD b w x))=gV (.bool b) w (aF v u x):=by cases b<;>cases w<;>rfl
theorem zbi (b c:Bool):aF (.bool b) (gD b true (.bool c)) (.bool false)=some (.bool (b&&c)):=by cases b<;>rfl
theorem zc7 (b c:Bool):aF (.bool b) (.bool true) (gD b false (.bool c))=some (.bool (b||c)):=by cases b<;>rfl
theorem zbN (b w c A:Bool)(r:Option Value):gV (gD b w (.bool c)) A r=gV (.bool ((b==w)&&(c==A))) true r:=by cases b<;>cases w<;>cases c<;>cases A<;>rfl
theorem zbO (b w c A:Bool)(m:(Value→ah→Prop)→Prop)(h:ah)(K:Value→ah→Prop):gK (gD b w (.bool c)) A m h K=gK (.bool ((b==w)&&(c==A))) true m h K:=by cases b<;>cases w<;>cases c<;>cases A<;>rfl
theorem Vs (b c d:Bool):gV (.bool b) true (aF (.bool c) (gD (b&&c) true (.bool d)) (.bool false))=some (gD b true (.bool (c&&d))):=by cases b<;>cases c<;>rfl
theorem Vt (b c d:Bool):gV (.bool b) false (aF (.bool c) (gD (!b&&c) true (.bool d)) (.bool false))=some (gD b false (.bool (c&&d))):=by cases b<;>cases c<;>rfl
theorem YV (b c d:Bool):gV (.bool b) true (aF (.bool c) (.bool true) (gD (b&& !c) true (.bool d)))=some (gD b true (.bool (c||d))):=by cases b<;>cases c<;>rfl
theorem YW (b c d:Bool):gV (.bool b) false (aF (.bool c) (.bool true) (gD (!b&& !c) true (.bool d)))=some (gD b false (.bool (c||d))):=by cases b<;>cases c<;>rfl
theorem zad (p q:Prop)[Decidable p][Decidable q](d:Bool):gV (.bool (decide p)) true (aF (.bool (decide q)) (gD (decide (p∧q)) true (.bool d)) (.bool false))=some (gD (decide p) true (.bool (decide q&&d))):=by rw[Je];exact Vs _ _ _
theorem zae (p q:Prop)[Decidable p][Decidable q](d:Bool):gV (.bool (decide p)) false (aF (.bool (decide q)) (gD (decide (¬p∧q)) true (.bool d)) (.bool false))=some (gD (decide p) false (.bool (decide q&&d))):=by rw[Je,Jd];exact Vt _ _ _
theorem zbJ (p q:Prop)[Decidable p][Decidable q](d:Bool):gV (.bool (decide p)) true (aF (.bool (decide q)) (.bool true) (gD (decide (p∧¬q)) true (.bool d)))=some (gD (decide p) true (.bool (decide q||d))):=by rw[Je,Jd];exact YV _ _ _
theorem zbK (p q:Prop)[Decidable p][Decidable q](d:Bool):gV (.bool (decide p)) false (aF (.bool (decide q)) (.bool true) (gD (decide (¬p∧¬q)) true (.bool d)))=some (gD (decide p) false (.bool (decide q||d))):=by rw[Je,Jd,Jd];exact YW _ _ _
theorem beq_t (b:Bool):(b==true)=b:=by cases b<;>rfl
theorem beq_f (b:Bool):(b==false)= !b:=by cases b<;>rfl
theorem zdA (p q:Prop)[Decidable p][Decidable q]:(decide p&&decide q)=decide (p∧q):=(Je p q).symm
theorem ze1 (p q:Prop)[Decidable p][Decidable q]:(decide p||decide q)=decide (p∨q):=(Bool.decide_or p q).symm
theorem Y2 (p:Prop)[Decidable p]:(!decide p)=decide (¬p):=Jd.symm
theorem ze0 (p:Prop)[Decidable p]:decide (True∧p)=decide p:=by by_cases h:p<;>simp[h]
theorem ze3 (p:Prop)[Decidable p]:decide (p∧True)=decide p:=by by_cases h:p<;>simp[h]
theorem ze2 (p:Prop)[Decidable p]:decide (False∧p)=false:=by simp
theorem ze4 (p:Prop)[Decidable p]:decide (p∧False)=false:=by simp
theorem gK_f {b:Bool}{m:(Value→ah→Prop)→Prop}{h:ah}{K:Value→ah→Prop}(h1:b=false→m K)(A:b=true→K undef h):gK (.bool b) false m h K:=by
 cases b
 ·exact h1 rfl
 ·exact A rfl
theorem me {init:List Value}{h:ah}{body:List Value→Env→ah→(List Value→ah→Prop)→Prop}(st:Nat→List Value)(N A:Nat)(hi:init=st A)(h0:A≤N)
  (step:∀i again ρj,A≤i→i≤N→(i<N→again (st (i+1)) h)→body (st i) ρj h again):bA init h body:=by
 refine c5 (λd F h'=>∃i,d=N-i∧A≤i∧i≤N∧F=st i∧h'=h) (N-A) ⟨A,rfl,cf _,h0,hi,rfl⟩ ?_;rintro d F ρj h' again ⟨i,rfl,h1,I,rfl,rfl⟩ H;exact step i again ρj h1 I λG=>H _ _ (N-(i+1)) ae ⟨i+1,rfl,ae,G,rfl,rfl⟩
theorem bK {α:Type}{init:List Value}{h:ah}{body:List Value→Env→ah→(List Value→ah→Prop)→Prop}(N A:Nat)(st:Nat→α→List Value)(I:Nat→α→ah→Prop)(a0:α)(hi:init=st A a0)(h0:A≤N)(W:I A a0 h)
  (step:∀i a h again ρj,A≤i→i≤N→I i a h→(∀F h',i<N→I (i+1) F h'→again (st (i+1) F) h')→body (st i a) ρj h again):bA init h body:=by
 refine c5 (λd L h'=>∃i a,d=N-i∧A≤i∧i≤N∧L=st i a∧I i a h') (N-A) ⟨A,a0,rfl,cf _,h0,hi,W⟩ ?_;rintro d L ρj h' again ⟨i,a,rfl,h1,h2,rfl,hi⟩ H;exact step i a h' again ρj h1 h2 hi λF h' U G=>H _ _ (N-(i+1)) ae ⟨i+1,F,rfl,ae,U,rfl,G⟩
attribute [go_sem] gD_gD gD_tt gD_ff gD_tf gD_ft gV_gD gV_un zdt zds zeR zeP gV_ld zeO zdr zdq zbM zbL zeQ zeN zdp zdo zdn zdm zdl zbI zbH zbG true_or or_true false_or or_false ze0 ze3 ze2 ze4 zbi zc7 zbN zbO Vs Vt YV YW zad zae zbJ zbK beq_t beq_f zdA ze1 Y2
attribute [irreducible] gD
end Go.Crisp
namespace Go.Proofs.YtjljhnandbbldaaGreatDoor
open Go Go.Crisp
attribute [local irreducible] ag du bh stK aE vK qK bO gK fR bA mkK dy GQ IQ DT bsK
open _root_.Go.Proofs.Tryz
theorem oK {h:ah}{x:Int}(A:I64 x):ag prog ju #[af x] h λr h'=>r=.int .u64 (x.natAbs:Int)∧h'=h:=by
 apply Qv;unfold Fz;simp only[go_sem];refine ao (λh0=>?_) (λh0=>?_)
 ·rw[UB A h0];exact⟨rfl,trivial⟩
 ·rw[UA A h0];exact⟨rfl,trivial⟩
theorem tS {h:ah}{m:Nat}{b:Bool}(A:m<18446744073709551616):ag prog mq #[.int .u64 (m:Int),.bool b] h λr h'=>r=af (ko m b)∧h'=h:=by
 apply Qw;unfold FA;unfold ko;cases b
 ·simp only[go_sem,gO,cH];refine ao (λh0=>?_) (λh0=>?_)
  ·rw[aA ae];exact⟨rfl,trivial⟩
  ·rw[aq ae,w64 ae ae];exact⟨rfl,trivial⟩
 ·simp only[go_sem,cN];refine ao (λh0=>?_) (λh0=>?_)
  ·rw[aA ae];exact⟨rfl,trivial⟩
  ·rw[aq ae,w64 (n:=(m:Int)) ae ae,w64 ae ae];exact⟨by congr 1;omega,trivial⟩
theorem L4 {a b:Nat}(F:0<b)(A:a<18446744073709551616):ak .i .quo (.int .u64 (a:Int)) (.int .u64 (b:Int))=some (.int .u64 ((a/b:Nat):Int)):=by
 have e:(a:Int).tdiv (b:Int)=((a/b:Nat):Int):=(Int.ofNat_tdiv a b).symm;rw[mU _ _ _ _ ae,e,gF (um (jX _ _) A)]
theorem Yc {a b:Nat}(A:0<b):ak .i .rem (.int .u64 (a:Int)) (.int .u64 (b:Int))=some (.int .u64 ((a%b:Nat):Int)):=by
 have e:(a:Int).tmod (b:Int)=((a%b:Nat):Int):=(Int.ofNat_tmod a b).symm;rw[em _ _ _ _ ae,e]
theorem jV {x:Int}(h:I64 x):x.natAbs<18446744073709551616:=by unfold I64 at h;omega
theorem ry {x:Int}(h:I64 x):x.natAbs≤9223372036854775808:=by unfold I64 at h;omega
theorem MB {h:ah}{a b:Int}(G:I64 a)(H:I64 b):ag prog kP #[af a,af b] h λr h'=>r=af (KC a b)∧h'=h:=by
 apply NX;unfold Ct;simp only[go_sem];unfold KC;refine ao (λh0=>?_) (λh0=>?_)
 ·rw[aA h0];exact⟨rfl,trivial⟩
 rw[aq h0];refine aS (λh'=>h'=h) rfl ?_;refine(oK G).mono λv1 h1 ⟨W,w1⟩=>?_
 subst W w1
 try refine⟨rfl,?_⟩
 refine(oK H).mono λv2 h2 ⟨e2,w2⟩=>?_
 subst e2 w2
 try refine⟨rfl,?_⟩
 have F:0<b.natAbs:=ae;have aa:=ry G;rw[L4 F (jV G),aj];refine(oK G).mono λv3 h3 ⟨e3,w3⟩=>?_
 subst e3 w3
 try refine⟨rfl,?_⟩
 refine(oK H).mono λv4 h4 ⟨L,U⟩=>?_
 subst L U
 try refine⟨rfl,?_⟩
 rw[Yc F,aj];simp only[go_sem];have hq:a.natAbs/b.natAbs≤a.natAbs:=jX _ _;by_cases hd:lC a b=true
 ·have A:(!(decide (a<0)==decide (b<0)))=true:=hd;rw[A];simp only[go_sem];by_cases I:a.natAbs%b.natAbs=0
  ·have q:(((a.natAbs%b.natAbs:Nat):Int)=0)=True:=jW ae;simp only[go_sem,q];rw[hd];unfold GM;rw[aq (by simp[I])];exact tS ae
  ·have q:(((a.natAbs%b.natAbs:Nat):Int)=0)=False:=gm ae;simp only[go_sem,q];rw[hd,show((a.natAbs/b.natAbs:Nat):Int)+1=((a.natAbs/b.natAbs+1:Nat):Int)from rfl,gF (m:=a.natAbs/b.natAbs+1) ae];unfold GM;rw[aA ⟨rfl,I⟩];exact tS (m:=a.natAbs/b.natAbs+1) ae
 ·have hd:lC a b=false:=by simpa using hd
  have A:(!(decide (a<0)==decide (b<0)))=false:=hd;rw[A];simp only[go_sem];rw[hd];unfold GM;rw[aq (by simp)];exact tS ae
theorem zea (a:Int):ak .i .and (af a) aG=some (af (a%2)):=by
 have e:(BitVec.ofInt 64 a&&& BitVec.ofInt 64 1).toNat=(a%2).toNat:=by
  rw[BitVec.toNat_and,TB,TB];have h1:(1%((2^64:Nat):Int)).toNat=1:=by decide
  rw[h1,Jn];omega
 show some (af (IntKind.i64.wrap (((BitVec.ofInt 64 a&&& BitVec.ofInt 64 1).toNat:Nat):Int)))=_;rw[e,w64 ae ae]
 congr 2;omega
theorem X7 (x:Int)(n:Nat)(A:n≤64):ak .i .shr (af x) (af (n:Int))=some (af (x/2^n)):=by
 show(if(n:Int)<0 then none else some (af (x.fdiv (2^(min (n:Int).toNat 64)))))=_;rw[aq ae,dW,vx A,TA _ (Int.le_of_lt (Jg ae))]
theorem MA {h:ah}{x n:Int}(G:I64 x)(H:I64 n):ag prog kO #[af x,af n] h λr h'=>r=af (oT x n)∧h'=h:=by
 apply NW;unfold Cs;simp only[go_sem];unfold oT;refine ao (λh0=>?_) (λh0=>?_)
 ·rw[aA h0];exact⟨rfl,trivial⟩
 rw[aq h0];refine ao (λh1=>?_) (λh1=>?_)
 ·rw[aA h1];exact⟨rfl,trivial⟩
 rw[aq h1];obtain⟨k,rfl⟩:∃k:Nat,n=(k:Int):=⟨n.toNat,ae⟩
 rw[w64 (n:=(k:Int)-1) ae ae,show(k:Int)-1=((k-1:Nat):Int)by omega,X7 x k ae,aj,X7 x (k-1) ae,aj,zea,aj];simp only[go_sem,dW];refine⟨?_,trivial⟩
 congr 1
 have F:(2:Int)^k=2*2^(k-1):=by
  obtain⟨j,rfl⟩:∃j,k=j+1:=⟨k-1,ae⟩
  rw[sb,Int.pow_succ,fM]
 have A:(0:Int)<2^(k-1):=Jg ae;have W:x/2^k=x/2^(k-1)/2:=by rw[F,fM,Int.ediv_ediv,aq ae,Int.sub_zero]
 obtain⟨L,U⟩:=G;have I: -9223372036854775808≤x/2^(k-1)∧x/2^(k-1)≤9223372036854775807:=by
  constructor
  ·rw[wN A];have: -9223372036854775808*(2:Int)^(k-1)≤ -9223372036854775808*1:=TC ae ae;omega
  ·apply Jf;rw[uk A];have:(9223372036854775807+1)*1≤(9223372036854775807+1)*(2:Int)^(k-1):=sf ae ae;omega
 rw[w64 ae ae]
end Go.Proofs.YtjljhnandbbldaaGreatDoor
namespace Go.Proofs.YtjljhnandbbldaaGreatDoor
open Go Go.Crisp
open _root_.Go.Proofs.Tryz
def PM:Go.Shelf.Ren:=⟨λn=>match n with|264=>287|n=>n,λn=>match n with|46=>260|53=>303|n=>n,λn=>n⟩
theorem Z6:Go.Proofs.Lays.n264 prog PM where
 mixed:=by kernel_rfl
 f264:=by kernel_rfl
 t46:=by kernel_rfl
 a46:=λw=>aZ (by kernel_rfl)
 z46:=λw=>aM (by kernel_rfl)
 v46:=λw=>aI (by kernel_rfl)
 t53:=by kernel_rfl
 a53:=λw=>aZ (by kernel_rfl)
 z53:=λw=>aM (by kernel_rfl)
 v53:=λw=>aI (by kernel_rfl)
def PN:Go.Shelf.Ren:=⟨λn=>match n with|129=>199|n=>n,λn=>match n with|3=>3|4=>4|5=>5|9=>9|46=>260|53=>303|n=>n,λn=>n⟩
theorem Z7:Go.Proofs.Lays.n129 prog PN where
 mixed:=by kernel_rfl
 f129:=by kernel_rfl
 t3:=by kernel_rfl
 a3:=λw=>aZ (by kernel_rfl)
 z3:=λw=>aM (by kernel_rfl)
 v3:=λw=>aI (by kernel_rfl)
 t4:=by kernel_rfl
 a4:=λw=>aZ (by kernel_rfl)
 z4:=λw=>aM (by kernel_rfl)
 v4:=λw=>aI (by kernel_rfl)
 t5:=by kernel_rfl
 a5:=λw=>aZ (by kernel_rfl)
 z5:=λw=>aM (by kernel_rfl)
 v5:=λw=>aI (by kernel_rfl)
 t9:=by kernel_rfl
 a9:=λw=>aZ (by kernel_rfl)
 z9:=λw=>aM (by kernel_rfl)
 v9:=λw=>aI (by kernel_rfl)
 t46:=by kernel_rfl
 a46:=λw=>aZ (by kernel_rfl)
 z46:=λw=>aM (by kernel_rfl)
 v46:=λw=>aI (by kernel_rfl)
 t53:=by kernel_rfl
 a53:=λw=>aZ (by kernel_rfl)
 z53:=λw=>aM (by kernel_rfl)
 v53:=λw=>aI (by kernel_rfl)
def PO:Go.Shelf.Ren:=⟨λn=>match n with|25=>256|n=>n,λn=>match n with|22=>303|n=>n,λn=>n⟩
theorem Z8:Go.Proofs.Lays7.n25 prog PO where
 mixed:=by kernel_rfl
 f25:=by kernel_rfl
 t22:=by kernel_rfl
 a22:=λw=>aZ (by kernel_rfl)
 z22:=λw=>aM (by kernel_rfl)
 v22:=λw=>aI (by kernel_rfl)
 i22:=by kernel_rfl
end Go.Proofs.YtjljhnandbbldaaGreatDoor
namespace Go.Proofs.YtjljhnandbbldaaGreatDoor
open Go Go.Crisp
attribute [local irreducible] ag du bh stK aE vK qK bO gK fR bA mkK dy GQ IQ DT bsK
open _root_.Go.Proofs.Tryz
theorem GS {h:ah}{x:Int}(A:I64 x):ag prog tT #[af x] h λr h'=>r=.int .u64 (x.natAbs:Int)∧h'=h:=by
 apply Sj;unfold Hn;simp only[go_sem];refine ao (λh0=>?_) (λh0=>?_)
 ·rw[UB A h0];exact⟨rfl,trivial⟩
 ·rw[UA A h0];exact⟨rfl,trivial⟩
section
attribute [local semireducible] ag
theorem Uc {h:ah}{x y:Nat}(G:x<18446744073709551616)(A:y<18446744073709551616):
  ag prog lH #[.int .u64 (x:Int),.int .u64 (y:Int)] h λr h'=>r=.tuple #[.int .u64 ((x*y/18446744073709551616:Nat):Int),.int .u64 ((x*y%18446744073709551616:Nat):Int)]∧h'=h:=by
 refine ag.ofCalls (by kernel_rfl) λw F=>?_
 refine(Any.bits_Mul64 Z6 x y G A w).mono ?_;rintro e w' ⟨rfl,rfl⟩;exact⟨_,rfl,dO.refl _,rfl,F⟩
end
theorem RE {h:ah}{a b:Int}(A:I64 a)(F:I64 b):ag prog qa #[af a,af b] h λr h'=>
  r=.tuple #[.int .u64 ((a.natAbs*b.natAbs/18446744073709551616:Nat):Int),.int .u64 ((a.natAbs*b.natAbs%18446744073709551616:Nat):Int),.bool (lC a b)]∧h'=h:=by
 apply LD;unfold Ba;refine(GS A).mono λv1 h1 ⟨G,w1⟩=>?_
 subst G w1;refine(GS F).mono λv2 h2 ⟨I,L⟩=>?_
 subst I;refine(Uc (jV A) (jV F)).mono λW h3 ⟨U,H⟩=>?_
 subst U;simp only[go_sem];exact⟨rfl,H.trans L⟩
section
attribute [local semireducible] ag
theorem Zg {h:ah}{x y c:Nat}(hc:c≤1):ag prog gX #[.int .u64 (x:Int),.int .u64 (y:Int),.int .u64 (c:Int)] h λr h'=>
  r=.tuple #[.int .u64 (((x+y+c)%18446744073709551616:Nat):Int),.int .u64 (((x+y+c)/18446744073709551616:Nat):Int)]∧h'=h:=
 ag.ofRun λw A=>⟨_,w,Any7.bits_Add64 Z8 x y c hc w,dO.refl _,rfl,A⟩
theorem zd2 {h:ah}{x:Nat}(F:x<18446744073709551616):ag prog yp #[.int .u64 (x:Int)] h λr h'=>r=af (Lib.bitLen x:Int)∧h'=h:=by
 refine ag.ofCalls (by kernel_rfl) λw A=>?_
 refine(Any.bits_Len64 Z7 (x:Int) w ae ae).mono ?_;rintro e w' ⟨rfl,rfl⟩;exact⟨_,rfl,dO.refl _,rfl,A⟩
end
theorem KK {h:ah}{x:Nat}(A:x<18446744073709551616):ag prog iR #[.int .u64 (x:Int)] h λr h'=>r=af (64-(Lib.bitLen x:Int))∧h'=h:=by
 apply vg;unfold kZ;refine(zd2 A).mono λv h1 ⟨F,w1⟩=>?_
 subst F;have:=Lib.bitLen_le x 64 (cf _) A;have this:Lib.bitLen x≤64:=this;simp only[go_sem];rw[w64 ae ae];exact⟨rfl,w1⟩
theorem Dn {h:ah}{m:Nat}{b:Bool}(A:m<340282366920938463463374607431768211456):
  ag prog fb #[.int .u64 ((m/18446744073709551616:Nat):Int),.int .u64 ((m%18446744073709551616:Nat):Int),.bool b] h λr h'=>r=af (ko m b)∧h'=h:=by
 apply Nl;unfold BN;unfold ko;cases b
 ·simp only[go_sem,gO,cH];refine ao (λh0=>?_) (λh0=>?_)
  ·rw[aA ae];exact⟨rfl,trivial⟩
  ·rw[aq ae,w64 ae ae];exact⟨by congr 1;omega,trivial⟩
 ·simp only[go_sem,cN];refine ao (λh0=>?_) (λh0=>?_)
  ·rw[aA ae];exact⟨rfl,trivial⟩
  ·have e:IntKind.i64.wrap (IntKind.u64.wrap (0-((m%18446744073709551616:Nat):Int)))= -((m%18446744073709551616:Nat):Int):=by
    rw[fJ,jw];omega
   rw[e];refine⟨?_,trivial⟩
   congr 1
   split<;>omega
end Go.Proofs.YtjljhnandbbldaaGreatDoor
namespace Go.Crisp
open Go
section
structure PF (u d Y yn1 yn0 q r:Nat):Prop where
 eq:q*yn1+r=u
 up:(u*4294967296+d)/Y≤q
section
variable {u d Y yn1 yn0 q r:Nat}(hY:Y=yn1*4294967296+yn0)(h0:yn0<4294967296)(h1:2147483648≤yn1)(h1':yn1<4294967296)(hu:u<Y)(hd:d<4294967296)
theorem Rn (hY:Y=yn1*4294967296+yn0)(g:PF u d Y yn1 yn0 q r):q*Y+r*4294967296=u*4294967296+q*yn0:=by
 have:=g.eq;rw[hY,Jj,←vv,←this,eO];omega
theorem OX (hu:u<Y)(hd:d<4294967296):(u*4294967296+d)/Y<4294967296:=by
 rw[wQ ae];have:(u+1)*4294967296≤Y*4294967296:=ja _ hu;rw[eO]at this;rw[fu 4294967296 Y];omega
theorem Vr (hY:Y=yn1*4294967296+yn0)(h1:2147483648≤yn1)(hu:u<Y)(hd:d<4294967296):PF u d Y yn1 yn0 (u/yn1) (u-u/yn1*yn1):=by
 have A:u/yn1*yn1≤u:=Jc u yn1;refine⟨ae,?_⟩;rw[Mj ae];have hq:(u*4294967296+d)/Y*Y≤u*4294967296+d:=Jc _ _;generalize(u*4294967296+d)/Y=Q at hq;rw[hY,Jj,←vv]at hq;generalize Q*yn1=a at hq ⊢;omega
theorem GG (hY:Y=yn1*4294967296+yn0)(h1:2147483648≤yn1)(hu:u<Y)(hd:d<4294967296)(g:PF u d Y yn1 yn0 q r)(h:4294967296≤q∨4294967296*r+d<q*yn0):1≤q∧PF u d Y yn1 yn0 (q-1) (r+yn1):=by
 have A:=OX hu hd;have G:(u*4294967296+d)/Y<q:=by
  rcases h with h|h
  ·exact ce A h
  ·rw[wQ ae];have:=Rn hY g
   clear hY A
   generalize q*Y=a at this ⊢;omega
 have F:1≤q:=um (b9 _) G;refine⟨F,⟨?_,Nat.le_sub_one_of_lt G⟩⟩;have:=g.eq;obtain⟨k,rfl⟩:∃k,q=k+1:=⟨q-1,ae⟩
 rw[eO]at this;rw[sb];omega
theorem OJ (hY:Y=yn1*4294967296+yn0)(h1:2147483648≤yn1)(g:PF u d Y yn1 yn0 q r)(h:q*yn0≤4294967296*r+d):q=(u*4294967296+d)/Y:=by
 have:=Rn hY g;have A:=g.up;have:q≤(u*4294967296+d)/Y:=by
  rw[Mj ae]
  clear hY A
  generalize q*Y=a at this ⊢;omega
 exact Nat.le_antisymm this A
theorem Xi (hY:Y=yn1*4294967296+yn0)(h0:yn0<4294967296)(h1:2147483648≤yn1)(hu:u<Y)(g:PF u d Y yn1 yn0 q r)(h:4294967296≤r):q=(u*4294967296+d)/Y:=by
 refine OJ hY h1 g ?_;have e:=g.eq;have hq:q<4294967296:=by
  rcases pK q 4294967296 with A|A
  ·exact A
  ·have:4294967296*yn1≤q*yn1:=ja _ A;omega
 have:q*yn0≤q*4294967296:=YC _ ae;omega
theorem zbC (h1:2147483648≤yn1)(hY:Y=yn1*4294967296+yn0)(h0:yn0<4294967296)(hu:u<Y):u/yn1<4294967298:=by
 rw[wQ ae];omega
end
theorem Xt {M Y d0 q r:Nat}(hY:0<Y)(hq:M/Y=q)(A:M%Y=r):
  (M*4294967296+d0)/Y=q*4294967296+(r*4294967296+d0)/Y∧(M*4294967296+d0)%Y=(r*4294967296+d0)%Y:=by
 have h:=nV M Y;rw[hq,A]at h;have e:M*4294967296+d0=(r*4294967296+d0)+Y*(q*4294967296):=by
  rw[←h,eO,vv,vz,Ec]
 rw[e];exact⟨by rw[Ji _ _ hY,Ec],by rw[Mk]⟩
end
end Go.Crisp
namespace Go.Proofs.YtjljhnandbbldaaGreatDoor
open Go Go.Crisp
attribute [local irreducible] ag du bh stK aE vK qK bO gK fR bA mkK dy GQ IQ DT bsK
open _root_.Go.Proofs.Tryz
theorem nr {a n:Nat}(k':IntKind)(A:n≤64):ak .i .shr (.int .u64 (a:Int)) (.int k' (n:Int))=some (.int .u64 ((a/2^n:Nat):Int)):=by
 show(if(n:Int)<0 then none else some (Value.int .u64 ((a:Int).fdiv (2^(min (n:Int).toNat 64)))))=_;rw[aq ae,dW,vx A,TA _ (Int.le_of_lt (Jg ae))];simp
theorem xt {a n:Nat}(k':IntKind)(A:n≤64):ak .i .shl (.int .u64 (a:Int)) (.int k' (n:Int))=some (.int .u64 ((a*2^n%18446744073709551616:Nat):Int)):=by
 show(if(n:Int)<0 then none else some (Value.int .u64 (IntKind.u64.wrap ((a:Int)*(2^(min (n:Int).toNat 64))))))=_;rw[aq ae,dW,vx A,fJ];simp
theorem ni (a:Nat)(h:a<18446744073709551616):(BitVec.ofInt 64 (a:Int)).toNat=a:=by
 rw[TB];simp only[Nat.reducePow];omega
theorem zbl {a b:Nat}(A:a<18446744073709551616)(F:b<18446744073709551616):ak .i .or (.int .u64 (a:Int)) (.int .u64 (b:Int))=some (.int .u64 ((a|||b:Nat):Int)):=by
 show some (Value.int .u64 (IntKind.u64.wrap (((BitVec.ofInt 64 (a:Int)|||BitVec.ofInt 64 (b:Int)).toNat:Nat):Int)))=_;rw[BitVec.toNat_or,ni a A,ni b F,gF];exact Nat.or_lt_two_pow (n:=64) A F
theorem Ug {a b:Nat}(A:a<18446744073709551616)(F:b<18446744073709551616):ak .i .and (.int .u64 (a:Int)) (.int .u64 (b:Int))=some (.int .u64 ((a&&& b:Nat):Int)):=by
 show some (Value.int .u64 (IntKind.u64.wrap (((BitVec.ofInt 64 (a:Int)&&& BitVec.ofInt 64 (b:Int)).toNat:Nat):Int)))=_;rw[BitVec.toNat_and,ni a A,ni b F,gF];exact um Nat.and_le_left A
theorem PD {a:Nat}(A:a<18446744073709551616):ak .i .and (.int .u64 (a:Int)) (.int .u64 4294967295)=some (.int .u64 ((a%4294967296:Nat):Int)):=by
 rw[show(4294967295:Int)=((4294967295:Nat):Int)from rfl,Ug A ae];have:=Nat.and_two_pow_sub_one_eq_mod a 32;simp only[Nat.reducePow,Nat.reduceSub]at this;rw[this]
theorem Wc {a:Nat}(A:a<18446744073709551616):ak .i .and (.int .u64 (a:Int)) (.int .u64 1)=some (.int .u64 ((a%2:Nat):Int)):=by
 rw[show(1:Int)=((1:Nat):Int)from rfl,Ug A ae,Jn]
theorem UX {a b s:Nat}(A:b<2^s):a*2^s|||b=a*2^s+b:=by
 rw[fu,Nat.two_pow_add_eq_or_of_lt A]
theorem cvu {n:Nat}(k:IntKind)(h:n<18446744073709551616):gP .u64 (.int k (n:Int))=some (.int .u64 (n:Int)):=by
 rw[Dj,gF h]
theorem Vp {H a b c u:Nat}(h:H=a*18446744073709551616+u)(hu:u=b*4294967296+c):H=(a*4294967296+b)*4294967296+c:=by
 rw[h,hu,eO,vv];simp only[Nat.reduceMul,vz]
theorem OI {u d Y yn1 yn0:Nat}{h:ah}(hY:Y=yn1*4294967296+yn0)(h0:yn0<4294967296)(h1:2147483648≤yn1)(h1':yn1<4294967296)(hu:u<Y)(hd:d<4294967296)
  {init:List Value} {body:List Value→Env→ah→(List Value→ah→Prop)→Prop} (P:Nat→Nat→List Value) (hi:init=P (u/yn1) (u-u/yn1*yn1))
  (step:∀q r again ρj,q<4294967298→r<4294967296→(∀L F,L=q-1→F=r+yn1→1≤q→(4294967296≤q∨4294967296*r+d<q*yn0)→F<4294967296→again (P L F) h)→
   ((4294967296≤q∨4294967296*r+d<q*yn0)→1≤q→4294967296≤r+yn1→q-1=(u*4294967296+d)/Y)→(¬(4294967296≤q∨4294967296*r+d<q*yn0)→q=(u*4294967296+d)/Y)→((4294967296≤q∨4294967296*r+d<q*yn0)→1≤q)→
   body (P q r) ρj h again):bA init h body:=by
 have W:=zbC h1 hY h0 hu;refine c5 (λm xs h'=>h'=h∧∃q r,m=q∧xs=P q r∧PF u d Y yn1 yn0 q r∧q<4294967298∧r<4294967296) (u/yn1) ⟨rfl,u/yn1,u-u/yn1*yn1,rfl,hi,Vr hY h1 hu hd,W,?_⟩ ?_
 ·have:=nV u yn1;have h2:=iy u (show yn1>0 by omega);rw[fu]at this;omega
 ·rintro m xs ρj h' again ⟨hh,q,r,U,rfl,g,hq,hr⟩ H;have U:=U.symm;subst hh U;refine step q r again ρj hq hr (λL F G aa I hc A=>?_) (λhc I A=>?_) (λhc=>?_) λhc=>(GG hY h1 hu hd g hc).1
  ·subst G aa;refine H _ _ (q-1) ae ⟨rfl,q-1,r+yn1,rfl,rfl,(GG hY h1 hu hd g hc).2,ae,A⟩
  ·exact Xi hY h0 h1 hu (GG hY h1 hu hd g hc).2 A
  ·exact OJ hY h1 g ae
theorem zd5 {h:ah}{hi lo y:Nat}(cr:hi<y)(b8:lo<18446744073709551616)(hy:y<18446744073709551616):
  ag prog qB #[.int .u64 (hi:Int),.int .u64 (lo:Int),.int .u64 (y:Int)] h λr h'=>
   r=.tuple #[.int .u64 (((hi*18446744073709551616+lo)/y:Nat):Int),.int .u64 (((hi*18446744073709551616+lo)%y:Nat):Int)]∧h'=h:=by
 apply Gu;unfold wA;have q1:((y:Int)=0)=False:=gm ae;have q2:((y:Int)≤(hi:Int))=False:=gm ae;simp only[go_sem,q1,q2];refine bF (λxs h'=>h'=h) rfl λxs ρj h' e=>?_
 subst e;refine bF (λxs ca=>ca=h') rfl λxs ρj ca e=>?_
 subst e;refine ao (λh0=>?_) (λh0=>?_)
 ·have h0:hi=0:=ae;subst h0;rw[L4 ae b8,aj,Yc ae,aj];exact⟨by simp,rfl⟩
 refine(KK hy).mono λv1 h1 ⟨e1,w1⟩=>?_
 subst e1 w1;obtain⟨b0,b1,b2⟩:=Lib.bitLenAux_bounds 64 y hy ae;have b3:=Lib.bitLen_le y 64 (cf _) hy;have eb:Lib.bitLen y=Lib.bitLenAux 64 y:=rfl;rw[←eb]at b0 b1 b2;generalize hL:Lib.bitLen y=L at b0 b1 b2 b3;obtain⟨s,hs⟩:∃s,s=64-L:=⟨_,rfl⟩
 rw[show(64:Int)-(L:Int)=(s:Int)by omega,cvu _ ae,aj,xt _ ae,aj];have hp:(0:Nat)<2^s:=xX ae;have cp:2^L*2^s=18446744073709551616:=by
  rw[←wM,show L+s=64 by omega]
 have b5:2^(L-1)*2^s=9223372036854775808:=by
  rw[←wM,show L-1+s=63 by omega]
 have bo:y*2^s<18446744073709551616:=by rw[←cp];exact Tz b2 hp
 have ep:9223372036854775808≤y*2^s:=by rw[←b5];exact ja _ b1
 have be:hi*2^s<18446744073709551616:=Nat.lt_trans (Tz cr hp) bo;rw[wO bo];have ay:lo/2^(64-s)<2^s:=by
  rw[wQ (xX ae),←wM,show s+(64-s)=64 by omega];exact b8
 have ee:(32:Int)=((32:Nat):Int):=rfl;rw[ee,nr _ ae,aj,PD bo,aj,xt _ ae,aj,wO be,iL,aj,
  wu64 (n:=64-(s:Int)) ae ae,show(64:Int)-(s:Int)=((64-s:Nat):Int)by omega,nr _ ae,aj,
  zbl be (ce ay (by rw[←cp];exact Nat.le_mul_of_pos_left _ (xX ae))),aj,UX ay,xt _ ae,aj]
 -- what is divided, shifted
 have ek:(hi*18446744073709551616+lo)*2^s<y*2^s*18446744073709551616:=by
  have:hi*18446744073709551616+lo<y*18446744073709551616:=ae;rw[Ty];exact Tz this hp
 have an:lo*2^s=lo/2^(64-s)*18446744073709551616+lo*2^s%18446744073709551616:=by
  have e:lo*2^s/18446744073709551616=lo/2^(64-s):=by
   rw[show(18446744073709551616:Nat)=2^(64-s)*2^s by rw[←wM,show 64-s+s=64 by omega]];exact YB _ _ hp
  rw[←e,fu _ 18446744073709551616];exact(nV _ _).symm
 have G:(hi*18446744073709551616+lo)*2^s=(hi*2^s+lo/2^(64-s))*18446744073709551616+lo*2^s%18446744073709551616:=by
  rw[eO,an,Ty,eO,vz]
  congr 2
  rw[←an]
 have a8:(hi*18446744073709551616+lo)/y=(hi*18446744073709551616+lo)*2^s/(y*2^s):=(YB _ _ hp).symm;have cu:(hi*18446744073709551616+lo)%y=(hi*18446744073709551616+lo)*2^s%(y*2^s)/2^s:=by
  rw[Tx,Nat.mul_div_cancel _ hp]
 have ab:(hi*18446744073709551616+lo)/y<18446744073709551616:=by
  rw[wQ ae,fu];have:(hi+1)*18446744073709551616≤y*18446744073709551616:=ja _ cr;omega
 rw[a8,cu];rw[a8]at ab;generalize(hi*18446744073709551616+lo)*2^s=HS at*;generalize eg:hi*2^s+lo/2^(64-s)=A at*;have bv:lo*2^s%18446744073709551616<18446744073709551616:=iy _ ae;generalize lo*2^s%18446744073709551616=W at*;generalize ew:y*2^s=Y at*
 clear an be ay
 have hu:A<Y:=ae;have bk:W/4294967296<4294967296:=ae;have b4:W%4294967296<4294967296:=ae;have cc:(2:Nat)^32=4294967296:=rfl;rw[nr _ ae,aj,PD bv,aj,cc];have b6:Y=Y/4294967296*4294967296+Y%4294967296:=ae;have ct:2147483648≤Y/4294967296:=ae;have bd:Y/4294967296<4294967296:=ae;have cb:Y%4294967296<4294967296:=ae;have ci:s≤64:=ae;generalize eh:Y/4294967296=yn1 at*;generalize eu:Y%4294967296=yn0 at*;generalize es:W/4294967296=H at*;generalize ej:W%4294967296=I at*;have ea:W=H*4294967296+I:=ae;rw[L4 ae ae,aj,mV,aj];have et:A/yn1*yn1≤A:=Jc _ _;rw[show((A/yn1:Nat):Int)*(yn1:Int)=((A/yn1*yn1:Nat):Int)from(mB _ _).symm,gF ae,iL,aj,
  show(A:Int)-((A/yn1*yn1:Nat):Int)=((A-A/yn1*yn1:Nat):Int)by omega,gF ae]
 have body:∀{u d q r:Nat} {X Y:Prop} (hq:q<4294967298) (hr:r<4294967296) (hd:d<4294967296),
   ((4294967296≤q∨4294967296*r+d<q*yn0)→X)→(¬(4294967296≤q∨4294967296*r+d<q*yn0)→Y)→
   vK (ak .i .geq (.int .u64 (q:Int)) (.int .u64 4294967296)) λU=>
    vK (gV U false (some (.int .u64 (q:Int)))) λdz=>vK (gV U false (some (.int .u64 (yn0:Int)))) λc7=>vK (gV U false (ak .i .mul dz c7)) λc9=>
    vK (gV U false (some (.int .u64 (r:Int)))) λc3=>vK (gV U false (ak .i .mul (.int .u64 4294967296) c3)) λc2=>vK (gV U false (some (.int .u64 (d:Int)))) λc1=>
    vK (gV U false (ak .i .add c2 c1)) λc6=>vK (gV U false (ak .i .gtr c9 c6)) λec=>vK (aF U (.bool true) ec) λc0=>aE c0 X Y:=by
  intro u d q r X Y hq hr hd hX hY;simp only[go_sem];by_cases hc:4294967296≤q
  ·have e:((4294967296:Int)≤(q:Int))=True:=jW ae;simp only[go_sem,e];exact hX (.inl hc)
  ·have e:((4294967296:Int)≤(q:Int))=False:=gm ae;simp only[go_sem,e];have ei:q*yn0≤q*4294967296:=YC _ ae;rw[show(q:Int)*(yn0:Int)=((q*yn0:Nat):Int)from(mB _ _).symm,gF (m:=q*yn0) ae,
    show(4294967296:Int)*(r:Int)=((4294967296*r:Nat):Int)by omega,gF (m:=4294967296*r) ae,
    show((4294967296*r:Nat):Int)+(d:Int)=((4294967296*r+d:Nat):Int)by omega,gF (m:=4294967296*r+d) ae]
   refine ao (λh0=>hX (.inr ae)) (λh0=>hY ae)
 refine bF (λxs h'=>xs=[.int .u64 (((A*4294967296+H)/Y:Nat):Int)]∧h'=h1) ?_ ?_
 ·refine OI (d:=H) b6 cb ct bd hu bk (λq r=>[.int .u64 (q:Int),.int .u64 (r:Int)]) rfl λq r again ρj hq hr g1 g2 g3 g4=>?_
  simp only[iz,zJ];refine body (u:=0) hq hr bk (λhc=>?_) (λhc=>?_)
  ·have ax:=g4 hc;rw[iL,aj,show(q:Int)-1=((q-1:Nat):Int)by omega,gF ae,dC,aj,show(r:Int)+(yn1:Int)=((r+yn1:Nat):Int)by omega,gF ae];rw[Px,aj];refine ao (λh0=>⟨by rw[g2 hc ax ae],trivial⟩) (λh0=>g1 _ _ rfl rfl ax hc ae)
  ·exact⟨by rw[g3 hc],trivial⟩
 rintro xs ρj h2 ⟨rfl,e2⟩;subst e2;simp only[iz];have dq:=OX hu bk;have b7:=nV (A*4294967296+H) Y;have aa:(A*4294967296+H)%Y<Y:=iy _ ae;have hD:=Xt (M:=A*4294967296+H) (Y:=Y) (d0:=I) ae rfl rfl;obtain⟨al,a7⟩:∃q,q=(A*4294967296+H)/Y:=⟨_,rfl⟩
 obtain⟨F,a9⟩:∃q,q=(A*4294967296+H)%Y:=⟨_,rfl⟩
 rw[←a7,←a9]at b7 hD;rw[←a9]at aa;rw[←a7]at dq ⊢;have c8:IntKind.u64.wrap (IntKind.u64.wrap (IntKind.u64.wrap ((A:Int)*4294967296)+(H:Int))-IntKind.u64.wrap ((al:Int)*(Y:Int)))=(F:Int):=by
  rw[show(al:Int)*(Y:Int)=((Y*al:Nat):Int)by rw[fu];exact(mB _ _).symm];rw[fJ,fJ,fJ,fJ]
  clear hD G
  generalize Y*al=P at*;omega
 rw[mV,aj,dC,aj,mV,aj,iL,aj,c8];have er:F/yn1*yn1≤F:=Jc _ _;rw[L4 ae ae,aj,mV,aj,show((F/yn1:Nat):Int)*(yn1:Int)=((F/yn1*yn1:Nat):Int)from(mB _ _).symm,gF ae,iL,aj,
  show(F:Int)-((F/yn1*yn1:Nat):Int)=((F-F/yn1*yn1:Nat):Int)by omega,gF ae]
 refine bF (λxs h'=>xs=[.int .u64 (((F*4294967296+I)/Y:Nat):Int)]∧h'=h2) ?_ ?_
 ·refine OI (d:=I) b6 cb ct bd aa b4 (λq r=>[.int .u64 (r:Int),.int .u64 (q:Int)]) rfl λq r again ρj hq hr g1 g2 g3 g4=>?_
  simp only[iz,zJ];refine body (u:=0) hq hr b4 (λhc=>?_) (λhc=>?_)
  ·have ax:=g4 hc;rw[iL,aj,show(q:Int)-1=((q-1:Nat):Int)by omega,gF ae,dC,aj,show(r:Int)+(yn1:Int)=((r+yn1:Nat):Int)by omega,gF ae];rw[Px,aj];refine ao (λh0=>⟨by rw[g2 hc ax ae],trivial⟩) (λh0=>g1 _ _ rfl rfl ax hc ae)
  ·exact⟨by rw[g3 hc],trivial⟩
 rintro xs ρj h3 ⟨rfl,e3⟩;subst e3;simp only[iz];have cw:=OX aa b4;have bc:=nV (F*4294967296+I) Y;have dl:(F*4294967296+I)%Y<Y:=iy _ ae;have bg:HS=(A*4294967296+H)*4294967296+I:=Vp G ea;rw[bg]at ab ⊢;rw[hD.1]at ab ⊢;rw[hD.2];obtain⟨ad,au⟩:∃q,q=(F*4294967296+I)/Y:=⟨_,rfl⟩
 obtain⟨rr,ar⟩:∃q,q=(F*4294967296+I)%Y:=⟨_,rfl⟩
 rw[←au,←ar]at bc;rw[←ar]at dl;rw[←au]at cw ab;rw[←au,←ar];have c4:IntKind.u64.wrap (IntKind.u64.wrap (IntKind.u64.wrap ((F:Int)*4294967296)+(I:Int))-IntKind.u64.wrap ((ad:Int)*(Y:Int)))=(rr:Int):=by
  rw[show(ad:Int)*(Y:Int)=((Y*ad:Nat):Int)by rw[fu];exact(mB _ _).symm];rw[fJ,fJ,fJ,fJ]
  clear hD G bg
  generalize Y*ad=P at*;omega
 have rq:IntKind.u64.wrap (IntKind.u64.wrap ((al:Int)*4294967296)+(ad:Int))=((al*4294967296+ad:Nat):Int):=by
  rw[fJ,fJ]
  clear hD G bg b7 bc
  omega
 rw[mV,aj,dC,aj,mV,aj,dC,aj,mV,aj,iL,aj,c4,rq,nr _ ci,aj];exact⟨rfl,trivial⟩
end Go.Proofs.YtjljhnandbbldaaGreatDoor
