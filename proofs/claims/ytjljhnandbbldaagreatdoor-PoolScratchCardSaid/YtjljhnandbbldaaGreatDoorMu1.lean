/- Several texts of this session, one behind the other, without what this claim does not need (put together by its program pack.py). Conditions: none. -/
import Derived.Test.YtjljhnandbbldaaGreatDoorMu0
import Derived.Lib.ItoaNum
import Derived.Lib.LaidTab
import Derived.LaidLaws
import Derived.LaidHandle
import Derived.LaidMore
import Derived.MakeChecks
import Derived.Handed
import Derived.Stop.Joined
import Derived.Test.YtjljhnandbbldaaGreatDoorRows
import Derived.Test.YtjljhnandbbldaaGreatDoorProg
import Derived.Shelf.Bits.Mul64
import Derived.Shelf.Spec.BitsCarry
import Derived.Shelf.Strconv.Itoa0
set_option linter.unusedVariables false
set_option linter.unusedSimpArgs false
set_option maxRecDepth 100000
namespace Go.Proofs.YtjljhnandbbldaaGreatDoor
open Go Go.Crisp
open _root_.Go.Proofs.Tryz
section
variable {a0 a1 a2 a3 a4 a5 a6:Value}{h:ah}{R:Value→ah→Prop}
def A3 (a0 a1:Value)(h:ah)(R:Value→ah→Prop):Prop:=
 aW (Value.cells a0) 120 h λd m=>
 aW (Value.cells a1) 120 m λe a=>
 vK (aB 0 d) λn=>
 vK (ldV a n) λo=>
 vK (aB 0 e) λp=>
 vK (ldV a p) λq=>
 vK (aj .i .neq o q) λf=>
 vK (gV f true (aB 5 d)) λr=>
 vK (gV f true (ldV a r)) λs=>
 vK (gV f true (some s)) λl=>
 vK (gV l false (aB 5 e)) λt=>
 vK (gV l false (ldV a t)) λu=>
 vK (gV f true (aE l (.bool true) u)) λv=>
 vK (aE f v (.bool false)) λg=>
 vK (gV g true (aP 6 a d)) λw=>
 vK (gV g true (aP 6 a e)) λx=>
 gK g true (λy=>ag prog vS #[w,x] a y) a λz j=>
 vK (aE g z (.bool false)) λb=>
 vK (gV b true (aB 1 d)) λaa=>
 vK (gV b true (ldV j aa)) λab=>
 vK (gV b true (aB 1 e)) λac=>
 vK (gV b true (ldV j ac)) λad=>
 gK b true (λae=>ag prog rh #[ab,ad] j ae) j λaf k=>
 vK (gV b true (unV .not af)) λai=>
 vK (aE b ai (.bool false)) λc=>
 vK (gV c true (aB 1 e)) λak=>
 vK (gV c true (ldV k ak)) λal=>
 vK (gV c true (aB 1 d)) λam=>
 vK (gV c true (ldV k am)) λan=>
 gK c true (λao=>ag prog rh #[al,an] k ao) k λap aq=>
 vK (gV c true (unV .not ap)) λar=>
 vK (aE c ar (.bool false)) λau=>
 R au aq
theorem Mb (H:A3 a0 a1 h R):ag prog qY #[a0,a1] h R:=fk f56 (.s .z (.s .z .z)) H
def DX (a0 a1 a2 a3:Value)(h:ah)(R:Value→ah→Prop):Prop:=
 vK (aj .i .lss a3 aH) λb=>
 vK (gV b false (some a3)) λf=>
 vK (gV b false (aj .i .gtr f (af 65535))) λg=>
 vK (aE b (.bool true) g) λa=>
 vK (gV a false (some a2)) λj=>
 vK (gV a false (aj .i .neq j aH)) λk=>
 vK (gV a false (some k)) λc=>
 vK (gV c true (some a2)) λl=>
 vK (gV c true (aj .i .neq l (af 3))) λm=>
 vK (gV a false (aE c m (.bool false))) λn=>
 vK (aE a (.bool true) n) λo=>
 aF o (
 R (.tuple #[(.pointer none),(af 2)]) h) (
 ag prog mu #[a0,a1,a2] h λp d=>
 vK (unV .not p) λq=>
 aF q (
 R (.tuple #[(.pointer none),(af 5)]) d) (
 vK (aj .i .mul a0 a1) λr=>
 vK (aj .i .mul r a2) λe=>
 mkK (.int .u16 0) 22 1 2 e e d λs t=>
 vK ((aM #[ai,ai,ai,ai,(.slice none 0 0)] [(0,1,a0),(1,1,a1),(2,1,a2),(3,1,a3),(4,1,s)]).map .agg) λu=>
 aW (Value.cells u) 110 t λv w=>
 R (.tuple #[v,ai]) w))
theorem OE (H:DX a0 a1 a2 a3 h R):ag prog iO #[a0,a1,a2,a3] h R:=fk f59 (.s .z (.s (.s .z (.s (.s .z .z) (.s .z (.s (.s .z .z) .z)))) (.s .z .z))) H
def jn (a0:Value)(h:ah)(R:Value→ah→Prop):Prop:=
 fo (λc=>
 vK (aD a0) λe=>
 vK (aj .i .lss e aH) λf=>
 aF f (
 M9 h λs g=>
 c [] g) (
 c [] h))
 λt u d=>
 vK (bh 1 a0 ai) λj=>
 vK (ldV d j) λk=>
 bA [k,aH] d λa v b l=>
 vK (aD a0) λm=>
 vK (aj .i .lss (ix a 1) m) λn=>
 aF n (
 vK (bh 1 a0 (ix a 1)) λo=>
 vK (ldV b o) λp=>
 vK (ju (ix a 0) p) λq=>
 vK (aj .i .add (ix a 1) aH) λr=>
 l [q,r] b) (
 R (ix a 0) b)
theorem qh (H:jn a0 h R):ag prog gq #[a0] h R:=fk f60 (.s .z (.j 480 [] (.s .z (.s .z .z)) (.s .z (.s (.s .z (.l 16773144 [3,4] (.s (.s .z (.s .z .z)) (.s .z .z)))) (.s .z .z))))) H
def Pg (a0:Value)(h:ah)(R:Value→ah→Prop):Prop:=
 aW (Value.cells a0) 31 h λb c=>
 vK (aB 0 b) λm=>
 vK (ldV c m) λn=>
 vK (aj .i .lss n ai) λg=>
 vK (gV g false (aB 0 b)) λo=>
 vK (gV g false (ldV c o)) λp=>
 vK (gV g false (aj .i .geq p (af 4))) λq=>
 vK (aE g (.bool true) q) λd=>
 vK (gV d false (aB 1 b)) λr=>
 vK (gV d false (ldV c r)) λt=>
 gK d false (λu=>ag prog ri #[t] c u) c λv e=>
 vK (gV d false (aj .s .eql v (.string ⟨#[]⟩))) λw=>
 vK (aE d (.bool true) w) λx=>
 aF x (
 R (.bool false) e) (
 vK (aB 0 b) λy=>
 vK (ldV e y) λz=>
 vK (aj .i .neq z (af 3)) λa=>
 vK (gV a false (aB 7 b)) λaa=>
 vK (gV a false (ldV e aa)) λab=>
 gK a false (λac=>ag prog uI #[ab] e ac) e λad k=>
 vK (gV a false (some ad)) λj=>
 vK (gV j true (aB 8 b)) λae=>
 vK (gV j true (ldV k ae)) λak=>
 gK j true (λal=>ag prog uI #[ak] k al) k λam l=>
 vK (gV a false (aE j am (.bool false))) λan=>
 vK (gV a false (some an)) λf=>
 vK (gV f true (aB 6 b)) λao=>
 vK (gV f true (ldV l ao)) λap=>
 gK f true (λaq=>ag prog zS #[ap] l aq) l λar au=>
 vK (gV f true (aj .s .neq ar (.string ⟨#[]⟩))) λav=>
 vK (gV a false (aE f av (.bool false))) λaw=>
 vK (aE a (.bool true) aw) λax=>
 R ax au)
theorem XA (H:Pg a0 h R):ag prog NW #[a0] h R:=fk f61 (.s .z (.s (.s .z (.s (.s .z .z) .z)) (.s .z .z))) H
def Lr (a0:Value)(h:ah)(R:Value→ah→Prop):Prop:=
 vK (aj .i .geq a0 aH) λa=>
 vK (gV a true (some a0)) λb=>
 vK (gV a true (aj .i .leq b (af 65536))) λc=>
 vK (aE a c (.bool false)) λd=>
 R d h
theorem UU (H:Lr a0 h R):ag prog uI #[a0] h R:=fk f62 (.s .z (.s .z .z)) H
def Gd (a0 a1 a2:Value)(h:ah)(R:Value→ah→Prop):Prop:=
 aW (Value.cells a0) 31 h λa b=>
 vK (aB 0 a) λr=>
 vK (ldV b r) λs=>
 vK (aj .i .eql s (af 3)) λt=>
 aF t (
 vK (aB 6 a) λu=>
 vK (ldV b u) λv=>
 vK (aB 7 a) λw=>
 vK (ldV b w) λx=>
 ag prog kY #[v,a1,x] b λe c=>
 vK (aL e 0) λf=>
 vK (aL e 1) λg=>
 vK (aj .i .eql g ai) λy=>
 aF y (
 vK (aB 6 a) λz=>
 vK (ldV c z) λaa=>
 vK (aB 8 a) λab=>
 vK (ldV c ab) λac=>
 ag prog kY #[aa,a2,ac] c λj ad=>
 vK (aL j 0) λae=>
 vK (aL j 1) λak=>
 R (.tuple #[f,ae,ak]) ad) (
 R (.tuple #[f,(.pointer none),g]) c)) (
 vK (aP 9 b a) λal=>
 ag prog zV #[al] b λd k=>
 vK (aL d 0) λam=>
 vK (aL d 1) λan=>
 vK (aL d 2) λl=>
 vK (aj .i .neq l ai) λao=>
 aF ao (
 R (.tuple #[(.pointer none),(.pointer none),l]) k) (
 ag prog oR #[am,a1] k λm n=>
 vK (aL m 0) λo=>
 vK (aL m 1) λp=>
 vK (aj .i .eql p ai) λap=>
 aF ap (
 ag prog oR #[an,a2] n λq aq=>
 vK (aL q 0) λar=>
 vK (aL q 1) λau=>
 R (.tuple #[o,ar,au]) aq) (
 R (.tuple #[o,(.pointer none),p]) n)))
theorem QX (H:Gd a0 a1 a2 h R):ag prog Cw #[a0,a1,a2] h R:=fk f63 (.s .z (.s (.s .z (.s (.s (.s .z (.s .z (.s .z .z))) (.s .z .z)) .z)) (.s .z (.s (.s .z (.s (.s .z .z) .z)) (.s (.s .z (.s .z (.s .z .z))) (.s .z .z)))))) H
def Dx (h:ah)(R:Value→ah→Prop):Prop:=
 vK ((aM #[ai,(.slice none 0 0),(.pointer none),ai] []).map .agg) λa=>
 aW (Value.cells a) 182 h λb c=>
 R b c
theorem Oa (H:Dx h R):ag prog oM #[] h R:=fk f64 (.s .z (.s .z .z)) H
def Ga (a0:Value)(h:ah)(R:Value→ah→Prop):Prop:=
 vK (ju aH a0) λa=>
 vK (rR a (af 4096)) λb=>
 vK ((aM #[ai,(.slice none 0 0),(.bool false)] [(0,1,b)]).map .agg) λc=>
 aW (Value.cells c) 215 h λd e=>
 R d e
theorem QU (H:Ga a0 h R):ag prog nD #[a0] h R:=fk f65 (.s .z (.s .z .z)) H
def Bb (h:ah)(R:Value→ah→Prop):Prop:=
 ag prog iO #[(af 3),aH,aH,(af 255)] h λl w=>
 vK (aL l 0) λx=>
 vK (aL l 1) λy=>
 vK ((aM #[ai,ai,ai,ai,(.slice none 0 0),(.slice none 0 0),ai,ai,ai] [(0,1,aH),(3,1,aH)]).map .agg) λz=>
 ag prog nE #[z,(af 3),aH] w λm aa=>
 vK (aL m 0) λab=>
 vK (aL m 1) λac=>
 aW #[(.pointer none),(.pointer none),ai] 81 aa λn ad=>
 stK 3 n ab ad λbm ae=>
 ag prog iO #[(af 3),aH,aH,(af 255)] ae λo ak=>
 vK (aL o 0) λal=>
 vK (aL o 1) λam=>
 ag prog xO #[] ak λan q=>
 vK (unV .not an) λc=>
 gK c false (λao=>ag prog xN #[] q ao) q λap d=>
 vK (gV c false (unV .not ap)) λaq=>
 vK (aE c (.bool true) aq) λe=>
 vK (gV e false (some y)) λar=>
 vK (gV e false (aj .i .neq ar ai)) λau=>
 vK (aE e (.bool true) au) λf=>
 vK (gV f false (some ac)) λav=>
 vK (gV f false (aj .i .neq av ai)) λaw=>
 vK (aE f (.bool true) aw) λg=>
 vK (gV g false (some am)) λax=>
 vK (gV g false (aj .i .neq ax ai)) λay=>
 vK (aE g (.bool true) ay) λaz=>
 aF az (
 R (.bool false) d) (
 vK (aP 3 d n) λa0=>
 vK ((aM #[ai,ai,ai,ai] [(2,1,(af 3)),(3,1,aH)]).map .agg) λa1=>
 vK ((aM #[ai,ai,ai,ai,ai,ai,ai,ai,ai,ai] [(1,4,a1)]).map .agg) λa2=>
 ag prog oN #[x,al,a0,a2] d λr s=>
 vK (aL r 0) λb=>
 vK (aL r 1) λa3=>
 vK (aj .i .neq a3 ai) λj=>
 vK (gV j false (some b)) λa4=>
 vK (gV j false (aj .p .eql a4 (.pointer none))) λa5=>
 vK (aE j (.bool true) a5) λa6=>
 aF a6 (
 R (.bool false) s) (
 bA [(af (-1))] s λk bn t a7=>
 vK (aj .i .lss (ix k 0) (af 2)) λa8=>
 aF a8 (
 ag prog gw #[b] t λa9 u=>
 vK ((aM #[ai,ai] [(0,1,aH),(1,1,(ix k 0))]).map .agg) λba=>
 vK (aj (.st [(0,1,.i),(1,1,.i)]) .neq a9 ba) λbb=>
 aF bb (
 R (.bool false) u) (
 vK (aj .i .add (ix k 0) aH) λbc=>
 a7 [bc] u)) (
 ag prog gw #[b] t λbd v=>
 vK ((aM #[ai,ai] [(0,1,(af 2))]).map .agg) λbe=>
 vK (aj (.st [(0,1,.i),(1,1,.i)]) .eql bd be) λa=>
 vK (gV a true (some b)) λbf=>
 gK a true (λbg=>ag prog gw #[bf] v bg) v λbh bi=>
 vK (gV a true ((aM #[ai,ai] []).map .agg)) λbj=>
 vK (gV a true (aj (.st [(0,1,.i),(1,1,.i)]) .eql bh bj)) λbk=>
 vK (aE a bk (.bool false)) λbl=>
 R bl bi)))
theorem Mj (H:Bb h R):ag prog xM #[] h R:=fk f66 (.s .z (.s .z (.s .z (.s .z (.s (.s .z (.s (.s .z .z) .z)) (.s .z (.s (.s .z (.s (.s .z .z) .z)) (.s (.s .z (.l 36821430553381175809 [9] (.s (.s .z (.s .z .z)) (.s (.s .z (.s (.s .z .z) .z)) .z)))) (.s .z .z))))))))) H
def pK (a0 a1 a2:Value)(h:ah)(R:Value→ah→Prop):Prop:=
 aW #[ai,ai,ai,ai] 148 h λb c=>
 vK (aS a0) λp=>
 vK (aB 0 p) λq=>
 vK (ldV c q) λe=>
 vK (aj .i .eql e aH) λr=>
 aF r (
 vK (aS a0) λs=>
 vK (aB 2 s) λt=>
 vK (ldV c t) λu=>
 ag prog gw #[u] c λv w=>
 aW #[ai,ai] 146 w λf x=>
 stK 2 f v x λbc y=>
 ag prog dJ #[a0] y λbd a=>
 bK a λS=>
 vK (aS a0) λz=>
 vK (aB 1 z) λaa=>
 qK S (λa=>ldV a aa) λab=>
 vK (aS a0) λac=>
 vK (aB 1 ac) λad=>
 qK S (λa=>ldV a ad) λae=>
 qK S (λa=>aD ae) λak=>
 vK (aj .i .sub ak aH) λal=>
 vK (bh 1 ab al) λam=>
 qK S (λa=>ldV a am) λan=>
 qK S (λa=>aP 2 a f) λao=>
 vK ((aM #[ai,ai,ai,ai] [(0,1,(af 2)),(1,1,an),(2,2,ao)]).map .agg) λap=>
 stK 4 b ap a λbe g=>
 vK (aP 4 g b) λaq=>
 R aq g) (
 vK (aj .i .eql e (af 2)) λar=>
 aF ar (
 vK ((aM #[ai,ai,ai,ai] []).map .agg) λau=>
 stK 4 b au c λbf j=>
 vK (aP 4 j b) λav=>
 R av j) (
 ag prog kC #[a1] c λk d=>
 vK (aL k 0) λaw=>
 vK (aL k 1) λl=>
 vK (aj .i .eql l ai) λax=>
 aF ax (
 ag prog kX #[a0,aw,a2] d λay az=>
 stK 4 b ay az λbg m=>
 vK (aP 4 m b) λa3=>
 R a3 m) (
 vK (aj .i .eql l (af 2)) λa4=>
 aF a4 (
 vK (aS a0) λa5=>
 vK (aB 0 a5) λa6=>
 stK 1 a6 (af 2) d λbi a7=>
 vK ((aM #[ai,ai,ai,ai] [(0,1,(af 3))]).map .agg) λa8=>
 stK 4 b a8 a7 λbj n=>
 vK (aP 4 n b) λa9=>
 R a9 n) (
 vK ((aM #[ai,ai,ai,ai] []).map .agg) λba=>
 stK 4 b ba d λbk o=>
 vK (aP 4 o b) λbb=>
 R bb o))))
theorem AD (H:pK a0 a1 a2 h R):ag prog cN #[a0,a1,a2] h R:=fk f67 (.s .z (.s (.s .z (.s .z (.s (.s .z (.s .z (.s (.d (.op 0 .r (.op 1 .r (.op 2 .r (.op 3 .r (.op 4 .r (.op 5 .r (.op 6 .r (.op 7 .r (.op 8 .r (.op 9 .r (.op 10 .r (.op 11 .r (.op 12 .r (.op 13 .r (.op 14 .n .nil)))))))))))))))) .z))) (.s .z (.s (.s .z .z) .z))))) (.s .z (.s (.s .z (.s .z (.s (.s .z .z) (.s .z (.s (.s .z (.s .z .z)) .z))))) (.s .z .z))))) H
def lN (a0 a1:Value)(h:ah)(R:Value→ah→Prop):Prop:=
 vK (aS a0) λb=>
 vK (aB 0 b) λc=>
 vK (ldV h c) λa=>
 vK (aj .i .eql a ai) λd=>
 aF d (
 ag prog ja #[a1] h λe f=>
 R e f) (
 vK (aj .i .eql a aH) λg=>
 aF g (
 R (.bool true) h) (
 R (.bool false) h))
theorem vZ (H:lN a0 a1 h R):ag prog eG #[a0,a1] h R:=fk f68 (.s .z (.s (.s .z (.s .z (.s (.s .z .z) (.s .z (.s (.s .z .z) .z))))) (.s .z .z))) H
def rA (a0:Value)(h:ah)(R:Value→ah→Prop):Prop:=
 vK (aS a0) λa=>
 vK (aB 2 a) λb=>
 vK (ldV h b) λc=>
 vK (aS a0) λd=>
 vK (aB 2 d) λe=>
 stK 1 e (.bool true) h λi f=>
 vK (unV .not c) λg=>
 R g f
theorem BF (H:rA a0 h R):ag prog ji #[a0] h R:=fk f69 (.s .z (.s .z (.s .z (.s .z .z)))) H
def nN (a0:Value)(h:ah)(R:Value→ah→Prop):Prop:=
 vK (aS a0) λa=>
 vK (aB 0 a) λb=>
 vK (ldV h b) λc=>
 R c h
theorem yV (H:nN a0 h R):ag prog kB #[a0] h R:=fk f70 (.s .z (.s .z .z)) H
def As (a0 a1:Value)(h:ah)(R:Value→ah→Prop):Prop:=
 aW (Value.cells a1) 81 h λc d=>
 vK (aB 0 c) λm=>
 vK (ldV d m) λn=>
 vK (aj .p .neq n (.pointer none)) λf=>
 vK (gV f true (aB 1 c)) λo=>
 vK (gV f true (ldV d o)) λq=>
 vK (gV f true (aj .p .neq q (.pointer none))) λr=>
 vK (aE f r (.bool false)) λa=>
 vK (gV a true (aB 0 c)) λt=>
 vK (gV a true (ldV d t)) λu=>
 gK a true (λv=>ag prog fW #[u] d v) d λw k=>
 vK (gV a true (some a0)) λx=>
 gK a true (λy=>ag prog bM #[x] k y) k λz g=>
 vK (gV a true (aj .i .eql w z)) λaa=>
 vK (aE a aa (.bool false)) λb=>
 vK (gV b true (aB 1 c)) λab=>
 vK (gV b true (ldV g ab)) λac=>
 gK b true (λad=>ag prog fW #[ac] g ad) g λae l=>
 vK (gV b true (some a0)) λaf=>
 gK b true (λai=>ag prog bO #[af] l ai) l λak j=>
 vK (gV b true (aj .i .eql ae ak)) λal=>
 vK (aE b al (.bool false)) λe=>
 vK (gV e true (aB 2 c)) λam=>
 vK (gV e true (ldV j am)) λan=>
 gK e true (λao=>ag prog ri #[an] j ao) j λap aq=>
 vK (gV e true (aj .s .neq ap (.string ⟨#[]⟩))) λar=>
 vK (aE e ar (.bool false)) λau=>
 R au aq
theorem Kr (H:As a0 a1 h R):ag prog jH #[a0,a1] h R:=fk f71 (.s .z (.s .z .z)) H
def wu (a0:Value)(h:ah)(R:Value→ah→Prop):Prop:=
 vK (aS a0) λa=>
 vK (aB 1 a) λb=>
 vK (ldV h b) λc=>
 vK (aD c) λd=>
 R d h
theorem Gw (H:wu a0 h R):ag prog bJ #[a0] h R:=fk f72 (.s .z (.s .z .z)) H
def ry (a0:Value)(h:ah)(R:Value→ah→Prop):Prop:=
 vK (aS a0) λa=>
 vK (aB 3 a) λb=>
 vK (ldV h b) λc=>
 R c h
theorem BD (H:ry a0 h R):ag prog dr #[a0] h R:=fk f73 (.s .z (.s .z .z)) H
def Jx (a0 a1 a2:Value)(h:ah)(R:Value→ah→Prop):Prop:=
 aW (Value.cells a0) 81 h λd a=>
 vK (aB 0 d) λg=>
 vK (ldV a g) λi=>
 vK (aj .p .eql i (.pointer none)) λb=>
 vK (gV b false (aB 1 d)) λj=>
 vK (gV b false (ldV a j)) λk=>
 vK (gV b false (aj .p .eql k (.pointer none))) λl=>
 vK (aE b (.bool true) l) λm=>
 aF m (
 R (.tuple #[(.pointer none),(af 6)]) a) (
 ag prog xg #[a1] a λn f=>
 vK (unV .not n) λc=>
 vK (gV c false (some a2)) λo=>
 gK c false (λq=>ag prog xg #[o] f q) f λr e=>
 vK (gV c false (unV .not r)) λs=>
 vK (aE c (.bool true) s) λt=>
 aF t (
 R (.tuple #[(.pointer none),(af 9)]) e) (
 vK (aP 3 e d) λu=>
 vK ((aM #[(.pointer none),(.pointer none),ai,ai,ai] [(0,3,u),(3,1,a1),(4,1,a2)]).map .agg) λv=>
 aW (Value.cells v) 184 e λw x=>
 R (.tuple #[w,ai]) x))
theorem Tj (H:Jx a0 a1 a2 h R):ag prog zU #[a0,a1,a2] h R:=fk f74 (.s .z (.s (.s .z (.s (.s .z .z) (.s .z (.s (.s .z .z) .z)))) (.s .z .z))) H
def Gj (a0:Value)(h:ah)(R:Value→ah→Prop):Prop:=
 vK (ju aH a0) λj=>
 vK (rR j (af 512)) λc=>
 mkK (.slice none 0 0) 104 1 24 c c h λk l=>
 vK ((aM #[(.slice none 0 0)] [(0,1,k)]).map .agg) λm=>
 aW (Value.cells m) 226 l λd f=>
 vK (aS d) λn=>
 vK (aB 0 n) λo=>
 vK (ldV f o) λp=>
 vK (aD p) λq=>
 bA [ai] f λa ak b r=>
 vK (aj .i .lss (ix a 0) q) λs=>
 aF s (
 bK b λS=>
 vK (aS d) λt=>
 vK (aB 0 t) λu=>
 qK S (λb=>ldV b u) λv=>
 mkK ai 3 1 8 c c b λw g=>
 S g∧(vK (bh 1 v (ix a 0)) λx=>
 stK 1 x w g λal e=>
 vK (aS d) λy=>
 vK (aB 0 y) λz=>
 vK (ldV e z) λaa=>
 vK (bh 1 aa (ix a 0)) λab=>
 vK (ldV e ab) λac=>
 vK (bh 1 ac (ix a 0)) λad=>
 stK 1 ad aH e λam ae=>
 vK (aj .i .add (ix a 0) aH) λag=>
 r [ag] ae)) (
 R d b)
theorem Ra (H:Gj a0 h R):ag prog nF #[a0] h R:=fk f75 (.s .z (.s .z (.s .z (.s (.s .z (.l 274877775888 [17] (.s .z (.s (.s .z .z) (.s (.s .z (.s (.d (.op 0 .r (.op 1 .r (.op 2 .r (.op 3 .r (.op 4 .r (.op 5 .r (.op 6 .e (.op 7 .r (.op 8 .n .nil)))))))))) .z)) .z))))) (.s .z .z))))) H
def wG (a0 a1 a2 a3 a4 a5:Value)(h:ah)(R:Value→ah→Prop):Prop:=
 bK h λS=>
 vK (aS a0) λa=>
 vK (aB 5 a) λb=>
 vK (aS a0) λc=>
 vK (aB 4 c) λd=>
 qK S (λh=>ldV h d) λe=>
 vK (aj .i .add a3 a4) λf=>
 ag prog kP #[e,a1] h λg j=>
 vK ((aM #[ai,(.slice none 0 0),ai,ai,ai,(.bool false)] [(0,1,a1),(1,1,g),(2,1,a2),(3,1,a3),(4,1,f),(5,1,a5)]).map .agg) λk=>
 ag prog l9 #[b,k] j λm l=>
 R (.tuple #[]) l
theorem GF (H:wG a0 a1 a2 a3 a4 a5 h R):ag prog dO #[a0,a1,a2,a3,a4,a5] h R:=fk f76 (.d (.op 0 .r (.op 1 .r (.op 2 .r (.op 3 .r (.op 4 .r (.op 5 .r (.op 6 .r (.op 7 .r (.op 8 .r (.op 10 .r (.op 11 .r (.op 12 .r (.op 13 .r (.op 14 .r (.op 15 .r (.op 9 .n (.op 16 .r (.op 17 .n .nil))))))))))))))))))) H
def Gb (a0:Value)(h:ah)(R:Value→ah→Prop):Prop:=
 ag prog bM #[a0] h λa b=>
 ag prog bO #[a0] b λc d=>
 vK (aj .i .mul a c) λe=>
 ag prog aV #[a0] d λf g=>
 vK (aj .i .mul e f) λj=>
 R j g
theorem QV (H:Gb a0 h R):ag prog sA #[a0] h R:=fk f77 (.s .z (.s .z .z)) H
def rz (a0:Value)(h:ah)(R:Value→ah→Prop):Prop:=
 bK h λS=>
 vK (aS a0) λb=>
 vK (aB 0 b) λc=>
 qK S (λh=>ldV h c) λd=>
 vK (aS a0) λe=>
 vK (aB 1 e) λf=>
 qK S (λh=>ldV h f) λg=>
 vK (aS a0) λi=>
 vK (aB 2 i) λj=>
 qK S (λh=>ldV h j) λk=>
 vK (aS a0) λl=>
 vK (aB 3 l) λm=>
 qK S (λh=>ldV h m) λn=>
 vK (aS a0) λo=>
 vK (aB 4 o) λp=>
 qK S (λh=>ldV h p) λq=>
 ag prog dA #[q] h λr a=>
 S a∧(vK ((aM #[ai,ai,ai,ai,(.slice none 0 0)] [(0,1,d),(1,1,g),(2,1,k),(3,1,n),(4,1,r)]).map .agg) λs=>
 aW (Value.cells s) 110 a λt u=>
 R t u)
theorem BE (H:rz a0 h R):ag prog lZ #[a0] h R:=fk f78 (.s .z (.s (.d (.op 0 .r (.op 1 .r (.op 2 .r (.op 3 .r (.op 4 .r (.op 5 .r (.op 6 .r (.op 7 .r (.op 8 .r (.op 9 .r (.op 10 .r (.op 11 .r (.op 12 .r (.op 13 .r (.op 14 .r (.op 15 .r (.op 16 .r (.op 17 .r (.op 18 .r (.op 19 .r (.op 20 .e (.op 21 .r (.op 22 .n (.op 23 .r .nil))))))))))))))))))))))))) .z)) H
def pL (a0 a1 a2 a3:Value)(h:ah)(R:Value→ah→Prop):Prop:=
 vK (aj .i .lss a1 ai) λa=>
 vK (gV a false (some a1)) λf=>
 vK (gV a false (some a0)) λg=>
 vK (gV a false (aS g)) λj=>
 vK (gV a false (aB 0 j)) λk=>
 vK (gV a false (ldV h k)) λl=>
 vK (gV a false (aj .i .geq f l)) λm=>
 vK (aE a (.bool true) m) λd=>
 vK (gV d false (some a2)) λn=>
 vK (gV d false (aj .i .lss n ai)) λo=>
 vK (aE d (.bool true) o) λb=>
 vK (gV b false (some a2)) λp=>
 vK (gV b false (some a0)) λq=>
 vK (gV b false (aS q)) λr=>
 vK (gV b false (aB 1 r)) λs=>
 vK (gV b false (ldV h s)) λt=>
 vK (gV b false (aj .i .geq p t)) λu=>
 vK (aE b (.bool true) u) λe=>
 vK (gV e false (some a3)) λv=>
 vK (gV e false (aj .i .lss v ai)) λw=>
 vK (aE e (.bool true) w) λc=>
 vK (gV c false (some a3)) λx=>
 vK (gV c false (some a0)) λy=>
 vK (gV c false (aS y)) λz=>
 vK (gV c false (aB 2 z)) λaa=>
 vK (gV c false (ldV h aa)) λab=>
 vK (gV c false (aj .i .geq x ab)) λac=>
 vK (aE c (.bool true) ac) λad=>
 aF ad (
 R (af (-1)) h) (
 vK (aS a0) λae=>
 vK (aB 0 ae) λag=>
 vK (ldV h ag) λak=>
 vK (aj .i .mul a2 ak) λal=>
 vK (aj .i .add al a1) λam=>
 vK (aS a0) λan=>
 vK (aB 2 an) λao=>
 vK (ldV h ao) λap=>
 vK (aj .i .mul am ap) λaq=>
 vK (aj .i .add aq a3) λar=>
 R ar h)
theorem AE (H:pL a0 a1 a2 a3 h R):ag prog iP #[a0,a1,a2,a3] h R:=fk f79 (.s .z (.s (.s .z (.s (.s .z .z) .z)) (.s .z .z))) H
def D4 (a0 a1 a2 a3 a4:Value)(h:ah)(R:Value→ah→Prop):Prop:=
 vK (aj .i .rem a0 (.int .u16 20)) λn=>
 vK (gh .i64 n) λo=>
 vK (aj .i .add aH o) λd=>
 vK (aj .i .rem a1 (.int .u16 20)) λp=>
 vK (gh .i64 p) λq=>
 vK (aj .i .add aH q) λe=>
 vK (aj .i .rem a2 (.int .u16 2)) λr=>
 vK (gh .i64 r) λs=>
 vK (aj .i .mul (af 2) s) λt=>
 vK (aj .i .add aH t) λf=>
 vK (gh .i64 a3) λu=>
 vK (aj .i .rem u (af 65535)) λv=>
 vK (aj .i .add aH v) λg=>
 vK (aj .i .mul d e) λw=>
 vK (aj .i .mul w f) λj=>
 mkK (.int .u16 0) 22 1 2 j j h λc x=>
 vK (aD c) λy=>
 bA [ai] x λb a6 a k=>
 vK (aj .i .lss (ix b 0) y) λz=>
 aF z (
 vK (aD a4) λaa=>
 vK (aj .i .gtr aa ai) λab=>
 aF ab (
 bK a λS=>
 qK S (λa=>aD a4) λac=>
 vK (aj .i .rem (ix b 0) ac) λad=>
 vK (bh 1 a4 ad) λae=>
 qK S (λa=>ldV a ae) λak=>
 vK (gh .i64 ak) λal=>
 qK S (λa=>aD a4) λam=>
 vK (aj .i .quo (ix b 0) am) λan=>
 vK (aj .i .add al an) λao=>
 vK (aj .i .add g aH) λap=>
 vK (aj .i .rem ao ap) λaq=>
 vK (gh .u16 aq) λar=>
 vK (bh 1 c (ix b 0)) λau=>
 stK 1 au ar a λa7 av=>
 vK (aj .i .add (ix b 0) aH) λaw=>
 k [aw] av) (
 vK (aj .i .add (ix b 0) aH) λax=>
 k [ax] a)) (
 ag prog sw #[d,e,f,g,c] a λl m=>
 vK (aL l 0) λay=>
 vK (aL l 1) λaz=>
 vK (aj .i .neq az ai) λa5=>
 aF a5 (
 R (.pointer none) m) (
 R ay m))
theorem OJ (H:D4 a0 a1 a2 a3 a4 h R):ag prog zY #[a0,a1,a2,a3,a4] h R:=fk f80 (.s .z (.s .z (.s .z (.s .z (.s (.s .z (.l 2361183223842636627968 [44] (.s .z (.s (.s .z .z) (.s (.s .z (.s .z (.s (.d (.op 0 .r (.op 1 .r (.op 2 .r (.op 3 .r (.op 4 .r (.op 5 .r (.op 6 .r (.op 7 .r (.op 8 .r (.op 9 .r (.op 10 .r (.op 11 .r (.op 12 .r (.op 13 .r (.op 14 .r (.op 15 .r (.op 16 .r (.op 17 .r (.op 18 .r (.op 19 .r (.op 20 .n .nil)))))))))))))))))))))) .z))) .z))))) (.s .z (.s (.s .z (.s (.s .z .z) .z)) (.s .z .z)))))))) H
def Ar (a0 a1:Value)(h:ah)(R:Value→ah→Prop):Prop:=
 vK (aD a0) λp=>
 bA [ai] h λn bg o q=>
 vK (aj .i .lss (ix n 0) p) λr=>
 aF r (
 vK (bh 9 a0 (ix n 0)) λs=>
 vK (aP 9 o s) λt=>
 aW #[ai,ai,ai,ai,(.slice none 0 0),(.slice none 0 0),ai,ai,ai] 31 o λb u=>
 stK 9 b t u λbi a=>
 vK (aB 4 b) λv=>
 vK (ldV a v) λw=>
 vK (aD w) λx=>
 vK (aj .i .gtr x (af 40)) λg=>
 vK (gV g false (aB 5 b)) λy=>
 vK (gV g false (ldV a y)) λz=>
 vK (gV g false (aD z)) λaa=>
 vK (gV g false (aj .i .gtr aa (af 40))) λab=>
 vK (aE g (.bool true) ab) λe=>
 vK (gV e false (aB 2 b)) λac=>
 vK (gV e false (ldV a ac)) λad=>
 vK (gV e false (aj .i .gtr ad (af 262144))) λae=>
 vK (gV e false (some ae)) λj=>
 vK (gV j true (aB 2 b)) λag=>
 vK (gV j true (ldV a ag)) λak=>
 vK (gV j true (aj .i .leq ak (af 4194304))) λal=>
 vK (gV e false (aE j al (.bool false))) λam=>
 vK (aE e (.bool true) am) λf=>
 vK (gV f false (aB 3 b)) λan=>
 vK (gV f false (ldV a an)) λao=>
 vK (gV f false (aj .i .gtr ao (af 20))) λap=>
 vK (gV f false (some ap)) λk=>
 vK (gV k true (aB 3 b)) λaq=>
 vK (gV k true (ldV a aq)) λar=>
 vK (gV k true (aj .i .lss ar (af 512))) λau=>
 vK (gV f false (aE k au (.bool false))) λav=>
 vK (aE f (.bool true) av) λc=>
 vK (gV c false (aB 7 b)) λaw=>
 vK (gV c false (ldV a aw)) λax=>
 vK (gV c false (some a1)) λay=>
 vK (gV c false (aj .i .gtr ax ay)) λaz=>
 vK (gV c false (some az)) λl=>
 vK (gV l true (aB 7 b)) λa2=>
 vK (gV l true (ldV a a2)) λa3=>
 vK (gV l true (aj .i .leq a3 (af 65536))) λa4=>
 vK (gV c false (aE l a4 (.bool false))) λa5=>
 vK (aE c (.bool true) a5) λd=>
 vK (gV d false (aB 8 b)) λa6=>
 vK (gV d false (ldV a a6)) λa7=>
 vK (gV d false (some a1)) λa8=>
 vK (gV d false (aj .i .gtr a7 a8)) λa9=>
 vK (gV d false (some a9)) λm=>
 vK (gV m true (aB 8 b)) λba=>
 vK (gV m true (ldV a ba)) λbb=>
 vK (gV m true (aj .i .leq bb (af 65536))) λbc=>
 vK (gV d false (aE m bc (.bool false))) λbd=>
 vK (aE d (.bool true) bd) λbe=>
 aF be (
 R (.bool false) a) (
 vK (aj .i .add (ix n 0) aH) λbf=>
 q [bf] a)) (
 R (.bool true) o)
theorem Kq (H:Ar a0 a1 h R):ag prog vU #[a0,a1] h R:=fk f81 (.s .z (.s (.s .z (.l 73786976294838206032 [9] (.s .z (.s (.s .z .z) (.s (.s .z (.s .z (.s (.s .z .z) .z))) .z))))) (.s .z .z))) H
def Ph (a0 a1 a2 a3:Value)(h:ah)(R:Value→ah→Prop):Prop:=
 vK (aD a0) λp=>
 vK (aj .i .gtr p (af 16)) λq=>
 aF q (
 R (.tuple #[(.slice none 0 0),(af 6)]) h) (
 ag prog mu #[a1,a2,a3] h λr f=>
 vK (unV .not r) λs=>
 aF s (
 R (.tuple #[(.slice none 0 0),(af 5)]) f) (
 vK (aD a0) λt=>
 bA [a1,a2,(.slice none 0 0),ai] f λa av b u=>
 vK (aj .i .lss (ix a 3) t) λv=>
 aF v (
 vK (bh 9 a0 (ix a 3)) λw=>
 vK (aP 9 b w) λx=>
 aW #[ai,ai,ai,ai,(.slice none 0 0),(.slice none 0 0),ai,ai,ai] 31 b λc y=>
 stK 9 c x y λaw g=>
 vK (aP 9 g c) λz=>
 ag prog nE #[z,(ix a 0),(ix a 1)] g λj aa=>
 vK (aL j 0) λab=>
 vK (aL j 1) λk=>
 aW #[(.pointer none),(.pointer none),ai] 81 aa λl ac=>
 stK 3 l ab ac λax d=>
 vK (aj .i .neq k ai) λad=>
 aF ad (
 R (.tuple #[(.slice none 0 0),k]) d) (
 vK (aP 9 d c) λae=>
 ag prog Jl #[ae,(ix a 0),(ix a 1)] d λm ak=>
 vK (aL m 0) λn=>
 vK (aL m 1) λo=>
 ag prog mu #[n,o,a3] ak λal e=>
 vK (unV .not al) λam=>
 aF am (
 R (.tuple #[(.slice none 0 0),(af 5)]) e) (
 vK (aP 3 e l) λan=>
 di #[(.pointer none),(.pointer none),ai] 81 1 [(0,3,an)] e λao ap=>
 dk (.agg #[.pointer none,.pointer none,ai]) 81 3 24 (ix a 2) ao ap λaq ar=>
 vK (aj .i .add (ix a 3) aH) λau=>
 u [n,o,aq,au] ar))) (
 R (.tuple #[(ix a 2),ai]) b)))
theorem XB (H:Ph a0 a1 a2 a3 h R):ag prog NX #[a0,a1,a2,a3] h R:=fk f82 (.s .z (.s (.s .z (.s (.s .z .z) (.s .z (.s (.s .z .z) .z)))) (.s .z (.s (.s .z (.l 288230376017524486 [1,2,10,27] (.s .z (.s (.s .z .z) (.s (.s .z (.s .z (.s (.s .z (.s (.s .z .z) .z)) (.s (.s .z (.s .z (.s (.s .z .z) .z))) .z)))) .z))))) (.s .z .z))))) H
def FT (a0 a1 a2 a3:Value)(h:ah)(R:Value→ah→Prop):Prop:=
 vK (aD a0) λp=>
 vK (aj .i .gtr p (af 16)) λq=>
 aF q (
 R (.tuple #[(.slice none 0 0),(af 6)]) h) (
 ag prog uA #[a1,a2,a3] h λr f=>
 vK (unV .not r) λs=>
 aF s (
 R (.tuple #[(.slice none 0 0),(af 5)]) f) (
 vK (aD a0) λt=>
 bA [a1,a2,(.slice none 0 0),ai] f λa av b u=>
 vK (aj .i .lss (ix a 3) t) λv=>
 aF v (
 vK (bh 9 a0 (ix a 3)) λw=>
 vK (aP 9 b w) λx=>
 aW #[ai,ai,ai,ai,(.slice none 0 0),(.slice none 0 0),ai,ai,ai] 232 b λc y=>
 stK 9 c x y λaw g=>
 vK (aP 9 g c) λz=>
 ag prog zN #[z,(ix a 0),(ix a 1)] g λj aa=>
 vK (aL j 0) λab=>
 vK (aL j 1) λk=>
 aW #[(.slice none 0 0),(.slice none 0 0),ai,ai,ai] 38 aa λl ac=>
 stK 5 l ab ac λax d=>
 vK (aj .i .neq k ai) λad=>
 aF ad (
 R (.tuple #[(.slice none 0 0),k]) d) (
 vK (aP 9 d c) λae=>
 ag prog zL #[ae,(ix a 0),(ix a 1)] d λm ak=>
 vK (aL m 0) λn=>
 vK (aL m 1) λo=>
 ag prog uA #[n,o,a3] ak λal e=>
 vK (unV .not al) λam=>
 aF am (
 R (.tuple #[(.slice none 0 0),(af 5)]) e) (
 vK (aP 5 e l) λan=>
 di #[(.slice none 0 0),(.slice none 0 0),ai,ai,ai] 38 1 [(0,5,an)] e λao ap=>
 dk (.agg #[.slice none 0 0,.slice none 0 0,ai,ai,ai]) 38 5 72 (ix a 2) ao ap λaq ar=>
 vK (aj .i .add (ix a 3) aH) λau=>
 u [n,o,aq,au] ar))) (
 R (.tuple #[(ix a 2),ai]) b)))
theorem QL (H:FT a0 a1 a2 a3 h R):ag prog Cq #[a0,a1,a2,a3] h R:=fk f83 (.s .z (.s (.s .z (.s (.s .z .z) .z)) (.s (.s .z (.s (.s .z .z) .z)) (.s .z (.s (.s .z (.l 72057594004403974 [1,2,10,25] (.s .z (.s (.s .z .z) (.s (.s .z (.s .z (.s (.s .z (.s (.s .z .z) .z)) (.s .z (.s (.s .z (.s (.s .z .z) .z)) .z))))) .z))))) (.s .z .z)))))) H
def D3 (a0:Value)(h:ah)(R:Value→ah→Prop):Prop:=
 vK (aD a0) λe=>
 bA [(.slice none 0 0),ai] h λa u b f=>
 vK (aj .i .lss (ix a 1) e) λg=>
 aF g (
 vK (bh 9 a0 (ix a 1)) λj=>
 vK (aP 9 b j) λk=>
 aW #[ai,ai,ai,ai,(.slice none 0 0),(.slice none 0 0),ai,ai,ai] 31 b λc l=>
 stK 9 c k l λv d=>
 vK (aP 9 d c) λm=>
 ag prog Cx #[m] d λn o=>
 di #[ai,ai,ai,ai,(.slice none 0 0),(.slice none 0 0),ai,ai,ai] 232 1 [(0,9,n)] o λp q=>
 dk (.agg #[ai,ai,ai,ai,.slice none 0 0,.slice none 0 0,ai,ai,ai]) 232 9 104 (ix a 0) p q λr s=>
 vK (aj .i .add (ix a 1) aH) λt=>
 f [r,t] s) (
 R (ix a 0) b)
theorem OI (H:D3 a0 h R):ag prog zX #[a0] h R:=fk f84 (.s .z (.s .z (.s (.s .z (.l 261928 [3,8] (.s .z (.s (.s .z .z) (.s (.s .z .z) .z))))) (.s .z .z)))) H
def FS (a0 a1 a2:Value)(h:ah)(R:Value→ah→Prop):Prop:=
 aW (Value.cells a0) 38 h λc t=>
 bA [(.slice none 0 0),ai] t λd ca j u=>
 vK (aB 1 c) λv=>
 vK (ldV j v) λw=>
 vK (aD w) λx=>
 vK (aj .i .lss (ix d 1) x) λy=>
 aF y (
 bA [(ix d 0),ai] j λa cb e z=>
 vK (aB 0 c) λaa=>
 vK (ldV e aa) λab=>
 vK (aD ab) λac=>
 vK (aj .i .lss (ix a 1) ac) λad=>
 aF ad (
 vK (aD (ix a 0)) λae=>
 vK (aB 1 c) λaf=>
 vK (ldV e af) λak=>
 ag prog zK #[ak] e λal am=>
 vK ((aM #[ai,ai,ai,ai,ai,ai,ai,ai,ai,ai] [(0,1,ae),(1,1,(ix a 1)),(2,1,(ix d 1)),(3,1,a1),(4,1,a2),(9,1,al)]).map .agg) λan=>
 aW #[ai,ai,ai,ai,ai,ai,ai,ai,ai,ai] 59 am λb ao=>
 stK 10 b an ao λcc f=>
 fo (λo=>
 vK (aj .i .add (ix a 1) a1) λap=>
 vK (aB 0 c) λaq=>
 vK (ldV f aq) λar=>
 vK (aD ar) λau=>
 vK (aj .i .gtr ap au) λav=>
 aF av (
 vK (aB 0 c) λaw=>
 vK (ldV f aw) λax=>
 vK (aD ax) λay=>
 vK (aj .i .sub ay (ix a 1)) λaz=>
 vK (aB 3 b) λa3=>
 stK 1 a3 az f λcd a4=>
 o [] a4) (
 o [] f))
 λce cf g=>
 fo (λp=>
 vK (aj .i .add (ix d 1) a2) λa5=>
 vK (aB 1 c) λa6=>
 vK (ldV g a6) λa7=>
 vK (aD a7) λa8=>
 vK (aj .i .gtr a5 a8) λa9=>
 aF a9 (
 vK (aB 1 c) λba=>
 vK (ldV g ba) λbb=>
 vK (aD bb) λbc=>
 vK (aj .i .sub bc (ix d 1)) λbd=>
 vK (aB 4 b) λbe=>
 stK 1 be bd g λcg bf=>
 p [] bf) (
 p [] g))
 λch ci k=>
 vK (aB 0 c) λbg=>
 vK (ldV k bg) λbh=>
 vK (aB 3 b) λbi=>
 vK (ldV k bi) λbj=>
 vK (aj .i .add (ix a 1) bj) λbk=>
 ag prog qU #[bh,(ix a 1),bk] k λl m=>
 vK (aL l 0) λq=>
 vK (aL l 1) λbl=>
 vK (aL l 2) λcj=>
 vK (aB 1 c) λbm=>
 vK (ldV m bm) λbn=>
 vK (aB 4 b) λbo=>
 vK (ldV m bo) λbp=>
 vK (aj .i .add (ix d 1) bp) λbq=>
 ag prog qU #[bn,(ix d 1),bq] m λn br=>
 vK (aL n 0) λr=>
 vK (aL n 1) λbs=>
 vK (aL n 2) λck=>
 vK (aB 5 b) λbt=>
 stK 1 bt q br λcl bu=>
 vK (aj .i .sub bl q) λbv=>
 vK (aB 7 b) λbw=>
 stK 1 bw bv bu λcm bx=>
 vK (aB 6 b) λbz=>
 stK 1 bz r bx λcn b0=>
 vK (aj .i .sub bs r) λb1=>
 vK (aB 8 b) λb2=>
 stK 1 b2 b1 b0 λco s=>
 vK (aP 10 s b) λb3=>
 di #[ai,ai,ai,ai,ai,ai,ai,ai,ai,ai] 59 1 [(0,10,b3)] s λb4 b5=>
 dk (.agg #[ai,ai,ai,ai,ai,ai,ai,ai,ai,ai]) 59 10 80 (ix a 0) b4 b5 λb6 b7=>
 vK (aj .i .add (ix a 1) a1) λb8=>
 z [b6,b8] b7) (
 vK (aj .i .add (ix d 1) a2) λb9=>
 u [(ix a 0),b9] e)) (
 R (ix d 0) j)
theorem QK (H:FS a0 a1 a2 h R):ag prog lk #[a0,a1,a2] h R:=fk f85 (.s .z (.s .z (.s (.s .z (.l 649037107316853453566312041152384 [7,8] (.s (.s .z (.s .z .z)) (.s (.s .z (.l 649037107316853453566312007728768 [7,9] (.s (.s .z (.s .z .z)) (.s (.s .z (.j 72048797944905728 [] (.s .z (.s .z .z)) (.j 590223752764667723776 [] (.s .z (.s .z .z)) (.s .z (.s .z (.s .z (.s .z (.s .z (.s .z .z))))))))) .z)))) .z)))) (.s .z .z)))) H
def FR (a0:Value)(h:ah)(R:Value→ah→Prop):Prop:=
 aW #[ai,(.slice none 0 0),(.bool false)] 43 h λa b=>
 vK (aj .i .lss a0 aH) λg=>
 aF g (
 vK (aj .i .gtr aH (af 4096)) λj=>
 aF j (
 vK ((aM #[ai,(.slice none 0 0),(.bool false)] [(0,1,(af 4096))]).map .agg) λk=>
 stK 3 a k b λt c=>
 vK (aP 3 c a) λl=>
 R l c) (
 vK ((aM #[ai,(.slice none 0 0),(.bool false)] [(0,1,aH)]).map .agg) λm=>
 stK 3 a m b λu d=>
 vK (aP 3 d a) λn=>
 R n d)) (
 vK (aj .i .gtr a0 (af 4096)) λo=>
 aF o (
 vK ((aM #[ai,(.slice none 0 0),(.bool false)] [(0,1,(af 4096))]).map .agg) λp=>
 stK 3 a p b λv e=>
 vK (aP 3 e a) λq=>
 R q e) (
 vK ((aM #[ai,(.slice none 0 0),(.bool false)] [(0,1,a0)]).map .agg) λr=>
 stK 3 a r b λw f=>
 vK (aP 3 f a) λs=>
 R s f))
theorem QJ (H:FR a0 h R):ag prog lh #[a0] h R:=fk f86 (.s .z (.s (.s .z (.s .z .z)) (.s (.s .z (.s .z .z)) (.s .z .z)))) H
def FQ (a0:Value)(h:ah)(R:Value→ah→Prop):Prop:=
 fo (λc=>
 vK (aj .i .lss a0 aH) λk=>
 aF k (
 c [aH] h) (
 c [a0] h))
 λd x e=>
 fo (λf=>
 vK (aj .i .gtr (ix d 0) (af 512)) λl=>
 aF l (
 f [(af 512)] e) (
 f [(ix d 0)] e))
 λb y m=>
 bA [(.slice none 0 0),ai] m λa z g n=>
 vK (aj .i .lss (ix a 1) (ix b 0)) λo=>
 aF o (
 mkK ai 3 1 8 (ix b 0) (ix b 0) g λj p=>
 vK (bh 1 j (ix a 1)) λq=>
 stK 1 q aH p λaa r=>
 di #[(.slice none 0 0)] 41 1 [(0,1,j)] r λs t=>
 dk (.slice none 0 0) 41 1 24 (ix a 0) s t λu v=>
 vK (aj .i .add (ix a 1) aH) λw=>
 n [u,w] v) (
 R (ix a 0) g)
theorem QI (H:FQ a0 h R):ag prog lg #[a0] h R:=fk f87 (.s .z (.j 193 [0] (.s .z (.s .z .z)) (.j 769 [0] (.s .z (.s .z .z)) (.s .z (.s (.s .z (.l 16775224 [3,11] (.s .z (.s (.s .z .z) (.s (.s .z (.s .z (.s .z .z))) .z))))) (.s .z .z)))))) H
def AQ (a0 a1 a2:Value)(h:ah)(R:Value→ah→Prop):Prop:=
 aW (Value.cells a0) 38 h λo p=>
 vK (aB 1 o) λw=>
 vK (ldV p w) λq=>
 vK (aD q) λx=>
 bA [ai,ai] p λb bu f r=>
 vK (aj .i .lss (ix b 1) x) λy=>
 aF y (
 vK (bh 2 q (ix b 1)) λz=>
 vK (aP 2 f z) λaa=>
 aW #[ai,(.slice none 0 0)] 240 f λg ab=>
 stK 2 g aa ab λbv d=>
 vK (aB 1 g) λac=>
 vK (ldV d ac) λad=>
 vK (aD ad) λae=>
 vK (aj .i .gtr ae (ix b 0)) λak=>
 aF ak (
 vK (aB 1 g) λal=>
 vK (ldV d al) λam=>
 vK (aD am) λan=>
 vK (aj .i .add (ix b 1) aH) λao=>
 r [an,ao] d) (
 vK (aj .i .add (ix b 1) aH) λap=>
 r [(ix b 0),ap] d)) (
 bA [(.slice none 0 0),(.slice none 0 0),ai] f λc bw e aq=>
 vK (aj .i .lss (ix c 2) a2) λar=>
 aF ar (
 vK (aB 1 o) λau=>
 vK (ldV e au) λav=>
 vK (aj .i .add a1 (ix c 2)) λaw=>
 vK (bh 2 av aw) λax=>
 vK (aP 2 e ax) λay=>
 aW #[ai,(.slice none 0 0)] 240 e λj az=>
 stK 2 j ay az λbx s=>
 vK (aB 1 j) λa3=>
 vK (ldV s a3) λa4=>
 vK (aD a4) λa5=>
 bA [(ix c 0),(ix c 1),ai] s λa bz k l=>
 vK (aj .i .lss (ix a 2) a5) λa6=>
 aF a6 (
 vK (aB 0 j) λa7=>
 vK (ldV k a7) λa8=>
 vK (aj .i .add a8 (ix a 2)) λm=>
 ag prog FA #[(ix a 1),m] k λa9 t=>
 aF a9 (
 vK (aj .i .add (ix a 2) aH) λba=>
 l [(ix a 0),(ix a 1),ba] t) (
 vK ((aM #[ai,ai] [(0,1,aH),(1,1,m)]).map .agg) λbb=>
 di #[ai,ai] 198 1 [(0,2,bb)] t λbc bd=>
 dk (.agg #[ai,ai]) 198 2 16 (ix a 0) bc bd λu be=>
 di #[ai] 2 1 [(0,1,m)] be λbf bg=>
 dk ai 2 1 8 (ix a 1) bf bg λn v=>
 vK (aD n) λbi=>
 vK (aj .i .gtr bi (ix b 0)) λbj=>
 aF bj (
 vK (xm 1 n (some aH) none) λbk=>
 vK (aj .i .add (ix a 2) aH) λbl=>
 l [u,bk,bl] v) (
 vK (aj .i .add (ix a 2) aH) λbm=>
 l [u,n,bm] v))) (
 vK (aj .i .add a1 (ix c 2)) λbn=>
 vK ((aM #[ai,ai] [(0,1,(af 2)),(1,1,bn)]).map .agg) λbo=>
 di #[ai,ai] 198 1 [(0,2,bo)] k λbp bq=>
 dk (.agg #[ai,ai]) 198 2 16 (ix a 0) bp bq λbr bs=>
 vK (aj .i .add (ix c 2) aH) λbt=>
 aq [br,(ix a 1),bt] bs)) (
 R (ix c 0) e))
theorem LY (H:AQ a0 a1 a2 h R):ag prog xF #[a0,a1,a2] h R:=fk f88 (.s .z (.s .z (.s (.s .z (.l 4294443648 [7,19] (.s .z (.s (.s .z .z) (.s (.s .z (.s .z (.s .z .z))) .z))))) (.s .z (.s .z (.s (.s .z (.l 1208925819614620584836096 [10,11,33] (.s .z (.s (.s .z .z) (.s (.s .z (.s .z (.s (.s .z (.l 4722366412500901088256 [10,11,46] (.s .z (.s (.s .z .z) (.s (.s .z (.s .z (.s (.s .z (.s .z .z)) (.s .z (.s .z (.s .z (.s .z .z))))))) .z))))) .z))) .z))))) (.s .z .z))))))) H
def DD (a0 a1 a2 a3 a4 a5:Value)(h:ah)(R:Value→ah→Prop):Prop:=
 aW (Value.cells a0) 48 h λb y=>
 aW aJ 48 y λj c=>
 vK (aB 11 b) λz=>
 vK (ldV c z) λaa=>
 vK (bh 1 aa a1) λab=>
 vK (ldV c ab) λac=>
 vK (aj .i .add a3 a4) λad=>
 vK ((aM #[ai,(.slice none 0 0),ai,ai,ai,(.bool false)] [(0,1,a1),(1,1,ac),(2,1,a2),(3,1,a3),(4,1,ad),(5,1,a5)]).map .agg) λae=>
 aW #[ai,(.slice none 0 0),ai,ai,ai,(.bool false)] 124 c λk af=>
 stK 6 k ae af λba a=>
 fo (λd=>
 bK a λS=>
 vK (aB 13 b) λag=>
 qK S (λa=>ldV a ag) λe=>
 qK S (λa=>aP 6 a k) λf=>
 (di #[] 124 0 [] a λl g=>
 S g∧((dk (.agg #[ai,.slice none 0 0,ai,ai,ai,.bool false]) 124 6 64 l e g λak m=>
 S m∧(di #[ai,(.slice none 0 0),ai,ai,ai,(.bool false)] 124 1 [(0,6,f)] m λal n=>
 S n∧(dk (.agg #[ai,.slice none 0 0,ai,ai,ai,.bool false]) 124 6 64 ak al n λam o=>
 S o∧(vK (aB 13 b) λan=>
 stK 1 an am o λbb ao=>
 d [] ao))))∧(di #[ai,(.slice none 0 0),ai,ai,ai,(.bool false)] 124 1 [(0,6,f)] g λap p=>
 S p∧(dk (.agg #[ai,.slice none 0 0,ai,ai,ai,.bool false]) 124 6 64 l e p λaq q=>
 S q∧(dk (.agg #[ai,.slice none 0 0,ai,ai,ai,.bool false]) 124 6 64 aq ap q λar r=>
 S r∧(vK (aB 13 b) λau=>
 stK 1 au ar r λbc av=>
 d [] av))))))∧(di #[ai,(.slice none 0 0),ai,ai,ai,(.bool false)] 124 1 [(0,6,f)] a λaw s=>
 S s∧(di #[] 124 0 [] s λax t=>
 S t∧(dk (.agg #[ai,.slice none 0 0,ai,ai,ai,.bool false]) 124 6 64 ax e t λay u=>
 S u∧(dk (.agg #[ai,.slice none 0 0,ai,ai,ai,.bool false]) 124 6 64 ay aw u λaz v=>
 S v∧(vK (aB 13 b) λa6=>
 stK 1 a6 az v λbd a7=>
 d [] a7))))))
 λbe bf w=>
 vK (aP 20 w b) λa8=>
 stK 20 j a8 w λbg x=>
 vK (aP 20 x j) λa9=>
 R a9 x
theorem Og (H:DD a0 a1 a2 a3 a4 a5 h R):ag prog uz #[a0,a1,a2,a3,a4,a5] h R:=fk f89 (.s .z (.s .z (.j 34225520640 [] (.d (.op 1 .r (.op 2 .r (.op 4 .r (.alt (.op 0 .e (.alt (.op 3 .e (.op 5 .e (.op 6 .e (.op 7 .r (.op 8 .n .nil))))) (.op 5 .e (.op 3 .e (.op 6 .e (.op 7 .r (.op 8 .n .nil))))))) (.op 5 .e (.op 0 .e (.op 3 .e (.op 6 .e (.op 7 .r (.op 8 .n .nil))))))))))) (.s .z .z)))) H
def nQ (a0:Value)(h:ah)(R:Value→ah→Prop):Prop:=
 vK (aS a0) λb=>
 vK (aB 2 b) λc=>
 vK (ldV h c) λa=>
 vK (gV a false (some a0)) λd=>
 vK (gV a false (aS d)) λe=>
 vK (gV a false (aB 1 e)) λf=>
 vK (gV a false (ldV h f)) λg=>
 vK (gV a false (aD g)) λj=>
 vK (gV a false (some a0)) λk=>
 vK (gV a false (aS k)) λl=>
 vK (gV a false (aB 0 l)) λm=>
 vK (gV a false (ldV h m)) λn=>
 vK (gV a false (aj .i .lss j n)) λo=>
 vK (aE a (.bool true) o) λp=>
 R p h
theorem yY (H:nQ a0 h R):ag prog io #[a0] h R:=fk f90 (.s .z (.s .z .z)) H
def pN (a0:Value)(h:ah)(R:Value→ah→Prop):Prop:=
 vK (aS a0) λa=>
 vK (aB 2 a) λb=>
 vK (ldV h b) λc=>
 R c h
theorem AG (H:pN a0 h R):ag prog iQ #[a0] h R:=fk f91 (.s .z (.s .z .z)) H
def wI (a0:Value)(h:ah)(R:Value→ah→Prop):Prop:=
 vK (aS a0) λa=>
 vK (aB 11 a) λb=>
 vK (ldV h b) λc=>
 vK (aD c) λd=>
 vK (aS a0) λe=>
 vK (aB 6 e) λf=>
 vK (ldV h f) λg=>
 vK (aD g) λj=>
 vK (aj .i .eql d j) λk=>
 R k h
theorem GH (H:wI a0 h R):ag prog qO #[a0] h R:=fk f92 (.s .z (.s .z .z)) H
def tz (a0 a1:Value)(h:ah)(R:Value→ah→Prop):Prop:=
 vK (aS a0) λb=>
 vK (aB 2 b) λc=>
 vK (ldV h c) λd=>
 aF d (
 R (af 2) h) (
 ag prog io #[a0] h λe a=>
 vK (unV .not e) λf=>
 aF f (
 R aH a) (
 vK (aS a0) λg=>
 vK (aB 1 g) λi=>
 vK (ldV a i) λj=>
 di #[ai] 3 1 [(0,1,a1)] a λk l=>
 dk ai 3 1 8 j k l λm n=>
 vK (aS a0) λo=>
 vK (aB 1 o) λp=>
 stK 1 p m n λr q=>
 R ai q))
theorem Dp (H:tz a0 a1 h R):ag prog mZ #[a0,a1] h R:=fk f93 (.s .z (.s (.s .z (.s (.s .z .z) (.s .z (.s (.s .z .z) .z)))) (.s .z (.s .z .z)))) H
def tE (a0 a1:Value)(h:ah)(R:Value→ah→Prop):Prop:=
 ag prog kP #[a0,a1] h λb d=>
 ag prog jI #[a0,a1] d λe a=>
 aF e (
 vK (aS a0) λf=>
 vK (aB 0 f) λg=>
 vK (ldV a g) λj=>
 vK (bh 1 j a1) λk=>
 vK (ldV a k) λc=>
 vK (bh 1 c a1) λl=>
 vK (ldV a l) λm=>
 vK (aj .i .add m aH) λn=>
 vK (bh 1 c a1) λo=>
 stK 1 o n a λq p=>
 R b p) (
 R b a)
theorem Dt (H:tE a0 a1 h R):ag prog ij #[a0,a1] h R:=fk f94 (.s .z (.s .z (.s (.s .z (.s .z .z)) (.s .z .z)))) H
def tF (a0 a1 a2:Value)(h:ah)(R:Value→ah→Prop):Prop:=
 ag prog jI #[a0,a1] h λf d=>
 vK (unV .not f) λa=>
 vK (gV a false (some a2)) λg=>
 vK (gV a false (aD g)) λj=>
 vK (gV a false (some a0)) λk=>
 vK (gV a false (aS k)) λl=>
 vK (gV a false (aB 0 l)) λm=>
 vK (gV a false (ldV d m)) λn=>
 vK (gV a false (aD n)) λo=>
 vK (gV a false (aj .i .neq j o)) λp=>
 vK (aE a (.bool true) p) λc=>
 vK (gV c false (some a2)) λq=>
 gK c false (λr=>ag prog gE #[q] d r) d λs b=>
 vK (gV c false (aj .i .lss s ai)) λt=>
 vK (aE c (.bool true) t) λu=>
 aF u (
 R (.bool false) b) (
 bK b λS=>
 vK (aS a0) λv=>
 vK (aB 0 v) λw=>
 qK S (λb=>ldV b w) λx=>
 vK (aS a0) λy=>
 vK (aB 0 y) λz=>
 qK S (λb=>ldV b z) λaa=>
 vK (bh 1 aa a1) λab=>
 qK S (λb=>ldV b ab) λac=>
 ag prog Aa #[ac,a2] b λad e=>
 S e∧(vK (bh 1 x a1) λae=>
 stK 1 ae ad e λak af=>
 R (.bool true) af))
theorem Du (H:tF a0 a1 a2 h R):ag prog gb #[a0,a1,a2] h R:=fk f95 (.s .z (.s (.s .z (.s (.s .z .z) .z)) (.s (.d (.op 0 .r (.op 1 .r (.op 2 .r (.op 3 .r (.op 4 .r (.op 5 .r (.op 6 .r (.op 7 .r (.op 8 .r (.op 9 .r (.op 10 .r (.op 11 .r (.op 12 .r (.op 13 .e (.op 14 .r (.op 15 .n .nil))))))))))))))))) (.s .z .z)))) H
def rB (a0 a1 a2:Value)(h:ah)(R:Value→ah→Prop):Prop:=
 vK (ldV h a1) λd=>
 ag prog qM #[d,a0] h λb a=>
 vK (aj .p .neq b (.pointer none)) λe=>
 aF e (
 bK a λS=>
 qK S (λa=>ldV a a1) λf=>
 vK (aS f) λg=>
 vK (aB 7 g) λj=>
 qK S (λa=>ldV a j) λk=>
 qK S (λa=>ldV a a2) λl=>
 vK (aj .i .sub l aH) λm=>
 ag prog jZ #[b] a λn c=>
 S c∧(vK (bh 1 k m) λo=>
 stK 1 o n c λr q=>
 R b q)) (
 R b a)
theorem BG (H:rB a0 a1 a2 h R):ag prog gH #[a0,a1,a2] h R:=fk f96 (.s .z (.s .z (.s (.s .z (.s (.d (.op 0 .r (.op 1 .r (.op 2 .r (.op 3 .r (.op 4 .r (.op 5 .r (.op 6 .r (.op 7 .e (.op 8 .r (.op 9 .n .nil))))))))))) .z)) (.s .z .z)))) H
def wF (a0 a1:Value)(h:ah)(R:Value→ah→Prop):Prop:=
 vK (aS a0) λg=>
 vK (aB 2 g) λj=>
 vK (ldV h j) λk=>
 ag prog ga #[k,a1] h λb l=>
 vK (aL b 0) λm=>
 vK (aL b 1) λac=>
 aW #[ai,ai,ai,ai,ai,ai,ai,ai,ai,ai] 116 l λc n=>
 stK 10 c m n λad a=>
 bK a λS=>
 vK (aS a0) λo=>
 vK (aB 0 o) λp=>
 qK S (λa=>ldV a p) λq=>
 vK (aS a0) λr=>
 vK (aB 1 r) λs=>
 qK S (λa=>ldV a s) λt=>
 vK (aS a0) λu=>
 vK (aB 2 u) λv=>
 qK S (λa=>ldV a v) λw=>
 qK S (λa=>aP 10 a c) λx=>
 ag prog iS #[w] a λy d=>
 S d∧(ag prog oN #[q,t,y,x] d λe f=>
 vK (aL e 0) λz=>
 vK (aL e 1) λaa=>
 vK (aj .i .neq aa ai) λab=>
 aF ab (
 R (.pointer none) f) (
 R z f))
theorem GE (H:wF a0 a1 h R):ag prog qM #[a0,a1] h R:=fk f97 (.s .z (.s .z (.s (.d (.op 0 .r (.op 1 .r (.op 2 .r (.op 3 .r (.op 4 .r (.op 5 .r (.op 6 .r (.op 7 .r (.op 8 .r (.op 9 .r (.op 10 .r (.op 11 .r (.op 13 .r (.op 12 .e (.op 14 .n (.op 15 .r (.op 16 .r (.op 17 .r (.op 18 .r (.op 19 .r .nil))))))))))))))))))))) (.s (.s .z (.s (.s .z .z) .z)) (.s .z .z))))) H
def tg (a0:Value)(h:ah)(R:Value→ah→Prop):Prop:=
 vK (aS a0) λa=>
 vK (aB 15 a) λb=>
 vK (ldV h b) λc=>
 ag prog oU #[c] h λd e=>
 R d e
theorem Dj (H:tg a0 h R):ag prog jZ #[a0] h R:=fk f98 (.s .z (.s .z .z)) H
def uX (a0 a1 a2:Value)(h:ah)(R:Value→ah→Prop):Prop:=
 aW (Value.cells a2) 148 h λe d=>
 fo (λf=>
 bK d λS=>
 vK (aS a0) λac=>
 vK (aB 2 ac) λad=>
 qK S (λd=>ldV d ad) λg=>
 vK (aB 1 e) λae=>
 qK S (λd=>ldV d ae) λj=>
 (ag prog ga #[g,j] d λk l=>
 S l∧(vK (aL k 0) λaf=>
 vK (aL k 1) λce=>
 aW #[ai,ai,ai,ai,ai,ai,ai,ai,ai,ai] 116 l λm n=>
 S n∧(stK 10 m af n λcf o=>
 S o∧(f [m] o))))∧(aW #[ai,ai,ai,ai,ai,ai,ai,ai,ai,ai] 116 d λp q=>
 S q∧(ag prog ga #[g,j] q λr s=>
 S s∧(vK (aL r 0) λak=>
 vK (aL r 1) λcg=>
 stK 10 p ak s λch t=>
 S t∧(f [p] t)))))
 λu ci a=>
 vK (aS a0) λal=>
 vK (aB 7 al) λam=>
 vK (ldV a am) λan=>
 vK (aj .i .sub a1 aH) λao=>
 vK (bh 1 an ao) λap=>
 vK (ldV a ap) λv=>
 vK (aB 2 e) λaq=>
 vK (aB 0 aq) λar=>
 vK (ldV a ar) λau=>
 vK (aj .i .eql au aH) λav=>
 aF av (
 bK a λS=>
 vK (aS a0) λaw=>
 vK (aB 0 aw) λax=>
 qK S (λa=>ldV a ax) λay=>
 vK (aS a0) λaz=>
 vK (aB 0 az) λa3=>
 qK S (λa=>ldV a a3) λa4=>
 ag prog bM #[ay] a λa5 w=>
 S w∧(ag prog aV #[a4] w λa6 c=>
 vK (aj .i .mul a5 a6) λx=>
 bK c λS=>
 vK (aS a0) λa7=>
 vK (aB 2 a7) λa8=>
 qK S (λc=>ldV c a8) λa9=>
 vK (aB 2 e) λba=>
 vK (aB 1 ba) λbb=>
 qK S (λc=>ldV c bb) λbc=>
 vK (aS a0) λbd=>
 vK (aB 0 bd) λbe=>
 qK S (λc=>ldV c be) λbf=>
 ag prog iS #[a9] c λbg y=>
 S y∧(vK (pV false 1 2 bg) λbi=>
 ag prog bO #[bf] y λbj z=>
 S z∧(ag prog lz #[bi,bc,bj] z λbk bl=>
 vK (aj .i .mul bk x) λbm=>
 ag prog dO #[a0,a1,ai,bm,x,(.bool false)] bl λcj bn=>
 vK (aj .i .add aH a1) λbo=>
 ag prog dO #[a0,a1,bo,ai,v,(.bool true)] bn λck bp=>
 R (.tuple #[]) bp)))) (
 vK (aS a0) λbq=>
 vK (aB 1 bq) λbr=>
 vK (ldV a br) λbs=>
 ag prog aV #[bs] a λaa bt=>
 vK (aj .i .add aH a1) λbu=>
 ag prog dO #[a0,a1,bu,ai,v,(.bool false)] bt λcl b=>
 bK b λS=>
 vK (aB 2 e) λbv=>
 vK (aB 1 bv) λbw=>
 qK S (λb=>ldV b bw) λbx=>
 vK (aS a0) λbz=>
 vK (aB 1 bz) λb0=>
 qK S (λb=>ldV b b0) λb1=>
 vK (aB 1 (ix u 0)) λb2=>
 vK (aB 0 b2) λb3=>
 qK S (λb=>ldV b b3) λb4=>
 vK (aB 1 (ix u 0)) λb5=>
 vK (aB 2 b5) λb6=>
 qK S (λb=>ldV b b6) λb7=>
 vK (aj .i .mul b7 aa) λb8=>
 ag prog bM #[b1] b λb9 ab=>
 S ab∧(vK (aj .i .mul bx b9) λca=>
 vK (aj .i .add ca b4) λcb=>
 vK (aj .i .mul cb aa) λcc=>
 ag prog dO #[a0,a1,aH,cc,b8,(.bool true)] ab λcm cd=>
 R (.tuple #[]) cd))
theorem EQ (H:uX a0 a1 a2 h R):ag prog pg #[a0,a1,a2] h R:=fk f99 (.s .z (.j 4190400 [6] (.d (.op 0 .r (.op 1 .r (.op 2 .r (.op 3 .r (.op 4 .r (.op 5 .r (.alt (.op 6 .e (.op 7 .r (.op 8 .r (.op 9 .r (.op 10 .e (.op 11 .e (.op 12 .r .nil))))))) (.op 10 .e (.op 6 .e (.op 7 .r (.op 8 .r (.op 9 .r (.op 11 .e (.op 12 .r .nil))))))))))))))) (.s .z (.s (.s .z (.s (.s (.d (.op 0 .r (.op 1 .r (.op 2 .r (.op 3 .r (.op 5 .r (.op 6 .r (.op 7 .r (.op 8 .r (.op 4 .e (.op 9 .n (.op 10 .r (.op 11 .r .nil))))))))))))) (.s (.d (.op 0 .r (.op 1 .r (.op 2 .r (.op 3 .r (.op 6 .r (.op 7 .r (.op 8 .r (.op 9 .r (.op 10 .r (.op 11 .r (.op 12 .r (.op 4 .e (.op 5 .r (.op 13 .e (.op 14 .n (.op 15 .r .nil))))))))))))))))) (.s .z (.s .z .z)))) .z)) (.s .z (.s .z (.d (.op 0 .r (.op 1 .r (.op 2 .r (.op 3 .r (.op 4 .r (.op 5 .r (.op 6 .r (.op 7 .r (.op 8 .r (.op 11 .r (.op 12 .r (.op 13 .r (.op 15 .r (.op 17 .r (.op 18 .r (.op 19 .r (.op 20 .r (.op 21 .r (.op 9 .e (.op 10 .r (.op 14 .r (.op 16 .r (.op 22 .n .nil)))))))))))))))))))))))))))))) H
def kQ (a0:Value)(h:ah)(R:Value→ah→Prop):Prop:=
 vK (aj .sl .eql a0 (.slice none 0 0)) λa=>
 aF a (
 R (.slice none 0 0) h) (
 di #[] 3 0 [] h λb c=>
 dk ai 3 1 8 b a0 c λd e=>
 R d e)
theorem vv (H:kQ a0 h R):ag prog iD #[a0] h R:=fk f100 (.s .z (.s (.s .z (.s (.s .z .z) .z)) (.s .z .z))) H
def rD (a0:Value)(h:ah)(R:Value→ah→Prop):Prop:=
 bK h λS=>
 vK (aS a0) λb=>
 vK (aB 0 b) λc=>
 vK (aB 0 c) λd=>
 qK S (λh=>ldV h d) λe=>
 vK (aS a0) λf=>
 vK (aB 3 f) λg=>
 qK S (λh=>ldV h g) λi=>
 ag prog bJ #[e] h λj a=>
 S a∧(ag prog uF #[j,i] a λk l=>
 R k l)
theorem BI (H:rD a0 h R):ag prog gI #[a0] h R:=fk f101 (.s .z (.s (.d (.op 0 .r (.op 1 .r (.op 2 .r (.op 3 .r (.op 4 .r (.op 6 .r (.op 7 .r (.op 8 .r (.op 9 .r (.op 5 .e (.op 10 .n (.op 11 .r .nil))))))))))))) .z)) H
def DY (a0 a1:Value)(h:ah)(R:Value→ah→Prop):Prop:=
 vK (aj .i .add a0 a1) λa=>
 vK (aj .i .sub a aH) λb=>
 vK (aj .i .quo b a1) λc=>
 R c h
theorem OF (H:DY a0 a1 h R):ag prog uF #[a0,a1] h R:=fk f102 (.s .z (.s .z .z)) H
def wK (a0 a1:Value)(h:ah)(R:Value→ah→Prop):Prop:=
 aW #[ai,ai,ai,ai,ai,ai,ai,ai,ai,ai] 116 h λf l=>
 vK (aj .i .lss a1 ai) λe=>
 vK (gV e false (some a1)) λaf=>
 vK (gV e false (some a0)) λak=>
 gK e false (λal=>ag prog dZ #[ak] l al) l λam d=>
 vK (gV e false (aj .i .geq af am)) λan=>
 vK (aE e (.bool true) an) λao=>
 aF ao (
 vK ((aM #[ai,ai,ai,ai,ai,ai,ai,ai,ai,ai] []).map .agg) λap=>
 stK 10 f ap d λcc m=>
 vK (aP 10 m f) λaq=>
 R (.tuple #[aq,(.bool false)]) m) (
 fo (λg=>
 bK d λS=>
 vK (aS a0) λar=>
 vK (aB 0 ar) λau=>
 vK (aB 1 au) λav=>
 qK S (λd=>ldV d av) λj=>
 (ag prog mL #[a0,a1] d λn k=>
 S k∧((ag prog fV #[j] k λaw o=>
 S o∧(vK ((aM #[ai,ai,ai,ai,ai,ai,ai,ai,ai,ai] [(0,1,a1),(1,4,n),(9,1,aw)]).map .agg) λax=>
 aW #[ai,ai,ai,ai,ai,ai,ai,ai,ai,ai] 116 o λp q=>
 S q∧(stK 10 p ax q λcd r=>
 S r∧(g [p] r))))∧(aW #[ai,ai,ai,ai,ai,ai,ai,ai,ai,ai] 116 k λs t=>
 S t∧(ag prog fV #[j] t λay u=>
 S u∧(vK ((aM #[ai,ai,ai,ai,ai,ai,ai,ai,ai,ai] [(0,1,a1),(1,4,n),(9,1,ay)]).map .agg) λaz=>
 stK 10 s az u λce v=>
 S v∧(g [s] v))))))∧(aW #[ai,ai,ai,ai,ai,ai,ai,ai,ai,ai] 116 d λw x=>
 S x∧(ag prog mL #[a0,a1] x λa2 y=>
 S y∧(ag prog fV #[j] y λa3 z=>
 S z∧(vK ((aM #[ai,ai,ai,ai,ai,ai,ai,ai,ai,ai] [(0,1,a1),(1,4,a2),(9,1,a3)]).map .agg) λa4=>
 stK 10 w a4 z λcf aa=>
 S aa∧(g [w] aa))))))
 λa cg b=>
 bK b λS=>
 vK (aS a0) λa5=>
 vK (aB 0 a5) λa6=>
 vK (aB 0 a6) λa7=>
 qK S (λb=>ldV b a7) λa8=>
 vK (aB 1 (ix a 0)) λa9=>
 vK (aB 0 a9) λba=>
 qK S (λb=>ldV b ba) λbb=>
 vK (aB 1 (ix a 0)) λbc=>
 vK (aB 0 bc) λbd=>
 qK S (λb=>ldV b bd) λbe=>
 vK (aB 1 (ix a 0)) λbf=>
 vK (aB 2 bf) λbg=>
 qK S (λb=>ldV b bg) λbh=>
 vK (aj .i .add be bh) λbi=>
 ag prog gG #[a8,bb,bi] b λab bj=>
 vK (aL ab 0) λbk=>
 vK (aL ab 1) λbl=>
 vK (aB 5 (ix a 0)) λbm=>
 stK 1 bm bk bj λch bn=>
 vK (aB 7 (ix a 0)) λbo=>
 stK 1 bo bl bn λci c=>
 bK c λS=>
 vK (aS a0) λbp=>
 vK (aB 0 bp) λbq=>
 vK (aB 1 bq) λbr=>
 qK S (λc=>ldV c br) λbs=>
 vK (aB 1 (ix a 0)) λbt=>
 vK (aB 1 bt) λbu=>
 qK S (λc=>ldV c bu) λbv=>
 vK (aB 1 (ix a 0)) λbw=>
 vK (aB 1 bw) λbx=>
 qK S (λc=>ldV c bx) λbz=>
 vK (aB 1 (ix a 0)) λb0=>
 vK (aB 3 b0) λb1=>
 qK S (λc=>ldV c b1) λb2=>
 vK (aj .i .add bz b2) λb3=>
 ag prog gG #[bs,bv,b3] c λac b4=>
 vK (aL ac 0) λb5=>
 vK (aL ac 1) λb6=>
 vK (aB 6 (ix a 0)) λb7=>
 stK 1 b7 b5 b4 λcj b8=>
 vK (aB 8 (ix a 0)) λb9=>
 stK 1 b9 b6 b8 λck ad=>
 vK (aP 10 ad (ix a 0)) λca=>
 stK 10 f ca ad λcl ae=>
 vK (aP 10 ae f) λcb=>
 R (.tuple #[cb,(.bool true)]) ae)
theorem GJ (H:wK a0 a1 h R):ag prog ga #[a0,a1] h R:=fk f103 (.s .z (.s (.s .z (.s (.s .z .z) .z)) (.j 134152256 [6] (.d (.op 0 .r (.op 1 .r (.op 2 .r (.op 4 .r (.op 5 .r (.op 6 .r (.op 7 .r (.op 8 .r (.alt (.op 3 .e (.alt (.op 9 .e (.op 10 .r (.op 11 .e (.op 12 .e .nil)))) (.op 11 .e (.op 9 .e (.op 10 .r (.op 12 .e .nil)))))) (.op 11 .e (.op 3 .e (.op 9 .e (.op 10 .r (.op 12 .e .nil))))))))))))))) (.s (.d (.op 0 .r (.op 1 .r (.op 2 .r (.op 3 .r (.op 4 .r (.op 5 .r (.op 6 .r (.op 7 .r (.op 8 .r (.op 9 .r (.op 10 .r (.op 11 .r (.op 12 .r (.op 13 .r (.op 14 .r (.op 15 .n (.op 16 .r (.op 17 .r (.op 18 .r (.op 19 .r (.op 20 .n (.op 21 .r (.op 22 .n .nil)))))))))))))))))))))))) (.s (.d (.op 0 .r (.op 1 .r (.op 2 .r (.op 3 .r (.op 4 .r (.op 5 .r (.op 6 .r (.op 7 .r (.op 8 .r (.op 9 .r (.op 10 .r (.op 11 .r (.op 12 .r (.op 13 .r (.op 14 .r (.op 15 .n (.op 16 .r (.op 17 .r (.op 18 .r (.op 19 .r (.op 20 .n (.op 21 .r (.op 22 .n .nil)))))))))))))))))))))))) (.s .z .z)))))) H
def xX (a0 a1:Value)(h:ah)(R:Value→ah→Prop):Prop:=
 aW (Value.cells a0) 81 h λl t=>
 aW (Value.cells a1) 114 t λb a=>
 bK a λS=>
 vK (aB 0 l) λu=>
 qK S (λa=>ldV a u) λv=>
 vK (aj .p .neq v (.pointer none)) λm=>
 vK (gV m true (aB 1 l)) λw=>
 qK S (λa=>gV m true (ldV a w)) λx=>
 vK (gV m true (aj .p .neq x (.pointer none))) λy=>
 vK (aE m y (.bool false)) λn=>
 vK (gV n true (aB 2 b)) λz=>
 qK S (λa=>gV n true (ldV a z)) λaa=>
 vK (gV n true (aj .i .geq aa aH)) λab=>
 vK (aE n ab (.bool false)) λo=>
 vK (gV o true (aB 3 b)) λac=>
 qK S (λa=>gV o true (ldV a ac)) λad=>
 vK (gV o true (aj .i .geq ad aH)) λae=>
 vK (aE o ae (.bool false)) λq=>
 vK (gV q true (aB 0 b)) λaf=>
 qK S (λa=>gV q true (ldV a af)) λak=>
 vK (gV q true (aj .i .geq ak ai)) λal=>
 vK (aE q al (.bool false)) λr=>
 vK (gV r true (aB 1 b)) λam=>
 qK S (λa=>gV r true (ldV a am)) λan=>
 vK (gV r true (aj .i .geq an ai)) λao=>
 vK (aE r ao (.bool false)) λg=>
 vK (gV g true (aB 0 b)) λap=>
 qK S (λa=>gV g true (ldV a ap)) λaq=>
 vK (gV g true (aB 0 l)) λar=>
 qK S (λa=>gV g true (ldV a ar)) λau=>
 gK g true (λav=>ag prog bJ #[au] a av) a λaw j=>
 S j∧(vK (gV g true (aj .i .lss aq aw)) λax=>
 vK (aE g ax (.bool false)) λk=>
 vK (gV k true (aB 1 b)) λay=>
 qK S (λj=>gV k true (ldV j ay)) λaz=>
 vK (gV k true (aB 1 l)) λa2=>
 qK S (λj=>gV k true (ldV j a2)) λa3=>
 gK k true (λa4=>ag prog bJ #[a3] j a4) j λa5 e=>
 S e∧(vK (gV k true (aj .i .lss az a5)) λa6=>
 vK (aE k a6 (.bool false)) λc=>
 vK (gV c true (aB 2 b)) λa7=>
 qK S (λe=>gV c true (ldV e a7)) λa8=>
 vK (gV c true (aB 0 l)) λa9=>
 qK S (λe=>gV c true (ldV e a9)) λba=>
 vK (gV c true (aB 0 b)) λbb=>
 qK S (λe=>gV c true (ldV e bb)) λbc=>
 gK c true (λbd=>ag prog bJ #[ba] e bd) e λbe f=>
 S f∧(vK (gV c true (aj .i .sub be bc)) λbf=>
 vK (gV c true (aj .i .leq a8 bf)) λbg=>
 vK (aE c bg (.bool false)) λd=>
 vK (gV d true (aB 3 b)) λbh=>
 qK S (λf=>gV d true (ldV f bh)) λbi=>
 vK (gV d true (aB 1 l)) λbj=>
 qK S (λf=>gV d true (ldV f bj)) λbk=>
 vK (gV d true (aB 1 b)) λbl=>
 qK S (λf=>gV d true (ldV f bl)) λbm=>
 gK d true (λbn=>ag prog bJ #[bk] f bn) f λbo s=>
 S s∧(vK (gV d true (aj .i .sub bo bm)) λbp=>
 vK (gV d true (aj .i .leq bi bp)) λbq=>
 vK (aE d bq (.bool false)) λbr=>
 R br s))))
theorem Iy (H:xX a0 a1 h R):ag prog mH #[a0,a1] h R:=fk f104 (.s .z (.s (.d (.op 0 .r (.op 1 .r (.op 2 .r (.op 3 .r (.op 4 .r (.op 5 .r (.op 6 .r (.op 7 .r (.op 8 .r (.op 9 .r (.op 10 .r (.op 11 .r (.op 12 .r (.op 13 .r (.op 14 .r (.op 15 .r (.op 16 .r (.op 17 .r (.op 18 .r (.op 19 .r (.op 20 .r (.op 21 .r (.op 22 .r (.op 23 .r (.op 24 .r (.op 25 .r (.op 26 .r (.op 27 .r (.op 28 .r (.op 29 .r (.op 30 .r (.op 31 .r (.op 32 .r (.op 33 .e (.op 34 .r (.op 35 .r (.op 36 .r (.op 37 .r (.op 38 .r (.op 39 .r (.op 40 .r (.op 41 .e (.op 42 .r (.op 43 .r (.op 44 .r (.op 45 .r (.op 46 .r (.op 47 .r (.op 48 .r (.op 50 .r (.op 51 .r (.op 49 .e (.op 52 .r (.op 53 .r (.op 54 .r (.op 55 .r (.op 56 .r (.op 57 .r (.op 58 .r (.op 59 .r (.op 61 .r (.op 62 .r (.op 60 .e (.op 63 .r (.op 64 .r (.op 65 .r (.op 66 .r .nil)))))))))))))))))))))))))))))))))))))))))))))))))))))))))))))))))))) .z)) H
end
section
variable {a0 a1 a2 a3 a4 a5 a6:Value}{h:ah}{R:Value→ah→Prop}
def tm (a0 a1:Value)(h:ah)(R:Value→ah→Prop):Prop:=
 aW #[ai,(.slice none 0 0)] 189 h λc a=>
 vK (aj .i .lss a1 ai) λb=>
 vK (gV b false (some a1)) λg=>
 vK (gV b false (some a0)) λj=>
 vK (gV b false (aS j)) λk=>
 vK (gV b false (aB 1 k)) λl=>
 vK (gV b false (ldV a l)) λm=>
 vK (gV b false (aD m)) λn=>
 vK (gV b false (aj .i .geq g n)) λo=>
 vK (aE b (.bool true) o) λp=>
 aF p (
 vK ((aM #[ai,(.slice none 0 0)] []).map .agg) λq=>
 stK 2 c q a λal d=>
 vK (aP 2 d c) λr=>
 R r d) (
 bK a λS=>
 vK (aS a0) λs=>
 vK (aB 1 s) λt=>
 qK S (λa=>ldV a t) λu=>
 vK (bh 2 u a1) λv=>
 vK (aB 0 v) λw=>
 qK S (λa=>ldV a w) λx=>
 vK (aS a0) λy=>
 vK (aB 1 y) λz=>
 qK S (λa=>ldV a z) λaa=>
 vK (bh 2 aa a1) λab=>
 vK (aB 1 ab) λac=>
 qK S (λa=>ldV a ac) λad=>
 ag prog df #[ad] a λae e=>
 S e∧(vK ((aM #[ai,(.slice none 0 0)] [(0,1,x),(1,1,ae)]).map .agg) λaf=>
 stK 2 c af e λam f=>
 vK (aP 2 f c) λak=>
 R ak f))
theorem Dm (H:tm a0 a1 h R):ag prog bF #[a0,a1] h R:=fk f105 (.s .z (.s (.s .z (.s (.s .z .z) .z)) (.s (.d (.op 0 .r (.op 1 .r (.op 2 .r (.op 3 .r (.op 4 .r (.op 5 .r (.op 6 .r (.op 7 .r (.op 8 .r (.op 9 .r (.op 10 .r (.op 11 .r (.op 12 .r (.op 13 .r (.op 14 .r (.op 15 .r (.op 16 .e (.op 17 .r (.op 18 .n .nil)))))))))))))))))))) .z))) H
def Ap (a0:Value)(h:ah)(R:Value→ah→Prop):Prop:=
 aW (Value.cells a0) 120 h λa f=>
 aW #[ai,(.slice none 0 0),ai,ai,ai,(.bool false)] 120 f λb c=>
 vK (aB 1 a) λg=>
 vK (ldV c g) λi=>
 ag prog dK #[i] c λj k=>
 vK (aB 1 a) λl=>
 stK 1 l j k λo d=>
 vK (aP 6 d a) λm=>
 stK 6 b m d λp e=>
 vK (aP 6 e b) λn=>
 R n e
theorem Kn (H:Ap a0 h R):ag prog vT #[a0] h R:=fk f106 (.s .z (.s .z (.s .z .z))) H
def Ao (a0 a1:Value)(h:ah)(R:Value→ah→Prop):Prop:=
 aW (Value.cells a0) 120 h λc e=>
 aW (Value.cells a1) 120 e λd b=>
 vK (aB 2 c) λf=>
 vK (ldV b f) λg=>
 vK (aB 2 d) λj=>
 vK (ldV b j) λk=>
 vK (aj .i .eql g k) λa=>
 vK (gV a true (aB 3 c)) λl=>
 vK (gV a true (ldV b l)) λm=>
 vK (gV a true (aB 3 d)) λn=>
 vK (gV a true (ldV b n)) λo=>
 vK (gV a true (ju m o)) λp=>
 vK (gV a true (aB 4 c)) λq=>
 vK (gV a true (ldV b q)) λr=>
 vK (gV a true (aB 4 d)) λs=>
 vK (gV a true (ldV b s)) λt=>
 vK (gV a true (rR r t)) λu=>
 vK (gV a true (aj .i .lss p u)) λv=>
 vK (aE a v (.bool false)) λw=>
 R w b
theorem Km (H:Ao a0 a1 h R):ag prog vS #[a0,a1] h R:=fk f112 (.s .z (.s .z .z)) H
def Bq (a0 a1:Value)(h:ah)(R:Value→ah→Prop):Prop:=
 ag prog xT #[a0,a1] h λa b=>
 vK (gV a true (some a0)) λc=>
 vK (gV a true (some a1)) λd=>
 gK a true (λe=>ag prog xU #[c,d] b e) b λf g=>
 vK (gV a true (unV .not f)) λi=>
 vK (aE a i (.bool false)) λj=>
 R j g
theorem Mw (H:Bq a0 a1 h R):ag prog rh #[a0,a1] h R:=fk f113 (.s .z (.s .z .z)) H
def A2 (a0 a1 a2:Value)(h:ah)(R:Value→ah→Prop):Prop:=
 vK (aj .i .geq a0 aH) λc=>
 vK (gV c true (some a0)) λg=>
 vK (gV c true (aj .i .leq g (af 65536))) λj=>
 vK (aE c j (.bool false)) λd=>
 vK (gV d true (some a1)) λk=>
 vK (gV d true (aj .i .geq k aH)) λl=>
 vK (aE d l (.bool false)) λe=>
 vK (gV e true (some a1)) λm=>
 vK (gV e true (aj .i .leq m (af 65536))) λn=>
 vK (aE e n (.bool false)) λb=>
 vK (gV b true (some a2)) λo=>
 vK (gV b true (aj .i .eql o aH)) λp=>
 vK (gV b true (some p)) λf=>
 vK (gV f false (some a2)) λq=>
 vK (gV f false (aj .i .eql q (af 3))) λr=>
 vK (gV b true (aE f (.bool true) r)) λs=>
 vK (aE b s (.bool false)) λa=>
 vK (gV a true (some a0)) λt=>
 vK (gV a true (some a1)) λu=>
 vK (gV a true (aj .i .mul t u)) λv=>
 vK (gV a true (some a2)) λw=>
 vK (gV a true (aj .i .mul v w)) λx=>
 vK (gV a true (aj .i .leq x (af 268435456))) λy=>
 vK (aE a y (.bool false)) λz=>
 R z h
theorem Ma (H:A2 a0 a1 a2 h R):ag prog mu #[a0,a1,a2] h R:=fk f117 (.s .z (.s .z .z)) H
def Br (a0:Value)(h:ah)(R:Value→ah→Prop):Prop:=
 vK (aj .i .lss a0 ai) λa=>
 vK (gV a false (some a0)) λb=>
 vK (gV a false (ldV h (.pointer (some ⟨oL,0,none⟩)))) λc=>
 vK (gV a false (aD c)) λd=>
 vK (gV a false (aj .i .geq b d)) λe=>
 vK (aE a (.bool true) e) λf=>
 aF f (
 R (.string ⟨#[]⟩) h) (
 vK (ldV h (.pointer (some ⟨oL,0,none⟩))) λg=>
 vK (bh 1 g a0) λj=>
 vK (ldV h j) λk=>
 R k h)
theorem Mx (H:Br a0 h R):ag prog ri #[a0] h R:=fk f118 (.s .z (.s (.s .z (.s (.s .z .z) .z)) (.s .z .z))) H
def Ju (a0:Value)(h:ah)(R:Value→ah→Prop):Prop:=
 vK (aj .i .lss a0 ai) λa=>
 vK (gV a false (some a0)) λb=>
 vK (gV a false (aj .i .geq b (af 3))) λc=>
 vK (aE a (.bool true) c) λd=>
 aF d (
 R (.string ⟨#[]⟩) h) (
 vK (MX 3 2 (.pointer (some ⟨fK,0,none⟩)) a0) λe=>
 vK (aB 0 e) λf=>
 vK (ldV h f) λg=>
 R g h)
theorem Tg (H:Ju a0 h R):ag prog zS #[a0] h R:=fk f119 (.s .z (.s (.s .z (.s (.s .z .z) .z)) (.s .z .z))) H
def Ag (a0 a1 a2:Value)(h:ah)(R:Value→ah→Prop):Prop:=
 ag prog zS #[a0] h λo d=>
 vK (aj .s .eql o (.string ⟨#[]⟩)) λa=>
 vK (gV a false (some a1)) λp=>
 gK a false (λq=>ag prog oQ #[p] d q) d λr e=>
 vK (gV a false (unV .not r)) λt=>
 vK (aE a (.bool true) t) λb=>
 vK (gV b false (some a2)) λu=>
 gK b false (λv=>ag prog oQ #[u] e v) e λw f=>
 vK (gV b false (unV .not w)) λx=>
 vK (aE b (.bool true) x) λy=>
 aF y (
 R (.tuple #[(.pointer none),(af 6)]) f) (
 vK ((aM #[ai,(.slice none 0 0),ai,ai] [(0,1,a1)]).map .agg) λz=>
 aW (Value.cells z) 224 f λg aa=>
 bA [ai] aa λc ap j ab=>
 vK (aj .i .lss (ix c 0) a2) λac=>
 aF ac (
 ag prog Df #[a0,a1,a2,(ix c 0)] j λk ad=>
 vK (aL k 0) λae=>
 vK (aL k 1) λak=>
 ag prog jF #[ak] ad λl m=>
 vK (aL l 0) λal=>
 vK (aL l 1) λn=>
 vK (aj .i .neq n ai) λam=>
 aF am (
 R (.tuple #[(.pointer none),n]) m) (
 ag prog kM #[g,ae,al] m λaq an=>
 vK (aj .i .add (ix c 0) aH) λao=>
 ab [ao] an)) (
 R (.tuple #[g,ai]) j))
theorem Ke (H:Ag a0 a1 a2 h R):ag prog kY #[a0,a1,a2] h R:=fk f120 (.s .z (.s (.s .z (.s (.s .z .z) .z)) (.s .z (.s (.s .z (.l 36028794871496384 [31] (.s .z (.s (.s .z .z) (.s (.s .z (.s .z (.s .z (.s (.s .z (.s (.s .z .z) .z)) .z)))) .z))))) (.s .z .z))))) H
def DZ (a0:Value)(h:ah)(R:Value→ah→Prop):Prop:=
 aW (Value.cells a0) 31 h λb a=>
 vK (aB 0 b) λn=>
 vK (ldV a n) λd=>
 vK (aj .i .eql d ai) λo=>
 aF o (
 vK (aB 2 b) λp=>
 vK (ldV a p) λq=>
 ag prog mJ #[q] a λe r=>
 vK (aL e 0) λf=>
 vK (aL e 1) λs=>
 R (.tuple #[f,f,s]) r) (
 vK (aj .i .eql d aH) λt=>
 aF t (
 vK (aB 3 b) λu=>
 vK (ldV a u) λv=>
 ag prog Cn #[v] a λg w=>
 vK (aL g 0) λj=>
 vK (aL g 1) λx=>
 R (.tuple #[j,j,x]) w) (
 vK (aB 4 b) λy=>
 vK (ldV a y) λz=>
 ag prog sr #[z] a λk c=>
 vK (aL k 0) λaa=>
 vK (aL k 1) λl=>
 vK (aj .i .neq l ai) λab=>
 aF ab (
 R (.tuple #[(.slice none 0 0),(.slice none 0 0),l]) c) (
 vK (aB 5 b) λac=>
 vK (ldV c ac) λad=>
 ag prog sr #[ad] c λm ae=>
 vK (aL m 0) λaf=>
 vK (aL m 1) λak=>
 R (.tuple #[aa,af,ak]) ae)))
theorem OG (H:DZ a0 h R):ag prog zV #[a0] h R:=fk f121 (.s .z (.s (.s .z (.s .z (.s (.s .z (.s .z .z)) (.s .z (.s (.s .z (.s .z .z)) .z))))) (.s (.s .z (.s .z (.s (.s .z .z) .z))) (.s .z (.s .z .z))))) H
def Ah (a0 a1:Value)(h:ah)(R:Value→ah→Prop):Prop:=
 ag prog oQ #[a1] h λk a=>
 vK (unV .not k) λl=>
 aF l (
 R (.tuple #[(.pointer none),(af 6)]) a) (
 vK (aD a0) λm=>
 vK (aj .i .rem m (af 2)) λn=>
 vK (aj .i .eql n ai) λo=>
 aF o (
 R (.tuple #[(.pointer none),(af 7)]) a) (
 ag prog jF #[a0] a λc d=>
 vK (aL c 0) λe=>
 vK (aL c 1) λf=>
 vK (aj .i .neq f ai) λp=>
 aF p (
 R (.tuple #[(.pointer none),f]) d) (
 vK ((aM #[ai,(.slice none 0 0),ai,ai] [(0,1,a1)]).map .agg) λq=>
 aW (Value.cells q) 224 d λg r=>
 bA [ai] r λb z j s=>
 vK (aj .i .lss (ix b 0) a1) λt=>
 aF t (
 vK (aD e) λu=>
 vK (aj .i .quo u (af 2)) λv=>
 vK (aj .i .sub (ix b 0) v) λw=>
 ag prog kM #[g,w,e] j λaa x=>
 vK (aj .i .add (ix b 0) aH) λy=>
 s [y] x) (
 R (.tuple #[g,ai]) j))))
theorem Kf (H:Ah a0 a1 h R):ag prog oR #[a0,a1] h R:=fk f122 (.s .z (.s (.s .z (.s (.s .z .z) (.s .z (.s (.s .z .z) .z)))) (.s .z (.s (.s .z (.s (.s .z .z) .z)) (.s .z (.s (.s .z (.l 8793945539072 [31] (.s .z (.s (.s .z .z) (.s (.s .z .z) .z))))) (.s .z .z))))))) H
def Bd (h:ah)(R:Value→ah→Prop):Prop:=
 vK ((aM #[ai,ai,ai,ai,(.slice none 0 0),(.slice none 0 0),ai,ai,ai] [(0,1,(af 3)),(7,1,(af 5)),(8,1,(af 3)),(6,1,ai)]).map .agg) λq=>
 ag prog nE #[q,(af 9),(af 9)] h λf r=>
 vK (aL f 0) λs=>
 vK (aL f 1) λt=>
 aW #[(.pointer none),(.pointer none),ai] 81 r λg u=>
 stK 3 g s u λay v=>
 ag prog q8 #[] v λw b=>
 vK (unV .not w) λc=>
 vK (gV c false (some t)) λx=>
 vK (gV c false (aj .i .neq x ai)) λy=>
 vK (aE c (.bool true) y) λz=>
 aF z (
 R (.bool false) b) (
 vK (aP 3 b g) λaa=>
 ag prog zU #[aa,(af 2),(af 2)] b λj k=>
 vK (aL j 0) λd=>
 vK (aL j 1) λab=>
 vK (aj .i .neq ab ai) λe=>
 vK (gV e false (some d)) λac=>
 vK (gV e false (aj .p .eql ac (.pointer none))) λad=>
 vK (aE e (.bool true) ad) λae=>
 aF ae (
 R (.bool false) k) (
 ag prog ga #[d,(af 5)] k λl ak=>
 vK (aL l 0) λal=>
 vK (aL l 1) λam=>
 aW #[ai,ai,ai,ai,ai,ai,ai,ai,ai,ai] 116 ak λm an=>
 stK 10 m al an λaz ao=>
 ag prog dZ #[d] ao λap n=>
 vK (aj .i .eql ap (af 6)) λo=>
 vK (gV o true (some am)) λaq=>
 vK (aE o aq (.bool false)) λa=>
 vK (gV a true (aB 1 m)) λar=>
 vK (gV a true (aP 4 n ar)) λau=>
 vK (gV a true ((aM #[ai,ai,ai,ai] [(0,1,(af 4)),(1,1,(af 2)),(2,1,aH),(3,1,aH)]).map .agg)) λav=>
 vK (gV a true (aj (.st [(0,1,.i),(1,1,.i),(2,1,.i),(3,1,.i)]) .eql au av)) λaw=>
 vK (aE a aw (.bool false)) λax=>
 R ax n))
theorem Ml (H:Bd h R):ag prog xO #[] h R:=fk f123 (.s .z (.s .z (.s (.s .z (.s (.s .z .z) .z)) (.s .z (.s (.s .z (.s (.s .z .z) .z)) (.s .z (.s .z .z))))))) H
def Bc (h:ah)(R:Value→ah→Prop):Prop:=
 di #[(.int .u16 0)] 22 1 [(0,1,(.int .u16 7))] h λs t=>
 ag prog sw #[aH,aH,aH,(af 255),s] t λj u=>
 vK (aL j 0) λk=>
 vK (aL j 1) λv=>
 vK ((aM #[ai,ai,ai,ai,(.slice none 0 0),(.slice none 0 0),ai,ai,ai] [(0,1,aH),(3,1,(af 2))]).map .agg) λw=>
 ag prog nE #[w,aH,aH] u λl x=>
 vK (aL l 0) λy=>
 vK (aL l 1) λz=>
 aW #[(.pointer none),(.pointer none),ai] 81 x λm aa=>
 stK 3 m y aa λa4 ab=>
 ag prog xP #[] ab λac n=>
 vK (unV .not ac) λb=>
 gK b false (λad=>ag prog q8 #[] n ad) n λae c=>
 vK (gV b false (unV .not ae)) λak=>
 vK (aE b (.bool true) ak) λd=>
 vK (gV d false (some v)) λal=>
 vK (gV d false (aj .i .neq al ai)) λam=>
 vK (aE d (.bool true) am) λe=>
 vK (gV e false (some z)) λan=>
 vK (gV e false (aj .i .neq an ai)) λao=>
 vK (aE e (.bool true) ao) λf=>
 vK (gV f false (some k)) λap=>
 vK (gV f false (aj .p .eql ap (.pointer none))) λaq=>
 vK (aE f (.bool true) aq) λar=>
 aF ar (
 R (.bool false) c) (
 vK (aP 3 c m) λau=>
 ag prog vV #[k,au] c λo q=>
 vK (aL o 0) λr=>
 vK (aL o 1) λav=>
 vK (aj .i .eql av ai) λg=>
 vK (gV g true (some r)) λaw=>
 vK (gV g true (aj .p .neq aw (.pointer none))) λax=>
 vK (aE g ax (.bool false)) λa=>
 vK (gV a true (some r)) λay=>
 gK a true (λaz=>ag prog gx #[ay,ai,ai,ai] q az) q λa0 a1=>
 vK (gV a true (aj .i .eql a0 (.int .u16 7))) λa2=>
 vK (aE a a2 (.bool false)) λa3=>
 R a3 a1)
theorem Mk (H:Bc h R):ag prog xN #[] h R:=fk f124 (.s .z (.s .z (.s .z (.s (.s .z (.s (.s .z .z) .z)) (.s .z (.s .z .z)))))) H
def Dy (a0 a1 a2 a3:Value)(h:ah)(R:Value→ah→Prop):Prop:=
 aW (Value.cells a2) 81 h λb k=>
 aW (Value.cells a3) 116 k λc e=>
 vK (aP 3 e b) λl=>
 ag prog vN #[a0,a1,l] e λm d=>
 vK (unV .not m) λn=>
 aF n (
 R (.tuple #[(.pointer none),(af 6)]) d) (
 vK (aP 3 d b) λo=>
 vK (aB 1 c) λp=>
 vK (aP 4 d p) λq=>
 ag prog mH #[o,q] d λr a=>
 vK (unV .not r) λs=>
 aF s (
 R (.tuple #[(.pointer none),(af 9)]) a) (
 bK a λS=>
 qK S (λa=>aP 3 a b) λt=>
 qK S (λa=>aP 10 a c) λu=>
 vK (aB 1 b) λv=>
 qK S (λa=>ldV a v) λw=>
 vK (aB 1 c) λx=>
 vK (aB 2 x) λy=>
 qK S (λa=>ldV a y) λz=>
 vK (aB 1 c) λaa=>
 vK (aB 1 aa) λab=>
 qK S (λa=>ldV a ab) λac=>
 ag prog fV #[w] a λad f=>
 S f∧(ag prog aV #[a0] f λae g=>
 S g∧(vK (aj .i .mul z ae) λak=>
 ag prog Fz #[ad,ak] g λal j=>
 S j∧(vK ((aM Dg [(0,1,a0),(1,1,a1),(2,3,t),(5,10,u),(15,1,al),(16,1,ac)]).map .agg) λam=>
 aW (Value.cells am) 246 j λan ao=>
 R (.tuple #[an,ai]) ao)))))
theorem Ob (H:Dy a0 a1 a2 a3 h R):ag prog oN #[a0,a1,a2,a3] h R:=fk f125 (.s .z (.s (.s .z (.s (.s .z .z) (.s .z (.s (.s .z .z) .z)))) (.s (.d (.op 0 .r (.op 1 .r (.op 2 .r (.op 3 .r (.op 4 .r (.op 5 .r (.op 7 .r (.op 8 .r (.op 9 .r (.op 10 .r (.op 14 .r (.op 15 .r (.op 16 .r (.op 6 .e (.op 11 .e (.op 12 .r (.op 13 .e (.op 17 .r (.op 18 .n (.op 19 .r (.op 20 .r .nil)))))))))))))))))))))) .z))) H
def uO (a0:Value)(h:ah)(R:Value→ah→Prop):Prop:=
 aW #[ai,ai] 146 h λa l=>
 ag prog iK #[a0] l λm n=>
 aW #[ai,ai] 146 n λb o=>
 stK 2 b m o λaa c=>
 vK (aB 0 b) λp=>
 vK (ldV c p) λd=>
 vK (aj .i .eql d aH) λq=>
 aF q (
 vK (aB 1 b) λr=>
 vK (ldV c r) λs=>
 ag prog lW #[a0,s] c λab e=>
 vK (aP 2 e b) λt=>
 stK 2 a t e λac f=>
 vK (aP 2 f a) λu=>
 R u f) (
 vK (aj .i .eql d (af 2)) λv=>
 aF v (
 ag prog mY #[a0] c λad g=>
 vK (aP 2 g b) λw=>
 stK 2 a w g λae j=>
 vK (aP 2 j a) λx=>
 R x j) (
 vK (aP 2 c b) λy=>
 stK 2 a y c λak k=>
 vK (aP 2 k a) λz=>
 R z k))
theorem EE (H:uO a0 h R):ag prog gw #[a0] h R:=fk f126 (.s .z (.s .z (.s (.s .z (.s .z (.s .z (.s .z (.s .z .z))))) (.s .z .z)))) H
def ni (a0:Value)(h:ah)(R:Value→ah→Prop):Prop:=
 vK (aS a0) λd=>
 vK (aB 0 d) λe=>
 stK 1 e aH h λaa b=>
 vK (aS a0) λf=>
 vK (aB 2 f) λg=>
 vK (ldV b g) λj=>
 vK (aj .p .eql j (.pointer none)) λa=>
 vK (gV a false (some a0)) λk=>
 vK (gV a false (aS k)) λl=>
 vK (gV a false (aB 2 l)) λm=>
 vK (gV a false (ldV b m)) λn=>
 gK a false (λo=>ag prog iK #[n] b o) b λq c=>
 vK (gV a false (pV false 1 0 q)) λr=>
 vK (gV a false (aj .i .eql r ai)) λs=>
 vK (aE a (.bool true) s) λt=>
 aF t (
 vK (aS a0) λu=>
 vK (aB 0 u) λv=>
 stK 1 v ai c λab w=>
 vK (aS a0) λx=>
 vK (aB 2 x) λy=>
 stK 1 y (.pointer none) w λac z=>
 R (.tuple #[]) z) (
 R (.tuple #[]) c)
theorem yr (H:ni a0 h R):ag prog dJ #[a0] h R:=fk f127 (.s .z (.s .z (.s .z .z))) H
def nP (a0:Value)(h:ah)(R:Value→ah→Prop):Prop:=
 vK (aS a0) λa=>
 vK (aB 1 a) λb=>
 vK (ldV h b) λc=>
 vK (aD c) λd=>
 vK (aj .i .gtr d ai) λe=>
 aF e (
 vK (aS a0) λf=>
 vK (aB 1 f) λg=>
 vK (ldV h g) λj=>
 vK (bh 1 j ai) λk=>
 vK (ldV h k) λl=>
 vK (aS a0) λm=>
 vK (aB 1 m) λn=>
 vK (ldV h n) λo=>
 ag prog kZ #[o,ai,aH] h λp q=>
 vK (aS a0) λr=>
 vK (aB 1 r) λs=>
 stK 1 s p q λx t=>
 R (.tuple #[l,ai]) t) (
 vK (aS a0) λu=>
 vK (aB 2 u) λv=>
 vK (ldV h v) λw=>
 aF w (
 R (.tuple #[ai,(af 2)]) h) (
 R (.tuple #[ai,aH]) h))
theorem yX (H:nP a0 h R):ag prog kC #[a0] h R:=fk f128 (.s .z (.s (.s .z (.s (.s .z (.s .z (.s .z .z))) (.s .z (.s (.s .z .z) .z)))) (.s .z .z))) H
def pJ (a0 a1 a2:Value)(h:ah)(R:Value→ah→Prop):Prop:=
 aW #[ai,ai,ai,ai] 148 h λb d=>
 vK (aS a0) λk=>
 vK (aB 1 k) λl=>
 vK (ldV d l) λm=>
 di #[ai] 3 1 [(0,1,a1)] d λn o=>
 dk ai 3 1 8 m n o λq r=>
 vK (aS a0) λs=>
 vK (aB 1 s) λt=>
 stK 1 t q r λa4 e=>
 fo (λg=>
 vK (aj .f .neq a2 .nilFunc) λu=>
 aF u (
 clK prog a2 #[a1] e λv w=>
 vK (aS a0) λx=>
 vK (aB 2 x) λy=>
 stK 1 y v w λa5 z=>
 g [] z) (
 g [] e))
 λa6 a7 a=>
 vK (aS a0) λaa=>
 vK (aB 2 aa) λab=>
 vK (ldV a ab) λac=>
 vK (aj .p .neq ac (.pointer none)) λad=>
 aF ad (
 bK a λS=>
 vK (aS a0) λae=>
 vK (aB 3 ae) λaf=>
 qK S (λa=>ldV a af) λak=>
 vK (aS a0) λal=>
 vK (aB 2 al) λam=>
 qK S (λa=>ldV a am) λan=>
 ag prog jZ #[an] a λao c=>
 S c∧(qK S (λc=>ju ak ao) λap=>
 vK (aS a0) λaq=>
 vK (aB 3 aq) λar=>
 stK 1 ar ap c λa8 au=>
 ag prog dJ #[a0] au λa9 av=>
 vK ((aM #[ai,ai,ai,ai] [(0,1,aH),(1,1,a1)]).map .agg) λaw=>
 stK 4 b aw av λba i=>
 vK (aP 4 i b) λax=>
 R ax i)) (
 ag prog dJ #[a0] a λbb ay=>
 vK ((aM #[ai,ai,ai,ai] [(0,1,aH),(1,1,a1)]).map .agg) λaz=>
 stK 4 b az ay λbc j=>
 vK (aP 4 j b) λa3=>
 R a3 j)
theorem AC (H:pJ a0 a1 a2 h R):ag prog kX #[a0,a1,a2] h R:=fk f129 (.s .z (.s .z (.j 33423360 [] (.s .z (.s .z .z)) (.s (.s .z (.s (.d (.op 0 .r (.op 1 .r (.op 2 .r (.op 3 .r (.op 4 .r (.op 5 .r (.op 6 .r (.op 7 .r (.op 8 .r (.op 9 .e (.op 10 .r (.op 11 .r (.op 12 .r (.op 13 .n .nil))))))))))))))) .z)) (.s .z (.s .z .z)))))) H
def lO (a0:Value)(h:ah)(R:Value→ah→Prop):Prop:=
 vK (aS a0) λb=>
 vK (aB 2 b) λc=>
 vK (ldV h c) λa=>
 vK (gV a false (some a0)) λd=>
 vK (gV a false (aS d)) λe=>
 vK (gV a false (aB 1 e)) λf=>
 vK (gV a false (ldV h f)) λg=>
 vK (gV a false (aD g)) λj=>
 vK (gV a false (aj .i .gtr j ai)) λk=>
 vK (aE a (.bool true) k) λl=>
 R l h
theorem we (H:lO a0 h R):ag prog ja #[a0] h R:=fk f130 (.s .z (.s .z .z)) H
def tt (a0:Value)(h:ah)(R:Value→ah→Prop):Prop:=
 vK (aS a0) λa=>
 vK (aB 0 a) λb=>
 vK (ldV h b) λc=>
 R c h
theorem Dn (H:tt a0 h R):ag prog fW #[a0] h R:=fk f131 (.s .z (.s .z .z)) H
def Gc (a0:Value)(h:ah)(R:Value→ah→Prop):Prop:=
 vK (aj .i .geq a0 aH) λa=>
 vK (gV a true (some a0)) λb=>
 vK (gV a true (aj .i .leq b (af 4096))) λc=>
 vK (aE a c (.bool false)) λd=>
 R d h
theorem QW (H:Gc a0 h R):ag prog xg #[a0] h R:=fk f132 (.s .z (.s .z .z)) H
def rE (a0 a1:Value)(h:ah)(R:Value→ah→Prop):Prop:=
 aW (Value.cells a1) 120 h λb c=>
 vK (aP 6 c b) λg=>
 ag prog zW #[g] c λi a=>
 vK (unV .not i) λj=>
 aF j (
 R (.bool false) a) (
 bK a λS=>
 vK (aS a0) λk=>
 vK (aB 0 k) λl=>
 qK S (λa=>ldV a l) λm=>
 qK S (λa=>aP 6 a b) λn=>
 ag prog vT #[n] a λo d=>
 S d∧(di #[ai,(.slice none 0 0),ai,ai,ai,(.bool false)] 120 1 [(0,6,o)] d λp e=>
 S e∧(dk (.agg #[ai,.slice none 0 0,ai,ai,ai,.bool false]) 120 6 64 m p e λq f=>
 S f∧(vK (aS a0) λr=>
 vK (aB 0 r) λs=>
 stK 1 s q f λu t=>
 R (.bool true) t))))
theorem BJ (H:rE a0 a1 h R):ag prog l9 #[a0,a1] h R:=fk f133 (.s .z (.s (.s .z (.s (.s .z .z) .z)) (.s (.d (.op 0 .r (.op 1 .r (.op 2 .r (.op 3 .r (.op 4 .r (.op 5 .r (.op 6 .e (.op 7 .e (.op 8 .e (.op 9 .r (.op 10 .r (.op 11 .n .nil))))))))))))) (.s .z .z)))) H
def vj (a0 a1:Value)(h:ah)(R:Value→ah→Prop):Prop:=
 ag prog jI #[a0,a1] h λb a=>
 vK (unV .not b) λc=>
 aF c (
 R (.slice none 0 0) a) (
 vK (aS a0) λd=>
 vK (aB 0 d) λe=>
 vK (ldV a e) λf=>
 vK (bh 1 f a1) λg=>
 vK (ldV a g) λi=>
 ag prog dK #[i] a λj k=>
 R j k)
theorem EY (H:vj a0 a1 h R):ag prog kP #[a0,a1] h R:=fk f134 (.s .z (.s (.s .z (.s (.s .z .z) .z)) (.s .z .z))) H
def iF (a0:Value)(h:ah)(R:Value→ah→Prop):Prop:=
 vK (aj .sl .eql a0 (.slice none 0 0)) λa=>
 aF a (
 R (.slice none 0 0) h) (
 di #[] 22 0 [] h λb c=>
 dk (.int .u16 0) 22 1 2 b a0 c λd e=>
 R d e)
theorem oe (H:iF a0 h R):ag prog dA #[a0] h R:=fk f135 (.s .z (.s (.s .z (.s (.s .z .z) .z)) (.s .z .z))) H
def Ls (a0 a1 a2:Value)(h:ah)(R:Value→ah→Prop):Prop:=
 aW (Value.cells a0) 31 h λb a=>
 vK (aB 0 b) λc=>
 vK (ldV a c) λd=>
 vK (aj .i .eql d (af 3)) λe=>
 aF e (
 vK (aB 7 b) λf=>
 vK (ldV a f) λg=>
 vK (aB 8 b) λj=>
 vK (ldV a j) λk=>
 R (.tuple #[g,k]) a) (
 R (.tuple #[a1,a2]) a)
theorem UV (H:Ls a0 a1 a2 h R):ag prog Jl #[a0,a1,a2] h R:=fk f136 (.s .z (.s (.s .z (.s (.s .z .z) .z)) (.s .z .z))) H
def DI (a0 a1 a2:Value)(h:ah)(R:Value→ah→Prop):Prop:=
 vK (aj .i .lss a0 aH) λa=>
 vK (gV a false (some a0)) λe=>
 vK (gV a false (aj .i .gtr e (af 65536))) λf=>
 vK (aE a (.bool true) f) λb=>
 vK (gV b false (some a1)) λg=>
 vK (gV b false (aj .i .lss g aH)) λj=>
 vK (aE b (.bool true) j) λc=>
 vK (gV c false (some a1)) λk=>
 vK (gV c false (aj .i .gtr k (af 65536))) λl=>
 vK (aE c (.bool true) l) λm=>
 aF m (
 R (.bool false) h) (
 vK (aj .i .neq a2 aH) λd=>
 vK (gV d true (some a2)) λn=>
 vK (gV d true (aj .i .neq n (af 3))) λo=>
 vK (aE d o (.bool false)) λp=>
 aF p (
 R (.bool false) h) (
 vK (aj .i .mul a0 a1) λq=>
 vK (aj .i .quo (af 268435456) a2) λr=>
 vK (aj .i .leq q r) λs=>
 R s h))
theorem Om (H:DI a0 a1 a2 h R):ag prog uA #[a0,a1,a2] h R:=fk f137 (.s .z (.s (.s .z (.s (.s .z .z) .z)) (.s (.s .z (.s (.s .z .z) .z)) (.s .z .z)))) H
def DH (a0 a1 a2:Value)(h:ah)(R:Value→ah→Prop):Prop:=
 aW (Value.cells a0) 232 h λa bd=>
 aW #[(.slice none 0 0),(.slice none 0 0),ai,ai,ai] 38 bd λb e=>
 vK (aB 0 a) λbe=>
 vK (ldV e be) λbf=>
 vK (aj .i .lss bf ai) λk=>
 vK (gV k false (aB 0 a)) λbg=>
 vK (gV k false (ldV e bg)) λbh=>
 vK (gV k false (aj .i .gtr bh (af 3))) λbi=>
 vK (aE k (.bool true) bi) λl=>
 vK (gV l false (aB 1 a)) λbj=>
 vK (gV l false (ldV e bj)) λbk=>
 vK (gV l false (aj .i .lss bk ai)) λbl=>
 vK (aE l (.bool true) bl) λm=>
 vK (gV m false (aB 1 a)) λbm=>
 vK (gV m false (ldV e bm)) λbn=>
 vK (gV m false (aj .i .gtr bn (af 2))) λbo=>
 vK (aE m (.bool true) bo) λn=>
 vK (gV n false (some a1)) λbp=>
 gK n false (λbq=>ag prog lI #[bp] e bq) e λbr y=>
 vK (gV n false (unV .not br)) λbs=>
 vK (aE n (.bool true) bs) λo=>
 vK (gV o false (some a2)) λbt=>
 gK o false (λbu=>ag prog lI #[bt] y bu) y λbv t=>
 vK (gV o false (unV .not bv)) λbw=>
 vK (aE o (.bool true) bw) λbx=>
 aF bx (
 vK ((aM #[(.slice none 0 0),(.slice none 0 0),ai,ai,ai] []).map .agg) λbz=>
 stK 5 b bz t λeb z=>
 vK (aP 5 z b) λb0=>
 R (.tuple #[b0,(af 6)]) z) (
 vK (aB 1 a) λb1=>
 vK (ldV t b1) λb2=>
 vK ((aM #[(.slice none 0 0),(.slice none 0 0),ai,ai,ai] [(2,1,a1),(3,1,a2),(4,1,b2)]).map .agg) λb3=>
 aW #[(.slice none 0 0),(.slice none 0 0),ai,ai,ai] 38 t λd b4=>
 stK 5 d b3 b4 λec c=>
 vK (aB 0 a) λb5=>
 vK (ldV c b5) λb6=>
 vK (aj .i .eql b6 (af 3)) λb7=>
 aF b7 (
 vK (aB 7 a) λb8=>
 vK (ldV c b8) λb9=>
 ag prog lI #[b9] c λca u=>
 vK (unV .not ca) λg=>
 vK (gV g false (aB 8 a)) λcb=>
 vK (gV g false (ldV u cb)) λcc=>
 gK g false (λcd=>ag prog lI #[cc] u cd) u λce f=>
 vK (gV g false (unV .not ce)) λcf=>
 vK (aE g (.bool true) cf) λp=>
 vK (gV p false (aB 6 a)) λcg=>
 vK (gV p false (ldV f cg)) λch=>
 vK (gV p false (aj .i .lss ch ai)) λci=>
 vK (aE p (.bool true) ci) λq=>
 vK (gV q false (aB 6 a)) λcj=>
 vK (gV q false (ldV f cj)) λck=>
 vK (gV q false (aj .i .gtr ck (af 2))) λcl=>
 vK (aE q (.bool true) cl) λcm=>
 aF cm (
 vK ((aM #[(.slice none 0 0),(.slice none 0 0),ai,ai,ai] []).map .agg) λcn=>
 stK 5 b cn f λed aa=>
 vK (aP 5 aa b) λco=>
 R (.tuple #[co,(af 6)]) aa) (
 vK (aB 6 a) λcp=>
 vK (ldV f cp) λcq=>
 vK (aB 7 a) λcr=>
 vK (ldV f cr) λcs=>
 ag prog o0 #[cq,a1,cs] f λab ct=>
 vK (aL ab 0) λcu=>
 vK (aL ab 1) λac=>
 vK (aB 0 d) λcv=>
 stK 1 cv cu ct λee r=>
 vK (aj .i .neq ac ai) λcw=>
 aF cw (
 vK ((aM #[(.slice none 0 0),(.slice none 0 0),ai,ai,ai] []).map .agg) λcx=>
 stK 5 b cx r λef ad=>
 vK (aP 5 ad b) λcy=>
 R (.tuple #[cy,ac]) ad) (
 vK (aB 6 a) λcz=>
 vK (ldV r cz) λc0=>
 vK (aB 8 a) λc1=>
 vK (ldV r c1) λc2=>
 ag prog o0 #[c0,a2,c2] r λae c3=>
 vK (aL ae 0) λc4=>
 vK (aL ae 1) λak=>
 vK (aB 1 d) λc5=>
 stK 1 c5 c4 c3 λeg v=>
 vK (aj .i .neq ak ai) λc6=>
 aF c6 (
 vK ((aM #[(.slice none 0 0),(.slice none 0 0),ai,ai,ai] []).map .agg) λc7=>
 stK 5 b c7 v λeh al=>
 vK (aP 5 al b) λc8=>
 R (.tuple #[c8,ak]) al) (
 vK (aP 5 v d) λc9=>
 stK 5 b c9 v λei am=>
 vK (aP 5 am b) λda=>
 R (.tuple #[da,ai]) am)))) (
 vK (aB 0 a) λdb=>
 vK (ldV c db) λw=>
 fo (λj=>
 vK (aj .i .eql w ai) λdc=>
 aF dc (
 vK (aB 2 a) λdd=>
 vK (ldV c dd) λde=>
 ag prog qH #[de] c λan df=>
 vK (aL an 0) λao=>
 vK (aL an 1) λdg=>
 j [dg,ao,ao] df) (
 vK (aj .i .eql w aH) λdh=>
 aF dh (
 vK (aB 3 a) λdi=>
 vK (ldV c di) λdj=>
 ag prog zO #[dj] c λap dk=>
 vK (aL ap 0) λaq=>
 vK (aL ap 1) λdl=>
 j [dl,aq,aq] dk) (
 vK (aj .i .eql w (af 2)) λdm=>
 aF dm (
 vK (aB 4 a) λdn=>
 vK (ldV c dn) λdp=>
 ag prog pe #[dp] c λar au=>
 vK (aL ar 0) λav=>
 vK (aL ar 1) λaw=>
 vK (aB 5 a) λdq=>
 vK (ldV au dq) λdr=>
 ag prog pe #[dr] au λax ay=>
 vK (aL ax 0) λaz=>
 vK (aL ax 1) λds=>
 vK (aj .i .eql aw ai) λdt=>
 aF dt (
 j [ds,av,az] ay) (
 j [aw,av,az] ay)) (
 j [ai,(.slice none 0 0),(.slice none 0 0)] c))))
 λs ej a3=>
 vK (aj .i .neq (ix s 0) ai) λdu=>
 aF du (
 vK ((aM #[(.slice none 0 0),(.slice none 0 0),ai,ai,ai] []).map .agg) λdv=>
 stK 5 b dv a3 λek a4=>
 vK (aP 5 a4 b) λdw=>
 R (.tuple #[dw,(ix s 0)]) a4) (
 ag prog pd #[(ix s 1),a1] a3 λa5 dx=>
 vK (aL a5 0) λdy=>
 vK (aL a5 1) λa6=>
 vK (aB 0 d) λdz=>
 stK 1 dz dy dx λel a7=>
 vK (aj .i .neq a6 ai) λd0=>
 aF d0 (
 vK ((aM #[(.slice none 0 0),(.slice none 0 0),ai,ai,ai] []).map .agg) λd1=>
 stK 5 b d1 a7 λem a8=>
 vK (aP 5 a8 b) λd2=>
 R (.tuple #[d2,a6]) a8) (
 ag prog pd #[(ix s 2),a2] a7 λa9 d3=>
 vK (aL a9 0) λd4=>
 vK (aL a9 1) λba=>
 vK (aB 1 d) λd5=>
 stK 1 d5 d4 d3 λen x=>
 vK (aj .i .neq ba ai) λd6=>
 aF d6 (
 vK ((aM #[(.slice none 0 0),(.slice none 0 0),ai,ai,ai] []).map .agg) λd7=>
 stK 5 b d7 x λeo bb=>
 vK (aP 5 bb b) λd8=>
 R (.tuple #[d8,ba]) bb) (
 vK (aP 5 x d) λd9=>
 stK 5 b d9 x λep bc=>
 vK (aP 5 bc b) λea=>
 R (.tuple #[ea,ai]) bc)))))
theorem Ol (H:DH a0 a1 a2 h R):ag prog zN #[a0,a1,a2] h R:=fk f138 (.s .z (.s (.s .z (.s (.s .z .z) .z)) (.s .z (.s .z (.s (.s .z (.s (.s (.s .z (.s (.s .z .z) .z)) (.s .z (.s (.s .z (.s (.s .z .z) .z)) (.s .z (.s (.s .z (.s (.s .z .z) .z)) (.s .z .z)))))) .z)) (.s .z (.s .z (.s (.s .z (.m 174224571858449890892334881399078511451648 [9,10,11] (.s .z (.s (.s .z .z) (.s .z (.s (.s .z .z) (.s .z (.s (.s .z (.s .z (.s .z (.s .z (.s .z .z))))) .z)))))))) (.s (.s .z (.s (.s .z .z) .z)) (.s .z (.s (.s .z (.s (.s .z .z) .z)) (.s .z (.s (.s .z (.s (.s .z .z) .z)) (.s .z .z)))))))))))))) H
def DG (a0 a1 a2:Value)(h:ah)(R:Value→ah→Prop):Prop:=
 aW (Value.cells a0) 232 h λb a=>
 vK (aB 0 b) λc=>
 vK (ldV a c) λd=>
 vK (aj .i .eql d (af 3)) λe=>
 aF e (
 vK (aB 7 b) λf=>
 vK (ldV a f) λg=>
 vK (aB 8 b) λj=>
 vK (ldV a j) λk=>
 R (.tuple #[g,k]) a) (
 R (.tuple #[a1,a2]) a)
theorem Oj (H:DG a0 a1 a2 h R):ag prog zL #[a0,a1,a2] h R:=fk f139 (.s .z (.s (.s .z (.s (.s .z .z) .z)) (.s .z .z))) H
def Gf (a0:Value)(h:ah)(R:Value→ah→Prop):Prop:=
 aW (Value.cells a0) 31 h λb e=>
 aW #[ai,ai,ai,ai,(.slice none 0 0),(.slice none 0 0),ai,ai,ai] 232 e λc a=>
 vK (aB 0 b) λf=>
 vK (ldV a f) λg=>
 vK (aB 1 b) λi=>
 vK (ldV a i) λj=>
 vK (aB 2 b) λk=>
 vK (ldV a k) λl=>
 vK (aB 3 b) λm=>
 vK (ldV a m) λn=>
 vK (aB 4 b) λo=>
 vK (ldV a o) λp=>
 vK (aB 5 b) λq=>
 vK (ldV a q) λr=>
 vK (aB 6 b) λs=>
 vK (ldV a s) λt=>
 vK (aB 7 b) λu=>
 vK (ldV a u) λv=>
 vK (aB 8 b) λw=>
 vK (ldV a w) λx=>
 vK ((aM #[ai,ai,ai,ai,(.slice none 0 0),(.slice none 0 0),ai,ai,ai] [(0,1,g),(1,1,j),(2,1,l),(3,1,n),(4,1,p),(5,1,r),(6,1,t),(7,1,v),(8,1,x)]).map .agg) λy=>
 stK 9 c y a λaa d=>
 vK (aP 9 d c) λz=>
 R z d
theorem QZ (H:Gf a0 h R):ag prog Cx #[a0] h R:=fk f140 (.s .z (.s .z .z)) H
def DE (a0:Value)(h:ah)(R:Value→ah→Prop):Prop:=
 vK (aD a0) λf=>
 bA [ai,ai] h λa v c e=>
 vK (aj .i .lss (ix a 1) f) λg=>
 aF g (
 vK (bh 2 a0 (ix a 1)) λj=>
 vK (aP 2 c j) λk=>
 aW #[ai,(.slice none 0 0)] 240 c λd l=>
 stK 2 d k l λw b=>
 vK (aB 1 d) λm=>
 vK (ldV b m) λn=>
 vK (aD n) λo=>
 vK (aj .i .gtr o (ix a 0)) λp=>
 aF p (
 vK (aB 1 d) λq=>
 vK (ldV b q) λr=>
 vK (aD r) λs=>
 vK (aj .i .add (ix a 1) aH) λt=>
 e [s,t] b) (
 vK (aj .i .add (ix a 1) aH) λu=>
 e [(ix a 0),u] b)) (
 R (ix a 0) c)
theorem Oh (H:DE a0 h R):ag prog zK #[a0] h R:=fk f141 (.s .z (.s .z (.s (.s .z (.l 2096936 [3,8] (.s .z (.s (.s .z .z) (.s (.s .z (.s .z (.s .z .z))) .z))))) (.s .z .z)))) H
def AR (a0 a1 a2:Value)(h:ah)(R:Value→ah→Prop):Prop:=
 vK (aD a0) λr=>
 bA [ai,ai,(.bool false),ai] h λa az j m=>
 vK (aj .i .lss (ix a 3) r) λs=>
 aF s (
 vK (bh 2 a0 (ix a 3)) λt=>
 vK (aP 2 j t) λu=>
 aW #[ai,(.slice none 0 0)] 240 j λk v=>
 stK 2 k u v λa3 l=>
 vK (aj .i .lss (ix a 3) a1) λd=>
 vK (gV d false (some (ix a 3))) λw=>
 vK (gV d false (some a2)) λx=>
 vK (gV d false (aj .i .geq w x)) λy=>
 vK (aE d (.bool true) y) λz=>
 aF z (
 vK (aj .i .add (ix a 3) aH) λaa=>
 m [(ix a 0),(ix a 1),(ix a 2),aa] l) (
 vK (aB 1 k) λab=>
 vK (ldV l ab) λac=>
 vK (aD ac) λad=>
 bA [(ix a 0),(ix a 1),(ix a 2),ai] l λb a4 e n=>
 vK (aj .i .lss (ix b 3) ad) λae=>
 aF ae (
 vK (aB 0 k) λaf=>
 vK (ldV e af) λag=>
 vK (aj .i .add ag (ix b 3)) λf=>
 fo (λo=>
 vK (unV .not (ix b 2)) λg=>
 vK (gV g false (some f)) λak=>
 vK (gV g false (some (ix b 0))) λal=>
 vK (gV g false (aj .i .lss ak al)) λam=>
 vK (aE g (.bool true) am) λan=>
 aF an (
 o [f] e) (
 o [(ix b 0)] e))
 λp a5 q=>
 vK (unV .not (ix b 2)) λc=>
 vK (gV c false (some f)) λao=>
 vK (gV c false (aj .i .add ao aH)) λap=>
 vK (gV c false (some (ix b 1))) λaq=>
 vK (gV c false (aj .i .gtr ap aq)) λar=>
 vK (aE c (.bool true) ar) λau=>
 aF au (
 vK (aj .i .add f aH) λav=>
 vK (aj .i .add (ix b 3) aH) λaw=>
 n [(ix p 0),av,(.bool true),aw] q) (
 vK (aj .i .add (ix b 3) aH) λax=>
 n [(ix p 0),(ix b 1),(.bool true),ax] q)) (
 vK (aj .i .add (ix a 3) aH) λay=>
 m [(ix b 0),(ix b 1),(ix b 2),ay] e))) (
 R (.tuple #[(ix a 0),(ix a 1),(ix a 2)]) j)
theorem LZ (H:AR a0 a1 a2 h R):ag prog qU #[a0,a1,a2] h R:=fk f142 (.s .z (.s .z (.s .z (.s .z (.s (.s .z (.l 2305843009213496832 [9,10,11,18] (.s .z (.s (.s .z .z) (.s (.s .z (.s (.s .z (.s .z .z)) (.s .z (.l 1152921487427030528 [9,10,11,34] (.s .z (.s (.s .z .z) (.s (.s .z (.s .z (.j 560750930166272 [9] (.s .z (.s .z .z)) (.s (.s .z (.s .z .z)) .z)))) .z))))))) .z))))) (.s .z .z)))))) H
def Jr (a0 a1:Value)(h:ah)(R:Value→ah→Prop):Prop:=
 vK (aD a0) λc=>
 bA [ai] h λb l a d=>
 vK (aj .i .lss (ix b 0) c) λe=>
 aF e (
 vK (bh 1 a0 (ix b 0)) λf=>
 vK (ldV a f) λg=>
 vK (aj .i .eql g a1) λj=>
 aF j (
 R (.bool true) a) (
 vK (aj .i .add (ix b 0) aH) λk=>
 d [k] a)) (
 R (.bool false) a)
theorem Td (H:Jr a0 a1 h R):ag prog FA #[a0,a1] h R:=fk f143 (.s .z (.s (.s .z (.l 130640 [9] (.s .z (.s (.s .z .z) (.s (.s .z (.s .z (.s (.s .z .z) .z))) .z))))) (.s .z .z))) H
def wL (a0 a1:Value)(h:ah)(R:Value→ah→Prop):Prop:=
 vK (aj .i .geq a1 ai) λa=>
 vK (gV a true (some a1)) λb=>
 vK (gV a true (some a0)) λc=>
 vK (gV a true (aS c)) λd=>
 vK (gV a true (aB 0 d)) λe=>
 vK (gV a true (ldV h e)) λf=>
 vK (gV a true (aD f)) λg=>
 vK (gV a true (aj .i .lss b g)) λj=>
 vK (aE a j (.bool false)) λk=>
 R k h
theorem GK (H:wL a0 a1 h R):ag prog jI #[a0,a1] h R:=fk f144 (.s .z (.s .z .z)) H
def jL (a0:Value)(h:ah)(R:Value→ah→Prop):Prop:=
 fo (λc=>
 vK (aD a0) λe=>
 vK (aj .i .lss e aH) λf=>
 aF f (
 M9 h λs g=>
 c [] g) (
 c [] h))
 λt u d=>
 vK (bh 1 a0 ai) λj=>
 vK (ldV d j) λk=>
 bA [k,aH] d λa v b l=>
 vK (aD a0) λm=>
 vK (aj .i .lss (ix a 1) m) λn=>
 aF n (
 vK (bh 1 a0 (ix a 1)) λo=>
 vK (ldV b o) λp=>
 vK (rR (ix a 0) p) λq=>
 vK (aj .i .add (ix a 1) aH) λr=>
 l [q,r] b) (
 R (ix a 0) b)
theorem rN (H:jL a0 h R):ag prog gE #[a0] h R:=fk f145 (.s .z (.j 480 [] (.s .z (.s .z .z)) (.s .z (.s (.s .z (.l 16773144 [3,4] (.s (.s .z (.s .z .z)) (.s .z .z)))) (.s .z .z))))) H
def Eb (a0 a1:Value)(h:ah)(R:Value→ah→Prop):Prop:=
 vK (aD a0) λk=>
 vK (aD a1) λl=>
 vK (ju k l) λf=>
 mkK (.int .i64 0) 3 1 8 f f h λb m=>
 Fm 1 b a0 m λap n=>
 vK (aD a1) λo=>
 bA [(.int .i64 0)] n λa aq c g=>
 vK (aj .i .lss (ix a 0) o) λp=>
 aF p (
 vK (bh 1 a1 (ix a 0)) λq=>
 vK (ldV c q) λj=>
 vK (aD a0) λr=>
 vK (aj .i .geq (ix a 0) r) λs=>
 aF s (
 vK (ju (.int .i64 0) j) λt=>
 vK (bh 1 b (ix a 0)) λu=>
 stK 1 u t c λar v=>
 vK (aj .i .add (ix a 0) (.int .i64 1)) λw=>
 g [w] v) (
 vK (bh 1 b (ix a 0)) λx=>
 vK (ldV c x) λy=>
 vK (ju y j) λz=>
 vK (bh 1 b (ix a 0)) λaa=>
 stK 1 aa z c λau ab=>
 vK (aj .i .add (ix a 0) (.int .i64 1)) λac=>
 g [ac] ab)) (
 vK (aD a1) λad=>
 bA [ad] c λd av e ae=>
 vK (aD a0) λaf=>
 vK (aj .i .lss (ix d 0) af) λag=>
 aF ag (
 vK (bh 1 b (ix d 0)) λai=>
 vK (ldV e ai) λak=>
 vK (ju (.int .i64 0) ak) λal=>
 vK (bh 1 b (ix d 0)) λam=>
 stK 1 am al e λaw an=>
 vK (aj .i .add (ix d 0) (.int .i64 1)) λao=>
 ae [ao] an) (
 R b e))
theorem OR (H:Eb a0 a1 h R):ag prog Aa #[a0,a1] h R:=fk f146 (.s .z (.s .z (.s .z (.s (.s .z (.l 17592184996032 [20] (.s .z (.s (.s .z .z) (.s (.s .z (.s .z (.s .z .z))) .z))))) (.s (.s .z (.l 1152851135862669568 [8] (.s (.s .z (.s .z .z)) (.s .z .z)))) (.s .z .z)))))) H
def uS (a0:Value)(h:ah)(R:Value→ah→Prop):Prop:=
 vK (aS a0) λa=>
 vK (aB 0 a) λb=>
 vK (ldV h b) λc=>
 vK (aS a0) λd=>
 vK (aB 1 d) λe=>
 vK (ldV h e) λf=>
 vK (aj .i .mul c f) λg=>
 R g h
theorem EL (H:uS a0 h R):ag prog oU #[a0] h R:=fk f147 (.s .z (.s .z .z)) H
def Gk (a0 a1 a2:Value)(h:ah)(R:Value→ah→Prop):Prop:=
 vK (aj .i .lss a2 (.int .i64 1)) λa=>
 vK (gV a false (some a2)) λc=>
 vK (gV a false (aj .i .gtr c (.int .i64 65536))) λd=>
 vK (aE a (.bool true) d) λe=>
 aF e (
 R (.int .i64 0) h) (
 vK (aj .i .eql a0 (.int .i64 0)) λf=>
 aF f (
 vK (aj .i .sub a2 (.int .i64 1)) λg=>
 ag prog q9 #[a1,(.int .i64 0),g] h λj k=>
 R j k) (
 vK (aj .i .eql a0 (.int .i64 1)) λl=>
 aF l (
 vK (aj .i .mul (.int .i64 2) a2) λm=>
 ag prog sC #[a1,m] h λb n=>
 vK (aj .i .mul (.int .i64 2) a2) λo=>
 vK (aj .i .sub o (.int .i64 1)) λp=>
 vK (aj .i .sub p b) λq=>
 vK (rR b q) λr=>
 R r n) (
 vK (aj .i .eql a0 (.int .i64 2)) λs=>
 aF s (
 ag prog sC #[a1,a2] h λt u=>
 R t u) (
 R (.int .i64 0) h))))
theorem Rb (H:Gk a0 a1 a2 h R):ag prog lz #[a0,a1,a2] h R:=fk f148 (.s .z (.s (.s .z (.s (.s .z .z) .z)) (.s (.s .z (.s .z (.s (.s .z .z) (.s .z (.s (.s .z (.s .z .z)) (.s .z (.s (.s .z .z) .z))))))) (.s .z .z)))) H
def yi (a0 a1:Value)(h:ah)(R:Value→ah→Prop):Prop:=
 aW #[ai,ai,ai,ai] 114 h λe b=>
 bK b λS=>
 vK (aS a0) λl=>
 vK (aB 3 l) λm=>
 qK S (λb=>ldV b m) λn=>
 vK (aS a0) λo=>
 vK (aB 4 o) λp=>
 qK S (λb=>ldV b p) λq=>
 ag prog gI #[a0] b λr f=>
 S f∧(vK (aj .i .rem a1 r) λs=>
 vK (aj .i .mul s n) λg=>
 ag prog gI #[a0] f λt a=>
 S a∧(vK (aj .i .quo a1 t) λu=>
 vK (aj .i .mul u q) λj=>
 bK a λS=>
 vK (aS a0) λv=>
 vK (aB 3 v) λw=>
 qK S (λa=>ldV a w) λx=>
 vK (aS a0) λy=>
 vK (aB 0 y) λz=>
 vK (aB 0 z) λaa=>
 qK S (λa=>ldV a aa) λab=>
 vK (aS a0) λac=>
 vK (aB 4 ac) λad=>
 qK S (λa=>ldV a ad) λae=>
 vK (aS a0) λaf=>
 vK (aB 0 af) λak=>
 vK (aB 1 ak) λal=>
 qK S (λa=>ldV a al) λam=>
 ag prog bJ #[ab] a λan c=>
 S c∧(vK (aj .i .sub an g) λao=>
 qK S (λc=>rR x ao) λap=>
 ag prog bJ #[am] c λaq d=>
 S d∧(vK (aj .i .sub aq j) λar=>
 qK S (λd=>rR ae ar) λau=>
 vK ((aM #[ai,ai,ai,ai] [(0,1,g),(1,1,j),(2,1,ap),(3,1,au)]).map .agg) λav=>
 stK 4 e av d λax k=>
 vK (aP 4 k e) λaw=>
 R aw k))))
theorem IH (H:yi a0 a1 h R):ag prog mL #[a0,a1] h R:=fk f149 (.s .z (.s (.d (.op 0 .r (.op 1 .r (.op 4 .r (.op 5 .r (.op 6 .r (.op 7 .r (.op 9 .r (.op 10 .r (.op 13 .r (.op 14 .r (.op 15 .r (.op 16 .r (.op 2 .e (.op 3 .r (.op 8 .r (.op 11 .e (.op 12 .r (.op 17 .r (.op 18 .r (.op 19 .r .nil))))))))))))))))))))) (.s (.d (.op 0 .r (.op 1 .r (.op 2 .r (.op 3 .r (.op 4 .r (.op 5 .r (.op 6 .r (.op 7 .r (.op 8 .r (.op 9 .r (.op 10 .r (.op 12 .r (.op 15 .r (.op 16 .r (.op 17 .r (.op 18 .r (.op 19 .r (.op 20 .r (.op 21 .r (.op 22 .r (.op 23 .r (.op 25 .r (.op 11 .e (.op 13 .r (.op 14 .r (.op 24 .e (.op 26 .r (.op 27 .r (.op 28 .r (.op 29 .n .nil))))))))))))))))))))))))))))))) .z))) H
def tj (a0:Value)(h:ah)(R:Value→ah→Prop):Prop:=
 vK (aS a0) λa=>
 vK (aB 2 a) λb=>
 vK (ldV h b) λc=>
 R c h
theorem Dl (H:tj a0 h R):ag prog fV #[a0] h R:=fk f150 (.s .z (.s .z .z)) H
def ru (a0 a1 a2:Value)(h:ah)(R:Value→ah→Prop):Prop:=
 vK (ju a1 ai) λd=>
 vK (aS a0) λk=>
 vK (aB 1 k) λl=>
 vK (ldV h l) λm=>
 vK (aD m) λn=>
 vK (rR a2 n) λf=>
 vK (aj .i .geq d f) λo=>
 aF o (
 R (.tuple #[ai,ai]) h) (
 vK (aS a0) λp=>
 vK (aB 1 p) λq=>
 vK (ldV h q) λr=>
 vK (bh 2 r d) λs=>
 vK (aB 0 s) λt=>
 vK (ldV h t) λg=>
 vK (aS a0) λu=>
 vK (aB 1 u) λv=>
 vK (ldV h v) λw=>
 vK (xm 2 w (some d) (some f)) λj=>
 vK (aD j) λx=>
 bA [g,g,ai] h λa au e y=>
 vK (aj .i .lss (ix a 2) x) λz=>
 aF z (
 vK (bh 2 j (ix a 2)) λaa=>
 vK (aP 2 e aa) λab=>
 aW #[ai,(.slice none 0 0)] 189 e λb ac=>
 stK 2 b ab ac λav c=>
 vK (aB 0 b) λad=>
 vK (ldV c ad) λae=>
 vK (rR (ix a 0) ae) λaf=>
 vK (aB 0 b) λag=>
 vK (ldV c ag) λak=>
 vK (aB 1 b) λal=>
 vK (ldV c al) λam=>
 vK (aD am) λan=>
 vK (aj .i .add ak an) λao=>
 vK (ju (ix a 1) ao) λap=>
 vK (aj .i .add (ix a 2) aH) λaq=>
 y [af,ap,aq] c) (
 vK (aj .i .sub (ix a 1) (ix a 0)) λar=>
 R (.tuple #[(ix a 0),ar]) e))
theorem BC (H:ru a0 a1 a2 h R):ag prog gG #[a0,a1,a2] h R:=fk f151 (.s .z (.s .z (.s (.s .z (.s (.s .z .z) .z)) (.s .z (.s .z (.s (.s .z (.l 144114088564229440 [6,8,40] (.s .z (.s (.s .z .z) (.s (.s .z (.s .z .z)) .z))))) (.s .z .z))))))) H
def fS (a0:Value)(h:ah)(R:Value→ah→Prop):Prop:=
 vK (aj .sl .eql a0 (.slice none 0 0)) λa=>
 aF a (
 R (.slice none 0 0) h) (
 di #[] 2 0 [] h λb c=>
 dk ai 2 1 8 b a0 c λd e=>
 R d e)
theorem jr (H:fS a0 h R):ag prog df #[a0] h R:=fk f152 (.s .z (.s (.s .z (.s (.s .z .z) .z)) (.s .z .z))) H
def je (a0:Value)(h:ah)(R:Value→ah→Prop):Prop:=
 vK (aj .sl .eql a0 (.slice none 0 0)) λa=>
 aF a (
 R (.slice none 0 0) h) (
 di #[] 3 0 [] h λb c=>
 dk ai 3 1 8 b a0 c λd e=>
 R d e)
theorem pG (H:je a0 h R):ag prog dK #[a0] h R:=fk f153 (.s .z (.s (.s .z (.s (.s .z .z) .z)) (.s .z .z))) H
def Bo (a0 a1:Value)(h:ah)(R:Value→ah→Prop):Prop:=
 vK (aD a0) λc=>
 vK (aD a1) λd=>
 vK (aj .i .neq c d) λe=>
 aF e (
 R (.bool false) h) (
 vK (aD a0) λf=>
 bA [ai] h λb q a g=>
 vK (aj .i .lss (ix b 0) f) λj=>
 aF j (
 vK (bh 1 a0 (ix b 0)) λk=>
 vK (ldV a k) λl=>
 vK (bh 1 a1 (ix b 0)) λm=>
 vK (ldV a m) λn=>
 vK (aj .i .gtr l n) λo=>
 aF o (
 R (.bool false) a) (
 vK (aj .i .add (ix b 0) aH) λp=>
 g [p] a)) (
 R (.bool true) a))
theorem Mu (H:Bo a0 a1 h R):ag prog xT #[a0,a1] h R:=fk f157 (.s .z (.s (.s .z (.s (.s .z .z) .z)) (.s (.s .z (.l 67100720 [13] (.s .z (.s (.s .z .z) (.s (.s .z (.s .z (.s (.s .z .z) .z))) .z))))) (.s .z .z)))) H
def Bp (a0 a1:Value)(h:ah)(R:Value→ah→Prop):Prop:=
 ag prog fY #[a0,a1] h λa b=>
 R a b
theorem Mv (H:Bp a0 a1 h R):ag prog xU #[a0,a1] h R:=fk f158 (.s .z (.s .z .z)) H
def DC (a0:Value)(h:ah)(R:Value→ah→Prop):Prop:=
 vK (aj .i .geq a0 aH) λa=>
 vK (gV a true (some a0)) λb=>
 vK (gV a true (aj .i .leq b (af 65536))) λc=>
 vK (aE a c (.bool false)) λd=>
 R d h
theorem Of (H:DC a0 h R):ag prog oQ #[a0] h R:=fk f162 (.s .z (.s .z .z)) H
def Lq (a0 a1 a2 a3:Value)(h:ah)(R:Value→ah→Prop):Prop:=
 ag prog zR #[a0,a1,a2,a3] h λb e=>
 vK (aL b 0) λc=>
 vK (aL b 1) λf=>
 bA [(.slice none 0 0),ai] e λa s d g=>
 vK (aj .i .lss (ix a 1) f) λj=>
 aF j (
 vK (aj .i .add c (ix a 1)) λk=>
 ag prog Cv #[a0,a1,a2,a3,k] d λl m=>
 di #[ai] 2 1 [(0,1,l)] m λn o=>
 dk ai 2 1 8 (ix a 0) n o λp q=>
 vK (aj .i .add (ix a 1) aH) λr=>
 g [p,r] q) (
 R (.tuple #[c,(ix a 0)]) d)
theorem UT (H:Lq a0 a1 a2 a3 h R):ag prog Df #[a0,a1,a2,a3] h R:=fk f163 (.s .z (.s .z (.s (.s .z (.l 68717382144 [9,21] (.s .z (.s (.s .z .z) (.s (.s .z .z) .z))))) (.s .z .z)))) H
def wn (a0:Value)(h:ah)(R:Value→ah→Prop):Prop:=
 ag prog zI #[a0] h λt u=>
 vK (aj .i .neq t ai) λbz=>
 aF bz (
 R (.tuple #[(.slice none 0 0),t]) u) (
 ag prog zJ #[a0] u λv f=>
 fo (λb0=>
 bK f λS=>
 qK S (λf=>aD a0) λa=>
 qK S (λf=>aD a0) λb=>
 qK S (λf=>aD a0) λc=>
 (λC22:Value→Value→Value→Value→ah→Prop=>
 (λC29:Value→Value→Value→Value→ah→Prop=>
 (λC35:Value→Value→Value→Value→ah→Prop=>
 (λC43:Value→Value→Value→ah→Prop=>
 (λC51:Value→Value→Value→ah→Prop=>
 (λC58:Value→Value→Value→ah→Prop=>
 (λC63:Value→Value→Value→ah→Prop=>
 (λC68:Value→Value→Value→ah→Prop=>
 (λC75:Value→Value→Value→ah→Prop=>
 (λC83:Value→Value→ah→Prop=>
 (λC91:Value→Value→ah→Prop=>
 (λC99:Value→Value→ah→Prop=>
 (λC107:Value→Value→ah→Prop=>
 (λC115:Value→Value→ah→Prop=>
 (λC123:Value→Value→ah→Prop=>
 (mkK ai 2 1 8 a a f λo j=>
 S j∧((mkK ai 3 1 8 b b j λb1 w=>
 S w∧(C83 o b1 w))∧((mkK ai 2 1 8 c c j λb2 x=>
 S x∧(C91 o b2 x))∧(aW #[(.slice none 0 0)] 28 j λb3 y=>
 S y∧(C99 o b3 y)))))∧((mkK ai 3 1 8 b b f λp k=>
 S k∧((mkK ai 2 1 8 a a k λb4 z=>
 S z∧(C83 b4 p z))∧((mkK ai 2 1 8 c c k λb5 aa=>
 S aa∧(C107 p b5 aa))∧(aW #[(.slice none 0 0)] 28 k λb6 ab=>
 S ab∧(C115 p b6 ab)))))∧((mkK ai 2 1 8 c c f λq l=>
 S l∧((mkK ai 2 1 8 a a l λb7 ac=>
 S ac∧(C91 b7 q ac))∧((mkK ai 3 1 8 b b l λb8 ad=>
 S ad∧(C107 b8 q ad))∧(aW #[(.slice none 0 0)] 28 l λb9 ae=>
 S ae∧(C123 q b9 ae)))))∧(aW #[(.slice none 0 0)] 28 f λr m=>
 S m∧((mkK ai 2 1 8 a a m λca ak=>
 S ak∧(C99 ca r ak))∧((mkK ai 3 1 8 b b m λcb al=>
 S al∧(C115 cb r al))∧(mkK ai 2 1 8 c c m λcc am=>
 S am∧(C123 cc r am)))))))) (λan ao ap=>
 (mkK ai 2 1 8 a a ap λcd aq=>
 S aq∧(C68 cd an ao aq))∧(mkK ai 3 1 8 b b ap λce ar=>
 S ar∧(C75 ce an ao ar)))) (λau av aw=>
 (mkK ai 2 1 8 a a aw λcf ax=>
 S ax∧(C63 cf au av ax))∧(mkK ai 2 1 8 c c aw λcg ay=>
 S ay∧(C75 au cg av ay)))) (λaz a1 a2=>
 (mkK ai 2 1 8 a a a2 λch a3=>
 S a3∧(C58 ch az a1 a3))∧(aW #[(.slice none 0 0)] 28 a2 λci a4=>
 S a4∧(C75 az a1 ci a4)))) (λa5 a6 a7=>
 (mkK ai 3 1 8 b b a7 λcj a8=>
 S a8∧(C43 cj a6 a5 a8))∧(mkK ai 2 1 8 c c a7 λck a9=>
 S a9∧(C51 ck a6 a5 a9)))) (λba bb bc=>
 (mkK ai 3 1 8 b b bc λcl bd=>
 S bd∧(C58 ba cl bb bd))∧(aW #[(.slice none 0 0)] 28 bc λcm be=>
 S be∧(C68 ba bb cm be)))) (λbf bg bi=>
 (mkK ai 2 1 8 c c bi λcn bj=>
 S bj∧(C58 bf bg cn bj))∧(aW #[(.slice none 0 0)] 28 bi λco bk=>
 S bk∧(C63 bf bg co bk)))) (λcp cq cr cs=>
 mkK ai 2 1 8 a a cs λct bl=>
 S bl∧(C35 ct cp cq cr bl))) (λcu cv cw cx=>
 C51 cv cw cu cx)) (λcy cz c0 c1=>
 C43 cz c0 cy c1)) (λc2 c3 c4 c5=>
 aW #[(.slice none 0 0)] 28 c5 λc6 bm=>
 S bm∧(C35 c2 c3 c4 c6 bm))) (λc7 c8 c9 da=>
 mkK ai 3 1 8 b b da λdb bn=>
 S bn∧(C29 db c7 c8 c9 bn))) (λdc dd de df=>
 mkK ai 2 1 8 c c df λdg bo=>
 S bo∧(C22 dg dd de dc bo))) (λdh di dj dk dl=>
 C29 di dj dk dh dl)) (λdm dn dp dq dr=>
 C22 dn dp dq dm dr)) (λds bp dt du dv=>
 stK 1 bp ds dv λep bq=>
 S bq∧(b0 [dt,du,bp] bq)))
 λd eq dw=>
 vK (aD a0) λdx=>
 bA [(af 16384),ai] dw λe er g dy=>
 vK (aj .i .lss (ix e 1) dx) λdz=>
 aF dz (
 vK (bh 1 a0 (ix e 1)) λd0=>
 vK (ldV g d0) λbr=>
 bK g λS=>
 qK S (λg=>ldV g (ix d 2)) λd1=>
 vK (aj .i .mul br (af 16384)) λd2=>
 vK (aj .i .mul br (af 16384)) λd3=>
 ag prog kp #[d2,v] g λd4 bs=>
 S bs∧(ag prog sC #[d3,v] bs λd5 bt=>
 S bt∧(vK (bh 1 (ix d 0) (ix e 1)) λd6=>
 stK 1 d6 d4 bt λes bu=>
 S bu∧(vK (bh 1 d1 (ix e 1)) λd7=>
 stK 1 d7 d5 bu λet d8=>
 vK (bh 1 (ix d 1) (ix e 1)) λd9=>
 stK 1 d9 (ix e 1) d8 λeu bv=>
 vK (bh 1 (ix d 0) (ix e 1)) λea=>
 vK (ldV bv ea) λeb=>
 vK (aj .i .sub (ix e 0) eb) λec=>
 vK (aj .i .add (ix e 1) aH) λed=>
 dy [ec,ed] bv)))) (
 ag prog eV #[(ix d 1),(.func (.func lY) #[] #[(ix d 2)])] g λev ee=>
 vK (xm 1 (ix d 1) none (some (ix e 0))) λbw=>
 vK (aD bw) λef=>
 bA [ai] ee λs ew n eg=>
 vK (aj .i .lss (ix s 0) ef) λeh=>
 aF eh (
 vK (bh 1 bw (ix s 0)) λei=>
 vK (ldV n ei) λbx=>
 vK (bh 1 (ix d 0) bx) λej=>
 vK (ldV n ej) λek=>
 vK (aj .i .add ek aH) λel=>
 vK (bh 1 (ix d 0) bx) λem=>
 stK 1 em el n λex en=>
 vK (aj .i .add (ix s 0) aH) λeo=>
 eg [eo] en) (
 R (.tuple #[(ix d 0),ai]) n)))
theorem Gv (H:wn a0 h R):ag prog jF #[a0] h R:=fk f164 (.s .z (.s (.s .z (.s .z (.s (.s .z .z) .z))) (.s .z (.j 1071645568 [7,8,9] (.d (.op 0 .r (.op 1 .r (.op 3 .r (.op 4 .r (.op 6 .r (.op 7 .r (.alt (.op 2 .e (.alt (.op 5 .e (.alt (.op 8 .e (.op 9 .e (.op 10 .r (.op 11 .r (.op 12 .e .nil))))) (.op 9 .e (.op 10 .r (.op 11 .r (.op 8 .e (.op 12 .e .nil))))))) (.alt (.op 8 .e (.alt (.op 5 .e (.op 9 .e (.op 10 .r (.op 11 .r (.op 12 .e .nil))))) (.op 9 .e (.op 10 .r (.op 5 .e (.op 11 .r (.op 12 .e .nil))))))) (.op 9 .e (.op 10 .r (.alt (.op 5 .e (.op 11 .r (.op 8 .e (.op 12 .e .nil)))) (.op 8 .e (.op 5 .e (.op 11 .r (.op 12 .e .nil)))))))))) (.alt (.op 5 .e (.alt (.op 2 .e (.alt (.op 8 .e (.op 9 .e (.op 10 .r (.op 11 .r (.op 12 .e .nil))))) (.op 9 .e (.op 10 .r (.op 11 .r (.op 8 .e (.op 12 .e .nil))))))) (.alt (.op 8 .e (.alt (.op 2 .e (.op 9 .e (.op 10 .r (.op 11 .r (.op 12 .e .nil))))) (.op 9 .e (.op 2 .e (.op 10 .r (.op 11 .r (.op 12 .e .nil))))))) (.op 9 .e (.alt (.op 2 .e (.op 10 .r (.op 11 .r (.op 8 .e (.op 12 .e .nil))))) (.op 8 .e (.op 2 .e (.op 10 .r (.op 11 .r (.op 12 .e .nil)))))))))) (.alt (.op 8 .e (.alt (.op 2 .e (.alt (.op 5 .e (.op 9 .e (.op 10 .r (.op 11 .r (.op 12 .e .nil))))) (.op 9 .e (.op 10 .r (.op 5 .e (.op 11 .r (.op 12 .e .nil))))))) (.alt (.op 5 .e (.alt (.op 2 .e (.op 9 .e (.op 10 .r (.op 11 .r (.op 12 .e .nil))))) (.op 9 .e (.op 2 .e (.op 10 .r (.op 11 .r (.op 12 .e .nil))))))) (.op 9 .e (.alt (.op 2 .e (.op 10 .r (.op 5 .e (.op 11 .r (.op 12 .e .nil))))) (.op 5 .e (.op 2 .e (.op 10 .r (.op 11 .r (.op 12 .e .nil)))))))))) (.op 9 .e (.alt (.op 2 .e (.op 10 .r (.alt (.op 5 .e (.op 11 .r (.op 8 .e (.op 12 .e .nil)))) (.op 8 .e (.op 5 .e (.op 11 .r (.op 12 .e .nil))))))) (.alt (.op 5 .e (.alt (.op 2 .e (.op 10 .r (.op 11 .r (.op 8 .e (.op 12 .e .nil))))) (.op 8 .e (.op 2 .e (.op 10 .r (.op 11 .r (.op 12 .e .nil))))))) (.op 8 .e (.alt (.op 2 .e (.op 10 .r (.op 5 .e (.op 11 .r (.op 12 .e .nil))))) (.op 5 .e (.op 2 .e (.op 10 .r (.op 11 .r (.op 12 .e .nil)))))))))))))))))))) (.s (.s .z (.l 4611686014132423744 [6,32] (.s .z (.s (.s .z .z) (.s (.s .z (.s (.d (.op 0 .r (.op 1 .r (.op 2 .r (.op 3 .r (.op 4 .r (.op 5 .r (.op 6 .r (.op 7 .r (.op 8 .r (.op 10 .r (.op 11 .r (.op 12 .r (.op 14 .r (.op 9 .e (.op 13 .e (.op 15 .r (.op 16 .e (.op 17 .r (.op 18 .n (.op 19 .r (.op 20 .n .nil)))))))))))))))))))))) .z)) .z))))) (.s .z (.s (.s .z (.l 1208335523804270469062656 [69] (.s .z (.s (.s .z .z) (.s (.s .z .z) .z))))) (.s .z .z)))))))) H
def uQ (a0 a1 a2:Value)(h:ah)(R:Value→ah→Prop):Prop:=
 vK (aS a0) λd=>
 vK (aB 1 d) λe=>
 vK (ldV h e) λf=>
 vK ((aM #[ai,(.slice none 0 0)] [(0,1,a1),(1,1,a2)]).map .agg) λg=>
 di #[ai,(.slice none 0 0)] 189 1 [(0,2,g)] h λi j=>
 dk (.agg #[ai,.slice none 0 0]) 189 2 32 f i j λk l=>
 vK (aS a0) λm=>
 vK (aB 1 m) λn=>
 stK 1 n k l λad c=>
 vK (aS a0) λo=>
 vK (aB 2 o) λp=>
 vK (ldV c p) λq=>
 vK (aD a2) λr=>
 vK (ju q r) λs=>
 vK (aS a0) λt=>
 vK (aB 2 t) λu=>
 stK 1 u s c λae a=>
 bK a λS=>
 vK (aS a0) λv=>
 vK (aB 3 v) λw=>
 qK S (λa=>ldV a w) λx=>
 ag prog xd #[a2] a λy b=>
 S b∧(qK S (λb=>ju x y) λz=>
 vK (aS a0) λaa=>
 vK (aB 3 aa) λab=>
 stK 1 ab z b λaf ac=>
 R (.tuple #[]) ac)
theorem EI (H:uQ a0 a1 a2 h R):ag prog kM #[a0,a1,a2] h R:=fk f165 (.s .z (.s .z (.d (.op 0 .r (.op 1 .r (.op 2 .r (.op 3 .r (.op 4 .r (.op 5 .r (.op 6 .e (.op 7 .r (.op 8 .r (.op 9 .r (.op 10 .n .nil)))))))))))))) H
def yb (a0:Value)(h:ah)(R:Value→ah→Prop):Prop:=
 vK (aj .i .lss a0 aH) λb=>
 vK (gV b false (some a0)) λe=>
 vK (gV b false (aj .i .gtr e (af 4194304))) λf=>
 vK (aE b (.bool true) f) λg=>
 aF g (
 R (.tuple #[(.slice none 0 0),(af 7)]) h) (
 vK (aj .i .mul (af 3) a0) λj=>
 vK (aj .i .add j (af 65536)) λk=>
 vK (aj .i .sub k aH) λl=>
 vK (aj .i .shr l (.int .u64 16)) λc=>
 vK (unV .neg c) λm=>
 bA [(.slice none 0 0),m] h λa w d n=>
 vK (aj .i .leq (ix a 1) c) λo=>
 aF o (
 ag prog z7 #[(ix a 1),a0] d λp q=>
 di #[ai] 2 1 [(0,1,p)] q λr s=>
 dk ai 2 1 8 (ix a 0) r s λt u=>
 vK (aj .i .add (ix a 1) aH) λv=>
 n [t,v] u) (
 R (.tuple #[(ix a 0),ai]) d))
theorem IB (H:yb a0 h R):ag prog mJ #[a0] h R:=fk f166 (.s .z (.s (.s .z (.s (.s .z .z) .z)) (.s .z (.s .z (.s (.s .z (.l 2146435168 [5,6] (.s (.s .z (.s .z .z)) (.s .z .z)))) (.s .z .z)))))) H
def FN (a0:Value)(h:ah)(R:Value→ah→Prop):Prop:=
 vK (aj .i .lss a0 ai) λa=>
 vK (gV a false (some a0)) λc=>
 vK (gV a false (aj .i .gtr c (af 511))) λd=>
 vK (aE a (.bool true) d) λe=>
 aF e (
 R (.tuple #[(.slice none 0 0),(af 7)]) h) (
 di #[ai] 2 1 [(0,1,aH)] h λf g=>
 vK (aj .i .mul (af 2) a0) λj=>
 vK (aj .i .add j aH) λk=>
 ag prog fX #[f,k] g λl m=>
 ag prog sr #[l] m λb n=>
 vK (aL b 0) λo=>
 vK (aL b 1) λp=>
 R (.tuple #[o,p]) n)
theorem QF (H:FN a0 h R):ag prog Cn #[a0] h R:=fk f167 (.s .z (.s (.s .z (.s (.s .z .z) .z)) (.s .z .z))) H
def FL (a0:Value)(h:ah)(R:Value→ah→Prop):Prop:=
 ag prog xd #[a0] h λc g=>
 vK (aD a0) λj=>
 vK (aj .i .rem j (af 2)) λk=>
 vK (aj .i .eql k ai) λb=>
 vK (gV b false (some a0)) λl=>
 vK (gV b false (aD l)) λm=>
 vK (gV b false (aj .i .gtr m (af 1024))) λn=>
 vK (aE b (.bool true) n) λd=>
 vK (gV d false (some c)) λo=>
 vK (gV d false (aj .i .lss o aH)) λp=>
 vK (aE d (.bool true) p) λe=>
 vK (gV e false (some c)) λq=>
 vK (gV e false (aj .i .gtr q (af 1048576))) λr=>
 vK (aE e (.bool true) r) λs=>
 aF s (
 R (.tuple #[(.slice none 0 0),(af 7)]) g) (
 vK (aD a0) λt=>
 bA [(.slice none 0 0),ai] g λa ak f u=>
 vK (aj .i .lss (ix a 1) t) λv=>
 aF v (
 vK (bh 1 a0 (ix a 1)) λw=>
 vK (ldV f w) λx=>
 ag prog eJ #[x,(af 1073741824),c] f λy z=>
 di #[ai] 2 1 [(0,1,y)] z λaa ab=>
 dk ai 2 1 8 (ix a 0) aa ab λac ad=>
 vK (aj .i .add (ix a 1) aH) λae=>
 u [ac,ae] ad) (
 R (.tuple #[(ix a 0),ai]) f))
theorem QC (H:FL a0 h R):ag prog sr #[a0] h R:=fk f168 (.s .z (.s .z (.s (.s .z (.s (.s .z .z) .z)) (.s .z (.s (.s .z (.l 1098974757024 [5,29] (.s .z (.s (.s .z .z) (.s (.s .z .z) .z))))) (.s .z .z)))))) H
def Be (h:ah)(R:Value→ah→Prop):Prop:=
 vK ((aM #[ai,ai,ai,ai,(.slice none 0 0),(.slice none 0 0),ai,ai,ai] [(0,1,(af 3)),(7,1,(af 2)),(8,1,aH),(6,1,ai)]).map .agg) λq=>
 ag prog nE #[q,(af 4),(af 3)] h λo r=>
 vK (aL o 0) λs=>
 vK (aL o 1) λt=>
 aW #[(.pointer none),(.pointer none),ai] 81 r λa u=>
 stK 3 a s u λa7 v=>
 ag prog xQ #[] v λk b=>
 vK (gV k true (some t)) λw=>
 vK (gV k true (aj .i .eql w ai)) λx=>
 vK (aE k x (.bool false)) λg=>
 vK (gV g true (aB 0 a)) λy=>
 vK (gV g true (ldV b y)) λz=>
 vK (gV g true (aj .p .neq z (.pointer none))) λaa=>
 vK (aE g aa (.bool false)) λj=>
 vK (gV j true (aB 1 a)) λab=>
 vK (gV j true (ldV b ab)) λac=>
 vK (gV j true (aj .p .neq ac (.pointer none))) λad=>
 vK (aE j ad (.bool false)) λc=>
 vK (gV c true (aB 0 a)) λae=>
 vK (gV c true (ldV b ae)) λak=>
 gK c true (λal=>ag prog fW #[ak] b al) b λam l=>
 vK (gV c true (aj .i .eql am (af 4))) λan=>
 vK (aE c an (.bool false)) λd=>
 vK (gV d true (aB 0 a)) λao=>
 vK (gV d true (ldV l ao)) λap=>
 gK d true (λaq=>ag prog bJ #[ap] l aq) l λar m=>
 vK (gV d true (aj .i .eql ar (af 2))) λau=>
 vK (aE d au (.bool false)) λe=>
 vK (gV e true (aB 1 a)) λav=>
 vK (gV e true (ldV m av)) λaw=>
 gK e true (λax=>ag prog fW #[aw] m ax) m λay n=>
 vK (gV e true (aj .i .eql ay (af 3))) λaz=>
 vK (aE e az (.bool false)) λf=>
 vK (gV f true (aB 1 a)) λa0=>
 vK (gV f true (ldV n a0)) λa1=>
 gK f true (λa2=>ag prog bJ #[a1] n a2) n λa3 a4=>
 vK (gV f true (aj .i .eql a3 aH)) λa5=>
 vK (aE f a5 (.bool false)) λa6=>
 R a6 a4
theorem Mm (H:Be h R):ag prog q8 #[] h R:=fk f169 (.s .z (.s .z (.s .z .z))) H
def Bf (h:ah)(R:Value→ah→Prop):Prop:=
 ag prog iO #[(af 2),aH,(af 3),(af 255)] h λf g=>
 vK (aL f 0) λb=>
 vK (aL f 1) λl=>
 vK (aj .i .eql l ai) λd=>
 vK (gV d true (some b)) λm=>
 vK (gV d true (aj .p .neq m (.pointer none))) λn=>
 vK (aE d n (.bool false)) λa=>
 vK (gV a true (some b)) λo=>
 gK a true (λq=>ag prog kb #[o] g q) g λr j=>
 vK (gV a true (aD r)) λs=>
 vK (gV a true (aj .i .eql s (af 6))) λt=>
 vK (aE a t (.bool false)) λc=>
 vK (gV c true (some b)) λu=>
 gK c true (λv=>ag prog fZ #[u,aH,ai,(af 2),(.int .u16 256)] j v) j λw k=>
 vK (gV c true (unV .not w)) λx=>
 vK (aE c x (.bool false)) λe=>
 vK (gV e true (some b)) λy=>
 gK e true (λz=>ag prog fZ #[y,aH,ai,(af 2),(.int .u16 255)] k z) k λaa ab=>
 vK (aE e aa (.bool false)) λac=>
 R ac ab
theorem Mn (H:Bf h R):ag prog xP #[] h R:=fk f170 (.s .z (.s .z (.s .z .z))) H
def Au (a0 a1:Value)(h:ah)(R:Value→ah→Prop):Prop:=
 aW (Value.cells a1) 81 h λc j=>
 vK (aP 3 j c) λq=>
 ag prog jH #[a0,q] j λr a=>
 vK (unV .not r) λs=>
 aF s (
 R (.tuple #[(.pointer none),(af 6)]) a) (
 bK a λS=>
 vK (aB 0 c) λt=>
 qK S (λa=>ldV a t) λu=>
 vK (aB 1 c) λv=>
 qK S (λa=>ldV a v) λw=>
 ag prog bJ #[u] a λx k=>
 S k∧(ag prog bJ #[w] k λy z=>
 ag prog aV #[a0] z λaa ab=>
 ag prog dr #[a0] ab λac ad=>
 ag prog iO #[x,y,aa,ac] ad λl m=>
 vK (aL l 0) λb=>
 vK (aL l 1) λn=>
 vK (aj .i .neq n ai) λae=>
 aF ae (
 R (.tuple #[(.pointer none),n]) m) (
 ag prog bO #[b] m λak al=>
 bA [ai] al λd bb o am=>
 vK (aj .i .lss (ix d 0) ak) λan=>
 aF an (
 ag prog bM #[b] o λao ap=>
 bA [ai] ap λe bc p aq=>
 vK (aj .i .lss (ix e 0) ao) λar=>
 aF ar (
 ag prog aV #[b] p λau av=>
 bA [ai] av λf bd g aw=>
 vK (aj .i .lss (ix f 0) au) λax=>
 aF ax (
 vK (aP 3 g c) λay=>
 ag prog z8 #[a0,ay,(ix e 0),(ix d 0),(ix f 0)] g λaz a2=>
 ag prog dr #[a0] a2 λa3 a4=>
 ag prog pC #[az,a3] a4 λa5 a6=>
 ag prog fZ #[b,(ix e 0),(ix d 0),(ix f 0),a5] a6 λbe a7=>
 vK (aj .i .add (ix f 0) aH) λa8=>
 aw [a8] a7) (
 vK (aj .i .add (ix e 0) aH) λa9=>
 aq [a9] g)) (
 vK (aj .i .add (ix d 0) aH) λba=>
 am [ba] p)) (
 R (.tuple #[b,ai]) o))))
theorem Kt (H:Au a0 a1 h R):ag prog vV #[a0,a1] h R:=fk f171 (.s .z (.s (.s .z (.s (.s .z .z) .z)) (.s (.d (.op 0 .r (.op 1 .r (.op 3 .r (.op 4 .r (.op 6 .r (.op 8 .r (.op 2 .e (.op 5 .n (.op 7 .n (.op 9 .n (.op 10 .n (.op 11 .r (.op 12 .r (.op 13 .r (.op 14 .r (.op 15 .r .nil))))))))))))))))) (.s (.s .z (.s (.s .z .z) .z)) (.s (.s .z (.l 18446744056529684224 [34] (.s .z (.s (.s .z .z) (.s (.s .z (.s .z (.l 9223371487098963456 [39] (.s .z (.s (.s .z .z) (.s (.s .z (.s .z (.l 4611668426241344512 [44] (.s .z (.s (.s .z .z) (.s (.s .z .z) .z)))))) .z)))))) .z))))) (.s .z .z)))))) H
end
section
variable {a0 a1 a2 a3 a4 a5 a6:Value}{h:ah}{R:Value→ah→Prop}
def Ad (a0 a1 a2:Value)(h:ah)(R:Value→ah→Prop):Prop:=
 aW (Value.cells a2) 81 h λl a=>
 bK a λS=>
 vK (aj .p .neq a0 (.pointer none)) λm=>
 vK (gV m true (some a1)) λu=>
 vK (gV m true (aj .p .neq u (.pointer none))) λv=>
 vK (aE m v (.bool false)) λj=>
 vK (gV j true (some a0)) λw=>
 vK (gV j true (some a1)) λx=>
 qK S (λa=>gV j true (peV a .neq w x)) λy=>
 vK (aE j y (.bool false)) λk=>
 vK (gV k true (some a0)) λz=>
 qK S (λa=>gV k true (aP 3 a l)) λaa=>
 gK k true (λab=>ag prog jH #[z,aa] a ab) a λac f=>
 bK f λS=>
 vK (aE k ac (.bool false)) λb=>
 vK (gV b true (some a1)) λad=>
 vK (gV b true (aB 0 l)) λae=>
 qK S (λf=>gV b true (ldV f ae)) λaf=>
 gK b true (λai=>ag prog bM #[ad] f ai) f λak n=>
 S n∧(gK b true (λal=>ag prog bJ #[af] n al) n λam g=>
 bK g λS=>
 vK (gV b true (aj .i .eql ak am)) λan=>
 vK (aE b an (.bool false)) λc=>
 vK (gV c true (some a1)) λao=>
 vK (gV c true (aB 1 l)) λap=>
 qK S (λg=>gV c true (ldV g ap)) λaq=>
 gK c true (λar=>ag prog bO #[ao] g ar) g λau o=>
 S o∧(gK c true (λav=>ag prog bJ #[aq] o av) o λaw q=>
 vK (gV c true (aj .i .eql au aw)) λax=>
 vK (aE c ax (.bool false)) λd=>
 vK (gV d true (some a1)) λay=>
 vK (gV d true (some a0)) λaz=>
 gK d true (λa3=>ag prog aV #[ay] q a3) q λa4 r=>
 gK d true (λa5=>ag prog aV #[az] r a5) r λa6 s=>
 vK (gV d true (aj .i .eql a4 a6)) λa7=>
 vK (aE d a7 (.bool false)) λe=>
 vK (gV e true (some a1)) λa8=>
 vK (gV e true (some a0)) λa9=>
 gK e true (λba=>ag prog dr #[a8] s ba) s λbb t=>
 gK e true (λbc=>ag prog dr #[a9] t bc) t λbd be=>
 vK (gV e true (aj .i .eql bb bd)) λbf=>
 vK (aE e bf (.bool false)) λbg=>
 R bg be))
theorem Kb (H:Ad a0 a1 a2 h R):ag prog vN #[a0,a1,a2] h R:=fk f172 (.s .z (.s (.d (.op 0 .r (.op 1 .r (.op 2 .r (.op 3 .r (.op 4 .r (.op 5 .r (.op 6 .r (.op 7 .r (.op 8 .r (.op 9 .r (.op 10 .r (.op 11 .r (.op 12 .r (.op 13 .r (.op 14 .f (.op 15 .r (.op 16 .r (.op 17 .r (.op 19 .r (.op 20 .r (.op 18 .e (.op 21 .f (.op 22 .r (.op 23 .r (.op 24 .r (.op 25 .r (.op 27 .r (.op 28 .r (.op 26 .e (.op 29 .n (.op 30 .r (.op 31 .r (.op 32 .r (.op 33 .r (.op 35 .r (.op 34 .n (.op 36 .n (.op 37 .r (.op 38 .r (.op 39 .r (.op 40 .r (.op 42 .r (.op 41 .n (.op 43 .n (.op 44 .r (.op 45 .r (.op 46 .r .nil)))))))))))))))))))))))))))))))))))))))))))))))) .z)) H
def Jq (a0 a1:Value)(h:ah)(R:Value→ah→Prop):Prop:=
 vK (ju aH a0) λa=>
 vK (rR a (af 65536)) λb=>
 vK (ju ai a1) λc=>
 vK (rR c (af 262144)) λd=>
 V0 h λe f=>
 vK ((aM #[ai,ai,(.map none),(.slice none 0 0)] [(0,1,b),(1,1,d),(2,1,e)]).map .agg) λg=>
 aW (Value.cells g) 287 f λi j=>
 R i j
theorem Tc (H:Jq a0 a1 h R):ag prog Fz #[a0,a1] h R:=fk f173 (.s .z (.s .z .z)) H
def uP (a0:Value)(h:ah)(R:Value→ah→Prop):Prop:=
 aW #[ai,ai] 146 h λb l=>
 ag prog oO #[a0] l λm e=>
 aF m (
 vK ((aM #[ai,ai] []).map .agg) λn=>
 stK 2 b n e λar f=>
 vK (aP 2 f b) λo=>
 R o f) (
 ag prog kL #[a0] e λp q=>
 aW #[ai,(.slice none 0 0)] 189 q λc r=>
 stK 2 c p r λau a=>
 bK a λS=>
 vK (aS a0) λs=>
 vK (aB 15 s) λt=>
 qK S (λa=>ldV a t) λu=>
 vK (aB 0 c) λv=>
 qK S (λa=>ldV a v) λw=>
 vK (aB 0 c) λx=>
 qK S (λa=>ldV a x) λy=>
 vK (aB 1 c) λz=>
 qK S (λa=>ldV a z) λaa=>
 qK S (λa=>aD aa) λab=>
 vK (aj .i .add y ab) λac=>
 ag prog qG #[u,w,ac] a λg d=>
 vK (aL g 0) λad=>
 vK (aL g 1) λae=>
 aF ae (
 vK ((aM #[ai,ai] [(0,1,aH),(1,1,ad)]).map .agg) λak=>
 stK 2 b ak d λav j=>
 vK (aP 2 j b) λal=>
 R al j) (
 vK (aS a0) λam=>
 vK (aB 16 am) λan=>
 vK (ldV d an) λao=>
 vK ((aM #[ai,ai] [(0,1,(af 2)),(1,1,ao)]).map .agg) λap=>
 stK 2 b ap d λaw k=>
 vK (aP 2 k b) λaq=>
 R aq k))
theorem EH (H:uP a0 h R):ag prog iK #[a0] h R:=fk f174 (.s .z (.s (.s .z (.s (.s .z .z) .z)) (.s .z (.s (.s (.d (.op 0 .r (.op 1 .r (.op 2 .r (.op 3 .r (.op 4 .r (.op 5 .r (.op 6 .r (.op 7 .r (.op 8 .r (.op 9 .r (.op 10 .r (.op 11 .r (.op 12 .n (.op 13 .r (.op 14 .r (.op 15 .r (.op 16 .r (.op 17 .r .nil))))))))))))))))))) (.s .z (.s (.s .z .z) .z))) (.s .z .z))))) H
def rk (a0 a1:Value)(h:ah)(R:Value→ah→Prop):Prop:=
 bK h λS=>
 vK (aS a0) λe=>
 vK (aB 2 e) λf=>
 vK (aB 2 f) λg=>
 qK S (λh=>ldV h g) λj=>
 vK (aS a0) λk=>
 vK (aB 0 k) λl=>
 qK S (λh=>ldV h l) λm=>
 ag prog bO #[m] h λn c=>
 S c∧(ag prog lz #[j,a1,n] c λo d=>
 vK (aS a0) λp=>
 vK (aB 5 p) λq=>
 vK (aB 1 q) λr=>
 vK (aB 2 r) λs=>
 vK (ldV d s) λt=>
 bA [(.slice none 0 0),ai] d λa an b u=>
 vK (aj .i .lss (ix a 1) t) λv=>
 aF v (
 vK (aS a0) λw=>
 vK (aB 5 w) λx=>
 vK (aB 1 x) λy=>
 vK (aB 0 y) λz=>
 vK (ldV b z) λaa=>
 vK (aj .i .add aa (ix a 1)) λab=>
 ag prog lX #[a0,ab,o,(ix a 0)] b λac ad=>
 vK (aj .i .add (ix a 1) aH) λae=>
 u [ac,ae] ad) (
 vK (aS a0) λaf=>
 vK (aB 15 af) λak=>
 vK (ldV b ak) λal=>
 ag prog sV #[al,a1,(ix a 0)] b λao am=>
 R (.tuple #[]) am))
theorem Bz (H:rk a0 a1 h R):ag prog lW #[a0,a1] h R:=fk f175 (.s (.d (.op 0 .r (.op 1 .r (.op 2 .r (.op 3 .r (.op 4 .r (.op 5 .r (.op 6 .r (.op 7 .r (.op 8 .r (.op 9 .r (.op 10 .e (.op 11 .n (.op 12 .r .nil)))))))))))))) (.s .z (.s (.s .z (.l 2198989701216 [5,25] (.s .z (.s (.s .z .z) (.s (.s .z .z) .z))))) .z))) H
def tf (a0:Value)(h:ah)(R:Value→ah→Prop):Prop:=
 ag prog kL #[a0] h λt u=>
 aW #[ai,(.slice none 0 0)] 189 u λj v=>
 stK 2 j t v λca k=>
 vK (aS a0) λw=>
 vK (aB 15 w) λx=>
 vK (ldV k x) λy=>
 ag prog oV #[y] k λl z=>
 mkK ai 2 1 8 l l z λe m=>
 vK (aB 1 j) λaa=>
 vK (ldV m aa) λn=>
 vK (aD n) λab=>
 bA [ai] m λf cb b ac=>
 vK (aj .i .lss (ix f 0) ab) λad=>
 aF ad (
 vK (bh 1 n (ix f 0)) λae=>
 vK (ldV b ae) λaf=>
 bK b λS=>
 vK (aS a0) λak=>
 vK (aB 15 ak) λal=>
 qK S (λb=>ldV b al) λam=>
 vK (aB 0 j) λan=>
 qK S (λb=>ldV b an) λao=>
 vK (aj .i .add ao (ix f 0)) λap=>
 ag prog sU #[am,ap] b λo aq=>
 vK (aL o 0) λp=>
 vK (aL o 1) λcc=>
 vK (aD p) λar=>
 bA [ai] aq λc cd g au=>
 vK (aj .i .lss (ix c 0) ar) λav=>
 aF av (
 vK (bh 1 p (ix c 0)) λaw=>
 vK (ldV g aw) λax=>
 vK (bh 1 e (ix c 0)) λay=>
 vK (ldV g ay) λaz=>
 vK (aj .i .mul af ax) λa1=>
 vK (aj .i .add az a1) λa2=>
 vK (bh 1 e (ix c 0)) λa3=>
 stK 1 a3 a2 g λce a4=>
 vK (aj .i .add (ix c 0) aH) λa5=>
 au [a5] a4) (
 vK (aj .i .add (ix f 0) aH) λa6=>
 ac [a6] g)) (
 vK (aS a0) λa7=>
 vK (aB 1 a7) λa8=>
 vK (ldV b a8) λa9=>
 ag prog aV #[a9] b λq ba=>
 vK (aD e) λbb=>
 bA [ai] ba λd cf a bc=>
 vK (aj .i .lss (ix d 0) bb) λbd=>
 aF bd (
 vK (bh 1 e (ix d 0)) λbe=>
 vK (ldV a be) λbf=>
 bK a λS=>
 vK (aS a0) λbg=>
 vK (aB 1 bg) λbi=>
 qK S (λa=>ldV a bi) λbj=>
 vK (aS a0) λbk=>
 vK (aB 5 bk) λbl=>
 vK (aB 1 bl) λbm=>
 vK (aB 0 bm) λbn=>
 qK S (λa=>ldV a bn) λbo=>
 vK (aj .i .quo (ix d 0) q) λbp=>
 vK (aj .i .add bo bp) λbq=>
 vK (aS a0) λbr=>
 vK (aB 16 br) λbs=>
 qK S (λa=>ldV a bs) λbt=>
 vK (aj .i .rem (ix d 0) q) λbu=>
 vK (aS a0) λbv=>
 vK (aB 1 bv) λbw=>
 qK S (λa=>ldV a bw) λbx=>
 ag prog dr #[bx] a λbz r=>
 S r∧(ag prog pC #[bf,bz] r λb0 s=>
 S s∧(ag prog fZ #[bj,bq,bt,bu,b0] s λcg b1=>
 vK (aj .i .add (ix d 0) aH) λb2=>
 bc [b2] b1))) (
 vK (aS a0) λb3=>
 vK (aB 16 b3) λb4=>
 vK (ldV a b4) λb5=>
 vK (aj .i .add b5 aH) λb6=>
 vK (aS a0) λb7=>
 vK (aB 16 b7) λb8=>
 stK 1 b8 b6 a λch b9=>
 R (.tuple #[]) b9))
theorem Di (H:tf a0 h R):ag prog mY #[a0] h R:=fk f176 (.s .z (.s .z (.s (.s .z (.l 576460752286647280 [24] (.s .z (.s (.s .z .z) (.s (.s .z (.s (.d (.op 0 .r (.op 1 .r (.op 2 .r (.op 3 .r (.op 4 .r (.op 5 .r (.op 6 .r (.op 7 .r (.op 8 .n (.op 9 .r (.op 10 .r (.op 11 .r (.op 12 .r (.op 13 .r .nil))))))))))))))) (.s .z (.l 288221580058690304 [43] (.s .z (.s (.s .z .z) (.s (.s .z .z) .z))))))) .z))))) (.s .z (.s (.s .z (.l 2535301200382671826698568210432 [66] (.s .z (.s (.s .z .z) (.s (.s .z (.d (.op 0 .r (.op 1 .r (.op 2 .r (.op 3 .r (.op 4 .r (.op 5 .r (.op 6 .r (.op 7 .r (.op 8 .r (.op 9 .r (.op 10 .r (.op 11 .r (.op 12 .r (.op 13 .r (.op 14 .r (.op 15 .r (.op 16 .r (.op 17 .r (.op 18 .r (.op 19 .r (.op 20 .r (.op 21 .r (.op 22 .r (.op 23 .r (.op 24 .r (.op 25 .r (.op 26 .e (.op 27 .e (.op 28 .n .nil))))))))))))))))))))))))))))))) .z))))) .z))))) H
def D0 (a0:Value)(h:ah)(R:Value→ah→Prop):Prop:=
 aW (Value.cells a0) 120 h λc a=>
 vK (aB 0 c) λf=>
 vK (ldV a f) λg=>
 vK (aj .i .geq g ai) λd=>
 vK (gV d true (aB 2 c)) λj=>
 vK (gV d true (ldV a j)) λk=>
 vK (gV d true (aj .i .geq k ai)) λl=>
 vK (aE d l (.bool false)) λe=>
 vK (gV e true (aB 3 c)) λm=>
 vK (gV e true (ldV a m)) λn=>
 vK (gV e true (aj .i .geq n ai)) λo=>
 vK (aE e o (.bool false)) λb=>
 vK (gV b true (aB 3 c)) λp=>
 vK (gV b true (ldV a p)) λq=>
 vK (gV b true (aB 4 c)) λr=>
 vK (gV b true (ldV a r)) λs=>
 vK (gV b true (aj .i .lss q s)) λt=>
 vK (aE b t (.bool false)) λu=>
 R u a
theorem OH (H:D0 a0 h R):ag prog zW #[a0] h R:=fk f178 (.s .z (.s .z .z)) H
def DF (a0:Value)(h:ah)(R:Value→ah→Prop):Prop:=
 vK (aj .i .geq a0 aH) λa=>
 vK (gV a true (some a0)) λb=>
 vK (gV a true (aj .i .leq b (af 65536))) λc=>
 vK (aE a c (.bool false)) λd=>
 R d h
theorem Oi (H:DF a0 h R):ag prog lI #[a0] h R:=fk f179 (.s .z (.s .z .z)) H
def Aj (a0 a1 a2:Value)(h:ah)(R:Value→ah→Prop):Prop:=
 vK (aj .i .lss a0 ai) λd=>
 vK (gV d false (some a0)) λn=>
 vK (gV d false (aj .i .gtr n (af 2))) λo=>
 vK (aE d (.bool true) o) λb=>
 vK (gV b false (some a1)) λp=>
 gK b false (λq=>ag prog oZ #[p] h q) h λr e=>
 vK (gV b false (unV .not r)) λs=>
 vK (aE b (.bool true) s) λc=>
 vK (gV c false (some a2)) λt=>
 gK c false (λu=>ag prog oZ #[t] e u) e λv f=>
 vK (gV c false (unV .not v)) λw=>
 vK (aE c (.bool true) w) λx=>
 aF x (
 R (.tuple #[(.slice none 0 0),(af 6)]) f) (
 bA [(.slice none 0 0),ai] f λa aq g y=>
 vK (aj .i .lss (ix a 1) a2) λz=>
 aF z (
 ag prog xf #[a0,a1,a2,(ix a 1)] g λj aa=>
 vK (aL j 0) λab=>
 vK (aL j 1) λac=>
 ag prog iL #[ac] aa λk l=>
 vK (aL k 0) λad=>
 vK (aL k 1) λm=>
 vK (aj .i .neq m ai) λae=>
 aF ae (
 R (.tuple #[(.slice none 0 0),m]) l) (
 vK ((aM #[ai,(.slice none 0 0)] [(0,1,ab),(1,1,ad)]).map .agg) λak=>
 di #[ai,(.slice none 0 0)] 240 1 [(0,2,ak)] l λal am=>
 dk (.agg #[ai,.slice none 0 0]) 240 2 32 (ix a 0) al am λan ao=>
 vK (aj .i .add (ix a 1) aH) λap=>
 y [an,ap] ao)) (
 R (.tuple #[(ix a 0),ai]) g))
theorem Kh (H:Aj a0 a1 a2 h R):ag prog o0 #[a0,a1,a2] h R:=fk f180 (.s .z (.s (.s .z (.s (.s .z .z) .z)) (.s .z (.s (.s .z (.l 144115185928388544 [8,31] (.s .z (.s (.s .z .z) (.s (.s .z (.s .z (.s .z (.s (.s .z (.s (.s .z .z) .z)) .z)))) .z))))) (.s .z .z))))) H
def wA (a0:Value)(h:ah)(R:Value→ah→Prop):Prop:=
 vK (aj .i .lss a0 aH) λc=>
 vK (gV c false (some a0)) λf=>
 vK (gV c false (aj .i .gtr f (af 4194304))) λg=>
 vK (aE c (.bool true) g) λj=>
 aF j (
 R (.tuple #[(.slice none 0 0),(af 7)]) h) (
 bA [ai] h λb z d k=>
 vK (aj .i .mul (ix b 0) (af 65536)) λl=>
 vK (aj .i .mul (af 3) a0) λm=>
 vK (aj .i .lss l m) λn=>
 aF n (
 vK (aj .i .add (ix b 0) aH) λo=>
 k [o] d) (
 vK (unV .neg (ix b 0)) λp=>
 bA [(.slice none 0 0),p] d λa aa e q=>
 vK (aj .i .leq (ix a 1) (ix b 0)) λr=>
 aF r (
 ag prog xI #[(ix a 1),a0] e λs t=>
 di #[ai] 2 1 [(0,1,s)] t λu v=>
 dk ai 2 1 8 (ix a 0) u v λw x=>
 vK (aj .i .add (ix a 1) aH) λy=>
 q [w,y] x) (
 R (.tuple #[(ix a 0),ai]) e)))
theorem Gz (H:wA a0 h R):ag prog qH #[a0] h R:=fk f181 (.s .z (.s (.s .z (.s (.s .z .z) .z)) (.s .z (.s (.l 1040400 [4] (.s (.s .z (.s .z .z)) .z)) (.s .z (.s (.s .z (.l 8585740384 [5,6] (.s (.s .z (.s .z .z)) (.s .z .z)))) (.s .z .z))))))) H
def DO (a0:Value)(h:ah)(R:Value→ah→Prop):Prop:=
 vK (aj .i .lss a0 ai) λb=>
 vK (gV b false (some a0)) λe=>
 vK (gV b false (aj .i .gtr e (af 511))) λf=>
 vK (aE b (.bool true) f) λg=>
 aF g (
 R (.tuple #[(.slice none 0 0),(af 7)]) h) (
 vK (aj .i .mul (af 2) a0) λj=>
 vK (aj .i .add j aH) λk=>
 bA [(.slice none 0 0),ai] h λa v c l=>
 vK (aj .i .lss (ix a 1) k) λm=>
 aF m (
 di #[ai] 2 1 [(0,1,aH)] c λn o=>
 dk ai 2 1 8 (ix a 0) n o λp q=>
 vK (aj .i .add (ix a 1) aH) λr=>
 l [p,r] q) (
 ag prog pe #[(ix a 0)] c λd s=>
 vK (aL d 0) λt=>
 vK (aL d 1) λu=>
 R (.tuple #[t,u]) s))
theorem Ov (H:DO a0 h R):ag prog zO #[a0] h R:=fk f182 (.s .z (.s (.s .z (.s (.s .z .z) .z)) (.s .z (.s (.s .z (.l 1032208 [4,14] (.s .z (.s (.s .z .z) (.s .z .z))))) (.s .z .z))))) H
def DL (a0:Value)(h:ah)(R:Value→ah→Prop):Prop:=
 ag prog xG #[a0] h λc g=>
 vK (aD a0) λj=>
 vK (aj .i .rem j (af 2)) λk=>
 vK (aj .i .eql k ai) λb=>
 vK (gV b false (some a0)) λl=>
 vK (gV b false (aD l)) λm=>
 vK (gV b false (aj .i .gtr m (af 1024))) λn=>
 vK (aE b (.bool true) n) λd=>
 vK (gV d false (some c)) λo=>
 vK (gV d false (aj .i .eql o ai)) λp=>
 vK (aE d (.bool true) p) λe=>
 vK (gV e false (some c)) λq=>
 vK (gV e false (aj .i .gtr q (af 1048576))) λr=>
 vK (aE e (.bool true) r) λs=>
 aF s (
 R (.tuple #[(.slice none 0 0),(af 7)]) g) (
 vK (aD a0) λt=>
 bA [(.slice none 0 0),ai] g λa ak f u=>
 vK (aj .i .lss (ix a 1) t) λv=>
 aF v (
 vK (bh 1 a0 (ix a 1)) λw=>
 vK (ldV f w) λx=>
 ag prog dn #[x,(af 1073741824),c] f λy z=>
 di #[ai] 2 1 [(0,1,y)] z λaa ab=>
 dk ai 2 1 8 (ix a 0) aa ab λac ad=>
 vK (aj .i .add (ix a 1) aH) λae=>
 u [ac,ae] ad) (
 R (.tuple #[(ix a 0),ai]) f))
theorem Oq (H:DL a0 h R):ag prog pe #[a0] h R:=fk f183 (.s .z (.s .z (.s (.s .z (.s (.s .z .z) .z)) (.s .z (.s (.s .z (.l 1098974757024 [5,29] (.s .z (.s (.s .z .z) (.s (.s .z .z) .z))))) (.s .z .z)))))) H
def Ak (a0 a1:Value)(h:ah)(R:Value→ah→Prop):Prop:=
 ag prog oZ #[a1] h λg b=>
 vK (unV .not g) λj=>
 aF j (
 R (.tuple #[(.slice none 0 0),(af 6)]) b) (
 vK (aD a0) λk=>
 vK (aj .i .rem k (af 2)) λl=>
 vK (aj .i .eql l ai) λm=>
 aF m (
 R (.tuple #[(.slice none 0 0),(af 7)]) b) (
 ag prog iL #[a0] b λc d=>
 vK (aL c 0) λn=>
 vK (aL c 1) λe=>
 vK (aj .i .neq e ai) λo=>
 aF o (
 R (.tuple #[(.slice none 0 0),e]) d) (
 bA [(.slice none 0 0),ai] d λa aa f p=>
 vK (aj .i .lss (ix a 1) a1) λq=>
 aF q (
 vK (aD a0) λr=>
 vK (aj .i .quo r (af 2)) λs=>
 vK (aj .i .sub (ix a 1) s) λt=>
 vK ((aM #[ai,(.slice none 0 0)] [(0,1,t),(1,1,n)]).map .agg) λu=>
 di #[ai,(.slice none 0 0)] 240 1 [(0,2,u)] f λv w=>
 dk (.agg #[ai,.slice none 0 0]) 240 2 32 (ix a 0) v w λx y=>
 vK (aj .i .add (ix a 1) aH) λz=>
 p [x,z] y) (
 R (.tuple #[(ix a 0),ai]) f))))
theorem Ki (H:Ak a0 a1 h R):ag prog pd #[a0,a1] h R:=fk f184 (.s .z (.s (.s .z (.s (.s .z .z) .z)) (.s (.s .z (.s (.s .z .z) .z)) (.s .z (.s (.s .z (.s (.s .z .z) .z)) (.s .z (.s (.s .z (.l 1099444519680 [8,26] (.s .z (.s (.s .z .z) (.s (.s .z .z) .z))))) (.s .z .z)))))))) H
def Bn (a0 a1 a2:Value)(h:ah)(R:Value→ah→Prop):Prop:=
 vK (rR a0 a2) λa=>
 vK (ju a1 a) λb=>
 R b h
theorem Mt (H:Bn a0 a1 a2 h R):ag prog q9 #[a0,a1,a2] h R:=fk f185 (.s .z (.s .z .z)) H
def Gh (a0 a1:Value)(h:ah)(R:Value→ah→Prop):Prop:=
 vK (aj .i .eql a1 ai) λd=>
 vK (gV d false (some a1)) λe=>
 vK (gV d false (aj .i .eql e (af (-1)))) λf=>
 vK (aE d (.bool true) f) λg=>
 aF g (
 R ai h) (
 vK (aj .i .rem a0 a1) λc=>
 vK (aj .i .neq c ai) λa=>
 vK (gV a true (some c)) λj=>
 vK (gV a true (aj .i .lss j ai)) λk=>
 vK (gV a true (some a1)) λl=>
 vK (gV a true (aj .i .lss l ai)) λm=>
 vK (gV a true (aj .b .neq k m)) λn=>
 vK (aE a n (.bool false)) λo=>
 aF o (
 vK (aj .i .add c a1) λp=>
 R p h) (
 R c h))
theorem Q8 (H:Gh a0 a1 h R):ag prog sC #[a0,a1] h R:=fk f186 (.s .z (.s (.s .z (.s (.s .z .z) .z)) (.s .z (.s (.s .z (.s .z .z)) (.s .z .z))))) H
def jd (a0 a1:Value)(h:ah)(R:Value→ah→Prop):Prop:=
 vK (aD a0) λc=>
 vK (aD a1) λd=>
 vK (aj .i .neq c d) λe=>
 aF e (
 R (.bool false) h) (
 vK (aD a0) λf=>
 bA [ai] h λb q a g=>
 vK (aj .i .lss (ix b 0) f) λj=>
 aF j (
 vK (bh 1 a0 (ix b 0)) λk=>
 vK (ldV a k) λl=>
 vK (bh 1 a1 (ix b 0)) λm=>
 vK (ldV a m) λn=>
 vK (aj .i .neq l n) λo=>
 aF o (
 R (.bool false) a) (
 vK (aj .i .add (ix b 0) aH) λp=>
 g [p] a)) (
 R (.bool true) a))
theorem pF (H:jd a0 a1 h R):ag prog fY #[a0,a1] h R:=fk f188 (.s .z (.s (.s .z (.s (.s .z .z) .z)) (.s (.s .z (.l 67100720 [13] (.s .z (.s (.s .z .z) (.s (.s .z (.s .z (.s (.s .z .z) .z))) .z))))) (.s .z .z)))) H
def DW (a0 a1 a2 a3:Value)(h:ah)(R:Value→ah→Prop):Prop:=
 ag prog Jk #[a0,a1,a2,a3] h λg b=>
 vK (unV .not g) λj=>
 aF j (
 R (.tuple #[ai,ai]) b) (
 vK (aj .i .mul a3 a1) λk=>
 ag prog kp #[k,a2] b λc l=>
 vK (aj .i .add a3 aH) λm=>
 vK (aj .i .mul m a1) λn=>
 ag prog zQ #[n,a2] l λo a=>
 vK (aj .i .neq a0 ai) λp=>
 aF p (
 vK (aj .i .mul (af 2) a3) λq=>
 vK (aj .i .add q aH) λr=>
 vK (aj .i .mul r a1) λs=>
 vK (aj .i .sub s a2) λd=>
 vK (MX 3 2 (.pointer (some ⟨fK,0,none⟩)) a0) λt=>
 vK (aB 1 t) λu=>
 vK (ldV a u) λv=>
 vK (aj .i .mul v (af 2)) λw=>
 vK (ju a1 a2) λx=>
 vK (aj .i .mul w x) λe=>
 vK (aj .i .sub d e) λy=>
 vK (aj .i .mul (af 2) a2) λz=>
 ag prog kp #[y,z] a λaa ab=>
 vK (aj .i .add aa aH) λf=>
 vK (aj .i .add d e) λac=>
 vK (aj .i .mul (af 2) a2) λad=>
 ag prog zQ #[ac,ad] ab λae ak=>
 vK (aj .i .sub ae f) λal=>
 R (.tuple #[f,al]) ak) (
 vK (aj .i .sub o c) λam=>
 R (.tuple #[c,am]) a))
theorem OD (H:DW a0 a1 a2 a3 h R):ag prog zR #[a0,a1,a2,a3] h R:=fk f200 (.s .z (.s (.s .z (.s (.s .z .z) .z)) (.s .z (.s (.s .z (.s (.s .z .z) .z)) (.s .z .z))))) H
def F0 (a0 a1 a2 a3 a4:Value)(h:ah)(R:Value→ah→Prop):Prop:=
 vK (aj .i .eql a0 ai) λc=>
 aF c (
 vK (aj .i .add a3 aH) λd=>
 vK (aj .i .mul d a1) λe=>
 vK (aj .i .add a4 aH) λf=>
 vK (aj .i .mul f a2) λg=>
 vK (rR e g) λj=>
 vK (aj .i .mul a3 a1) λk=>
 vK (aj .i .mul a4 a2) λl=>
 vK (ju k l) λm=>
 vK (aj .i .sub j m) λn=>
 ag prog eJ #[n,(af 1073741824),a1] h λo p=>
 R o p) (
 vK (aj .i .mul (af 2) a2) λq=>
 vK (aj .i .mul q a4) λr=>
 vK (aj .i .mul (af 2) a3) λs=>
 vK (aj .i .add s aH) λt=>
 vK (aj .i .mul t a1) λu=>
 vK (aj .i .sub r u) λv=>
 vK (aj .i .add v a2) λa=>
 vK (ju a1 a2) λw=>
 vK (aj .i .mul (af 2) w) λb=>
 vK (aj .i .eql a0 aH) λx=>
 aF x (
 ag prog vR #[a,b] h λy z=>
 R y z) (
 ag prog vP #[a,b] h λaa ab=>
 R aa ab))
theorem QS (H:F0 a0 a1 a2 a3 a4 h R):ag prog Cv #[a0,a1,a2,a3,a4] h R:=fk f201 (.s .z (.s (.s .z (.s (.s .z (.s .z .z)) .z)) (.s .z (.s (.s .z (.s (.s .z .z) .z)) (.s .z .z))))) H
def DB (a0:Value)(h:ah)(R:Value→ah→Prop):Prop:=
 vK (aD a0) λe=>
 vK (aj .i .eql e ai) λa=>
 vK (gV a false (some a0)) λf=>
 vK (gV a false (aD f)) λg=>
 vK (gV a false (aj .i .gtr g (af 1048576))) λj=>
 vK (aE a (.bool true) j) λb=>
 vK (gV b false (some a0)) λk=>
 gK b false (λl=>ag prog dT #[k,(.func (.func mI) #[] #[])] h l) h λm c=>
 vK (aE b (.bool true) m) λn=>
 aF n (
 R (af 7) c) (
 ag prog zJ #[a0] c λo d=>
 vK (aj .i .lss o (af 268435456)) λp=>
 aF p (
 R (af 8) d) (
 R ai d))
theorem Oe (H:DB a0 h R):ag prog zI #[a0] h R:=fk f202 (.s .z (.s (.s .z (.s (.s .z .z) .z)) (.s (.s .z (.s (.s .z .z) .z)) (.s .z .z)))) H
def Jo (a0:Value)(h:ah)(R:Value→ah→Prop):Prop:=
 vK (aD a0) λc=>
 bA [ai,ai] h λa m b d=>
 vK (aj .i .lss (ix a 1) c) λe=>
 aF e (
 vK (bh 1 a0 (ix a 1)) λf=>
 vK (ldV b f) λg=>
 ag prog xj #[(ix a 0),g] b λj k=>
 vK (aj .i .add (ix a 1) aH) λl=>
 d [j,l] k) (
 R (ix a 0) b)
theorem Ta (H:Jo a0 h R):ag prog zJ #[a0] h R:=fk f203 (.s .z (.s .z (.s (.s .z (.l 65320 [3,8] (.s .z (.s (.s .z .z) (.s (.s .z .z) .z))))) (.s .z .z)))) H
def Bm (a0 a1:Value)(h:ah)(R:Value→ah→Prop):Prop:=
 vK (aj .i .eql a1 ai) λe=>
 aF e (
 R ai h) (
 bK h λS=>
 ag prog iT #[a0] h λf g=>
 ag prog iT #[a1] g λj k=>
 vK (aj .i .quo f j) λc=>
 ag prog iT #[a0] k λl m=>
 ag prog iT #[a1] m λn d=>
 vK (aj .i .rem l n) λo=>
 vK (aj .i .lss a0 ai) λp=>
 vK (aj .i .lss a1 ai) λq=>
 vK (aj .b .neq p q) λa=>
 vK (gV a true (some o)) λr=>
 vK (gV a true (aj .i .neq r (.int .u64 0))) λs=>
 vK (aE a s (.bool false)) λt=>
 aF t (
 vK (aj .i .add c (.int .u64 1)) λu=>
 ag prog lL #[u,a] d λv w=>
 R v w) (
 ag prog lL #[c,a] d λx y=>
 R x y))
theorem Ms (H:Bm a0 a1 h R):ag prog kp #[a0,a1] h R:=fk f204 (.s .z (.s (.s .z (.s (.s .z .z) .z)) (.s (.d (.op 0 .r (.op 2 .r (.op 5 .r (.op 7 .r (.op 1 .n (.op 3 .n (.op 4 .r (.op 6 .n (.op 8 .n (.op 9 .r (.op 10 .r (.op 11 .r .nil))))))))))))) (.s .z (.s (.s .z (.s .z .z)) (.s .z .z)))))) H
def gQ (a0 a1:Value)(h:ah)(R:Value→ah→Prop):Prop:=
 vK (aD a0) λa=>
 ag prog ib #[a0,a,a1] h λc b=>
 R (.tuple #[]) b
theorem mh (H:gQ a0 a1 h R):ag prog eV #[a0,a1] h R:=fk f205 .z H
def rn (a0 a1 a2:Value)(h:ah)(R:Value→ah→Prop):Prop:=
 bK h λS=>
 qK S (λh=>ldV h a2) λa=>
 vK (bh 1 a a1) λb=>
 qK S (λh=>ldV h b) λc=>
 qK S (λh=>ldV h a2) λd=>
 vK (bh 1 d a0) λe=>
 qK S (λh=>ldV h e) λf=>
 ag prog mc #[c,f] h λg i=>
 R g i
theorem BB (H:rn a0 a1 a2 h R):ag prog lY #[a0,a1,a2] h R:=fk f206 (.s .z (.s (.d (.op 0 .r (.op 1 .r (.op 2 .r (.op 3 .r (.op 4 .r (.op 5 .r (.op 6 .r (.op 7 .r (.op 8 .n (.op 9 .r .nil))))))))))) .z)) H
def rG (a0 a1:Value)(h:ah)(R:Value→ah→Prop):Prop:=
 ag prog kO #[a0] h λc d=>
 ag prog kO #[a1] d λb a=>
 aF c (
 aF b (
 R ai a) (
 R (af (-1)) a)) (
 aF b (
 R aH a) (
 vK (aj .i .lss a0 a1) λe=>
 aF e (
 R (af (-1)) a) (
 vK (aj .i .gtr a0 a1) λf=>
 aF f (
 R aH a) (
 R ai a))))
theorem BL (H:rG a0 a1 h R):ag prog mc #[a0,a1] h R:=fk f207 (.s .z (.s .z (.s .z (.s (.s .z (.s (.s (.s .z (.s (.s .z .z) .z)) (.s .z .z)) .z)) (.s (.s .z (.s (.s .z .z) .z)) (.s (.s .z (.s (.s .z .z) .z)) (.s (.s .z (.s (.s .z .z) .z)) (.s .z .z)))))))) H
def FM (a0:Value)(h:ah)(R:Value→ah→Prop):Prop:=
 vK (aD a0) λc=>
 bA [ai,ai] h λa o b d=>
 vK (aj .i .lss (ix a 1) c) λe=>
 aF e (
 vK (bh 1 a0 (ix a 1)) λf=>
 vK (ldV b f) λg=>
 ag prog xc #[g] b λj k=>
 ag prog xj #[(ix a 0),j] k λl m=>
 vK (aj .i .add (ix a 1) aH) λn=>
 d [l,n] m) (
 R (ix a 0) b)
theorem QE (H:FM a0 h R):ag prog xd #[a0] h R:=fk f208 (.s .z (.s .z (.s (.s .z (.l 130856 [3,8] (.s .z (.s (.s .z .z) (.s (.s .z .z) .z))))) (.s .z .z)))) H
def D8 (a0 a1:Value)(h:ah)(R:Value→ah→Prop):Prop:=
 ag prog zZ #[a0,a1] h λa b=>
 ag prog FB #[a] b λc d=>
 ag prog ko #[c,(af 10)] d λe f=>
 R e f
theorem OP (H:D8 a0 a1 h R):ag prog z7 #[a0,a1] h R:=fk f209 (.s .z (.s .z .z)) H
def jc (a0 a1:Value)(h:ah)(R:Value→ah→Prop):Prop:=
 fo (λe=>
 vK (aj .i .lss a1 ai) λm=>
 aF m (
 M9 h λan n=>
 e [] n) (
 e [] h))
 λao ap o=>
 vK (aD a0) λp=>
 vK (gh .u64 p) λq=>
 vK (gh .u64 a1) λr=>
 ag prog sZ #[q,r] o λf g=>
 vK (aL f 0) λs=>
 vK (aL f 1) λj=>
 fo (λk=>
 vK (aj .i .gtr s (.int .u64 0)) λc=>
 vK (gV c false (some j)) λt=>
 vK (gV c false (aj .i .gtr t (.int .u64 9223372036854775807))) λu=>
 vK (aE c (.bool true) u) λv=>
 aF v (
 M9 g λaq w=>
 k [] w) (
 k [] g))
 λar au x=>
 vK (gh .i64 j) λl=>
 mkK ai 2 1 8 l l x λa y=>
 Fm 1 a a0 y λz aa=>
 bA [z] aa λb av d ab=>
 vK (aD a) λac=>
 vK (aj .i .lss (ix b 0) ac) λad=>
 aF ad (
 bK d λS=>
 vK (xm 1 a (some (ix b 0)) none) λae=>
 vK (xm 1 a none (some (ix b 0))) λaf=>
 Fm 1 ae af d λak al=>
 vK (aj .i .add (ix b 0) ak) λam=>
 ab [am] al) (
 R a d)
theorem pE (H:jc a0 a1 h R):ag prog fX #[a0,a1] h R:=fk f210 (.s .z (.j 3584 [] (.s .z (.s .z .z)) (.s .z (.j 266338304 [] (.s .z (.s .z .z)) (.s .z (.s .z (.s (.l 140720308486400 [8] (.s (.s .z (.s .z .z)) (.d (.op 0 .r (.op 1 .r (.op 2 .r (.op 3 .r (.op 4 .r (.op 5 .r (.op 6 .r (.op 7 .n (.op 8 .r (.op 9 .r .nil))))))))))))) (.s .z .z)))))))) H
def AO (a0 a1 a2:Value)(h:ah)(R:Value→ah→Prop):Prop:=
 vK (aj .i .eql a2 ai) λr=>
 aF r (
 R ai h) (
 ag prog oP #[a0,a1] h λe s=>
 vK (aL e 0) λj=>
 vK (aL e 1) λt=>
 vK (aL e 2) λu=>
 ag prog sq #[a2] s λf k=>
 vK (aj .i .lss a2 ai) λv=>
 vK (aj .b .neq u v) λa=>
 vK (aj .i .geq j f) λw=>
 aF w (
 ag prog eI #[(.int .u64 1),(.int .u64 0),a] k λx y=>
 R x y) (
 ag prog pB #[j,t,f] k λl m=>
 vK (aL l 0) λn=>
 vK (aL l 1) λg=>
 vK (aj .i .sub f g) λo=>
 vK (gV a true (some g)) λz=>
 vK (gV a true (some o)) λaa=>
 vK (gV a true (aj .i .gtr z aa)) λab=>
 vK (aE a ab (.bool false)) λc=>
 vK (gV c false (some a)) λac=>
 vK (gV c false (unV .not ac)) λad=>
 vK (gV c false (some ad)) λd=>
 vK (gV d true (some g)) λae=>
 vK (gV d true (some o)) λaf=>
 vK (gV d true (aj .i .geq ae af)) λak=>
 vK (gV c false (aE d ak (.bool false))) λal=>
 vK (aE c (.bool true) al) λam=>
 aF am (
 ag prog gy #[n,(.int .u64 1),(.int .u64 0)] m λp an=>
 vK (aL p 0) λao=>
 vK (aL p 1) λap=>
 ag prog eI #[ap,ao,a] an λaq ar=>
 R aq ar) (
 ag prog gy #[n,(.int .u64 0),(.int .u64 0)] m λq au=>
 vK (aL q 0) λav=>
 vK (aL q 1) λaw=>
 ag prog eI #[aw,av,a] au λax ay=>
 R ax ay)))
theorem LW (H:AO a0 a1 a2 h R):ag prog eJ #[a0,a1,a2] h R:=fk f211 (.s .z (.s (.s .z (.s (.s .z .z) .z)) (.s .z (.s .z (.s .z (.s (.s .z (.s (.s .z .z) .z)) (.s .z (.s .z (.s .z (.s (.s .z (.s .z .z)) (.s .z (.s .z .z)))))))))))) H
def Bg (h:ah)(R:Value→ah→Prop):Prop:=
 ag prog xS #[] h λs l=>
 vK (unV .not s) λe=>
 gK e false (λt=>ag prog xR #[] l t) l λu m=>
 vK (gV e false (unV .not u)) λv=>
 vK (aE e (.bool true) v) λw=>
 aF w (
 R (.bool false) m) (
 ag prog kY #[ai,(af 4),(af 2)] m λn o=>
 vK (aL n 0) λb=>
 vK (aL n 1) λx=>
 vK (aj .i .neq x ai) λf=>
 vK (gV f false (some b)) λy=>
 vK (gV f false (aj .p .eql y (.pointer none))) λz=>
 vK (aE f (.bool true) z) λaa=>
 aF aa (
 R (.bool false) o) (
 ag prog bF #[b,aH] o λab ac=>
 aW #[ai,(.slice none 0 0)] 189 ac λg ad=>
 stK 2 g ab ad λa6 ae=>
 ag prog gG #[b,ai,(af 2)] ae λq ak=>
 vK (aL q 0) λal=>
 vK (aL q 1) λam=>
 ag prog bF #[b,ai] ak λan c=>
 vK (pV false 1 0 an) λao=>
 vK (aj .i .eql ao ai) λd=>
 vK (gV d true (aB 0 g)) λap=>
 vK (gV d true (ldV c ap)) λaq=>
 vK (gV d true (aj .i .eql aq (af 2))) λar=>
 vK (aE d ar (.bool false)) λa=>
 vK (gV a true (aB 1 g)) λau=>
 vK (gV a true (ldV c au)) λav=>
 gK a true (λaw=>di #[ai,ai] 2 2 [(0,1,(af 8192)),(1,1,(af 8192))] c aw) c λax r=>
 gK a true (λay=>ag prog uD #[av,ax] r ay) r λaz a0=>
 vK (aE a az (.bool false)) λj=>
 vK (gV j true (some al)) λa1=>
 vK (gV j true (aj .i .eql a1 ai)) λa2=>
 vK (aE j a2 (.bool false)) λk=>
 vK (gV k true (some am)) λa3=>
 vK (gV k true (aj .i .eql a3 (af 4))) λa4=>
 vK (aE k a4 (.bool false)) λa5=>
 R a5 a0))
theorem Mo (H:Bg h R):ag prog xQ #[] h R:=fk f212 (.s .z (.s (.s .z (.s (.s .z .z) .z)) (.s .z (.s (.s .z (.s (.s .z .z) .z)) (.s .z (.s .z (.s .z .z))))))) H
def nj (a0:Value)(h:ah)(R:Value→ah→Prop):Prop:=
 vK (aS a0) λa=>
 vK (aB 4 a) λb=>
 vK (ldV h b) λc=>
 ag prog dA #[c] h λd e=>
 R d e
theorem yt (H:nj a0 h R):ag prog kb #[a0] h R:=fk f213 (.s .z (.s .z .z)) H
def tu (a0 a1 a2 a3 a4:Value)(h:ah)(R:Value→ah→Prop):Prop:=
 ag prog iP #[a0,a1,a2,a3] h λc b=>
 vK (aj .i .lss c ai) λa=>
 vK (gV a false (some a4)) λd=>
 vK (gV a false (gh .i64 d)) λe=>
 vK (gV a false (some a0)) λf=>
 vK (gV a false (aS f)) λg=>
 vK (gV a false (aB 3 g)) λj=>
 vK (gV a false (ldV b j)) λk=>
 vK (gV a false (aj .i .gtr e k)) λl=>
 vK (aE a (.bool true) l) λm=>
 aF m (
 R (.bool false) b) (
 vK (aS a0) λn=>
 vK (aB 4 n) λo=>
 vK (ldV b o) λp=>
 vK (bh 1 p c) λq=>
 stK 1 q a4 b λs r=>
 R (.bool true) r)
theorem Do (H:tu a0 a1 a2 a3 a4 h R):ag prog fZ #[a0,a1,a2,a3,a4] h R:=fk f214 (.s .z (.s .z (.s (.s .z (.s (.s .z .z) .z)) (.s .z (.s .z .z))))) H
def At (a0 a1:Value)(h:ah)(R:Value→ah→Prop):Prop:=
 ag prog ko #[a0,(af 28)] h λa b=>
 vK (rR a1 (af 65535)) λc=>
 vK (ju ai c) λd=>
 ag prog q9 #[a,ai,d] b λe f=>
 vK (gh .u16 e) λg=>
 R g f
theorem Ks (H:At a0 a1 h R):ag prog pC #[a0,a1] h R:=fk f215 (.s .z (.s .z .z)) H
def Ea (a0 a1 a2 a3 a4:Value)(h:ah)(R:Value→ah→Prop):Prop:=
 aW (Value.cells a1) 81 h λf s=>
 vK (aP 3 s f) λbe=>
 ag prog jH #[a0,be] s λbf t=>
 vK (unV .not bf) λo=>
 vK (gV o false (some a4)) λbg=>
 vK (gV o false (aj .i .lss bg ai)) λbi=>
 vK (aE o (.bool true) bi) λg=>
 vK (gV g false (some a4)) λbj=>
 vK (gV g false (some a0)) λbk=>
 gK g false (λbl=>ag prog aV #[bk] t bl) t λbm a=>
 vK (gV g false (aj .i .geq bj bm)) λbn=>
 vK (aE g (.bool true) bn) λbo=>
 aF bo (
 R ai a) (
 fo (λbp=>
 bK a λS=>
 vK (aB 0 f) λbq=>
 qK S (λa=>ldV a bq) λj=>
 vK (aB 1 f) λbr=>
 qK S (λa=>ldV a br) λk=>
 (λC33:Value→Value→Value→Value→ah→Prop=>
 (λC40:Value→Value→Value→ah→Prop=>
 (λC47:Value→Value→Value→ah→Prop=>
 (λC54:Value→Value→Value→ah→Prop=>
 (λC62:Value→Value→ah→Prop=>
 (λC70:Value→Value→ah→Prop=>
 (λC76:Value→Value→ah→Prop=>
 (ag prog bF #[j,a2] a λl m=>
 S m∧((ag prog bF #[k,a3] m λu p=>
 S p∧((aW #[ai,(.slice none 0 0)] 189 p λbs v=>
 S v∧(C40 l u bs v))∧(aW #[ai,(.slice none 0 0)] 189 p λbt w=>
 S w∧(C47 l u bt w))))∧((aW #[ai,(.slice none 0 0)] 189 m λbu x=>
 S x∧(C62 l bu x))∧(aW #[ai,(.slice none 0 0)] 189 m λbv y=>
 S y∧(C70 l bv y)))))∧((aW #[ai,(.slice none 0 0)] 189 a λz q=>
 S q∧((ag prog bF #[j,a2] q λbw aa=>
 S aa∧(C62 bw z aa))∧(aW #[ai,(.slice none 0 0)] 189 q λbx ab=>
 S ab∧(C76 z bx ab))))∧(aW #[ai,(.slice none 0 0)] 189 a λac r=>
 S r∧((ag prog bF #[j,a2] r λbz ad=>
 S ad∧(C70 bz ac ad))∧(aW #[ai,(.slice none 0 0)] 189 r λb0 ae=>
 S ae∧(C76 b0 ac ae)))))) (λb1 b2 b3=>
 ag prog bF #[j,a2] b3 λb4 af=>
 S af∧(C54 b4 b1 b2 af))) (λak al am=>
 (ag prog bF #[k,a3] am λb5 an=>
 S an∧(C47 ak b5 al an))∧(aW #[ai,(.slice none 0 0)] 189 am λb6 ao=>
 S ao∧(C54 ak b6 al ao)))) (λap aq ar=>
 (ag prog bF #[k,a3] ar λb7 au=>
 S au∧(C40 ap b7 aq au))∧(aW #[ai,(.slice none 0 0)] 189 ar λb8 av=>
 S av∧(C54 ap aq b8 av)))) (λb9 ca cb cc=>
 ag prog bF #[k,a3] cc λcd aw=>
 S aw∧(C33 b9 cd ca cb aw))) (λce cf cg ch=>
 aW #[ai,(.slice none 0 0)] 189 ch λci ax=>
 S ax∧(C33 ce cf ci cg ax))) (λcj ck cl cm=>
 aW #[ai,(.slice none 0 0)] 189 cm λcn ay=>
 S ay∧(C33 cj ck cl cn ay))) (λco cp az a5 cq=>
 stK 2 az co cq λdr a6=>
 S a6∧(stK 2 a5 cp a6 λds a7=>
 S a7∧(bp [az,a5] a7))))
 λn dt a8=>
 vK (aB 1 (ix n 1)) λcr=>
 vK (ldV a8 cr) λa9=>
 vK (aD a9) λcs=>
 bA [ai,ai] a8 λd du b ct=>
 vK (aj .i .lss (ix d 1) cs) λcu=>
 aF cu (
 vK (bh 1 a9 (ix d 1)) λcv=>
 vK (ldV b cv) λcw=>
 bK b λS=>
 vK (aB 2 f) λcx=>
 qK S (λb=>ldV b cx) λcy=>
 vK (aB 0 (ix n 1)) λcz=>
 qK S (λb=>ldV b cz) λc0=>
 vK (aj .i .add c0 (ix d 1)) λc1=>
 ag prog bO #[a0] b λc2 ba=>
 S ba∧(ag prog lz #[cy,c1,c2] ba λc3 bb=>
 vK (aB 1 (ix n 0)) λc4=>
 vK (ldV bb c4) λbc=>
 vK (aD bc) λc5=>
 bA [(ix d 0),ai] bb λe dv c c6=>
 vK (aj .i .lss (ix e 1) c5) λc7=>
 aF c7 (
 vK (bh 1 bc (ix e 1)) λc8=>
 vK (ldV c c8) λc9=>
 bK c λS=>
 vK (aB 2 f) λda=>
 qK S (λc=>ldV c da) λdb=>
 vK (aB 0 (ix n 0)) λdc=>
 qK S (λc=>ldV c dc) λdd=>
 vK (aj .i .add dd (ix e 1)) λde=>
 ag prog bM #[a0] c λdf bd=>
 S bd∧(ag prog lz #[db,de,df] bd λdg dh=>
 vK (aj .i .mul c9 cw) λdi=>
 ag prog gx #[a0,dg,c3,a4] dh λdj dk=>
 vK (gh .i64 dj) λdl=>
 vK (aj .i .mul di dl) λdm=>
 vK (aj .i .add (ix e 0) dm) λdn=>
 vK (aj .i .add (ix e 1) aH) λdp=>
 c6 [dn,dp] dk)) (
 vK (aj .i .add (ix d 1) aH) λdq=>
 ct [(ix e 0),dq] c))) (
 R (ix d 0) b))
theorem OQ (H:Ea a0 a1 a2 a3 a4 h R):ag prog z8 #[a0,a1,a2,a3,a4] h R:=fk f216 (.s .z (.s (.s .z (.s (.s .z .z) .z)) (.j 4380866648064 [11,12] (.d (.op 0 .r (.op 1 .r (.op 2 .r (.op 4 .r (.op 5 .r (.op 6 .r (.alt (.op 3 .e (.alt (.op 7 .e (.alt (.op 8 .e (.op 9 .e (.op 10 .e (.op 11 .e .nil)))) (.op 9 .e (.op 8 .e (.op 10 .e (.op 11 .e .nil)))))) (.alt (.op 8 .e (.alt (.op 7 .e (.op 9 .e (.op 10 .e (.op 11 .e .nil)))) (.op 9 .e (.op 7 .e (.op 10 .e (.op 11 .e .nil)))))) (.op 9 .e (.alt (.op 7 .e (.op 8 .e (.op 10 .e (.op 11 .e .nil)))) (.op 8 .e (.op 7 .e (.op 10 .e (.op 11 .e .nil))))))))) (.alt (.op 8 .e (.alt (.op 3 .e (.alt (.op 7 .e (.op 9 .e (.op 10 .e (.op 11 .e .nil)))) (.op 9 .e (.op 7 .e (.op 10 .e (.op 11 .e .nil)))))) (.op 9 .e (.op 3 .e (.op 7 .e (.op 10 .e (.op 11 .e .nil))))))) (.op 9 .e (.alt (.op 3 .e (.alt (.op 7 .e (.op 8 .e (.op 10 .e (.op 11 .e .nil)))) (.op 8 .e (.op 7 .e (.op 10 .e (.op 11 .e .nil)))))) (.op 8 .e (.op 3 .e (.op 7 .e (.op 10 .e (.op 11 .e .nil)))))))))))))))) (.s .z (.s (.s .z (.l 1237940039285345090528075776 [13,45] (.s .z (.s (.s .z .z) (.s (.s .z (.s (.d (.op 0 .r (.op 1 .r (.op 2 .r (.op 3 .r (.op 4 .r (.op 5 .r (.op 6 .r (.op 7 .e (.op 8 .n (.op 9 .r .nil))))))))))) (.s .z (.l 618970015031004119023099904 [13,62] (.s .z (.s (.s .z .z) (.s (.s .z (.s (.d (.op 0 .r (.op 1 .r (.op 2 .r (.op 3 .r (.op 4 .r (.op 5 .r (.op 6 .r (.op 7 .e (.op 8 .n (.op 9 .r .nil))))))))))) .z)) .z))))))) .z))))) (.s .z .z)))))) H
def uM (a0:Value)(h:ah)(R:Value→ah→Prop):Prop:=
 vK (aS a0) λa=>
 vK (aB 16 a) λb=>
 vK (ldV h b) λc=>
 vK (aS a0) λd=>
 vK (aB 5 d) λe=>
 vK (aB 1 e) λf=>
 vK (aB 1 f) λg=>
 vK (ldV h g) λj=>
 vK (aS a0) λk=>
 vK (aB 5 k) λl=>
 vK (aB 1 l) λm=>
 vK (aB 3 m) λn=>
 vK (ldV h n) λo=>
 vK (aj .i .add j o) λp=>
 vK (aj .i .geq c p) λq=>
 R q h
theorem EC (H:uM a0 h R):ag prog oO #[a0] h R:=fk f217 (.s .z (.s .z .z)) H
def uN (a0:Value)(h:ah)(R:Value→ah→Prop):Prop:=
 aW #[ai,(.slice none 0 0)] 189 h λb a=>
 bK a λS=>
 vK (aS a0) λd=>
 vK (aB 2 d) λe=>
 vK (aB 1 e) λf=>
 qK S (λa=>ldV a f) λg=>
 vK (aS a0) λi=>
 vK (aB 16 i) λj=>
 qK S (λa=>ldV a j) λk=>
 ag prog bF #[g,k] a λl m=>
 stK 2 b l m λo c=>
 vK (aP 2 c b) λn=>
 R n c
theorem ED (H:uN a0 h R):ag prog kL #[a0] h R:=fk f218 (.s .z (.s (.d (.op 0 .r (.op 1 .r (.op 2 .r (.op 3 .r (.op 4 .r (.op 5 .r (.op 6 .r (.op 7 .r (.op 8 .r (.op 9 .n (.op 10 .n .nil)))))))))))) .z)) H
def wz (a0 a1 a2:Value)(h:ah)(R:Value→ah→Prop):Prop:=
 bA [a1] h λa k b d=>
 vK (aj .i .lss (ix a 0) a2) λe=>
 aF e (
 ag prog mK #[a0,(ix a 0)] b λf c=>
 vK (unV .not f) λg=>
 aF g (
 R (.tuple #[(ix a 0),(.bool true)]) c) (
 vK (aj .i .add (ix a 0) aH) λj=>
 d [j] c)) (
 R (.tuple #[ai,(.bool false)]) b)
theorem Gy (H:wz a0 a1 a2 h R):ag prog qG #[a0,a1,a2] h R:=fk f219 (.s .z (.s (.s .z (.l 1048000 [8] (.s (.s .z (.s .z .z)) (.s (.s .z (.s (.s .z .z) .z)) .z)))) (.s .z .z))) H
def rl (a0 a1 a2 a3:Value)(h:ah)(R:Value→ah→Prop):Prop:=
 vK (aS a0) λl=>
 vK (aB 2 l) λm=>
 vK (aB 0 m) λn=>
 vK (ldV h n) λo=>
 ag prog bF #[o,a1] h λp q=>
 aW #[ai,(.slice none 0 0)] 189 q λd r=>
 stK 2 d p r λbf f=>
 vK (aS a0) λs=>
 vK (aB 0 s) λt=>
 vK (ldV f t) λu=>
 ag prog aV #[u] f λv w=>
 bA [a3,ai] w λc bg e x=>
 vK (aj .i .lss (ix c 1) v) λy=>
 aF y (
 vK (aB 1 d) λz=>
 vK (ldV e z) λg=>
 vK (aD g) λaa=>
 bA [ai,ai] e λb bi a ab=>
 vK (aj .i .lss (ix b 1) aa) λac=>
 aF ac (
 vK (bh 1 g (ix b 1)) λad=>
 vK (ldV a ad) λae=>
 bK a λS=>
 vK (aS a0) λaf=>
 vK (aB 2 af) λak=>
 vK (aB 2 ak) λal=>
 qK S (λa=>ldV a al) λam=>
 vK (aB 0 d) λan=>
 qK S (λa=>ldV a an) λao=>
 vK (aj .i .add ao (ix b 1)) λap=>
 vK (aS a0) λaq=>
 vK (aB 0 aq) λar=>
 qK S (λa=>ldV a ar) λau=>
 ag prog bM #[au] a λav j=>
 S j∧(ag prog lz #[am,ap,av] j λaw k=>
 vK (aS a0) λax=>
 vK (aB 0 ax) λay=>
 vK (ldV k ay) λaz=>
 ag prog gx #[az,aw,a2,(ix c 1)] k λa4 a5=>
 vK (gh .i64 a4) λa6=>
 vK (aj .i .mul ae a6) λa7=>
 vK (aj .i .add (ix b 0) a7) λa8=>
 vK (aj .i .add (ix b 1) aH) λa9=>
 ab [a8,a9] a5)) (
 di #[ai] 2 1 [(0,1,(ix b 0))] a λba bb=>
 dk ai 2 1 8 (ix c 0) ba bb λbc bd=>
 vK (aj .i .add (ix c 1) aH) λbe=>
 x [bc,be] bd)) (
 R (ix c 0) e)
theorem BA (H:rl a0 a1 a2 a3 h R):ag prog lX #[a0,a1,a2,a3] h R:=fk f220 (.s .z (.s .z (.s (.s .z (.l 4722366482869511027720 [3,27] (.s .z (.s (.s .z .z) (.s (.s .z (.s .z (.s (.s .z (.l 147573952581086509056 [11,33] (.s .z (.s (.s .z .z) (.s (.s .z (.s (.d (.op 0 .r (.op 1 .r (.op 2 .r (.op 3 .r (.op 4 .r (.op 5 .r (.op 6 .r (.op 7 .r (.op 8 .r (.op 9 .r (.op 10 .r (.op 11 .r (.op 12 .r (.op 13 .e (.op 14 .n (.op 15 .r .nil))))))))))))))))) .z)) .z))))) .z))) .z))))) (.s .z .z)))) H
def yd (a0 a1 a2:Value)(h:ah)(R:Value→ah→Prop):Prop:=
 vK (aD a2) λk=>
 vK (aS a0) λl=>
 vK (aB 1 l) λm=>
 vK (ldV h m) λn=>
 vK (aj .i .neq k n) λb=>
 vK (gV b false (some a0)) λo=>
 vK (gV b false (some a1)) λp=>
 gK b false (λq=>ag prog mK #[o,p] h q) h λr c=>
 vK (aE b (.bool true) r) λs=>
 aF s (
 R (.bool false) c) (
 fo (λd=>
 ag prog oW #[a0] c λe a=>
 vK (aL e 0) λf=>
 vK (aL e 1) λam=>
 vK (aS a0) λt=>
 vK (aB 2 t) λu=>
 vK (ldV a u) λv=>
 vK (Px a v) λw=>
 vK (aS a0) λx=>
 vK (aB 0 x) λy=>
 vK (ldV a y) λz=>
 vK (aj .i .geq w z) λaa=>
 aF aa (
 vK (aj .i .lss a1 f) λab=>
 aF ab (
 R (.bool false) a) (
 ag prog qF #[a0,f] a λan ac=>
 d [] ac)) (
 d [] a))
 λao ap ad=>
 ag prog oT #[a0] ad λg ae=>
 Fm 1 g a2 ae λaq j=>
 vK (aS a0) λaf=>
 vK (aB 2 af) λai=>
 vK (ldV j ai) λak=>
 tW (.int .i64) ak a1 g j λar al=>
 R (.bool true) al)
theorem ID (H:yd a0 a1 a2 h R):ag prog sV #[a0,a1,a2] h R:=fk f221 (.s .z (.s (.s .z (.s (.s .z .z) .z)) (.j 8796088828352 [] (.s .z (.s .z (.s (.s (.s .z (.s (.s .z .z) .z)) .z) .z))) (.s .z (.s .z (.s .z (.s .z .z))))))) H
def uT (a0:Value)(h:ah)(R:Value→ah→Prop):Prop:=
 vK (aS a0) λa=>
 vK (aB 1 a) λb=>
 vK (ldV h b) λc=>
 R c h
theorem EM (H:uT a0 h R):ag prog oV #[a0] h R:=fk f222 (.s .z (.s .z .z)) H
def yc (a0 a1:Value)(h:ah)(R:Value→ah→Prop):Prop:=
 vK (aS a0) λb=>
 vK (aB 2 b) λc=>
 vK (ldV h c) λd=>
 vK (JG (.int .i64) (.slice none 0 0) true h d a1) λa=>
 vK (aL a 0) λe=>
 vK (aL a 1) λf=>
 ag prog df #[e] h λg i=>
 R (.tuple #[g,f]) i
theorem IC (H:yc a0 a1 h R):ag prog sU #[a0,a1] h R:=fk f223 (.s .z (.s .z (.s .z .z))) H
def DJ (a0:Value)(h:ah)(R:Value→ah→Prop):Prop:=
 vK (aj .i .geq a0 aH) λa=>
 vK (gV a true (some a0)) λb=>
 vK (gV a true (aj .i .leq b (af 65536))) λc=>
 vK (aE a c (.bool false)) λd=>
 R d h
theorem On (H:DJ a0 h R):ag prog oZ #[a0] h R:=fk f224 (.s .z (.s .z .z)) H
def FV (a0 a1 a2 a3:Value)(h:ah)(R:Value→ah→Prop):Prop:=
 ag prog Cs #[a0,a1,a2,a3] h λj d=>
 vK (unV .not j) λk=>
 aF k (
 R (.tuple #[ai,(.slice none 0 0)]) d) (
 vK (aj .i .mul a3 a1) λl=>
 vK (aj .i .quo l a2) λm=>
 bA [m] d λc al n o=>
 vK (aj .i .sub (ix c 0) aH) λp=>
 ag prog qI #[a0,a1,a2,a3,p] n λq e=>
 aF q (
 vK (aj .i .sub (ix c 0) aH) λr=>
 o [r] e) (
 bA [(ix c 0)] e λb am s t=>
 ag prog qI #[a0,a1,a2,a3,(ix b 0)] s λu f=>
 vK (unV .not u) λv=>
 aF v (
 vK (aj .i .add (ix b 0) aH) λw=>
 t [w] f) (
 bA [(ix b 0),(.slice none 0 0)] f λa an x y=>
 ag prog qI #[a0,a1,a2,a3,(ix a 0)] x λz g=>
 aF z (
 ag prog vQ #[a0,a1,a2,a3,(ix a 0)] g λaa ab=>
 di #[ai] 2 1 [(0,1,aa)] ab λac ad=>
 dk ai 2 1 8 (ix a 1) ac ad λae af=>
 vK (aj .i .add (ix a 0) aH) λak=>
 y [ak,ae] af) (
 R (.tuple #[(ix b 0),(ix a 1)]) g))))
theorem QN (H:FV a0 a1 a2 a3 h R):ag prog xf #[a0,a1,a2,a3] h R:=fk f225 (.s .z (.s (.s .z (.s (.s .z .z) .z)) (.s .z (.s (.l 8573158400 [10] (.s (.s .z (.s .z .z)) .z)) (.s (.l 4389456577536 [10] (.s (.s .z (.s .z .z)) .z)) (.s .z (.s .z (.s (.l 1152912708513829888 [10,12] (.s (.s .z (.s .z .z)) (.s .z .z))) (.s .z .z))))))))) H
def uV (a0:Value)(h:ah)(R:Value→ah→Prop):Prop:=
 vK (aD a0) λr=>
 vK (aj .i .lss r aH) λd=>
 vK (gV d false (some a0)) λs=>
 vK (gV d false (aD s)) λt=>
 vK (gV d false (aj .i .gtr t (af 1048576))) λu=>
 vK (aE d (.bool true) u) λv=>
 aF v (
 R (.tuple #[(.slice none 0 0),(af 7)]) h) (
 vK (aD a0) λw=>
 bA [ai] h λe bq f x=>
 vK (aj .i .lss (ix e 0) w) λy=>
 aF y (
 vK (bh 1 a0 (ix e 0)) λz=>
 vK (ldV f z) λaa=>
 ag prog uC #[aa] f λab l=>
 vK (aj .i .gtr ab (af 1099511627776)) λac=>
 aF ac (
 R (.tuple #[(.slice none 0 0),(af 7)]) l) (
 vK (aj .i .add (ix e 0) aH) λad=>
 x [ad] l)) (
 ag prog Cr #[a0] f λg m=>
 vK (aj .i .lss g (af 268435456)) λae=>
 aF ae (
 R (.tuple #[(.slice none 0 0),(af 8)]) m) (
 vK (aD a0) λak=>
 bA [(.slice none 0 0),(.slice none 0 0),(af 16384),ai] m λa br j al=>
 vK (aj .i .lss (ix a 3) ak) λam=>
 aF am (
 vK (bh 1 a0 (ix a 3)) λan=>
 vK (ldV j an) λn=>
 vK (aj .i .mul n (af 16384)) λao=>
 ag prog qX #[ao,g] j λk ap=>
 di #[ai] 2 1 [(0,1,k)] ap λaq ar=>
 dk ai 2 1 8 (ix a 0) aq ar λau av=>
 vK (aj .i .mul n (af 16384)) λaw=>
 vK (aj .i .mul k g) λax=>
 vK (aj .i .sub aw ax) λay=>
 di #[ai] 2 1 [(0,1,ay)] av λaz a1=>
 dk ai 2 1 8 (ix a 1) az a1 λa2 a3=>
 vK (aj .i .sub (ix a 2) k) λa4=>
 vK (aj .i .add (ix a 3) aH) λa5=>
 al [au,a2,a4,a5] a3) (
 bA [(ix a 2)] j λo bs p a6=>
 vK (aj .i .gtr (ix o 0) ai) λa7=>
 aF a7 (
 vK (aD (ix a 1)) λa8=>
 bA [ai,ai] p λb bt c q=>
 vK (aj .i .lss (ix b 1) a8) λa9=>
 aF a9 (
 vK (bh 1 (ix a 1) (ix b 1)) λba=>
 vK (ldV c ba) λbb=>
 vK (bh 1 (ix a 1) (ix b 0)) λbc=>
 vK (ldV c bc) λbd=>
 vK (aj .i .gtr bb bd) λbe=>
 aF be (
 vK (aj .i .add (ix b 1) aH) λbf=>
 q [(ix b 1),bf] c) (
 vK (aj .i .add (ix b 1) aH) λbg=>
 q [(ix b 0),bg] c)) (
 vK (bh 1 (ix a 0) (ix b 0)) λbi=>
 vK (ldV c bi) λbj=>
 vK (aj .i .add bj aH) λbk=>
 vK (bh 1 (ix a 0) (ix b 0)) λbl=>
 stK 1 bl bk c λbu bm=>
 vK (bh 1 (ix a 1) (ix b 0)) λbn=>
 stK 1 bn (af (-1)) bm λbv bo=>
 vK (aj .i .sub (ix o 0) aH) λbp=>
 a6 [bp] bo)) (
 R (.tuple #[(ix a 0),ai]) p)))))
theorem EO (H:uV a0 h R):ag prog iL #[a0] h R:=fk f226 (.s .z (.s (.s .z (.s (.s .z .z) .z)) (.s (.s .z (.l 8556380204 [25] (.s .z (.s (.s .z .z) (.s (.s .z (.s .z (.s (.s .z .z) .z))) .z))))) (.s .z (.s (.s .z (.s (.s .z .z) .z)) (.s .z (.s .z (.s .z (.s (.s .z (.l 18446743523953744768 [7,8,9,39] (.s .z (.s (.s .z .z) (.s (.s .z (.s .z (.s .z (.s .z .z)))) .z))))) (.s (.l 9903520295836298125483467264 [9] (.s (.s .z (.s .z .z)) (.s .z (.s (.s .z (.l 4835408130553337346023424 [13,68] (.s .z (.s (.s .z .z) (.s (.s .z (.s .z (.s .z .z))) .z))))) (.s .z (.s .z .z)))))) (.s .z .z))))))))))) H
def AU (a0 a1:Value)(h:ah)(R:Value→ah→Prop):Prop:=
 ag prog xH #[a0,a1] h λa b=>
 ag prog Cu #[a] b λc d=>
 ag prog ms #[c,(af 10)] d λe f=>
 R e f
theorem L4 (H:AU a0 a1 h R):ag prog xI #[a0,a1] h R:=fk f227 (.s .z (.s .z .z)) H
def AS (a0:Value)(h:ah)(R:Value→ah→Prop):Prop:=
 vK (aD a0) λc=>
 bA [ai,ai] h λa o b d=>
 vK (aj .i .lss (ix a 1) c) λe=>
 aF e (
 vK (bh 1 a0 (ix a 1)) λf=>
 vK (ldV b f) λg=>
 ag prog uC #[g] b λj k=>
 ag prog uB #[(ix a 0),j] k λl m=>
 vK (aj .i .add (ix a 1) aH) λn=>
 d [l,n] m) (
 R (ix a 0) b)
theorem L2 (H:AS a0 h R):ag prog xG #[a0] h R:=fk f228 (.s .z (.s .z (.s (.s .z (.l 130856 [3,8] (.s .z (.s (.s .z .z) (.s (.s .z .z) .z))))) (.s .z .z)))) H
def An (a0 a1 a2:Value)(h:ah)(R:Value→ah→Prop):Prop:=
 vK (aj .i .eql a2 ai) λe=>
 aF e (
 R ai h) (
 ag prog gi #[a0] h λf g=>
 ag prog gi #[a1] g λj k=>
 ag prog qV #[f,j] k λl m=>
 aW #[(.int .u64 0),(.int .u64 0)] 351 m λc n=>
 stK 2 c l n λx a=>
 vK (aj .i .lss a0 ai) λo=>
 vK (aj .i .lss a1 ai) λp=>
 vK (aj .b .neq o p) λq=>
 bK a λS=>
 qK S (λa=>aP 2 a c) λr=>
 vK (aj .i .lss a2 ai) λs=>
 vK (aj .b .neq q s) λt=>
 ag prog gi #[a2] a λu d=>
 S d∧(ag prog sX #[r,u,t] d λv w=>
 R v w))
theorem Kl (H:An a0 a1 a2 h R):ag prog dn #[a0,a1,a2] h R:=fk f229 (.s .z (.s (.s .z (.s (.s .z .z) .z)) (.s .z (.s .z (.s (.d (.op 0 .r (.op 1 .r (.op 3 .r (.op 4 .r (.op 5 .r (.op 6 .r (.op 2 .e (.op 7 .n (.op 8 .r .nil)))))))))) .z))))) H
end
section
variable {a0 a1 a2 a3 a4 a5 a6:Value}{h:ah}{R:Value→ah→Prop}
def Lp (a0 a1 a2 a3:Value)(h:ah)(R:Value→ah→Prop):Prop:=
 vK (aj .i .geq a0 ai) λb=>
 vK (gV b true (some a0)) λj=>
 vK (gV b true (aj .i .lss j (af 3))) λk=>
 vK (aE b k (.bool false)) λc=>
 vK (gV c true (some a1)) λl=>
 vK (gV c true (aj .i .geq l aH)) λm=>
 vK (aE c m (.bool false)) λd=>
 vK (gV d true (some a1)) λn=>
 vK (gV d true (aj .i .leq n (af 65536))) λo=>
 vK (aE d o (.bool false)) λe=>
 vK (gV e true (some a2)) λp=>
 vK (gV e true (aj .i .geq p aH)) λq=>
 vK (aE e q (.bool false)) λf=>
 vK (gV f true (some a2)) λr=>
 vK (gV f true (aj .i .leq r (af 65536))) λs=>
 vK (aE f s (.bool false)) λg=>
 vK (gV g true (some a3)) λt=>
 vK (gV g true (aj .i .geq t ai)) λu=>
 vK (aE g u (.bool false)) λa=>
 vK (gV a true (some a3)) λv=>
 vK (gV a true (some a2)) λw=>
 vK (gV a true (aj .i .lss v w)) λx=>
 vK (aE a x (.bool false)) λy=>
 R y h
theorem US (H:Lp a0 a1 a2 a3 h R):ag prog Jk #[a0,a1,a2,a3] h R:=fk f236 (.s .z (.s .z .z)) H
def Jt (a0 a1:Value)(h:ah)(R:Value→ah→Prop):Prop:=
 vK (unV .neg a0) λa=>
 ag prog kp #[a,a1] h λb c=>
 vK (unV .neg b) λd=>
 R d c
theorem Tf (H:Jt a0 a1 h R):ag prog zQ #[a0,a1] h R:=fk f237 (.s .z (.s .z .z)) H
def Jv (a0 a1:Value)(h:ah)(R:Value→ah→Prop):Prop:=
 vK (aj .i .lss a1 aH) λd=>
 vK (gV d false (some a1)) λe=>
 vK (gV d false (aj .i .gtr e (af 262144))) λf=>
 vK (aE d (.bool true) f) λb=>
 vK (gV b false (some a0)) λg=>
 vK (gV b false (some a1)) λj=>
 vK (gV b false (aj .i .mul (af 2) j)) λk=>
 vK (gV b false (aj .i .geq g k)) λl=>
 vK (aE b (.bool true) l) λc=>
 vK (gV c false (some a0)) λm=>
 vK (gV c false (some a1)) λn=>
 vK (gV c false (aj .i .mul (af (-2)) n)) λo=>
 vK (gV c false (aj .i .leq m o)) λp=>
 vK (aE c (.bool true) p) λq=>
 aF q (
 R ai h) (
 vK (unV .neg a0) λr=>
 vK (ju a0 r) λa=>
 vK (aj .i .mul (af 3) a) λs=>
 vK (aj .i .mul s a) λt=>
 vK (aj .i .mul t a) λu=>
 vK (aj .i .mul (af 5) a) λv=>
 vK (aj .i .mul v a) λw=>
 vK (aj .i .mul w a1) λx=>
 vK (aj .i .sub u x) λy=>
 vK (aj .i .mul (af 2) a1) λz=>
 vK (aj .i .mul z a1) λaa=>
 vK (aj .i .mul aa a1) λab=>
 vK (aj .i .add y ab) λac=>
 vK (aj .i .geq a a1) λad=>
 aF ad (
 vK (unV .neg a) λae=>
 vK (aj .i .mul ae a) λak=>
 vK (aj .i .mul ak a) λal=>
 vK (aj .i .mul (af 5) a) λam=>
 vK (aj .i .mul am a) λan=>
 vK (aj .i .mul an a1) λao=>
 vK (aj .i .add al ao) λap=>
 vK (aj .i .mul (af 8) a) λaq=>
 vK (aj .i .mul aq a1) λar=>
 vK (aj .i .mul ar a1) λau=>
 vK (aj .i .sub ap au) λav=>
 vK (aj .i .mul (af 4) a1) λaw=>
 vK (aj .i .mul aw a1) λax=>
 vK (aj .i .mul ax a1) λay=>
 vK (aj .i .add av ay) λaz=>
 vK (aj .i .mul (af 2) a1) λa2=>
 vK (aj .i .mul a2 a1) λa3=>
 vK (aj .i .mul a3 a1) λa4=>
 ag prog eJ #[az,(af 1073741824),a4] h λa5 a6=>
 R a5 a6) (
 vK (aj .i .mul (af 2) a1) λa7=>
 vK (aj .i .mul a7 a1) λa8=>
 vK (aj .i .mul a8 a1) λa9=>
 ag prog eJ #[ac,(af 1073741824),a9] h λba bb=>
 R ba bb))
theorem Th (H:Jv a0 a1 h R):ag prog vR #[a0,a1] h R:=fk f238 (.s .z (.s (.s .z (.s (.s .z .z) .z)) (.s .z (.s .z (.s (.s .z (.s .z .z)) (.s .z .z)))))) H
def Ai (a0 a1:Value)(h:ah)(R:Value→ah→Prop):Prop:=
 ag prog Fy #[a0,a1] h λd b=>
 vK (unV .not d) λa=>
 vK (gV a false (some a0)) λe=>
 gK a false (λf=>ag prog xe #[e] b f) b λg c=>
 vK (gV a false (some a1)) λj=>
 vK (gV a false (aj .i .mul (af 3) j)) λk=>
 vK (gV a false (aj .i .geq g k)) λl=>
 vK (aE a (.bool true) l) λm=>
 aF m (
 R ai c) (
 ag prog qT #[a0,a1] c λn o=>
 vK (aj .i .mul (af 3) a1) λp=>
 ag prog qT #[a0,p] o λq r=>
 ag prog sT #[n,q,(af 40)] r λs t=>
 ag prog ko #[s,(af 10)] t λu v=>
 R u v)
theorem Kg (H:Ai a0 a1 h R):ag prog vP #[a0,a1] h R:=fk f239 (.s .z (.s (.s .z (.s (.s .z .z) .z)) (.s .z .z))) H
def gu (a0 a1:Value)(h:ah)(R:Value→ah→Prop):Prop:=
 ag prog iu #[a0,a1] h λa b=>
 vK (aj .i .geq a ai) λc=>
 R c b
theorem lD (H:gu a0 a1 h R):ag prog dT #[a0,a1] h R:=fk f240 (.s .z (.s .z .z)) H
def xZ (a0:Value)(h:ah)(R:Value→ah→Prop):Prop:=
 ag prog xc #[a0] h λa b=>
 vK (aj .i .gtr a (af 1099511627776)) λc=>
 R c b
theorem IA (H:xZ a0 h R):ag prog mI #[a0] h R:=fk f241 (.s .z (.s .z .z)) H
def FK (a0:Value)(h:ah)(R:Value→ah→Prop):Prop:=
 ag prog Cy #[a0,(af (-1))] h λa b=>
 vK (ju a0 a) λc=>
 R c b
theorem QB (H:FK a0 h R):ag prog xc #[a0] h R:=fk f242 (.s .z (.s .z .z)) H
def Gi (a0 a1:Value)(h:ah)(R:Value→ah→Prop):Prop:=
 vK (aj .i .add a0 a1) λc=>
 vK (aj .i .gtr a1 ai) λa=>
 vK (gV a true (some c)) λd=>
 vK (gV a true (some a0)) λe=>
 vK (gV a true (aj .i .lss d e)) λf=>
 vK (aE a f (.bool false)) λg=>
 aF g (
 R (af 9223372036854775807) h) (
 vK (aj .i .lss a1 ai) λb=>
 vK (gV b true (some c)) λj=>
 vK (gV b true (some a0)) λk=>
 vK (gV b true (aj .i .gtr j k)) λl=>
 vK (aE b l (.bool false)) λm=>
 aF m (
 R (af (-9223372036854775808)) h) (
 R c h))
theorem Q9 (H:Gi a0 a1 h R):ag prog xj #[a0,a1] h R:=fk f243 (.s .z (.s .z (.s (.s .z (.s (.s .z .z) (.s .z (.s (.s .z .z) .z)))) (.s .z .z)))) H
def D5 (a0:Value)(h:ah)(R:Value→ah→Prop):Prop:=
 vK (aj .i .lss a0 ai) λa=>
 aF a (
 vK (gh .u64 a0) λb=>
 vK (unV .neg b) λc=>
 R c h) (
 vK (gh .u64 a0) λd=>
 R d h)
theorem OL (H:D5 a0 h R):ag prog iT #[a0] h R:=fk f244 (.s .z (.s (.s .z (.s (.s .z .z) .z)) (.s .z .z))) H
def D6 (a0 a1:Value)(h:ah)(R:Value→ah→Prop):Prop:=
 vK (gV a1 true (some a0)) λa=>
 vK (gV a1 true (aj .i .geq a (.int .u64 9223372036854775808))) λb=>
 vK (aE a1 b (.bool false)) λc=>
 aF c (
 R (af (-9223372036854775808)) h) (
 aF a1 (
 vK (gh .i64 a0) λd=>
 vK (unV .neg d) λe=>
 R e h) (
 vK (aj .i .gtr a0 (.int .u64 9223372036854775807)) λf=>
 aF f (
 R (af 9223372036854775807) h) (
 vK (gh .i64 a0) λg=>
 R g h)))
theorem OM (H:D6 a0 a1 h R):ag prog lL #[a0,a1] h R:=fk f245 (.s .z (.s (.s .z (.s (.s .z .z) (.s .z (.s (.s .z .z) (.s .z (.s (.s .z .z) .z)))))) (.s .z .z))) H
def kD (a0 a1 a2:Value)(h:ah)(R:Value→ah→Prop):Prop:=
 bA [ai,(af 20)] h λc ab e k=>
 vK (aj .i .leq (ix c 1) a1) λl=>
 aF l (
 ag prog dp #[a0,(ix c 0),(ix c 1),a2] e λac m=>
 vK (aj .i .add (ix c 1) (af 20)) λn=>
 k [(ix c 1),n] m) (
 ag prog dp #[a0,(ix c 0),a1,a2] e λad o=>
 bA [(af 20)] o λb ae f g=>
 vK (aj .i .lss (ix b 0) a1) λp=>
 aF p (
 vK (aj .i .mul (af 2) (ix b 0)) λq=>
 bA [ai,q] f λa ak d r=>
 vK (aj .i .leq (ix a 1) a1) λs=>
 aF s (
 vK (aj .i .add (ix a 0) (ix b 0)) λt=>
 ag prog bU #[a0,(ix a 0),t,(ix a 1),a2] d λal u=>
 vK (aj .i .mul (af 2) (ix b 0)) λv=>
 vK (aj .i .add (ix a 1) v) λw=>
 r [(ix a 1),w] u) (
 vK (aj .i .add (ix a 0) (ix b 0)) λj=>
 vK (aj .i .lss j a1) λx=>
 aF x (
 ag prog bU #[a0,(ix a 0),j,a1,a2] d λam y=>
 vK (aj .i .mul (ix b 0) (af 2)) λz=>
 g [z] y) (
 vK (aj .i .mul (ix b 0) (af 2)) λaa=>
 g [aa] d))) (
 R (.tuple #[]) f))
theorem tO (H:kD a0 a1 a2 h R):ag prog ib #[a0,a1,a2] h R:=fk f246 (.s .z (.s .z (.s (.l 8386944 [7,8] (.s (.s .z (.s .z .z)) (.s .z (.s .z .z)))) (.s .z (.l 9223372036586341312 [6] (.s (.s .z (.s .z .z)) (.s .z (.s (.l 562941363487104 [7,8] (.s (.s .z (.s .z .z)) (.s .z (.s .z .z)))) (.s (.s .z (.s .z (.s .z .z))) .z))))))))) H
def vh (a0:Value)(h:ah)(R:Value→ah→Prop):Prop:=
 vK (aj .i .neq a0 a0) λa=>
 R a h
theorem EW (H:vh a0 h R):ag prog kO #[a0] h R:=fk f247 (.s .z (.s .z .z)) H
def Bk (a0 a1:Value)(h:ah)(R:Value→ah→Prop):Prop:=
 vK (aj .i .leq a1 ai) λa=>
 aF a (
 R a0 h) (
 vK (aj .i .geq a1 (af 64)) λb=>
 aF b (
 R ai h) (
 vK (aj .i .shr a0 a1) λc=>
 vK (aj .i .sub a1 aH) λd=>
 vK (aj .i .shr a0 d) λe=>
 vK (aj .i .and e aH) λf=>
 vK (aj .i .add c f) λg=>
 R g h))
theorem Mr (H:Bk a0 a1 h R):ag prog ko #[a0,a1] h R:=fk f248 (.s .z (.s (.s .z (.s (.s .z .z) .z)) (.s (.s .z (.s (.s .z .z) .z)) (.s .z .z)))) H
def Jy (a0:Value)(h:ah)(R:Value→ah→Prop):Prop:=
 vK (ju ai a0) λc=>
 vK (aj .i .quo c (af 762123384786)) λg=>
 vK (aj .i .rem c (af 762123384786)) λj=>
 bA [(af 1099511627776),(af 1099511627776),ai] h λa v d e=>
 vK (aj .i .lss (ix a 2) (af 16)) λk=>
 aF k (
 vK (aj .i .add (ix a 2) aH) λl=>
 vK (aj .i .shl l (.int .u64 40)) λm=>
 ag prog eJ #[(ix a 1),j,m] d λb f=>
 vK (aj .i .rem (ix a 2) (af 2)) λn=>
 vK (aj .i .eql n ai) λo=>
 aF o (
 vK (aj .i .sub (ix a 0) b) λp=>
 vK (aj .i .add (ix a 2) aH) λq=>
 e [p,b,q] f) (
 vK (aj .i .add (ix a 0) b) λr=>
 vK (aj .i .add (ix a 2) aH) λs=>
 e [r,b,s] f)) (
 ag prog ko #[(ix a 0),g] d λt u=>
 R t u)
theorem Tk (H:Jy a0 h R):ag prog FB #[a0] h R:=fk f249 (.s .z (.s .z (.s .z (.s .z (.s (.s .z (.l 8589918432 [5,6,14] (.s .z (.s (.s .z .z) (.s (.s .z (.s .z (.s .z (.s .z .z)))) .z))))) (.s .z .z)))))) H
def D7 (a0 a1:Value)(h:ah)(R:Value→ah→Prop):Prop:=
 vK (aj .i .lss a1 aH) λa=>
 vK (gV a false (some a1)) λd=>
 vK (gV a false (aj .i .gtr d (af 4194304))) λe=>
 vK (aE a (.bool true) e) λb=>
 vK (gV b false (some a0)) λf=>
 vK (gV b false (aj .i .lss f (af (-16384)))) λg=>
 vK (aE b (.bool true) g) λc=>
 vK (gV c false (some a0)) λj=>
 vK (gV c false (aj .i .gtr j (af 16384))) λk=>
 vK (aE c (.bool true) k) λl=>
 aF l (
 R (af 9223372036854775807) h) (
 vK (aj .i .mul a0 a0) λm=>
 vK (aj .i .shl m (.int .u64 31)) λn=>
 vK (aj .i .mul a1 a1) λo=>
 ag prog eJ #[n,(af 1099511627776),o] h λp q=>
 R p q)
theorem ON (H:D7 a0 a1 h R):ag prog zZ #[a0,a1] h R:=fk f250 (.s .z (.s (.s .z (.s (.s .z .z) .z)) (.s .z .z))) H
def yl (a0 a1:Value)(h:ah)(R:Value→ah→Prop):Prop:=
 aF (.bool false) (
 vK (gh .u32 a0) λc=>
 vK (gh .u32 a1) λd=>
 ag prog Ij #[c,d] h λa e=>
 vK (aL a 0) λf=>
 vK (aL a 1) λg=>
 vK (gh .u64 f) λi=>
 vK (gh .u64 g) λj=>
 R (.tuple #[i,j]) e) (
 ag prog kN #[a0,a1] h λb k=>
 vK (aL b 0) λl=>
 vK (aL b 1) λm=>
 R (.tuple #[l,m]) k)
theorem IJ (H:yl a0 a1 h R):ag prog sZ #[a0,a1] h R:=fk f251 (.s .z (.s (.s (.s .z (.s .z .z)) .z) (.s .z (.s .z .z)))) H
def Af (a0 a1:Value)(h:ah)(R:Value→ah→Prop):Prop:=
 ag prog sq #[a0] h λc d=>
 ag prog sq #[a1] d λe f=>
 ag prog kN #[c,e] f λa g=>
 vK (aL a 0) λj=>
 vK (aL a 1) λk=>
 vK (aj .i .lss a0 ai) λl=>
 vK (aj .i .lss a1 ai) λm=>
 vK (aj .b .neq l m) λn=>
 R (.tuple #[j,k,n]) g
theorem Kd (H:Af a0 a1 h R):ag prog oP #[a0,a1] h R:=fk f252 (.s .z (.s .z (.s .z .z))) H
def FJ (a0:Value)(h:ah)(R:Value→ah→Prop):Prop:=
 vK (aj .i .lss a0 ai) λa=>
 aF a (
 vK (gh .u64 a0) λb=>
 vK (unV .neg b) λc=>
 R c h) (
 vK (gh .u64 a0) λd=>
 R d h)
theorem QA (H:FJ a0 h R):ag prog sq #[a0] h R:=fk f253 (.s .z (.s (.s .z (.s (.s .z .z) .z)) (.s .z .z))) H
def AN (a0 a1 a2:Value)(h:ah)(R:Value→ah→Prop):Prop:=
 vK (gV a2 true (some a0)) λc=>
 vK (gV a2 true (aj .i .gtr c (.int .u64 0))) λd=>
 vK (gV a2 true (some d)) λa=>
 vK (gV a false (some a1)) λe=>
 vK (gV a false (aj .i .gtr e (.int .u64 9223372036854775808))) λf=>
 vK (gV a2 true (aE a (.bool true) f)) λg=>
 vK (aE a2 g (.bool false)) λj=>
 aF j (
 R (af (-9223372036854775808)) h) (
 aF a2 (
 vK (unV .neg a1) λk=>
 vK (gh .i64 k) λl=>
 R l h) (
 vK (aj .i .gtr a0 (.int .u64 0)) λb=>
 vK (gV b false (some a1)) λm=>
 vK (gV b false (aj .i .gtr m (.int .u64 9223372036854775807))) λn=>
 vK (aE b (.bool true) n) λo=>
 aF o (
 R (af 9223372036854775807) h) (
 vK (gh .i64 a1) λp=>
 R p h)))
theorem LU (H:AN a0 a1 a2 h R):ag prog eI #[a0,a1,a2] h R:=fk f254 (.s .z (.s (.s .z (.s (.s .z .z) (.s .z (.s (.s .z .z) (.s .z (.s (.s .z .z) .z)))))) (.s .z .z))) H
def vg (a0 a1 a2:Value)(h:ah)(R:Value→ah→Prop):Prop:=
 fo (λo=>
 vK (aj .i .eql a2 (.int .u64 0)) λaf=>
 aF af (
 vK (ldV h (.pointer (some ⟨yH,0,none⟩))) λb2=>
 M9 h λb3 ai=>
 o [] ai) (
 o [] h))
 λb4 b5 j=>
 fo (λp=>
 vK (aj .i .leq a2 a0) λak=>
 aF ak (
 vK (ldV j (.pointer (some ⟨wg,0,none⟩))) λb6=>
 M9 j λb7 al=>
 p [] al) (
 p [] j))
 λb8 b9 q=>
 vK (aj .i .eql a0 (.int .u64 0)) λam=>
 aF am (
 vK (aj .i .quo a1 a2) λan=>
 vK (aj .i .rem a1 a2) λao=>
 R (.tuple #[an,ao]) q) (
 ag prog ig #[a2] q λap aq=>
 vK (gh .u64 ap) λf=>
 vK (aj .i .shl a2 f) λg=>
 vK (aj .i .shr g (.int .u64 32)) λc=>
 vK (aj .i .and g (.int .u64 4294967295)) λr=>
 vK (aj .i .shl a0 f) λar=>
 vK (aj .i .sub (.int .u64 64) f) λau=>
 vK (aj .i .shr a1 au) λav=>
 vK (aj .i .or ar av) λk=>
 vK (aj .i .shl a1 f) λs=>
 vK (aj .i .shr s (.int .u64 32)) λt=>
 vK (aj .i .and s (.int .u64 4294967295)) λu=>
 vK (aj .i .quo k c) λv=>
 vK (aj .i .mul v c) λaw=>
 vK (aj .i .sub k aw) λax=>
 fo (λw=>
 bA [v,ax] aq λd ca l ay=>
 vK (aj .i .geq (ix d 0) (.int .u64 4294967296)) λa=>
 vK (gV a false (some (ix d 0))) λaz=>
 vK (gV a false (some r)) λa3=>
 vK (gV a false (aj .i .mul az a3)) λa4=>
 vK (gV a false (some (ix d 1))) λa5=>
 vK (gV a false (aj .i .mul (.int .u64 4294967296) a5)) λa6=>
 vK (gV a false (some t)) λa7=>
 vK (gV a false (aj .i .add a6 a7)) λa8=>
 vK (gV a false (aj .i .gtr a4 a8)) λa9=>
 vK (aE a (.bool true) a9) λba=>
 aF ba (
 vK (aj .i .sub (ix d 0) (.int .u64 1)) λx=>
 vK (aj .i .add (ix d 1) c) λy=>
 vK (aj .i .geq y (.int .u64 4294967296)) λbb=>
 aF bb (
 w [x] l) (
 ay [x,y] l)) (
 w [(ix d 0)] l))
 λz cb bc=>
 vK (aj .i .mul k (.int .u64 4294967296)) λbd=>
 vK (aj .i .add bd t) λbe=>
 vK (aj .i .mul (ix z 0) g) λbf=>
 vK (aj .i .sub be bf) λm=>
 vK (aj .i .quo m c) λaa=>
 vK (aj .i .mul aa c) λbg=>
 vK (aj .i .sub m bg) λbh=>
 fo (λab=>
 bA [bh,aa] bc λe cc n bi=>
 vK (aj .i .geq (ix e 1) (.int .u64 4294967296)) λb=>
 vK (gV b false (some (ix e 1))) λbj=>
 vK (gV b false (some r)) λbk=>
 vK (gV b false (aj .i .mul bj bk)) λbl=>
 vK (gV b false (some (ix e 0))) λbm=>
 vK (gV b false (aj .i .mul (.int .u64 4294967296) bm)) λbn=>
 vK (gV b false (some u)) λbo=>
 vK (gV b false (aj .i .add bn bo)) λbp=>
 vK (gV b false (aj .i .gtr bl bp)) λbq=>
 vK (aE b (.bool true) bq) λbr=>
 aF br (
 vK (aj .i .sub (ix e 1) (.int .u64 1)) λac=>
 vK (aj .i .add (ix e 0) c) λad=>
 vK (aj .i .geq ad (.int .u64 4294967296)) λbs=>
 aF bs (
 ab [ac] n) (
 bi [ad,ac] n)) (
 ab [(ix e 1)] n))
 λae cd bt=>
 vK (aj .i .mul (ix z 0) (.int .u64 4294967296)) λbu=>
 vK (aj .i .add bu (ix ae 0)) λbv=>
 vK (aj .i .mul m (.int .u64 4294967296)) λbw=>
 vK (aj .i .add bw u) λbx=>
 vK (aj .i .mul (ix ae 0) g) λbz=>
 vK (aj .i .sub bx bz) λb0=>
 vK (aj .i .shr b0 f) λb1=>
 R (.tuple #[bv,b1]) bt)
theorem EV (H:vg a0 a1 a2 h R):ag prog pB #[a0,a1,a2] h R:=fk f255 (.s .z (.j 3670016 [] (.s .z (.s .z .z)) (.j 62914560 [] (.s .z (.s .z .z)) (.s (.s .z (.s (.s .z .z) .z)) (.s .z (.s .z (.s .z (.s .z (.s .z (.s .z (.s .z (.s .z (.s .z (.s .z (.s (.m 77371104881383677504880640 [15] (.l 77371104881383677504880640 [15,16] (.s (.s .z (.s .z .z)) (.s .z (.s .z (.s .z (.s .z .z))))))) (.s .z (.s .z (.s .z (.s (.m 2658450920967430832890008133748195328 [18] (.l 2658450920967430832890008133748195328 [16,18] (.s (.s .z (.s .z .z)) (.s .z (.s .z (.s .z (.s .z .z))))))) (.s .z .z)))))))))))))))))))) H
def Bi (h:ah)(R:Value→ah→Prop):Prop:=
 ag prog Df #[ai,(af 4),(af 2),aH] h λj c=>
 vK (aL j 0) λl=>
 vK (aL j 1) λe=>
 vK (aj .i .eql l (af 2)) λd=>
 vK (gV d true (some e)) λm=>
 vK (gV d true (aD m)) λn=>
 vK (gV d true (aj .i .eql n (af 2))) λo=>
 vK (aE d o (.bool false)) λa=>
 vK (gV a true (some e)) λp=>
 vK (gV a true (bh 1 p ai)) λq=>
 vK (gV a true (ldV c q)) λr=>
 vK (gV a true (aj .i .eql r (af 536870912))) λs=>
 vK (aE a s (.bool false)) λb=>
 vK (gV b true (some e)) λt=>
 vK (gV b true (bh 1 t aH)) λu=>
 vK (gV b true (ldV c u)) λv=>
 vK (gV b true (aj .i .eql v (af 536870912))) λw=>
 vK (aE b w (.bool false)) λf=>
 gK f true (λx=>ag prog vR #[ai,aH] c x) c λy k=>
 vK (gV f true (aj .i .eql y (af 1073741824))) λz=>
 vK (aE f z (.bool false)) λg=>
 gK g true (λaa=>ag prog vR #[aH,(af 2)] k aa) k λab ac=>
 vK (gV g true (aj .i .eql ab (af 603979776))) λad=>
 vK (aE g ad (.bool false)) λae=>
 R ae ac
theorem Mq (H:Bi h R):ag prog xS #[] h R:=fk f257 (.s .z (.s .z (.s .z .z))) H
def Bh (h:ah)(R:Value→ah→Prop):Prop:=
 di #[ai,ai,ai] 2 3 [(0,1,(af 536870912)),(1,1,(af 536870912)),(2,1,(af 536870912))] h λj k=>
 ag prog jF #[j] k λd l=>
 vK (aL d 0) λm=>
 vK (aL d 1) λn=>
 ag prog mJ #[(af 65536)] l λe f=>
 vK (aL e 0) λo=>
 vK (aL e 1) λp=>
 vK (aj .i .eql n ai) λa=>
 vK (gV a true (some m)) λq=>
 gK a true (λr=>di #[ai,ai,ai] 2 3 [(0,1,(af 5462)),(1,1,(af 5461)),(2,1,(af 5461))] f r) f λs g=>
 gK a true (λt=>ag prog uD #[q,s] g t) g λu v=>
 vK (aE a u (.bool false)) λc=>
 vK (gV c true (some p)) λw=>
 vK (gV c true (aj .i .eql w ai)) λx=>
 vK (aE c x (.bool false)) λb=>
 vK (gV b true (some o)) λy=>
 vK (gV b true (aD y)) λz=>
 vK (gV b true (aj .i .eql z (af 7))) λaa=>
 vK (aE b aa (.bool false)) λab=>
 R ab v
theorem Mp (H:Bh h R):ag prog xR #[] h R:=fk f258 (.s .z (.s .z (.s .z (.s .z .z)))) H
def DN (a0 a1:Value)(h:ah)(R:Value→ah→Prop):Prop:=
 vK (aD a0) λc=>
 vK (aD a1) λd=>
 vK (aj .i .neq c d) λe=>
 aF e (
 R (.bool false) h) (
 vK (aD a0) λf=>
 bA [ai] h λb q a g=>
 vK (aj .i .lss (ix b 0) f) λj=>
 aF j (
 vK (bh 1 a0 (ix b 0)) λk=>
 vK (ldV a k) λl=>
 vK (bh 1 a1 (ix b 0)) λm=>
 vK (ldV a m) λn=>
 vK (aj .i .neq l n) λo=>
 aF o (
 R (.bool false) a) (
 vK (aj .i .add (ix b 0) aH) λp=>
 g [p] a)) (
 R (.bool true) a))
theorem Ou (H:DN a0 a1 h R):ag prog uD #[a0,a1] h R:=fk f259 (.s .z (.s (.s .z (.s (.s .z .z) .z)) (.s (.s .z (.l 67100720 [13] (.s .z (.s (.s .z .z) (.s (.s .z (.s .z (.s (.s .z .z) .z))) .z))))) (.s .z .z)))) H
def ye (a0 a1:Value)(h:ah)(R:Value→ah→Prop):Prop:=
 vK (aS a0) λb=>
 vK (aB 2 b) λc=>
 vK (ldV h c) λd=>
 vK (JG (.int .i64) (.slice none 0 0) true h d a1) λa=>
 vK (aL a 0) λf=>
 vK (aL a 1) λe=>
 R e h
theorem IE (H:ye a0 a1 h R):ag prog mK #[a0,a1] h R:=fk f260 (.s .z (.s .z (.s .z .z))) H
def uU (a0:Value)(h:ah)(R:Value→ah→Prop):Prop:=
 vK (aS a0) λa=>
 vK (aB 2 a) λb=>
 vK (ldV h b) λc=>
 vK (Px h c) λd=>
 vK (aj .i .eql d ai) λe=>
 aF e (
 R (.tuple #[ai,(.bool false)]) h) (
 vK (aS a0) λf=>
 vK (aB 2 f) λg=>
 vK (ldV h g) λj=>
 ag prog eM #[j] h λk l=>
 ag prog oS #[k] l λm n=>
 ag prog gP #[m] n λo p=>
 R (.tuple #[o,(.bool true)]) p)
theorem EN (H:uU a0 h R):ag prog oW #[a0] h R:=fk f261 (.s .z (.s (.s .z (.s (.s .z .z) .z)) (.s .z .z))) H
def ww (a0 a1:Value)(h:ah)(R:Value→ah→Prop):Prop:=
 bK h λS=>
 vK (aS a0) λd=>
 vK (aB 3 d) λe=>
 qK S (λh=>ldV h e) λf=>
 vK (aS a0) λg=>
 vK (aB 2 g) λi=>
 qK S (λh=>ldV h i) λj=>
 qK S (λh=>JG (.int .i64) (.slice none 0 0) false h j a1) λk=>
 di #[(.slice none 0 0)] 28 1 [(0,1,k)] h λl a=>
 S a∧(dk (.slice none 0 0) 28 1 24 f l a λm b=>
 S b∧(vK (aS a0) λn=>
 vK (aB 3 n) λo=>
 stK 1 o m b λt c=>
 vK (aS a0) λp=>
 vK (aB 2 p) λq=>
 vK (ldV c q) λr=>
 oA (.int .i64) r a1 c λu s=>
 R (.tuple #[]) s))
theorem Gx (H:ww a0 a1 h R):ag prog qF #[a0,a1] h R:=fk f262 (.s (.d (.op 0 .r (.op 1 .r (.op 2 .r (.op 3 .r (.op 4 .r (.op 5 .r (.op 6 .r (.op 7 .r (.op 8 .r (.op 9 .r (.op 10 .r (.op 11 .e (.op 12 .e (.op 13 .r (.op 14 .r (.op 15 .n .nil))))))))))))))))) .z) H
def uR (a0:Value)(h:ah)(R:Value→ah→Prop):Prop:=
 vK (aS a0) λc=>
 vK (aB 3 c) λd=>
 vK (ldV h d) λe=>
 vK (aD e) λa=>
 vK (aj .i .gtr a ai) λf=>
 aF f (
 vK (aS a0) λg=>
 vK (aB 3 g) λj=>
 vK (ldV h j) λk=>
 vK (aj .i .sub a aH) λl=>
 vK (bh 1 k l) λm=>
 vK (ldV h m) λn=>
 vK (aS a0) λo=>
 vK (aB 3 o) λp=>
 vK (ldV h p) λq=>
 vK (aj .i .sub a aH) λr=>
 vK (xm 1 q none (some r)) λs=>
 vK (aS a0) λt=>
 vK (aB 3 t) λu=>
 stK 1 u s h λaa v=>
 R n v) (
 vK (aS a0) λw=>
 vK (aB 1 w) λx=>
 vK (ldV h x) λb=>
 mkK ai 2 1 8 b b h λy z=>
 R y z)
theorem EJ (H:uR a0 h R):ag prog oT #[a0] h R:=fk f263 (.s .z (.s (.s .z (.s .z (.s (.s .z (.s .z (.s .z .z))) .z))) (.s .z .z))) H
def FW (a0 a1 a2 a3:Value)(h:ah)(R:Value→ah→Prop):Prop:=
 vK (aj .i .geq a0 ai) λb=>
 vK (gV b true (some a0)) λj=>
 vK (gV b true (aj .i .leq j (af 2))) λk=>
 vK (aE b k (.bool false)) λc=>
 vK (gV c true (some a1)) λl=>
 vK (gV c true (aj .i .geq l aH)) λm=>
 vK (aE c m (.bool false)) λd=>
 vK (gV d true (some a1)) λn=>
 vK (gV d true (aj .i .leq n (af 65536))) λo=>
 vK (aE d o (.bool false)) λe=>
 vK (gV e true (some a2)) λp=>
 vK (gV e true (aj .i .geq p aH)) λq=>
 vK (aE e q (.bool false)) λf=>
 vK (gV f true (some a2)) λr=>
 vK (gV f true (aj .i .leq r (af 65536))) λs=>
 vK (aE f s (.bool false)) λg=>
 vK (gV g true (some a3)) λt=>
 vK (gV g true (aj .i .geq t ai)) λu=>
 vK (aE g u (.bool false)) λa=>
 vK (gV a true (some a3)) λv=>
 vK (gV a true (some a2)) λw=>
 vK (gV a true (aj .i .lss v w)) λx=>
 vK (aE a x (.bool false)) λy=>
 R y h
theorem QO (H:FW a0 a1 a2 a3 h R):ag prog Cs #[a0,a1,a2,a3] h R:=fk f264 (.s .z (.s .z .z)) H
def Js (a0 a1 a2 a3 a4:Value)(h:ah)(R:Value→ah→Prop):Prop:=
 vK (aj .i .eql a0 ai) λl=>
 aF l (
 vK (aj .i .add a4 aH) λm=>
 vK (aj .i .mul m a2) λn=>
 vK (aj .i .mul a3 a1) λo=>
 vK (aj .i .gtr n o) λa=>
 vK (gV a true (some a4)) λp=>
 vK (gV a true (some a2)) λq=>
 vK (gV a true (aj .i .mul p q)) λr=>
 vK (gV a true (some a3)) λs=>
 vK (gV a true (aj .i .add s aH)) λt=>
 vK (gV a true (some a1)) λu=>
 vK (gV a true (aj .i .mul t u)) λv=>
 vK (gV a true (aj .i .lss r v)) λw=>
 vK (aE a w (.bool false)) λx=>
 R x h) (
 ag prog lJ #[a1,a2,a3,a4] h λe f=>
 vK (aL e 0) λd=>
 vK (aL e 1) λg=>
 vK (aj .i .mul (af 2) g) λj=>
 vK (aj .i .eql a0 (af 2)) λy=>
 aF y (
 vK (aj .i .mul (af 3) g) λk=>
 vK (aj .i .lss d k) λb=>
 vK (gV b true (some d)) λz=>
 vK (gV b true (some k)) λaa=>
 vK (gV b true (unV .neg aa)) λab=>
 vK (gV b true (aj .i .gtr z ab)) λac=>
 vK (aE b ac (.bool false)) λad=>
 R ad f) (
 vK (aj .i .lss d j) λc=>
 vK (gV c true (some d)) λae=>
 vK (gV c true (some j)) λak=>
 vK (gV c true (unV .neg ak)) λal=>
 vK (gV c true (aj .i .gtr ae al)) λam=>
 vK (aE c am (.bool false)) λan=>
 R an f))
theorem Te (H:Js a0 a1 a2 a3 a4 h R):ag prog qI #[a0,a1,a2,a3,a4] h R:=fk f265 (.s .z (.s (.s .z (.s (.s .z .z) .z)) (.s .z (.s .z (.s (.s .z (.s .z .z)) (.s .z .z)))))) H
def Al (a0 a1 a2 a3 a4:Value)(h:ah)(R:Value→ah→Prop):Prop:=
 vK (aj .i .eql a0 ai) λl=>
 aF l (
 vK (aj .i .mul a3 a1) λa=>
 fo (λb=>
 vK (aj .i .mul a4 a2) λm=>
 vK (aj .i .gtr m a) λn=>
 aF n (
 vK (aj .i .mul a4 a2) λo=>
 b [o] h) (
 b [a] h))
 λc al d=>
 vK (aj .i .add a3 aH) λp=>
 vK (aj .i .mul p a1) λe=>
 vK (aj .i .add a4 aH) λq=>
 vK (aj .i .mul q a2) λr=>
 vK (aj .i .lss r e) λs=>
 aF s (
 vK (aj .i .add a4 aH) λt=>
 vK (aj .i .mul t a2) λu=>
 vK (aj .i .sub u (ix c 0)) λv=>
 ag prog dn #[v,(af 1073741824),a1] d λw x=>
 R w x) (
 vK (aj .i .sub e (ix c 0)) λy=>
 ag prog dn #[y,(af 1073741824),a1] d λz aa=>
 R z aa)) (
 ag prog lJ #[a1,a2,a3,a4] h λf g=>
 vK (aL f 0) λj=>
 vK (aL f 1) λk=>
 vK (aj .i .eql a0 aH) λab=>
 aF ab (
 ag prog zP #[j,k] g λac ad=>
 R ac ad) (
 ag prog sW #[j,k] g λae ak=>
 R ae ak))
theorem Kj (H:Al a0 a1 a2 a3 a4 h R):ag prog vQ #[a0,a1,a2,a3,a4] h R:=fk f266 (.s .z (.s (.s .z (.s (.s .z (.j 267388928 [11] (.s .z (.s .z .z)) (.s .z (.s (.s .z (.s .z .z)) (.s .z .z))))) .z)) (.s .z (.s (.s .z (.s (.s .z .z) .z)) (.s .z .z))))) H
def DM (a0:Value)(h:ah)(R:Value→ah→Prop):Prop:=
 vK (aj .i .geq a0 ai) λa=>
 aF a (
 R a0 h) (
 vK (aj .i .lss a0 (af (-9223372036854775807))) λb=>
 aF b (
 R (af 9223372036854775807) h) (
 vK (unV .neg a0) λc=>
 R c h))
theorem Ot (H:DM a0 h R):ag prog uC #[a0] h R:=fk f267 (.s .z (.s (.s .z (.s (.s .z .z) .z)) (.s (.s .z (.s (.s .z .z) .z)) (.s .z .z)))) H
def FU (a0:Value)(h:ah)(R:Value→ah→Prop):Prop:=
 vK (aD a0) λc=>
 bA [ai,ai] h λa m b d=>
 vK (aj .i .lss (ix a 1) c) λe=>
 aF e (
 vK (bh 1 a0 (ix a 1)) λf=>
 vK (ldV b f) λg=>
 ag prog uB #[(ix a 0),g] b λj k=>
 vK (aj .i .add (ix a 1) aH) λl=>
 d [j,l] k) (
 R (ix a 0) b)
theorem QM (H:FU a0 h R):ag prog Cr #[a0] h R:=fk f268 (.s .z (.s .z (.s (.s .z (.l 65320 [3,8] (.s .z (.s (.s .z .z) (.s (.s .z .z) .z))))) (.s .z .z)))) H
def AZ (a0 a1:Value)(h:ah)(R:Value→ah→Prop):Prop:=
 vK (aj .i .eql a1 ai) λg=>
 aF g (
 R ai h) (
 ag prog gi #[a0] h λj k=>
 vK ((aM #[(.int .u64 0),(.int .u64 0)] [(0,1,(.int .u64 0)),(1,1,j)]).map .agg) λl=>
 ag prog gi #[a1] k λm n=>
 ag prog uE #[l,m] n λe o=>
 vK (aL e 0) λp=>
 vK (aL e 1) λq=>
 aW #[(.int .u64 0),(.int .u64 0)] 351 o λa r=>
 stK 2 a p r λal d=>
 vK (aj .i .lss a0 ai) λs=>
 vK (aj .i .lss a1 ai) λt=>
 vK (aj .b .neq s t) λc=>
 vK (gV c true (some q)) λu=>
 vK (gV c true (aj .i .gtr u (.int .u64 0))) λv=>
 vK (aE c v (.bool false)) λw=>
 aF w (
 vK (aP 2 d a) λx=>
 vK ((aM #[(.int .u64 0),(.int .u64 0)] [(0,1,(.int .u64 0)),(1,1,(.int .u64 1))]).map .agg) λy=>
 ag prog iM #[x,y] d λz aa=>
 stK 2 a z aa λam f=>
 vK (aP 2 f a) λab=>
 ag prog dN #[ab,c] f λac ad=>
 R ac ad) (
 vK (aP 2 d a) λae=>
 ag prog dN #[ae,c] d λaf ak=>
 R af ak))
theorem L9 (H:AZ a0 a1 h R):ag prog qX #[a0,a1] h R:=fk f269 (.s .z (.s (.s .z (.s (.s .z .z) .z)) (.s .z (.s .z (.s (.s .z (.s .z .z)) (.s .z .z)))))) H
def AX (a0 a1:Value)(h:ah)(R:Value→ah→Prop):Prop:=
 vK (aj .i .lss a1 aH) λw=>
 aF w (
 R a0 h) (
 vK (aj .i .gtr a1 (af 64)) λx=>
 aF x (
 R ai h) (
 vK ((aM #[(.int .u64 0),(.int .u64 0)] [(0,1,(.int .u64 0)),(1,1,(.int .u64 1))]).map .agg) λy=>
 aW #[(.int .u64 0),(.int .u64 0)] 351 h λc z=>
 stK 2 c y z λck aa=>
 vK (aj .i .sub a1 aH) λab=>
 bA [ai] aa λp cl n ac=>
 vK (aj .i .lss (ix p 0) ab) λad=>
 aF ad (
 vK (aP 2 n c) λae=>
 ag prog fu #[ae,(.int .u64 0)] n λak al=>
 stK 2 c ak al λcm am=>
 vK (aj .i .add (ix p 0) aH) λan=>
 ac [an] am) (
 ag prog gi #[a0] n λao ap=>
 vK ((aM #[(.int .u64 0),(.int .u64 0)] [(0,1,(.int .u64 0)),(1,1,ao)]).map .agg) λaq=>
 aW #[(.int .u64 0),(.int .u64 0)] 351 ap λj ar=>
 stK 2 j aq ar λcn au=>
 vK ((aM #[(.int .u64 0),(.int .u64 0)] []).map .agg) λav=>
 aW #[(.int .u64 0),(.int .u64 0)] 351 au λb aw=>
 stK 2 b av aw λco ax=>
 bA [(af 127)] ax λo cp a ay=>
 vK (aj .i .geq (ix o 0) a1) λaz=>
 aF az (
 bK a λS=>
 qK S (λa=>aP 2 a b) λa2=>
 qK S (λa=>aP 2 a j) λa3=>
 ag prog iN #[a3,(ix o 0)] a λa4 q=>
 S q∧(ag prog fu #[a2,a4] q λa5 a6=>
 stK 2 b a5 a6 λcq a7=>
 vK (aj .i .sub (ix o 0) aH) λa8=>
 ay [a8] a7)) (
 vK (aP 2 a j) λa9=>
 aW #[(.int .u64 0),(.int .u64 0)] 351 a λd ba=>
 stK 2 d a9 ba λcr bb=>
 bA [a1] bb λe cs f r=>
 vK (aj .i .lss (ix e 0) (af 128)) λbc=>
 aF bc (
 vK (aP 2 f j) λbd=>
 ag prog iN #[bd,(ix e 0)] f λbe s=>
 vK (aj .i .eql be (.int .u64 1)) λbf=>
 aF bf (
 vK ((aM #[(.int .u64 0),(.int .u64 0)] [(0,1,(.int .u64 0)),(1,1,(.int .u64 1))]).map .agg) λbg=>
 aW #[(.int .u64 0),(.int .u64 0)] 351 s λk bh=>
 stK 2 k bg bh λct bi=>
 bA [ai] bi λt cu g bj=>
 vK (aj .i .lss (ix t 0) (ix e 0)) λbk=>
 aF bk (
 vK (aP 2 g k) λbl=>
 ag prog fu #[bl,(.int .u64 0)] g λbm bn=>
 stK 2 k bm bn λcv bo=>
 vK (aj .i .add (ix t 0) aH) λbp=>
 bj [bp] bo) (
 vK (aP 2 g d) λbq=>
 vK (aP 2 g k) λbr=>
 ag prog qW #[bq,br] g λbs bt=>
 stK 2 d bs bt λcw bu=>
 vK (aj .i .add (ix e 0) aH) λbv=>
 r [bv] bu)) (
 vK (aj .i .add (ix e 0) aH) λbw=>
 r [bw] s)) (
 vK (aP 2 f d) λbx=>
 vK (aP 2 f c) λbz=>
 ag prog ka #[bx,bz] f λb0 l=>
 vK (unV .not b0) λb1=>
 fo (λu=>
 vK (aj .i .lss a0 ai) λb2=>
 aF b2 (
 vK (aP 2 l c) λb3=>
 vK (aP 2 l d) λb4=>
 ag prog ka #[b3,b4] l λb5 b6=>
 u [b5] b6) (
 u [b1] l))
 λb7 cx m=>
 aF (ix b7 0) (
 vK (aP 2 m b) λb8=>
 vK ((aM #[(.int .u64 0),(.int .u64 0)] [(0,1,(.int .u64 0)),(1,1,(.int .u64 1))]).map .agg) λb9=>
 ag prog iM #[b8,b9] m λca cb=>
 stK 2 b ca cb λcy v=>
 vK (aP 2 v b) λcc=>
 vK (aj .i .lss a0 ai) λcd=>
 ag prog dN #[cc,cd] v λce cf=>
 R ce cf) (
 vK (aP 2 m b) λcg=>
 vK (aj .i .lss a0 ai) λch=>
 ag prog dN #[cg,ch] m λci cj=>
 R ci cj))))))
theorem L7 (H:AX a0 a1 h R):ag prog ms #[a0,a1] h R:=fk f270 (.s .z (.s (.s .z (.s (.s .z .z) .z)) (.s (.s .z (.s (.s .z .z) .z)) (.s .z (.s (.s .z (.l 65011712 [21] (.s .z (.s (.s .z .z) (.s .z .z))))) (.s .z (.s .z (.s (.s .z (.l 1098437886208 [8] (.s (.s .z (.s .z .z)) (.s (.d (.op 0 .r (.op 1 .r (.op 2 .r (.op 3 .e (.op 4 .n (.op 5 .n .nil))))))) .z)))) (.s .z (.s (.s .z (.l 1152917106560338944 [10] (.s (.s .z (.s .z .z)) (.s (.s .z (.s (.s .z (.s (.s .z (.l 139611588448485376 [52] (.s .z (.s (.s .z .z) (.s .z .z))))) .z)) .z)) .z)))) (.s .z (.j 571849066284996104192 [12] (.s .z (.s .z .z)) (.s (.s .z (.s .z .z)) (.s .z .z)))))))))))))) H
def FY (a0:Value)(h:ah)(R:Value→ah→Prop):Prop:=
 fo (λc=>
 vK (aj .i .lss a0 ai) λk=>
 aF k (
 c [ai] h) (
 c [a0] h))
 λd aa l=>
 ag prog qX #[(ix d 0),(af 762123384786)] l λe m=>
 vK (aj .i .mul e (af 762123384786)) λn=>
 vK (aj .i .sub (ix d 0) n) λo=>
 bA [(af 1099511627776),ai,(af 1099511627776),aH] m λa ab f g=>
 vK (aj .i .leq (ix a 3) (af 16)) λp=>
 aF p (
 vK (aj .i .mul (ix a 3) (af 1099511627776)) λq=>
 ag prog dn #[(ix a 2),o,q] f λb j=>
 vK (aj .i .rem (ix a 3) (af 2)) λr=>
 vK (aj .i .eql r aH) λs=>
 aF s (
 vK (aj .i .add (ix a 1) b) λt=>
 vK (aj .i .add (ix a 3) aH) λu=>
 g [(ix a 0),t,b,u] j) (
 vK (aj .i .add (ix a 0) b) λv=>
 vK (aj .i .add (ix a 3) aH) λw=>
 g [v,(ix a 1),b,w] j)) (
 vK (aj .i .sub (ix a 0) (ix a 1)) λx=>
 ag prog ms #[x,e] f λy z=>
 R y z)
theorem QQ (H:FY a0 h R):ag prog Cu #[a0] h R:=fk f271 (.s .z (.j 1537 [0] (.s .z (.s .z .z)) (.s .z (.s .z (.s .z (.s .z (.s .z (.s (.s .z (.l 34359607776 [5,6,7,8] (.s (.s .z (.s .z .z)) (.s (.s .z (.s .z (.s .z .z))) .z)))) (.s .z .z))))))))) H
def AT (a0 a1:Value)(h:ah)(R:Value→ah→Prop):Prop:=
 vK (aj .i .lss a1 aH) λa=>
 vK (gV a false (some a1)) λd=>
 vK (gV a false (aj .i .gtr d (af 4194304))) λe=>
 vK (aE a (.bool true) e) λb=>
 vK (gV b false (some a0)) λf=>
 vK (gV b false (aj .i .lss f (af (-16384)))) λg=>
 vK (aE b (.bool true) g) λc=>
 vK (gV c false (some a0)) λj=>
 vK (gV c false (aj .i .gtr j (af 16384))) λk=>
 vK (aE c (.bool true) k) λl=>
 aF l (
 R (af 9223372036854775807) h) (
 vK (aj .i .mul a0 a0) λm=>
 vK (aj .i .mul m (af 2147483648)) λn=>
 vK (aj .i .mul a1 a1) λo=>
 ag prog dn #[n,(af 1099511627776),o] h λp q=>
 R p q)
theorem L3 (H:AT a0 a1 h R):ag prog xH #[a0,a1] h R:=fk f272 (.s .z (.s (.s .z (.s (.s .z .z) .z)) (.s .z .z))) H
def DK (a0 a1:Value)(h:ah)(R:Value→ah→Prop):Prop:=
 vK (aj .i .gtr a1 ai) λa=>
 vK (gV a true (some a0)) λc=>
 vK (gV a true (some a1)) λd=>
 vK (gV a true (aj .i .sub (af 9223372036854775807) d)) λe=>
 vK (gV a true (aj .i .gtr c e)) λf=>
 vK (aE a f (.bool false)) λg=>
 aF g (
 R (af 9223372036854775807) h) (
 vK (aj .i .lss a1 ai) λb=>
 vK (gV b true (some a0)) λj=>
 vK (gV b true (some a1)) λk=>
 vK (gV b true (aj .i .sub (af (-9223372036854775808)) k)) λl=>
 vK (gV b true (aj .i .lss j l)) λm=>
 vK (aE b m (.bool false)) λn=>
 aF n (
 R (af (-9223372036854775808)) h) (
 vK (aj .i .add a0 a1) λo=>
 R o h))
theorem Oo (H:DK a0 a1 h R):ag prog uB #[a0,a1] h R:=fk f273 (.s .z (.s (.s .z (.s (.s .z .z) .z)) (.s (.s .z (.s (.s .z .z) .z)) (.s .z .z)))) H
def AW (a0 a1:Value)(h:ah)(R:Value→ah→Prop):Prop:=
 aW #[(.int .u64 0),(.int .u64 0)] 351 h λe j=>
 vK ((aM #[(.int .u64 0),(.int .u64 0)] []).map .agg) λk=>
 aW #[(.int .u64 0),(.int .u64 0)] 351 j λa l=>
 stK 2 a k l λad m=>
 bA [(af 63)] m λb ae c f=>
 vK (aj .i .geq (ix b 0) ai) λn=>
 aF n (
 vK (aP 2 c a) λo=>
 ag prog fu #[o,(.int .u64 0)] c λp q=>
 stK 2 a p q λak d=>
 vK (aj .i .shr a1 (ix b 0)) λr=>
 vK (aj .i .and r (.int .u64 1)) λs=>
 vK (aj .i .eql s (.int .u64 1)) λt=>
 aF t (
 vK (aP 2 d a) λu=>
 vK ((aM #[(.int .u64 0),(.int .u64 0)] [(0,1,(.int .u64 0)),(1,1,a0)]).map .agg) λv=>
 ag prog iM #[u,v] d λw x=>
 stK 2 a w x λal y=>
 vK (aj .i .sub (ix b 0) aH) λz=>
 f [z] y) (
 vK (aj .i .sub (ix b 0) aH) λaa=>
 f [aa] d)) (
 vK (aP 2 c a) λab=>
 stK 2 e ab c λam g=>
 vK (aP 2 g e) λac=>
 R ac g)
theorem L6 (H:AW a0 a1 h R):ag prog qV #[a0,a1] h R:=fk f274 (.s .z (.s .z (.s (.s .z (.l 8388416 [6] (.s (.s .z (.s .z .z)) (.s (.s .z (.s .z (.s .z .z))) .z)))) (.s .z .z)))) H
def DQ (a0:Value)(h:ah)(R:Value→ah→Prop):Prop:=
 vK (aj .i .lss a0 ai) λa=>
 aF a (
 vK (aj .i .add a0 aH) λb=>
 vK (unV .neg b) λc=>
 vK (gh .u64 c) λd=>
 vK (aj .i .add d (.int .u64 1)) λe=>
 R e h) (
 vK (gh .u64 a0) λf=>
 R f h)
theorem Oy (H:DQ a0 h R):ag prog gi #[a0] h R:=fk f275 (.s .z (.s (.s .z (.s (.s .z .z) .z)) (.s .z .z))) H
def yg (a0 a1 a2:Value)(h:ah)(R:Value→ah→Prop):Prop:=
 aW (Value.cells a0) 351 h λk e=>
 vK (aP 2 e k) λl=>
 ag prog uE #[l,a1] e λf m=>
 vK (aL f 0) λn=>
 vK (aL f 1) λo=>
 aW #[(.int .u64 0),(.int .u64 0)] 351 m λa p=>
 stK 2 a n p λaq q=>
 vK ((aM #[(.int .u64 0),(.int .u64 0)] [(0,1,(.int .u64 0)),(1,1,o)]).map .agg) λr=>
 ag prog fu #[r,(.int .u64 0)] q λs t=>
 aW #[(.int .u64 0),(.int .u64 0)] 351 t λc u=>
 stK 2 c s u λar g=>
 vK (aP 2 g c) λv=>
 vK ((aM #[(.int .u64 0),(.int .u64 0)] [(0,1,(.int .u64 0)),(1,1,a1)]).map .agg) λw=>
 ag prog ka #[v,w] g λx d=>
 vK (unV .not x) λy=>
 fo (λi=>
 aF a2 (
 vK ((aM #[(.int .u64 0),(.int .u64 0)] [(0,1,(.int .u64 0)),(1,1,a1)]).map .agg) λz=>
 vK (aP 2 d c) λaa=>
 ag prog ka #[z,aa] d λab ac=>
 i [ab] ac) (
 i [y] d))
 λad au b=>
 aF (ix ad 0) (
 vK (aP 2 b a) λae=>
 vK ((aM #[(.int .u64 0),(.int .u64 0)] [(0,1,(.int .u64 0)),(1,1,(.int .u64 1))]).map .agg) λaf=>
 ag prog iM #[ae,af] b λai aj=>
 stK 2 a ai aj λav j=>
 vK (aP 2 j a) λak=>
 ag prog dN #[ak,a2] j λal am=>
 R al am) (
 vK (aP 2 b a) λan=>
 ag prog dN #[an,a2] b λao ap=>
 R ao ap)
theorem IG (H:yg a0 a1 a2 h R):ag prog sX #[a0,a1,a2] h R:=fk f276 (.s .z (.s .z (.s .z (.s .z (.j 1040188416 [10] (.s .z (.s .z .z)) (.s (.s .z (.s .z .z)) (.s .z .z))))))) H
def Jp (a0 a1:Value)(h:ah)(R:Value→ah→Prop):Prop:=
 vK (aj .i .geq a1 aH) λc=>
 vK (gV c true (some a1)) λd=>
 vK (gV c true (aj .i .leq d (af 1048576))) λe=>
 vK (aE c e (.bool false)) λa=>
 vK (gV a true (some a0)) λf=>
 vK (gV a true (some a1)) λg=>
 vK (gV a true (aj .i .mul (af (-4)) g)) λj=>
 vK (gV a true (aj .i .geq f j)) λk=>
 vK (aE a k (.bool false)) λb=>
 vK (gV b true (some a0)) λl=>
 vK (gV b true (some a1)) λm=>
 vK (gV b true (aj .i .mul (af 4) m)) λn=>
 vK (gV b true (aj .i .leq l n)) λo=>
 vK (aE b o (.bool false)) λp=>
 R p h
theorem Tb (H:Jp a0 a1 h R):ag prog Fy #[a0,a1] h R:=fk f278 (.s .z (.s .z .z)) H
def FO (a0:Value)(h:ah)(R:Value→ah→Prop):Prop:=
 vK (unV .neg a0) λa=>
 vK (ju a0 a) λb=>
 R b h
theorem QG (H:FO a0 h R):ag prog xe #[a0] h R:=fk f279 (.s .z (.s .z .z)) H
def xY (a0 a1 a2:Value)(h:ah)(R:Value→ah→Prop):Prop:=
 vK (ju ai a2) λb=>
 vK (aj .i .geq b (af 128)) λr=>
 aF r (
 R ai h) (
 ag prog oP #[a0,a1] h λg j=>
 vK (aL g 0) λc=>
 vK (aL g 1) λd=>
 vK (aL g 2) λe=>
 vK (aj .i .eql b ai) λs=>
 aF s (
 ag prog eI #[c,d,e] j λt u=>
 R t u) (
 ag prog uw #[c,d,b] j λk v=>
 vK (aL k 0) λl=>
 vK (aL k 1) λm=>
 vK (aj .i .sub b aH) λw=>
 ag prog uw #[c,d,w] v λn o=>
 vK (aL n 0) λax=>
 vK (aL n 1) λx=>
 vK (aj .i .and x (.int .u64 1)) λy=>
 vK (aj .i .eql y (.int .u64 0)) λf=>
 vK (gV f false (some e)) λz=>
 vK (gV f false (some z)) λa=>
 vK (gV a true (some c)) λaa=>
 vK (gV a true (some d)) λab=>
 vK (gV a true (some b)) λac=>
 vK (gV a true (aj .i .sub ac aH)) λad=>
 gK a true (λae=>ag prog zH #[aa,ab,ad] o ae) o λak p=>
 vK (gV f false (aE a ak (.bool false))) λal=>
 vK (aE f (.bool true) al) λam=>
 aF am (
 ag prog eI #[l,m,e] p λan ao=>
 R an ao) (
 ag prog gy #[m,(.int .u64 1),(.int .u64 0)] p λq ap=>
 vK (aL q 0) λaq=>
 vK (aL q 1) λar=>
 vK (aj .i .add l ar) λau=>
 ag prog eI #[au,aq,e] ap λav aw=>
 R av aw)))
theorem Iz (H:xY a0 a1 a2 h R):ag prog sT #[a0,a1,a2] h R:=fk f280 (.s .z (.s .z (.s (.s .z (.s (.s .z .z) .z)) (.s .z (.s (.s .z (.s (.s .z .z) .z)) (.s .z (.s .z (.s (.s .z (.s (.s .z .z) .z)) (.s .z (.s .z .z)))))))))) H
def AP (a0 a1:Value)(h:ah)(R:Value→ah→Prop):Prop:=
 ag prog xe #[a0] h λb f=>
 ag prog eJ #[(af 10851744800547),b,a1] f λg j=>
 ag prog eJ #[g,b,a1] j λk l=>
 bA [(af 1099511627776),(af 1099511627776),aH,aH] l λa x c m=>
 vK (aj .i .leq (ix a 3) (af 30)) λn=>
 aF n (
 vK (unV .neg (ix a 2)) λd=>
 vK (aj .i .mul (af 2) (ix a 3)) λo=>
 vK (aj .i .mul (af 2) (ix a 3)) λp=>
 vK (aj .i .add p aH) λq=>
 vK (aj .i .mul o q) λr=>
 vK (aj .i .shl r (.int .u64 40)) λs=>
 ag prog eJ #[(ix a 1),k,s] c λe t=>
 vK (aj .i .mul d e) λu=>
 vK (aj .i .add (ix a 0) u) λv=>
 vK (aj .i .add (ix a 3) aH) λw=>
 m [v,e,d,w] t) (
 R (ix a 0) c)
theorem LX (H:AP a0 a1 h R):ag prog qT #[a0,a1] h R:=fk f281 (.s .z (.s .z (.s .z (.s .z (.s (.s .z (.l 549755552704 [6,7,8,9] (.s (.s .z (.s .z .z)) (.s (.s .z (.s .z .z)) .z)))) (.s .z .z)))))) H
def gU (a0 a1:Value)(h:ah)(R:Value→ah→Prop):Prop:=
 vK (aD a0) λd=>
 bA [ai] h λa m b e=>
 vK (aj .i .lss (ix a 0) d) λf=>
 aF f (
 vK (bh 1 a0 (ix a 0)) λg=>
 vK (ldV b g) λj=>
 clK prog a1 #[j] b λk c=>
 aF k (
 R (ix a 0) c) (
 vK (aj .i .add (ix a 0) aH) λl=>
 e [l] c)) (
 R (af (-1)) b)
theorem mR (H:gU a0 a1 h R):ag prog iu #[a0,a1] h R:=fk f282 (.s .z (.s (.s .z (.l 524080 [8] (.s .z (.s (.s .z .z) (.s (.s .z (.s .z (.s (.s .z .z) .z))) .z))))) (.s .z .z))) H
def Gg (a0 a1:Value)(h:ah)(R:Value→ah→Prop):Prop:=
 ag prog iT #[a0] h λd e=>
 ag prog iT #[a1] e λf g=>
 ag prog kN #[d,f] g λa c=>
 vK (aL a 0) λj=>
 vK (aL a 1) λk=>
 vK (aj .i .neq j (.int .u64 0)) λl=>
 aF l (
 vK (aj .i .lss a0 ai) λm=>
 vK (aj .i .lss a1 ai) λn=>
 vK (aj .b .neq m n) λo=>
 ag prog lL #[(.int .u64 18446744073709551615),o] c λp q=>
 R p q) (
 vK (aj .i .lss a0 ai) λr=>
 vK (aj .i .lss a1 ai) λs=>
 vK (aj .b .neq r s) λt=>
 ag prog lL #[k,t] c λu v=>
 R u v)
theorem Q0 (H:Gg a0 a1 h R):ag prog Cy #[a0,a1] h R:=fk f283 (.s .z (.s .z (.s (.s .z (.s .z .z)) (.s .z .z)))) H
def gT (a0 a1 a2 a3:Value)(h:ah)(R:Value→ah→Prop):Prop:=
 vK (aj .i .add a1 aH) λg=>
 bA [g] h λe ap f j=>
 vK (aj .i .lss (ix e 0) a2) λk=>
 aF k (
 bA [(ix e 0)] f λb aq c l=>
 bK c λS=>
 vK (aj .i .gtr (ix b 0) a1) λa=>
 vK (gV a true (some a3)) λm=>
 vK (gV a true (some a0)) λn=>
 vK (gV a true (some (ix b 0))) λo=>
 vK (gV a true (bh 1 n o)) λp=>
 qK S (λc=>gV a true (ldV c p)) λq=>
 vK (gV a true (some a0)) λr=>
 vK (gV a true (some (ix b 0))) λs=>
 vK (gV a true (aj .i .sub s aH)) λt=>
 vK (gV a true (bh 1 r t)) λu=>
 qK S (λc=>gV a true (ldV c u)) λv=>
 gK a true (λw=>clK prog m #[q,v] c w) c λx d=>
 vK (gV a true (aj .i .lss x ai)) λy=>
 vK (aE a y (.bool false)) λz=>
 aF z (
 bK d λS=>
 vK (aj .i .sub (ix b 0) aH) λaa=>
 vK (aj .i .sub (ix b 0) aH) λab=>
 vK (bh 1 a0 ab) λac=>
 qK S (λd=>ldV d ac) λad=>
 vK (bh 1 a0 (ix b 0)) λae=>
 qK S (λd=>ldV d ae) λaf=>
 vK (bh 1 a0 (ix b 0)) λag=>
 stK 1 ag ad d λar ak=>
 vK (bh 1 a0 aa) λal=>
 stK 1 al af ak λau am=>
 vK (aj .i .sub (ix b 0) aH) λan=>
 l [an] am) (
 vK (aj .i .add (ix e 0) aH) λao=>
 j [ao] d)) (
 R (.tuple #[]) f)
theorem mQ (H:gT a0 a1 a2 a3 h R):ag prog dp #[a0,a1,a2,a3] h R:=fk f284 (.s .z (.l 9007199254737664 [8] (.s (.s .z (.s .z .z)) (.s (.s .z (.l 9007199254479360 [9] (.s (.s (.d (.op 0 .r (.op 1 .r (.op 2 .r (.op 3 .r (.op 4 .r (.op 5 .r (.op 6 .r (.op 7 .r (.op 8 .r (.op 9 .r (.op 10 .r (.op 11 .r (.op 12 .r (.op 13 .r (.op 14 .n (.op 15 .r (.op 16 .r .nil)))))))))))))))))) (.s .z .z)) (.s (.d (.op 0 .r (.op 1 .r (.op 2 .r (.op 3 .r (.op 4 .r (.op 5 .r (.op 6 .r (.op 7 .r (.op 8 .r (.op 9 .r (.op 10 .r (.op 11 .r (.op 12 .r (.op 13 .r (.op 14 .r (.op 15 .n (.op 16 .r (.op 17 .n .nil))))))))))))))))))) .z)))) .z)))) H
def jK (a0 a1 a2 a3 a4:Value)(h:ah)(R:Value→ah→Prop):Prop:=
 vK (aj .i .sub a2 a1) λal=>
 vK (aj .i .eql al aH) λam=>
 aF am (
 bA [a2,a3] h λe df f x=>
 vK (aj .i .lss (ix e 0) (ix e 1)) λan=>
 aF an (
 vK (aj .i .add (ix e 0) (ix e 1)) λao=>
 vK (gh .u64 ao) λap=>
 vK (aj .i .shr ap (.int .u64 1)) λaq=>
 vK (gh .i64 aq) λt=>
 bK f λS=>
 vK (bh 1 a0 t) λar=>
 qK S (λf=>ldV f ar) λau=>
 vK (bh 1 a0 a1) λav=>
 qK S (λf=>ldV f av) λaw=>
 clK prog a4 #[au,aw] f λax y=>
 vK (aj .i .lss ax ai) λay=>
 aF ay (
 vK (aj .i .add t aH) λaz=>
 x [az,(ix e 1)] y) (
 x [(ix e 0),t] y)) (
 bA [a1] f λm dg g a5=>
 vK (aj .i .sub (ix e 0) aH) λa6=>
 vK (aj .i .lss (ix m 0) a6) λa7=>
 aF a7 (
 bK g λS=>
 vK (aj .i .add (ix m 0) aH) λa8=>
 vK (aj .i .add (ix m 0) aH) λa9=>
 vK (bh 1 a0 a9) λba=>
 qK S (λg=>ldV g ba) λbb=>
 vK (bh 1 a0 (ix m 0)) λbc=>
 qK S (λg=>ldV g bc) λbd=>
 vK (bh 1 a0 (ix m 0)) λbe=>
 stK 1 be bb g λdh bf=>
 vK (bh 1 a0 a8) λbg=>
 stK 1 bg bd bf λdi bi=>
 vK (aj .i .add (ix m 0) aH) λbj=>
 a5 [bj] bi) (
 R (.tuple #[]) g))) (
 vK (aj .i .sub a3 a2) λbk=>
 vK (aj .i .eql bk aH) λbl=>
 aF bl (
 bA [a1,a2] h λj dj k z=>
 vK (aj .i .lss (ix j 0) (ix j 1)) λbm=>
 aF bm (
 vK (aj .i .add (ix j 0) (ix j 1)) λbn=>
 vK (gh .u64 bn) λbo=>
 vK (aj .i .shr bo (.int .u64 1)) λbp=>
 vK (gh .i64 bp) λu=>
 bK k λS=>
 vK (bh 1 a0 a2) λbq=>
 qK S (λk=>ldV k bq) λbr=>
 vK (bh 1 a0 u) λbs=>
 qK S (λk=>ldV k bs) λbt=>
 clK prog a4 #[br,bt] k λbu aa=>
 vK (aj .i .lss bu ai) λbv=>
 vK (unV .not bv) λbw=>
 aF bw (
 vK (aj .i .add u aH) λbx=>
 z [bx,(ix j 1)] aa) (
 z [(ix j 0),u] aa)) (
 bA [a2] k λn dk l bz=>
 vK (aj .i .gtr (ix n 0) (ix j 0)) λb0=>
 aF b0 (
 bK l λS=>
 vK (aj .i .sub (ix n 0) aH) λb1=>
 vK (aj .i .sub (ix n 0) aH) λb2=>
 vK (bh 1 a0 b2) λb3=>
 qK S (λl=>ldV l b3) λb4=>
 vK (bh 1 a0 (ix n 0)) λb5=>
 qK S (λl=>ldV l b5) λb6=>
 vK (bh 1 a0 (ix n 0)) λb7=>
 stK 1 b7 b4 l λdl b8=>
 vK (bh 1 a0 b1) λb9=>
 stK 1 b9 b6 b8 λdm ca=>
 vK (aj .i .sub (ix n 0) aH) λcb=>
 bz [cb] ca) (
 R (.tuple #[]) l))) (
 vK (aj .i .add a1 a3) λcc=>
 vK (gh .u64 cc) λcd=>
 vK (aj .i .shr cd (.int .u64 1)) λce=>
 vK (gh .i64 ce) λb=>
 vK (aj .i .add b a2) λv=>
 fo (λab=>
 vK (aj .i .gtr a2 b) λcf=>
 aF cf (
 vK (aj .i .sub v a3) λcg=>
 ab [cg,b] h) (
 ab [a1,a2] h))
 λac dn ch=>
 vK (aj .i .sub v aH) λci=>
 bA [(ix ac 0),(ix ac 1)] ch λa dp c ad=>
 vK (aj .i .lss (ix a 0) (ix a 1)) λcj=>
 aF cj (
 vK (aj .i .add (ix a 0) (ix a 1)) λck=>
 vK (gh .u64 ck) λcl=>
 vK (aj .i .shr cl (.int .u64 1)) λcm=>
 vK (gh .i64 cm) λo=>
 bK c λS=>
 vK (aj .i .sub ci o) λcn=>
 vK (bh 1 a0 cn) λco=>
 qK S (λc=>ldV c co) λcp=>
 vK (bh 1 a0 o) λcq=>
 qK S (λc=>ldV c cq) λcr=>
 clK prog a4 #[cp,cr] c λcs ae=>
 vK (aj .i .lss cs ai) λct=>
 vK (unV .not ct) λcu=>
 aF cu (
 vK (aj .i .add o aH) λcv=>
 ad [cv,(ix a 1)] ae) (
 ad [(ix a 0),o] ae)) (
 vK (aj .i .sub v (ix a 0)) λd=>
 fo (λaf=>
 vK (aj .i .lss (ix a 0) a2) λp=>
 vK (gV p true (some a2)) λcw=>
 vK (gV p true (some d)) λcx=>
 vK (gV p true (aj .i .lss cw cx)) λcy=>
 vK (aE p cy (.bool false)) λcz=>
 aF cz (
 ag prog ic #[a0,(ix a 0),a2,d,a4] c λdq c0=>
 af [] c0) (
 af [] c))
 λdr ds w=>
 vK (aj .i .lss a1 (ix a 0)) λq=>
 vK (gV q true (some (ix a 0))) λc1=>
 vK (gV q true (some b)) λc2=>
 vK (gV q true (aj .i .lss c1 c2)) λc3=>
 vK (aE q c3 (.bool false)) λc4=>
 aF c4 (
 ag prog bU #[a0,a1,(ix a 0),b,a4] w λdt ak=>
 vK (aj .i .lss b d) λr=>
 vK (gV r true (some d)) λc5=>
 vK (gV r true (some a3)) λc6=>
 vK (gV r true (aj .i .lss c5 c6)) λc7=>
 vK (aE r c7 (.bool false)) λc8=>
 aF c8 (
 ag prog bU #[a0,b,d,a3,a4] ak λdu c9=>
 R (.tuple #[]) c9) (
 R (.tuple #[]) ak)) (
 vK (aj .i .lss b d) λs=>
 vK (gV s true (some d)) λda=>
 vK (gV s true (some a3)) λdb=>
 vK (gV s true (aj .i .lss da db)) λdc=>
 vK (aE s dc (.bool false)) λdd=>
 aF dd (
 ag prog bU #[a0,b,d,a3,a4] w λdv de=>
 R (.tuple #[]) de) (
 R (.tuple #[]) w)))))
theorem rM (H:jK a0 a1 a2 a3 a4 h R):ag prog bU #[a0,a1,a2,a3,a4] h R:=fk f285 (.s (.s .z (.s (.s .z (.s .z (.s (.l 18014396362005504 [10,11] (.s (.s .z (.s .z .z)) (.s .z (.s (.d (.op 0 .r (.op 1 .r (.op 2 .r (.op 3 .r (.op 4 .r (.op 5 .r (.op 6 .r (.op 7 .r (.op 8 .r (.op 9 .n (.op 10 .r .nil)))))))))))) (.s .z .z))))) (.s (.s .z (.l 151115691423031627882496 [13] (.s (.s .z (.s .z .z)) (.s (.d (.op 0 .r (.op 1 .r (.op 2 .r (.op 3 .r (.op 4 .r (.op 5 .r (.op 6 .r (.op 7 .r (.op 8 .r (.op 9 .r (.op 10 .r (.op 11 .r (.op 12 .r (.op 13 .r (.op 14 .r (.op 15 .n (.op 16 .r (.op 17 .n .nil))))))))))))))))))) .z)))) .z)))) .z)) (.s (.s .z (.s (.s .z (.s .z (.s (.l 162259267157806806474544612753408 [14,15] (.s (.s .z (.s .z .z)) (.s .z (.s (.d (.op 0 .r (.op 1 .r (.op 2 .r (.op 3 .r (.op 4 .r (.op 5 .r (.op 6 .r (.op 7 .r (.op 8 .r (.op 9 .n (.op 10 .r (.op 11 .r .nil))))))))))))) (.s .z .z))))) (.s (.s .z (.l 680564409323323268500022431707515977728 [17] (.s (.s .z (.s .z .z)) (.s (.d (.op 0 .r (.op 1 .r (.op 2 .r (.op 3 .r (.op 4 .r (.op 5 .r (.op 6 .r (.op 7 .r (.op 8 .r (.op 9 .r (.op 10 .r (.op 11 .r (.op 12 .r (.op 13 .r (.op 14 .r (.op 15 .n (.op 16 .r (.op 17 .n .nil))))))))))))))))))) .z)))) .z)))) .z)) (.s .z (.s .z (.s .z (.j 178057512444517944145699250583176761402458112 [20,21] (.s .z (.s (.s .z .z) (.s .z .z))) (.s .z (.s (.l 47890484938435180470718404069304177263338029388398592 [20,21] (.s (.s .z (.s .z .z)) (.s .z (.s (.d (.op 0 .r (.op 1 .r (.op 2 .r (.op 3 .r (.op 4 .r (.op 5 .r (.op 6 .r (.op 7 .r (.op 8 .r (.op 9 .r (.op 10 .r (.op 11 .n (.op 12 .r (.op 13 .r .nil))))))))))))))) (.s .z .z))))) (.s .z (.j 6276718611501464291621199836450878838806450759683488612352 [] (.s .z (.s .z .z)) (.s (.s .z (.s .z .z)) (.s .z (.s .z .z))))))))))))) H
def kF (a0:Value)(h:ah)(R:Value→ah→Prop):Prop:=
 ag prog xh #[a0] h λa b=>
 vK (aj .i .sub (af 64) a) λc=>
 R c b
theorem tQ (H:kF a0 h R):ag prog ig #[a0] h R:=fk f288 (.s .z (.s .z .z)) H
def kf (a0:Value)(h:ah)(R:Value→ah→Prop):Prop:=
 fo (λc=>
 vK (aD a0) λe=>
 vK (aj .i .lss e aH) λf=>
 aF f (
 M9 h λs g=>
 c [] g) (
 c [] h))
 λt u d=>
 vK (bh 1 a0 ai) λj=>
 vK (ldV d j) λk=>
 bA [k,aH] d λa v b l=>
 vK (aD a0) λm=>
 vK (aj .i .lss (ix a 1) m) λn=>
 aF n (
 vK (bh 1 a0 (ix a 1)) λo=>
 vK (ldV b o) λp=>
 vK (rR (ix a 0) p) λq=>
 vK (aj .i .add (ix a 1) aH) λr=>
 l [q,r] b) (
 R (ix a 0) b)
theorem sG (H:kf a0 h R):ag prog gP #[a0] h R:=fk f289 (.s .z (.j 480 [] (.s .z (.s .z .z)) (.s .z (.s (.s .z (.l 16773144 [3,4] (.s (.s .z (.s .z .z)) (.s .z .z)))) (.s .z .z))))) H
def ef (a0:Value)(h:ah)(R:Value→ah→Prop):Prop:=
 aW (Value.cells a0) 284 h λa b=>
 R (.func (.func dG) #[] #[a]) b
theorem iW (H:ef a0 h R):ag prog eM #[a0] h R:=fk f291 (.s .z (.s .z .z)) H
def wB (a0 a1 a2 a3:Value)(h:ah)(R:Value→ah→Prop):Prop:=
 vK (aj .i .mul (af 2) a0) λb=>
 fo (λa=>
 vK (aj .i .gtr a1 a0) λc=>
 aF c (
 vK (aj .i .mul (af 2) a1) λd=>
 a [d] h) (
 a [b] h))
 λe p f=>
 vK (aj .i .mul (af 2) a1) λg=>
 vK (aj .i .mul g a3) λj=>
 vK (aj .i .mul (af 2) a2) λk=>
 vK (aj .i .add k aH) λl=>
 vK (aj .i .mul l a0) λm=>
 vK (aj .i .sub j m) λn=>
 vK (aj .i .add n a1) λo=>
 R (.tuple #[o,(ix e 0)]) f
theorem GA (H:wB a0 a1 a2 a3 h R):ag prog lJ #[a0,a1,a2,a3] h R:=fk f292 (.s .z (.s .z (.j 254976 [10] (.s .z (.s .z .z)) (.s .z .z)))) H
def DP (a0 a1:Value)(h:ah)(R:Value→ah→Prop):Prop:=
 vK (aj .i .lss a1 aH) λd=>
 vK (gV d false (some a1)) λl=>
 vK (gV d false (aj .i .gtr l (af 262144))) λm=>
 vK (aE d (.bool true) m) λn=>
 aF n (
 R ai h) (
 vK (aj .i .mul (af 2) a1) λo=>
 vK (aj .i .geq a0 o) λa=>
 vK (gV a false (some a0)) λp=>
 vK (gV a false (some a1)) λq=>
 vK (gV a false (aj .i .mul (af (-2)) q)) λr=>
 vK (gV a false (aj .i .leq p r)) λs=>
 vK (aE a (.bool true) s) λt=>
 aF t (
 R ai h) (
 fo (λf=>
 vK (aj .i .lss a0 ai) λu=>
 aF u (
 vK (unV .neg a0) λv=>
 f [v] h) (
 f [a0] h))
 λb ay g=>
 vK (aj .i .mul (ix b 0) (ix b 0)) λe=>
 vK (aj .i .mul e (ix b 0)) λj=>
 vK (aj .i .mul a1 a1) λk=>
 vK (aj .i .mul k a1) λc=>
 vK (aj .i .lss (ix b 0) a1) λw=>
 aF w (
 vK (aj .i .mul (af 3) j) λx=>
 vK (aj .i .mul (af 5) e) λy=>
 vK (aj .i .mul y a1) λz=>
 vK (aj .i .sub x z) λaa=>
 vK (aj .i .mul (af 2) c) λab=>
 vK (aj .i .add aa ab) λac=>
 vK (aj .i .mul (af 2) c) λad=>
 ag prog dn #[ac,(af 1073741824),ad] g λae ak=>
 R ae ak) (
 vK (aj .i .mul (af 5) e) λal=>
 vK (aj .i .mul al a1) λam=>
 vK (aj .i .sub am j) λan=>
 vK (aj .i .mul (af 8) (ix b 0)) λao=>
 vK (aj .i .mul ao k) λap=>
 vK (aj .i .sub an ap) λaq=>
 vK (aj .i .mul (af 4) c) λar=>
 vK (aj .i .add aq ar) λau=>
 vK (aj .i .mul (af 2) c) λav=>
 ag prog dn #[au,(af 1073741824),av] g λaw ax=>
 R aw ax)))
theorem Ox (H:DP a0 a1 h R):ag prog zP #[a0,a1] h R:=fk f293 (.s .z (.s (.s .z (.s (.s .z .z) .z)) (.s (.s .z (.s (.s .z .z) .z)) (.j 503316481 [0] (.s .z (.s .z .z)) (.s .z (.s .z (.s .z (.s .z (.s (.s .z (.s (.s .z .z) .z)) (.s .z .z)))))))))) H
def yf (a0 a1:Value)(h:ah)(R:Value→ah→Prop):Prop:=
 ag prog Ct #[a0,a1] h λd c=>
 vK (unV .not d) λa=>
 vK (gV a false (some a0)) λe=>
 vK (gV a false (some a1)) λf=>
 vK (gV a false (aj .i .mul (af 3) f)) λg=>
 vK (gV a false (aj .i .geq e g)) λj=>
 vK (aE a (.bool true) j) λb=>
 vK (gV b false (some a0)) λk=>
 vK (gV b false (some a1)) λl=>
 vK (gV b false (aj .i .mul (af (-3)) l)) λm=>
 vK (gV b false (aj .i .leq k m)) λn=>
 vK (aE b (.bool true) n) λo=>
 aF o (
 R ai c) (
 ag prog pf #[a0,a1] c λp q=>
 vK (aj .i .mul (af 3) a1) λr=>
 ag prog pf #[a0,r] q λs t=>
 ag prog qJ #[p,s,(af 40)] t λu v=>
 ag prog ms #[u,(af 10)] v λw x=>
 R w x)
theorem IF (H:yf a0 a1 h R):ag prog sW #[a0,a1] h R:=fk f294 (.s .z (.s (.s .z (.s (.s .z .z) .z)) (.s .z (.s .z .z)))) H
def DS (a0 a1:Value)(h:ah)(R:Value→ah→Prop):Prop:=
 aW (Value.cells a0) 351 h λq r=>
 aW #[(.int .u64 0),(.int .u64 0)] 351 r λd s=>
 vK ((aM #[(.int .u64 0),(.int .u64 0)] []).map .agg) λt=>
 aW #[(.int .u64 0),(.int .u64 0)] 351 s λb u=>
 stK 2 b t u λbc v=>
 vK ((aM #[(.int .u64 0),(.int .u64 0)] []).map .agg) λw=>
 aW #[(.int .u64 0),(.int .u64 0)] 351 v λc x=>
 stK 2 c w x λbd f=>
 vK (aj .i .eql a1 (.int .u64 0)) λy=>
 aF y (
 vK (aP 2 f b) λz=>
 stK 2 d z f λbe k=>
 vK (aP 2 k d) λaa=>
 R (.tuple #[aa,(.int .u64 0)]) k) (
 bA [(af 127)] f λe bf a l=>
 vK (aj .i .geq (ix e 0) ai) λab=>
 aF ab (
 bK a λS=>
 qK S (λa=>aP 2 a c) λac=>
 qK S (λa=>aP 2 a q) λad=>
 ag prog iN #[ad,(ix e 0)] a λae m=>
 S m∧(ag prog fu #[ac,ae] m λak al=>
 stK 2 c ak al λbg n=>
 vK (aP 2 n b) λam=>
 ag prog fu #[am,(.int .u64 0)] n λan ao=>
 stK 2 b an ao λbh o=>
 vK (aP 2 o c) λap=>
 vK ((aM #[(.int .u64 0),(.int .u64 0)] [(0,1,(.int .u64 0)),(1,1,a1)]).map .agg) λaq=>
 ag prog ka #[ap,aq] o λar g=>
 vK (unV .not ar) λau=>
 aF au (
 vK (aP 2 g c) λav=>
 vK ((aM #[(.int .u64 0),(.int .u64 0)] [(0,1,(.int .u64 0)),(1,1,a1)]).map .agg) λaw=>
 ag prog qW #[av,aw] g λax ay=>
 stK 2 c ax ay λbi p=>
 vK (aB 1 b) λaz=>
 vK (ldV p az) λa2=>
 vK (aj .i .add a2 (.int .u64 1)) λa3=>
 vK (aB 1 b) λa4=>
 stK 1 a4 a3 p λbj a5=>
 vK (aj .i .sub (ix e 0) aH) λa6=>
 l [a6] a5) (
 vK (aj .i .sub (ix e 0) aH) λa7=>
 l [a7] g))) (
 bK a λS=>
 qK S (λa=>aP 2 a b) λa8=>
 vK (aB 1 c) λa9=>
 qK S (λa=>ldV a a9) λba=>
 stK 2 d a8 a λbk j=>
 S j∧(vK (aP 2 j d) λbb=>
 R (.tuple #[bb,ba]) j)))
theorem OA (H:DS a0 a1 h R):ag prog uE #[a0,a1] h R:=fk f295 (.s .z (.s .z (.s .z (.s (.s .z (.s (.s .z .z) .z)) (.s (.s .z (.l 274877890816 [8] (.s (.s .z (.s .z .z)) (.s (.s (.d (.op 0 .r (.op 1 .r (.op 2 .r (.op 3 .e (.op 4 .n (.op 5 .n .nil))))))) (.s .z (.s .z (.s (.s .z .z) .z)))) .z)))) (.s (.d (.op 0 .r (.op 1 .r (.op 2 .r (.op 3 .e (.op 4 .r .nil)))))) .z)))))) H
def DR (a0 a1:Value)(h:ah)(R:Value→ah→Prop):Prop:=
 aW (Value.cells a0) 351 h λe l=>
 aW (Value.cells a1) 351 l λf m=>
 aW #[(.int .u64 0),(.int .u64 0)] 351 m λd c=>
 vK (aB 0 e) λn=>
 vK (ldV c n) λo=>
 vK (aB 0 f) λp=>
 vK (ldV c p) λq=>
 vK (aj .i .add o q) λr=>
 vK (aB 1 e) λs=>
 vK (ldV c s) λt=>
 vK (aB 1 f) λu=>
 vK (ldV c u) λv=>
 vK (aj .i .add t v) λw=>
 vK ((aM #[(.int .u64 0),(.int .u64 0)] [(0,1,r),(1,1,w)]).map .agg) λx=>
 aW #[(.int .u64 0),(.int .u64 0)] 351 c λa y=>
 stK 2 a x y λao b=>
 vK (aB 1 a) λz=>
 vK (ldV b z) λaa=>
 vK (aB 1 e) λab=>
 vK (ldV b ab) λac=>
 vK (aj .i .lss aa ac) λad=>
 aF ad (
 vK (aB 0 a) λae=>
 vK (ldV b ae) λaf=>
 vK (aj .i .add af (.int .u64 1)) λag=>
 vK (aB 0 a) λai=>
 stK 1 ai ag b λap g=>
 vK (aP 2 g a) λak=>
 stK 2 d ak g λaq j=>
 vK (aP 2 j d) λal=>
 R al j) (
 vK (aP 2 b a) λam=>
 stK 2 d am b λar k=>
 vK (aP 2 k d) λan=>
 R an k)
theorem Oz (H:DR a0 a1 h R):ag prog iM #[a0,a1] h R:=fk f296 (.s .z (.s .z (.s (.s .z (.s .z .z)) (.s .z .z)))) H
def DU (a0 a1:Value)(h:ah)(R:Value→ah→Prop):Prop:=
 aW (Value.cells a0) 351 h λb a=>
 aF a1 (
 vK (aB 0 b) λe=>
 vK (ldV a e) λf=>
 vK (aj .i .gtr f (.int .u64 0)) λc=>
 vK (gV c false (aB 1 b)) λg=>
 vK (gV c false (ldV a g)) λj=>
 vK (gV c false (aj .i .gtr j (.int .u64 9223372036854775807))) λk=>
 vK (aE c (.bool true) k) λl=>
 aF l (
 R (af (-9223372036854775808)) a) (
 vK (aB 1 b) λm=>
 vK (ldV a m) λn=>
 vK (gh .i64 n) λo=>
 vK (unV .neg o) λp=>
 R p a)) (
 vK (aB 0 b) λq=>
 vK (ldV a q) λr=>
 vK (aj .i .gtr r (.int .u64 0)) λd=>
 vK (gV d false (aB 1 b)) λs=>
 vK (gV d false (ldV a s)) λt=>
 vK (gV d false (aj .i .gtr t (.int .u64 9223372036854775807))) λu=>
 vK (aE d (.bool true) u) λv=>
 aF v (
 R (af 9223372036854775807) a) (
 vK (aB 1 b) λw=>
 vK (ldV a w) λx=>
 vK (gh .i64 x) λy=>
 R y a))
theorem OC (H:DU a0 a1 h R):ag prog dN #[a0,a1] h R:=fk f297 (.s .z (.s (.s .z (.s (.s (.s .z (.s (.s .z .z) .z)) (.s .z .z)) .z)) (.s (.s .z (.s (.s .z .z) .z)) (.s .z .z)))) H
def AV (a0 a1:Value)(h:ah)(R:Value→ah→Prop):Prop:=
 aW (Value.cells a0) 351 h λb e=>
 aW #[(.int .u64 0),(.int .u64 0)] 351 e λc a=>
 vK (aB 0 b) λf=>
 vK (ldV a f) λg=>
 vK (aj .i .shl g (.int .u64 1)) λj=>
 vK (aB 1 b) λk=>
 vK (ldV a k) λl=>
 vK (aj .i .shr l (.int .u64 63)) λm=>
 vK (aj .i .add j m) λn=>
 vK (aB 1 b) λo=>
 vK (ldV a o) λp=>
 vK (aj .i .shl p (.int .u64 1)) λq=>
 vK (aj .i .add q a1) λr=>
 vK ((aM #[(.int .u64 0),(.int .u64 0)] [(0,1,n),(1,1,r)]).map .agg) λs=>
 stK 2 c s a λu d=>
 vK (aP 2 d c) λt=>
 R t d
theorem L5 (H:AV a0 a1 h R):ag prog fu #[a0,a1] h R:=fk f298 (.s .z (.s .z .z)) H
def FZ (a0 a1:Value)(h:ah)(R:Value→ah→Prop):Prop:=
 aW (Value.cells a0) 351 h λb a=>
 vK (aj .i .geq a1 (af 64)) λc=>
 aF c (
 vK (aB 0 b) λd=>
 vK (ldV a d) λe=>
 vK (aj .i .sub a1 (af 64)) λf=>
 vK (aj .i .shr e f) λg=>
 vK (aj .i .and g (.int .u64 1)) λj=>
 R j a) (
 vK (aB 1 b) λk=>
 vK (ldV a k) λl=>
 vK (aj .i .shr l a1) λm=>
 vK (aj .i .and m (.int .u64 1)) λn=>
 R n a)
theorem QR (H:FZ a0 a1 h R):ag prog iN #[a0,a1] h R:=fk f299 (.s .z (.s (.s .z (.s (.s .z .z) .z)) (.s .z .z))) H
def AY (a0 a1:Value)(h:ah)(R:Value→ah→Prop):Prop:=
 aW (Value.cells a0) 351 h λe l=>
 aW (Value.cells a1) 351 l λf m=>
 aW #[(.int .u64 0),(.int .u64 0)] 351 m λd b=>
 vK (aB 0 e) λn=>
 vK (ldV b n) λo=>
 vK (aB 0 f) λp=>
 vK (ldV b p) λq=>
 vK (aj .i .sub o q) λr=>
 vK (aB 1 e) λs=>
 vK (ldV b s) λt=>
 vK (aB 1 f) λu=>
 vK (ldV b u) λv=>
 vK (aj .i .sub t v) λw=>
 vK ((aM #[(.int .u64 0),(.int .u64 0)] [(0,1,r),(1,1,w)]).map .agg) λx=>
 aW #[(.int .u64 0),(.int .u64 0)] 351 b λc y=>
 stK 2 c x y λao a=>
 vK (aB 1 e) λz=>
 vK (ldV a z) λaa=>
 vK (aB 1 f) λab=>
 vK (ldV a ab) λac=>
 vK (aj .i .lss aa ac) λad=>
 aF ad (
 vK (aB 0 c) λae=>
 vK (ldV a ae) λaf=>
 vK (aj .i .sub af (.int .u64 1)) λag=>
 vK (aB 0 c) λai=>
 stK 1 ai ag a λap g=>
 vK (aP 2 g c) λak=>
 stK 2 d ak g λaq j=>
 vK (aP 2 j d) λal=>
 R al j) (
 vK (aP 2 a c) λam=>
 stK 2 d am a λar k=>
 vK (aP 2 k d) λan=>
 R an k)
theorem L8 (H:AY a0 a1 h R):ag prog qW #[a0,a1] h R:=fk f300 (.s .z (.s .z (.s (.s .z (.s .z .z)) (.s .z .z)))) H
def DT (a0 a1:Value)(h:ah)(R:Value→ah→Prop):Prop:=
 aW (Value.cells a0) 351 h λb d=>
 aW (Value.cells a1) 351 d λc a=>
 vK (aB 0 b) λe=>
 vK (ldV a e) λf=>
 vK (aB 0 c) λg=>
 vK (ldV a g) λj=>
 vK (aj .i .neq f j) λk=>
 aF k (
 vK (aB 0 b) λl=>
 vK (ldV a l) λm=>
 vK (aB 0 c) λn=>
 vK (ldV a n) λo=>
 vK (aj .i .lss m o) λp=>
 R p a) (
 vK (aB 1 b) λq=>
 vK (ldV a q) λr=>
 vK (aB 1 c) λs=>
 vK (ldV a s) λt=>
 vK (aj .i .lss r t) λu=>
 R u a)
theorem OB (H:DT a0 a1 h R):ag prog ka #[a0,a1] h R:=fk f301 (.s .z (.s (.s .z (.s (.s .z .z) .z)) (.s .z .z))) H
def Dz (a0 a1 a2:Value)(h:ah)(R:Value→ah→Prop):Prop:=
 vK (aj .i .geq a2 (af 64)) λa=>
 aF a (
 vK (aj .i .sub a2 (af 64)) λb=>
 vK (aj .i .shr a0 b) λc=>
 R (.tuple #[(.int .u64 0),c]) h) (
 vK (aj .i .shr a0 a2) λd=>
 vK (aj .i .shr a1 a2) λe=>
 vK (aj .i .sub (af 64) a2) λf=>
 vK (aj .i .shl a0 f) λg=>
 vK (aj .i .or e g) λj=>
 R (.tuple #[d,j]) h)
theorem Oc (H:Dz a0 a1 a2 h R):ag prog uw #[a0,a1,a2] h R:=fk f302 (.s .z (.s (.s .z (.s (.s .z .z) .z)) (.s .z .z))) H
def DA (a0 a1 a2:Value)(h:ah)(R:Value→ah→Prop):Prop:=
 vK (aj .i .geq a2 (af 64)) λb=>
 aF b (
 vK (aj .i .eql a1 (.int .u64 0)) λa=>
 vK (gV a true (some a0)) λc=>
 vK (gV a true (some a2)) λd=>
 vK (gV a true (aj .i .sub (af 128) d)) λe=>
 vK (gV a true (aj .i .shl c e)) λf=>
 vK (gV a true (aj .i .eql f (.int .u64 0))) λg=>
 vK (aE a g (.bool false)) λj=>
 R j h) (
 vK (aj .i .sub (af 64) a2) λk=>
 vK (aj .i .shl a1 k) λl=>
 vK (aj .i .eql l (.int .u64 0)) λm=>
 R m h)
theorem Od (H:DA a0 a1 a2 h R):ag prog zH #[a0,a1,a2] h R:=fk f303 (.s .z (.s (.s .z (.s (.s .z .z) .z)) (.s .z .z))) H
def kE (a0 a1 a2 a3 a4:Value)(h:ah)(R:Value→ah→Prop):Prop:=
 vK (aj .i .sub a2 a1) λd=>
 vK (aj .i .sub a3 a2) λe=>
 bA [d,e] h λa t b c=>
 vK (aj .i .neq (ix a 0) (ix a 1)) λf=>
 aF f (
 vK (aj .i .gtr (ix a 0) (ix a 1)) λg=>
 aF g (
 vK (aj .i .sub a2 (ix a 0)) λj=>
 ag prog de #[a0,j,a2,(ix a 1),a4] b λu k=>
 vK (aj .i .sub (ix a 0) (ix a 1)) λl=>
 c [l,(ix a 1)] k) (
 vK (aj .i .sub a2 (ix a 0)) λm=>
 vK (aj .i .add a2 (ix a 1)) λn=>
 vK (aj .i .sub n (ix a 0)) λo=>
 ag prog de #[a0,m,o,(ix a 0),a4] b λv p=>
 vK (aj .i .sub (ix a 1) (ix a 0)) λq=>
 c [(ix a 0),q] p)) (
 vK (aj .i .sub a2 (ix a 0)) λr=>
 ag prog de #[a0,r,a2,(ix a 0),a4] b λw s=>
 R (.tuple #[]) s)
theorem tP (H:kE a0 a1 a2 a3 a4 h R):ag prog ic #[a0,a1,a2,a3,a4] h R:=fk f304 (.s .z (.s .z (.s (.l 1125899906583552 [10,11] (.s (.s .z (.s .z .z)) (.s .z (.s (.s .z .z) (.s .z .z))))) .z))) H
def FX (a0 a1:Value)(h:ah)(R:Value→ah→Prop):Prop:=
 vK (aj .i .lss a1 aH) λb=>
 vK (gV b false (some a1)) λc=>
 vK (gV b false (aj .i .gtr c (af 1048576))) λd=>
 vK (aE b (.bool true) d) λe=>
 aF e (
 R (.bool false) h) (
 vK (aj .i .mul (af 4) a1) λf=>
 vK (aj .i .leq a0 f) λa=>
 vK (gV a true (some a0)) λg=>
 vK (gV a true (some a1)) λj=>
 vK (gV a true (aj .i .mul (af (-4)) j)) λk=>
 vK (gV a true (aj .i .geq g k)) λl=>
 vK (aE a l (.bool false)) λm=>
 R m h)
theorem QP (H:FX a0 a1 h R):ag prog Ct #[a0,a1] h R:=fk f307 (.s .z (.s (.s .z (.s (.s .z .z) .z)) (.s .z .z))) H
def wC (a0 a1 a2:Value)(h:ah)(R:Value→ah→Prop):Prop:=
 fo (λp=>
 vK (aj .i .lss a2 ai) λt=>
 aF t (
 p [ai] h) (
 p [a2] h))
 λe bx q=>
 vK (aj .i .gtr (ix e 0) (af 127)) λu=>
 aF u (
 R ai q) (
 vK (aj .i .lss a0 ai) λv=>
 vK (aj .i .lss a1 ai) λw=>
 vK (aj .b .neq v w) λj=>
 ag prog gi #[a0] q λx y=>
 ag prog gi #[a1] y λz aa=>
 ag prog qV #[x,z] aa λab ac=>
 aW #[(.int .u64 0),(.int .u64 0)] 351 ac λf ad=>
 stK 2 f ab ad λbz m=>
 vK (aj .i .eql (ix e 0) ai) λae=>
 aF ae (
 vK (aP 2 m f) λak=>
 ag prog dN #[ak,j] m λal am=>
 R al am) (
 vK ((aM #[(.int .u64 0),(.int .u64 0)] []).map .agg) λan=>
 aW #[(.int .u64 0),(.int .u64 0)] 351 m λc ao=>
 stK 2 c an ao λb0 ap=>
 bA [(af 127)] ap λn b1 d aq=>
 vK (aj .i .geq (ix n 0) (ix e 0)) λar=>
 aF ar (
 bK d λS=>
 qK S (λd=>aP 2 d c) λau=>
 qK S (λd=>aP 2 d f) λav=>
 ag prog iN #[av,(ix n 0)] d λaw r=>
 S r∧(ag prog fu #[au,aw] r λax ay=>
 stK 2 c ax ay λb2 az=>
 vK (aj .i .sub (ix n 0) aH) λa3=>
 aq [a3] az)) (
 vK (aj .i .sub (ix e 0) aH) λa4=>
 bA [(.bool false),ai] d λa b3 g a5=>
 vK (aj .i .lss (ix a 1) a4) λa6=>
 aF a6 (
 vK (gV (ix a 0) false (aP 2 g f)) λa7=>
 vK (gV (ix a 0) false (some (ix a 1))) λa8=>
 gK (ix a 0) false (λa9=>ag prog iN #[a7,a8] g a9) g λba bb=>
 vK (gV (ix a 0) false (aj .i .eql ba (.int .u64 1))) λbc=>
 vK (aE (ix a 0) (.bool true) bc) λbd=>
 vK (aj .i .add (ix a 1) aH) λbe=>
 a5 [bd,be] bb) (
 vK (aP 2 g f) λbf=>
 vK (aj .i .sub (ix e 0) aH) λbg=>
 ag prog iN #[bf,bg] g λbh k=>
 vK (aj .i .eql bh (.int .u64 1)) λl=>
 vK (gV l true (some (ix a 0))) λbi=>
 vK (gV l true (some bi)) λo=>
 vK (gV o false (some j)) λbj=>
 vK (gV o false (unV .not bj)) λbk=>
 vK (gV l true (aE o (.bool true) bk)) λbl=>
 vK (aE l bl (.bool false)) λbm=>
 aF bm (
 vK (aP 2 k c) λbn=>
 vK ((aM #[(.int .u64 0),(.int .u64 0)] [(1,1,(.int .u64 1))]).map .agg) λbo=>
 ag prog iM #[bn,bo] k λbp bq=>
 stK 2 c bp bq λb4 s=>
 vK (aP 2 s c) λbr=>
 ag prog dN #[br,j] s λbs bt=>
 R bs bt) (
 vK (aP 2 k c) λbu=>
 ag prog dN #[bu,j] k λbv bw=>
 R bv bw)))))
theorem GB (H:wC a0 a1 a2 h R):ag prog qJ #[a0,a1,a2] h R:=fk f308 (.s .z (.j 24580 [2] (.s .z (.s .z .z)) (.s (.s .z (.s (.s .z .z) .z)) (.s .z (.s .z (.s (.s .z (.s (.s .z .z) .z)) (.s .z (.s (.s .z (.l 8787503088640 [10] (.s (.s .z (.s .z .z)) (.s (.d (.op 0 .r (.op 1 .r (.op 2 .r (.op 3 .e (.op 4 .n (.op 5 .n .nil))))))) .z)))) (.s .z (.s (.s .z (.l 72022409665845248 [11,45] (.s .z (.s (.s .z .z) (.s (.s .z .z) .z))))) (.s (.s .z (.s .z .z)) (.s .z .z)))))))))))) H
def Am (a0 a1:Value)(h:ah)(R:Value→ah→Prop):Prop:=
 fo (λc=>
 vK (aj .i .lss a0 ai) λj=>
 aF j (
 vK (unV .neg a0) λk=>
 c [k] h) (
 c [a0] h))
 λd ad l=>
 ag prog dn #[(af 10851744800547),(ix d 0),a1] l λm n=>
 ag prog dn #[m,(ix d 0),a1] n λo p=>
 bA [(af 1099511627776),ai,(af 1099511627776),aH] p λa ae e f=>
 vK (aj .i .leq (ix a 3) (af 30)) λq=>
 aF q (
 vK (aj .i .mul (af 2) (ix a 3)) λr=>
 vK (aj .i .mul (af 2) (ix a 3)) λs=>
 vK (aj .i .add s aH) λt=>
 vK (aj .i .mul r t) λu=>
 vK (aj .i .mul u (af 1099511627776)) λv=>
 ag prog dn #[(ix a 2),o,v] e λb g=>
 vK (aj .i .rem (ix a 3) (af 2)) λw=>
 vK (aj .i .eql w aH) λx=>
 aF x (
 vK (aj .i .add (ix a 1) b) λy=>
 vK (aj .i .add (ix a 3) aH) λz=>
 f [(ix a 0),y,b,z] g) (
 vK (aj .i .add (ix a 0) b) λaa=>
 vK (aj .i .add (ix a 3) aH) λab=>
 f [aa,(ix a 1),b,ab] g)) (
 vK (aj .i .sub (ix a 0) (ix a 1)) λac=>
 R ac e)
theorem Kk (H:Am a0 a1 h R):ag prog pf #[a0,a1] h R:=fk f309 (.s .z (.j 61441 [0] (.s .z (.s .z .z)) (.s .z (.s .z (.s .z (.s .z (.s .z (.s (.s .z (.l 140737479970688 [7,8,9,10] (.s (.s .z (.s .z .z)) (.s (.s .z (.s .z (.s .z (.s .z .z)))) .z)))) (.s .z .z))))))))) H
def jm (a0 a1 a2 a3 a4:Value)(h:ah)(R:Value→ah→Prop):Prop:=
 bA [ai] h λb t a c=>
 vK (aj .i .lss (ix b 0) a3) λd=>
 aF d (
 bK a λS=>
 vK (aj .i .add a1 (ix b 0)) λe=>
 vK (aj .i .add a2 (ix b 0)) λf=>
 vK (aj .i .add a2 (ix b 0)) λg=>
 vK (bh 1 a0 g) λj=>
 qK S (λa=>ldV a j) λk=>
 vK (aj .i .add a1 (ix b 0)) λl=>
 vK (bh 1 a0 l) λm=>
 qK S (λa=>ldV a m) λn=>
 vK (bh 1 a0 e) λo=>
 stK 1 o k a λu p=>
 vK (bh 1 a0 f) λq=>
 stK 1 q n p λv r=>
 vK (aj .i .add (ix b 0) aH) λs=>
 c [s] r) (
 R (.tuple #[]) a)
theorem qg (H:jm a0 a1 a2 a3 a4 h R):ag prog de #[a0,a1,a2,a3,a4] h R:=fk f310 (.s .z (.l 274877905920 [10] (.s (.s .z (.s .z .z)) (.s (.d (.op 0 .r (.op 1 .r (.op 2 .r (.op 3 .r (.op 4 .r (.op 5 .r (.op 6 .r (.op 7 .r (.op 8 .r (.op 9 .r (.op 10 .r (.op 11 .r (.op 12 .r (.op 13 .r (.op 14 .r (.op 15 .r (.op 16 .r (.op 17 .r (.op 18 .r (.op 19 .r (.op 20 .r (.op 21 .n (.op 22 .r (.op 23 .n .nil))))))))))))))))))))))))) .z)))) H
end
def jY:Nat→ByteArray
 |0=>⟨#[99,108,97,109,112]⟩
 |1=>⟨#[109,105,114,114,111,114]⟩
 |2=>⟨#[119,114,97,112]⟩
 |_=>⟨#[]⟩
def Vc:Nat→ByteArray
 |0=>⟨#[98,111,120]⟩
 |1=>⟨#[99,117,98,105,99]⟩
 |2=>⟨#[108,97,110,99,122,111,115]⟩
 |_=>⟨#[]⟩
def TJ:Nat→Int
 |0=>0
 |1=>2
 |_=>3
def TabH (h:ah)(name:String)(k:IntKind)(zs:List Int):Prop:=∃g t f,prog.globalNamed name=some g∧h[g]? =some (.cells (zs.map λz=>Value.int k z).toArray t f)
theorem TabH.is {h:ah}{name:String}{k:IntKind}{zs:List Int}(H:TabH h name k zs)(w:World)(D:w.heap=h):Lib.TabIs prog w name k zs:=by
 obtain⟨g,t,f,h1,A⟩:=H;subst D;unfold Lib.TabIs World.var?;rw[h1,Option.bind_some,A]
structure eF (h:ah):Prop where
 names:∃v,aG h ⟨oL,0,none⟩=some v∧SlC 1 h v 3 [.string (jY 0),.string (jY 1),.string (jY 2)]
 kinds:∀i,i<3→aG h ⟨fK,2*i,none⟩=some (.string (Vc i))∧aG h ⟨fK,2*i+1,none⟩=some (.int .i64 (TJ i))
theorem eF.ext {h h':ah}(H:eF h)(e:Ext h h'):eF h':=by
 obtain⟨⟨v,h1,D⟩,A⟩:=H;exact⟨⟨v,e.cell h1,D.ext e⟩,λi hi=>⟨e.cell (A i hi).1,e.cell (A i hi).2⟩⟩
end Go.Proofs.YtjljhnandbbldaaGreatDoor
namespace Go.Crisp
open Go Go.ChangeShapes Go.WideShapes Go.ChangeAt Go.RowKit
def Cl (P:Program)(L:List (String×DataW Unit))(h:ah):Prop:=∀w:World,w.heap=h→laidMetH P L w
theorem row_laid {H:Type}{enc:TypeId×Value→H}{C:Checked}{os:Os}{f:FuncId}{fn:Func}{s:ChangeSpec}{U:List PathCond}{rt:TypeId}{ts:List TS}{L:List (String×DataW Unit)}
  (ax:rO C.prog f=true) (own:ownKnob C.prog.godebug=none) (started:os.Started) (ab:C.prog.inits.idxOf? f=none) (a7:C.prog.funcs[f]? =some fn)
  (ar:laidOutB C.prog=true) (D:s.vars=[]) (hp:GL C.prog ts fn.params.toList=true) (ad:fn.params.toList.all (λt=>C.prog.readableRec t&&decide (t<C.prog.types.size))=true)
  (au:fn.resultTypes=#[rt]) (a8:C.prog.underlying rt=some .bool)
  (F:∀ds:List (DataW H),ds.length=ts.length→s.fn H ds={results:=[.lit (.bool true)],args:=ds})
  (I:∃(w:World) (A:Tape) (i:Input),w.os=os∧(w.forCall A i).Shaped C.prog∧i.vars=[]∧Input.okWide C.prog (w.forCall A i) .any w.heap.size f i∧
   ((s.pre enc C.prog fn U false (w.forCall A i).memory i.args∧laidMetH C.prog L (w.forCall A i).memory)∧sizedMet enc C.prog fn (OpenSpec.ofChange s) false (w.forCall A i).memory i.args)∧Assume.holds {} C.prog (lone (Frame.enter C.prog f i.args .normal) [] (w.forCall A i)))
  (G:∀(h:ah) (args:Array Value),Cl C.prog L h→vW ts h args.toList→ag C.prog f args h λr h'=>r=.bool true∧Ext h h'):
  ReturnsInHanded {} C os f .any (λw args=>(s.pre enc C.prog fn U false w args∧laidMetH C.prog L w)∧sizedMet enc C.prog fn (OpenSpec.ofChange s) false w args) (s.post enc C.prog fn false true false false):=by
 refine returnsInHanded_of_change_and (X:=λw _=>laidMetH C.prog L w) (λ_ _ _ hh h=>h.of_heap hh) own started ab a7 I ?_;intro W bd args ds gs before an hW _ aw hL _;have bc:=hW;obtain⟨p,q,hA,hV,rfl,_,_⟩:=hW;rw[D]at hV;obtain⟨rfl,rfl⟩:=trodVars_none hV;have a9:s.plain.varTypes C.prog=[]:=by simp[DataSpec.varTypes,ChangeSpec.plain,D]
 rw[a9,gM,gM]at aw;have hw:Ay (DataW.weightsEach C.prog fn.params.toList ds):=λn hn=>by
  have:=C4.1 aw n hn;exact CY this
 have ay:vW ts W.heap args.toList:=Xe hp (λj t v ht hv=>an j t v (by simpa using ht) (by simpa using hv)) hA hw;have aa:ds.length=ts.length:=by
  have l1:∀{ids:List TypeId} {vs:List Value} {ds:List (DataW H)} {ps:List MemPlace},DataW.TrodAll enc C.prog W 0 (λ_=>true) true ids vs ds ps→ds.length=ids.length:=by
   intro ids;induction ids with
   |nil=>intro vs ds ps h;obtain⟨rfl,rfl,rfl⟩:=trodAll_nil h;rfl
   |cons t ids ih=>intro vs ds ps h;obtain⟨v,bg,d,be,p,q,rfl,rfl,rfl,h1,h2⟩:=trodAll_cons h;simp[ih h2]
  have l2:∀(ts:List TS) (ids:List TypeId),GL C.prog ts ids=true→ids.length=ts.length:=by
   intro ts;induction ts with
   |nil=>intro ids h;cases ids<;>simp_all [GL]
   |cons t ts ih=>intro ids h;cases ids<;>simp[GL]at h;simp[ih _ h.2]
  rw[l1 hA,l2 _ _ hp]
 refine((G W.heap args (λw hw=>hL.of_heap hw.symm) ay).calls ax W rfl).mono λe W' ⟨v,he,hs,hv,hx⟩=>?_
 subst he hv;have al:Below W.heap.size W W':=⟨hs.1,hs.2.1,hs.2.2,hx.1,λk hk=>hx.2 k hk⟩
 refine⟨_,rfl,ds,[],_,[],p,[],bc,?_,?_,?_,al.frame _,λh=>by cases h⟩
 ·rw[gM,F ds aa,au];exact trodAll_mk1 (shut_bool a8 _)
 ·rw[gM,F ds aa];exact PQ ar al ad hA
 ·rw[gM,F ds aa,D];rfl
theorem JI {P:Program}{w:World}:∀{L:List (String×DataW Unit)} {D:List MemPlace},DataW.LaidVars P w L D→∀{n:String} {d:DataW Unit},(n,d)∈L→
  ∃g t cs fuel p,P.globalNamed n=some g∧(P.globals[g]?).map (·.type)=some t∧w.var? P n=some cs∧DataW.trod (λ_=>()) P w 0 (λ_=>true) false fuel t cs.toList=some (d,p)
 | [],_,_,n,d,hm=>absurd hm (by simp)
 |(n',d')::r,_,h,n,d,hm=>by
  obtain⟨g,t,cs,fuel,p,q,h1,A,G,F,H,_⟩:=h;rcases kw.1 hm with e|e
  ·cases e;exact⟨g,t,cs,fuel,p,h1,A,G,F⟩
  ·exact JI H e
theorem Cl.at {P:Program}{L:List (String×DataW Unit)}{h:ah}(H:Cl P L h)(D:(L.all λx=>x.2.handleName?.isNone)=true){n:String}{d:DataW Unit}(A:(n,d)∈L)(w:World)(F:w.heap=h):
  ∃g t cs fuel p,P.globalNamed n=some g∧(P.globals[g]?).map (·.type)=some t∧w.var? P n=some cs∧DataW.trod (λ_=>()) P w 0 (λ_=>true) false fuel t cs.toList=some (d,p):=by
 have:=H w F;rw[MakeChecks.laidMetH_plain _ _ _ D]at this;obtain⟨I,G,_⟩:=this;exact JI G A
def zb0 (P:Program)(n:String)(g:Nat)(k:Program→TypeId→Bool):Bool:=
 decide (P.globalNamed n=some g)&&(match(P.globals[g]?).map (·.type)with|some t=>k P t|none=>false)
def WC (k:IntKind)(P:Program)(t:TypeId):Bool:=match P.underlying t with|some (.int k')=>decide (k=k')&&P.cellsOf t==1|_=>false
def MV (P:Program)(t:TypeId):Bool:=match P.underlying t with|some .string=>P.cellsOf t==1|_=>false
def R0 (e:Program→TypeId→Bool)(P:Program)(t:TypeId):Bool:=match P.underlying t with|some (.slice u)=>e P u|_=>false
def Zc (n:Nat)(e:Program→TypeId→Bool)(P:Program)(t:TypeId):Bool:=match P.underlying t with|some (.array n' u)=>n==n'&&P.cellsOf t==n*P.cellsOf u&&e P u|_=>false
def U8 (a b:Program→TypeId→Bool)(P:Program)(t:TypeId):Bool:=match P.underlying t with|some (.struct ⟨[x,y]⟩)=>x.offset==0&&y.offset==1&&a P x.type&&b P y.type&&P.cellsOf t==2|_=>false
theorem Cl.kind {P:Program}{L:List (String×DataW Unit)}{h:ah}(H:Cl P L h)(hn:(L.all λx=>x.2.handleName?.isNone)=true){n:String}{d:DataW Unit}(U:(n,d)∈L)(w:World)(G:w.heap=h)
  {g:Nat} {k:Program→TypeId→Bool} (A:zb0 P n g k=true):
  ∃t cs fuel p,P.globalNamed n=some g∧k P t=true∧w.var? P n=some cs∧(∀i,aG h ⟨g,i,none⟩=cs[i]?)∧DataW.trod (λ_=>()) P w 0 (λ_=>true) false fuel t cs.toList=some (d,p):=by
 obtain⟨W,t,cs,fuel,p,h1,I,F,h4⟩:=H.at hn U w G;unfold zb0 at A;rw[dj,dI]at A;obtain⟨k1,D⟩:=A;obtain rfl:W=g:=sN (h1.symm.trans k1);rw[I]at D;refine⟨t,cs,fuel,p,h1,D,F,λi=>?_,h4⟩;subst G;exact World.var?_cell h1 F i
theorem Xl {k:IntKind}{P:Program}{w:World}{fuel:Nat}{t:TypeId}{cs:List Value}{z:Int}{p:List MemPlace}(A:WC k P t=true)(h:DataW.trod (λ_=>()) P w 0 (λ_=>true) false fuel t cs=some (.lit (.int k z),p)):cs=[.int k z]∧P.cellsOf t=1:=by
 unfold WC at A;split at A
 ·rename_i k' hu;rw[dj,dI]at A;obtain⟨rfl,hc⟩:=A;obtain⟨n,rfl,D,_⟩:=DataW.trod_int hu h;cases D;exact⟨rfl,by simpa using hc⟩
 ·cases A
theorem Pb {P:Program}{w:World}{fuel:Nat}{t:TypeId}{cs:List Value}{z:List UInt8}{p:List MemPlace}(A:MV P t=true)(h:DataW.trod (λ_=>()) P w 0 (λ_=>true) false fuel t cs=some (.lit (.string z),p)):cs=[.string ⟨⟨z⟩⟩]∧P.cellsOf t=1:=by
 unfold MV at A;split at A
 ·rename_i hu;obtain⟨s,rfl,D,_⟩:=DataW.trod_string hu h;cases D;exact⟨rfl,by simpa using A⟩
 ·cases A
theorem El {cs:List Value}{i:Nat}{v:Value}(h:(cs.drop i).take 1=[v]):cs[i]? =some v:=by
 have:=congrArg (λl=>l[0]?) h;simpa using this
theorem Xk {P:Program}{w:World}{h:ah}(hw:w.heap=h){fuel:Nat}{t:TypeId}{cs:List Value}{zs:List (List UInt8)}{p:List MemPlace}(hz:zs≠[])(F:R0 MV P t=true)
  (H:DataW.trod (λ_=>()) P w 0 (λ_=>true) false fuel t cs=some (.slice (zs.map λz=>.lit (.string z)) [],p)):
  ∃b o cap,cs=[.slice (some ⟨b,o,none⟩) zs.length cap]∧∀i (hi:i<zs.length),aG h ⟨b,o+i,none⟩=some (.string ⟨⟨zs[i]⟩⟩):=by
 unfold R0 at F;split at F
 ·rename_i u hu;have c1:P.cellsOf u=1:=by
   unfold MV at F;split at F
   ·simpa using F
   ·cases F
  rcases DataW.trod_slice hu H with⟨_,he⟩|⟨a,len,cap,A,rest,m,rfl,rfl,he,_,_,_,ad,I,_⟩
  ·cases he
  ·have G:A.map (·.1)=zs.map λz=>DataW.lit (.string z):=by
    have:=congrArg (λx=>x.1) he;simp only[DataW.slice.injEq]at this;exact this.1.symm
   have hl:A.length=zs.length:=by simpa using congrArg List.length G
   have W:len=zs.length:=ae;subst W;have ha:∃b o,a=⟨b,o,none⟩:=by
    have h0:0<zs.length:=w6.2 hz;have:=I 0 h0;rw[iY ae]at this;cases hc:w.cells? 0 (a.add (0*P.cellsOf u)) (P.cellsOf u)with
    |none=>rw[hc]at this;cases this
    | some l=>
     obtain⟨b,o,s⟩:=a;cases s with
     |none=>exact⟨b,o,rfl⟩
     |some x=>
      exfalso;obtain⟨h3,D⟩:=Fo hc;rw[c1]at h3;have D:=D 0 ae;unfold aG at D;split at D
      ·rw[aA (by unfold Addr.add;split<;>simp_all)]at D;cases D
      ·cases D
   obtain⟨b,o,rfl⟩:=ha;refine⟨b,o,cap,rfl,λi hi=>?_⟩;have h1:=I i hi;have L:A[i]? =some (A[i]'ae):=iY ae;rw[L,c1,lT]at h1;have D:(A[i]'ae).1=.lit (.string zs[i]):=by
    have:=congrArg (λl=>l[i]?) G;simpa[hi,hl]using this
   obtain⟨x,y,U⟩:∃x y,A[i]'ae=(x,y):=⟨_,_,rfl⟩
   rw[U]at h1 D;simp only at D;rw[D,RK]at h1;obtain⟨l,aa,ab⟩:=h1;have h3:=(Pb F ab).1;subst h3;have h4:=(Fo aa).2 0 (by simp);rw[If,If,hw]at h4;simpa using h4
 ·cases F
theorem Uv {k:IntKind}{P:Program}{w:World}{fuel:Nat}{t:TypeId}{cs:List Value}{zs:List (List UInt8×Int)}{p:List MemPlace}(L:Zc zs.length (U8 MV (WC k)) P t=true)
  (h:DataW.trod (λ_=>()) P w 0 (λ_=>true) false fuel t cs=some (.agg (zs.map λz=>.agg [.lit (.string z.1),.lit (.int k z.2)]),p)):
  ∀i (hi:i<zs.length),cs[2*i]? =some (.string ⟨⟨zs[i].1⟩⟩)∧cs[2*i+1]? =some (.int k zs[i].2):=by
 unfold Zc at L;split at L
 ·rename_i n u hu;rw[dj,dj]at L;obtain⟨⟨hn,hc⟩,hi⟩:=L;obtain⟨H,m,rfl,he,hl,hx,ab⟩:=DataW.trod_array hu h;have hn:zs.length=n:=by simpa using hn
  subst hn;unfold U8 at hi;split at hi
  ·rename_i f1 f2 hs;simp only[dj,CZ]at hi;obtain⟨⟨⟨⟨o1,o2⟩,t1⟩,t2⟩,c2⟩:=hi;have aa:H.map (·.1)=zs.map λz=>DataW.agg [.lit (.string z.1),.lit (.int k z.2)]:=by
    have:=congrArg (λx=>x.1) he;simpa using this.symm
   intro i I;have h1:=ab i I;have W:H[i]? =some (H[i]'ae):=iY ae;rw[W,c2]at h1;have U:(H[i]'ae).1=.agg [.lit (.string zs[i].1),.lit (.int k zs[i].2)]:=by
    have:=congrArg (λl=>l[i]?) aa;simpa[I,hx]using this
   obtain⟨a,b,al⟩:∃a b,H[i]'ae=(a,b):=⟨_,_,rfl⟩
   rw[al]at h1 U;simp only at U;rw[U]at h1;obtain⟨ys,m',rfl,A,an,hy,D⟩:=DataW.trod_struct hs h1;have ad:ys.length=2:=hy
   match ys,ad,A,D with
   | [y1,y2],_,A,D=>
    have A:=congrArg (λx=>x.1) A;simp only[ul,List.map_nil,DataW.agg.injEq,List.cons.injEq,and_true]at A;have a1:=D 0 f1 rfl;have a2:=D 1 f2 rfl;rw[o1]at a1;rw[o2]at a2;obtain⟨a,b⟩:=y1;obtain⟨a',b'⟩:=y2;simp only at A;obtain⟨rfl,rfl⟩:=A;have G:=Pb t1 a1;have F:=Xl t2 a2;rw[G.2]at G;rw[F.2]at F;have G:=El G.1;have F:=El F.1;rw[Wl ae,List.getElem?_drop]at G F;refine⟨?_,?_⟩
    ·rw[eO];simpa using G
    ·rw[eO];simpa using F
  ·cases hi
 ·cases L
end Go.Crisp
namespace Go.Proofs.YtjljhnandbbldaaGreatDoor
open Go Go.Crisp
open _root_.Go.Proofs.Tryz
theorem Zi {L:List (String×DataW Unit)}{h:ah}(H:Cl prog L h)(hn:(L.all λx=>x.2.handleName?.isNone)=true)
  (m1:("smalto/border.names",Rows.laid_smalto_border_names)∈L) (m2:("smalto/raw.kinds",Rows.laid_smalto_raw_kinds)∈L):eF h:=by
 let w:World:=⟨h,λ_ _=>0,0,default,#[]⟩
 refine⟨?_,?_⟩
 ·obtain⟨t,cs,fuel,p,_,hk,_,hc,ht⟩:=H.kind hn m1 w rfl (g:=oL) (k:=R0 MV) (by kernel_rfl);obtain⟨b,o,cap,he,hx⟩:=Xk (h:=h) rfl (zs:=[[99,108,97,109,112],[109,105,114,114,111,114],[119,114,97,112]]) (by simp) hk ht;have h0:=hc 0;obtain⟨l⟩:=cs;rw[show l=_ from he]at h0;refine⟨_,h0,by simp,some ⟨b,o,none⟩,cap,rfl,.inr ⟨b,o,rfl,λj hj=>?_⟩⟩;have:=hx j hj;rw[this]
  match j,hj with
  |0,_=>rfl
  |1,_=>rfl
  |2,_=>rfl
 ·obtain⟨t,cs,fuel,p,_,hk,_,hc,ht⟩:=H.kind hn m2 w rfl (g:=fK) (k:=Zc 3 (U8 MV (WC .i64))) (by kernel_rfl);have:=Uv (zs:=[([98,111,120],0),([99,117,98,105,99],2),([108,97,110,99,122,111,115],3)]) hk ht;intro i hi;have h1:=this i hi;rw[hc,hc];rw[uj,uj]at h1;rw[h1.1,h1.2]
  match i,hi with
  |0,_=>exact⟨rfl,rfl⟩
  |1,_=>exact⟨rfl,rfl⟩
  |2,_=>exact⟨rfl,rfl⟩
end Go.Proofs.YtjljhnandbbldaaGreatDoor
namespace Go.Crisp
open Go
theorem kc (n:Int):I64 (IntKind.i64.wrap n):=by rw[iU];unfold I64;omega
theorem uJ (a b:Int):IntKind.i64.wrap (IntKind.i64.wrap a+b)=IntKind.i64.wrap (a+b):=by rw[iU,iU,iU];omega
theorem p8 (a b:Int):IntKind.i64.wrap (a+IntKind.i64.wrap b)=IntKind.i64.wrap (a+b):=by rw[iU,iU,iU];omega
theorem yI (a b:Int):IntKind.i64.wrap (IntKind.i64.wrap a-b)=IntKind.i64.wrap (a-b):=by rw[iU,iU,iU];omega
theorem Ep (a b:Int):IntKind.i64.wrap (a-IntKind.i64.wrap b)=IntKind.i64.wrap (a-b):=by rw[iU,iU,iU];omega
def nK (x n:Int):Int:=if n≤0 then x else if 64≤n then 0 else x/2^n.toNat+x/2^(n.toNat-1)%2
theorem za3 {x:Int}{k:Nat}(D:I64 x): -9223372036854775808≤x/2^k∧x/2^k≤9223372036854775807:=by
 obtain⟨G,F⟩:=D;have A:(0:Int)<2^k:=Ha ae;constructor
 ·rw[uf A];have: -9223372036854775808*(2:Int)^k≤ -9223372036854775808*1:=RJ ae ae;omega
 ·apply G9;rw[wY A];have:(9223372036854775807+1)*1≤(9223372036854775807+1)*(2:Int)^k:=sI ae ae;omega
theorem Et {x n:Int}(A:I64 x):I64 (nK x n):=by
 unfold nK;split
 ·exact A
 split
 ·unfold I64;omega
 ·have G:(2:Int)^n.toNat=2^(n.toNat-1)*2:=by
   obtain⟨j,F⟩:∃j,n.toNat=j+1:=⟨n.toNat-1,ae⟩
   rw[F,zj,Int.pow_succ]
  have H:(0:Int)<2^(n.toNat-1):=Ha ae;have D:x/2^n.toNat=x/2^(n.toNat-1)/2:=by rw[G,Int.ediv_ediv,az ae,Int.sub_zero]
  have:=za3 (k:=n.toNat-1) A;unfold I64;rw[D];omega
def fH (r:Int):Nat→Int×Int
 |0=>(1099511627776,1099511627776)
 | i+1=>(IntKind.i64.wrap (if i%2=0 then(fH r i).1-cS (fH r i).2 r (((i:Int)+1)*1099511627776)else(fH r i).1+cS (fH r i).2 r (((i:Int)+1)*1099511627776)),
   cS (fH r i).2 r (((i:Int)+1)*1099511627776))
def XU (t:Int):Int:=nK (fH (max 0 t%762123384786) 16).1 (max 0 t/762123384786)
def Ez (d sigma:Int):Int:=if sigma<1∨4194304<sigma∨d< -16384∨16384<d then 9223372036854775807 else cS (d*d*2147483648) 1099511627776 (sigma*sigma)
def BW (d sigma:Int):Int:=nK (XU (Ez d sigma)) 10
theorem gm (a b d:Int):I64 (cS a b d):=by
 unfold cS;split
 ·unfold I64;omega
 ·exact PG _ _
theorem BZ (r:Int):∀i,I64 (fH r i).1∧I64 (fH r i).2
 |0=>⟨by unfold I64 fH;omega,by unfold I64 fH;omega⟩
 |i+1=>by simp only[fH];exact⟨kc _,gm _ _ _⟩
theorem Na (t:Int):I64 (XU t):=Et (BZ _ _).1
theorem LO (d s:Int):I64 (Ez d s):=by
 unfold Ez;split
 ·unfold I64;omega
 ·exact gm _ _ _
theorem Vb (d s:Int):I64 (BW d s):=Et (Na _)
theorem Pd {d B:Int}(h1: -B≤d)(A:d≤B):0≤d*d∧d*d≤B*B:=by
 refine⟨by rcases CR 0 d with h|h;exact ku h h;exact Int.mul_nonneg_of_nonpos_of_nonpos h h,?_⟩;rcases CR 0 d with h|h
 ·exact ks A A h ae
 ·have: -d* -d≤B*B:=ks ae ae ae ae
  rwa [Int.neg_mul_neg]at this
def Kv (p q:Int):Prop:=1≤q∧q≤1048576∧ -4*q≤p∧p≤4*q
instance (p q:Int):Decidable (Kv p q):=by unfold Kv;infer_instance
def cA (u:Int):Nat→Int×Int
 |0=>(1099511627776,1099511627776)
 | i+1=>(IntKind.i64.wrap (if i%2=0 then(cA u i).1-cS (cA u i).2 u (2*((i:Int)+1)*(2*((i:Int)+1)+1)*1099511627776)else(cA u i).1+cS (cA u i).2 u (2*((i:Int)+1)*(2*((i:Int)+1)+1)*1099511627776)),
   cS (cA u i).2 u (2*((i:Int)+1)*(2*((i:Int)+1)+1)*1099511627776))
def yR (p q:Int):Int:=(cA (cS (cS 10851744800547 (max p (-p)) q) (max p (-p)) q) 30).1
theorem yQ (r:Int):∀i,I64 (cA r i).1∧I64 (cA r i).2
 |0=>⟨by unfold I64 cA;omega,by unfold I64 cA;omega⟩
 |i+1=>by simp only[cA];exact⟨kc _,gm _ _ _⟩
theorem wN (p q:Int):I64 (yR p q):=(yQ _ _).1
def Ln (m n:Nat)(below:Bool):Nat:=if n=0 then m else m/2^n+(if m/2^(n-1)%2=1∧¬(below=true∧m%2^(n-1)=0)then 1 else 0)
def qk (a b n:Int):Int:=if 128≤n then 0 else jN (Ln (a.natAbs*b.natAbs) n.toNat (kJ a b)) (kJ a b)
theorem xv (a b n:Int):I64 (qk a b n):=by
 unfold qk;split
 ·unfold I64;omega
 ·exact PG _ _
def vD (p q:Int):Int:=if¬Kv p q∨3*q≤max p (-p)then 0 else nK (qk (yR p q) (yR p (3*q)) 40) 10
theorem RZ (p q:Int):I64 (vD p q):=by
 unfold vD;split
 ·unfold I64;omega
 ·exact Et (xv _ _ _)
def gD (b w:Bool)(v:Value):Value:=bif b==w then v else undef
theorem gD_tt (v:Value):gD true true v=v:=cP rfl rfl
theorem gD_ff (v:Value):gD false false v=v:=cP rfl rfl
theorem gD_tf (v:Value):gD true false v=undef:=cP rfl rfl
theorem gD_ft (v:Value):gD false true v=undef:=cP rfl rfl
theorem gD_gD (b w:Bool)(v:Value):gD b w (gD b w v)=gD b w v:=by cases b<;>cases w<;>rfl
theorem gV_gD (b w:Bool)(v:Value):gV (.bool b) w (some v)=some (gD b w v):=by cases b<;>cases w<;>rfl
theorem gV_un (b w:Bool)(o:UnOp)(v:Value):gV (.bool b) w (unV o (gD b w v))=gV (.bool b) w (unV o v):=by cases b<;>cases w<;>rfl
theorem zbd (b w:Bool)(e:EK)(o:BinOp)(v u:Value):gV (.bool b) w (aj e o (gD b w v) u)=gV (.bool b) w (aj e o v u):=by cases b<;>cases w<;>rfl
theorem zbc (b w:Bool)(e:EK)(o:BinOp)(v u:Value):gV (.bool b) w (aj e o u (gD b w v))=gV (.bool b) w (aj e o u v):=by cases b<;>cases w<;>rfl
theorem zcB (b w:Bool)(k:IntKind)(v:Value):gV (.bool b) w (gh k (gD b w v))=gV (.bool b) w (gh k v):=by cases b<;>cases w<;>rfl
theorem zcz (b w:Bool)(n:Nat)(v:Value):gV (.bool b) w (aB n (gD b w v))=gV (.bool b) w (aB n v):=by cases b<;>cases w<;>rfl
theorem gV_ld (b w:Bool)(h:ah)(v:Value):gV (.bool b) w (ldV h (gD b w v))=gV (.bool b) w (ldV h v):=by cases b<;>cases w<;>rfl
theorem zcy (b w:Bool)(n:Nat)(h:ah)(v:Value):gV (.bool b) w (aP n h (gD b w v))=gV (.bool b) w (aP n h v):=by cases b<;>cases w<;>rfl
theorem zbb (b w:Bool)(n:Nat)(v u:Value):gV (.bool b) w (bh n (gD b w v) u)=gV (.bool b) w (bh n v u):=by cases b<;>cases w<;>rfl
theorem zba (b w:Bool)(n:Nat)(v u:Value):gV (.bool b) w (bh n u (gD b w v))=gV (.bool b) w (bh n u v):=by cases b<;>cases w<;>rfl
theorem Zs (b w:Bool)(v:Value):gV (.bool b) w (aD (gD b w v))=gV (.bool b) w (aD v):=by cases b<;>cases w<;>rfl
theorem Zq (b w:Bool)(v:Value):gV (.bool b) w (IQ (gD b w v))=gV (.bool b) w (IQ v):=by cases b<;>cases w<;>rfl
theorem zcA (b w:Bool)(n:Nat)(v:Value):gV (.bool b) w (aL (gD b w v) n)=gV (.bool b) w (aL v n):=by cases b<;>cases w<;>rfl
theorem zcx (b w:Bool)(v:Value):gV (.bool b) w (aS (gD b w v))=gV (.bool b) w (aS v):=by cases b<;>cases w<;>rfl
theorem za9 (b w:Bool)(v u:Value):gV (.bool b) w (ju (gD b w v) u)=gV (.bool b) w (ju v u):=by cases b<;>cases w<;>rfl
theorem za8 (b w:Bool)(v u:Value):gV (.bool b) w (ju u (gD b w v))=gV (.bool b) w (ju u v):=by cases b<;>cases w<;>rfl
theorem za7 (b w:Bool)(v u:Value):gV (.bool b) w (rR (gD b w v) u)=gV (.bool b) w (rR v u):=by cases b<;>cases w<;>rfl
theorem za6 (b w:Bool)(v u:Value):gV (.bool b) w (rR u (gD b w v))=gV (.bool b) w (rR u v):=by cases b<;>cases w<;>rfl
theorem za5 (b w a:Bool)(n o:Nat)(v:Value):gV (.bool b) w (pV a n o (gD b w v))=gV (.bool b) w (pV a n o v):=by cases b<;>cases w<;>rfl
theorem Zn (b w:Bool)(v u x:Value):gV (.bool b) w (aE (gD b w v) u x)=gV (.bool b) w (aE v u x):=by cases b<;>cases w<;>rfl
theorem Zk (b w:Bool)(v u x:Value):gV (.bool b) w (aE v (gD b w u) x)=gV (.bool b) w (aE v u x):=by cases b<;>cases w<;>rfl
theorem Zj (b w:Bool)(v u x:Value):gV (.bool b) w (aE v u (gD b w x))=gV (.bool b) w (aE v u x):=by cases b<;>cases w<;>rfl
theorem YU (b c:Bool):aE (.bool b) (gD b true (.bool c)) (.bool false)=some (.bool (b&&c)):=by cases b<;>rfl
theorem zaR (b c:Bool):aE (.bool b) (.bool true) (gD b false (.bool c))=some (.bool (b||c)):=by cases b<;>rfl
theorem Zt (b w c A:Bool)(r:Option Value):gV (gD b w (.bool c)) A r=gV (.bool ((b==w)&&(c==A))) true r:=by cases b<;>cases w<;>cases c<;>cases A<;>rfl
theorem Zu (b w c A:Bool)(m:(Value→ah→Prop)→Prop)(h:ah)(K:Value→ah→Prop):gK (gD b w (.bool c)) A m h K=gK (.bool ((b==w)&&(c==A))) true m h K:=by cases b<;>cases w<;>cases c<;>cases A<;>rfl
theorem TE (b c d:Bool):gV (.bool b) true (aE (.bool c) (gD (b&&c) true (.bool d)) (.bool false))=some (gD b true (.bool (c&&d))):=by cases b<;>cases c<;>rfl
theorem TF (b c d:Bool):gV (.bool b) false (aE (.bool c) (gD (!b&&c) true (.bool d)) (.bool false))=some (gD b false (.bool (c&&d))):=by cases b<;>cases c<;>rfl
theorem WK (b c d:Bool):gV (.bool b) true (aE (.bool c) (.bool true) (gD (b&& !c) true (.bool d)))=some (gD b true (.bool (c||d))):=by cases b<;>cases c<;>rfl
theorem WL (b c d:Bool):gV (.bool b) false (aE (.bool c) (.bool true) (gD (!b&& !c) true (.bool d)))=some (gD b false (.bool (c||d))):=by cases b<;>cases c<;>rfl
theorem XQ (p q:Prop)[Decidable p][Decidable q](d:Bool):gV (.bool (decide p)) true (aE (.bool (decide q)) (gD (decide (p∧q)) true (.bool d)) (.bool false))=some (gD (decide p) true (.bool (decide q&&d))):=by rw[G8];exact TE _ _ _
theorem XR (p q:Prop)[Decidable p][Decidable q](d:Bool):gV (.bool (decide p)) false (aE (.bool (decide q)) (gD (decide (¬p∧q)) true (.bool d)) (.bool false))=some (gD (decide p) false (.bool (decide q&&d))):=by rw[G8,G7];exact TF _ _ _
theorem Zo (p q:Prop)[Decidable p][Decidable q](d:Bool):gV (.bool (decide p)) true (aE (.bool (decide q)) (.bool true) (gD (decide (p∧¬q)) true (.bool d)))=some (gD (decide p) true (.bool (decide q||d))):=by rw[G8,G7];exact WK _ _ _
theorem Zp (p q:Prop)[Decidable p][Decidable q](d:Bool):gV (.bool (decide p)) false (aE (.bool (decide q)) (.bool true) (gD (decide (¬p∧¬q)) true (.bool d)))=some (gD (decide p) false (.bool (decide q||d))):=by rw[G8,G7,G7];exact WL _ _ _
theorem beq_t (b:Bool):(b==true)=b:=by cases b<;>rfl
theorem beq_f (b:Bool):(b==false)= !b:=by cases b<;>rfl
theorem zbk (p q:Prop)[Decidable p][Decidable q]:(decide p&&decide q)=decide (p∧q):=(G8 p q).symm
theorem zcL (p q:Prop)[Decidable p][Decidable q]:(decide p||decide q)=decide (p∨q):=(Bool.decide_or p q).symm
theorem WT (p:Prop)[Decidable p]:(!decide p)=decide (¬p):=G7.symm
theorem zcK (p:Prop)[Decidable p]:decide (True∧p)=decide p:=by by_cases h:p<;>simp[h]
theorem zcN (p:Prop)[Decidable p]:decide (p∧True)=decide p:=by by_cases h:p<;>simp[h]
theorem zcM (p:Prop)[Decidable p]:decide (False∧p)=false:=by simp
theorem zcO (p:Prop)[Decidable p]:decide (p∧False)=false:=by simp
theorem gK_f {b:Bool}{m:(Value→ah→Prop)→Prop}{h:ah}{K:Value→ah→Prop}(h1:b=false→m K)(A:b=true→K undef h):gK (.bool b) false m h K:=by
 cases b
 ·exact h1 rfl
 ·exact A rfl
theorem lF {init:List Value}{h:ah}{body:List Value→Env→ah→(List Value→ah→Prop)→Prop}(st:Nat→List Value)(N A:Nat)(hi:init=st A)(h0:A≤N)
  (step:∀i again ρj,A≤i→i≤N→(i<N→again (st (i+1)) h)→body (st i) ρj h again):bA init h body:=by
 refine dx (λd D h'=>∃i,d=N-i∧A≤i∧i≤N∧D=st i∧h'=h) (N-A) ⟨A,rfl,cq _,h0,hi,rfl⟩ ?_;rintro d D ρj h' again ⟨i,rfl,h1,F,rfl,rfl⟩ H;exact step i again ρj h1 F λG=>H _ _ (N-(i+1)) ae ⟨i+1,rfl,ae,G,rfl,rfl⟩
theorem bI {α:Type}{init:List Value}{h:ah}{body:List Value→Env→ah→(List Value→ah→Prop)→Prop}(N A:Nat)(st:Nat→α→List Value)(I:Nat→α→ah→Prop)(a0:α)(hi:init=st A a0)(h0:A≤N)(L:I A a0 h)
  (step:∀i a h again ρj,A≤i→i≤N→I i a h→(∀D h',i<N→I (i+1) D h'→again (st (i+1) D) h')→body (st i a) ρj h again):bA init h body:=by
 refine dx (λd G h'=>∃i a,d=N-i∧A≤i∧i≤N∧G=st i a∧I i a h') (N-A) ⟨A,a0,rfl,cq _,h0,hi,L⟩ ?_;rintro d G ρj h' again ⟨i,a,rfl,h1,U,rfl,hi⟩ H;exact step i a h' again ρj h1 U hi λD h' W F=>H _ _ (N-(i+1)) ae ⟨i+1,D,rfl,ae,W,rfl,F⟩
attribute [go_sem] gD_gD gD_tt gD_ff gD_tf gD_ft gV_gD gV_un zbd zbc zcB zcz gV_ld zcy zbb zba Zs Zq zcA zcx za9 za8 za7 za6 za5 Zn Zk Zj true_or or_true false_or or_false zcK zcN zcM zcO YU zaR Zt Zu TE TF WK WL XQ XR Zo Zp beq_t beq_f zbk zcL WT
attribute [irreducible] gD
end Go.Crisp
namespace Go.Proofs.YtjljhnandbbldaaGreatDoor
open Go Go.Crisp
attribute [local irreducible] ag di aW stK aF vK qK bK gK fo bA mkK dk Fm GM CJ bsK
open _root_.Go.Proofs.Tryz
theorem nB {h:ah}{x:Int}(A:I64 x):ag prog iT #[af x] h λr h'=>r=.int .u64 (x.natAbs:Int)∧h'=h:=by
 apply OL;unfold D5;simp only[go_sem];refine ao (λh0=>?_) (λh0=>?_)
 ·rw[SG A h0];exact⟨rfl,trivial⟩
 ·rw[SF A h0];exact⟨rfl,trivial⟩
theorem sf {h:ah}{m:Nat}{b:Bool}(A:m<18446744073709551616):ag prog lL #[.int .u64 (m:Int),.bool b] h λr h'=>r=af (jN m b)∧h'=h:=by
 apply OM;unfold D6;unfold jN;cases b
 ·simp only[go_sem,gB,cE];refine ao (λh0=>?_) (λh0=>?_)
  ·rw[aA ae];exact⟨rfl,trivial⟩
  ·rw[az ae,w64 ae ae];exact⟨rfl,trivial⟩
 ·simp only[go_sem,cJ];refine ao (λh0=>?_) (λh0=>?_)
  ·rw[aA ae];exact⟨rfl,trivial⟩
  ·rw[az ae,w64 (n:=(m:Int)) ae ae,w64 ae ae];exact⟨by congr 1;omega,trivial⟩
theorem KA {a b:Nat}(D:0<b)(A:a<18446744073709551616):aj .i .quo (.int .u64 (a:Int)) (.int .u64 (b:Int))=some (.int .u64 ((a/b:Nat):Int)):=by
 have e:(a:Int).tdiv (b:Int)=((a/b:Nat):Int):=(Int.ofNat_tdiv a b).symm;rw[mo _ _ _ _ ae,e,gd (sK (jy _ _) A)]
theorem VV {a b:Nat}(A:0<b):aj .i .rem (.int .u64 (a:Int)) (.int .u64 (b:Int))=some (.int .u64 ((a%b:Nat):Int)):=by
 have e:(a:Int).tmod (b:Int)=((a%b:Nat):Int):=(Int.ofNat_tmod a b).symm;rw[dP _ _ _ _ ae,e]
theorem js {x:Int}(h:I64 x):x.natAbs<18446744073709551616:=by unfold I64 at h;omega
theorem qi {x:Int}(h:I64 x):x.natAbs≤9223372036854775808:=by unfold I64 at h;omega
theorem K9 {h:ah}{a b:Int}(F:I64 a)(G:I64 b):ag prog kp #[af a,af b] h λr h'=>r=af (IV a b)∧h'=h:=by
 apply Ms;unfold Bm;simp only[go_sem];unfold IV;refine ao (λh0=>?_) (λh0=>?_)
 ·rw[aA h0];exact⟨rfl,trivial⟩
 rw[az h0];refine aQ (λh'=>h'=h) rfl ?_;refine(nB F).mono λv1 h1 ⟨e1,w1⟩=>?_
 subst e1 w1
 try refine⟨rfl,?_⟩
 refine(nB G).mono λv2 h2 ⟨e2,w2⟩=>?_
 subst e2 w2
 try refine⟨rfl,?_⟩
 have D:0<b.natAbs:=ae;have L:=qi F;rw[KA D (js F),ak];refine(nB F).mono λv3 h3 ⟨U,W⟩=>?_
 subst U W
 try refine⟨rfl,?_⟩
 refine(nB G).mono λv4 h4 ⟨I,w4⟩=>?_
 subst I w4
 try refine⟨rfl,?_⟩
 rw[VV D,ak];simp only[go_sem];have hq:a.natAbs/b.natAbs≤a.natAbs:=jy _ _;by_cases hd:kJ a b=true
 ·have A:(!(decide (a<0)==decide (b<0)))=true:=hd;rw[A];simp only[go_sem];by_cases H:a.natAbs%b.natAbs=0
  ·have q:(((a.natAbs%b.natAbs:Nat):Int)=0)=True:=jx ae;simp only[go_sem,q];rw[hd];unfold Fk;rw[az (by simp[H])];exact sf ae
  ·have q:(((a.natAbs%b.natAbs:Nat):Int)=0)=False:=fN ae;simp only[go_sem,q];rw[hd,show((a.natAbs/b.natAbs:Nat):Int)+1=((a.natAbs/b.natAbs+1:Nat):Int)from rfl,gd (m:=a.natAbs/b.natAbs+1) ae];unfold Fk;rw[aA ⟨rfl,H⟩];exact sf (m:=a.natAbs/b.natAbs+1) ae
 ·have hd:kJ a b=false:=by simpa using hd
  have A:(!(decide (a<0)==decide (b<0)))=false:=hd;rw[A];simp only[go_sem];rw[hd];unfold Fk;rw[az (by simp)];exact sf ae
theorem zbV (a:Int):aj .i .and (af a) aH=some (af (a%2)):=by
 have e:(BitVec.ofInt 64 a&&& BitVec.ofInt 64 1).toNat=(a%2).toNat:=by
  rw[BitVec.toNat_and,RI,RI];have h1:(1%((2^64:Nat):Int)).toNat=1:=by decide
  rw[h1,Hk];omega
 show some (af (IntKind.i64.wrap (((BitVec.ofInt 64 a&&& BitVec.ofInt 64 1).toNat:Nat):Int)))=_;rw[e,w64 ae ae]
 congr 2;omega
theorem VR (x:Int)(n:Nat)(A:n≤64):aj .i .shr (af x) (af (n:Int))=some (af (x/2^n)):=by
 show(if(n:Int)<0 then none else some (af (x.fdiv (2^(min (n:Int).toNat 64)))))=_;rw[az ae,eo,ug A,RH _ (Int.le_of_lt (Ha ae))]
theorem K8 {h:ah}{x n:Int}(D:I64 x)(G:I64 n):ag prog ko #[af x,af n] h λr h'=>r=af (nK x n)∧h'=h:=by
 apply Mr;unfold Bk;simp only[go_sem];unfold nK;refine ao (λh0=>?_) (λh0=>?_)
 ·rw[aA h0];exact⟨rfl,trivial⟩
 rw[az h0];refine ao (λh1=>?_) (λh1=>?_)
 ·rw[aA h1];exact⟨rfl,trivial⟩
 rw[az h1];obtain⟨k,rfl⟩:∃k:Nat,n=(k:Int):=⟨n.toNat,ae⟩
 rw[w64 (n:=(k:Int)-1) ae ae,show(k:Int)-1=((k-1:Nat):Int)by omega,VR x k ae,ak,VR x (k-1) ae,ak,zbV,ak];simp only[go_sem,eo];refine⟨?_,trivial⟩
 congr 1
 have F:(2:Int)^k=2*2^(k-1):=by
  obtain⟨j,rfl⟩:∃j,k=j+1:=⟨k-1,ae⟩
  rw[zj,Int.pow_succ,fU]
 have A:(0:Int)<2^(k-1):=Ha ae;have H:x/2^k=x/2^(k-1)/2:=by rw[F,fU,Int.ediv_ediv,az ae,Int.sub_zero]
 obtain⟨U,I⟩:=D;have L: -9223372036854775808≤x/2^(k-1)∧x/2^(k-1)≤9223372036854775807:=by
  constructor
  ·rw[uf A];have: -9223372036854775808*(2:Int)^(k-1)≤ -9223372036854775808*1:=RJ ae ae;omega
  ·apply G9;rw[wY A];have:(9223372036854775807+1)*1≤(9223372036854775807+1)*(2:Int)^(k-1):=sI ae ae;omega
 rw[w64 ae ae]
end Go.Proofs.YtjljhnandbbldaaGreatDoor
namespace Go.Proofs.YtjljhnandbbldaaGreatDoor
open Go Go.Crisp
open _root_.Go.Proofs.Tryz
def N0:Go.Shelf.Ren:=⟨λn=>match n with|264=>287|n=>n,λn=>match n with|46=>260|53=>303|n=>n,λn=>n⟩
theorem XK:Go.Proofs.Lays.n264 prog N0 where
 mixed:=by kernel_rfl
 f264:=by kernel_rfl
 t46:=by kernel_rfl
 a46:=λw=>co (by kernel_rfl)
 z46:=λw=>bD (by kernel_rfl)
 v46:=λw=>bi (by kernel_rfl)
 t53:=by kernel_rfl
 a53:=λw=>co (by kernel_rfl)
 z53:=λw=>bD (by kernel_rfl)
 v53:=λw=>bi (by kernel_rfl)
def N8:Go.Shelf.Ren:=⟨λn=>match n with|129=>199|n=>n,λn=>match n with|3=>3|4=>4|5=>5|9=>9|46=>260|53=>303|n=>n,λn=>n⟩
theorem XL:Go.Proofs.Lays.n129 prog N8 where
 mixed:=by kernel_rfl
 f129:=by kernel_rfl
 t3:=by kernel_rfl
 a3:=λw=>co (by kernel_rfl)
 z3:=λw=>bD (by kernel_rfl)
 v3:=λw=>bi (by kernel_rfl)
 t4:=by kernel_rfl
 a4:=λw=>co (by kernel_rfl)
 z4:=λw=>bD (by kernel_rfl)
 v4:=λw=>bi (by kernel_rfl)
 t5:=by kernel_rfl
 a5:=λw=>co (by kernel_rfl)
 z5:=λw=>bD (by kernel_rfl)
 v5:=λw=>bi (by kernel_rfl)
 t9:=by kernel_rfl
 a9:=λw=>co (by kernel_rfl)
 z9:=λw=>bD (by kernel_rfl)
 v9:=λw=>bi (by kernel_rfl)
 t46:=by kernel_rfl
 a46:=λw=>co (by kernel_rfl)
 z46:=λw=>bD (by kernel_rfl)
 v46:=λw=>bi (by kernel_rfl)
 t53:=by kernel_rfl
 a53:=λw=>co (by kernel_rfl)
 z53:=λw=>bD (by kernel_rfl)
 v53:=λw=>bi (by kernel_rfl)
def N9:Go.Shelf.Ren:=⟨λn=>match n with|25=>256|n=>n,λn=>match n with|22=>303|n=>n,λn=>n⟩
theorem XM:Go.Proofs.Lays7.n25 prog N9 where
 mixed:=by kernel_rfl
 f25:=by kernel_rfl
 t22:=by kernel_rfl
 a22:=λw=>co (by kernel_rfl)
 z22:=λw=>bD (by kernel_rfl)
 v22:=λw=>bi (by kernel_rfl)
 i22:=by kernel_rfl
end Go.Proofs.YtjljhnandbbldaaGreatDoor
namespace Go.Proofs.YtjljhnandbbldaaGreatDoor
open Go Go.Crisp
attribute [local irreducible] ag di aW stK aF vK qK bK gK fo bA mkK dk Fm GM CJ bsK
open _root_.Go.Proofs.Tryz
theorem Fp {h:ah}{x:Int}(A:I64 x):ag prog sq #[af x] h λr h'=>r=.int .u64 (x.natAbs:Int)∧h'=h:=by
 apply QA;unfold FJ;simp only[go_sem];refine ao (λh0=>?_) (λh0=>?_)
 ·rw[SG A h0];exact⟨rfl,trivial⟩
 ·rw[SF A h0];exact⟨rfl,trivial⟩
section
attribute [local semireducible] ag
theorem Sg {h:ah}{x y:Nat}(A:x<18446744073709551616)(D:y<18446744073709551616):
  ag prog kN #[.int .u64 (x:Int),.int .u64 (y:Int)] h λr h'=>r=.tuple #[.int .u64 ((x*y/18446744073709551616:Nat):Int),.int .u64 ((x*y%18446744073709551616:Nat):Int)]∧h'=h:=by
 refine ag.ofCalls (by kernel_rfl) λw F=>?_
 refine(Any.bits_Mul64 XK x y A D w).mono ?_;rintro e w' ⟨rfl,rfl⟩;exact⟨_,rfl,dF.refl _,rfl,F⟩
end
theorem P4 {h:ah}{a b:Int}(D:I64 a)(A:I64 b):ag prog oP #[af a,af b] h λr h'=>
  r=.tuple #[.int .u64 ((a.natAbs*b.natAbs/18446744073709551616:Nat):Int),.int .u64 ((a.natAbs*b.natAbs%18446744073709551616:Nat):Int),.bool (kJ a b)]∧h'=h:=by
 apply Kd;unfold Af;refine(Fp D).mono λv1 h1 ⟨I,w1⟩=>?_
 subst I w1;refine(Fp A).mono λW U ⟨L,H⟩=>?_
 subst L;refine(Sg (js D) (js A)).mono λv3 h3 ⟨F,G⟩=>?_
 subst F;simp only[go_sem];exact⟨rfl,G.trans H⟩
section
attribute [local semireducible] ag
theorem Xc {h:ah}{x y c:Nat}(hc:c≤1):ag prog gy #[.int .u64 (x:Int),.int .u64 (y:Int),.int .u64 (c:Int)] h λr h'=>
  r=.tuple #[.int .u64 (((x+y+c)%18446744073709551616:Nat):Int),.int .u64 (((x+y+c)/18446744073709551616:Nat):Int)]∧h'=h:=
 ag.ofRun λw A=>⟨_,w,Any7.bits_Add64 XM x y c hc w,dF.refl _,rfl,A⟩
theorem zbN {h:ah}{x:Nat}(D:x<18446744073709551616):ag prog xh #[.int .u64 (x:Int)] h λr h'=>r=af (Lib.bitLen x:Int)∧h'=h:=by
 refine ag.ofCalls (by kernel_rfl) λw A=>?_
 refine(Any.bits_Len64 XL (x:Int) w ae ae).mono ?_;rintro e w' ⟨rfl,rfl⟩;exact⟨_,rfl,dF.refl _,rfl,A⟩
end
theorem Jd {h:ah}{x:Nat}(A:x<18446744073709551616):ag prog ig #[.int .u64 (x:Int)] h λr h'=>r=af (64-(Lib.bitLen x:Int))∧h'=h:=by
 apply tQ;unfold kF;refine(zbN A).mono λv h1 ⟨D,w1⟩=>?_
 subst D;have:=Lib.bitLen_le x 64 (cq _) A;have this:Lib.bitLen x≤64:=this;simp only[go_sem];rw[w64 ae ae];exact⟨rfl,w1⟩
theorem Cc {h:ah}{m:Nat}{b:Bool}(A:m<340282366920938463463374607431768211456):
  ag prog eI #[.int .u64 ((m/18446744073709551616:Nat):Int),.int .u64 ((m%18446744073709551616:Nat):Int),.bool b] h λr h'=>r=af (jN m b)∧h'=h:=by
 apply LU;unfold AN;unfold jN;cases b
 ·simp only[go_sem,gB,cE];refine ao (λh0=>?_) (λh0=>?_)
  ·rw[aA ae];exact⟨rfl,trivial⟩
  ·rw[az ae,w64 ae ae];exact⟨by congr 1;omega,trivial⟩
 ·simp only[go_sem,cJ];refine ao (λh0=>?_) (λh0=>?_)
  ·rw[aA ae];exact⟨rfl,trivial⟩
  ·have e:IntKind.i64.wrap (IntKind.u64.wrap (0-((m%18446744073709551616:Nat):Int)))= -((m%18446744073709551616:Nat):Int):=by
    rw[fg,iU];omega
   rw[e];refine⟨?_,trivial⟩
   congr 1
   split<;>omega
end Go.Proofs.YtjljhnandbbldaaGreatDoor
namespace Go.Crisp
open Go
section
structure NU (u d Y yn1 yn0 q r:Nat):Prop where
 eq:q*yn1+r=u
 up:(u*4294967296+d)/Y≤q
section
variable {u d Y yn1 yn0 q r:Nat}(hY:Y=yn1*4294967296+yn0)(h0:yn0<4294967296)(h1:2147483648≤yn1)(h1':yn1<4294967296)(hu:u<Y)(hd:d<4294967296)
theorem PH (hY:Y=yn1*4294967296+yn0)(g:NU u d Y yn1 yn0 q r):q*Y+r*4294967296=u*4294967296+q*yn0:=by
 have:=g.eq;rw[hY,He,←ue,←this,em];omega
theorem Nh (hu:u<Y)(hd:d<4294967296):(u*4294967296+d)/Y<4294967296:=by
 rw[vB ae];have:(u+1)*4294967296≤Y*4294967296:=iz _ hu;rw[em]at this;rw[eO 4294967296 Y];omega
theorem TD (hY:Y=yn1*4294967296+yn0)(h1:2147483648≤yn1)(hu:u<Y)(hd:d<4294967296):NU u d Y yn1 yn0 (u/yn1) (u-u/yn1*yn1):=by
 have A:u/yn1*yn1≤u:=G6 u yn1;refine⟨ae,?_⟩;rw[KP ae];have hq:(u*4294967296+d)/Y*Y≤u*4294967296+d:=G6 _ _;generalize(u*4294967296+d)/Y=Q at hq;rw[hY,He,←ue]at hq;generalize Q*yn1=a at hq ⊢;omega
theorem Fg (hY:Y=yn1*4294967296+yn0)(h1:2147483648≤yn1)(hu:u<Y)(hd:d<4294967296)(g:NU u d Y yn1 yn0 q r)(h:4294967296≤q∨4294967296*r+d<q*yn0):1≤q∧NU u d Y yn1 yn0 (q-1) (r+yn1):=by
 have A:=Nh hu hd;have F:(u*4294967296+d)/Y<q:=by
  rcases h with h|h
  ·exact bX A h
  ·rw[vB ae];have:=PH hY g
   clear hY A
   generalize q*Y=a at this ⊢;omega
 have D:1≤q:=sK (b9 _) F;refine⟨D,⟨?_,Nat.le_sub_one_of_lt F⟩⟩;have:=g.eq;obtain⟨k,rfl⟩:∃k,q=k+1:=⟨q-1,ae⟩
 rw[em]at this;rw[zj];omega
theorem M4 (hY:Y=yn1*4294967296+yn0)(h1:2147483648≤yn1)(g:NU u d Y yn1 yn0 q r)(h:q*yn0≤4294967296*r+d):q=(u*4294967296+d)/Y:=by
 have:=PH hY g;have A:=g.up;have:q≤(u*4294967296+d)/Y:=by
  rw[KP ae]
  clear hY A
  generalize q*Y=a at this ⊢;omega
 exact Nat.le_antisymm this A
theorem Va (hY:Y=yn1*4294967296+yn0)(h0:yn0<4294967296)(h1:2147483648≤yn1)(hu:u<Y)(g:NU u d Y yn1 yn0 q r)(h:4294967296≤r):q=(u*4294967296+d)/Y:=by
 refine M4 hY h1 g ?_;have e:=g.eq;have hq:q<4294967296:=by
  rcases oE q 4294967296 with A|A
  ·exact A
  ·have:4294967296*yn1≤q*yn1:=iz _ A;omega
 have:q*yn0≤q*4294967296:=Wj _ ae;omega
theorem Ze (h1:2147483648≤yn1)(hY:Y=yn1*4294967296+yn0)(h0:yn0<4294967296)(hu:u<Y):u/yn1<4294967298:=by
 rw[vB ae];omega
end
theorem Vj {M Y d0 q r:Nat}(hY:0<Y)(hq:M/Y=q)(A:M%Y=r):
  (M*4294967296+d0)/Y=q*4294967296+(r*4294967296+d0)/Y∧(M*4294967296+d0)%Y=(r*4294967296+d0)%Y:=by
 have h:=mV M Y;rw[hq,A]at h;have e:M*4294967296+d0=(r*4294967296+d0)+Y*(q*4294967296):=by
  rw[←h,em,ue,ui,CV]
 rw[e];exact⟨by rw[Hd _ _ hY,CV],by rw[KQ]⟩
end
end Go.Crisp
namespace Go.Proofs.YtjljhnandbbldaaGreatDoor
open Go Go.Crisp
attribute [local irreducible] ag di aW stK aF vK qK bK gK fo bA mkK dk Fm GM CJ bsK
open _root_.Go.Proofs.Tryz
theorem mA {a n:Nat}(k':IntKind)(A:n≤64):aj .i .shr (.int .u64 (a:Int)) (.int k' (n:Int))=some (.int .u64 ((a/2^n:Nat):Int)):=by
 show(if(n:Int)<0 then none else some (Value.int .u64 ((a:Int).fdiv (2^(min (n:Int).toNat 64)))))=_;rw[az ae,eo,ug A,RH _ (Int.le_of_lt (Ha ae))];simp
theorem wm {a n:Nat}(k':IntKind)(A:n≤64):aj .i .shl (.int .u64 (a:Int)) (.int k' (n:Int))=some (.int .u64 ((a*2^n%18446744073709551616:Nat):Int)):=by
 show(if(n:Int)<0 then none else some (Value.int .u64 (IntKind.u64.wrap ((a:Int)*(2^(min (n:Int).toNat 64))))))=_;rw[az ae,eo,ug A,fg];simp
theorem mz (a:Nat)(h:a<18446744073709551616):(BitVec.ofInt 64 (a:Int)).toNat=a:=by
 rw[RI];simp only[Nat.reducePow];omega
theorem YY {a b:Nat}(A:a<18446744073709551616)(D:b<18446744073709551616):aj .i .or (.int .u64 (a:Int)) (.int .u64 (b:Int))=some (.int .u64 ((a|||b:Nat):Int)):=by
 show some (Value.int .u64 (IntKind.u64.wrap (((BitVec.ofInt 64 (a:Int)|||BitVec.ofInt 64 (b:Int)).toNat:Nat):Int)))=_;rw[BitVec.toNat_or,mz a A,mz b D,gd];exact Nat.or_lt_two_pow (n:=64) A D
theorem Sk {a b:Nat}(A:a<18446744073709551616)(D:b<18446744073709551616):aj .i .and (.int .u64 (a:Int)) (.int .u64 (b:Int))=some (.int .u64 ((a&&& b:Nat):Int)):=by
 show some (Value.int .u64 (IntKind.u64.wrap (((BitVec.ofInt 64 (a:Int)&&& BitVec.ofInt 64 (b:Int)).toNat:Nat):Int)))=_;rw[BitVec.toNat_and,mz a A,mz b D,gd];exact sK Nat.and_le_left A
theorem NP {a:Nat}(A:a<18446744073709551616):aj .i .and (.int .u64 (a:Int)) (.int .u64 4294967295)=some (.int .u64 ((a%4294967296:Nat):Int)):=by
 rw[show(4294967295:Int)=((4294967295:Nat):Int)from rfl,Sk A ae];have:=Nat.and_two_pow_sub_one_eq_mod a 32;simp only[Nat.reducePow,Nat.reduceSub]at this;rw[this]
theorem Ul {a:Nat}(A:a<18446744073709551616):aj .i .and (.int .u64 (a:Int)) (.int .u64 1)=some (.int .u64 ((a%2:Nat):Int)):=by
 rw[show(1:Int)=((1:Nat):Int)from rfl,Sk A ae,Hk]
theorem S7 {a b s:Nat}(A:b<2^s):a*2^s|||b=a*2^s+b:=by
 rw[eO,Nat.two_pow_add_eq_or_of_lt A]
theorem cvu {n:Nat}(k:IntKind)(h:n<18446744073709551616):gh .u64 (.int k (n:Int))=some (.int .u64 (n:Int)):=by
 rw[B9,gd h]
theorem TA {H a b c u:Nat}(h:H=a*18446744073709551616+u)(hu:u=b*4294967296+c):H=(a*4294967296+b)*4294967296+c:=by
 rw[h,hu,em,ue];simp only[Nat.reduceMul,ui]
theorem MZ {u d Y yn1 yn0:Nat}{h:ah}(hY:Y=yn1*4294967296+yn0)(h0:yn0<4294967296)(h1:2147483648≤yn1)(h1':yn1<4294967296)(hu:u<Y)(hd:d<4294967296)
  {init:List Value} {body:List Value→Env→ah→(List Value→ah→Prop)→Prop} (P:Nat→Nat→List Value) (hi:init=P (u/yn1) (u-u/yn1*yn1))
  (step:∀q r again ρj,q<4294967298→r<4294967296→(∀W D,W=q-1→D=r+yn1→1≤q→(4294967296≤q∨4294967296*r+d<q*yn0)→D<4294967296→again (P W D) h)→
   ((4294967296≤q∨4294967296*r+d<q*yn0)→1≤q→4294967296≤r+yn1→q-1=(u*4294967296+d)/Y)→(¬(4294967296≤q∨4294967296*r+d<q*yn0)→q=(u*4294967296+d)/Y)→((4294967296≤q∨4294967296*r+d<q*yn0)→1≤q)→
   body (P q r) ρj h again):bA init h body:=by
 have F:=Ze h1 hY h0 hu;refine dx (λm xs h'=>h'=h∧∃q r,m=q∧xs=P q r∧NU u d Y yn1 yn0 q r∧q<4294967298∧r<4294967296) (u/yn1) ⟨rfl,u/yn1,u-u/yn1*yn1,rfl,hi,TD hY h1 hu hd,F,?_⟩ ?_
 ·have:=mV u yn1;have h2:=gN u (show yn1>0 by omega);rw[eO]at this;omega
 ·rintro m xs ρj h' again ⟨hh,q,r,G,rfl,g,hq,hr⟩ H;have G:=G.symm;subst hh G;refine step q r again ρj hq hr (λW D I U L hc A=>?_) (λhc L A=>?_) (λhc=>?_) λhc=>(Fg hY h1 hu hd g hc).1
  ·subst I U;refine H _ _ (q-1) ae ⟨rfl,q-1,r+yn1,rfl,rfl,(Fg hY h1 hu hd g hc).2,ae,A⟩
  ·exact Va hY h0 h1 hu (Fg hY h1 hu hd g hc).2 A
  ·exact M4 hY h1 g ae
theorem zbQ {h:ah}{hi lo y:Nat}(bv:hi<y)(ca:lo<18446744073709551616)(hy:y<18446744073709551616):
  ag prog pB #[.int .u64 (hi:Int),.int .u64 (lo:Int),.int .u64 (y:Int)] h λr h'=>
   r=.tuple #[.int .u64 (((hi*18446744073709551616+lo)/y:Nat):Int),.int .u64 (((hi*18446744073709551616+lo)%y:Nat):Int)]∧h'=h:=by
 apply EV;unfold vg;have q1:((y:Int)=0)=False:=fN ae;have q2:((y:Int)≤(hi:Int))=False:=fN ae;simp only[go_sem,q1,q2];refine bB (λxs h'=>h'=h) rfl λxs ρj h' e=>?_
 subst e;refine bB (λxs b7=>b7=h') rfl λxs ρj b7 e=>?_
 subst e;refine ao (λh0=>?_) (λh0=>?_)
 ·have h0:hi=0:=ae;subst h0;rw[KA ae ca,ak,VV ae,ak];exact⟨by simp,rfl⟩
 refine(Jd hy).mono λv1 h1 ⟨e1,w1⟩=>?_
 subst e1 w1;obtain⟨b0,b1,b2⟩:=Lib.bitLenAux_bounds 64 y hy ae;have b3:=Lib.bitLen_le y 64 (cq _) hy;have ea:Lib.bitLen y=Lib.bitLenAux 64 y:=rfl;rw[←ea]at b0 b1 b2;generalize hL:Lib.bitLen y=L at b0 b1 b2 b3;obtain⟨s,hs⟩:∃s,s=64-L:=⟨_,rfl⟩
 rw[show(64:Int)-(L:Int)=(s:Int)by omega,cvu _ ae,ak,wm _ ae,ak];have hp:(0:Nat)<2^s:=wW ae;have ci:2^L*2^s=18446744073709551616:=by
  rw[←vz,show L+s=64 by omega]
 have cp:2^(L-1)*2^s=9223372036854775808:=by
  rw[←vz,show L-1+s=63 by omega]
 have bo:y*2^s<18446744073709551616:=by rw[←ci];exact RG b2 hp
 have es:9223372036854775808≤y*2^s:=by rw[←cp];exact iz _ b1
 have bd:hi*2^s<18446744073709551616:=Nat.lt_trans (RG bv hp) bo;rw[vA bo];have al:lo/2^(64-s)<2^s:=by
  rw[vB (wW ae),←vz,show s+(64-s)=64 by omega];exact ca
 have dq:(32:Int)=((32:Nat):Int):=rfl;rw[dq,mA _ ae,ak,NP bo,ak,wm _ ae,ak,vA bd,gZ,ak,
  wu64 (n:=64-(s:Int)) ae ae,show(64:Int)-(s:Int)=((64-s:Nat):Int)by omega,mA _ ae,ak,
  YY bd (bX al (by rw[←ci];exact Nat.le_mul_of_pos_left _ (wW ae))),ak,S7 al,wm _ ae,ak]
 -- what is divided, shifted
 have et:(hi*18446744073709551616+lo)*2^s<y*2^s*18446744073709551616:=by
  have:hi*18446744073709551616+lo<y*18446744073709551616:=ae;rw[RF];exact RG this hp
 have au:lo*2^s=lo/2^(64-s)*18446744073709551616+lo*2^s%18446744073709551616:=by
  have e:lo*2^s/18446744073709551616=lo/2^(64-s):=by
   rw[show(18446744073709551616:Nat)=2^(64-s)*2^s by rw[←vz,show 64-s+s=64 by omega]];exact Wi _ _ hp
  rw[←e,eO _ 18446744073709551616];exact(mV _ _).symm
 have F:(hi*18446744073709551616+lo)*2^s=(hi*2^s+lo/2^(64-s))*18446744073709551616+lo*2^s%18446744073709551616:=by
  rw[em,au,RF,em,ui]
  congr 2
  rw[←au]
 have a9:(hi*18446744073709551616+lo)/y=(hi*18446744073709551616+lo)*2^s/(y*2^s):=(Wi _ _ hp).symm;have b8:(hi*18446744073709551616+lo)%y=(hi*18446744073709551616+lo)*2^s%(y*2^s)/2^s:=by
  rw[RE,Nat.mul_div_cancel _ hp]
 have aa:(hi*18446744073709551616+lo)/y<18446744073709551616:=by
  rw[vB ae,eO];have:(hi+1)*18446744073709551616≤y*18446744073709551616:=iz _ bv;omega
 rw[a9,b8];rw[a9]at aa;generalize(hi*18446744073709551616+lo)*2^s=HS at*;generalize ec:hi*2^s+lo/2^(64-s)=A at*;have bc:lo*2^s%18446744073709551616<18446744073709551616:=gN _ ae;generalize lo*2^s%18446744073709551616=U at*;generalize eg:y*2^s=Y at*
 clear au bd al
 have hu:A<Y:=ae;have bg:U/4294967296<4294967296:=ae;have bk:U%4294967296<4294967296:=ae;have cr:(2:Nat)^32=4294967296:=rfl;rw[mA _ ae,ak,NP bc,ak,cr];have cc:Y=Y/4294967296*4294967296+Y%4294967296:=ae;have b6:2147483648≤Y/4294967296:=ae;have a7:Y/4294967296<4294967296:=ae;have b4:Y%4294967296<4294967296:=ae;have b5:s≤64:=ae;generalize ej:Y/4294967296=yn1 at*;generalize er:Y%4294967296=yn0 at*;generalize eh:U/4294967296=H at*;generalize ee:U%4294967296=G at*;have ct:U=H*4294967296+G:=ae;rw[KA ae ae,ak,mq,ak];have ep:A/yn1*yn1≤A:=G6 _ _;rw[show((A/yn1:Nat):Int)*(yn1:Int)=((A/yn1*yn1:Nat):Int)from(lR _ _).symm,gd ae,gZ,ak,
  show(A:Int)-((A/yn1*yn1:Nat):Int)=((A-A/yn1*yn1:Nat):Int)by omega,gd ae]
 have body:∀{u d q r:Nat} {X Y:Prop} (hq:q<4294967298) (hr:r<4294967296) (hd:d<4294967296),
   ((4294967296≤q∨4294967296*r+d<q*yn0)→X)→(¬(4294967296≤q∨4294967296*r+d<q*yn0)→Y)→
   vK (aj .i .geq (.int .u64 (q:Int)) (.int .u64 4294967296)) λI=>
    vK (gV I false (some (.int .u64 (q:Int)))) λc2=>vK (gV I false (some (.int .u64 (yn0:Int)))) λdl=>vK (gV I false (aj .i .mul c2 dl)) λc6=>
    vK (gV I false (some (.int .u64 (r:Int)))) λdz=>vK (gV I false (aj .i .mul (.int .u64 4294967296) dz)) λc4=>vK (gV I false (some (.int .u64 (d:Int)))) λeb=>
    vK (gV I false (aj .i .add c4 eb)) λc3=>vK (gV I false (aj .i .gtr c6 c3)) λc9=>vK (aE I (.bool true) c9) λc0=>aF c0 X Y:=by
  intro u d q r X Y hq hr hd hX hY;simp only[go_sem];by_cases hc:4294967296≤q
  ·have e:((4294967296:Int)≤(q:Int))=True:=jx ae;simp only[go_sem,e];exact hX (.inl hc)
  ·have e:((4294967296:Int)≤(q:Int))=False:=fN ae;simp only[go_sem,e];have ei:q*yn0≤q*4294967296:=Wj _ ae;rw[show(q:Int)*(yn0:Int)=((q*yn0:Nat):Int)from(lR _ _).symm,gd (m:=q*yn0) ae,
    show(4294967296:Int)*(r:Int)=((4294967296*r:Nat):Int)by omega,gd (m:=4294967296*r) ae,
    show((4294967296*r:Nat):Int)+(d:Int)=((4294967296*r+d:Nat):Int)by omega,gd (m:=4294967296*r+d) ae]
   refine ao (λh0=>hX (.inr ae)) (λh0=>hY ae)
 refine bB (λxs h'=>xs=[.int .u64 (((A*4294967296+H)/Y:Nat):Int)]∧h'=h1) ?_ ?_
 ·refine MZ (d:=H) cc b4 b6 a7 hu bg (λq r=>[.int .u64 (q:Int),.int .u64 (r:Int)]) rfl λq r again ρj hq hr g1 g2 g3 g4=>?_
  simp only[iC,xC];refine body (u:=0) hq hr bg (λhc=>?_) (λhc=>?_)
  ·have aw:=g4 hc;rw[gZ,ak,show(q:Int)-1=((q-1:Nat):Int)by omega,gd ae,dw,ak,show(r:Int)+(yn1:Int)=((r+yn1:Nat):Int)by omega,gd ae];rw[NJ,ak];refine ao (λh0=>⟨by rw[g2 hc aw ae],trivial⟩) (λh0=>g1 _ _ rfl rfl aw hc ae)
  ·exact⟨by rw[g3 hc],trivial⟩
 rintro xs ρj h2 ⟨rfl,e2⟩;subst e2;simp only[iC];have cu:=Nh hu bg;have cb:=mV (A*4294967296+H) Y;have W:(A*4294967296+H)%Y<Y:=gN _ ae;have hD:=Vj (M:=A*4294967296+H) (Y:=Y) (d0:=G) ae rfl rfl;obtain⟨ab,a8⟩:∃q,q=(A*4294967296+H)/Y:=⟨_,rfl⟩
 obtain⟨D,ay⟩:∃q,q=(A*4294967296+H)%Y:=⟨_,rfl⟩
 rw[←a8,←ay]at cb hD;rw[←ay]at W;rw[←a8]at cu ⊢;have c8:IntKind.u64.wrap (IntKind.u64.wrap (IntKind.u64.wrap ((A:Int)*4294967296)+(H:Int))-IntKind.u64.wrap ((ab:Int)*(Y:Int)))=(D:Int):=by
  rw[show(ab:Int)*(Y:Int)=((Y*ab:Nat):Int)by rw[eO];exact(lR _ _).symm];rw[fg,fg,fg,fg]
  clear hD F
  generalize Y*ab=P at*;omega
 rw[mq,ak,dw,ak,mq,ak,gZ,ak,c8];have ek:D/yn1*yn1≤D:=G6 _ _;rw[KA ae ae,ak,mq,ak,show((D/yn1:Nat):Int)*(yn1:Int)=((D/yn1*yn1:Nat):Int)from(lR _ _).symm,gd ae,gZ,ak,
  show(D:Int)-((D/yn1*yn1:Nat):Int)=((D-D/yn1*yn1:Nat):Int)by omega,gd ae]
 refine bB (λxs h'=>xs=[.int .u64 (((D*4294967296+G)/Y:Nat):Int)]∧h'=h2) ?_ ?_
 ·refine MZ (d:=G) cc b4 b6 a7 W bk (λq r=>[.int .u64 (r:Int),.int .u64 (q:Int)]) rfl λq r again ρj hq hr g1 g2 g3 g4=>?_
  simp only[iC,xC];refine body (u:=0) hq hr bk (λhc=>?_) (λhc=>?_)
  ·have aw:=g4 hc;rw[gZ,ak,show(q:Int)-1=((q-1:Nat):Int)by omega,gd ae,dw,ak,show(r:Int)+(yn1:Int)=((r+yn1:Nat):Int)by omega,gd ae];rw[NJ,ak];refine ao (λh0=>⟨by rw[g2 hc aw ae],trivial⟩) (λh0=>g1 _ _ rfl rfl aw hc ae)
  ·exact⟨by rw[g3 hc],trivial⟩
 rintro xs ρj h3 ⟨rfl,e3⟩;subst e3;simp only[iC];have c7:=Nh W bk;have ax:=mV (D*4294967296+G) Y;have c1:(D*4294967296+G)%Y<Y:=gN _ ae;have be:HS=(A*4294967296+H)*4294967296+G:=TA F ct;rw[be]at aa ⊢;rw[hD.1]at aa ⊢;rw[hD.2];obtain⟨ad,an⟩:∃q,q=(D*4294967296+G)/Y:=⟨_,rfl⟩
 obtain⟨rr,ar⟩:∃q,q=(D*4294967296+G)%Y:=⟨_,rfl⟩
 rw[←an,←ar]at ax;rw[←ar]at c1;rw[←an]at c7 aa;rw[←an,←ar];have cw:IntKind.u64.wrap (IntKind.u64.wrap (IntKind.u64.wrap ((D:Int)*4294967296)+(G:Int))-IntKind.u64.wrap ((ad:Int)*(Y:Int)))=(rr:Int):=by
  rw[show(ad:Int)*(Y:Int)=((Y*ad:Nat):Int)by rw[eO];exact(lR _ _).symm];rw[fg,fg,fg,fg]
  clear hD F be
  generalize Y*ad=P at*;omega
 have rq:IntKind.u64.wrap (IntKind.u64.wrap ((ab:Int)*4294967296)+(ad:Int))=((ab*4294967296+ad:Nat):Int):=by
  rw[fg,fg]
  clear hD F be cb ax
  omega
 rw[mq,ak,dw,ak,mq,ak,dw,ak,mq,ak,gZ,ak,cw,rq,mA _ b5,ak];exact⟨rfl,trivial⟩
theorem PF {m n:Nat}{b:Bool}(D:9223372036854775808≤m)(A:9223372036854775808≤n):jN m b=jN n b:=by
 unfold jN;cases b
 ·simp only[gB,cE];rw[aA ae,aA ae]
 ·simp only[cJ];rw[aA ae,aA ae]
theorem Qw {a b:Int}(F:I64 a)(D:I64 b):a.natAbs*b.natAbs≤85070591730234615865843651857942052864:=by
 have h1:=qi F;have A:=qi D;exact aZ (zi h1 A) (by decide)
theorem Ng {m n:Nat}(h:m≤85070591730234615865843651857942052864):m/n≤85070591730234615865843651857942052864:=aZ (jy _ _) h
theorem oH {h:ah}{a b d:Int}(ha:I64 a)(hb:I64 b)(hd:I64 d):ag prog eJ #[af a,af b,af d] h λr h'=>r=af (cS a b d)∧h'=h:=by
 apply LW;unfold AO;simp only[go_sem];unfold cS;refine ao (λh0=>?_) (λh0=>?_)
 ·rw[aA h0];exact⟨rfl,trivial⟩
 rw[az h0];have hm:=Qw ha hb;refine(P4 ha hb).mono λv1 h1 ⟨e1,w1⟩=>?_
 subst e1 w1;simp only[go_sem];refine(Fp hd).mono λv2 G ⟨e2,w2⟩=>?_
 subst e2 w2;have ad:=qi hd;have A:0<d.natAbs:=ae;obtain⟨m,aa⟩:∃m,m=a.natAbs*b.natAbs:=⟨_,rfl⟩
 obtain⟨bl,U⟩:∃bl,bl=(kJ a b != decide (d<0)):=⟨_,rfl⟩
 obtain⟨D,hD⟩:∃D,D=d.natAbs:=⟨_,rfl⟩
 have F:(!(kJ a b==decide (d<0)))=bl:=U.symm;rw[←aa]at hm ⊢;rw[←U,F,←hD];rw[←hD]at A ad;have hq:m/D≤85070591730234615865843651857942052864:=Ng hm;simp only[go_sem];refine ao (λh1=>?_) (λh1=>?_)
 ·have ay:18446744073709551616≤m/D:=by
   rw[KP A];have G:D≤m/18446744073709551616:=ae;have:=(KP (show 0<18446744073709551616 by omega)).1 G;rw[eO];exact this
  refine(Cc (m:=18446744073709551616) (b:=bl) ae).mono λv h' ⟨e,w⟩=>⟨?_,w⟩
  rw[e,PF ae (n:=wS m D bl)];unfold wS;omega
 ·have L:m/18446744073709551616<D:=ae;have aw:m/D<18446744073709551616:=by
   rw[vB A,eO];exact(vB ae).1 L
  refine(zbQ L (gN _ ae) ae).mono λv G ⟨e,w⟩=>?_
  subst e w;have ab:m/18446744073709551616*18446744073709551616+m%18446744073709551616=m:=by
   rw[eO];exact mV _ _
  rw[ab];simp only[go_sem];have hr:m%D<D:=gN _ A;rw[show(D:Int)-((m%D:Nat):Int)=((D-m%D:Nat):Int)by omega,gd (m:=D-m%D) ae];have fin:∀up:Nat,up≤1→wS m D bl=m/D+up→ag prog gy #[.int .u64 ((m/D:Nat):Int),.int .u64 (up:Int),.int .u64 0] G λI an=>
    vK (aL I 0) λar=>vK (aL I 1) λal=>ag prog eI #[al,ar,.bool bl] an λW au=>W=af (jN (wS m D bl) bl)∧au=G:=by
   intro up ax hn;refine(Xc (x:=m/D) (y:=up) (c:=0) ae).mono λv h3 ⟨e,w⟩=>?_
   subst e w;simp only[go_sem];refine(Cc (m:=m/D+up+0) (b:=bl) ae).mono λv h' ⟨e,w⟩=>⟨?_,w⟩
   rw[e,hn];rfl
  cases H:bl
  ·rw[H]at fin;simp only[go_sem];refine ao (λh3=>?_) (λh3=>?_)
   ·refine fin 1 ae ?_;unfold wS;simp only[gB,cE];rw[aA ae]
   ·refine fin 0 ae ?_;unfold wS;simp only[gB,cE];rw[az ae]
  ·rw[H]at fin;simp only[go_sem];by_cases h3:D-m%D<m%D
   ·have e3:(((D-m%D:Nat):Int)<((m%D:Nat):Int))=True:=jx ae;simp only[go_sem,e3];refine fin 1 ae ?_;unfold wS;simp only[cJ];rw[aA ae]
   ·have e3:(((D-m%D:Nat):Int)<((m%D:Nat):Int))=False:=fN ae;simp only[go_sem,e3];refine fin 0 ae ?_;unfold wS;simp only[cJ];rw[az ae]
theorem JO {h:ah}{m n:Nat}(hm:m<340282366920938463463374607431768211456)(hn:n<128):
  ag prog uw #[.int .u64 ((m/18446744073709551616:Nat):Int),.int .u64 ((m%18446744073709551616:Nat):Int),af (n:Int)] h λr h'=>
   r=.tuple #[.int .u64 ((m/2^n/18446744073709551616:Nat):Int),.int .u64 ((m/2^n%18446744073709551616:Nat):Int)]∧h'=h:=by
 apply Oc;unfold Dz;simp only[go_sem];have L:m/18446744073709551616<18446744073709551616:=ae;refine ao (λh0=>?_) (λh0=>?_)
 ·rw[w64 (n:=(n:Int)-64) ae ae,show(n:Int)-64=((n-64:Nat):Int)by omega,mA _ ae,ak];refine⟨?_,trivial⟩;have e:m/2^n=m/18446744073709551616/2^(n-64):=by
   rw[Hf,show(18446744073709551616:Nat)=2^64 from rfl,←vz,show 64+(n-64)=n by omega]
  have H:m/18446744073709551616/2^(n-64)<18446744073709551616:=sK (jy _ _) L;rw[e,sJ H,vA H];rfl
 ·have aa:n<64:=ae;rw[mA _ ae,ak,mA _ ae,ak];rw[w64 (n:=64-(n:Int)) ae ae,show(64:Int)-(n:Int)=((64-n:Nat):Int)by omega,wm _ ae,ak];have F:m%18446744073709551616<18446744073709551616:=gN _ ae;have h2:m%18446744073709551616/2^n<18446744073709551616:=sK (jy _ _) F;rw[YY h2 (gN _ ae),ak];refine⟨?_,trivial⟩;have U:(0:Nat)<2^n:=wW ae;have A:(18446744073709551616:Nat)=2^n*2^(64-n):=by rw[←vz,show n+(64-n)=64 by omega]
  have D:m%18446744073709551616/2^n<2^(64-n):=by
   rw[vB U,eO,←A];exact F
  -- the low half of what is above
  have e1:m/2^n=m/18446744073709551616*2^(64-n)+m%18446744073709551616/2^n:=by
   have e:=mV m 18446744073709551616;have e2:m=m%18446744073709551616+2^n*(m/18446744073709551616*2^(64-n)):=by
    have:2^n*(m/18446744073709551616*2^(64-n))=18446744073709551616*(m/18446744073709551616):=by
     rw[A,CS,eO]
    rw[this];omega
   conv=>lhs;rw[e2]
   rw[Hd _ _ U,CV]
  have e3:m/18446744073709551616*2^(64-n)%18446744073709551616=m/18446744073709551616%2^n*2^(64-n):=by
   have:(18446744073709551616:Nat)=2^n*2^(64-n):=A
   conv=>lhs;rhs;rw[this]
   exact RE _ _ _
  rw[e3,Nat.or_comm,S7 D];generalize I:m/18446744073709551616=G at*;have e4:m/2^n/18446744073709551616=G/2^n:=by
   rw[Hf,eO,←Hf,I]
  have e5:m/2^n%18446744073709551616=G%2^n*2^(64-n)+m%18446744073709551616/2^n:=by
   rw[e1];have hd:=mV G (2^n);have:G*2^(64-n)=G%2^n*2^(64-n)+18446744073709551616*(G/2^n):=by
    conv=>lhs;rw[←hd]
    rw[em,CV,RF,←A]
   rw[this,Nat.add_right_comm,KQ,vA];have h6:G%2^n+1≤2^n:=gN _ U;have W:(G%2^n+1)*2^(64-n)≤2^n*2^(64-n):=iz _ h6;rw[←A,em,sH]at W;exact bX (Nat.add_lt_add_left D _) W
  rw[e4,e5]
theorem zbC {h:ah}{m n:Nat}(H:m<340282366920938463463374607431768211456)(I:n<128):
  ag prog zH #[.int .u64 ((m/18446744073709551616:Nat):Int),.int .u64 ((m%18446744073709551616:Nat):Int),af (n:Int)] h λr h'=>r=.bool (decide (m%2^n=0))∧h'=h:=by
 apply Od;unfold DA;simp only[go_sem];have D:∀(a k:Nat),k≤64→(a*2^(64-k)%18446744073709551616=0↔a%2^k=0):=by
  intro a k L;have A:(18446744073709551616:Nat)=2^k*2^(64-k):=by rw[←vz,show k+(64-k)=64 by omega]
  rw[A,RE];have:0<2^(64-k):=wW ae;constructor
  ·intro h;rcases Nat.mul_eq_zero.1 h with h|h<;>omega
  ·intro h;rw[h,zk]
 refine ao (λh0=>?_) (λh0=>?_)
 ·-- n ≥ 64
  have e:(2:Nat)^n=18446744073709551616*2^(n-64):=by rw[show(18446744073709551616:Nat)=2^64 from rfl,←vz,show 64+(n-64)=n by omega]
  have key:m%2^n=0↔m%18446744073709551616=0∧m/18446744073709551616%2^(n-64)=0:=by
   rw[e,Nat.mod_mul];constructor
   ·intro h;have h1:m%18446744073709551616=0:=ae;refine⟨h1,?_⟩;rw[h1,aK]at h;rcases Nat.mul_eq_zero.1 h with h|h
    ·omega
    ·exact h
   ·rintro⟨h1,G⟩;rw[h1,G]
  by_cases F:m%18446744073709551616=0
  ·have q:(((m%18446744073709551616:Nat):Int)=0)=True:=jx ae;simp only[go_sem,q];rw[w64 (n:=128-(n:Int)) ae ae,show(128:Int)-(n:Int)=((64-(n-64):Nat):Int)by omega,wm _ ae,ak];simp only[go_sem];refine⟨?_,trivial⟩
   congr 1
   rw[gL];have:=D (m/18446744073709551616) (n-64) ae;constructor
   ·intro h;exact key.2 ⟨F,this.1 ae⟩
   ·intro h;have:=this.2 (key.1 h).2;omega
  ·have q:(((m%18446744073709551616:Nat):Int)=0)=False:=fN ae;simp only[go_sem,q];refine⟨?_,trivial⟩
   congr 1
   rw[Eq.comm,G0];exact λh=>F (key.1 h).1
 ·rw[w64 (n:=64-(n:Int)) ae ae,show(64:Int)-(n:Int)=((64-n:Nat):Int)by omega,wm _ ae,ak];simp only[go_sem];refine⟨?_,trivial⟩
  congr 1
  rw[gL];have:=D (m%18446744073709551616) n ae;have e:m%18446744073709551616%2^n=m%2^n:=by
   have A:(18446744073709551616:Nat)=2^n*2^(64-n):=by rw[←vz,show n+(64-n)=64 by omega]
   rw[A,Nat.mod_mul_right_mod]
  rw[e]at this;constructor
  ·intro h;exact this.1 ae
  ·intro h;have:=this.2 h;omega
theorem VA {h:ah} {a b n:Int} (ha:I64 a) (hb:I64 b) (hn:I64 n):ag prog sT #[af a,af b,af n] h λr h'=>r=af (qk a b n)∧h'=h:=by
  apply Iz;unfold xY;simp only[go_sem];have hm:=Qw ha hb;unfold qk;refine ao (λh0=>?_) (λh0=>?_)
  · rw[aA ae];exact⟨rfl,trivial⟩
  rw[az ae];have an:max 0 n=((n.toNat:Nat):Int):=ae;rw[an]at h0 ⊢;obtain⟨k,hk⟩:∃k,k=n.toNat:=⟨_,rfl⟩
  rw[←hk]at h0 ⊢;refine(P4 ha hb).mono λv1 h1 ⟨e1,w1⟩=>?_
  subst e1 w1;obtain⟨m,W⟩:∃m,m=a.natAbs*b.natAbs:=⟨_,rfl⟩
  obtain⟨bl,ar⟩:∃bl,bl=kJ a b:=⟨_,rfl⟩
  rw[←W]at hm ⊢;rw[←ar];simp only[go_sem];unfold Ln;refine ao (λh1=>?_) (λh1=>?_)
  · rw[aA ae]
    exact Cc ae
  rw[az ae];refine(JO (m:=m) (n:=k) ae ae).mono λv h2 ⟨e,w⟩=>?_
  subst e w;simp only[go_sem];rw[w64 (n:=(k:Int)-1) ae ae,show(k:Int)-1=((k-1:Nat):Int)by omega];refine(JO (m:=m) (n:=k-1) ae ae).mono λv U ⟨e,w⟩=>?_
  subst e w;simp only[go_sem];have au:m/2^k≤85070591730234615865843651857942052864:=Ng hm;rw[Ul (gN _ ae),ak,show m/2^(k-1)%18446744073709551616%2=m/2^(k-1)%2 by omega];have D:ag prog eI #[.int .u64 ((m/2^k/18446744073709551616:Nat):Int),.int .u64 ((m/2^k%18446744073709551616:Nat):Int),.bool bl] U λF G=>F=af (jN (m/2^k+0) bl)∧G=U:=Cc ae
  have A:ag prog gy #[.int .u64 ((m/2^k%18446744073709551616:Nat):Int),.int .u64 1,.int .u64 0] U λI ad=>
        vK (aL I 0) λal=>vK (aL I 1) λab=>vK (aj .i .add (.int .u64 ((m/2^k/18446744073709551616:Nat):Int)) ab) λaa=>
        ag prog eI #[aa,al,.bool bl] ad λF G=>F=af (jN (m/2^k+1) bl)∧G=U:=by
    refine(Xc (x:=m/2^k%18446744073709551616) (y:=1) (c:=0) ae).mono λv h4 ⟨e,w⟩=>?_
    subst e w;simp only[go_sem];generalize m/2^k=M at*;have e1:(M%18446744073709551616+1+0)%18446744073709551616=(M+1)%18446744073709551616:=ae;have e2:((M/18446744073709551616:Nat):Int)+(((M%18446744073709551616+1+0)/18446744073709551616:Nat):Int)=(((M+1)/18446744073709551616:Nat):Int):=ae;rw[e1,e2,gd ae];exact Cc ae
  by_cases hh:m/2^(k-1)%2=0
  · have q:(((m/2^(k-1)%2:Nat):Int)=0)=True:=jx ae
    simp only[go_sem,q];rw[az (λh=>ae)];exact D
  · have q:(((m/2^(k-1)%2:Nat):Int)=0)=False:=fN ae
    simp only[go_sem,q];have L:m/2^(k-1)%2=1:=ae;cases H:bl
    · rw[H]at A
      simp only[go_sem];rw[aA ⟨L,by simp⟩];exact A
    · rw[H]at D A
      simp only[go_sem];rw[w64 (n:=(k:Int)-1) ae ae,show(k:Int)-1=((k-1:Nat):Int)by omega];refine(zbC (m:=m) (n:=k-1) ae ae).mono λv h4 ⟨e,w⟩=>?_
      subst e w
      try simp only[go_sem]
      refine ao (λh5=>?_) (λh5=>?_)
      · rw[az (λh=>h.2 ⟨trivial,h5⟩)]
        exact D
      · rw[aA ⟨L,λh=>h5 h.2⟩]
        exact A
end Go.Proofs.YtjljhnandbbldaaGreatDoor
