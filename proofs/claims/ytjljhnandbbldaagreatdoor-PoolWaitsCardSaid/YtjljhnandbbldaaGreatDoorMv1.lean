/- Several texts of this session, one behind the other, without what this claim does not need (put together by its program pack.py). Conditions: none. -/
import Derived.Test.YtjljhnandbbldaaGreatDoorMv0
import Derived.Lib.ItoaNum
import Derived.Lib.LaidTab
import Derived.LaidLaws
import Derived.LaidHandle
import Derived.LaidMore
import Derived.MakeChecks
import Derived.Handed
import Derived.Stop.Joined
import Derived.Test.YtjljhnandbbldaaGreatDoorRows
import Derived.Test.YtjljhnandbbldaaGreatDoorProg
import Derived.Shelf.Bits.Mul64
import Derived.Shelf.Spec.BitsCarry
import Derived.Shelf.Strconv.Itoa0
set_option linter.unusedVariables false
set_option linter.unusedSimpArgs false
set_option maxRecDepth 100000
namespace Go.Proofs.YtjljhnandbbldaaGreatDoor
open Go Go.Crisp
open _root_.Go.Proofs.Tryz
section
variable {a0 a1 a2 a3 a4 a5 a6:Value}{h:ah}{R:Value→ah→Prop}
def AZ (a0 a1:Value)(h:ah)(R:Value→ah→Prop):Prop:=
 aW (Value.cells a0) 120 h λd m=>
 aW (Value.cells a1) 120 m λe a=>
 vK (aB 0 d) λn=>
 vK (ldV a n) λo=>
 vK (aB 0 e) λp=>
 vK (ldV a p) λq=>
 vK (ak .i .neq o q) λf=>
 vK (gV f true (aB 5 d)) λr=>
 vK (gV f true (ldV a r)) λs=>
 vK (gV f true (some s)) λl=>
 vK (gV l false (aB 5 e)) λt=>
 vK (gV l false (ldV a t)) λu=>
 vK (gV f true (aE l (.bool true) u)) λv=>
 vK (aE f v (.bool false)) λg=>
 vK (gV g true (aO 6 a d)) λw=>
 vK (gV g true (aO 6 a e)) λx=>
 gK g true (λy=>ag prog vQ #[w,x] a y) a λz j=>
 vK (aE g z (.bool false)) λb=>
 vK (gV b true (aB 1 d)) λaa=>
 vK (gV b true (ldV j aa)) λab=>
 vK (gV b true (aB 1 e)) λac=>
 vK (gV b true (ldV j ac)) λad=>
 gK b true (λae=>ag prog rh #[ab,ad] j ae) j λaf k=>
 vK (gV b true (unV .not af)) λai=>
 vK (aE b ai (.bool false)) λc=>
 vK (gV c true (aB 1 e)) λaj=>
 vK (gV c true (ldV k aj)) λal=>
 vK (gV c true (aB 1 d)) λam=>
 vK (gV c true (ldV k am)) λan=>
 gK c true (λao=>ag prog rh #[al,an] k ao) k λap aq=>
 vK (gV c true (unV .not ap)) λar=>
 vK (aE c ar (.bool false)) λau=>
 R au aq
theorem Ma (H:AZ a0 a1 h R):ag prog qY #[a0,a1] h R:=fk f56 (.s .z (.s .z .z)) H
def DS (a0 a1 a2 a3:Value)(h:ah)(R:Value→ah→Prop):Prop:=
 vK (ak .i .lss a3 aH) λb=>
 vK (gV b false (some a3)) λf=>
 vK (gV b false (ak .i .gtr f (af 65535))) λg=>
 vK (aE b (.bool true) g) λa=>
 vK (gV a false (some a2)) λj=>
 vK (gV a false (ak .i .neq j aH)) λk=>
 vK (gV a false (some k)) λc=>
 vK (gV c true (some a2)) λl=>
 vK (gV c true (ak .i .neq l (af 3))) λm=>
 vK (gV a false (aE c m (.bool false))) λn=>
 vK (aE a (.bool true) n) λo=>
 aF o (
 R (.tuple #[(.pointer none),(af 2)]) h) (
 ag prog my #[a0,a1,a2] h λp d=>
 vK (unV .not p) λq=>
 aF q (
 R (.tuple #[(.pointer none),(af 5)]) d) (
 vK (ak .i .mul a0 a1) λr=>
 vK (ak .i .mul r a2) λe=>
 mkK (.int .u16 0) 22 1 2 e e d λs t=>
 vK ((aM #[ai,ai,ai,ai,(.slice none 0 0)] [(0,1,a0),(1,1,a1),(2,1,a2),(3,1,a3),(4,1,s)]).map .agg) λu=>
 aW (Value.cells u) 110 t λv w=>
 R (.tuple #[v,ai]) w))
theorem OA (H:DS a0 a1 a2 a3 h R):ag prog iQ #[a0,a1,a2,a3] h R:=fk f59 (.s .z (.s (.s .z (.s (.s .z .z) (.s .z (.s (.s .z .z) .z)))) (.s .z .z))) H
def jq (a0:Value)(h:ah)(R:Value→ah→Prop):Prop:=
 eK (λc=>
 vK (aD a0) λe=>
 vK (ak .i .lss e aH) λf=>
 aF f (
 M7 h λs g=>
 c [] g) (
 c [] h))
 λt u d=>
 vK (bu 1 a0 ai) λj=>
 vK (ldV d j) λk=>
 aZ [k,aH] d λa v b l=>
 vK (aD a0) λm=>
 vK (ak .i .lss (ix a 1) m) λn=>
 aF n (
 vK (bu 1 a0 (ix a 1)) λo=>
 vK (ldV b o) λp=>
 vK (jS (ix a 0) p) λq=>
 vK (ak .i .add (ix a 1) aH) λr=>
 l [q,r] b) (
 R (ix a 0) b)
theorem qg (H:jq a0 h R):ag prog gn #[a0] h R:=fk f60 (.s .z (.j 480 [] (.s .z (.s .z .z)) (.s .z (.s (.s .z (.l 16773144 [3,4] (.s (.s .z (.s .z .z)) (.s .z .z)))) (.s .z .z))))) H
def Pb (a0:Value)(h:ah)(R:Value→ah→Prop):Prop:=
 aW (Value.cells a0) 31 h λb c=>
 vK (aB 0 b) λm=>
 vK (ldV c m) λn=>
 vK (ak .i .lss n ai) λg=>
 vK (gV g false (aB 0 b)) λo=>
 vK (gV g false (ldV c o)) λp=>
 vK (gV g false (ak .i .geq p (af 4))) λq=>
 vK (aE g (.bool true) q) λd=>
 vK (gV d false (aB 1 b)) λr=>
 vK (gV d false (ldV c r)) λt=>
 gK d false (λu=>ag prog ri #[t] c u) c λv e=>
 vK (gV d false (ak .s .eql v (.string ⟨#[]⟩))) λw=>
 vK (aE d (.bool true) w) λx=>
 aF x (
 R (.bool false) e) (
 vK (aB 0 b) λy=>
 vK (ldV e y) λz=>
 vK (ak .i .neq z (af 3)) λa=>
 vK (gV a false (aB 7 b)) λaa=>
 vK (gV a false (ldV e aa)) λab=>
 gK a false (λac=>ag prog uI #[ab] e ac) e λad k=>
 vK (gV a false (some ad)) λj=>
 vK (gV j true (aB 8 b)) λae=>
 vK (gV j true (ldV k ae)) λaj=>
 gK j true (λal=>ag prog uI #[aj] k al) k λam l=>
 vK (gV a false (aE j am (.bool false))) λan=>
 vK (gV a false (some an)) λf=>
 vK (gV f true (aB 6 b)) λao=>
 vK (gV f true (ldV l ao)) λap=>
 gK f true (λaq=>ag prog zQ #[ap] l aq) l λar au=>
 vK (gV f true (ak .s .neq ar (.string ⟨#[]⟩))) λav=>
 vK (gV a false (aE f av (.bool false))) λaw=>
 vK (aE a (.bool true) aw) λax=>
 R ax au)
theorem XC (H:Pb a0 h R):ag prog NO #[a0] h R:=fk f61 (.s .z (.s (.s .z (.s (.s .z .z) .z)) (.s .z .z))) H
def Ls (a0:Value)(h:ah)(R:Value→ah→Prop):Prop:=
 vK (ak .i .geq a0 aH) λa=>
 vK (gV a true (some a0)) λb=>
 vK (gV a true (ak .i .leq b (af 65536))) λc=>
 vK (aE a c (.bool false)) λd=>
 R d h
theorem UV (H:Ls a0 h R):ag prog uI #[a0] h R:=fk f62 (.s .z (.s .z .z)) H
def Gb (a0 a1 a2:Value)(h:ah)(R:Value→ah→Prop):Prop:=
 aW (Value.cells a0) 31 h λa b=>
 vK (aB 0 a) λr=>
 vK (ldV b r) λs=>
 vK (ak .i .eql s (af 3)) λt=>
 aF t (
 vK (aB 6 a) λu=>
 vK (ldV b u) λv=>
 vK (aB 7 a) λw=>
 vK (ldV b w) λx=>
 ag prog lg #[v,a1,x] b λe c=>
 vK (aL e 0) λf=>
 vK (aL e 1) λg=>
 vK (ak .i .eql g ai) λy=>
 aF y (
 vK (aB 6 a) λz=>
 vK (ldV c z) λaa=>
 vK (aB 8 a) λab=>
 vK (ldV c ab) λac=>
 ag prog lg #[aa,a2,ac] c λj ad=>
 vK (aL j 0) λae=>
 vK (aL j 1) λaj=>
 R (.tuple #[f,ae,aj]) ad) (
 R (.tuple #[f,(.pointer none),g]) c)) (
 vK (aO 9 b a) λal=>
 ag prog zT #[al] b λd k=>
 vK (aL d 0) λam=>
 vK (aL d 1) λan=>
 vK (aL d 2) λl=>
 vK (ak .i .neq l ai) λao=>
 aF ao (
 R (.tuple #[(.pointer none),(.pointer none),l]) k) (
 ag prog oQ #[am,a1] k λm n=>
 vK (aL m 0) λo=>
 vK (aL m 1) λp=>
 vK (ak .i .eql p ai) λap=>
 aF ap (
 ag prog oQ #[an,a2] n λq aq=>
 vK (aL q 0) λar=>
 vK (aL q 1) λau=>
 R (.tuple #[o,ar,au]) aq) (
 R (.tuple #[o,(.pointer none),p]) n)))
theorem QS (H:Gb a0 a1 a2 h R):ag prog Cs #[a0,a1,a2] h R:=fk f63 (.s .z (.s (.s .z (.s (.s (.s .z (.s .z (.s .z .z))) (.s .z .z)) .z)) (.s .z (.s (.s .z (.s (.s .z .z) .z)) (.s (.s .z (.s .z (.s .z .z))) (.s .z .z)))))) H
def Dt (h:ah)(R:Value→ah→Prop):Prop:=
 vK ((aM #[ai,(.slice none 0 0),(.pointer none),ai] []).map .agg) λa=>
 aW (Value.cells a) 182 h λb c=>
 R b c
theorem NZ (H:Dt h R):ag prog oL #[] h R:=fk f64 (.s .z (.s .z .z)) H
def F0 (a0:Value)(h:ah)(R:Value→ah→Prop):Prop:=
 vK (jS aH a0) λa=>
 vK (rR a (af 4096)) λb=>
 vK ((aM #[ai,(.slice none 0 0),(.bool false)] [(0,1,b)]).map .agg) λc=>
 aW (Value.cells c) 215 h λd e=>
 R d e
theorem QP (H:F0 a0 h R):ag prog nE #[a0] h R:=fk f65 (.s .z (.s .z .z)) H
def A8 (h:ah)(R:Value→ah→Prop):Prop:=
 ag prog iQ #[(af 3),aH,aH,(af 255)] h λl w=>
 vK (aL l 0) λx=>
 vK (aL l 1) λy=>
 vK ((aM #[ai,ai,ai,ai,(.slice none 0 0),(.slice none 0 0),ai,ai,ai] [(0,1,aH),(3,1,aH)]).map .agg) λz=>
 ag prog nF #[z,(af 3),aH] w λm aa=>
 vK (aL m 0) λab=>
 vK (aL m 1) λac=>
 aW #[(.pointer none),(.pointer none),ai] 81 aa λn ad=>
 stK 3 n ab ad λbm ae=>
 ag prog iQ #[(af 3),aH,aH,(af 255)] ae λo aj=>
 vK (aL o 0) λal=>
 vK (aL o 1) λam=>
 ag prog xL #[] aj λan q=>
 vK (unV .not an) λc=>
 gK c false (λao=>ag prog xK #[] q ao) q λap d=>
 vK (gV c false (unV .not ap)) λaq=>
 vK (aE c (.bool true) aq) λe=>
 vK (gV e false (some y)) λar=>
 vK (gV e false (ak .i .neq ar ai)) λau=>
 vK (aE e (.bool true) au) λf=>
 vK (gV f false (some ac)) λav=>
 vK (gV f false (ak .i .neq av ai)) λaw=>
 vK (aE f (.bool true) aw) λg=>
 vK (gV g false (some am)) λax=>
 vK (gV g false (ak .i .neq ax ai)) λay=>
 vK (aE g (.bool true) ay) λaz=>
 aF az (
 R (.bool false) d) (
 vK (aO 3 d n) λa0=>
 vK ((aM #[ai,ai,ai,ai] [(2,1,(af 3)),(3,1,aH)]).map .agg) λa1=>
 vK ((aM #[ai,ai,ai,ai,ai,ai,ai,ai,ai,ai] [(1,4,a1)]).map .agg) λa2=>
 ag prog oM #[x,al,a0,a2] d λr s=>
 vK (aL r 0) λb=>
 vK (aL r 1) λa3=>
 vK (ak .i .neq a3 ai) λj=>
 vK (gV j false (some b)) λa4=>
 vK (gV j false (ak .p .eql a4 (.pointer none))) λa5=>
 vK (aE j (.bool true) a5) λa6=>
 aF a6 (
 R (.bool false) s) (
 aZ [(af (-1))] s λk bn t a7=>
 vK (ak .i .lss (ix k 0) (af 2)) λa8=>
 aF a8 (
 ag prog gx #[b] t λa9 u=>
 vK ((aM #[ai,ai] [(0,1,aH),(1,1,(ix k 0))]).map .agg) λba=>
 vK (ak (.st [(0,1,.i),(1,1,.i)]) .neq a9 ba) λbb=>
 aF bb (
 R (.bool false) u) (
 vK (ak .i .add (ix k 0) aH) λbc=>
 a7 [bc] u)) (
 ag prog gx #[b] t λbd v=>
 vK ((aM #[ai,ai] [(0,1,(af 2))]).map .agg) λbe=>
 vK (ak (.st [(0,1,.i),(1,1,.i)]) .eql bd be) λa=>
 vK (gV a true (some b)) λbf=>
 gK a true (λbg=>ag prog gx #[bf] v bg) v λbh bi=>
 vK (gV a true ((aM #[ai,ai] []).map .agg)) λbj=>
 vK (gV a true (ak (.st [(0,1,.i),(1,1,.i)]) .eql bh bj)) λbk=>
 vK (aE a bk (.bool false)) λbl=>
 R bl bi)))
theorem Mg (H:A8 h R):ag prog xJ #[] h R:=fk f66 (.s .z (.s .z (.s .z (.s .z (.s (.s .z (.s (.s .z .z) .z)) (.s .z (.s (.s .z (.s (.s .z .z) .z)) (.s (.s .z (.l 36821430553381175809 [9] (.s (.s .z (.s .z .z)) (.s (.s .z (.s (.s .z .z) .z)) .z)))) (.s .z .z))))))))) H
def pJ (a0 a1 a2:Value)(h:ah)(R:Value→ah→Prop):Prop:=
 aW #[ai,ai,ai,ai] 148 h λb c=>
 vK (aR a0) λp=>
 vK (aB 0 p) λq=>
 vK (ldV c q) λe=>
 vK (ak .i .eql e aH) λr=>
 aF r (
 vK (aR a0) λs=>
 vK (aB 2 s) λt=>
 vK (ldV c t) λu=>
 ag prog gx #[u] c λv w=>
 aW #[ai,ai] 146 w λf x=>
 stK 2 f v x λbc y=>
 ag prog dI #[a0] y λbd a=>
 bJ a λS=>
 vK (aR a0) λz=>
 vK (aB 1 z) λaa=>
 qK S (λa=>ldV a aa) λab=>
 vK (aR a0) λac=>
 vK (aB 1 ac) λad=>
 qK S (λa=>ldV a ad) λae=>
 qK S (λa=>aD ae) λaj=>
 vK (ak .i .sub aj aH) λal=>
 vK (bu 1 ab al) λam=>
 qK S (λa=>ldV a am) λan=>
 qK S (λa=>aO 2 a f) λao=>
 vK ((aM #[ai,ai,ai,ai] [(0,1,(af 2)),(1,1,an),(2,2,ao)]).map .agg) λap=>
 stK 4 b ap a λbe g=>
 vK (aO 4 g b) λaq=>
 R aq g) (
 vK (ak .i .eql e (af 2)) λar=>
 aF ar (
 vK ((aM #[ai,ai,ai,ai] []).map .agg) λau=>
 stK 4 b au c λbf j=>
 vK (aO 4 j b) λav=>
 R av j) (
 ag prog kz #[a1] c λk d=>
 vK (aL k 0) λaw=>
 vK (aL k 1) λl=>
 vK (ak .i .eql l ai) λax=>
 aF ax (
 ag prog kZ #[a0,aw,a2] d λay az=>
 stK 4 b ay az λbg m=>
 vK (aO 4 m b) λa3=>
 R a3 m) (
 vK (ak .i .eql l (af 2)) λa4=>
 aF a4 (
 vK (aR a0) λa5=>
 vK (aB 0 a5) λa6=>
 stK 1 a6 (af 2) d λbh a7=>
 vK ((aM #[ai,ai,ai,ai] [(0,1,(af 3))]).map .agg) λa8=>
 stK 4 b a8 a7 λbi n=>
 vK (aO 4 n b) λa9=>
 R a9 n) (
 vK ((aM #[ai,ai,ai,ai] []).map .agg) λba=>
 stK 4 b ba d λbj o=>
 vK (aO 4 o b) λbb=>
 R bb o))))
theorem AB (H:pJ a0 a1 a2 h R):ag prog cO #[a0,a1,a2] h R:=fk f67 (.s .z (.s (.s .z (.s .z (.s (.s .z (.s .z (.s (.d (.op 0 .r (.op 1 .r (.op 2 .r (.op 3 .r (.op 4 .r (.op 5 .r (.op 6 .r (.op 7 .r (.op 8 .r (.op 9 .r (.op 10 .r (.op 11 .r (.op 12 .r (.op 13 .r (.op 14 .n .nil)))))))))))))))) .z))) (.s .z (.s (.s .z .z) .z))))) (.s .z (.s (.s .z (.s .z (.s (.s .z .z) (.s .z (.s (.s .z (.s .z .z)) .z))))) (.s .z .z))))) H
def lP (a0 a1:Value)(h:ah)(R:Value→ah→Prop):Prop:=
 vK (aR a0) λb=>
 vK (aB 0 b) λc=>
 vK (ldV h c) λa=>
 vK (ak .i .eql a ai) λd=>
 aF d (
 ag prog jd #[a1] h λe f=>
 R e f) (
 vK (ak .i .eql a aH) λg=>
 aF g (
 R (.bool true) h) (
 R (.bool false) h))
theorem vW (H:lP a0 a1 h R):ag prog eE #[a0,a1] h R:=fk f68 (.s .z (.s (.s .z (.s .z (.s (.s .z .z) (.s .z (.s (.s .z .z) .z))))) (.s .z .z))) H
def rB (a0:Value)(h:ah)(R:Value→ah→Prop):Prop:=
 vK (aR a0) λa=>
 vK (aB 2 a) λb=>
 vK (ldV h b) λc=>
 vK (aR a0) λd=>
 vK (aB 2 d) λe=>
 stK 1 e (.bool true) h λi f=>
 vK (unV .not c) λg=>
 R g f
theorem BC (H:rB a0 h R):ag prog jl #[a0] h R:=fk f69 (.s .z (.s .z (.s .z (.s .z .z)))) H
def nO (a0:Value)(h:ah)(R:Value→ah→Prop):Prop:=
 vK (aR a0) λa=>
 vK (aB 0 a) λb=>
 vK (ldV h b) λc=>
 R c h
theorem yS (H:nO a0 h R):ag prog kw #[a0] h R:=fk f70 (.s .z (.s .z .z)) H
def Ap (a0 a1:Value)(h:ah)(R:Value→ah→Prop):Prop:=
 aW (Value.cells a1) 81 h λc d=>
 vK (aB 0 c) λm=>
 vK (ldV d m) λn=>
 vK (ak .p .neq n (.pointer none)) λf=>
 vK (gV f true (aB 1 c)) λo=>
 vK (gV f true (ldV d o)) λq=>
 vK (gV f true (ak .p .neq q (.pointer none))) λr=>
 vK (aE f r (.bool false)) λa=>
 vK (gV a true (aB 0 c)) λt=>
 vK (gV a true (ldV d t)) λu=>
 gK a true (λv=>ag prog fT #[u] d v) d λw k=>
 vK (gV a true (some a0)) λx=>
 gK a true (λy=>ag prog bL #[x] k y) k λz g=>
 vK (gV a true (ak .i .eql w z)) λaa=>
 vK (aE a aa (.bool false)) λb=>
 vK (gV b true (aB 1 c)) λab=>
 vK (gV b true (ldV g ab)) λac=>
 gK b true (λad=>ag prog fT #[ac] g ad) g λae l=>
 vK (gV b true (some a0)) λaf=>
 gK b true (λai=>ag prog bN #[af] l ai) l λaj j=>
 vK (gV b true (ak .i .eql ae aj)) λal=>
 vK (aE b al (.bool false)) λe=>
 vK (gV e true (aB 2 c)) λam=>
 vK (gV e true (ldV j am)) λan=>
 gK e true (λao=>ag prog ri #[an] j ao) j λap aq=>
 vK (gV e true (ak .s .neq ap (.string ⟨#[]⟩))) λar=>
 vK (aE e ar (.bool false)) λau=>
 R au aq
theorem Kt (H:Ap a0 a1 h R):ag prog jF #[a0,a1] h R:=fk f71 (.s .z (.s .z .z)) H
def wu (a0:Value)(h:ah)(R:Value→ah→Prop):Prop:=
 vK (aR a0) λa=>
 vK (aB 1 a) λb=>
 vK (ldV h b) λc=>
 vK (aD c) λd=>
 R d h
theorem Gw (H:wu a0 h R):ag prog bI #[a0] h R:=fk f72 (.s .z (.s .z .z)) H
def rz (a0:Value)(h:ah)(R:Value→ah→Prop):Prop:=
 vK (aR a0) λa=>
 vK (aB 3 a) λb=>
 vK (ldV h b) λc=>
 R c h
theorem BA (H:rz a0 h R):ag prog dp #[a0] h R:=fk f73 (.s .z (.s .z .z)) H
def Jy (a0 a1 a2:Value)(h:ah)(R:Value→ah→Prop):Prop:=
 aW (Value.cells a0) 81 h λd a=>
 vK (aB 0 d) λg=>
 vK (ldV a g) λi=>
 vK (ak .p .eql i (.pointer none)) λb=>
 vK (gV b false (aB 1 d)) λj=>
 vK (gV b false (ldV a j)) λk=>
 vK (gV b false (ak .p .eql k (.pointer none))) λl=>
 vK (aE b (.bool true) l) λm=>
 aF m (
 R (.tuple #[(.pointer none),(af 6)]) a) (
 ag prog xe #[a1] a λn f=>
 vK (unV .not n) λc=>
 vK (gV c false (some a2)) λo=>
 gK c false (λq=>ag prog xe #[o] f q) f λr e=>
 vK (gV c false (unV .not r)) λs=>
 vK (aE c (.bool true) s) λt=>
 aF t (
 R (.tuple #[(.pointer none),(af 9)]) e) (
 vK (aO 3 e d) λu=>
 vK ((aM #[(.pointer none),(.pointer none),ai,ai,ai] [(0,3,u),(3,1,a1),(4,1,a2)]).map .agg) λv=>
 aW (Value.cells v) 184 e λw x=>
 R (.tuple #[w,ai]) x))
theorem Tl (H:Jy a0 a1 a2 h R):ag prog zS #[a0,a1,a2] h R:=fk f74 (.s .z (.s (.s .z (.s (.s .z .z) (.s .z (.s (.s .z .z) .z)))) (.s .z .z))) H
def Gh (a0:Value)(h:ah)(R:Value→ah→Prop):Prop:=
 vK (jS aH a0) λj=>
 vK (rR j (af 512)) λc=>
 mkK (.slice none 0 0) 104 1 24 c c h λk l=>
 vK ((aM #[(.slice none 0 0)] [(0,1,k)]).map .agg) λm=>
 aW (Value.cells m) 226 l λd f=>
 vK (aR d) λn=>
 vK (aB 0 n) λo=>
 vK (ldV f o) λp=>
 vK (aD p) λq=>
 aZ [ai] f λa aj b r=>
 vK (ak .i .lss (ix a 0) q) λs=>
 aF s (
 bJ b λS=>
 vK (aR d) λt=>
 vK (aB 0 t) λu=>
 qK S (λb=>ldV b u) λv=>
 mkK ai 3 1 8 c c b λw g=>
 S g∧(vK (bu 1 v (ix a 0)) λx=>
 stK 1 x w g λal e=>
 vK (aR d) λy=>
 vK (aB 0 y) λz=>
 vK (ldV e z) λaa=>
 vK (bu 1 aa (ix a 0)) λab=>
 vK (ldV e ab) λac=>
 vK (bu 1 ac (ix a 0)) λad=>
 stK 1 ad aH e λam ae=>
 vK (ak .i .add (ix a 0) aH) λag=>
 r [ag] ae)) (
 R d b)
theorem QY (H:Gh a0 h R):ag prog nG #[a0] h R:=fk f75 (.s .z (.s .z (.s .z (.s (.s .z (.l 274877775888 [17] (.s .z (.s (.s .z .z) (.s (.s .z (.s (.d (.op 0 .r (.op 1 .r (.op 2 .r (.op 3 .r (.op 4 .r (.op 5 .r (.op 6 .e (.op 7 .r (.op 8 .n .nil)))))))))) .z)) .z))))) (.s .z .z))))) H
def wG (a0 a1 a2 a3 a4 a5:Value)(h:ah)(R:Value→ah→Prop):Prop:=
 bJ h λS=>
 vK (aR a0) λa=>
 vK (aB 5 a) λb=>
 vK (aR a0) λc=>
 vK (aB 4 c) λd=>
 qK S (λh=>ldV h d) λe=>
 vK (ak .i .add a3 a4) λf=>
 ag prog kQ #[e,a1] h λg j=>
 vK ((aM #[ai,(.slice none 0 0),ai,ai,ai,(.bool false)] [(0,1,a1),(1,1,g),(2,1,a2),(3,1,a3),(4,1,f),(5,1,a5)]).map .agg) λk=>
 ag prog me #[b,k] j λm l=>
 R (.tuple #[]) l
theorem GF (H:wG a0 a1 a2 a3 a4 a5 h R):ag prog dN #[a0,a1,a2,a3,a4,a5] h R:=fk f76 (.d (.op 0 .r (.op 1 .r (.op 2 .r (.op 3 .r (.op 4 .r (.op 5 .r (.op 6 .r (.op 7 .r (.op 8 .r (.op 10 .r (.op 11 .r (.op 12 .r (.op 13 .r (.op 14 .r (.op 15 .r (.op 9 .n (.op 16 .r (.op 17 .n .nil))))))))))))))))))) H
def F9 (a0:Value)(h:ah)(R:Value→ah→Prop):Prop:=
 ag prog bL #[a0] h λa b=>
 ag prog bN #[a0] b λc d=>
 vK (ak .i .mul a c) λe=>
 ag prog aV #[a0] d λf g=>
 vK (ak .i .mul e f) λj=>
 R j g
theorem QQ (H:F9 a0 h R):ag prog sD #[a0] h R:=fk f77 (.s .z (.s .z .z)) H
def rA (a0:Value)(h:ah)(R:Value→ah→Prop):Prop:=
 bJ h λS=>
 vK (aR a0) λb=>
 vK (aB 0 b) λc=>
 qK S (λh=>ldV h c) λd=>
 vK (aR a0) λe=>
 vK (aB 1 e) λf=>
 qK S (λh=>ldV h f) λg=>
 vK (aR a0) λi=>
 vK (aB 2 i) λj=>
 qK S (λh=>ldV h j) λk=>
 vK (aR a0) λl=>
 vK (aB 3 l) λm=>
 qK S (λh=>ldV h m) λn=>
 vK (aR a0) λo=>
 vK (aB 4 o) λp=>
 qK S (λh=>ldV h p) λq=>
 ag prog dx #[q] h λr a=>
 S a∧(vK ((aM #[ai,ai,ai,ai,(.slice none 0 0)] [(0,1,d),(1,1,g),(2,1,k),(3,1,n),(4,1,r)]).map .agg) λs=>
 aW (Value.cells s) 110 a λt u=>
 R t u)
theorem BB (H:rA a0 h R):ag prog mc #[a0] h R:=fk f78 (.s .z (.s (.d (.op 0 .r (.op 1 .r (.op 2 .r (.op 3 .r (.op 4 .r (.op 5 .r (.op 6 .r (.op 7 .r (.op 8 .r (.op 9 .r (.op 10 .r (.op 11 .r (.op 12 .r (.op 13 .r (.op 14 .r (.op 15 .r (.op 16 .r (.op 17 .r (.op 18 .r (.op 19 .r (.op 20 .e (.op 21 .r (.op 22 .n (.op 23 .r .nil))))))))))))))))))))))))) .z)) H
def pK (a0 a1 a2 a3:Value)(h:ah)(R:Value→ah→Prop):Prop:=
 vK (ak .i .lss a1 ai) λa=>
 vK (gV a false (some a1)) λf=>
 vK (gV a false (some a0)) λg=>
 vK (gV a false (aR g)) λj=>
 vK (gV a false (aB 0 j)) λk=>
 vK (gV a false (ldV h k)) λl=>
 vK (gV a false (ak .i .geq f l)) λm=>
 vK (aE a (.bool true) m) λd=>
 vK (gV d false (some a2)) λn=>
 vK (gV d false (ak .i .lss n ai)) λo=>
 vK (aE d (.bool true) o) λb=>
 vK (gV b false (some a2)) λp=>
 vK (gV b false (some a0)) λq=>
 vK (gV b false (aR q)) λr=>
 vK (gV b false (aB 1 r)) λs=>
 vK (gV b false (ldV h s)) λt=>
 vK (gV b false (ak .i .geq p t)) λu=>
 vK (aE b (.bool true) u) λe=>
 vK (gV e false (some a3)) λv=>
 vK (gV e false (ak .i .lss v ai)) λw=>
 vK (aE e (.bool true) w) λc=>
 vK (gV c false (some a3)) λx=>
 vK (gV c false (some a0)) λy=>
 vK (gV c false (aR y)) λz=>
 vK (gV c false (aB 2 z)) λaa=>
 vK (gV c false (ldV h aa)) λab=>
 vK (gV c false (ak .i .geq x ab)) λac=>
 vK (aE c (.bool true) ac) λad=>
 aF ad (
 R (af (-1)) h) (
 vK (aR a0) λae=>
 vK (aB 0 ae) λag=>
 vK (ldV h ag) λaj=>
 vK (ak .i .mul a2 aj) λal=>
 vK (ak .i .add al a1) λam=>
 vK (aR a0) λan=>
 vK (aB 2 an) λao=>
 vK (ldV h ao) λap=>
 vK (ak .i .mul am ap) λaq=>
 vK (ak .i .add aq a3) λar=>
 R ar h)
theorem AC (H:pK a0 a1 a2 a3 h R):ag prog iR #[a0,a1,a2,a3] h R:=fk f79 (.s .z (.s (.s .z (.s (.s .z .z) .z)) (.s .z .z))) H
def DY (a0 a1 a2 a3 a4:Value)(h:ah)(R:Value→ah→Prop):Prop:=
 vK (ak .i .rem a0 (.int .u16 20)) λn=>
 vK (gd .i64 n) λo=>
 vK (ak .i .add aH o) λd=>
 vK (ak .i .rem a1 (.int .u16 20)) λp=>
 vK (gd .i64 p) λq=>
 vK (ak .i .add aH q) λe=>
 vK (ak .i .rem a2 (.int .u16 2)) λr=>
 vK (gd .i64 r) λs=>
 vK (ak .i .mul (af 2) s) λt=>
 vK (ak .i .add aH t) λf=>
 vK (gd .i64 a3) λu=>
 vK (ak .i .rem u (af 65535)) λv=>
 vK (ak .i .add aH v) λg=>
 vK (ak .i .mul d e) λw=>
 vK (ak .i .mul w f) λj=>
 mkK (.int .u16 0) 22 1 2 j j h λc x=>
 vK (aD c) λy=>
 aZ [ai] x λb a6 a k=>
 vK (ak .i .lss (ix b 0) y) λz=>
 aF z (
 vK (aD a4) λaa=>
 vK (ak .i .gtr aa ai) λab=>
 aF ab (
 bJ a λS=>
 qK S (λa=>aD a4) λac=>
 vK (ak .i .rem (ix b 0) ac) λad=>
 vK (bu 1 a4 ad) λae=>
 qK S (λa=>ldV a ae) λaj=>
 vK (gd .i64 aj) λal=>
 qK S (λa=>aD a4) λam=>
 vK (ak .i .quo (ix b 0) am) λan=>
 vK (ak .i .add al an) λao=>
 vK (ak .i .add g aH) λap=>
 vK (ak .i .rem ao ap) λaq=>
 vK (gd .u16 aq) λar=>
 vK (bu 1 c (ix b 0)) λau=>
 stK 1 au ar a λa7 av=>
 vK (ak .i .add (ix b 0) aH) λaw=>
 k [aw] av) (
 vK (ak .i .add (ix b 0) aH) λax=>
 k [ax] a)) (
 ag prog sC #[d,e,f,g,c] a λl m=>
 vK (aL l 0) λay=>
 vK (aL l 1) λaz=>
 vK (ak .i .neq az ai) λa5=>
 aF a5 (
 R (.pointer none) m) (
 R ay m))
theorem OF (H:DY a0 a1 a2 a3 a4 h R):ag prog zW #[a0,a1,a2,a3,a4] h R:=fk f80 (.s .z (.s .z (.s .z (.s .z (.s (.s .z (.l 2361183223842636627968 [44] (.s .z (.s (.s .z .z) (.s (.s .z (.s .z (.s (.d (.op 0 .r (.op 1 .r (.op 2 .r (.op 3 .r (.op 4 .r (.op 5 .r (.op 6 .r (.op 7 .r (.op 8 .r (.op 9 .r (.op 10 .r (.op 11 .r (.op 12 .r (.op 13 .r (.op 14 .r (.op 15 .r (.op 16 .r (.op 17 .r (.op 18 .r (.op 19 .r (.op 20 .n .nil)))))))))))))))))))))) .z))) .z))))) (.s .z (.s (.s .z (.s (.s .z .z) .z)) (.s .z .z)))))))) H
def Ao (a0 a1:Value)(h:ah)(R:Value→ah→Prop):Prop:=
 vK (aD a0) λp=>
 aZ [ai] h λn bg o q=>
 vK (ak .i .lss (ix n 0) p) λr=>
 aF r (
 vK (bu 9 a0 (ix n 0)) λs=>
 vK (aO 9 o s) λt=>
 aW #[ai,ai,ai,ai,(.slice none 0 0),(.slice none 0 0),ai,ai,ai] 31 o λb u=>
 stK 9 b t u λbh a=>
 vK (aB 4 b) λv=>
 vK (ldV a v) λw=>
 vK (aD w) λx=>
 vK (ak .i .gtr x (af 40)) λg=>
 vK (gV g false (aB 5 b)) λy=>
 vK (gV g false (ldV a y)) λz=>
 vK (gV g false (aD z)) λaa=>
 vK (gV g false (ak .i .gtr aa (af 40))) λab=>
 vK (aE g (.bool true) ab) λe=>
 vK (gV e false (aB 2 b)) λac=>
 vK (gV e false (ldV a ac)) λad=>
 vK (gV e false (ak .i .gtr ad (af 262144))) λae=>
 vK (gV e false (some ae)) λj=>
 vK (gV j true (aB 2 b)) λag=>
 vK (gV j true (ldV a ag)) λaj=>
 vK (gV j true (ak .i .leq aj (af 4194304))) λal=>
 vK (gV e false (aE j al (.bool false))) λam=>
 vK (aE e (.bool true) am) λf=>
 vK (gV f false (aB 3 b)) λan=>
 vK (gV f false (ldV a an)) λao=>
 vK (gV f false (ak .i .gtr ao (af 20))) λap=>
 vK (gV f false (some ap)) λk=>
 vK (gV k true (aB 3 b)) λaq=>
 vK (gV k true (ldV a aq)) λar=>
 vK (gV k true (ak .i .lss ar (af 512))) λau=>
 vK (gV f false (aE k au (.bool false))) λav=>
 vK (aE f (.bool true) av) λc=>
 vK (gV c false (aB 7 b)) λaw=>
 vK (gV c false (ldV a aw)) λax=>
 vK (gV c false (some a1)) λay=>
 vK (gV c false (ak .i .gtr ax ay)) λaz=>
 vK (gV c false (some az)) λl=>
 vK (gV l true (aB 7 b)) λa2=>
 vK (gV l true (ldV a a2)) λa3=>
 vK (gV l true (ak .i .leq a3 (af 65536))) λa4=>
 vK (gV c false (aE l a4 (.bool false))) λa5=>
 vK (aE c (.bool true) a5) λd=>
 vK (gV d false (aB 8 b)) λa6=>
 vK (gV d false (ldV a a6)) λa7=>
 vK (gV d false (some a1)) λa8=>
 vK (gV d false (ak .i .gtr a7 a8)) λa9=>
 vK (gV d false (some a9)) λm=>
 vK (gV m true (aB 8 b)) λba=>
 vK (gV m true (ldV a ba)) λbb=>
 vK (gV m true (ak .i .leq bb (af 65536))) λbc=>
 vK (gV d false (aE m bc (.bool false))) λbd=>
 vK (aE d (.bool true) bd) λbe=>
 aF be (
 R (.bool false) a) (
 vK (ak .i .add (ix n 0) aH) λbf=>
 q [bf] a)) (
 R (.bool true) o)
theorem Ks (H:Ao a0 a1 h R):ag prog vS #[a0,a1] h R:=fk f81 (.s .z (.s (.s .z (.l 73786976294838206032 [9] (.s .z (.s (.s .z .z) (.s (.s .z (.s .z (.s (.s .z .z) .z))) .z))))) (.s .z .z))) H
def Pc (a0 a1 a2 a3:Value)(h:ah)(R:Value→ah→Prop):Prop:=
 vK (aD a0) λp=>
 vK (ak .i .gtr p (af 16)) λq=>
 aF q (
 R (.tuple #[(.slice none 0 0),(af 6)]) h) (
 ag prog my #[a1,a2,a3] h λr f=>
 vK (unV .not r) λs=>
 aF s (
 R (.tuple #[(.slice none 0 0),(af 5)]) f) (
 vK (aD a0) λt=>
 aZ [a1,a2,(.slice none 0 0),ai] f λa av b u=>
 vK (ak .i .lss (ix a 3) t) λv=>
 aF v (
 vK (bu 9 a0 (ix a 3)) λw=>
 vK (aO 9 b w) λx=>
 aW #[ai,ai,ai,ai,(.slice none 0 0),(.slice none 0 0),ai,ai,ai] 31 b λc y=>
 stK 9 c x y λaw g=>
 vK (aO 9 g c) λz=>
 ag prog nF #[z,(ix a 0),(ix a 1)] g λj aa=>
 vK (aL j 0) λab=>
 vK (aL j 1) λk=>
 aW #[(.pointer none),(.pointer none),ai] 81 aa λl ac=>
 stK 3 l ab ac λax d=>
 vK (ak .i .neq k ai) λad=>
 aF ad (
 R (.tuple #[(.slice none 0 0),k]) d) (
 vK (aO 9 d c) λae=>
 ag prog Jm #[ae,(ix a 0),(ix a 1)] d λm aj=>
 vK (aL m 0) λn=>
 vK (aL m 1) λo=>
 ag prog my #[n,o,a3] aj λal e=>
 vK (unV .not al) λam=>
 aF am (
 R (.tuple #[(.slice none 0 0),(af 5)]) e) (
 vK (aO 3 e l) λan=>
 df #[(.pointer none),(.pointer none),ai] 81 1 [(0,3,an)] e λao ap=>
 di (.agg #[.pointer none,.pointer none,ai]) 81 3 24 (ix a 2) ao ap λaq ar=>
 vK (ak .i .add (ix a 3) aH) λau=>
 u [n,o,aq,au] ar))) (
 R (.tuple #[(ix a 2),ai]) b)))
theorem XD (H:Pc a0 a1 a2 a3 h R):ag prog NP #[a0,a1,a2,a3] h R:=fk f82 (.s .z (.s (.s .z (.s (.s .z .z) (.s .z (.s (.s .z .z) .z)))) (.s .z (.s (.s .z (.l 288230376017524486 [1,2,10,27] (.s .z (.s (.s .z .z) (.s (.s .z (.s .z (.s (.s .z (.s (.s .z .z) .z)) (.s (.s .z (.s .z (.s (.s .z .z) .z))) .z)))) .z))))) (.s .z .z))))) H
def FR (a0 a1 a2 a3:Value)(h:ah)(R:Value→ah→Prop):Prop:=
 vK (aD a0) λp=>
 vK (ak .i .gtr p (af 16)) λq=>
 aF q (
 R (.tuple #[(.slice none 0 0),(af 6)]) h) (
 ag prog uB #[a1,a2,a3] h λr f=>
 vK (unV .not r) λs=>
 aF s (
 R (.tuple #[(.slice none 0 0),(af 5)]) f) (
 vK (aD a0) λt=>
 aZ [a1,a2,(.slice none 0 0),ai] f λa av b u=>
 vK (ak .i .lss (ix a 3) t) λv=>
 aF v (
 vK (bu 9 a0 (ix a 3)) λw=>
 vK (aO 9 b w) λx=>
 aW #[ai,ai,ai,ai,(.slice none 0 0),(.slice none 0 0),ai,ai,ai] 232 b λc y=>
 stK 9 c x y λaw g=>
 vK (aO 9 g c) λz=>
 ag prog zK #[z,(ix a 0),(ix a 1)] g λj aa=>
 vK (aL j 0) λab=>
 vK (aL j 1) λk=>
 aW #[(.slice none 0 0),(.slice none 0 0),ai,ai,ai] 38 aa λl ac=>
 stK 5 l ab ac λax d=>
 vK (ak .i .neq k ai) λad=>
 aF ad (
 R (.tuple #[(.slice none 0 0),k]) d) (
 vK (aO 9 d c) λae=>
 ag prog zJ #[ae,(ix a 0),(ix a 1)] d λm aj=>
 vK (aL m 0) λn=>
 vK (aL m 1) λo=>
 ag prog uB #[n,o,a3] aj λal e=>
 vK (unV .not al) λam=>
 aF am (
 R (.tuple #[(.slice none 0 0),(af 5)]) e) (
 vK (aO 5 e l) λan=>
 df #[(.slice none 0 0),(.slice none 0 0),ai,ai,ai] 38 1 [(0,5,an)] e λao ap=>
 di (.agg #[.slice none 0 0,.slice none 0 0,ai,ai,ai]) 38 5 72 (ix a 2) ao ap λaq ar=>
 vK (ak .i .add (ix a 3) aH) λau=>
 u [n,o,aq,au] ar))) (
 R (.tuple #[(ix a 2),ai]) b)))
theorem QG (H:FR a0 a1 a2 a3 h R):ag prog Cl #[a0,a1,a2,a3] h R:=fk f83 (.s .z (.s (.s .z (.s (.s .z .z) .z)) (.s (.s .z (.s (.s .z .z) .z)) (.s .z (.s (.s .z (.l 72057594004403974 [1,2,10,25] (.s .z (.s (.s .z .z) (.s (.s .z (.s .z (.s (.s .z (.s (.s .z .z) .z)) (.s .z (.s (.s .z (.s (.s .z .z) .z)) .z))))) .z))))) (.s .z .z)))))) H
def DX (a0:Value)(h:ah)(R:Value→ah→Prop):Prop:=
 vK (aD a0) λe=>
 aZ [(.slice none 0 0),ai] h λa u b f=>
 vK (ak .i .lss (ix a 1) e) λg=>
 aF g (
 vK (bu 9 a0 (ix a 1)) λj=>
 vK (aO 9 b j) λk=>
 aW #[ai,ai,ai,ai,(.slice none 0 0),(.slice none 0 0),ai,ai,ai] 31 b λc l=>
 stK 9 c k l λv d=>
 vK (aO 9 d c) λm=>
 ag prog Ct #[m] d λn o=>
 df #[ai,ai,ai,ai,(.slice none 0 0),(.slice none 0 0),ai,ai,ai] 232 1 [(0,9,n)] o λp q=>
 di (.agg #[ai,ai,ai,ai,.slice none 0 0,.slice none 0 0,ai,ai,ai]) 232 9 104 (ix a 0) p q λr s=>
 vK (ak .i .add (ix a 1) aH) λt=>
 f [r,t] s) (
 R (ix a 0) b)
theorem OE (H:DX a0 h R):ag prog zV #[a0] h R:=fk f84 (.s .z (.s .z (.s (.s .z (.l 261928 [3,8] (.s .z (.s (.s .z .z) (.s (.s .z .z) .z))))) (.s .z .z)))) H
def FQ (a0 a1 a2:Value)(h:ah)(R:Value→ah→Prop):Prop:=
 aW (Value.cells a0) 38 h λc t=>
 aZ [(.slice none 0 0),ai] t λd ca j u=>
 vK (aB 1 c) λv=>
 vK (ldV j v) λw=>
 vK (aD w) λx=>
 vK (ak .i .lss (ix d 1) x) λy=>
 aF y (
 aZ [(ix d 0),ai] j λa cb e z=>
 vK (aB 0 c) λaa=>
 vK (ldV e aa) λab=>
 vK (aD ab) λac=>
 vK (ak .i .lss (ix a 1) ac) λad=>
 aF ad (
 vK (aD (ix a 0)) λae=>
 vK (aB 1 c) λaf=>
 vK (ldV e af) λaj=>
 ag prog zI #[aj] e λal am=>
 vK ((aM #[ai,ai,ai,ai,ai,ai,ai,ai,ai,ai] [(0,1,ae),(1,1,(ix a 1)),(2,1,(ix d 1)),(3,1,a1),(4,1,a2),(9,1,al)]).map .agg) λan=>
 aW #[ai,ai,ai,ai,ai,ai,ai,ai,ai,ai] 59 am λb ao=>
 stK 10 b an ao λcc f=>
 eK (λo=>
 vK (ak .i .add (ix a 1) a1) λap=>
 vK (aB 0 c) λaq=>
 vK (ldV f aq) λar=>
 vK (aD ar) λau=>
 vK (ak .i .gtr ap au) λav=>
 aF av (
 vK (aB 0 c) λaw=>
 vK (ldV f aw) λax=>
 vK (aD ax) λay=>
 vK (ak .i .sub ay (ix a 1)) λaz=>
 vK (aB 3 b) λa3=>
 stK 1 a3 az f λcd a4=>
 o [] a4) (
 o [] f))
 λce cf g=>
 eK (λp=>
 vK (ak .i .add (ix d 1) a2) λa5=>
 vK (aB 1 c) λa6=>
 vK (ldV g a6) λa7=>
 vK (aD a7) λa8=>
 vK (ak .i .gtr a5 a8) λa9=>
 aF a9 (
 vK (aB 1 c) λba=>
 vK (ldV g ba) λbb=>
 vK (aD bb) λbc=>
 vK (ak .i .sub bc (ix d 1)) λbd=>
 vK (aB 4 b) λbe=>
 stK 1 be bd g λcg bf=>
 p [] bf) (
 p [] g))
 λch ci k=>
 vK (aB 0 c) λbg=>
 vK (ldV k bg) λbh=>
 vK (aB 3 b) λbi=>
 vK (ldV k bi) λbj=>
 vK (ak .i .add (ix a 1) bj) λbk=>
 ag prog qU #[bh,(ix a 1),bk] k λl m=>
 vK (aL l 0) λq=>
 vK (aL l 1) λbl=>
 vK (aL l 2) λcj=>
 vK (aB 1 c) λbm=>
 vK (ldV m bm) λbn=>
 vK (aB 4 b) λbo=>
 vK (ldV m bo) λbp=>
 vK (ak .i .add (ix d 1) bp) λbq=>
 ag prog qU #[bn,(ix d 1),bq] m λn br=>
 vK (aL n 0) λr=>
 vK (aL n 1) λbs=>
 vK (aL n 2) λck=>
 vK (aB 5 b) λbt=>
 stK 1 bt q br λcl bu=>
 vK (ak .i .sub bl q) λbv=>
 vK (aB 7 b) λbw=>
 stK 1 bw bv bu λcm bx=>
 vK (aB 6 b) λbz=>
 stK 1 bz r bx λcn b0=>
 vK (ak .i .sub bs r) λb1=>
 vK (aB 8 b) λb2=>
 stK 1 b2 b1 b0 λco s=>
 vK (aO 10 s b) λb3=>
 df #[ai,ai,ai,ai,ai,ai,ai,ai,ai,ai] 59 1 [(0,10,b3)] s λb4 b5=>
 di (.agg #[ai,ai,ai,ai,ai,ai,ai,ai,ai,ai]) 59 10 80 (ix a 0) b4 b5 λb6 b7=>
 vK (ak .i .add (ix a 1) a1) λb8=>
 z [b6,b8] b7) (
 vK (ak .i .add (ix d 1) a2) λb9=>
 u [(ix a 0),b9] e)) (
 R (ix d 0) j)
theorem QF (H:FQ a0 a1 a2 h R):ag prog lz #[a0,a1,a2] h R:=fk f85 (.s .z (.s .z (.s (.s .z (.l 649037107316853453566312041152384 [7,8] (.s (.s .z (.s .z .z)) (.s (.s .z (.l 649037107316853453566312007728768 [7,9] (.s (.s .z (.s .z .z)) (.s (.s .z (.j 72048797944905728 [] (.s .z (.s .z .z)) (.j 590223752764667723776 [] (.s .z (.s .z .z)) (.s .z (.s .z (.s .z (.s .z (.s .z (.s .z .z))))))))) .z)))) .z)))) (.s .z .z)))) H
def FP (a0:Value)(h:ah)(R:Value→ah→Prop):Prop:=
 aW #[ai,(.slice none 0 0),(.bool false)] 43 h λa b=>
 vK (ak .i .lss a0 aH) λg=>
 aF g (
 vK (ak .i .gtr aH (af 4096)) λj=>
 aF j (
 vK ((aM #[ai,(.slice none 0 0),(.bool false)] [(0,1,(af 4096))]).map .agg) λk=>
 stK 3 a k b λt c=>
 vK (aO 3 c a) λl=>
 R l c) (
 vK ((aM #[ai,(.slice none 0 0),(.bool false)] [(0,1,aH)]).map .agg) λm=>
 stK 3 a m b λu d=>
 vK (aO 3 d a) λn=>
 R n d)) (
 vK (ak .i .gtr a0 (af 4096)) λo=>
 aF o (
 vK ((aM #[ai,(.slice none 0 0),(.bool false)] [(0,1,(af 4096))]).map .agg) λp=>
 stK 3 a p b λv e=>
 vK (aO 3 e a) λq=>
 R q e) (
 vK ((aM #[ai,(.slice none 0 0),(.bool false)] [(0,1,a0)]).map .agg) λr=>
 stK 3 a r b λw f=>
 vK (aO 3 f a) λs=>
 R s f))
theorem QE (H:FP a0 h R):ag prog ll #[a0] h R:=fk f86 (.s .z (.s (.s .z (.s .z .z)) (.s (.s .z (.s .z .z)) (.s .z .z)))) H
def FO (a0:Value)(h:ah)(R:Value→ah→Prop):Prop:=
 eK (λc=>
 vK (ak .i .lss a0 aH) λk=>
 aF k (
 c [aH] h) (
 c [a0] h))
 λd x e=>
 eK (λf=>
 vK (ak .i .gtr (ix d 0) (af 512)) λl=>
 aF l (
 f [(af 512)] e) (
 f [(ix d 0)] e))
 λb y m=>
 aZ [(.slice none 0 0),ai] m λa z g n=>
 vK (ak .i .lss (ix a 1) (ix b 0)) λo=>
 aF o (
 mkK ai 3 1 8 (ix b 0) (ix b 0) g λj p=>
 vK (bu 1 j (ix a 1)) λq=>
 stK 1 q aH p λaa r=>
 df #[(.slice none 0 0)] 41 1 [(0,1,j)] r λs t=>
 di (.slice none 0 0) 41 1 24 (ix a 0) s t λu v=>
 vK (ak .i .add (ix a 1) aH) λw=>
 n [u,w] v) (
 R (ix a 0) g)
theorem QC (H:FO a0 h R):ag prog lk #[a0] h R:=fk f87 (.s .z (.j 193 [0] (.s .z (.s .z .z)) (.j 769 [0] (.s .z (.s .z .z)) (.s .z (.s (.s .z (.l 16775224 [3,11] (.s .z (.s (.s .z .z) (.s (.s .z (.s .z (.s .z .z))) .z))))) (.s .z .z)))))) H
def AO (a0 a1 a2:Value)(h:ah)(R:Value→ah→Prop):Prop:=
 aW (Value.cells a0) 38 h λo p=>
 vK (aB 1 o) λw=>
 vK (ldV p w) λq=>
 vK (aD q) λx=>
 aZ [ai,ai] p λb bt f r=>
 vK (ak .i .lss (ix b 1) x) λy=>
 aF y (
 vK (bu 2 q (ix b 1)) λz=>
 vK (aO 2 f z) λaa=>
 aW #[ai,(.slice none 0 0)] 240 f λg ab=>
 stK 2 g aa ab λbv d=>
 vK (aB 1 g) λac=>
 vK (ldV d ac) λad=>
 vK (aD ad) λae=>
 vK (ak .i .gtr ae (ix b 0)) λaj=>
 aF aj (
 vK (aB 1 g) λal=>
 vK (ldV d al) λam=>
 vK (aD am) λan=>
 vK (ak .i .add (ix b 1) aH) λao=>
 r [an,ao] d) (
 vK (ak .i .add (ix b 1) aH) λap=>
 r [(ix b 0),ap] d)) (
 aZ [(.slice none 0 0),(.slice none 0 0),ai] f λc bw e aq=>
 vK (ak .i .lss (ix c 2) a2) λar=>
 aF ar (
 vK (aB 1 o) λau=>
 vK (ldV e au) λav=>
 vK (ak .i .add a1 (ix c 2)) λaw=>
 vK (bu 2 av aw) λax=>
 vK (aO 2 e ax) λay=>
 aW #[ai,(.slice none 0 0)] 240 e λj az=>
 stK 2 j ay az λbx s=>
 vK (aB 1 j) λa3=>
 vK (ldV s a3) λa4=>
 vK (aD a4) λa5=>
 aZ [(ix c 0),(ix c 1),ai] s λa bz k l=>
 vK (ak .i .lss (ix a 2) a5) λa6=>
 aF a6 (
 vK (aB 0 j) λa7=>
 vK (ldV k a7) λa8=>
 vK (ak .i .add a8 (ix a 2)) λm=>
 ag prog Fx #[(ix a 1),m] k λa9 t=>
 aF a9 (
 vK (ak .i .add (ix a 2) aH) λba=>
 l [(ix a 0),(ix a 1),ba] t) (
 vK ((aM #[ai,ai] [(0,1,aH),(1,1,m)]).map .agg) λbb=>
 df #[ai,ai] 198 1 [(0,2,bb)] t λbc bd=>
 di (.agg #[ai,ai]) 198 2 16 (ix a 0) bc bd λu be=>
 df #[ai] 2 1 [(0,1,m)] be λbf bg=>
 di ai 2 1 8 (ix a 1) bf bg λn v=>
 vK (aD n) λbh=>
 vK (ak .i .gtr bh (ix b 0)) λbi=>
 aF bi (
 vK (xj 1 n (some aH) none) λbj=>
 vK (ak .i .add (ix a 2) aH) λbk=>
 l [u,bj,bk] v) (
 vK (ak .i .add (ix a 2) aH) λbl=>
 l [u,n,bl] v))) (
 vK (ak .i .add a1 (ix c 2)) λbm=>
 vK ((aM #[ai,ai] [(0,1,(af 2)),(1,1,bm)]).map .agg) λbn=>
 df #[ai,ai] 198 1 [(0,2,bn)] k λbo bp=>
 di (.agg #[ai,ai]) 198 2 16 (ix a 0) bo bp λbq br=>
 vK (ak .i .add (ix c 2) aH) λbs=>
 aq [bq,(ix a 1),bs] br)) (
 R (ix c 0) e))
theorem LX (H:AO a0 a1 a2 h R):ag prog xD #[a0,a1,a2] h R:=fk f88 (.s .z (.s .z (.s (.s .z (.l 4294443648 [7,19] (.s .z (.s (.s .z .z) (.s (.s .z (.s .z (.s .z .z))) .z))))) (.s .z (.s .z (.s (.s .z (.l 1208925819614620584836096 [10,11,33] (.s .z (.s (.s .z .z) (.s (.s .z (.s .z (.s (.s .z (.l 4722366412500901088256 [10,11,46] (.s .z (.s (.s .z .z) (.s (.s .z (.s .z (.s (.s .z (.s .z .z)) (.s .z (.s .z (.s .z (.s .z .z))))))) .z))))) .z))) .z))))) (.s .z .z))))))) H
def Dz (a0 a1 a2 a3 a4 a5:Value)(h:ah)(R:Value→ah→Prop):Prop:=
 aW (Value.cells a0) 48 h λb y=>
 aW aJ 48 y λj c=>
 vK (aB 11 b) λz=>
 vK (ldV c z) λaa=>
 vK (bu 1 aa a1) λab=>
 vK (ldV c ab) λac=>
 vK (ak .i .add a3 a4) λad=>
 vK ((aM #[ai,(.slice none 0 0),ai,ai,ai,(.bool false)] [(0,1,a1),(1,1,ac),(2,1,a2),(3,1,a3),(4,1,ad),(5,1,a5)]).map .agg) λae=>
 aW #[ai,(.slice none 0 0),ai,ai,ai,(.bool false)] 124 c λk af=>
 stK 6 k ae af λba a=>
 eK (λd=>
 bJ a λS=>
 vK (aB 13 b) λag=>
 qK S (λa=>ldV a ag) λe=>
 qK S (λa=>aO 6 a k) λf=>
 (df #[] 124 0 [] a λl g=>
 S g∧((di (.agg #[ai,.slice none 0 0,ai,ai,ai,.bool false]) 124 6 64 l e g λaj m=>
 S m∧(df #[ai,(.slice none 0 0),ai,ai,ai,(.bool false)] 124 1 [(0,6,f)] m λal n=>
 S n∧(di (.agg #[ai,.slice none 0 0,ai,ai,ai,.bool false]) 124 6 64 aj al n λam o=>
 S o∧(vK (aB 13 b) λan=>
 stK 1 an am o λbb ao=>
 d [] ao))))∧(df #[ai,(.slice none 0 0),ai,ai,ai,(.bool false)] 124 1 [(0,6,f)] g λap p=>
 S p∧(di (.agg #[ai,.slice none 0 0,ai,ai,ai,.bool false]) 124 6 64 l e p λaq q=>
 S q∧(di (.agg #[ai,.slice none 0 0,ai,ai,ai,.bool false]) 124 6 64 aq ap q λar r=>
 S r∧(vK (aB 13 b) λau=>
 stK 1 au ar r λbc av=>
 d [] av))))))∧(df #[ai,(.slice none 0 0),ai,ai,ai,(.bool false)] 124 1 [(0,6,f)] a λaw s=>
 S s∧(df #[] 124 0 [] s λax t=>
 S t∧(di (.agg #[ai,.slice none 0 0,ai,ai,ai,.bool false]) 124 6 64 ax e t λay u=>
 S u∧(di (.agg #[ai,.slice none 0 0,ai,ai,ai,.bool false]) 124 6 64 ay aw u λaz v=>
 S v∧(vK (aB 13 b) λa6=>
 stK 1 a6 az v λbd a7=>
 d [] a7))))))
 λbe bf w=>
 vK (aO 20 w b) λa8=>
 stK 20 j a8 w λbg x=>
 vK (aO 20 x j) λa9=>
 R a9 x
theorem Oc (H:Dz a0 a1 a2 a3 a4 a5 h R):ag prog uA #[a0,a1,a2,a3,a4,a5] h R:=fk f89 (.s .z (.s .z (.j 34225520640 [] (.d (.op 1 .r (.op 2 .r (.op 4 .r (.alt (.op 0 .e (.alt (.op 3 .e (.op 5 .e (.op 6 .e (.op 7 .r (.op 8 .n .nil))))) (.op 5 .e (.op 3 .e (.op 6 .e (.op 7 .r (.op 8 .n .nil))))))) (.op 5 .e (.op 0 .e (.op 3 .e (.op 6 .e (.op 7 .r (.op 8 .n .nil))))))))))) (.s .z .z)))) H
def nR (a0:Value)(h:ah)(R:Value→ah→Prop):Prop:=
 vK (aR a0) λb=>
 vK (aB 2 b) λc=>
 vK (ldV h c) λa=>
 vK (gV a false (some a0)) λd=>
 vK (gV a false (aR d)) λe=>
 vK (gV a false (aB 1 e)) λf=>
 vK (gV a false (ldV h f)) λg=>
 vK (gV a false (aD g)) λj=>
 vK (gV a false (some a0)) λk=>
 vK (gV a false (aR k)) λl=>
 vK (gV a false (aB 0 l)) λm=>
 vK (gV a false (ldV h m)) λn=>
 vK (gV a false (ak .i .lss j n)) λo=>
 vK (aE a (.bool true) o) λp=>
 R p h
theorem yV (H:nR a0 h R):ag prog iz #[a0] h R:=fk f90 (.s .z (.s .z .z)) H
def pM (a0:Value)(h:ah)(R:Value→ah→Prop):Prop:=
 vK (aR a0) λa=>
 vK (aB 2 a) λb=>
 vK (ldV h b) λc=>
 R c h
theorem AE (H:pM a0 h R):ag prog iS #[a0] h R:=fk f91 (.s .z (.s .z .z)) H
def wI (a0:Value)(h:ah)(R:Value→ah→Prop):Prop:=
 vK (aR a0) λa=>
 vK (aB 11 a) λb=>
 vK (ldV h b) λc=>
 vK (aD c) λd=>
 vK (aR a0) λe=>
 vK (aB 6 e) λf=>
 vK (ldV h f) λg=>
 vK (aD g) λj=>
 vK (ak .i .eql d j) λk=>
 R k h
theorem GH (H:wI a0 h R):ag prog qN #[a0] h R:=fk f92 (.s .z (.s .z .z)) H
def tE (a0 a1:Value)(h:ah)(R:Value→ah→Prop):Prop:=
 vK (aR a0) λb=>
 vK (aB 2 b) λc=>
 vK (ldV h c) λd=>
 aF d (
 R (af 2) h) (
 ag prog iz #[a0] h λe a=>
 vK (unV .not e) λf=>
 aF f (
 R aH a) (
 vK (aR a0) λg=>
 vK (aB 1 g) λi=>
 vK (ldV a i) λj=>
 df #[ai] 3 1 [(0,1,a1)] a λk l=>
 di ai 3 1 8 j k l λm n=>
 vK (aR a0) λo=>
 vK (aB 1 o) λp=>
 stK 1 p m n λr q=>
 R ai q))
theorem Dj (H:tE a0 a1 h R):ag prog ng #[a0,a1] h R:=fk f93 (.s .z (.s (.s .z (.s (.s .z .z) (.s .z (.s (.s .z .z) .z)))) (.s .z (.s .z .z)))) H
def tH (a0 a1:Value)(h:ah)(R:Value→ah→Prop):Prop:=
 ag prog kQ #[a0,a1] h λb d=>
 ag prog jG #[a0,a1] d λe a=>
 aF e (
 vK (aR a0) λf=>
 vK (aB 0 f) λg=>
 vK (ldV a g) λj=>
 vK (bu 1 j a1) λk=>
 vK (ldV a k) λc=>
 vK (bu 1 c a1) λl=>
 vK (ldV a l) λm=>
 vK (ak .i .add m aH) λn=>
 vK (bu 1 c a1) λo=>
 stK 1 o n a λq p=>
 R b p) (
 R b a)
theorem Dn (H:tH a0 a1 h R):ag prog iy #[a0,a1] h R:=fk f94 (.s .z (.s .z (.s (.s .z (.s .z .z)) (.s .z .z)))) H
def tJ (a0 a1 a2:Value)(h:ah)(R:Value→ah→Prop):Prop:=
 ag prog jG #[a0,a1] h λf d=>
 vK (unV .not f) λa=>
 vK (gV a false (some a2)) λg=>
 vK (gV a false (aD g)) λj=>
 vK (gV a false (some a0)) λk=>
 vK (gV a false (aR k)) λl=>
 vK (gV a false (aB 0 l)) λm=>
 vK (gV a false (ldV d m)) λn=>
 vK (gV a false (aD n)) λo=>
 vK (gV a false (ak .i .neq j o)) λp=>
 vK (aE a (.bool true) p) λc=>
 vK (gV c false (some a2)) λq=>
 gK c false (λr=>ag prog gH #[q] d r) d λs b=>
 vK (gV c false (ak .i .lss s ai)) λt=>
 vK (aE c (.bool true) t) λu=>
 aF u (
 R (.bool false) b) (
 bJ b λS=>
 vK (aR a0) λv=>
 vK (aB 0 v) λw=>
 qK S (λb=>ldV b w) λx=>
 vK (aR a0) λy=>
 vK (aB 0 y) λz=>
 qK S (λb=>ldV b z) λaa=>
 vK (bu 1 aa a1) λab=>
 qK S (λb=>ldV b ab) λac=>
 ag prog z7 #[ac,a2] b λad e=>
 S e∧(vK (bu 1 x a1) λae=>
 stK 1 ae ad e λaj af=>
 R (.bool true) af))
theorem Do (H:tJ a0 a1 a2 h R):ag prog fZ #[a0,a1,a2] h R:=fk f95 (.s .z (.s (.s .z (.s (.s .z .z) .z)) (.s (.d (.op 0 .r (.op 1 .r (.op 2 .r (.op 3 .r (.op 4 .r (.op 5 .r (.op 6 .r (.op 7 .r (.op 8 .r (.op 9 .r (.op 10 .r (.op 11 .r (.op 12 .r (.op 13 .e (.op 14 .r (.op 15 .n .nil))))))))))))))))) (.s .z .z)))) H
def rC (a0 a1 a2:Value)(h:ah)(R:Value→ah→Prop):Prop:=
 vK (ldV h a1) λd=>
 ag prog qL #[d,a0] h λb a=>
 vK (ak .p .neq b (.pointer none)) λe=>
 aF e (
 bJ a λS=>
 qK S (λa=>ldV a a1) λf=>
 vK (aR f) λg=>
 vK (aB 7 g) λj=>
 qK S (λa=>ldV a j) λk=>
 qK S (λa=>ldV a a2) λl=>
 vK (ak .i .sub l aH) λm=>
 ag prog jX #[b] a λn c=>
 S c∧(vK (bu 1 k m) λo=>
 stK 1 o n c λr q=>
 R b q)) (
 R b a)
theorem BD (H:rC a0 a1 a2 h R):ag prog gM #[a0,a1,a2] h R:=fk f96 (.s .z (.s .z (.s (.s .z (.s (.d (.op 0 .r (.op 1 .r (.op 2 .r (.op 3 .r (.op 4 .r (.op 5 .r (.op 6 .r (.op 7 .e (.op 8 .r (.op 9 .n .nil))))))))))) .z)) (.s .z .z)))) H
def wF (a0 a1:Value)(h:ah)(R:Value→ah→Prop):Prop:=
 vK (aR a0) λg=>
 vK (aB 2 g) λj=>
 vK (ldV h j) λk=>
 ag prog fY #[k,a1] h λb l=>
 vK (aL b 0) λm=>
 vK (aL b 1) λac=>
 aW #[ai,ai,ai,ai,ai,ai,ai,ai,ai,ai] 116 l λc n=>
 stK 10 c m n λad a=>
 bJ a λS=>
 vK (aR a0) λo=>
 vK (aB 0 o) λp=>
 qK S (λa=>ldV a p) λq=>
 vK (aR a0) λr=>
 vK (aB 1 r) λs=>
 qK S (λa=>ldV a s) λt=>
 vK (aR a0) λu=>
 vK (aB 2 u) λv=>
 qK S (λa=>ldV a v) λw=>
 qK S (λa=>aO 10 a c) λx=>
 ag prog iU #[w] a λy d=>
 S d∧(ag prog oM #[q,t,y,x] d λe f=>
 vK (aL e 0) λz=>
 vK (aL e 1) λaa=>
 vK (ak .i .neq aa ai) λab=>
 aF ab (
 R (.pointer none) f) (
 R z f))
theorem GE (H:wF a0 a1 h R):ag prog qL #[a0,a1] h R:=fk f97 (.s .z (.s .z (.s (.d (.op 0 .r (.op 1 .r (.op 2 .r (.op 3 .r (.op 4 .r (.op 5 .r (.op 6 .r (.op 7 .r (.op 8 .r (.op 9 .r (.op 10 .r (.op 11 .r (.op 13 .r (.op 12 .e (.op 14 .n (.op 15 .r (.op 16 .r (.op 17 .r (.op 18 .r (.op 19 .r .nil))))))))))))))))))))) (.s (.s .z (.s (.s .z .z) .z)) (.s .z .z))))) H
def tt (a0:Value)(h:ah)(R:Value→ah→Prop):Prop:=
 vK (aR a0) λa=>
 vK (aB 15 a) λb=>
 vK (ldV h b) λc=>
 ag prog oT #[c] h λd e=>
 R d e
theorem De (H:tt a0 h R):ag prog jX #[a0] h R:=fk f98 (.s .z (.s .z .z)) H
def uW (a0 a1 a2:Value)(h:ah)(R:Value→ah→Prop):Prop:=
 aW (Value.cells a2) 148 h λe d=>
 eK (λf=>
 bJ d λS=>
 vK (aR a0) λac=>
 vK (aB 2 ac) λad=>
 qK S (λd=>ldV d ad) λg=>
 vK (aB 1 e) λae=>
 qK S (λd=>ldV d ae) λj=>
 (ag prog fY #[g,j] d λk l=>
 S l∧(vK (aL k 0) λaf=>
 vK (aL k 1) λce=>
 aW #[ai,ai,ai,ai,ai,ai,ai,ai,ai,ai] 116 l λm n=>
 S n∧(stK 10 m af n λcf o=>
 S o∧(f [m] o))))∧(aW #[ai,ai,ai,ai,ai,ai,ai,ai,ai,ai] 116 d λp q=>
 S q∧(ag prog fY #[g,j] q λr s=>
 S s∧(vK (aL r 0) λaj=>
 vK (aL r 1) λcg=>
 stK 10 p aj s λch t=>
 S t∧(f [p] t)))))
 λu ci a=>
 vK (aR a0) λal=>
 vK (aB 7 al) λam=>
 vK (ldV a am) λan=>
 vK (ak .i .sub a1 aH) λao=>
 vK (bu 1 an ao) λap=>
 vK (ldV a ap) λv=>
 vK (aB 2 e) λaq=>
 vK (aB 0 aq) λar=>
 vK (ldV a ar) λau=>
 vK (ak .i .eql au aH) λav=>
 aF av (
 bJ a λS=>
 vK (aR a0) λaw=>
 vK (aB 0 aw) λax=>
 qK S (λa=>ldV a ax) λay=>
 vK (aR a0) λaz=>
 vK (aB 0 az) λa3=>
 qK S (λa=>ldV a a3) λa4=>
 ag prog bL #[ay] a λa5 w=>
 S w∧(ag prog aV #[a4] w λa6 c=>
 vK (ak .i .mul a5 a6) λx=>
 bJ c λS=>
 vK (aR a0) λa7=>
 vK (aB 2 a7) λa8=>
 qK S (λc=>ldV c a8) λa9=>
 vK (aB 2 e) λba=>
 vK (aB 1 ba) λbb=>
 qK S (λc=>ldV c bb) λbc=>
 vK (aR a0) λbd=>
 vK (aB 0 bd) λbe=>
 qK S (λc=>ldV c be) λbf=>
 ag prog iU #[a9] c λbg y=>
 S y∧(vK (pS false 1 2 bg) λbh=>
 ag prog bN #[bf] y λbi z=>
 S z∧(ag prog lB #[bh,bc,bi] z λbj bk=>
 vK (ak .i .mul bj x) λbl=>
 ag prog dN #[a0,a1,ai,bl,x,(.bool false)] bk λcj bm=>
 vK (ak .i .add aH a1) λbn=>
 ag prog dN #[a0,a1,bn,ai,v,(.bool true)] bm λck bo=>
 R (.tuple #[]) bo)))) (
 vK (aR a0) λbp=>
 vK (aB 1 bp) λbq=>
 vK (ldV a bq) λbr=>
 ag prog aV #[br] a λaa bs=>
 vK (ak .i .add aH a1) λbt=>
 ag prog dN #[a0,a1,bt,ai,v,(.bool false)] bs λcl b=>
 bJ b λS=>
 vK (aB 2 e) λbv=>
 vK (aB 1 bv) λbw=>
 qK S (λb=>ldV b bw) λbx=>
 vK (aR a0) λbz=>
 vK (aB 1 bz) λb0=>
 qK S (λb=>ldV b b0) λb1=>
 vK (aB 1 (ix u 0)) λb2=>
 vK (aB 0 b2) λb3=>
 qK S (λb=>ldV b b3) λb4=>
 vK (aB 1 (ix u 0)) λb5=>
 vK (aB 2 b5) λb6=>
 qK S (λb=>ldV b b6) λb7=>
 vK (ak .i .mul b7 aa) λb8=>
 ag prog bL #[b1] b λb9 ab=>
 S ab∧(vK (ak .i .mul bx b9) λca=>
 vK (ak .i .add ca b4) λcb=>
 vK (ak .i .mul cb aa) λcc=>
 ag prog dN #[a0,a1,aH,cc,b8,(.bool true)] ab λcm cd=>
 R (.tuple #[]) cd))
theorem EL (H:uW a0 a1 a2 h R):ag prog pf #[a0,a1,a2] h R:=fk f99 (.s .z (.j 4190400 [6] (.d (.op 0 .r (.op 1 .r (.op 2 .r (.op 3 .r (.op 4 .r (.op 5 .r (.alt (.op 6 .e (.op 7 .r (.op 8 .r (.op 9 .r (.op 10 .e (.op 11 .e (.op 12 .r .nil))))))) (.op 10 .e (.op 6 .e (.op 7 .r (.op 8 .r (.op 9 .r (.op 11 .e (.op 12 .r .nil))))))))))))))) (.s .z (.s (.s .z (.s (.s (.d (.op 0 .r (.op 1 .r (.op 2 .r (.op 3 .r (.op 5 .r (.op 6 .r (.op 7 .r (.op 8 .r (.op 4 .e (.op 9 .n (.op 10 .r (.op 11 .r .nil))))))))))))) (.s (.d (.op 0 .r (.op 1 .r (.op 2 .r (.op 3 .r (.op 6 .r (.op 7 .r (.op 8 .r (.op 9 .r (.op 10 .r (.op 11 .r (.op 12 .r (.op 4 .e (.op 5 .r (.op 13 .e (.op 14 .n (.op 15 .r .nil))))))))))))))))) (.s .z (.s .z .z)))) .z)) (.s .z (.s .z (.d (.op 0 .r (.op 1 .r (.op 2 .r (.op 3 .r (.op 4 .r (.op 5 .r (.op 6 .r (.op 7 .r (.op 8 .r (.op 11 .r (.op 12 .r (.op 13 .r (.op 15 .r (.op 17 .r (.op 18 .r (.op 19 .r (.op 20 .r (.op 21 .r (.op 9 .e (.op 10 .r (.op 14 .r (.op 16 .r (.op 22 .n .nil)))))))))))))))))))))))))))))) H
def kS (a0:Value)(h:ah)(R:Value→ah→Prop):Prop:=
 vK (ak .sl .eql a0 (.slice none 0 0)) λa=>
 aF a (
 R (.slice none 0 0) h) (
 df #[] 3 0 [] h λb c=>
 di ai 3 1 8 b a0 c λd e=>
 R d e)
theorem vu (H:kS a0 h R):ag prog iH #[a0] h R:=fk f100 (.s .z (.s (.s .z (.s (.s .z .z) .z)) (.s .z .z))) H
def rD (a0:Value)(h:ah)(R:Value→ah→Prop):Prop:=
 bJ h λS=>
 vK (aR a0) λb=>
 vK (aB 0 b) λc=>
 vK (aB 0 c) λd=>
 qK S (λh=>ldV h d) λe=>
 vK (aR a0) λf=>
 vK (aB 3 f) λg=>
 qK S (λh=>ldV h g) λi=>
 ag prog bI #[e] h λj a=>
 S a∧(ag prog uG #[j,i] a λk l=>
 R k l)
theorem BE (H:rD a0 h R):ag prog gN #[a0] h R:=fk f101 (.s .z (.s (.d (.op 0 .r (.op 1 .r (.op 2 .r (.op 3 .r (.op 4 .r (.op 6 .r (.op 7 .r (.op 8 .r (.op 9 .r (.op 5 .e (.op 10 .n (.op 11 .r .nil))))))))))))) .z)) H
def DT (a0 a1:Value)(h:ah)(R:Value→ah→Prop):Prop:=
 vK (ak .i .add a0 a1) λa=>
 vK (ak .i .sub a aH) λb=>
 vK (ak .i .quo b a1) λc=>
 R c h
theorem OB (H:DT a0 a1 h R):ag prog uG #[a0,a1] h R:=fk f102 (.s .z (.s .z .z)) H
def wK (a0 a1:Value)(h:ah)(R:Value→ah→Prop):Prop:=
 aW #[ai,ai,ai,ai,ai,ai,ai,ai,ai,ai] 116 h λf l=>
 vK (ak .i .lss a1 ai) λe=>
 vK (gV e false (some a1)) λaf=>
 vK (gV e false (some a0)) λaj=>
 gK e false (λal=>ag prog dY #[aj] l al) l λam d=>
 vK (gV e false (ak .i .geq af am)) λan=>
 vK (aE e (.bool true) an) λao=>
 aF ao (
 vK ((aM #[ai,ai,ai,ai,ai,ai,ai,ai,ai,ai] []).map .agg) λap=>
 stK 10 f ap d λcc m=>
 vK (aO 10 m f) λaq=>
 R (.tuple #[aq,(.bool false)]) m) (
 eK (λg=>
 bJ d λS=>
 vK (aR a0) λar=>
 vK (aB 0 ar) λau=>
 vK (aB 1 au) λav=>
 qK S (λd=>ldV d av) λj=>
 (ag prog mL #[a0,a1] d λn k=>
 S k∧((ag prog fS #[j] k λaw o=>
 S o∧(vK ((aM #[ai,ai,ai,ai,ai,ai,ai,ai,ai,ai] [(0,1,a1),(1,4,n),(9,1,aw)]).map .agg) λax=>
 aW #[ai,ai,ai,ai,ai,ai,ai,ai,ai,ai] 116 o λp q=>
 S q∧(stK 10 p ax q λcd r=>
 S r∧(g [p] r))))∧(aW #[ai,ai,ai,ai,ai,ai,ai,ai,ai,ai] 116 k λs t=>
 S t∧(ag prog fS #[j] t λay u=>
 S u∧(vK ((aM #[ai,ai,ai,ai,ai,ai,ai,ai,ai,ai] [(0,1,a1),(1,4,n),(9,1,ay)]).map .agg) λaz=>
 stK 10 s az u λce v=>
 S v∧(g [s] v))))))∧(aW #[ai,ai,ai,ai,ai,ai,ai,ai,ai,ai] 116 d λw x=>
 S x∧(ag prog mL #[a0,a1] x λa2 y=>
 S y∧(ag prog fS #[j] y λa3 z=>
 S z∧(vK ((aM #[ai,ai,ai,ai,ai,ai,ai,ai,ai,ai] [(0,1,a1),(1,4,a2),(9,1,a3)]).map .agg) λa4=>
 stK 10 w a4 z λcf aa=>
 S aa∧(g [w] aa))))))
 λa cg b=>
 bJ b λS=>
 vK (aR a0) λa5=>
 vK (aB 0 a5) λa6=>
 vK (aB 0 a6) λa7=>
 qK S (λb=>ldV b a7) λa8=>
 vK (aB 1 (ix a 0)) λa9=>
 vK (aB 0 a9) λba=>
 qK S (λb=>ldV b ba) λbb=>
 vK (aB 1 (ix a 0)) λbc=>
 vK (aB 0 bc) λbd=>
 qK S (λb=>ldV b bd) λbe=>
 vK (aB 1 (ix a 0)) λbf=>
 vK (aB 2 bf) λbg=>
 qK S (λb=>ldV b bg) λbh=>
 vK (ak .i .add be bh) λbi=>
 ag prog gL #[a8,bb,bi] b λab bj=>
 vK (aL ab 0) λbk=>
 vK (aL ab 1) λbl=>
 vK (aB 5 (ix a 0)) λbm=>
 stK 1 bm bk bj λch bn=>
 vK (aB 7 (ix a 0)) λbo=>
 stK 1 bo bl bn λci c=>
 bJ c λS=>
 vK (aR a0) λbp=>
 vK (aB 0 bp) λbq=>
 vK (aB 1 bq) λbr=>
 qK S (λc=>ldV c br) λbs=>
 vK (aB 1 (ix a 0)) λbt=>
 vK (aB 1 bt) λbu=>
 qK S (λc=>ldV c bu) λbv=>
 vK (aB 1 (ix a 0)) λbw=>
 vK (aB 1 bw) λbx=>
 qK S (λc=>ldV c bx) λbz=>
 vK (aB 1 (ix a 0)) λb0=>
 vK (aB 3 b0) λb1=>
 qK S (λc=>ldV c b1) λb2=>
 vK (ak .i .add bz b2) λb3=>
 ag prog gL #[bs,bv,b3] c λac b4=>
 vK (aL ac 0) λb5=>
 vK (aL ac 1) λb6=>
 vK (aB 6 (ix a 0)) λb7=>
 stK 1 b7 b5 b4 λcj b8=>
 vK (aB 8 (ix a 0)) λb9=>
 stK 1 b9 b6 b8 λck ad=>
 vK (aO 10 ad (ix a 0)) λca=>
 stK 10 f ca ad λcl ae=>
 vK (aO 10 ae f) λcb=>
 R (.tuple #[cb,(.bool true)]) ae)
theorem GJ (H:wK a0 a1 h R):ag prog fY #[a0,a1] h R:=fk f103 (.s .z (.s (.s .z (.s (.s .z .z) .z)) (.j 134152256 [6] (.d (.op 0 .r (.op 1 .r (.op 2 .r (.op 4 .r (.op 5 .r (.op 6 .r (.op 7 .r (.op 8 .r (.alt (.op 3 .e (.alt (.op 9 .e (.op 10 .r (.op 11 .e (.op 12 .e .nil)))) (.op 11 .e (.op 9 .e (.op 10 .r (.op 12 .e .nil)))))) (.op 11 .e (.op 3 .e (.op 9 .e (.op 10 .r (.op 12 .e .nil))))))))))))))) (.s (.d (.op 0 .r (.op 1 .r (.op 2 .r (.op 3 .r (.op 4 .r (.op 5 .r (.op 6 .r (.op 7 .r (.op 8 .r (.op 9 .r (.op 10 .r (.op 11 .r (.op 12 .r (.op 13 .r (.op 14 .r (.op 15 .n (.op 16 .r (.op 17 .r (.op 18 .r (.op 19 .r (.op 20 .n (.op 21 .r (.op 22 .n .nil)))))))))))))))))))))))) (.s (.d (.op 0 .r (.op 1 .r (.op 2 .r (.op 3 .r (.op 4 .r (.op 5 .r (.op 6 .r (.op 7 .r (.op 8 .r (.op 9 .r (.op 10 .r (.op 11 .r (.op 12 .r (.op 13 .r (.op 14 .r (.op 15 .n (.op 16 .r (.op 17 .r (.op 18 .r (.op 19 .r (.op 20 .n (.op 21 .r (.op 22 .n .nil)))))))))))))))))))))))) (.s .z .z)))))) H
def xU (a0 a1:Value)(h:ah)(R:Value→ah→Prop):Prop:=
 aW (Value.cells a0) 81 h λl t=>
 aW (Value.cells a1) 114 t λb a=>
 bJ a λS=>
 vK (aB 0 l) λu=>
 qK S (λa=>ldV a u) λv=>
 vK (ak .p .neq v (.pointer none)) λm=>
 vK (gV m true (aB 1 l)) λw=>
 qK S (λa=>gV m true (ldV a w)) λx=>
 vK (gV m true (ak .p .neq x (.pointer none))) λy=>
 vK (aE m y (.bool false)) λn=>
 vK (gV n true (aB 2 b)) λz=>
 qK S (λa=>gV n true (ldV a z)) λaa=>
 vK (gV n true (ak .i .geq aa aH)) λab=>
 vK (aE n ab (.bool false)) λo=>
 vK (gV o true (aB 3 b)) λac=>
 qK S (λa=>gV o true (ldV a ac)) λad=>
 vK (gV o true (ak .i .geq ad aH)) λae=>
 vK (aE o ae (.bool false)) λq=>
 vK (gV q true (aB 0 b)) λaf=>
 qK S (λa=>gV q true (ldV a af)) λaj=>
 vK (gV q true (ak .i .geq aj ai)) λal=>
 vK (aE q al (.bool false)) λr=>
 vK (gV r true (aB 1 b)) λam=>
 qK S (λa=>gV r true (ldV a am)) λan=>
 vK (gV r true (ak .i .geq an ai)) λao=>
 vK (aE r ao (.bool false)) λg=>
 vK (gV g true (aB 0 b)) λap=>
 qK S (λa=>gV g true (ldV a ap)) λaq=>
 vK (gV g true (aB 0 l)) λar=>
 qK S (λa=>gV g true (ldV a ar)) λau=>
 gK g true (λav=>ag prog bI #[au] a av) a λaw j=>
 S j∧(vK (gV g true (ak .i .lss aq aw)) λax=>
 vK (aE g ax (.bool false)) λk=>
 vK (gV k true (aB 1 b)) λay=>
 qK S (λj=>gV k true (ldV j ay)) λaz=>
 vK (gV k true (aB 1 l)) λa2=>
 qK S (λj=>gV k true (ldV j a2)) λa3=>
 gK k true (λa4=>ag prog bI #[a3] j a4) j λa5 e=>
 S e∧(vK (gV k true (ak .i .lss az a5)) λa6=>
 vK (aE k a6 (.bool false)) λc=>
 vK (gV c true (aB 2 b)) λa7=>
 qK S (λe=>gV c true (ldV e a7)) λa8=>
 vK (gV c true (aB 0 l)) λa9=>
 qK S (λe=>gV c true (ldV e a9)) λba=>
 vK (gV c true (aB 0 b)) λbb=>
 qK S (λe=>gV c true (ldV e bb)) λbc=>
 gK c true (λbd=>ag prog bI #[ba] e bd) e λbe f=>
 S f∧(vK (gV c true (ak .i .sub be bc)) λbf=>
 vK (gV c true (ak .i .leq a8 bf)) λbg=>
 vK (aE c bg (.bool false)) λd=>
 vK (gV d true (aB 3 b)) λbh=>
 qK S (λf=>gV d true (ldV f bh)) λbi=>
 vK (gV d true (aB 1 l)) λbj=>
 qK S (λf=>gV d true (ldV f bj)) λbk=>
 vK (gV d true (aB 1 b)) λbl=>
 qK S (λf=>gV d true (ldV f bl)) λbm=>
 gK d true (λbn=>ag prog bI #[bk] f bn) f λbo s=>
 S s∧(vK (gV d true (ak .i .sub bo bm)) λbp=>
 vK (gV d true (ak .i .leq bi bp)) λbq=>
 vK (aE d bq (.bool false)) λbr=>
 R br s))))
theorem Iz (H:xU a0 a1 h R):ag prog mH #[a0,a1] h R:=fk f104 (.s .z (.s (.d (.op 0 .r (.op 1 .r (.op 2 .r (.op 3 .r (.op 4 .r (.op 5 .r (.op 6 .r (.op 7 .r (.op 8 .r (.op 9 .r (.op 10 .r (.op 11 .r (.op 12 .r (.op 13 .r (.op 14 .r (.op 15 .r (.op 16 .r (.op 17 .r (.op 18 .r (.op 19 .r (.op 20 .r (.op 21 .r (.op 22 .r (.op 23 .r (.op 24 .r (.op 25 .r (.op 26 .r (.op 27 .r (.op 28 .r (.op 29 .r (.op 30 .r (.op 31 .r (.op 32 .r (.op 33 .e (.op 34 .r (.op 35 .r (.op 36 .r (.op 37 .r (.op 38 .r (.op 39 .r (.op 40 .r (.op 41 .e (.op 42 .r (.op 43 .r (.op 44 .r (.op 45 .r (.op 46 .r (.op 47 .r (.op 48 .r (.op 50 .r (.op 51 .r (.op 49 .e (.op 52 .r (.op 53 .r (.op 54 .r (.op 55 .r (.op 56 .r (.op 57 .r (.op 58 .r (.op 59 .r (.op 61 .r (.op 62 .r (.op 60 .e (.op 63 .r (.op 64 .r (.op 65 .r (.op 66 .r .nil)))))))))))))))))))))))))))))))))))))))))))))))))))))))))))))))))))) .z)) H
end
section
variable {a0 a1 a2 a3 a4 a5 a6:Value}{h:ah}{R:Value→ah→Prop}
def tz (a0 a1:Value)(h:ah)(R:Value→ah→Prop):Prop:=
 aW #[ai,(.slice none 0 0)] 189 h λc a=>
 vK (ak .i .lss a1 ai) λb=>
 vK (gV b false (some a1)) λg=>
 vK (gV b false (some a0)) λj=>
 vK (gV b false (aR j)) λk=>
 vK (gV b false (aB 1 k)) λl=>
 vK (gV b false (ldV a l)) λm=>
 vK (gV b false (aD m)) λn=>
 vK (gV b false (ak .i .geq g n)) λo=>
 vK (aE b (.bool true) o) λp=>
 aF p (
 vK ((aM #[ai,(.slice none 0 0)] []).map .agg) λq=>
 stK 2 c q a λal d=>
 vK (aO 2 d c) λr=>
 R r d) (
 bJ a λS=>
 vK (aR a0) λs=>
 vK (aB 1 s) λt=>
 qK S (λa=>ldV a t) λu=>
 vK (bu 2 u a1) λv=>
 vK (aB 0 v) λw=>
 qK S (λa=>ldV a w) λx=>
 vK (aR a0) λy=>
 vK (aB 1 y) λz=>
 qK S (λa=>ldV a z) λaa=>
 vK (bu 2 aa a1) λab=>
 vK (aB 1 ab) λac=>
 qK S (λa=>ldV a ac) λad=>
 ag prog dd #[ad] a λae e=>
 S e∧(vK ((aM #[ai,(.slice none 0 0)] [(0,1,x),(1,1,ae)]).map .agg) λaf=>
 stK 2 c af e λam f=>
 vK (aO 2 f c) λaj=>
 R aj f))
theorem Dg (H:tz a0 a1 h R):ag prog bF #[a0,a1] h R:=fk f105 (.s .z (.s (.s .z (.s (.s .z .z) .z)) (.s (.d (.op 0 .r (.op 1 .r (.op 2 .r (.op 3 .r (.op 4 .r (.op 5 .r (.op 6 .r (.op 7 .r (.op 8 .r (.op 9 .r (.op 10 .r (.op 11 .r (.op 12 .r (.op 13 .r (.op 14 .r (.op 15 .r (.op 16 .e (.op 17 .r (.op 18 .n .nil)))))))))))))))))))) .z))) H
def Am (a0:Value)(h:ah)(R:Value→ah→Prop):Prop:=
 aW (Value.cells a0) 120 h λa f=>
 aW #[ai,(.slice none 0 0),ai,ai,ai,(.bool false)] 120 f λb c=>
 vK (aB 1 a) λg=>
 vK (ldV c g) λi=>
 ag prog dJ #[i] c λj k=>
 vK (aB 1 a) λl=>
 stK 1 l j k λo d=>
 vK (aO 6 d a) λm=>
 stK 6 b m d λp e=>
 vK (aO 6 e b) λn=>
 R n e
theorem Kq (H:Am a0 h R):ag prog vR #[a0] h R:=fk f106 (.s .z (.s .z (.s .z .z))) H
def Al (a0 a1:Value)(h:ah)(R:Value→ah→Prop):Prop:=
 aW (Value.cells a0) 120 h λc e=>
 aW (Value.cells a1) 120 e λd b=>
 vK (aB 2 c) λf=>
 vK (ldV b f) λg=>
 vK (aB 2 d) λj=>
 vK (ldV b j) λk=>
 vK (ak .i .eql g k) λa=>
 vK (gV a true (aB 3 c)) λl=>
 vK (gV a true (ldV b l)) λm=>
 vK (gV a true (aB 3 d)) λn=>
 vK (gV a true (ldV b n)) λo=>
 vK (gV a true (jS m o)) λp=>
 vK (gV a true (aB 4 c)) λq=>
 vK (gV a true (ldV b q)) λr=>
 vK (gV a true (aB 4 d)) λs=>
 vK (gV a true (ldV b s)) λt=>
 vK (gV a true (rR r t)) λu=>
 vK (gV a true (ak .i .lss p u)) λv=>
 vK (aE a v (.bool false)) λw=>
 R w b
theorem Ko (H:Al a0 a1 h R):ag prog vQ #[a0,a1] h R:=fk f112 (.s .z (.s .z .z)) H
def Bn (a0 a1:Value)(h:ah)(R:Value→ah→Prop):Prop:=
 ag prog xQ #[a0,a1] h λa b=>
 vK (gV a true (some a0)) λc=>
 vK (gV a true (some a1)) λd=>
 gK a true (λe=>ag prog xR #[c,d] b e) b λf g=>
 vK (gV a true (unV .not f)) λi=>
 vK (aE a i (.bool false)) λj=>
 R j g
theorem Mu (H:Bn a0 a1 h R):ag prog rh #[a0,a1] h R:=fk f113 (.s .z (.s .z .z)) H
def AY (a0 a1 a2:Value)(h:ah)(R:Value→ah→Prop):Prop:=
 vK (ak .i .geq a0 aH) λc=>
 vK (gV c true (some a0)) λg=>
 vK (gV c true (ak .i .leq g (af 65536))) λj=>
 vK (aE c j (.bool false)) λd=>
 vK (gV d true (some a1)) λk=>
 vK (gV d true (ak .i .geq k aH)) λl=>
 vK (aE d l (.bool false)) λe=>
 vK (gV e true (some a1)) λm=>
 vK (gV e true (ak .i .leq m (af 65536))) λn=>
 vK (aE e n (.bool false)) λb=>
 vK (gV b true (some a2)) λo=>
 vK (gV b true (ak .i .eql o aH)) λp=>
 vK (gV b true (some p)) λf=>
 vK (gV f false (some a2)) λq=>
 vK (gV f false (ak .i .eql q (af 3))) λr=>
 vK (gV b true (aE f (.bool true) r)) λs=>
 vK (aE b s (.bool false)) λa=>
 vK (gV a true (some a0)) λt=>
 vK (gV a true (some a1)) λu=>
 vK (gV a true (ak .i .mul t u)) λv=>
 vK (gV a true (some a2)) λw=>
 vK (gV a true (ak .i .mul v w)) λx=>
 vK (gV a true (ak .i .leq x (af 268435456))) λy=>
 vK (aE a y (.bool false)) λz=>
 R z h
theorem L9 (H:AY a0 a1 a2 h R):ag prog my #[a0,a1,a2] h R:=fk f117 (.s .z (.s .z .z)) H
def Bo (a0:Value)(h:ah)(R:Value→ah→Prop):Prop:=
 vK (ak .i .lss a0 ai) λa=>
 vK (gV a false (some a0)) λb=>
 vK (gV a false (ldV h (.pointer (some ⟨oK,0,none⟩)))) λc=>
 vK (gV a false (aD c)) λd=>
 vK (gV a false (ak .i .geq b d)) λe=>
 vK (aE a (.bool true) e) λf=>
 aF f (
 R (.string ⟨#[]⟩) h) (
 vK (ldV h (.pointer (some ⟨oK,0,none⟩))) λg=>
 vK (bu 1 g a0) λj=>
 vK (ldV h j) λk=>
 R k h)
theorem Mv (H:Bo a0 h R):ag prog ri #[a0] h R:=fk f118 (.s .z (.s (.s .z (.s (.s .z .z) .z)) (.s .z .z))) H
def Jv (a0:Value)(h:ah)(R:Value→ah→Prop):Prop:=
 vK (ak .i .lss a0 ai) λa=>
 vK (gV a false (some a0)) λb=>
 vK (gV a false (ak .i .geq b (af 3))) λc=>
 vK (aE a (.bool true) c) λd=>
 aF d (
 R (.string ⟨#[]⟩) h) (
 vK (MV 3 2 (.pointer (some ⟨fH,0,none⟩)) a0) λe=>
 vK (aB 0 e) λf=>
 vK (ldV h f) λg=>
 R g h)
theorem Ti (H:Jv a0 h R):ag prog zQ #[a0] h R:=fk f119 (.s .z (.s (.s .z (.s (.s .z .z) .z)) (.s .z .z))) H
def Ad (a0 a1 a2:Value)(h:ah)(R:Value→ah→Prop):Prop:=
 ag prog zQ #[a0] h λo d=>
 vK (ak .s .eql o (.string ⟨#[]⟩)) λa=>
 vK (gV a false (some a1)) λp=>
 gK a false (λq=>ag prog oP #[p] d q) d λr e=>
 vK (gV a false (unV .not r)) λt=>
 vK (aE a (.bool true) t) λb=>
 vK (gV b false (some a2)) λu=>
 gK b false (λv=>ag prog oP #[u] e v) e λw f=>
 vK (gV b false (unV .not w)) λx=>
 vK (aE b (.bool true) x) λy=>
 aF y (
 R (.tuple #[(.pointer none),(af 6)]) f) (
 vK ((aM #[ai,(.slice none 0 0),ai,ai] [(0,1,a1)]).map .agg) λz=>
 aW (Value.cells z) 224 f λg aa=>
 aZ [ai] aa λc ap j ab=>
 vK (ak .i .lss (ix c 0) a2) λac=>
 aF ac (
 ag prog Db #[a0,a1,a2,(ix c 0)] j λk ad=>
 vK (aL k 0) λae=>
 vK (aL k 1) λaj=>
 ag prog jE #[aj] ad λl m=>
 vK (aL l 0) λal=>
 vK (aL l 1) λn=>
 vK (ak .i .neq n ai) λam=>
 aF am (
 R (.tuple #[(.pointer none),n]) m) (
 ag prog kM #[g,ae,al] m λaq an=>
 vK (ak .i .add (ix c 0) aH) λao=>
 ab [ao] an)) (
 R (.tuple #[g,ai]) j))
theorem Kg (H:Ad a0 a1 a2 h R):ag prog lg #[a0,a1,a2] h R:=fk f120 (.s .z (.s (.s .z (.s (.s .z .z) .z)) (.s .z (.s (.s .z (.l 36028794871496384 [31] (.s .z (.s (.s .z .z) (.s (.s .z (.s .z (.s .z (.s (.s .z (.s (.s .z .z) .z)) .z)))) .z))))) (.s .z .z))))) H
def DU (a0:Value)(h:ah)(R:Value→ah→Prop):Prop:=
 aW (Value.cells a0) 31 h λb a=>
 vK (aB 0 b) λn=>
 vK (ldV a n) λd=>
 vK (ak .i .eql d ai) λo=>
 aF o (
 vK (aB 2 b) λp=>
 vK (ldV a p) λq=>
 ag prog mJ #[q] a λe r=>
 vK (aL e 0) λf=>
 vK (aL e 1) λs=>
 R (.tuple #[f,f,s]) r) (
 vK (ak .i .eql d aH) λt=>
 aF t (
 vK (aB 3 b) λu=>
 vK (ldV a u) λv=>
 ag prog Ci #[v] a λg w=>
 vK (aL g 0) λj=>
 vK (aL g 1) λx=>
 R (.tuple #[j,j,x]) w) (
 vK (aB 4 b) λy=>
 vK (ldV a y) λz=>
 ag prog sA #[z] a λk c=>
 vK (aL k 0) λaa=>
 vK (aL k 1) λl=>
 vK (ak .i .neq l ai) λab=>
 aF ab (
 R (.tuple #[(.slice none 0 0),(.slice none 0 0),l]) c) (
 vK (aB 5 b) λac=>
 vK (ldV c ac) λad=>
 ag prog sA #[ad] c λm ae=>
 vK (aL m 0) λaf=>
 vK (aL m 1) λaj=>
 R (.tuple #[aa,af,aj]) ae)))
theorem OC (H:DU a0 h R):ag prog zT #[a0] h R:=fk f121 (.s .z (.s (.s .z (.s .z (.s (.s .z (.s .z .z)) (.s .z (.s (.s .z (.s .z .z)) .z))))) (.s (.s .z (.s .z (.s (.s .z .z) .z))) (.s .z (.s .z .z))))) H
def Ae (a0 a1:Value)(h:ah)(R:Value→ah→Prop):Prop:=
 ag prog oP #[a1] h λk a=>
 vK (unV .not k) λl=>
 aF l (
 R (.tuple #[(.pointer none),(af 6)]) a) (
 vK (aD a0) λm=>
 vK (ak .i .rem m (af 2)) λn=>
 vK (ak .i .eql n ai) λo=>
 aF o (
 R (.tuple #[(.pointer none),(af 7)]) a) (
 ag prog jE #[a0] a λc d=>
 vK (aL c 0) λe=>
 vK (aL c 1) λf=>
 vK (ak .i .neq f ai) λp=>
 aF p (
 R (.tuple #[(.pointer none),f]) d) (
 vK ((aM #[ai,(.slice none 0 0),ai,ai] [(0,1,a1)]).map .agg) λq=>
 aW (Value.cells q) 224 d λg r=>
 aZ [ai] r λb z j s=>
 vK (ak .i .lss (ix b 0) a1) λt=>
 aF t (
 vK (aD e) λu=>
 vK (ak .i .quo u (af 2)) λv=>
 vK (ak .i .sub (ix b 0) v) λw=>
 ag prog kM #[g,w,e] j λaa x=>
 vK (ak .i .add (ix b 0) aH) λy=>
 s [y] x) (
 R (.tuple #[g,ai]) j))))
theorem Kh (H:Ae a0 a1 h R):ag prog oQ #[a0,a1] h R:=fk f122 (.s .z (.s (.s .z (.s (.s .z .z) (.s .z (.s (.s .z .z) .z)))) (.s .z (.s (.s .z (.s (.s .z .z) .z)) (.s .z (.s (.s .z (.l 8793945539072 [31] (.s .z (.s (.s .z .z) (.s (.s .z .z) .z))))) (.s .z .z))))))) H
def Ba (h:ah)(R:Value→ah→Prop):Prop:=
 vK ((aM #[ai,ai,ai,ai,(.slice none 0 0),(.slice none 0 0),ai,ai,ai] [(0,1,(af 3)),(7,1,(af 5)),(8,1,(af 3)),(6,1,ai)]).map .agg) λq=>
 ag prog nF #[q,(af 9),(af 9)] h λf r=>
 vK (aL f 0) λs=>
 vK (aL f 1) λt=>
 aW #[(.pointer none),(.pointer none),ai] 81 r λg u=>
 stK 3 g s u λay v=>
 ag prog q8 #[] v λw b=>
 vK (unV .not w) λc=>
 vK (gV c false (some t)) λx=>
 vK (gV c false (ak .i .neq x ai)) λy=>
 vK (aE c (.bool true) y) λz=>
 aF z (
 R (.bool false) b) (
 vK (aO 3 b g) λaa=>
 ag prog zS #[aa,(af 2),(af 2)] b λj k=>
 vK (aL j 0) λd=>
 vK (aL j 1) λab=>
 vK (ak .i .neq ab ai) λe=>
 vK (gV e false (some d)) λac=>
 vK (gV e false (ak .p .eql ac (.pointer none))) λad=>
 vK (aE e (.bool true) ad) λae=>
 aF ae (
 R (.bool false) k) (
 ag prog fY #[d,(af 5)] k λl aj=>
 vK (aL l 0) λal=>
 vK (aL l 1) λam=>
 aW #[ai,ai,ai,ai,ai,ai,ai,ai,ai,ai] 116 aj λm an=>
 stK 10 m al an λaz ao=>
 ag prog dY #[d] ao λap n=>
 vK (ak .i .eql ap (af 6)) λo=>
 vK (gV o true (some am)) λaq=>
 vK (aE o aq (.bool false)) λa=>
 vK (gV a true (aB 1 m)) λar=>
 vK (gV a true (aO 4 n ar)) λau=>
 vK (gV a true ((aM #[ai,ai,ai,ai] [(0,1,(af 4)),(1,1,(af 2)),(2,1,aH),(3,1,aH)]).map .agg)) λav=>
 vK (gV a true (ak (.st [(0,1,.i),(1,1,.i),(2,1,.i),(3,1,.i)]) .eql au av)) λaw=>
 vK (aE a aw (.bool false)) λax=>
 R ax n))
theorem Mj (H:Ba h R):ag prog xL #[] h R:=fk f123 (.s .z (.s .z (.s (.s .z (.s (.s .z .z) .z)) (.s .z (.s (.s .z (.s (.s .z .z) .z)) (.s .z (.s .z .z))))))) H
def A9 (h:ah)(R:Value→ah→Prop):Prop:=
 df #[(.int .u16 0)] 22 1 [(0,1,(.int .u16 7))] h λs t=>
 ag prog sC #[aH,aH,aH,(af 255),s] t λj u=>
 vK (aL j 0) λk=>
 vK (aL j 1) λv=>
 vK ((aM #[ai,ai,ai,ai,(.slice none 0 0),(.slice none 0 0),ai,ai,ai] [(0,1,aH),(3,1,(af 2))]).map .agg) λw=>
 ag prog nF #[w,aH,aH] u λl x=>
 vK (aL l 0) λy=>
 vK (aL l 1) λz=>
 aW #[(.pointer none),(.pointer none),ai] 81 x λm aa=>
 stK 3 m y aa λa4 ab=>
 ag prog xM #[] ab λac n=>
 vK (unV .not ac) λb=>
 gK b false (λad=>ag prog q8 #[] n ad) n λae c=>
 vK (gV b false (unV .not ae)) λaj=>
 vK (aE b (.bool true) aj) λd=>
 vK (gV d false (some v)) λal=>
 vK (gV d false (ak .i .neq al ai)) λam=>
 vK (aE d (.bool true) am) λe=>
 vK (gV e false (some z)) λan=>
 vK (gV e false (ak .i .neq an ai)) λao=>
 vK (aE e (.bool true) ao) λf=>
 vK (gV f false (some k)) λap=>
 vK (gV f false (ak .p .eql ap (.pointer none))) λaq=>
 vK (aE f (.bool true) aq) λar=>
 aF ar (
 R (.bool false) c) (
 vK (aO 3 c m) λau=>
 ag prog vT #[k,au] c λo q=>
 vK (aL o 0) λr=>
 vK (aL o 1) λav=>
 vK (ak .i .eql av ai) λg=>
 vK (gV g true (some r)) λaw=>
 vK (gV g true (ak .p .neq aw (.pointer none))) λax=>
 vK (aE g ax (.bool false)) λa=>
 vK (gV a true (some r)) λay=>
 gK a true (λaz=>ag prog gy #[ay,ai,ai,ai] q az) q λa0 a1=>
 vK (gV a true (ak .i .eql a0 (.int .u16 7))) λa2=>
 vK (aE a a2 (.bool false)) λa3=>
 R a3 a1)
theorem Mh (H:A9 h R):ag prog xK #[] h R:=fk f124 (.s .z (.s .z (.s .z (.s (.s .z (.s (.s .z .z) .z)) (.s .z (.s .z .z)))))) H
def Du (a0 a1 a2 a3:Value)(h:ah)(R:Value→ah→Prop):Prop:=
 aW (Value.cells a2) 81 h λb k=>
 aW (Value.cells a3) 116 k λc e=>
 vK (aO 3 e b) λl=>
 ag prog vL #[a0,a1,l] e λm d=>
 vK (unV .not m) λn=>
 aF n (
 R (.tuple #[(.pointer none),(af 6)]) d) (
 vK (aO 3 d b) λo=>
 vK (aB 1 c) λp=>
 vK (aO 4 d p) λq=>
 ag prog mH #[o,q] d λr a=>
 vK (unV .not r) λs=>
 aF s (
 R (.tuple #[(.pointer none),(af 9)]) a) (
 bJ a λS=>
 qK S (λa=>aO 3 a b) λt=>
 qK S (λa=>aO 10 a c) λu=>
 vK (aB 1 b) λv=>
 qK S (λa=>ldV a v) λw=>
 vK (aB 1 c) λx=>
 vK (aB 2 x) λy=>
 qK S (λa=>ldV a y) λz=>
 vK (aB 1 c) λaa=>
 vK (aB 1 aa) λab=>
 qK S (λa=>ldV a ab) λac=>
 ag prog fS #[w] a λad f=>
 S f∧(ag prog aV #[a0] f λae g=>
 S g∧(vK (ak .i .mul z ae) λaj=>
 ag prog Fw #[ad,aj] g λal j=>
 S j∧(vK ((aM Dc [(0,1,a0),(1,1,a1),(2,3,t),(5,10,u),(15,1,al),(16,1,ac)]).map .agg) λam=>
 aW (Value.cells am) 246 j λan ao=>
 R (.tuple #[an,ai]) ao)))))
theorem N0 (H:Du a0 a1 a2 a3 h R):ag prog oM #[a0,a1,a2,a3] h R:=fk f125 (.s .z (.s (.s .z (.s (.s .z .z) (.s .z (.s (.s .z .z) .z)))) (.s (.d (.op 0 .r (.op 1 .r (.op 2 .r (.op 3 .r (.op 4 .r (.op 5 .r (.op 7 .r (.op 8 .r (.op 9 .r (.op 10 .r (.op 14 .r (.op 15 .r (.op 16 .r (.op 6 .e (.op 11 .e (.op 12 .r (.op 13 .e (.op 17 .r (.op 18 .n (.op 19 .r (.op 20 .r .nil)))))))))))))))))))))) .z))) H
def uN (a0:Value)(h:ah)(R:Value→ah→Prop):Prop:=
 aW #[ai,ai] 146 h λa l=>
 ag prog iM #[a0] l λm n=>
 aW #[ai,ai] 146 n λb o=>
 stK 2 b m o λaa c=>
 vK (aB 0 b) λp=>
 vK (ldV c p) λd=>
 vK (ak .i .eql d aH) λq=>
 aF q (
 vK (aB 1 b) λr=>
 vK (ldV c r) λs=>
 ag prog l8 #[a0,s] c λab e=>
 vK (aO 2 e b) λt=>
 stK 2 a t e λac f=>
 vK (aO 2 f a) λu=>
 R u f) (
 vK (ak .i .eql d (af 2)) λv=>
 aF v (
 ag prog mZ #[a0] c λad g=>
 vK (aO 2 g b) λw=>
 stK 2 a w g λae j=>
 vK (aO 2 j a) λx=>
 R x j) (
 vK (aO 2 c b) λy=>
 stK 2 a y c λaj k=>
 vK (aO 2 k a) λz=>
 R z k))
theorem Ez (H:uN a0 h R):ag prog gx #[a0] h R:=fk f126 (.s .z (.s .z (.s (.s .z (.s .z (.s .z (.s .z (.s .z .z))))) (.s .z .z)))) H
def nj (a0:Value)(h:ah)(R:Value→ah→Prop):Prop:=
 vK (aR a0) λd=>
 vK (aB 0 d) λe=>
 stK 1 e aH h λaa b=>
 vK (aR a0) λf=>
 vK (aB 2 f) λg=>
 vK (ldV b g) λj=>
 vK (ak .p .eql j (.pointer none)) λa=>
 vK (gV a false (some a0)) λk=>
 vK (gV a false (aR k)) λl=>
 vK (gV a false (aB 2 l)) λm=>
 vK (gV a false (ldV b m)) λn=>
 gK a false (λo=>ag prog iM #[n] b o) b λq c=>
 vK (gV a false (pS false 1 0 q)) λr=>
 vK (gV a false (ak .i .eql r ai)) λs=>
 vK (aE a (.bool true) s) λt=>
 aF t (
 vK (aR a0) λu=>
 vK (aB 0 u) λv=>
 stK 1 v ai c λab w=>
 vK (aR a0) λx=>
 vK (aB 2 x) λy=>
 stK 1 y (.pointer none) w λac z=>
 R (.tuple #[]) z) (
 R (.tuple #[]) c)
theorem yo (H:nj a0 h R):ag prog dI #[a0] h R:=fk f127 (.s .z (.s .z (.s .z .z))) H
def nQ (a0:Value)(h:ah)(R:Value→ah→Prop):Prop:=
 vK (aR a0) λa=>
 vK (aB 1 a) λb=>
 vK (ldV h b) λc=>
 vK (aD c) λd=>
 vK (ak .i .gtr d ai) λe=>
 aF e (
 vK (aR a0) λf=>
 vK (aB 1 f) λg=>
 vK (ldV h g) λj=>
 vK (bu 1 j ai) λk=>
 vK (ldV h k) λl=>
 vK (aR a0) λm=>
 vK (aB 1 m) λn=>
 vK (ldV h n) λo=>
 ag prog lh #[o,ai,aH] h λp q=>
 vK (aR a0) λr=>
 vK (aB 1 r) λs=>
 stK 1 s p q λx t=>
 R (.tuple #[l,ai]) t) (
 vK (aR a0) λu=>
 vK (aB 2 u) λv=>
 vK (ldV h v) λw=>
 aF w (
 R (.tuple #[ai,(af 2)]) h) (
 R (.tuple #[ai,aH]) h))
theorem yU (H:nQ a0 h R):ag prog kz #[a0] h R:=fk f128 (.s .z (.s (.s .z (.s (.s .z (.s .z (.s .z .z))) (.s .z (.s (.s .z .z) .z)))) (.s .z .z))) H
def pI (a0 a1 a2:Value)(h:ah)(R:Value→ah→Prop):Prop:=
 aW #[ai,ai,ai,ai] 148 h λb d=>
 vK (aR a0) λk=>
 vK (aB 1 k) λl=>
 vK (ldV d l) λm=>
 df #[ai] 3 1 [(0,1,a1)] d λn o=>
 di ai 3 1 8 m n o λq r=>
 vK (aR a0) λs=>
 vK (aB 1 s) λt=>
 stK 1 t q r λa4 e=>
 eK (λg=>
 vK (ak .f .neq a2 .nilFunc) λu=>
 aF u (
 clK prog a2 #[a1] e λv w=>
 vK (aR a0) λx=>
 vK (aB 2 x) λy=>
 stK 1 y v w λa5 z=>
 g [] z) (
 g [] e))
 λa6 a7 a=>
 vK (aR a0) λaa=>
 vK (aB 2 aa) λab=>
 vK (ldV a ab) λac=>
 vK (ak .p .neq ac (.pointer none)) λad=>
 aF ad (
 bJ a λS=>
 vK (aR a0) λae=>
 vK (aB 3 ae) λaf=>
 qK S (λa=>ldV a af) λaj=>
 vK (aR a0) λal=>
 vK (aB 2 al) λam=>
 qK S (λa=>ldV a am) λan=>
 ag prog jX #[an] a λao c=>
 S c∧(qK S (λc=>jS aj ao) λap=>
 vK (aR a0) λaq=>
 vK (aB 3 aq) λar=>
 stK 1 ar ap c λa8 au=>
 ag prog dI #[a0] au λa9 av=>
 vK ((aM #[ai,ai,ai,ai] [(0,1,aH),(1,1,a1)]).map .agg) λaw=>
 stK 4 b aw av λba i=>
 vK (aO 4 i b) λax=>
 R ax i)) (
 ag prog dI #[a0] a λbb ay=>
 vK ((aM #[ai,ai,ai,ai] [(0,1,aH),(1,1,a1)]).map .agg) λaz=>
 stK 4 b az ay λbc j=>
 vK (aO 4 j b) λa3=>
 R a3 j)
theorem AA (H:pI a0 a1 a2 h R):ag prog kZ #[a0,a1,a2] h R:=fk f129 (.s .z (.s .z (.j 33423360 [] (.s .z (.s .z .z)) (.s (.s .z (.s (.d (.op 0 .r (.op 1 .r (.op 2 .r (.op 3 .r (.op 4 .r (.op 5 .r (.op 6 .r (.op 7 .r (.op 8 .r (.op 9 .e (.op 10 .r (.op 11 .r (.op 12 .r (.op 13 .n .nil))))))))))))))) .z)) (.s .z (.s .z .z)))))) H
def lQ (a0:Value)(h:ah)(R:Value→ah→Prop):Prop:=
 vK (aR a0) λb=>
 vK (aB 2 b) λc=>
 vK (ldV h c) λa=>
 vK (gV a false (some a0)) λd=>
 vK (gV a false (aR d)) λe=>
 vK (gV a false (aB 1 e)) λf=>
 vK (gV a false (ldV h f)) λg=>
 vK (gV a false (aD g)) λj=>
 vK (gV a false (ak .i .gtr j ai)) λk=>
 vK (aE a (.bool true) k) λl=>
 R l h
theorem vX (H:lQ a0 h R):ag prog jd #[a0] h R:=fk f130 (.s .z (.s .z .z)) H
def tC (a0:Value)(h:ah)(R:Value→ah→Prop):Prop:=
 vK (aR a0) λa=>
 vK (aB 0 a) λb=>
 vK (ldV h b) λc=>
 R c h
theorem Dh (H:tC a0 h R):ag prog fT #[a0] h R:=fk f131 (.s .z (.s .z .z)) H
def Ga (a0:Value)(h:ah)(R:Value→ah→Prop):Prop:=
 vK (ak .i .geq a0 aH) λa=>
 vK (gV a true (some a0)) λb=>
 vK (gV a true (ak .i .leq b (af 4096))) λc=>
 vK (aE a c (.bool false)) λd=>
 R d h
theorem QR (H:Ga a0 h R):ag prog xe #[a0] h R:=fk f132 (.s .z (.s .z .z)) H
def rE (a0 a1:Value)(h:ah)(R:Value→ah→Prop):Prop:=
 aW (Value.cells a1) 120 h λb c=>
 vK (aO 6 c b) λg=>
 ag prog zU #[g] c λi a=>
 vK (unV .not i) λj=>
 aF j (
 R (.bool false) a) (
 bJ a λS=>
 vK (aR a0) λk=>
 vK (aB 0 k) λl=>
 qK S (λa=>ldV a l) λm=>
 qK S (λa=>aO 6 a b) λn=>
 ag prog vR #[n] a λo d=>
 S d∧(df #[ai,(.slice none 0 0),ai,ai,ai,(.bool false)] 120 1 [(0,6,o)] d λp e=>
 S e∧(di (.agg #[ai,.slice none 0 0,ai,ai,ai,.bool false]) 120 6 64 m p e λq f=>
 S f∧(vK (aR a0) λr=>
 vK (aB 0 r) λs=>
 stK 1 s q f λu t=>
 R (.bool true) t))))
theorem BF (H:rE a0 a1 h R):ag prog me #[a0,a1] h R:=fk f133 (.s .z (.s (.s .z (.s (.s .z .z) .z)) (.s (.d (.op 0 .r (.op 1 .r (.op 2 .r (.op 3 .r (.op 4 .r (.op 5 .r (.op 6 .e (.op 7 .e (.op 8 .e (.op 9 .r (.op 10 .r (.op 11 .n .nil))))))))))))) (.s .z .z)))) H
def vj (a0 a1:Value)(h:ah)(R:Value→ah→Prop):Prop:=
 ag prog jG #[a0,a1] h λb a=>
 vK (unV .not b) λc=>
 aF c (
 R (.slice none 0 0) a) (
 vK (aR a0) λd=>
 vK (aB 0 d) λe=>
 vK (ldV a e) λf=>
 vK (bu 1 f a1) λg=>
 vK (ldV a g) λi=>
 ag prog dJ #[i] a λj k=>
 R j k)
theorem ET (H:vj a0 a1 h R):ag prog kQ #[a0,a1] h R:=fk f134 (.s .z (.s (.s .z (.s (.s .z .z) .z)) (.s .z .z))) H
def iJ (a0:Value)(h:ah)(R:Value→ah→Prop):Prop:=
 vK (ak .sl .eql a0 (.slice none 0 0)) λa=>
 aF a (
 R (.slice none 0 0) h) (
 df #[] 22 0 [] h λb c=>
 di (.int .u16 0) 22 1 2 b a0 c λd e=>
 R d e)
theorem oe (H:iJ a0 h R):ag prog dx #[a0] h R:=fk f135 (.s .z (.s (.s .z (.s (.s .z .z) .z)) (.s .z .z))) H
def Lt (a0 a1 a2:Value)(h:ah)(R:Value→ah→Prop):Prop:=
 aW (Value.cells a0) 31 h λb a=>
 vK (aB 0 b) λc=>
 vK (ldV a c) λd=>
 vK (ak .i .eql d (af 3)) λe=>
 aF e (
 vK (aB 7 b) λf=>
 vK (ldV a f) λg=>
 vK (aB 8 b) λj=>
 vK (ldV a j) λk=>
 R (.tuple #[g,k]) a) (
 R (.tuple #[a1,a2]) a)
theorem UW (H:Lt a0 a1 a2 h R):ag prog Jm #[a0,a1,a2] h R:=fk f136 (.s .z (.s (.s .z (.s (.s .z .z) .z)) (.s .z .z))) H
def DE (a0 a1 a2:Value)(h:ah)(R:Value→ah→Prop):Prop:=
 vK (ak .i .lss a0 aH) λa=>
 vK (gV a false (some a0)) λe=>
 vK (gV a false (ak .i .gtr e (af 65536))) λf=>
 vK (aE a (.bool true) f) λb=>
 vK (gV b false (some a1)) λg=>
 vK (gV b false (ak .i .lss g aH)) λj=>
 vK (aE b (.bool true) j) λc=>
 vK (gV c false (some a1)) λk=>
 vK (gV c false (ak .i .gtr k (af 65536))) λl=>
 vK (aE c (.bool true) l) λm=>
 aF m (
 R (.bool false) h) (
 vK (ak .i .neq a2 aH) λd=>
 vK (gV d true (some a2)) λn=>
 vK (gV d true (ak .i .neq n (af 3))) λo=>
 vK (aE d o (.bool false)) λp=>
 aF p (
 R (.bool false) h) (
 vK (ak .i .mul a0 a1) λq=>
 vK (ak .i .quo (af 268435456) a2) λr=>
 vK (ak .i .leq q r) λs=>
 R s h))
theorem Oh (H:DE a0 a1 a2 h R):ag prog uB #[a0,a1,a2] h R:=fk f137 (.s .z (.s (.s .z (.s (.s .z .z) .z)) (.s (.s .z (.s (.s .z .z) .z)) (.s .z .z)))) H
def DD (a0 a1 a2:Value)(h:ah)(R:Value→ah→Prop):Prop:=
 aW (Value.cells a0) 232 h λa bd=>
 aW #[(.slice none 0 0),(.slice none 0 0),ai,ai,ai] 38 bd λb e=>
 vK (aB 0 a) λbe=>
 vK (ldV e be) λbf=>
 vK (ak .i .lss bf ai) λk=>
 vK (gV k false (aB 0 a)) λbg=>
 vK (gV k false (ldV e bg)) λbh=>
 vK (gV k false (ak .i .gtr bh (af 3))) λbi=>
 vK (aE k (.bool true) bi) λl=>
 vK (gV l false (aB 1 a)) λbj=>
 vK (gV l false (ldV e bj)) λbk=>
 vK (gV l false (ak .i .lss bk ai)) λbl=>
 vK (aE l (.bool true) bl) λm=>
 vK (gV m false (aB 1 a)) λbm=>
 vK (gV m false (ldV e bm)) λbn=>
 vK (gV m false (ak .i .gtr bn (af 2))) λbo=>
 vK (aE m (.bool true) bo) λn=>
 vK (gV n false (some a1)) λbp=>
 gK n false (λbq=>ag prog lK #[bp] e bq) e λbr y=>
 vK (gV n false (unV .not br)) λbs=>
 vK (aE n (.bool true) bs) λo=>
 vK (gV o false (some a2)) λbt=>
 gK o false (λbu=>ag prog lK #[bt] y bu) y λbv t=>
 vK (gV o false (unV .not bv)) λbw=>
 vK (aE o (.bool true) bw) λbx=>
 aF bx (
 vK ((aM #[(.slice none 0 0),(.slice none 0 0),ai,ai,ai] []).map .agg) λbz=>
 stK 5 b bz t λeb z=>
 vK (aO 5 z b) λb0=>
 R (.tuple #[b0,(af 6)]) z) (
 vK (aB 1 a) λb1=>
 vK (ldV t b1) λb2=>
 vK ((aM #[(.slice none 0 0),(.slice none 0 0),ai,ai,ai] [(2,1,a1),(3,1,a2),(4,1,b2)]).map .agg) λb3=>
 aW #[(.slice none 0 0),(.slice none 0 0),ai,ai,ai] 38 t λd b4=>
 stK 5 d b3 b4 λec c=>
 vK (aB 0 a) λb5=>
 vK (ldV c b5) λb6=>
 vK (ak .i .eql b6 (af 3)) λb7=>
 aF b7 (
 vK (aB 7 a) λb8=>
 vK (ldV c b8) λb9=>
 ag prog lK #[b9] c λca u=>
 vK (unV .not ca) λg=>
 vK (gV g false (aB 8 a)) λcb=>
 vK (gV g false (ldV u cb)) λcc=>
 gK g false (λcd=>ag prog lK #[cc] u cd) u λce f=>
 vK (gV g false (unV .not ce)) λcf=>
 vK (aE g (.bool true) cf) λp=>
 vK (gV p false (aB 6 a)) λcg=>
 vK (gV p false (ldV f cg)) λch=>
 vK (gV p false (ak .i .lss ch ai)) λci=>
 vK (aE p (.bool true) ci) λq=>
 vK (gV q false (aB 6 a)) λcj=>
 vK (gV q false (ldV f cj)) λck=>
 vK (gV q false (ak .i .gtr ck (af 2))) λcl=>
 vK (aE q (.bool true) cl) λcm=>
 aF cm (
 vK ((aM #[(.slice none 0 0),(.slice none 0 0),ai,ai,ai] []).map .agg) λcn=>
 stK 5 b cn f λed aa=>
 vK (aO 5 aa b) λco=>
 R (.tuple #[co,(af 6)]) aa) (
 vK (aB 6 a) λcp=>
 vK (ldV f cp) λcq=>
 vK (aB 7 a) λcr=>
 vK (ldV f cr) λcs=>
 ag prog oZ #[cq,a1,cs] f λab ct=>
 vK (aL ab 0) λcu=>
 vK (aL ab 1) λac=>
 vK (aB 0 d) λcv=>
 stK 1 cv cu ct λee r=>
 vK (ak .i .neq ac ai) λcw=>
 aF cw (
 vK ((aM #[(.slice none 0 0),(.slice none 0 0),ai,ai,ai] []).map .agg) λcx=>
 stK 5 b cx r λef ad=>
 vK (aO 5 ad b) λcy=>
 R (.tuple #[cy,ac]) ad) (
 vK (aB 6 a) λcz=>
 vK (ldV r cz) λc0=>
 vK (aB 8 a) λc1=>
 vK (ldV r c1) λc2=>
 ag prog oZ #[c0,a2,c2] r λae c3=>
 vK (aL ae 0) λc4=>
 vK (aL ae 1) λaj=>
 vK (aB 1 d) λc5=>
 stK 1 c5 c4 c3 λeg v=>
 vK (ak .i .neq aj ai) λc6=>
 aF c6 (
 vK ((aM #[(.slice none 0 0),(.slice none 0 0),ai,ai,ai] []).map .agg) λc7=>
 stK 5 b c7 v λeh al=>
 vK (aO 5 al b) λc8=>
 R (.tuple #[c8,aj]) al) (
 vK (aO 5 v d) λc9=>
 stK 5 b c9 v λei am=>
 vK (aO 5 am b) λda=>
 R (.tuple #[da,ai]) am)))) (
 vK (aB 0 a) λdb=>
 vK (ldV c db) λw=>
 eK (λj=>
 vK (ak .i .eql w ai) λdc=>
 aF dc (
 vK (aB 2 a) λdd=>
 vK (ldV c dd) λde=>
 ag prog qG #[de] c λan df=>
 vK (aL an 0) λao=>
 vK (aL an 1) λdg=>
 j [dg,ao,ao] df) (
 vK (ak .i .eql w aH) λdh=>
 aF dh (
 vK (aB 3 a) λdi=>
 vK (ldV c di) λdj=>
 ag prog zL #[dj] c λap dk=>
 vK (aL ap 0) λaq=>
 vK (aL ap 1) λdl=>
 j [dl,aq,aq] dk) (
 vK (ak .i .eql w (af 2)) λdm=>
 aF dm (
 vK (aB 4 a) λdn=>
 vK (ldV c dn) λdp=>
 ag prog pd #[dp] c λar au=>
 vK (aL ar 0) λav=>
 vK (aL ar 1) λaw=>
 vK (aB 5 a) λdq=>
 vK (ldV au dq) λdr=>
 ag prog pd #[dr] au λax ay=>
 vK (aL ax 0) λaz=>
 vK (aL ax 1) λds=>
 vK (ak .i .eql aw ai) λdt=>
 aF dt (
 j [ds,av,az] ay) (
 j [aw,av,az] ay)) (
 j [ai,(.slice none 0 0),(.slice none 0 0)] c))))
 λs ej a3=>
 vK (ak .i .neq (ix s 0) ai) λdu=>
 aF du (
 vK ((aM #[(.slice none 0 0),(.slice none 0 0),ai,ai,ai] []).map .agg) λdv=>
 stK 5 b dv a3 λek a4=>
 vK (aO 5 a4 b) λdw=>
 R (.tuple #[dw,(ix s 0)]) a4) (
 ag prog o0 #[(ix s 1),a1] a3 λa5 dx=>
 vK (aL a5 0) λdy=>
 vK (aL a5 1) λa6=>
 vK (aB 0 d) λdz=>
 stK 1 dz dy dx λel a7=>
 vK (ak .i .neq a6 ai) λd0=>
 aF d0 (
 vK ((aM #[(.slice none 0 0),(.slice none 0 0),ai,ai,ai] []).map .agg) λd1=>
 stK 5 b d1 a7 λem a8=>
 vK (aO 5 a8 b) λd2=>
 R (.tuple #[d2,a6]) a8) (
 ag prog o0 #[(ix s 2),a2] a7 λa9 d3=>
 vK (aL a9 0) λd4=>
 vK (aL a9 1) λba=>
 vK (aB 1 d) λd5=>
 stK 1 d5 d4 d3 λen x=>
 vK (ak .i .neq ba ai) λd6=>
 aF d6 (
 vK ((aM #[(.slice none 0 0),(.slice none 0 0),ai,ai,ai] []).map .agg) λd7=>
 stK 5 b d7 x λeo bb=>
 vK (aO 5 bb b) λd8=>
 R (.tuple #[d8,ba]) bb) (
 vK (aO 5 x d) λd9=>
 stK 5 b d9 x λep bc=>
 vK (aO 5 bc b) λea=>
 R (.tuple #[ea,ai]) bc)))))
theorem Og (H:DD a0 a1 a2 h R):ag prog zK #[a0,a1,a2] h R:=fk f138 (.s .z (.s (.s .z (.s (.s .z .z) .z)) (.s .z (.s .z (.s (.s .z (.s (.s (.s .z (.s (.s .z .z) .z)) (.s .z (.s (.s .z (.s (.s .z .z) .z)) (.s .z (.s (.s .z (.s (.s .z .z) .z)) (.s .z .z)))))) .z)) (.s .z (.s .z (.s (.s .z (.m 174224571858449890892334881399078511451648 [9,10,11] (.s .z (.s (.s .z .z) (.s .z (.s (.s .z .z) (.s .z (.s (.s .z (.s .z (.s .z (.s .z (.s .z .z))))) .z)))))))) (.s (.s .z (.s (.s .z .z) .z)) (.s .z (.s (.s .z (.s (.s .z .z) .z)) (.s .z (.s (.s .z (.s (.s .z .z) .z)) (.s .z .z)))))))))))))) H
def DC (a0 a1 a2:Value)(h:ah)(R:Value→ah→Prop):Prop:=
 aW (Value.cells a0) 232 h λb a=>
 vK (aB 0 b) λc=>
 vK (ldV a c) λd=>
 vK (ak .i .eql d (af 3)) λe=>
 aF e (
 vK (aB 7 b) λf=>
 vK (ldV a f) λg=>
 vK (aB 8 b) λj=>
 vK (ldV a j) λk=>
 R (.tuple #[g,k]) a) (
 R (.tuple #[a1,a2]) a)
theorem Of (H:DC a0 a1 a2 h R):ag prog zJ #[a0,a1,a2] h R:=fk f139 (.s .z (.s (.s .z (.s (.s .z .z) .z)) (.s .z .z))) H
def Gd (a0:Value)(h:ah)(R:Value→ah→Prop):Prop:=
 aW (Value.cells a0) 31 h λb e=>
 aW #[ai,ai,ai,ai,(.slice none 0 0),(.slice none 0 0),ai,ai,ai] 232 e λc a=>
 vK (aB 0 b) λf=>
 vK (ldV a f) λg=>
 vK (aB 1 b) λi=>
 vK (ldV a i) λj=>
 vK (aB 2 b) λk=>
 vK (ldV a k) λl=>
 vK (aB 3 b) λm=>
 vK (ldV a m) λn=>
 vK (aB 4 b) λo=>
 vK (ldV a o) λp=>
 vK (aB 5 b) λq=>
 vK (ldV a q) λr=>
 vK (aB 6 b) λs=>
 vK (ldV a s) λt=>
 vK (aB 7 b) λu=>
 vK (ldV a u) λv=>
 vK (aB 8 b) λw=>
 vK (ldV a w) λx=>
 vK ((aM #[ai,ai,ai,ai,(.slice none 0 0),(.slice none 0 0),ai,ai,ai] [(0,1,g),(1,1,j),(2,1,l),(3,1,n),(4,1,p),(5,1,r),(6,1,t),(7,1,v),(8,1,x)]).map .agg) λy=>
 stK 9 c y a λaa d=>
 vK (aO 9 d c) λz=>
 R z d
theorem QU (H:Gd a0 h R):ag prog Ct #[a0] h R:=fk f140 (.s .z (.s .z .z)) H
def DA (a0:Value)(h:ah)(R:Value→ah→Prop):Prop:=
 vK (aD a0) λf=>
 aZ [ai,ai] h λa v c e=>
 vK (ak .i .lss (ix a 1) f) λg=>
 aF g (
 vK (bu 2 a0 (ix a 1)) λj=>
 vK (aO 2 c j) λk=>
 aW #[ai,(.slice none 0 0)] 240 c λd l=>
 stK 2 d k l λw b=>
 vK (aB 1 d) λm=>
 vK (ldV b m) λn=>
 vK (aD n) λo=>
 vK (ak .i .gtr o (ix a 0)) λp=>
 aF p (
 vK (aB 1 d) λq=>
 vK (ldV b q) λr=>
 vK (aD r) λs=>
 vK (ak .i .add (ix a 1) aH) λt=>
 e [s,t] b) (
 vK (ak .i .add (ix a 1) aH) λu=>
 e [(ix a 0),u] b)) (
 R (ix a 0) c)
theorem Od (H:DA a0 h R):ag prog zI #[a0] h R:=fk f141 (.s .z (.s .z (.s (.s .z (.l 2096936 [3,8] (.s .z (.s (.s .z .z) (.s (.s .z (.s .z (.s .z .z))) .z))))) (.s .z .z)))) H
def AP (a0 a1 a2:Value)(h:ah)(R:Value→ah→Prop):Prop:=
 vK (aD a0) λr=>
 aZ [ai,ai,(.bool false),ai] h λa az j m=>
 vK (ak .i .lss (ix a 3) r) λs=>
 aF s (
 vK (bu 2 a0 (ix a 3)) λt=>
 vK (aO 2 j t) λu=>
 aW #[ai,(.slice none 0 0)] 240 j λk v=>
 stK 2 k u v λa3 l=>
 vK (ak .i .lss (ix a 3) a1) λd=>
 vK (gV d false (some (ix a 3))) λw=>
 vK (gV d false (some a2)) λx=>
 vK (gV d false (ak .i .geq w x)) λy=>
 vK (aE d (.bool true) y) λz=>
 aF z (
 vK (ak .i .add (ix a 3) aH) λaa=>
 m [(ix a 0),(ix a 1),(ix a 2),aa] l) (
 vK (aB 1 k) λab=>
 vK (ldV l ab) λac=>
 vK (aD ac) λad=>
 aZ [(ix a 0),(ix a 1),(ix a 2),ai] l λb a4 e n=>
 vK (ak .i .lss (ix b 3) ad) λae=>
 aF ae (
 vK (aB 0 k) λaf=>
 vK (ldV e af) λag=>
 vK (ak .i .add ag (ix b 3)) λf=>
 eK (λo=>
 vK (unV .not (ix b 2)) λg=>
 vK (gV g false (some f)) λaj=>
 vK (gV g false (some (ix b 0))) λal=>
 vK (gV g false (ak .i .lss aj al)) λam=>
 vK (aE g (.bool true) am) λan=>
 aF an (
 o [f] e) (
 o [(ix b 0)] e))
 λp a5 q=>
 vK (unV .not (ix b 2)) λc=>
 vK (gV c false (some f)) λao=>
 vK (gV c false (ak .i .add ao aH)) λap=>
 vK (gV c false (some (ix b 1))) λaq=>
 vK (gV c false (ak .i .gtr ap aq)) λar=>
 vK (aE c (.bool true) ar) λau=>
 aF au (
 vK (ak .i .add f aH) λav=>
 vK (ak .i .add (ix b 3) aH) λaw=>
 n [(ix p 0),av,(.bool true),aw] q) (
 vK (ak .i .add (ix b 3) aH) λax=>
 n [(ix p 0),(ix b 1),(.bool true),ax] q)) (
 vK (ak .i .add (ix a 3) aH) λay=>
 m [(ix b 0),(ix b 1),(ix b 2),ay] e))) (
 R (.tuple #[(ix a 0),(ix a 1),(ix a 2)]) j)
theorem LY (H:AP a0 a1 a2 h R):ag prog qU #[a0,a1,a2] h R:=fk f142 (.s .z (.s .z (.s .z (.s .z (.s (.s .z (.l 2305843009213496832 [9,10,11,18] (.s .z (.s (.s .z .z) (.s (.s .z (.s (.s .z (.s .z .z)) (.s .z (.l 1152921487427030528 [9,10,11,34] (.s .z (.s (.s .z .z) (.s (.s .z (.s .z (.j 560750930166272 [9] (.s .z (.s .z .z)) (.s (.s .z (.s .z .z)) .z)))) .z))))))) .z))))) (.s .z .z)))))) H
def Js (a0 a1:Value)(h:ah)(R:Value→ah→Prop):Prop:=
 vK (aD a0) λc=>
 aZ [ai] h λb l a d=>
 vK (ak .i .lss (ix b 0) c) λe=>
 aF e (
 vK (bu 1 a0 (ix b 0)) λf=>
 vK (ldV a f) λg=>
 vK (ak .i .eql g a1) λj=>
 aF j (
 R (.bool true) a) (
 vK (ak .i .add (ix b 0) aH) λk=>
 d [k] a)) (
 R (.bool false) a)
theorem Tf (H:Js a0 a1 h R):ag prog Fx #[a0,a1] h R:=fk f143 (.s .z (.s (.s .z (.l 130640 [9] (.s .z (.s (.s .z .z) (.s (.s .z (.s .z (.s (.s .z .z) .z))) .z))))) (.s .z .z))) H
def wL (a0 a1:Value)(h:ah)(R:Value→ah→Prop):Prop:=
 vK (ak .i .geq a1 ai) λa=>
 vK (gV a true (some a1)) λb=>
 vK (gV a true (some a0)) λc=>
 vK (gV a true (aR c)) λd=>
 vK (gV a true (aB 0 d)) λe=>
 vK (gV a true (ldV h e)) λf=>
 vK (gV a true (aD f)) λg=>
 vK (gV a true (ak .i .lss b g)) λj=>
 vK (aE a j (.bool false)) λk=>
 R k h
theorem GK (H:wL a0 a1 h R):ag prog jG #[a0,a1] h R:=fk f144 (.s .z (.s .z .z)) H
def jI (a0:Value)(h:ah)(R:Value→ah→Prop):Prop:=
 eK (λc=>
 vK (aD a0) λe=>
 vK (ak .i .lss e aH) λf=>
 aF f (
 M7 h λs g=>
 c [] g) (
 c [] h))
 λt u d=>
 vK (bu 1 a0 ai) λj=>
 vK (ldV d j) λk=>
 aZ [k,aH] d λa v b l=>
 vK (aD a0) λm=>
 vK (ak .i .lss (ix a 1) m) λn=>
 aF n (
 vK (bu 1 a0 (ix a 1)) λo=>
 vK (ldV b o) λp=>
 vK (rR (ix a 0) p) λq=>
 vK (ak .i .add (ix a 1) aH) λr=>
 l [q,r] b) (
 R (ix a 0) b)
theorem rN (H:jI a0 h R):ag prog gH #[a0] h R:=fk f145 (.s .z (.j 480 [] (.s .z (.s .z .z)) (.s .z (.s (.s .z (.l 16773144 [3,4] (.s (.s .z (.s .z .z)) (.s .z .z)))) (.s .z .z))))) H
def D6 (a0 a1:Value)(h:ah)(R:Value→ah→Prop):Prop:=
 vK (aD a0) λk=>
 vK (aD a1) λl=>
 vK (jS k l) λf=>
 mkK (.int .i64 0) 3 1 8 f f h λb m=>
 Fi 1 b a0 m λap n=>
 vK (aD a1) λo=>
 aZ [(.int .i64 0)] n λa aq c g=>
 vK (ak .i .lss (ix a 0) o) λp=>
 aF p (
 vK (bu 1 a1 (ix a 0)) λq=>
 vK (ldV c q) λj=>
 vK (aD a0) λr=>
 vK (ak .i .geq (ix a 0) r) λs=>
 aF s (
 vK (jS (.int .i64 0) j) λt=>
 vK (bu 1 b (ix a 0)) λu=>
 stK 1 u t c λar v=>
 vK (ak .i .add (ix a 0) (.int .i64 1)) λw=>
 g [w] v) (
 vK (bu 1 b (ix a 0)) λx=>
 vK (ldV c x) λy=>
 vK (jS y j) λz=>
 vK (bu 1 b (ix a 0)) λaa=>
 stK 1 aa z c λau ab=>
 vK (ak .i .add (ix a 0) (.int .i64 1)) λac=>
 g [ac] ab)) (
 vK (aD a1) λad=>
 aZ [ad] c λd av e ae=>
 vK (aD a0) λaf=>
 vK (ak .i .lss (ix d 0) af) λag=>
 aF ag (
 vK (bu 1 b (ix d 0)) λai=>
 vK (ldV e ai) λaj=>
 vK (jS (.int .i64 0) aj) λal=>
 vK (bu 1 b (ix d 0)) λam=>
 stK 1 am al e λaw an=>
 vK (ak .i .add (ix d 0) (.int .i64 1)) λao=>
 ae [ao] an) (
 R b e))
theorem OM (H:D6 a0 a1 h R):ag prog z7 #[a0,a1] h R:=fk f146 (.s .z (.s .z (.s .z (.s (.s .z (.l 17592184996032 [20] (.s .z (.s (.s .z .z) (.s (.s .z (.s .z (.s .z .z))) .z))))) (.s (.s .z (.l 1152851135862669568 [8] (.s (.s .z (.s .z .z)) (.s .z .z)))) (.s .z .z)))))) H
def uR (a0:Value)(h:ah)(R:Value→ah→Prop):Prop:=
 vK (aR a0) λa=>
 vK (aB 0 a) λb=>
 vK (ldV h b) λc=>
 vK (aR a0) λd=>
 vK (aB 1 d) λe=>
 vK (ldV h e) λf=>
 vK (ak .i .mul c f) λg=>
 R g h
theorem ED (H:uR a0 h R):ag prog oT #[a0] h R:=fk f147 (.s .z (.s .z .z)) H
def Gi (a0 a1 a2:Value)(h:ah)(R:Value→ah→Prop):Prop:=
 vK (ak .i .lss a2 (.int .i64 1)) λa=>
 vK (gV a false (some a2)) λc=>
 vK (gV a false (ak .i .gtr c (.int .i64 65536))) λd=>
 vK (aE a (.bool true) d) λe=>
 aF e (
 R (.int .i64 0) h) (
 vK (ak .i .eql a0 (.int .i64 0)) λf=>
 aF f (
 vK (ak .i .sub a2 (.int .i64 1)) λg=>
 ag prog q9 #[a1,(.int .i64 0),g] h λj k=>
 R j k) (
 vK (ak .i .eql a0 (.int .i64 1)) λl=>
 aF l (
 vK (ak .i .mul (.int .i64 2) a2) λm=>
 ag prog sF #[a1,m] h λb n=>
 vK (ak .i .mul (.int .i64 2) a2) λo=>
 vK (ak .i .sub o (.int .i64 1)) λp=>
 vK (ak .i .sub p b) λq=>
 vK (rR b q) λr=>
 R r n) (
 vK (ak .i .eql a0 (.int .i64 2)) λs=>
 aF s (
 ag prog sF #[a1,a2] h λt u=>
 R t u) (
 R (.int .i64 0) h))))
theorem QZ (H:Gi a0 a1 a2 h R):ag prog lB #[a0,a1,a2] h R:=fk f148 (.s .z (.s (.s .z (.s (.s .z .z) .z)) (.s (.s .z (.s .z (.s (.s .z .z) (.s .z (.s (.s .z (.s .z .z)) (.s .z (.s (.s .z .z) .z))))))) (.s .z .z)))) H
def ye (a0 a1:Value)(h:ah)(R:Value→ah→Prop):Prop:=
 aW #[ai,ai,ai,ai] 114 h λe b=>
 bJ b λS=>
 vK (aR a0) λl=>
 vK (aB 3 l) λm=>
 qK S (λb=>ldV b m) λn=>
 vK (aR a0) λo=>
 vK (aB 4 o) λp=>
 qK S (λb=>ldV b p) λq=>
 ag prog gN #[a0] b λr f=>
 S f∧(vK (ak .i .rem a1 r) λs=>
 vK (ak .i .mul s n) λg=>
 ag prog gN #[a0] f λt a=>
 S a∧(vK (ak .i .quo a1 t) λu=>
 vK (ak .i .mul u q) λj=>
 bJ a λS=>
 vK (aR a0) λv=>
 vK (aB 3 v) λw=>
 qK S (λa=>ldV a w) λx=>
 vK (aR a0) λy=>
 vK (aB 0 y) λz=>
 vK (aB 0 z) λaa=>
 qK S (λa=>ldV a aa) λab=>
 vK (aR a0) λac=>
 vK (aB 4 ac) λad=>
 qK S (λa=>ldV a ad) λae=>
 vK (aR a0) λaf=>
 vK (aB 0 af) λaj=>
 vK (aB 1 aj) λal=>
 qK S (λa=>ldV a al) λam=>
 ag prog bI #[ab] a λan c=>
 S c∧(vK (ak .i .sub an g) λao=>
 qK S (λc=>rR x ao) λap=>
 ag prog bI #[am] c λaq d=>
 S d∧(vK (ak .i .sub aq j) λar=>
 qK S (λd=>rR ae ar) λau=>
 vK ((aM #[ai,ai,ai,ai] [(0,1,g),(1,1,j),(2,1,ap),(3,1,au)]).map .agg) λav=>
 stK 4 e av d λax k=>
 vK (aO 4 k e) λaw=>
 R aw k))))
theorem II (H:ye a0 a1 h R):ag prog mL #[a0,a1] h R:=fk f149 (.s .z (.s (.d (.op 0 .r (.op 1 .r (.op 4 .r (.op 5 .r (.op 6 .r (.op 7 .r (.op 9 .r (.op 10 .r (.op 13 .r (.op 14 .r (.op 15 .r (.op 16 .r (.op 2 .e (.op 3 .r (.op 8 .r (.op 11 .e (.op 12 .r (.op 17 .r (.op 18 .r (.op 19 .r .nil))))))))))))))))))))) (.s (.d (.op 0 .r (.op 1 .r (.op 2 .r (.op 3 .r (.op 4 .r (.op 5 .r (.op 6 .r (.op 7 .r (.op 8 .r (.op 9 .r (.op 10 .r (.op 12 .r (.op 15 .r (.op 16 .r (.op 17 .r (.op 18 .r (.op 19 .r (.op 20 .r (.op 21 .r (.op 22 .r (.op 23 .r (.op 25 .r (.op 11 .e (.op 13 .r (.op 14 .r (.op 24 .e (.op 26 .r (.op 27 .r (.op 28 .r (.op 29 .n .nil))))))))))))))))))))))))))))))) .z))) H
def tu (a0:Value)(h:ah)(R:Value→ah→Prop):Prop:=
 vK (aR a0) λa=>
 vK (aB 2 a) λb=>
 vK (ldV h b) λc=>
 R c h
theorem Df (H:tu a0 h R):ag prog fS #[a0] h R:=fk f150 (.s .z (.s .z .z)) H
def ry (a0 a1 a2:Value)(h:ah)(R:Value→ah→Prop):Prop:=
 vK (jS a1 ai) λd=>
 vK (aR a0) λk=>
 vK (aB 1 k) λl=>
 vK (ldV h l) λm=>
 vK (aD m) λn=>
 vK (rR a2 n) λf=>
 vK (ak .i .geq d f) λo=>
 aF o (
 R (.tuple #[ai,ai]) h) (
 vK (aR a0) λp=>
 vK (aB 1 p) λq=>
 vK (ldV h q) λr=>
 vK (bu 2 r d) λs=>
 vK (aB 0 s) λt=>
 vK (ldV h t) λg=>
 vK (aR a0) λu=>
 vK (aB 1 u) λv=>
 vK (ldV h v) λw=>
 vK (xj 2 w (some d) (some f)) λj=>
 vK (aD j) λx=>
 aZ [g,g,ai] h λa au e y=>
 vK (ak .i .lss (ix a 2) x) λz=>
 aF z (
 vK (bu 2 j (ix a 2)) λaa=>
 vK (aO 2 e aa) λab=>
 aW #[ai,(.slice none 0 0)] 189 e λb ac=>
 stK 2 b ab ac λav c=>
 vK (aB 0 b) λad=>
 vK (ldV c ad) λae=>
 vK (rR (ix a 0) ae) λaf=>
 vK (aB 0 b) λag=>
 vK (ldV c ag) λaj=>
 vK (aB 1 b) λal=>
 vK (ldV c al) λam=>
 vK (aD am) λan=>
 vK (ak .i .add aj an) λao=>
 vK (jS (ix a 1) ao) λap=>
 vK (ak .i .add (ix a 2) aH) λaq=>
 y [af,ap,aq] c) (
 vK (ak .i .sub (ix a 1) (ix a 0)) λar=>
 R (.tuple #[(ix a 0),ar]) e))
theorem Bz (H:ry a0 a1 a2 h R):ag prog gL #[a0,a1,a2] h R:=fk f151 (.s .z (.s .z (.s (.s .z (.s (.s .z .z) .z)) (.s .z (.s .z (.s (.s .z (.l 144114088564229440 [6,8,40] (.s .z (.s (.s .z .z) (.s (.s .z (.s .z .z)) .z))))) (.s .z .z))))))) H
def fP (a0:Value)(h:ah)(R:Value→ah→Prop):Prop:=
 vK (ak .sl .eql a0 (.slice none 0 0)) λa=>
 aF a (
 R (.slice none 0 0) h) (
 df #[] 2 0 [] h λb c=>
 di ai 2 1 8 b a0 c λd e=>
 R d e)
theorem jr (H:fP a0 h R):ag prog dd #[a0] h R:=fk f152 (.s .z (.s (.s .z (.s (.s .z .z) .z)) (.s .z .z))) H
def jg (a0:Value)(h:ah)(R:Value→ah→Prop):Prop:=
 vK (ak .sl .eql a0 (.slice none 0 0)) λa=>
 aF a (
 R (.slice none 0 0) h) (
 df #[] 3 0 [] h λb c=>
 di ai 3 1 8 b a0 c λd e=>
 R d e)
theorem pF (H:jg a0 h R):ag prog dJ #[a0] h R:=fk f153 (.s .z (.s (.s .z (.s (.s .z .z) .z)) (.s .z .z))) H
def Bk (a0 a1:Value)(h:ah)(R:Value→ah→Prop):Prop:=
 vK (aD a0) λc=>
 vK (aD a1) λd=>
 vK (ak .i .neq c d) λe=>
 aF e (
 R (.bool false) h) (
 vK (aD a0) λf=>
 aZ [ai] h λb q a g=>
 vK (ak .i .lss (ix b 0) f) λj=>
 aF j (
 vK (bu 1 a0 (ix b 0)) λk=>
 vK (ldV a k) λl=>
 vK (bu 1 a1 (ix b 0)) λm=>
 vK (ldV a m) λn=>
 vK (ak .i .gtr l n) λo=>
 aF o (
 R (.bool false) a) (
 vK (ak .i .add (ix b 0) aH) λp=>
 g [p] a)) (
 R (.bool true) a))
theorem Ms (H:Bk a0 a1 h R):ag prog xQ #[a0,a1] h R:=fk f157 (.s .z (.s (.s .z (.s (.s .z .z) .z)) (.s (.s .z (.l 67100720 [13] (.s .z (.s (.s .z .z) (.s (.s .z (.s .z (.s (.s .z .z) .z))) .z))))) (.s .z .z)))) H
def Bm (a0 a1:Value)(h:ah)(R:Value→ah→Prop):Prop:=
 ag prog fV #[a0,a1] h λa b=>
 R a b
theorem Mt (H:Bm a0 a1 h R):ag prog xR #[a0,a1] h R:=fk f158 (.s .z (.s .z .z)) H
def Dy (a0:Value)(h:ah)(R:Value→ah→Prop):Prop:=
 vK (ak .i .geq a0 aH) λa=>
 vK (gV a true (some a0)) λb=>
 vK (gV a true (ak .i .leq b (af 65536))) λc=>
 vK (aE a c (.bool false)) λd=>
 R d h
theorem Ob (H:Dy a0 h R):ag prog oP #[a0] h R:=fk f162 (.s .z (.s .z .z)) H
def Lr (a0 a1 a2 a3:Value)(h:ah)(R:Value→ah→Prop):Prop:=
 ag prog zP #[a0,a1,a2,a3] h λb e=>
 vK (aL b 0) λc=>
 vK (aL b 1) λf=>
 aZ [(.slice none 0 0),ai] e λa s d g=>
 vK (ak .i .lss (ix a 1) f) λj=>
 aF j (
 vK (ak .i .add c (ix a 1)) λk=>
 ag prog Cr #[a0,a1,a2,a3,k] d λl m=>
 df #[ai] 2 1 [(0,1,l)] m λn o=>
 di ai 2 1 8 (ix a 0) n o λp q=>
 vK (ak .i .add (ix a 1) aH) λr=>
 g [p,r] q) (
 R (.tuple #[c,(ix a 0)]) d)
theorem UU (H:Lr a0 a1 a2 a3 h R):ag prog Db #[a0,a1,a2,a3] h R:=fk f163 (.s .z (.s .z (.s (.s .z (.l 68717382144 [9,21] (.s .z (.s (.s .z .z) (.s (.s .z .z) .z))))) (.s .z .z)))) H
def wn (a0:Value)(h:ah)(R:Value→ah→Prop):Prop:=
 ag prog zG #[a0] h λt u=>
 vK (ak .i .neq t ai) λbz=>
 aF bz (
 R (.tuple #[(.slice none 0 0),t]) u) (
 ag prog zH #[a0] u λv f=>
 eK (λb0=>
 bJ f λS=>
 qK S (λf=>aD a0) λa=>
 qK S (λf=>aD a0) λb=>
 qK S (λf=>aD a0) λc=>
 (λC22:Value→Value→Value→Value→ah→Prop=>
 (λC29:Value→Value→Value→Value→ah→Prop=>
 (λC35:Value→Value→Value→Value→ah→Prop=>
 (λC43:Value→Value→Value→ah→Prop=>
 (λC51:Value→Value→Value→ah→Prop=>
 (λC58:Value→Value→Value→ah→Prop=>
 (λC63:Value→Value→Value→ah→Prop=>
 (λC68:Value→Value→Value→ah→Prop=>
 (λC75:Value→Value→Value→ah→Prop=>
 (λC83:Value→Value→ah→Prop=>
 (λC91:Value→Value→ah→Prop=>
 (λC99:Value→Value→ah→Prop=>
 (λC107:Value→Value→ah→Prop=>
 (λC115:Value→Value→ah→Prop=>
 (λC123:Value→Value→ah→Prop=>
 (mkK ai 2 1 8 a a f λo j=>
 S j∧((mkK ai 3 1 8 b b j λb1 w=>
 S w∧(C83 o b1 w))∧((mkK ai 2 1 8 c c j λb2 x=>
 S x∧(C91 o b2 x))∧(aW #[(.slice none 0 0)] 28 j λb3 y=>
 S y∧(C99 o b3 y)))))∧((mkK ai 3 1 8 b b f λp k=>
 S k∧((mkK ai 2 1 8 a a k λb4 z=>
 S z∧(C83 b4 p z))∧((mkK ai 2 1 8 c c k λb5 aa=>
 S aa∧(C107 p b5 aa))∧(aW #[(.slice none 0 0)] 28 k λb6 ab=>
 S ab∧(C115 p b6 ab)))))∧((mkK ai 2 1 8 c c f λq l=>
 S l∧((mkK ai 2 1 8 a a l λb7 ac=>
 S ac∧(C91 b7 q ac))∧((mkK ai 3 1 8 b b l λb8 ad=>
 S ad∧(C107 b8 q ad))∧(aW #[(.slice none 0 0)] 28 l λb9 ae=>
 S ae∧(C123 q b9 ae)))))∧(aW #[(.slice none 0 0)] 28 f λr m=>
 S m∧((mkK ai 2 1 8 a a m λca aj=>
 S aj∧(C99 ca r aj))∧((mkK ai 3 1 8 b b m λcb al=>
 S al∧(C115 cb r al))∧(mkK ai 2 1 8 c c m λcc am=>
 S am∧(C123 cc r am)))))))) (λan ao ap=>
 (mkK ai 2 1 8 a a ap λcd aq=>
 S aq∧(C68 cd an ao aq))∧(mkK ai 3 1 8 b b ap λce ar=>
 S ar∧(C75 ce an ao ar)))) (λau av aw=>
 (mkK ai 2 1 8 a a aw λcf ax=>
 S ax∧(C63 cf au av ax))∧(mkK ai 2 1 8 c c aw λcg ay=>
 S ay∧(C75 au cg av ay)))) (λaz a1 a2=>
 (mkK ai 2 1 8 a a a2 λch a3=>
 S a3∧(C58 ch az a1 a3))∧(aW #[(.slice none 0 0)] 28 a2 λci a4=>
 S a4∧(C75 az a1 ci a4)))) (λa5 a6 a7=>
 (mkK ai 3 1 8 b b a7 λcj a8=>
 S a8∧(C43 cj a6 a5 a8))∧(mkK ai 2 1 8 c c a7 λck a9=>
 S a9∧(C51 ck a6 a5 a9)))) (λba bb bc=>
 (mkK ai 3 1 8 b b bc λcl bd=>
 S bd∧(C58 ba cl bb bd))∧(aW #[(.slice none 0 0)] 28 bc λcm be=>
 S be∧(C68 ba bb cm be)))) (λbf bg bh=>
 (mkK ai 2 1 8 c c bh λcn bi=>
 S bi∧(C58 bf bg cn bi))∧(aW #[(.slice none 0 0)] 28 bh λco bj=>
 S bj∧(C63 bf bg co bj)))) (λcp cq cr cs=>
 mkK ai 2 1 8 a a cs λct bk=>
 S bk∧(C35 ct cp cq cr bk))) (λcu cv cw cx=>
 C51 cv cw cu cx)) (λcy cz c0 c1=>
 C43 cz c0 cy c1)) (λc2 c3 c4 c5=>
 aW #[(.slice none 0 0)] 28 c5 λc6 bl=>
 S bl∧(C35 c2 c3 c4 c6 bl))) (λc7 c8 c9 da=>
 mkK ai 3 1 8 b b da λdb bm=>
 S bm∧(C29 db c7 c8 c9 bm))) (λdc dd de df=>
 mkK ai 2 1 8 c c df λdg bn=>
 S bn∧(C22 dg dd de dc bn))) (λdh di dj dk dl=>
 C29 di dj dk dh dl)) (λdm dn dp dq dr=>
 C22 dn dp dq dm dr)) (λds bo dt du dv=>
 stK 1 bo ds dv λep bp=>
 S bp∧(b0 [dt,du,bo] bp)))
 λd eq dw=>
 vK (aD a0) λdx=>
 aZ [(af 16384),ai] dw λe er g dy=>
 vK (ak .i .lss (ix e 1) dx) λdz=>
 aF dz (
 vK (bu 1 a0 (ix e 1)) λd0=>
 vK (ldV g d0) λbq=>
 bJ g λS=>
 qK S (λg=>ldV g (ix d 2)) λd1=>
 vK (ak .i .mul bq (af 16384)) λd2=>
 vK (ak .i .mul bq (af 16384)) λd3=>
 ag prog kn #[d2,v] g λd4 br=>
 S br∧(ag prog sF #[d3,v] br λd5 bs=>
 S bs∧(vK (bu 1 (ix d 0) (ix e 1)) λd6=>
 stK 1 d6 d4 bs λes bt=>
 S bt∧(vK (bu 1 d1 (ix e 1)) λd7=>
 stK 1 d7 d5 bt λet d8=>
 vK (bu 1 (ix d 1) (ix e 1)) λd9=>
 stK 1 d9 (ix e 1) d8 λeu bv=>
 vK (bu 1 (ix d 0) (ix e 1)) λea=>
 vK (ldV bv ea) λeb=>
 vK (ak .i .sub (ix e 0) eb) λec=>
 vK (ak .i .add (ix e 1) aH) λed=>
 dy [ec,ed] bv)))) (
 ag prog eV #[(ix d 1),(.func (.func ma) #[] #[(ix d 2)])] g λev ee=>
 vK (xj 1 (ix d 1) none (some (ix e 0))) λbw=>
 vK (aD bw) λef=>
 aZ [ai] ee λs ew n eg=>
 vK (ak .i .lss (ix s 0) ef) λeh=>
 aF eh (
 vK (bu 1 bw (ix s 0)) λei=>
 vK (ldV n ei) λbx=>
 vK (bu 1 (ix d 0) bx) λej=>
 vK (ldV n ej) λek=>
 vK (ak .i .add ek aH) λel=>
 vK (bu 1 (ix d 0) bx) λem=>
 stK 1 em el n λex en=>
 vK (ak .i .add (ix s 0) aH) λeo=>
 eg [eo] en) (
 R (.tuple #[(ix d 0),ai]) n)))
theorem Gv (H:wn a0 h R):ag prog jE #[a0] h R:=fk f164 (.s .z (.s (.s .z (.s .z (.s (.s .z .z) .z))) (.s .z (.j 1071645568 [7,8,9] (.d (.op 0 .r (.op 1 .r (.op 3 .r (.op 4 .r (.op 6 .r (.op 7 .r (.alt (.op 2 .e (.alt (.op 5 .e (.alt (.op 8 .e (.op 9 .e (.op 10 .r (.op 11 .r (.op 12 .e .nil))))) (.op 9 .e (.op 10 .r (.op 11 .r (.op 8 .e (.op 12 .e .nil))))))) (.alt (.op 8 .e (.alt (.op 5 .e (.op 9 .e (.op 10 .r (.op 11 .r (.op 12 .e .nil))))) (.op 9 .e (.op 10 .r (.op 5 .e (.op 11 .r (.op 12 .e .nil))))))) (.op 9 .e (.op 10 .r (.alt (.op 5 .e (.op 11 .r (.op 8 .e (.op 12 .e .nil)))) (.op 8 .e (.op 5 .e (.op 11 .r (.op 12 .e .nil)))))))))) (.alt (.op 5 .e (.alt (.op 2 .e (.alt (.op 8 .e (.op 9 .e (.op 10 .r (.op 11 .r (.op 12 .e .nil))))) (.op 9 .e (.op 10 .r (.op 11 .r (.op 8 .e (.op 12 .e .nil))))))) (.alt (.op 8 .e (.alt (.op 2 .e (.op 9 .e (.op 10 .r (.op 11 .r (.op 12 .e .nil))))) (.op 9 .e (.op 2 .e (.op 10 .r (.op 11 .r (.op 12 .e .nil))))))) (.op 9 .e (.alt (.op 2 .e (.op 10 .r (.op 11 .r (.op 8 .e (.op 12 .e .nil))))) (.op 8 .e (.op 2 .e (.op 10 .r (.op 11 .r (.op 12 .e .nil)))))))))) (.alt (.op 8 .e (.alt (.op 2 .e (.alt (.op 5 .e (.op 9 .e (.op 10 .r (.op 11 .r (.op 12 .e .nil))))) (.op 9 .e (.op 10 .r (.op 5 .e (.op 11 .r (.op 12 .e .nil))))))) (.alt (.op 5 .e (.alt (.op 2 .e (.op 9 .e (.op 10 .r (.op 11 .r (.op 12 .e .nil))))) (.op 9 .e (.op 2 .e (.op 10 .r (.op 11 .r (.op 12 .e .nil))))))) (.op 9 .e (.alt (.op 2 .e (.op 10 .r (.op 5 .e (.op 11 .r (.op 12 .e .nil))))) (.op 5 .e (.op 2 .e (.op 10 .r (.op 11 .r (.op 12 .e .nil)))))))))) (.op 9 .e (.alt (.op 2 .e (.op 10 .r (.alt (.op 5 .e (.op 11 .r (.op 8 .e (.op 12 .e .nil)))) (.op 8 .e (.op 5 .e (.op 11 .r (.op 12 .e .nil))))))) (.alt (.op 5 .e (.alt (.op 2 .e (.op 10 .r (.op 11 .r (.op 8 .e (.op 12 .e .nil))))) (.op 8 .e (.op 2 .e (.op 10 .r (.op 11 .r (.op 12 .e .nil))))))) (.op 8 .e (.alt (.op 2 .e (.op 10 .r (.op 5 .e (.op 11 .r (.op 12 .e .nil))))) (.op 5 .e (.op 2 .e (.op 10 .r (.op 11 .r (.op 12 .e .nil)))))))))))))))))))) (.s (.s .z (.l 4611686014132423744 [6,32] (.s .z (.s (.s .z .z) (.s (.s .z (.s (.d (.op 0 .r (.op 1 .r (.op 2 .r (.op 3 .r (.op 4 .r (.op 5 .r (.op 6 .r (.op 7 .r (.op 8 .r (.op 10 .r (.op 11 .r (.op 12 .r (.op 14 .r (.op 9 .e (.op 13 .e (.op 15 .r (.op 16 .e (.op 17 .r (.op 18 .n (.op 19 .r (.op 20 .n .nil)))))))))))))))))))))) .z)) .z))))) (.s .z (.s (.s .z (.l 1208335523804270469062656 [69] (.s .z (.s (.s .z .z) (.s (.s .z .z) .z))))) (.s .z .z)))))))) H
def uP (a0 a1 a2:Value)(h:ah)(R:Value→ah→Prop):Prop:=
 vK (aR a0) λd=>
 vK (aB 1 d) λe=>
 vK (ldV h e) λf=>
 vK ((aM #[ai,(.slice none 0 0)] [(0,1,a1),(1,1,a2)]).map .agg) λg=>
 df #[ai,(.slice none 0 0)] 189 1 [(0,2,g)] h λi j=>
 di (.agg #[ai,.slice none 0 0]) 189 2 32 f i j λk l=>
 vK (aR a0) λm=>
 vK (aB 1 m) λn=>
 stK 1 n k l λad c=>
 vK (aR a0) λo=>
 vK (aB 2 o) λp=>
 vK (ldV c p) λq=>
 vK (aD a2) λr=>
 vK (jS q r) λs=>
 vK (aR a0) λt=>
 vK (aB 2 t) λu=>
 stK 1 u s c λae a=>
 bJ a λS=>
 vK (aR a0) λv=>
 vK (aB 3 v) λw=>
 qK S (λa=>ldV a w) λx=>
 ag prog xb #[a2] a λy b=>
 S b∧(qK S (λb=>jS x y) λz=>
 vK (aR a0) λaa=>
 vK (aB 3 aa) λab=>
 stK 1 ab z b λaf ac=>
 R (.tuple #[]) ac)
theorem EB (H:uP a0 a1 a2 h R):ag prog kM #[a0,a1,a2] h R:=fk f165 (.s .z (.s .z (.d (.op 0 .r (.op 1 .r (.op 2 .r (.op 3 .r (.op 4 .r (.op 5 .r (.op 6 .e (.op 7 .r (.op 8 .r (.op 9 .r (.op 10 .n .nil)))))))))))))) H
def xX (a0:Value)(h:ah)(R:Value→ah→Prop):Prop:=
 vK (ak .i .lss a0 aH) λb=>
 vK (gV b false (some a0)) λe=>
 vK (gV b false (ak .i .gtr e (af 4194304))) λf=>
 vK (aE b (.bool true) f) λg=>
 aF g (
 R (.tuple #[(.slice none 0 0),(af 7)]) h) (
 vK (ak .i .mul (af 3) a0) λj=>
 vK (ak .i .add j (af 65536)) λk=>
 vK (ak .i .sub k aH) λl=>
 vK (ak .i .shr l (.int .u64 16)) λc=>
 vK (unV .neg c) λm=>
 aZ [(.slice none 0 0),m] h λa w d n=>
 vK (ak .i .leq (ix a 1) c) λo=>
 aF o (
 ag prog zY #[(ix a 1),a0] d λp q=>
 df #[ai] 2 1 [(0,1,p)] q λr s=>
 di ai 2 1 8 (ix a 0) r s λt u=>
 vK (ak .i .add (ix a 1) aH) λv=>
 n [t,v] u) (
 R (.tuple #[(ix a 0),ai]) d))
theorem IC (H:xX a0 h R):ag prog mJ #[a0] h R:=fk f166 (.s .z (.s (.s .z (.s (.s .z .z) .z)) (.s .z (.s .z (.s (.s .z (.l 2146435168 [5,6] (.s (.s .z (.s .z .z)) (.s .z .z)))) (.s .z .z)))))) H
def FL (a0:Value)(h:ah)(R:Value→ah→Prop):Prop:=
 vK (ak .i .lss a0 ai) λa=>
 vK (gV a false (some a0)) λc=>
 vK (gV a false (ak .i .gtr c (af 511))) λd=>
 vK (aE a (.bool true) d) λe=>
 aF e (
 R (.tuple #[(.slice none 0 0),(af 7)]) h) (
 df #[ai] 2 1 [(0,1,aH)] h λf g=>
 vK (ak .i .mul (af 2) a0) λj=>
 vK (ak .i .add j aH) λk=>
 ag prog fU #[f,k] g λl m=>
 ag prog sA #[l] m λb n=>
 vK (aL b 0) λo=>
 vK (aL b 1) λp=>
 R (.tuple #[o,p]) n)
theorem Qz (H:FL a0 h R):ag prog Ci #[a0] h R:=fk f167 (.s .z (.s (.s .z (.s (.s .z .z) .z)) (.s .z .z))) H
def FJ (a0:Value)(h:ah)(R:Value→ah→Prop):Prop:=
 ag prog xb #[a0] h λc g=>
 vK (aD a0) λj=>
 vK (ak .i .rem j (af 2)) λk=>
 vK (ak .i .eql k ai) λb=>
 vK (gV b false (some a0)) λl=>
 vK (gV b false (aD l)) λm=>
 vK (gV b false (ak .i .gtr m (af 1024))) λn=>
 vK (aE b (.bool true) n) λd=>
 vK (gV d false (some c)) λo=>
 vK (gV d false (ak .i .lss o aH)) λp=>
 vK (aE d (.bool true) p) λe=>
 vK (gV e false (some c)) λq=>
 vK (gV e false (ak .i .gtr q (af 1048576))) λr=>
 vK (aE e (.bool true) r) λs=>
 aF s (
 R (.tuple #[(.slice none 0 0),(af 7)]) g) (
 vK (aD a0) λt=>
 aZ [(.slice none 0 0),ai] g λa aj f u=>
 vK (ak .i .lss (ix a 1) t) λv=>
 aF v (
 vK (bu 1 a0 (ix a 1)) λw=>
 vK (ldV f w) λx=>
 ag prog eG #[x,(af 1073741824),c] f λy z=>
 df #[ai] 2 1 [(0,1,y)] z λaa ab=>
 di ai 2 1 8 (ix a 0) aa ab λac ad=>
 vK (ak .i .add (ix a 1) aH) λae=>
 u [ac,ae] ad) (
 R (.tuple #[(ix a 0),ai]) f))
theorem Qx (H:FJ a0 h R):ag prog sA #[a0] h R:=fk f168 (.s .z (.s .z (.s (.s .z (.s (.s .z .z) .z)) (.s .z (.s (.s .z (.l 1098974757024 [5,29] (.s .z (.s (.s .z .z) (.s (.s .z .z) .z))))) (.s .z .z)))))) H
def Bb (h:ah)(R:Value→ah→Prop):Prop:=
 vK ((aM #[ai,ai,ai,ai,(.slice none 0 0),(.slice none 0 0),ai,ai,ai] [(0,1,(af 3)),(7,1,(af 2)),(8,1,aH),(6,1,ai)]).map .agg) λq=>
 ag prog nF #[q,(af 4),(af 3)] h λo r=>
 vK (aL o 0) λs=>
 vK (aL o 1) λt=>
 aW #[(.pointer none),(.pointer none),ai] 81 r λa u=>
 stK 3 a s u λa7 v=>
 ag prog xN #[] v λk b=>
 vK (gV k true (some t)) λw=>
 vK (gV k true (ak .i .eql w ai)) λx=>
 vK (aE k x (.bool false)) λg=>
 vK (gV g true (aB 0 a)) λy=>
 vK (gV g true (ldV b y)) λz=>
 vK (gV g true (ak .p .neq z (.pointer none))) λaa=>
 vK (aE g aa (.bool false)) λj=>
 vK (gV j true (aB 1 a)) λab=>
 vK (gV j true (ldV b ab)) λac=>
 vK (gV j true (ak .p .neq ac (.pointer none))) λad=>
 vK (aE j ad (.bool false)) λc=>
 vK (gV c true (aB 0 a)) λae=>
 vK (gV c true (ldV b ae)) λaj=>
 gK c true (λal=>ag prog fT #[aj] b al) b λam l=>
 vK (gV c true (ak .i .eql am (af 4))) λan=>
 vK (aE c an (.bool false)) λd=>
 vK (gV d true (aB 0 a)) λao=>
 vK (gV d true (ldV l ao)) λap=>
 gK d true (λaq=>ag prog bI #[ap] l aq) l λar m=>
 vK (gV d true (ak .i .eql ar (af 2))) λau=>
 vK (aE d au (.bool false)) λe=>
 vK (gV e true (aB 1 a)) λav=>
 vK (gV e true (ldV m av)) λaw=>
 gK e true (λax=>ag prog fT #[aw] m ax) m λay n=>
 vK (gV e true (ak .i .eql ay (af 3))) λaz=>
 vK (aE e az (.bool false)) λf=>
 vK (gV f true (aB 1 a)) λa0=>
 vK (gV f true (ldV n a0)) λa1=>
 gK f true (λa2=>ag prog bI #[a1] n a2) n λa3 a4=>
 vK (gV f true (ak .i .eql a3 aH)) λa5=>
 vK (aE f a5 (.bool false)) λa6=>
 R a6 a4
theorem Mk (H:Bb h R):ag prog q8 #[] h R:=fk f169 (.s .z (.s .z (.s .z .z))) H
def Bc (h:ah)(R:Value→ah→Prop):Prop:=
 ag prog iQ #[(af 2),aH,(af 3),(af 255)] h λf g=>
 vK (aL f 0) λb=>
 vK (aL f 1) λl=>
 vK (ak .i .eql l ai) λd=>
 vK (gV d true (some b)) λm=>
 vK (gV d true (ak .p .neq m (.pointer none))) λn=>
 vK (aE d n (.bool false)) λa=>
 vK (gV a true (some b)) λo=>
 gK a true (λq=>ag prog jZ #[o] g q) g λr j=>
 vK (gV a true (aD r)) λs=>
 vK (gV a true (ak .i .eql s (af 6))) λt=>
 vK (aE a t (.bool false)) λc=>
 vK (gV c true (some b)) λu=>
 gK c true (λv=>ag prog fW #[u,aH,ai,(af 2),(.int .u16 256)] j v) j λw k=>
 vK (gV c true (unV .not w)) λx=>
 vK (aE c x (.bool false)) λe=>
 vK (gV e true (some b)) λy=>
 gK e true (λz=>ag prog fW #[y,aH,ai,(af 2),(.int .u16 255)] k z) k λaa ab=>
 vK (aE e aa (.bool false)) λac=>
 R ac ab
theorem Ml (H:Bc h R):ag prog xM #[] h R:=fk f170 (.s .z (.s .z (.s .z .z))) H
def Ar (a0 a1:Value)(h:ah)(R:Value→ah→Prop):Prop:=
 aW (Value.cells a1) 81 h λc j=>
 vK (aO 3 j c) λq=>
 ag prog jF #[a0,q] j λr a=>
 vK (unV .not r) λs=>
 aF s (
 R (.tuple #[(.pointer none),(af 6)]) a) (
 bJ a λS=>
 vK (aB 0 c) λt=>
 qK S (λa=>ldV a t) λu=>
 vK (aB 1 c) λv=>
 qK S (λa=>ldV a v) λw=>
 ag prog bI #[u] a λx k=>
 S k∧(ag prog bI #[w] k λy z=>
 ag prog aV #[a0] z λaa ab=>
 ag prog dp #[a0] ab λac ad=>
 ag prog iQ #[x,y,aa,ac] ad λl m=>
 vK (aL l 0) λb=>
 vK (aL l 1) λn=>
 vK (ak .i .neq n ai) λae=>
 aF ae (
 R (.tuple #[(.pointer none),n]) m) (
 ag prog bN #[b] m λaj al=>
 aZ [ai] al λd bb o am=>
 vK (ak .i .lss (ix d 0) aj) λan=>
 aF an (
 ag prog bL #[b] o λao ap=>
 aZ [ai] ap λe bc p aq=>
 vK (ak .i .lss (ix e 0) ao) λar=>
 aF ar (
 ag prog aV #[b] p λau av=>
 aZ [ai] av λf bd g aw=>
 vK (ak .i .lss (ix f 0) au) λax=>
 aF ax (
 vK (aO 3 g c) λay=>
 ag prog zZ #[a0,ay,(ix e 0),(ix d 0),(ix f 0)] g λaz a2=>
 ag prog dp #[a0] a2 λa3 a4=>
 ag prog pB #[az,a3] a4 λa5 a6=>
 ag prog fW #[b,(ix e 0),(ix d 0),(ix f 0),a5] a6 λbe a7=>
 vK (ak .i .add (ix f 0) aH) λa8=>
 aw [a8] a7) (
 vK (ak .i .add (ix e 0) aH) λa9=>
 aq [a9] g)) (
 vK (ak .i .add (ix d 0) aH) λba=>
 am [ba] p)) (
 R (.tuple #[b,ai]) o))))
theorem Kv (H:Ar a0 a1 h R):ag prog vT #[a0,a1] h R:=fk f171 (.s .z (.s (.s .z (.s (.s .z .z) .z)) (.s (.d (.op 0 .r (.op 1 .r (.op 3 .r (.op 4 .r (.op 6 .r (.op 8 .r (.op 2 .e (.op 5 .n (.op 7 .n (.op 9 .n (.op 10 .n (.op 11 .r (.op 12 .r (.op 13 .r (.op 14 .r (.op 15 .r .nil))))))))))))))))) (.s (.s .z (.s (.s .z .z) .z)) (.s (.s .z (.l 18446744056529684224 [34] (.s .z (.s (.s .z .z) (.s (.s .z (.s .z (.l 9223371487098963456 [39] (.s .z (.s (.s .z .z) (.s (.s .z (.s .z (.l 4611668426241344512 [44] (.s .z (.s (.s .z .z) (.s (.s .z .z) .z)))))) .z)))))) .z))))) (.s .z .z)))))) H
end
section
variable {a0 a1 a2 a3 a4 a5 a6:Value}{h:ah}{R:Value→ah→Prop}
def Aa (a0 a1 a2:Value)(h:ah)(R:Value→ah→Prop):Prop:=
 aW (Value.cells a2) 81 h λl a=>
 bJ a λS=>
 vK (ak .p .neq a0 (.pointer none)) λm=>
 vK (gV m true (some a1)) λu=>
 vK (gV m true (ak .p .neq u (.pointer none))) λv=>
 vK (aE m v (.bool false)) λj=>
 vK (gV j true (some a0)) λw=>
 vK (gV j true (some a1)) λx=>
 qK S (λa=>gV j true (peV a .neq w x)) λy=>
 vK (aE j y (.bool false)) λk=>
 vK (gV k true (some a0)) λz=>
 qK S (λa=>gV k true (aO 3 a l)) λaa=>
 gK k true (λab=>ag prog jF #[z,aa] a ab) a λac f=>
 bJ f λS=>
 vK (aE k ac (.bool false)) λb=>
 vK (gV b true (some a1)) λad=>
 vK (gV b true (aB 0 l)) λae=>
 qK S (λf=>gV b true (ldV f ae)) λaf=>
 gK b true (λai=>ag prog bL #[ad] f ai) f λaj n=>
 S n∧(gK b true (λal=>ag prog bI #[af] n al) n λam g=>
 bJ g λS=>
 vK (gV b true (ak .i .eql aj am)) λan=>
 vK (aE b an (.bool false)) λc=>
 vK (gV c true (some a1)) λao=>
 vK (gV c true (aB 1 l)) λap=>
 qK S (λg=>gV c true (ldV g ap)) λaq=>
 gK c true (λar=>ag prog bN #[ao] g ar) g λau o=>
 S o∧(gK c true (λav=>ag prog bI #[aq] o av) o λaw q=>
 vK (gV c true (ak .i .eql au aw)) λax=>
 vK (aE c ax (.bool false)) λd=>
 vK (gV d true (some a1)) λay=>
 vK (gV d true (some a0)) λaz=>
 gK d true (λa3=>ag prog aV #[ay] q a3) q λa4 r=>
 gK d true (λa5=>ag prog aV #[az] r a5) r λa6 s=>
 vK (gV d true (ak .i .eql a4 a6)) λa7=>
 vK (aE d a7 (.bool false)) λe=>
 vK (gV e true (some a1)) λa8=>
 vK (gV e true (some a0)) λa9=>
 gK e true (λba=>ag prog dp #[a8] s ba) s λbb t=>
 gK e true (λbc=>ag prog dp #[a9] t bc) t λbd be=>
 vK (gV e true (ak .i .eql bb bd)) λbf=>
 vK (aE e bf (.bool false)) λbg=>
 R bg be))
theorem Kd (H:Aa a0 a1 a2 h R):ag prog vL #[a0,a1,a2] h R:=fk f172 (.s .z (.s (.d (.op 0 .r (.op 1 .r (.op 2 .r (.op 3 .r (.op 4 .r (.op 5 .r (.op 6 .r (.op 7 .r (.op 8 .r (.op 9 .r (.op 10 .r (.op 11 .r (.op 12 .r (.op 13 .r (.op 14 .f (.op 15 .r (.op 16 .r (.op 17 .r (.op 19 .r (.op 20 .r (.op 18 .e (.op 21 .f (.op 22 .r (.op 23 .r (.op 24 .r (.op 25 .r (.op 27 .r (.op 28 .r (.op 26 .e (.op 29 .n (.op 30 .r (.op 31 .r (.op 32 .r (.op 33 .r (.op 35 .r (.op 34 .n (.op 36 .n (.op 37 .r (.op 38 .r (.op 39 .r (.op 40 .r (.op 42 .r (.op 41 .n (.op 43 .n (.op 44 .r (.op 45 .r (.op 46 .r .nil)))))))))))))))))))))))))))))))))))))))))))))))) .z)) H
def Jr (a0 a1:Value)(h:ah)(R:Value→ah→Prop):Prop:=
 vK (jS aH a0) λa=>
 vK (rR a (af 65536)) λb=>
 vK (jS ai a1) λc=>
 vK (rR c (af 262144)) λd=>
 V2 h λe f=>
 vK ((aM #[ai,ai,(.map none),(.slice none 0 0)] [(0,1,b),(1,1,d),(2,1,e)]).map .agg) λg=>
 aW (Value.cells g) 287 f λi j=>
 R i j
theorem Te (H:Jr a0 a1 h R):ag prog Fw #[a0,a1] h R:=fk f173 (.s .z (.s .z .z)) H
def uO (a0:Value)(h:ah)(R:Value→ah→Prop):Prop:=
 aW #[ai,ai] 146 h λb l=>
 ag prog oN #[a0] l λm e=>
 aF m (
 vK ((aM #[ai,ai] []).map .agg) λn=>
 stK 2 b n e λar f=>
 vK (aO 2 f b) λo=>
 R o f) (
 ag prog kL #[a0] e λp q=>
 aW #[ai,(.slice none 0 0)] 189 q λc r=>
 stK 2 c p r λau a=>
 bJ a λS=>
 vK (aR a0) λs=>
 vK (aB 15 s) λt=>
 qK S (λa=>ldV a t) λu=>
 vK (aB 0 c) λv=>
 qK S (λa=>ldV a v) λw=>
 vK (aB 0 c) λx=>
 qK S (λa=>ldV a x) λy=>
 vK (aB 1 c) λz=>
 qK S (λa=>ldV a z) λaa=>
 qK S (λa=>aD aa) λab=>
 vK (ak .i .add y ab) λac=>
 ag prog qF #[u,w,ac] a λg d=>
 vK (aL g 0) λad=>
 vK (aL g 1) λae=>
 aF ae (
 vK ((aM #[ai,ai] [(0,1,aH),(1,1,ad)]).map .agg) λaj=>
 stK 2 b aj d λav j=>
 vK (aO 2 j b) λal=>
 R al j) (
 vK (aR a0) λam=>
 vK (aB 16 am) λan=>
 vK (ldV d an) λao=>
 vK ((aM #[ai,ai] [(0,1,(af 2)),(1,1,ao)]).map .agg) λap=>
 stK 2 b ap d λaw k=>
 vK (aO 2 k b) λaq=>
 R aq k))
theorem EA (H:uO a0 h R):ag prog iM #[a0] h R:=fk f174 (.s .z (.s (.s .z (.s (.s .z .z) .z)) (.s .z (.s (.s (.d (.op 0 .r (.op 1 .r (.op 2 .r (.op 3 .r (.op 4 .r (.op 5 .r (.op 6 .r (.op 7 .r (.op 8 .r (.op 9 .r (.op 10 .r (.op 11 .r (.op 12 .n (.op 13 .r (.op 14 .r (.op 15 .r (.op 16 .r (.op 17 .r .nil))))))))))))))))))) (.s .z (.s (.s .z .z) .z))) (.s .z .z))))) H
def rl (a0 a1:Value)(h:ah)(R:Value→ah→Prop):Prop:=
 bJ h λS=>
 vK (aR a0) λe=>
 vK (aB 2 e) λf=>
 vK (aB 2 f) λg=>
 qK S (λh=>ldV h g) λj=>
 vK (aR a0) λk=>
 vK (aB 0 k) λl=>
 qK S (λh=>ldV h l) λm=>
 ag prog bN #[m] h λn c=>
 S c∧(ag prog lB #[j,a1,n] c λo d=>
 vK (aR a0) λp=>
 vK (aB 5 p) λq=>
 vK (aB 1 q) λr=>
 vK (aB 2 r) λs=>
 vK (ldV d s) λt=>
 aZ [(.slice none 0 0),ai] d λa an b u=>
 vK (ak .i .lss (ix a 1) t) λv=>
 aF v (
 vK (aR a0) λw=>
 vK (aB 5 w) λx=>
 vK (aB 1 x) λy=>
 vK (aB 0 y) λz=>
 vK (ldV b z) λaa=>
 vK (ak .i .add aa (ix a 1)) λab=>
 ag prog l9 #[a0,ab,o,(ix a 0)] b λac ad=>
 vK (ak .i .add (ix a 1) aH) λae=>
 u [ac,ae] ad) (
 vK (aR a0) λaf=>
 vK (aB 15 af) λaj=>
 vK (ldV b aj) λal=>
 ag prog sY #[al,a1,(ix a 0)] b λao am=>
 R (.tuple #[]) am))
theorem Bw (H:rl a0 a1 h R):ag prog l8 #[a0,a1] h R:=fk f175 (.s (.d (.op 0 .r (.op 1 .r (.op 2 .r (.op 3 .r (.op 4 .r (.op 5 .r (.op 6 .r (.op 7 .r (.op 8 .r (.op 9 .r (.op 10 .e (.op 11 .n (.op 12 .r .nil)))))))))))))) (.s .z (.s (.s .z (.l 2198989701216 [5,25] (.s .z (.s (.s .z .z) (.s (.s .z .z) .z))))) .z))) H
def tm (a0:Value)(h:ah)(R:Value→ah→Prop):Prop:=
 ag prog kL #[a0] h λt u=>
 aW #[ai,(.slice none 0 0)] 189 u λj v=>
 stK 2 j t v λca k=>
 vK (aR a0) λw=>
 vK (aB 15 w) λx=>
 vK (ldV k x) λy=>
 ag prog oU #[y] k λl z=>
 mkK ai 2 1 8 l l z λe m=>
 vK (aB 1 j) λaa=>
 vK (ldV m aa) λn=>
 vK (aD n) λab=>
 aZ [ai] m λf cb b ac=>
 vK (ak .i .lss (ix f 0) ab) λad=>
 aF ad (
 vK (bu 1 n (ix f 0)) λae=>
 vK (ldV b ae) λaf=>
 bJ b λS=>
 vK (aR a0) λaj=>
 vK (aB 15 aj) λal=>
 qK S (λb=>ldV b al) λam=>
 vK (aB 0 j) λan=>
 qK S (λb=>ldV b an) λao=>
 vK (ak .i .add ao (ix f 0)) λap=>
 ag prog sX #[am,ap] b λo aq=>
 vK (aL o 0) λp=>
 vK (aL o 1) λcc=>
 vK (aD p) λar=>
 aZ [ai] aq λc cd g au=>
 vK (ak .i .lss (ix c 0) ar) λav=>
 aF av (
 vK (bu 1 p (ix c 0)) λaw=>
 vK (ldV g aw) λax=>
 vK (bu 1 e (ix c 0)) λay=>
 vK (ldV g ay) λaz=>
 vK (ak .i .mul af ax) λa1=>
 vK (ak .i .add az a1) λa2=>
 vK (bu 1 e (ix c 0)) λa3=>
 stK 1 a3 a2 g λce a4=>
 vK (ak .i .add (ix c 0) aH) λa5=>
 au [a5] a4) (
 vK (ak .i .add (ix f 0) aH) λa6=>
 ac [a6] g)) (
 vK (aR a0) λa7=>
 vK (aB 1 a7) λa8=>
 vK (ldV b a8) λa9=>
 ag prog aV #[a9] b λq ba=>
 vK (aD e) λbb=>
 aZ [ai] ba λd cf a bc=>
 vK (ak .i .lss (ix d 0) bb) λbd=>
 aF bd (
 vK (bu 1 e (ix d 0)) λbe=>
 vK (ldV a be) λbf=>
 bJ a λS=>
 vK (aR a0) λbg=>
 vK (aB 1 bg) λbh=>
 qK S (λa=>ldV a bh) λbi=>
 vK (aR a0) λbj=>
 vK (aB 5 bj) λbk=>
 vK (aB 1 bk) λbl=>
 vK (aB 0 bl) λbm=>
 qK S (λa=>ldV a bm) λbn=>
 vK (ak .i .quo (ix d 0) q) λbo=>
 vK (ak .i .add bn bo) λbp=>
 vK (aR a0) λbq=>
 vK (aB 16 bq) λbr=>
 qK S (λa=>ldV a br) λbs=>
 vK (ak .i .rem (ix d 0) q) λbt=>
 vK (aR a0) λbv=>
 vK (aB 1 bv) λbw=>
 qK S (λa=>ldV a bw) λbx=>
 ag prog dp #[bx] a λbz r=>
 S r∧(ag prog pB #[bf,bz] r λb0 s=>
 S s∧(ag prog fW #[bi,bp,bs,bt,b0] s λcg b1=>
 vK (ak .i .add (ix d 0) aH) λb2=>
 bc [b2] b1))) (
 vK (aR a0) λb3=>
 vK (aB 16 b3) λb4=>
 vK (ldV a b4) λb5=>
 vK (ak .i .add b5 aH) λb6=>
 vK (aR a0) λb7=>
 vK (aB 16 b7) λb8=>
 stK 1 b8 b6 a λch b9=>
 R (.tuple #[]) b9))
theorem Dd (H:tm a0 h R):ag prog mZ #[a0] h R:=fk f176 (.s .z (.s .z (.s (.s .z (.l 576460752286647280 [24] (.s .z (.s (.s .z .z) (.s (.s .z (.s (.d (.op 0 .r (.op 1 .r (.op 2 .r (.op 3 .r (.op 4 .r (.op 5 .r (.op 6 .r (.op 7 .r (.op 8 .n (.op 9 .r (.op 10 .r (.op 11 .r (.op 12 .r (.op 13 .r .nil))))))))))))))) (.s .z (.l 288221580058690304 [43] (.s .z (.s (.s .z .z) (.s (.s .z .z) .z))))))) .z))))) (.s .z (.s (.s .z (.l 2535301200382671826698568210432 [66] (.s .z (.s (.s .z .z) (.s (.s .z (.d (.op 0 .r (.op 1 .r (.op 2 .r (.op 3 .r (.op 4 .r (.op 5 .r (.op 6 .r (.op 7 .r (.op 8 .r (.op 9 .r (.op 10 .r (.op 11 .r (.op 12 .r (.op 13 .r (.op 14 .r (.op 15 .r (.op 16 .r (.op 17 .r (.op 18 .r (.op 19 .r (.op 20 .r (.op 21 .r (.op 22 .r (.op 23 .r (.op 24 .r (.op 25 .r (.op 26 .e (.op 27 .e (.op 28 .n .nil))))))))))))))))))))))))))))))) .z))))) .z))))) H
def DW (a0:Value)(h:ah)(R:Value→ah→Prop):Prop:=
 aW (Value.cells a0) 120 h λc a=>
 vK (aB 0 c) λf=>
 vK (ldV a f) λg=>
 vK (ak .i .geq g ai) λd=>
 vK (gV d true (aB 2 c)) λj=>
 vK (gV d true (ldV a j)) λk=>
 vK (gV d true (ak .i .geq k ai)) λl=>
 vK (aE d l (.bool false)) λe=>
 vK (gV e true (aB 3 c)) λm=>
 vK (gV e true (ldV a m)) λn=>
 vK (gV e true (ak .i .geq n ai)) λo=>
 vK (aE e o (.bool false)) λb=>
 vK (gV b true (aB 3 c)) λp=>
 vK (gV b true (ldV a p)) λq=>
 vK (gV b true (aB 4 c)) λr=>
 vK (gV b true (ldV a r)) λs=>
 vK (gV b true (ak .i .lss q s)) λt=>
 vK (aE b t (.bool false)) λu=>
 R u a
theorem OD (H:DW a0 h R):ag prog zU #[a0] h R:=fk f178 (.s .z (.s .z .z)) H
def DB (a0:Value)(h:ah)(R:Value→ah→Prop):Prop:=
 vK (ak .i .geq a0 aH) λa=>
 vK (gV a true (some a0)) λb=>
 vK (gV a true (ak .i .leq b (af 65536))) λc=>
 vK (aE a c (.bool false)) λd=>
 R d h
theorem Oe (H:DB a0 h R):ag prog lK #[a0] h R:=fk f179 (.s .z (.s .z .z)) H
def Ag (a0 a1 a2:Value)(h:ah)(R:Value→ah→Prop):Prop:=
 vK (ak .i .lss a0 ai) λd=>
 vK (gV d false (some a0)) λn=>
 vK (gV d false (ak .i .gtr n (af 2))) λo=>
 vK (aE d (.bool true) o) λb=>
 vK (gV b false (some a1)) λp=>
 gK b false (λq=>ag prog oW #[p] h q) h λr e=>
 vK (gV b false (unV .not r)) λs=>
 vK (aE b (.bool true) s) λc=>
 vK (gV c false (some a2)) λt=>
 gK c false (λu=>ag prog oW #[t] e u) e λv f=>
 vK (gV c false (unV .not v)) λw=>
 vK (aE c (.bool true) w) λx=>
 aF x (
 R (.tuple #[(.slice none 0 0),(af 6)]) f) (
 aZ [(.slice none 0 0),ai] f λa aq g y=>
 vK (ak .i .lss (ix a 1) a2) λz=>
 aF z (
 ag prog xd #[a0,a1,a2,(ix a 1)] g λj aa=>
 vK (aL j 0) λab=>
 vK (aL j 1) λac=>
 ag prog iN #[ac] aa λk l=>
 vK (aL k 0) λad=>
 vK (aL k 1) λm=>
 vK (ak .i .neq m ai) λae=>
 aF ae (
 R (.tuple #[(.slice none 0 0),m]) l) (
 vK ((aM #[ai,(.slice none 0 0)] [(0,1,ab),(1,1,ad)]).map .agg) λaj=>
 df #[ai,(.slice none 0 0)] 240 1 [(0,2,aj)] l λal am=>
 di (.agg #[ai,.slice none 0 0]) 240 2 32 (ix a 0) al am λan ao=>
 vK (ak .i .add (ix a 1) aH) λap=>
 y [an,ap] ao)) (
 R (.tuple #[(ix a 0),ai]) g))
theorem Kj (H:Ag a0 a1 a2 h R):ag prog oZ #[a0,a1,a2] h R:=fk f180 (.s .z (.s (.s .z (.s (.s .z .z) .z)) (.s .z (.s (.s .z (.l 144115185928388544 [8,31] (.s .z (.s (.s .z .z) (.s (.s .z (.s .z (.s .z (.s (.s .z (.s (.s .z .z) .z)) .z)))) .z))))) (.s .z .z))))) H
def wA (a0:Value)(h:ah)(R:Value→ah→Prop):Prop:=
 vK (ak .i .lss a0 aH) λc=>
 vK (gV c false (some a0)) λf=>
 vK (gV c false (ak .i .gtr f (af 4194304))) λg=>
 vK (aE c (.bool true) g) λj=>
 aF j (
 R (.tuple #[(.slice none 0 0),(af 7)]) h) (
 aZ [ai] h λb z d k=>
 vK (ak .i .mul (ix b 0) (af 65536)) λl=>
 vK (ak .i .mul (af 3) a0) λm=>
 vK (ak .i .lss l m) λn=>
 aF n (
 vK (ak .i .add (ix b 0) aH) λo=>
 k [o] d) (
 vK (unV .neg (ix b 0)) λp=>
 aZ [(.slice none 0 0),p] d λa aa e q=>
 vK (ak .i .leq (ix a 1) (ix b 0)) λr=>
 aF r (
 ag prog xG #[(ix a 1),a0] e λs t=>
 df #[ai] 2 1 [(0,1,s)] t λu v=>
 di ai 2 1 8 (ix a 0) u v λw x=>
 vK (ak .i .add (ix a 1) aH) λy=>
 q [w,y] x) (
 R (.tuple #[(ix a 0),ai]) e)))
theorem Gz (H:wA a0 h R):ag prog qG #[a0] h R:=fk f181 (.s .z (.s (.s .z (.s (.s .z .z) .z)) (.s .z (.s (.l 1040400 [4] (.s (.s .z (.s .z .z)) .z)) (.s .z (.s (.s .z (.l 8585740384 [5,6] (.s (.s .z (.s .z .z)) (.s .z .z)))) (.s .z .z))))))) H
def DK (a0:Value)(h:ah)(R:Value→ah→Prop):Prop:=
 vK (ak .i .lss a0 ai) λb=>
 vK (gV b false (some a0)) λe=>
 vK (gV b false (ak .i .gtr e (af 511))) λf=>
 vK (aE b (.bool true) f) λg=>
 aF g (
 R (.tuple #[(.slice none 0 0),(af 7)]) h) (
 vK (ak .i .mul (af 2) a0) λj=>
 vK (ak .i .add j aH) λk=>
 aZ [(.slice none 0 0),ai] h λa v c l=>
 vK (ak .i .lss (ix a 1) k) λm=>
 aF m (
 df #[ai] 2 1 [(0,1,aH)] c λn o=>
 di ai 2 1 8 (ix a 0) n o λp q=>
 vK (ak .i .add (ix a 1) aH) λr=>
 l [p,r] q) (
 ag prog pd #[(ix a 0)] c λd s=>
 vK (aL d 0) λt=>
 vK (aL d 1) λu=>
 R (.tuple #[t,u]) s))
theorem Oo (H:DK a0 h R):ag prog zL #[a0] h R:=fk f182 (.s .z (.s (.s .z (.s (.s .z .z) .z)) (.s .z (.s (.s .z (.l 1032208 [4,14] (.s .z (.s (.s .z .z) (.s .z .z))))) (.s .z .z))))) H
def DH (a0:Value)(h:ah)(R:Value→ah→Prop):Prop:=
 ag prog xE #[a0] h λc g=>
 vK (aD a0) λj=>
 vK (ak .i .rem j (af 2)) λk=>
 vK (ak .i .eql k ai) λb=>
 vK (gV b false (some a0)) λl=>
 vK (gV b false (aD l)) λm=>
 vK (gV b false (ak .i .gtr m (af 1024))) λn=>
 vK (aE b (.bool true) n) λd=>
 vK (gV d false (some c)) λo=>
 vK (gV d false (ak .i .eql o ai)) λp=>
 vK (aE d (.bool true) p) λe=>
 vK (gV e false (some c)) λq=>
 vK (gV e false (ak .i .gtr q (af 1048576))) λr=>
 vK (aE e (.bool true) r) λs=>
 aF s (
 R (.tuple #[(.slice none 0 0),(af 7)]) g) (
 vK (aD a0) λt=>
 aZ [(.slice none 0 0),ai] g λa aj f u=>
 vK (ak .i .lss (ix a 1) t) λv=>
 aF v (
 vK (bu 1 a0 (ix a 1)) λw=>
 vK (ldV f w) λx=>
 ag prog dj #[x,(af 1073741824),c] f λy z=>
 df #[ai] 2 1 [(0,1,y)] z λaa ab=>
 di ai 2 1 8 (ix a 0) aa ab λac ad=>
 vK (ak .i .add (ix a 1) aH) λae=>
 u [ac,ae] ad) (
 R (.tuple #[(ix a 0),ai]) f))
theorem Ol (H:DH a0 h R):ag prog pd #[a0] h R:=fk f183 (.s .z (.s .z (.s (.s .z (.s (.s .z .z) .z)) (.s .z (.s (.s .z (.l 1098974757024 [5,29] (.s .z (.s (.s .z .z) (.s (.s .z .z) .z))))) (.s .z .z)))))) H
def Ah (a0 a1:Value)(h:ah)(R:Value→ah→Prop):Prop:=
 ag prog oW #[a1] h λg b=>
 vK (unV .not g) λj=>
 aF j (
 R (.tuple #[(.slice none 0 0),(af 6)]) b) (
 vK (aD a0) λk=>
 vK (ak .i .rem k (af 2)) λl=>
 vK (ak .i .eql l ai) λm=>
 aF m (
 R (.tuple #[(.slice none 0 0),(af 7)]) b) (
 ag prog iN #[a0] b λc d=>
 vK (aL c 0) λn=>
 vK (aL c 1) λe=>
 vK (ak .i .neq e ai) λo=>
 aF o (
 R (.tuple #[(.slice none 0 0),e]) d) (
 aZ [(.slice none 0 0),ai] d λa aa f p=>
 vK (ak .i .lss (ix a 1) a1) λq=>
 aF q (
 vK (aD a0) λr=>
 vK (ak .i .quo r (af 2)) λs=>
 vK (ak .i .sub (ix a 1) s) λt=>
 vK ((aM #[ai,(.slice none 0 0)] [(0,1,t),(1,1,n)]).map .agg) λu=>
 df #[ai,(.slice none 0 0)] 240 1 [(0,2,u)] f λv w=>
 di (.agg #[ai,.slice none 0 0]) 240 2 32 (ix a 0) v w λx y=>
 vK (ak .i .add (ix a 1) aH) λz=>
 p [x,z] y) (
 R (.tuple #[(ix a 0),ai]) f))))
theorem Kk (H:Ah a0 a1 h R):ag prog o0 #[a0,a1] h R:=fk f184 (.s .z (.s (.s .z (.s (.s .z .z) .z)) (.s (.s .z (.s (.s .z .z) .z)) (.s .z (.s (.s .z (.s (.s .z .z) .z)) (.s .z (.s (.s .z (.l 1099444519680 [8,26] (.s .z (.s (.s .z .z) (.s (.s .z .z) .z))))) (.s .z .z)))))))) H
def Bi (a0 a1 a2:Value)(h:ah)(R:Value→ah→Prop):Prop:=
 vK (rR a0 a2) λa=>
 vK (jS a1 a) λb=>
 R b h
theorem Mr (H:Bi a0 a1 a2 h R):ag prog q9 #[a0,a1,a2] h R:=fk f185 (.s .z (.s .z .z)) H
def Gf (a0 a1:Value)(h:ah)(R:Value→ah→Prop):Prop:=
 vK (ak .i .eql a1 ai) λd=>
 vK (gV d false (some a1)) λe=>
 vK (gV d false (ak .i .eql e (af (-1)))) λf=>
 vK (aE d (.bool true) f) λg=>
 aF g (
 R ai h) (
 vK (ak .i .rem a0 a1) λc=>
 vK (ak .i .neq c ai) λa=>
 vK (gV a true (some c)) λj=>
 vK (gV a true (ak .i .lss j ai)) λk=>
 vK (gV a true (some a1)) λl=>
 vK (gV a true (ak .i .lss l ai)) λm=>
 vK (gV a true (ak .b .neq k m)) λn=>
 vK (aE a n (.bool false)) λo=>
 aF o (
 vK (ak .i .add c a1) λp=>
 R p h) (
 R c h))
theorem QW (H:Gf a0 a1 h R):ag prog sF #[a0,a1] h R:=fk f186 (.s .z (.s (.s .z (.s (.s .z .z) .z)) (.s .z (.s (.s .z (.s .z .z)) (.s .z .z))))) H
def jf (a0 a1:Value)(h:ah)(R:Value→ah→Prop):Prop:=
 vK (aD a0) λc=>
 vK (aD a1) λd=>
 vK (ak .i .neq c d) λe=>
 aF e (
 R (.bool false) h) (
 vK (aD a0) λf=>
 aZ [ai] h λb q a g=>
 vK (ak .i .lss (ix b 0) f) λj=>
 aF j (
 vK (bu 1 a0 (ix b 0)) λk=>
 vK (ldV a k) λl=>
 vK (bu 1 a1 (ix b 0)) λm=>
 vK (ldV a m) λn=>
 vK (ak .i .neq l n) λo=>
 aF o (
 R (.bool false) a) (
 vK (ak .i .add (ix b 0) aH) λp=>
 g [p] a)) (
 R (.bool true) a))
theorem pE (H:jf a0 a1 h R):ag prog fV #[a0,a1] h R:=fk f188 (.s .z (.s (.s .z (.s (.s .z .z) .z)) (.s (.s .z (.l 67100720 [13] (.s .z (.s (.s .z .z) (.s (.s .z (.s .z (.s (.s .z .z) .z))) .z))))) (.s .z .z)))) H
def DR (a0 a1 a2 a3:Value)(h:ah)(R:Value→ah→Prop):Prop:=
 ag prog Jl #[a0,a1,a2,a3] h λg b=>
 vK (unV .not g) λj=>
 aF j (
 R (.tuple #[ai,ai]) b) (
 vK (ak .i .mul a3 a1) λk=>
 ag prog kn #[k,a2] b λc l=>
 vK (ak .i .add a3 aH) λm=>
 vK (ak .i .mul m a1) λn=>
 ag prog zO #[n,a2] l λo a=>
 vK (ak .i .neq a0 ai) λp=>
 aF p (
 vK (ak .i .mul (af 2) a3) λq=>
 vK (ak .i .add q aH) λr=>
 vK (ak .i .mul r a1) λs=>
 vK (ak .i .sub s a2) λd=>
 vK (MV 3 2 (.pointer (some ⟨fH,0,none⟩)) a0) λt=>
 vK (aB 1 t) λu=>
 vK (ldV a u) λv=>
 vK (ak .i .mul v (af 2)) λw=>
 vK (jS a1 a2) λx=>
 vK (ak .i .mul w x) λe=>
 vK (ak .i .sub d e) λy=>
 vK (ak .i .mul (af 2) a2) λz=>
 ag prog kn #[y,z] a λaa ab=>
 vK (ak .i .add aa aH) λf=>
 vK (ak .i .add d e) λac=>
 vK (ak .i .mul (af 2) a2) λad=>
 ag prog zO #[ac,ad] ab λae aj=>
 vK (ak .i .sub ae f) λal=>
 R (.tuple #[f,al]) aj) (
 vK (ak .i .sub o c) λam=>
 R (.tuple #[c,am]) a))
theorem Oz (H:DR a0 a1 a2 a3 h R):ag prog zP #[a0,a1,a2,a3] h R:=fk f200 (.s .z (.s (.s .z (.s (.s .z .z) .z)) (.s .z (.s (.s .z (.s (.s .z .z) .z)) (.s .z .z))))) H
def FY (a0 a1 a2 a3 a4:Value)(h:ah)(R:Value→ah→Prop):Prop:=
 vK (ak .i .eql a0 ai) λc=>
 aF c (
 vK (ak .i .add a3 aH) λd=>
 vK (ak .i .mul d a1) λe=>
 vK (ak .i .add a4 aH) λf=>
 vK (ak .i .mul f a2) λg=>
 vK (rR e g) λj=>
 vK (ak .i .mul a3 a1) λk=>
 vK (ak .i .mul a4 a2) λl=>
 vK (jS k l) λm=>
 vK (ak .i .sub j m) λn=>
 ag prog eG #[n,(af 1073741824),a1] h λo p=>
 R o p) (
 vK (ak .i .mul (af 2) a2) λq=>
 vK (ak .i .mul q a4) λr=>
 vK (ak .i .mul (af 2) a3) λs=>
 vK (ak .i .add s aH) λt=>
 vK (ak .i .mul t a1) λu=>
 vK (ak .i .sub r u) λv=>
 vK (ak .i .add v a2) λa=>
 vK (jS a1 a2) λw=>
 vK (ak .i .mul (af 2) w) λb=>
 vK (ak .i .eql a0 aH) λx=>
 aF x (
 ag prog vP #[a,b] h λy z=>
 R y z) (
 ag prog vN #[a,b] h λaa ab=>
 R aa ab))
theorem QN (H:FY a0 a1 a2 a3 a4 h R):ag prog Cr #[a0,a1,a2,a3,a4] h R:=fk f201 (.s .z (.s (.s .z (.s (.s .z (.s .z .z)) .z)) (.s .z (.s (.s .z (.s (.s .z .z) .z)) (.s .z .z))))) H
def Dx (a0:Value)(h:ah)(R:Value→ah→Prop):Prop:=
 vK (aD a0) λe=>
 vK (ak .i .eql e ai) λa=>
 vK (gV a false (some a0)) λf=>
 vK (gV a false (aD f)) λg=>
 vK (gV a false (ak .i .gtr g (af 1048576))) λj=>
 vK (aE a (.bool true) j) λb=>
 vK (gV b false (some a0)) λk=>
 gK b false (λl=>ag prog dT #[k,(.func (.func mI) #[] #[])] h l) h λm c=>
 vK (aE b (.bool true) m) λn=>
 aF n (
 R (af 7) c) (
 ag prog zH #[a0] c λo d=>
 vK (ak .i .lss o (af 268435456)) λp=>
 aF p (
 R (af 8) d) (
 R ai d))
theorem Oa (H:Dx a0 h R):ag prog zG #[a0] h R:=fk f202 (.s .z (.s (.s .z (.s (.s .z .z) .z)) (.s (.s .z (.s (.s .z .z) .z)) (.s .z .z)))) H
def Jp (a0:Value)(h:ah)(R:Value→ah→Prop):Prop:=
 vK (aD a0) λc=>
 aZ [ai,ai] h λa m b d=>
 vK (ak .i .lss (ix a 1) c) λe=>
 aF e (
 vK (bu 1 a0 (ix a 1)) λf=>
 vK (ldV b f) λg=>
 ag prog xh #[(ix a 0),g] b λj k=>
 vK (ak .i .add (ix a 1) aH) λl=>
 d [j,l] k) (
 R (ix a 0) b)
theorem Tc (H:Jp a0 h R):ag prog zH #[a0] h R:=fk f203 (.s .z (.s .z (.s (.s .z (.l 65320 [3,8] (.s .z (.s (.s .z .z) (.s (.s .z .z) .z))))) (.s .z .z)))) H
def Bh (a0 a1:Value)(h:ah)(R:Value→ah→Prop):Prop:=
 vK (ak .i .eql a1 ai) λe=>
 aF e (
 R ai h) (
 bJ h λS=>
 ag prog iV #[a0] h λf g=>
 ag prog iV #[a1] g λj k=>
 vK (ak .i .quo f j) λc=>
 ag prog iV #[a0] k λl m=>
 ag prog iV #[a1] m λn d=>
 vK (ak .i .rem l n) λo=>
 vK (ak .i .lss a0 ai) λp=>
 vK (ak .i .lss a1 ai) λq=>
 vK (ak .b .neq p q) λa=>
 vK (gV a true (some o)) λr=>
 vK (gV a true (ak .i .neq r (.int .u64 0))) λs=>
 vK (aE a s (.bool false)) λt=>
 aF t (
 vK (ak .i .add c (.int .u64 1)) λu=>
 ag prog lN #[u,a] d λv w=>
 R v w) (
 ag prog lN #[c,a] d λx y=>
 R x y))
theorem Mq (H:Bh a0 a1 h R):ag prog kn #[a0,a1] h R:=fk f204 (.s .z (.s (.s .z (.s (.s .z .z) .z)) (.s (.d (.op 0 .r (.op 2 .r (.op 5 .r (.op 7 .r (.op 1 .n (.op 3 .n (.op 4 .r (.op 6 .n (.op 8 .n (.op 9 .r (.op 10 .r (.op 11 .r .nil))))))))))))) (.s .z (.s (.s .z (.s .z .z)) (.s .z .z)))))) H
def gW (a0 a1:Value)(h:ah)(R:Value→ah→Prop):Prop:=
 vK (aD a0) λa=>
 ag prog io #[a0,a,a1] h λc b=>
 R (.tuple #[]) b
theorem ml (H:gW a0 a1 h R):ag prog eV #[a0,a1] h R:=fk f205 .z H
def ru (a0 a1 a2:Value)(h:ah)(R:Value→ah→Prop):Prop:=
 bJ h λS=>
 qK S (λh=>ldV h a2) λa=>
 vK (bu 1 a a1) λb=>
 qK S (λh=>ldV h b) λc=>
 qK S (λh=>ldV h a2) λd=>
 vK (bu 1 d a0) λe=>
 qK S (λh=>ldV h e) λf=>
 ag prog mf #[c,f] h λg i=>
 R g i
theorem By (H:ru a0 a1 a2 h R):ag prog ma #[a0,a1,a2] h R:=fk f206 (.s .z (.s (.d (.op 0 .r (.op 1 .r (.op 2 .r (.op 3 .r (.op 4 .r (.op 5 .r (.op 6 .r (.op 7 .r (.op 8 .n (.op 9 .r .nil))))))))))) .z)) H
def rF (a0 a1:Value)(h:ah)(R:Value→ah→Prop):Prop:=
 ag prog kP #[a0] h λc d=>
 ag prog kP #[a1] d λb a=>
 aF c (
 aF b (
 R ai a) (
 R (af (-1)) a)) (
 aF b (
 R aH a) (
 vK (ak .i .lss a0 a1) λe=>
 aF e (
 R (af (-1)) a) (
 vK (ak .i .gtr a0 a1) λf=>
 aF f (
 R aH a) (
 R ai a))))
theorem BG (H:rF a0 a1 h R):ag prog mf #[a0,a1] h R:=fk f207 (.s .z (.s .z (.s .z (.s (.s .z (.s (.s (.s .z (.s (.s .z .z) .z)) (.s .z .z)) .z)) (.s (.s .z (.s (.s .z .z) .z)) (.s (.s .z (.s (.s .z .z) .z)) (.s (.s .z (.s (.s .z .z) .z)) (.s .z .z)))))))) H
def FK (a0:Value)(h:ah)(R:Value→ah→Prop):Prop:=
 vK (aD a0) λc=>
 aZ [ai,ai] h λa o b d=>
 vK (ak .i .lss (ix a 1) c) λe=>
 aF e (
 vK (bu 1 a0 (ix a 1)) λf=>
 vK (ldV b f) λg=>
 ag prog xa #[g] b λj k=>
 ag prog xh #[(ix a 0),j] k λl m=>
 vK (ak .i .add (ix a 1) aH) λn=>
 d [l,n] m) (
 R (ix a 0) b)
theorem Qy (H:FK a0 h R):ag prog xb #[a0] h R:=fk f208 (.s .z (.s .z (.s (.s .z (.l 130856 [3,8] (.s .z (.s (.s .z .z) (.s (.s .z .z) .z))))) (.s .z .z)))) H
def D4 (a0 a1:Value)(h:ah)(R:Value→ah→Prop):Prop:=
 ag prog zX #[a0,a1] h λa b=>
 ag prog Fy #[a] b λc d=>
 ag prog km #[c,(af 10)] d λe f=>
 R e f
theorem OJ (H:D4 a0 a1 h R):ag prog zY #[a0,a1] h R:=fk f209 (.s .z (.s .z .z)) H
def je (a0 a1:Value)(h:ah)(R:Value→ah→Prop):Prop:=
 eK (λe=>
 vK (ak .i .lss a1 ai) λm=>
 aF m (
 M7 h λan n=>
 e [] n) (
 e [] h))
 λao ap o=>
 vK (aD a0) λp=>
 vK (gd .u64 p) λq=>
 vK (gd .u64 a1) λr=>
 ag prog tg #[q,r] o λf g=>
 vK (aL f 0) λs=>
 vK (aL f 1) λj=>
 eK (λk=>
 vK (ak .i .gtr s (.int .u64 0)) λc=>
 vK (gV c false (some j)) λt=>
 vK (gV c false (ak .i .gtr t (.int .u64 9223372036854775807))) λu=>
 vK (aE c (.bool true) u) λv=>
 aF v (
 M7 g λaq w=>
 k [] w) (
 k [] g))
 λar au x=>
 vK (gd .i64 j) λl=>
 mkK ai 2 1 8 l l x λa y=>
 Fi 1 a a0 y λz aa=>
 aZ [z] aa λb av d ab=>
 vK (aD a) λac=>
 vK (ak .i .lss (ix b 0) ac) λad=>
 aF ad (
 bJ d λS=>
 vK (xj 1 a (some (ix b 0)) none) λae=>
 vK (xj 1 a none (some (ix b 0))) λaf=>
 Fi 1 ae af d λaj al=>
 vK (ak .i .add (ix b 0) aj) λam=>
 ab [am] al) (
 R a d)
theorem pD (H:je a0 a1 h R):ag prog fU #[a0,a1] h R:=fk f210 (.s .z (.j 3584 [] (.s .z (.s .z .z)) (.s .z (.j 266338304 [] (.s .z (.s .z .z)) (.s .z (.s .z (.s (.l 140720308486400 [8] (.s (.s .z (.s .z .z)) (.d (.op 0 .r (.op 1 .r (.op 2 .r (.op 3 .r (.op 4 .r (.op 5 .r (.op 6 .r (.op 7 .n (.op 8 .r (.op 9 .r .nil))))))))))))) (.s .z .z)))))))) H
def AM (a0 a1 a2:Value)(h:ah)(R:Value→ah→Prop):Prop:=
 vK (ak .i .eql a2 ai) λr=>
 aF r (
 R ai h) (
 ag prog oO #[a0,a1] h λe s=>
 vK (aL e 0) λj=>
 vK (aL e 1) λt=>
 vK (aL e 2) λu=>
 ag prog sw #[a2] s λf k=>
 vK (ak .i .lss a2 ai) λv=>
 vK (ak .b .neq u v) λa=>
 vK (ak .i .geq j f) λw=>
 aF w (
 ag prog eF #[(.int .u64 1),(.int .u64 0),a] k λx y=>
 R x y) (
 ag prog pu #[j,t,f] k λl m=>
 vK (aL l 0) λn=>
 vK (aL l 1) λg=>
 vK (ak .i .sub f g) λo=>
 vK (gV a true (some g)) λz=>
 vK (gV a true (some o)) λaa=>
 vK (gV a true (ak .i .gtr z aa)) λab=>
 vK (aE a ab (.bool false)) λc=>
 vK (gV c false (some a)) λac=>
 vK (gV c false (unV .not ac)) λad=>
 vK (gV c false (some ad)) λd=>
 vK (gV d true (some g)) λae=>
 vK (gV d true (some o)) λaf=>
 vK (gV d true (ak .i .geq ae af)) λaj=>
 vK (gV c false (aE d aj (.bool false))) λal=>
 vK (aE c (.bool true) al) λam=>
 aF am (
 ag prog gA #[n,(.int .u64 1),(.int .u64 0)] m λp an=>
 vK (aL p 0) λao=>
 vK (aL p 1) λap=>
 ag prog eF #[ap,ao,a] an λaq ar=>
 R aq ar) (
 ag prog gA #[n,(.int .u64 0),(.int .u64 0)] m λq au=>
 vK (aL q 0) λav=>
 vK (aL q 1) λaw=>
 ag prog eF #[aw,av,a] au λax ay=>
 R ax ay)))
theorem LU (H:AM a0 a1 a2 h R):ag prog eG #[a0,a1,a2] h R:=fk f211 (.s .z (.s (.s .z (.s (.s .z .z) .z)) (.s .z (.s .z (.s .z (.s (.s .z (.s (.s .z .z) .z)) (.s .z (.s .z (.s .z (.s (.s .z (.s .z .z)) (.s .z (.s .z .z)))))))))))) H
def Bd (h:ah)(R:Value→ah→Prop):Prop:=
 ag prog xP #[] h λs l=>
 vK (unV .not s) λe=>
 gK e false (λt=>ag prog xO #[] l t) l λu m=>
 vK (gV e false (unV .not u)) λv=>
 vK (aE e (.bool true) v) λw=>
 aF w (
 R (.bool false) m) (
 ag prog lg #[ai,(af 4),(af 2)] m λn o=>
 vK (aL n 0) λb=>
 vK (aL n 1) λx=>
 vK (ak .i .neq x ai) λf=>
 vK (gV f false (some b)) λy=>
 vK (gV f false (ak .p .eql y (.pointer none))) λz=>
 vK (aE f (.bool true) z) λaa=>
 aF aa (
 R (.bool false) o) (
 ag prog bF #[b,aH] o λab ac=>
 aW #[ai,(.slice none 0 0)] 189 ac λg ad=>
 stK 2 g ab ad λa6 ae=>
 ag prog gL #[b,ai,(af 2)] ae λq aj=>
 vK (aL q 0) λal=>
 vK (aL q 1) λam=>
 ag prog bF #[b,ai] aj λan c=>
 vK (pS false 1 0 an) λao=>
 vK (ak .i .eql ao ai) λd=>
 vK (gV d true (aB 0 g)) λap=>
 vK (gV d true (ldV c ap)) λaq=>
 vK (gV d true (ak .i .eql aq (af 2))) λar=>
 vK (aE d ar (.bool false)) λa=>
 vK (gV a true (aB 1 g)) λau=>
 vK (gV a true (ldV c au)) λav=>
 gK a true (λaw=>df #[ai,ai] 2 2 [(0,1,(af 8192)),(1,1,(af 8192))] c aw) c λax r=>
 gK a true (λay=>ag prog uE #[av,ax] r ay) r λaz a0=>
 vK (aE a az (.bool false)) λj=>
 vK (gV j true (some al)) λa1=>
 vK (gV j true (ak .i .eql a1 ai)) λa2=>
 vK (aE j a2 (.bool false)) λk=>
 vK (gV k true (some am)) λa3=>
 vK (gV k true (ak .i .eql a3 (af 4))) λa4=>
 vK (aE k a4 (.bool false)) λa5=>
 R a5 a0))
theorem Mm (H:Bd h R):ag prog xN #[] h R:=fk f212 (.s .z (.s (.s .z (.s (.s .z .z) .z)) (.s .z (.s (.s .z (.s (.s .z .z) .z)) (.s .z (.s .z (.s .z .z))))))) H
def nr (a0:Value)(h:ah)(R:Value→ah→Prop):Prop:=
 vK (aR a0) λa=>
 vK (aB 4 a) λb=>
 vK (ldV h b) λc=>
 ag prog dx #[c] h λd e=>
 R d e
theorem yp (H:nr a0 h R):ag prog jZ #[a0] h R:=fk f213 (.s .z (.s .z .z)) H
def tD (a0 a1 a2 a3 a4:Value)(h:ah)(R:Value→ah→Prop):Prop:=
 ag prog iR #[a0,a1,a2,a3] h λc b=>
 vK (ak .i .lss c ai) λa=>
 vK (gV a false (some a4)) λd=>
 vK (gV a false (gd .i64 d)) λe=>
 vK (gV a false (some a0)) λf=>
 vK (gV a false (aR f)) λg=>
 vK (gV a false (aB 3 g)) λj=>
 vK (gV a false (ldV b j)) λk=>
 vK (gV a false (ak .i .gtr e k)) λl=>
 vK (aE a (.bool true) l) λm=>
 aF m (
 R (.bool false) b) (
 vK (aR a0) λn=>
 vK (aB 4 n) λo=>
 vK (ldV b o) λp=>
 vK (bu 1 p c) λq=>
 stK 1 q a4 b λs r=>
 R (.bool true) r)
theorem Di (H:tD a0 a1 a2 a3 a4 h R):ag prog fW #[a0,a1,a2,a3,a4] h R:=fk f214 (.s .z (.s .z (.s (.s .z (.s (.s .z .z) .z)) (.s .z (.s .z .z))))) H
def Aq (a0 a1:Value)(h:ah)(R:Value→ah→Prop):Prop:=
 ag prog km #[a0,(af 28)] h λa b=>
 vK (rR a1 (af 65535)) λc=>
 vK (jS ai c) λd=>
 ag prog q9 #[a,ai,d] b λe f=>
 vK (gd .u16 e) λg=>
 R g f
theorem Ku (H:Aq a0 a1 h R):ag prog pB #[a0,a1] h R:=fk f215 (.s .z (.s .z .z)) H
def D5 (a0 a1 a2 a3 a4:Value)(h:ah)(R:Value→ah→Prop):Prop:=
 aW (Value.cells a1) 81 h λf s=>
 vK (aO 3 s f) λbe=>
 ag prog jF #[a0,be] s λbf t=>
 vK (unV .not bf) λo=>
 vK (gV o false (some a4)) λbg=>
 vK (gV o false (ak .i .lss bg ai)) λbh=>
 vK (aE o (.bool true) bh) λg=>
 vK (gV g false (some a4)) λbi=>
 vK (gV g false (some a0)) λbj=>
 gK g false (λbk=>ag prog aV #[bj] t bk) t λbl a=>
 vK (gV g false (ak .i .geq bi bl)) λbm=>
 vK (aE g (.bool true) bm) λbn=>
 aF bn (
 R ai a) (
 eK (λbo=>
 bJ a λS=>
 vK (aB 0 f) λbp=>
 qK S (λa=>ldV a bp) λj=>
 vK (aB 1 f) λbq=>
 qK S (λa=>ldV a bq) λk=>
 (λC33:Value→Value→Value→Value→ah→Prop=>
 (λC40:Value→Value→Value→ah→Prop=>
 (λC47:Value→Value→Value→ah→Prop=>
 (λC54:Value→Value→Value→ah→Prop=>
 (λC62:Value→Value→ah→Prop=>
 (λC70:Value→Value→ah→Prop=>
 (λC76:Value→Value→ah→Prop=>
 (ag prog bF #[j,a2] a λl m=>
 S m∧((ag prog bF #[k,a3] m λu p=>
 S p∧((aW #[ai,(.slice none 0 0)] 189 p λbr v=>
 S v∧(C40 l u br v))∧(aW #[ai,(.slice none 0 0)] 189 p λbs w=>
 S w∧(C47 l u bs w))))∧((aW #[ai,(.slice none 0 0)] 189 m λbt x=>
 S x∧(C62 l bt x))∧(aW #[ai,(.slice none 0 0)] 189 m λbv y=>
 S y∧(C70 l bv y)))))∧((aW #[ai,(.slice none 0 0)] 189 a λz q=>
 S q∧((ag prog bF #[j,a2] q λbw aa=>
 S aa∧(C62 bw z aa))∧(aW #[ai,(.slice none 0 0)] 189 q λbx ab=>
 S ab∧(C76 z bx ab))))∧(aW #[ai,(.slice none 0 0)] 189 a λac r=>
 S r∧((ag prog bF #[j,a2] r λbz ad=>
 S ad∧(C70 bz ac ad))∧(aW #[ai,(.slice none 0 0)] 189 r λb0 ae=>
 S ae∧(C76 b0 ac ae)))))) (λb1 b2 b3=>
 ag prog bF #[j,a2] b3 λb4 af=>
 S af∧(C54 b4 b1 b2 af))) (λaj al am=>
 (ag prog bF #[k,a3] am λb5 an=>
 S an∧(C47 aj b5 al an))∧(aW #[ai,(.slice none 0 0)] 189 am λb6 ao=>
 S ao∧(C54 aj b6 al ao)))) (λap aq ar=>
 (ag prog bF #[k,a3] ar λb7 au=>
 S au∧(C40 ap b7 aq au))∧(aW #[ai,(.slice none 0 0)] 189 ar λb8 av=>
 S av∧(C54 ap aq b8 av)))) (λb9 ca cb cc=>
 ag prog bF #[k,a3] cc λcd aw=>
 S aw∧(C33 b9 cd ca cb aw))) (λce cf cg ch=>
 aW #[ai,(.slice none 0 0)] 189 ch λci ax=>
 S ax∧(C33 ce cf ci cg ax))) (λcj ck cl cm=>
 aW #[ai,(.slice none 0 0)] 189 cm λcn ay=>
 S ay∧(C33 cj ck cl cn ay))) (λco cp az a5 cq=>
 stK 2 az co cq λdr a6=>
 S a6∧(stK 2 a5 cp a6 λds a7=>
 S a7∧(bo [az,a5] a7))))
 λn dt a8=>
 vK (aB 1 (ix n 1)) λcr=>
 vK (ldV a8 cr) λa9=>
 vK (aD a9) λcs=>
 aZ [ai,ai] a8 λd du b ct=>
 vK (ak .i .lss (ix d 1) cs) λcu=>
 aF cu (
 vK (bu 1 a9 (ix d 1)) λcv=>
 vK (ldV b cv) λcw=>
 bJ b λS=>
 vK (aB 2 f) λcx=>
 qK S (λb=>ldV b cx) λcy=>
 vK (aB 0 (ix n 1)) λcz=>
 qK S (λb=>ldV b cz) λc0=>
 vK (ak .i .add c0 (ix d 1)) λc1=>
 ag prog bN #[a0] b λc2 ba=>
 S ba∧(ag prog lB #[cy,c1,c2] ba λc3 bb=>
 vK (aB 1 (ix n 0)) λc4=>
 vK (ldV bb c4) λbc=>
 vK (aD bc) λc5=>
 aZ [(ix d 0),ai] bb λe dv c c6=>
 vK (ak .i .lss (ix e 1) c5) λc7=>
 aF c7 (
 vK (bu 1 bc (ix e 1)) λc8=>
 vK (ldV c c8) λc9=>
 bJ c λS=>
 vK (aB 2 f) λda=>
 qK S (λc=>ldV c da) λdb=>
 vK (aB 0 (ix n 0)) λdc=>
 qK S (λc=>ldV c dc) λdd=>
 vK (ak .i .add dd (ix e 1)) λde=>
 ag prog bL #[a0] c λdf bd=>
 S bd∧(ag prog lB #[db,de,df] bd λdg dh=>
 vK (ak .i .mul c9 cw) λdi=>
 ag prog gy #[a0,dg,c3,a4] dh λdj dk=>
 vK (gd .i64 dj) λdl=>
 vK (ak .i .mul di dl) λdm=>
 vK (ak .i .add (ix e 0) dm) λdn=>
 vK (ak .i .add (ix e 1) aH) λdp=>
 c6 [dn,dp] dk)) (
 vK (ak .i .add (ix d 1) aH) λdq=>
 ct [(ix e 0),dq] c))) (
 R (ix d 0) b))
theorem OL (H:D5 a0 a1 a2 a3 a4 h R):ag prog zZ #[a0,a1,a2,a3,a4] h R:=fk f216 (.s .z (.s (.s .z (.s (.s .z .z) .z)) (.j 4380866648064 [11,12] (.d (.op 0 .r (.op 1 .r (.op 2 .r (.op 4 .r (.op 5 .r (.op 6 .r (.alt (.op 3 .e (.alt (.op 7 .e (.alt (.op 8 .e (.op 9 .e (.op 10 .e (.op 11 .e .nil)))) (.op 9 .e (.op 8 .e (.op 10 .e (.op 11 .e .nil)))))) (.alt (.op 8 .e (.alt (.op 7 .e (.op 9 .e (.op 10 .e (.op 11 .e .nil)))) (.op 9 .e (.op 7 .e (.op 10 .e (.op 11 .e .nil)))))) (.op 9 .e (.alt (.op 7 .e (.op 8 .e (.op 10 .e (.op 11 .e .nil)))) (.op 8 .e (.op 7 .e (.op 10 .e (.op 11 .e .nil))))))))) (.alt (.op 8 .e (.alt (.op 3 .e (.alt (.op 7 .e (.op 9 .e (.op 10 .e (.op 11 .e .nil)))) (.op 9 .e (.op 7 .e (.op 10 .e (.op 11 .e .nil)))))) (.op 9 .e (.op 3 .e (.op 7 .e (.op 10 .e (.op 11 .e .nil))))))) (.op 9 .e (.alt (.op 3 .e (.alt (.op 7 .e (.op 8 .e (.op 10 .e (.op 11 .e .nil)))) (.op 8 .e (.op 7 .e (.op 10 .e (.op 11 .e .nil)))))) (.op 8 .e (.op 3 .e (.op 7 .e (.op 10 .e (.op 11 .e .nil)))))))))))))))) (.s .z (.s (.s .z (.l 1237940039285345090528075776 [13,45] (.s .z (.s (.s .z .z) (.s (.s .z (.s (.d (.op 0 .r (.op 1 .r (.op 2 .r (.op 3 .r (.op 4 .r (.op 5 .r (.op 6 .r (.op 7 .e (.op 8 .n (.op 9 .r .nil))))))))))) (.s .z (.l 618970015031004119023099904 [13,62] (.s .z (.s (.s .z .z) (.s (.s .z (.s (.d (.op 0 .r (.op 1 .r (.op 2 .r (.op 3 .r (.op 4 .r (.op 5 .r (.op 6 .r (.op 7 .e (.op 8 .n (.op 9 .r .nil))))))))))) .z)) .z))))))) .z))))) (.s .z .z)))))) H
def uL (a0:Value)(h:ah)(R:Value→ah→Prop):Prop:=
 vK (aR a0) λa=>
 vK (aB 16 a) λb=>
 vK (ldV h b) λc=>
 vK (aR a0) λd=>
 vK (aB 5 d) λe=>
 vK (aB 1 e) λf=>
 vK (aB 1 f) λg=>
 vK (ldV h g) λj=>
 vK (aR a0) λk=>
 vK (aB 5 k) λl=>
 vK (aB 1 l) λm=>
 vK (aB 3 m) λn=>
 vK (ldV h n) λo=>
 vK (ak .i .add j o) λp=>
 vK (ak .i .geq c p) λq=>
 R q h
theorem Ew (H:uL a0 h R):ag prog oN #[a0] h R:=fk f217 (.s .z (.s .z .z)) H
def uM (a0:Value)(h:ah)(R:Value→ah→Prop):Prop:=
 aW #[ai,(.slice none 0 0)] 189 h λb a=>
 bJ a λS=>
 vK (aR a0) λd=>
 vK (aB 2 d) λe=>
 vK (aB 1 e) λf=>
 qK S (λa=>ldV a f) λg=>
 vK (aR a0) λi=>
 vK (aB 16 i) λj=>
 qK S (λa=>ldV a j) λk=>
 ag prog bF #[g,k] a λl m=>
 stK 2 b l m λo c=>
 vK (aO 2 c b) λn=>
 R n c
theorem Ey (H:uM a0 h R):ag prog kL #[a0] h R:=fk f218 (.s .z (.s (.d (.op 0 .r (.op 1 .r (.op 2 .r (.op 3 .r (.op 4 .r (.op 5 .r (.op 6 .r (.op 7 .r (.op 8 .r (.op 9 .n (.op 10 .n .nil)))))))))))) .z)) H
def wz (a0 a1 a2:Value)(h:ah)(R:Value→ah→Prop):Prop:=
 aZ [a1] h λa k b d=>
 vK (ak .i .lss (ix a 0) a2) λe=>
 aF e (
 ag prog mK #[a0,(ix a 0)] b λf c=>
 vK (unV .not f) λg=>
 aF g (
 R (.tuple #[(ix a 0),(.bool true)]) c) (
 vK (ak .i .add (ix a 0) aH) λj=>
 d [j] c)) (
 R (.tuple #[ai,(.bool false)]) b)
theorem Gy (H:wz a0 a1 a2 h R):ag prog qF #[a0,a1,a2] h R:=fk f219 (.s .z (.s (.s .z (.l 1048000 [8] (.s (.s .z (.s .z .z)) (.s (.s .z (.s (.s .z .z) .z)) .z)))) (.s .z .z))) H
def rn (a0 a1 a2 a3:Value)(h:ah)(R:Value→ah→Prop):Prop:=
 vK (aR a0) λl=>
 vK (aB 2 l) λm=>
 vK (aB 0 m) λn=>
 vK (ldV h n) λo=>
 ag prog bF #[o,a1] h λp q=>
 aW #[ai,(.slice none 0 0)] 189 q λd r=>
 stK 2 d p r λbf f=>
 vK (aR a0) λs=>
 vK (aB 0 s) λt=>
 vK (ldV f t) λu=>
 ag prog aV #[u] f λv w=>
 aZ [a3,ai] w λc bg e x=>
 vK (ak .i .lss (ix c 1) v) λy=>
 aF y (
 vK (aB 1 d) λz=>
 vK (ldV e z) λg=>
 vK (aD g) λaa=>
 aZ [ai,ai] e λb bh a ab=>
 vK (ak .i .lss (ix b 1) aa) λac=>
 aF ac (
 vK (bu 1 g (ix b 1)) λad=>
 vK (ldV a ad) λae=>
 bJ a λS=>
 vK (aR a0) λaf=>
 vK (aB 2 af) λaj=>
 vK (aB 2 aj) λal=>
 qK S (λa=>ldV a al) λam=>
 vK (aB 0 d) λan=>
 qK S (λa=>ldV a an) λao=>
 vK (ak .i .add ao (ix b 1)) λap=>
 vK (aR a0) λaq=>
 vK (aB 0 aq) λar=>
 qK S (λa=>ldV a ar) λau=>
 ag prog bL #[au] a λav j=>
 S j∧(ag prog lB #[am,ap,av] j λaw k=>
 vK (aR a0) λax=>
 vK (aB 0 ax) λay=>
 vK (ldV k ay) λaz=>
 ag prog gy #[az,aw,a2,(ix c 1)] k λa4 a5=>
 vK (gd .i64 a4) λa6=>
 vK (ak .i .mul ae a6) λa7=>
 vK (ak .i .add (ix b 0) a7) λa8=>
 vK (ak .i .add (ix b 1) aH) λa9=>
 ab [a8,a9] a5)) (
 df #[ai] 2 1 [(0,1,(ix b 0))] a λba bb=>
 di ai 2 1 8 (ix c 0) ba bb λbc bd=>
 vK (ak .i .add (ix c 1) aH) λbe=>
 x [bc,be] bd)) (
 R (ix c 0) e)
theorem Bx (H:rn a0 a1 a2 a3 h R):ag prog l9 #[a0,a1,a2,a3] h R:=fk f220 (.s .z (.s .z (.s (.s .z (.l 4722366482869511027720 [3,27] (.s .z (.s (.s .z .z) (.s (.s .z (.s .z (.s (.s .z (.l 147573952581086509056 [11,33] (.s .z (.s (.s .z .z) (.s (.s .z (.s (.d (.op 0 .r (.op 1 .r (.op 2 .r (.op 3 .r (.op 4 .r (.op 5 .r (.op 6 .r (.op 7 .r (.op 8 .r (.op 9 .r (.op 10 .r (.op 11 .r (.op 12 .r (.op 13 .e (.op 14 .n (.op 15 .r .nil))))))))))))))))) .z)) .z))))) .z))) .z))))) (.s .z .z)))) H
def xZ (a0 a1 a2:Value)(h:ah)(R:Value→ah→Prop):Prop:=
 vK (aD a2) λk=>
 vK (aR a0) λl=>
 vK (aB 1 l) λm=>
 vK (ldV h m) λn=>
 vK (ak .i .neq k n) λb=>
 vK (gV b false (some a0)) λo=>
 vK (gV b false (some a1)) λp=>
 gK b false (λq=>ag prog mK #[o,p] h q) h λr c=>
 vK (aE b (.bool true) r) λs=>
 aF s (
 R (.bool false) c) (
 eK (λd=>
 ag prog oV #[a0] c λe a=>
 vK (aL e 0) λf=>
 vK (aL e 1) λam=>
 vK (aR a0) λt=>
 vK (aB 2 t) λu=>
 vK (ldV a u) λv=>
 vK (Pq a v) λw=>
 vK (aR a0) λx=>
 vK (aB 0 x) λy=>
 vK (ldV a y) λz=>
 vK (ak .i .geq w z) λaa=>
 aF aa (
 vK (ak .i .lss a1 f) λab=>
 aF ab (
 R (.bool false) a) (
 ag prog qE #[a0,f] a λan ac=>
 d [] ac)) (
 d [] a))
 λao ap ad=>
 ag prog oS #[a0] ad λg ae=>
 Fi 1 g a2 ae λaq j=>
 vK (aR a0) λaf=>
 vK (aB 2 af) λai=>
 vK (ldV j ai) λaj=>
 ud (.int .i64) aj a1 g j λar al=>
 R (.bool true) al)
theorem IE (H:xZ a0 a1 a2 h R):ag prog sY #[a0,a1,a2] h R:=fk f221 (.s .z (.s (.s .z (.s (.s .z .z) .z)) (.j 8796088828352 [] (.s .z (.s .z (.s (.s (.s .z (.s (.s .z .z) .z)) .z) .z))) (.s .z (.s .z (.s .z (.s .z .z))))))) H
def uS (a0:Value)(h:ah)(R:Value→ah→Prop):Prop:=
 vK (aR a0) λa=>
 vK (aB 1 a) λb=>
 vK (ldV h b) λc=>
 R c h
theorem EE (H:uS a0 h R):ag prog oU #[a0] h R:=fk f222 (.s .z (.s .z .z)) H
def xY (a0 a1:Value)(h:ah)(R:Value→ah→Prop):Prop:=
 vK (aR a0) λb=>
 vK (aB 2 b) λc=>
 vK (ldV h c) λd=>
 vK (JI (.int .i64) (.slice none 0 0) true h d a1) λa=>
 vK (aL a 0) λe=>
 vK (aL a 1) λf=>
 ag prog dd #[e] h λg i=>
 R (.tuple #[g,f]) i
theorem ID (H:xY a0 a1 h R):ag prog sX #[a0,a1] h R:=fk f223 (.s .z (.s .z (.s .z .z))) H
def DF (a0:Value)(h:ah)(R:Value→ah→Prop):Prop:=
 vK (ak .i .geq a0 aH) λa=>
 vK (gV a true (some a0)) λb=>
 vK (gV a true (ak .i .leq b (af 65536))) λc=>
 vK (aE a c (.bool false)) λd=>
 R d h
theorem Oi (H:DF a0 h R):ag prog oW #[a0] h R:=fk f224 (.s .z (.s .z .z)) H
def FT (a0 a1 a2 a3:Value)(h:ah)(R:Value→ah→Prop):Prop:=
 ag prog Cn #[a0,a1,a2,a3] h λj d=>
 vK (unV .not j) λk=>
 aF k (
 R (.tuple #[ai,(.slice none 0 0)]) d) (
 vK (ak .i .mul a3 a1) λl=>
 vK (ak .i .quo l a2) λm=>
 aZ [m] d λc al n o=>
 vK (ak .i .sub (ix c 0) aH) λp=>
 ag prog qH #[a0,a1,a2,a3,p] n λq e=>
 aF q (
 vK (ak .i .sub (ix c 0) aH) λr=>
 o [r] e) (
 aZ [(ix c 0)] e λb am s t=>
 ag prog qH #[a0,a1,a2,a3,(ix b 0)] s λu f=>
 vK (unV .not u) λv=>
 aF v (
 vK (ak .i .add (ix b 0) aH) λw=>
 t [w] f) (
 aZ [(ix b 0),(.slice none 0 0)] f λa an x y=>
 ag prog qH #[a0,a1,a2,a3,(ix a 0)] x λz g=>
 aF z (
 ag prog vO #[a0,a1,a2,a3,(ix a 0)] g λaa ab=>
 df #[ai] 2 1 [(0,1,aa)] ab λac ad=>
 di ai 2 1 8 (ix a 1) ac ad λae af=>
 vK (ak .i .add (ix a 0) aH) λaj=>
 y [aj,ae] af) (
 R (.tuple #[(ix b 0),(ix a 1)]) g))))
theorem QI (H:FT a0 a1 a2 a3 h R):ag prog xd #[a0,a1,a2,a3] h R:=fk f225 (.s .z (.s (.s .z (.s (.s .z .z) .z)) (.s .z (.s (.l 8573158400 [10] (.s (.s .z (.s .z .z)) .z)) (.s (.l 4389456577536 [10] (.s (.s .z (.s .z .z)) .z)) (.s .z (.s .z (.s (.l 1152912708513829888 [10,12] (.s (.s .z (.s .z .z)) (.s .z .z))) (.s .z .z))))))))) H
def uU (a0:Value)(h:ah)(R:Value→ah→Prop):Prop:=
 vK (aD a0) λr=>
 vK (ak .i .lss r aH) λd=>
 vK (gV d false (some a0)) λs=>
 vK (gV d false (aD s)) λt=>
 vK (gV d false (ak .i .gtr t (af 1048576))) λu=>
 vK (aE d (.bool true) u) λv=>
 aF v (
 R (.tuple #[(.slice none 0 0),(af 7)]) h) (
 vK (aD a0) λw=>
 aZ [ai] h λe bp f x=>
 vK (ak .i .lss (ix e 0) w) λy=>
 aF y (
 vK (bu 1 a0 (ix e 0)) λz=>
 vK (ldV f z) λaa=>
 ag prog uD #[aa] f λab l=>
 vK (ak .i .gtr ab (af 1099511627776)) λac=>
 aF ac (
 R (.tuple #[(.slice none 0 0),(af 7)]) l) (
 vK (ak .i .add (ix e 0) aH) λad=>
 x [ad] l)) (
 ag prog Cm #[a0] f λg m=>
 vK (ak .i .lss g (af 268435456)) λae=>
 aF ae (
 R (.tuple #[(.slice none 0 0),(af 8)]) m) (
 vK (aD a0) λaj=>
 aZ [(.slice none 0 0),(.slice none 0 0),(af 16384),ai] m λa bq j al=>
 vK (ak .i .lss (ix a 3) aj) λam=>
 aF am (
 vK (bu 1 a0 (ix a 3)) λan=>
 vK (ldV j an) λn=>
 vK (ak .i .mul n (af 16384)) λao=>
 ag prog qX #[ao,g] j λk ap=>
 df #[ai] 2 1 [(0,1,k)] ap λaq ar=>
 di ai 2 1 8 (ix a 0) aq ar λau av=>
 vK (ak .i .mul n (af 16384)) λaw=>
 vK (ak .i .mul k g) λax=>
 vK (ak .i .sub aw ax) λay=>
 df #[ai] 2 1 [(0,1,ay)] av λaz a1=>
 di ai 2 1 8 (ix a 1) az a1 λa2 a3=>
 vK (ak .i .sub (ix a 2) k) λa4=>
 vK (ak .i .add (ix a 3) aH) λa5=>
 al [au,a2,a4,a5] a3) (
 aZ [(ix a 2)] j λo br p a6=>
 vK (ak .i .gtr (ix o 0) ai) λa7=>
 aF a7 (
 vK (aD (ix a 1)) λa8=>
 aZ [ai,ai] p λb bs c q=>
 vK (ak .i .lss (ix b 1) a8) λa9=>
 aF a9 (
 vK (bu 1 (ix a 1) (ix b 1)) λba=>
 vK (ldV c ba) λbb=>
 vK (bu 1 (ix a 1) (ix b 0)) λbc=>
 vK (ldV c bc) λbd=>
 vK (ak .i .gtr bb bd) λbe=>
 aF be (
 vK (ak .i .add (ix b 1) aH) λbf=>
 q [(ix b 1),bf] c) (
 vK (ak .i .add (ix b 1) aH) λbg=>
 q [(ix b 0),bg] c)) (
 vK (bu 1 (ix a 0) (ix b 0)) λbh=>
 vK (ldV c bh) λbi=>
 vK (ak .i .add bi aH) λbj=>
 vK (bu 1 (ix a 0) (ix b 0)) λbk=>
 stK 1 bk bj c λbt bl=>
 vK (bu 1 (ix a 1) (ix b 0)) λbm=>
 stK 1 bm (af (-1)) bl λbv bn=>
 vK (ak .i .sub (ix o 0) aH) λbo=>
 a6 [bo] bn)) (
 R (.tuple #[(ix a 0),ai]) p)))))
theorem EI (H:uU a0 h R):ag prog iN #[a0] h R:=fk f226 (.s .z (.s (.s .z (.s (.s .z .z) .z)) (.s (.s .z (.l 8556380204 [25] (.s .z (.s (.s .z .z) (.s (.s .z (.s .z (.s (.s .z .z) .z))) .z))))) (.s .z (.s (.s .z (.s (.s .z .z) .z)) (.s .z (.s .z (.s .z (.s (.s .z (.l 18446743523953744768 [7,8,9,39] (.s .z (.s (.s .z .z) (.s (.s .z (.s .z (.s .z (.s .z .z)))) .z))))) (.s (.l 9903520295836298125483467264 [9] (.s (.s .z (.s .z .z)) (.s .z (.s (.s .z (.l 4835408130553337346023424 [13,68] (.s .z (.s (.s .z .z) (.s (.s .z (.s .z (.s .z .z))) .z))))) (.s .z (.s .z .z)))))) (.s .z .z))))))))))) H
def AS (a0 a1:Value)(h:ah)(R:Value→ah→Prop):Prop:=
 ag prog xF #[a0,a1] h λa b=>
 ag prog Cq #[a] b λc d=>
 ag prog mx #[c,(af 10)] d λe f=>
 R e f
theorem L3 (H:AS a0 a1 h R):ag prog xG #[a0,a1] h R:=fk f227 (.s .z (.s .z .z)) H
def AQ (a0:Value)(h:ah)(R:Value→ah→Prop):Prop:=
 vK (aD a0) λc=>
 aZ [ai,ai] h λa o b d=>
 vK (ak .i .lss (ix a 1) c) λe=>
 aF e (
 vK (bu 1 a0 (ix a 1)) λf=>
 vK (ldV b f) λg=>
 ag prog uD #[g] b λj k=>
 ag prog uC #[(ix a 0),j] k λl m=>
 vK (ak .i .add (ix a 1) aH) λn=>
 d [l,n] m) (
 R (ix a 0) b)
theorem LZ (H:AQ a0 h R):ag prog xE #[a0] h R:=fk f228 (.s .z (.s .z (.s (.s .z (.l 130856 [3,8] (.s .z (.s (.s .z .z) (.s (.s .z .z) .z))))) (.s .z .z)))) H
def Ak (a0 a1 a2:Value)(h:ah)(R:Value→ah→Prop):Prop:=
 vK (ak .i .eql a2 ai) λe=>
 aF e (
 R ai h) (
 ag prog gh #[a0] h λf g=>
 ag prog gh #[a1] g λj k=>
 ag prog qV #[f,j] k λl m=>
 aW #[(.int .u64 0),(.int .u64 0)] 351 m λc n=>
 stK 2 c l n λx a=>
 vK (ak .i .lss a0 ai) λo=>
 vK (ak .i .lss a1 ai) λp=>
 vK (ak .b .neq o p) λq=>
 bJ a λS=>
 qK S (λa=>aO 2 a c) λr=>
 vK (ak .i .lss a2 ai) λs=>
 vK (ak .b .neq q s) λt=>
 ag prog gh #[a2] a λu d=>
 S d∧(ag prog te #[r,u,t] d λv w=>
 R v w))
theorem Kn (H:Ak a0 a1 a2 h R):ag prog dj #[a0,a1,a2] h R:=fk f229 (.s .z (.s (.s .z (.s (.s .z .z) .z)) (.s .z (.s .z (.s (.d (.op 0 .r (.op 1 .r (.op 3 .r (.op 4 .r (.op 5 .r (.op 6 .r (.op 2 .e (.op 7 .n (.op 8 .r .nil)))))))))) .z))))) H
end
section
variable {a0 a1 a2 a3 a4 a5 a6:Value}{h:ah}{R:Value→ah→Prop}
def Lq (a0 a1 a2 a3:Value)(h:ah)(R:Value→ah→Prop):Prop:=
 vK (ak .i .geq a0 ai) λb=>
 vK (gV b true (some a0)) λj=>
 vK (gV b true (ak .i .lss j (af 3))) λk=>
 vK (aE b k (.bool false)) λc=>
 vK (gV c true (some a1)) λl=>
 vK (gV c true (ak .i .geq l aH)) λm=>
 vK (aE c m (.bool false)) λd=>
 vK (gV d true (some a1)) λn=>
 vK (gV d true (ak .i .leq n (af 65536))) λo=>
 vK (aE d o (.bool false)) λe=>
 vK (gV e true (some a2)) λp=>
 vK (gV e true (ak .i .geq p aH)) λq=>
 vK (aE e q (.bool false)) λf=>
 vK (gV f true (some a2)) λr=>
 vK (gV f true (ak .i .leq r (af 65536))) λs=>
 vK (aE f s (.bool false)) λg=>
 vK (gV g true (some a3)) λt=>
 vK (gV g true (ak .i .geq t ai)) λu=>
 vK (aE g u (.bool false)) λa=>
 vK (gV a true (some a3)) λv=>
 vK (gV a true (some a2)) λw=>
 vK (gV a true (ak .i .lss v w)) λx=>
 vK (aE a x (.bool false)) λy=>
 R y h
theorem UT (H:Lq a0 a1 a2 a3 h R):ag prog Jl #[a0,a1,a2,a3] h R:=fk f236 (.s .z (.s .z .z)) H
def Ju (a0 a1:Value)(h:ah)(R:Value→ah→Prop):Prop:=
 vK (unV .neg a0) λa=>
 ag prog kn #[a,a1] h λb c=>
 vK (unV .neg b) λd=>
 R d c
theorem Th (H:Ju a0 a1 h R):ag prog zO #[a0,a1] h R:=fk f237 (.s .z (.s .z .z)) H
def Jw (a0 a1:Value)(h:ah)(R:Value→ah→Prop):Prop:=
 vK (ak .i .lss a1 aH) λd=>
 vK (gV d false (some a1)) λe=>
 vK (gV d false (ak .i .gtr e (af 262144))) λf=>
 vK (aE d (.bool true) f) λb=>
 vK (gV b false (some a0)) λg=>
 vK (gV b false (some a1)) λj=>
 vK (gV b false (ak .i .mul (af 2) j)) λk=>
 vK (gV b false (ak .i .geq g k)) λl=>
 vK (aE b (.bool true) l) λc=>
 vK (gV c false (some a0)) λm=>
 vK (gV c false (some a1)) λn=>
 vK (gV c false (ak .i .mul (af (-2)) n)) λo=>
 vK (gV c false (ak .i .leq m o)) λp=>
 vK (aE c (.bool true) p) λq=>
 aF q (
 R ai h) (
 vK (unV .neg a0) λr=>
 vK (jS a0 r) λa=>
 vK (ak .i .mul (af 3) a) λs=>
 vK (ak .i .mul s a) λt=>
 vK (ak .i .mul t a) λu=>
 vK (ak .i .mul (af 5) a) λv=>
 vK (ak .i .mul v a) λw=>
 vK (ak .i .mul w a1) λx=>
 vK (ak .i .sub u x) λy=>
 vK (ak .i .mul (af 2) a1) λz=>
 vK (ak .i .mul z a1) λaa=>
 vK (ak .i .mul aa a1) λab=>
 vK (ak .i .add y ab) λac=>
 vK (ak .i .geq a a1) λad=>
 aF ad (
 vK (unV .neg a) λae=>
 vK (ak .i .mul ae a) λaj=>
 vK (ak .i .mul aj a) λal=>
 vK (ak .i .mul (af 5) a) λam=>
 vK (ak .i .mul am a) λan=>
 vK (ak .i .mul an a1) λao=>
 vK (ak .i .add al ao) λap=>
 vK (ak .i .mul (af 8) a) λaq=>
 vK (ak .i .mul aq a1) λar=>
 vK (ak .i .mul ar a1) λau=>
 vK (ak .i .sub ap au) λav=>
 vK (ak .i .mul (af 4) a1) λaw=>
 vK (ak .i .mul aw a1) λax=>
 vK (ak .i .mul ax a1) λay=>
 vK (ak .i .add av ay) λaz=>
 vK (ak .i .mul (af 2) a1) λa2=>
 vK (ak .i .mul a2 a1) λa3=>
 vK (ak .i .mul a3 a1) λa4=>
 ag prog eG #[az,(af 1073741824),a4] h λa5 a6=>
 R a5 a6) (
 vK (ak .i .mul (af 2) a1) λa7=>
 vK (ak .i .mul a7 a1) λa8=>
 vK (ak .i .mul a8 a1) λa9=>
 ag prog eG #[ac,(af 1073741824),a9] h λba bb=>
 R ba bb))
theorem Tj (H:Jw a0 a1 h R):ag prog vP #[a0,a1] h R:=fk f238 (.s .z (.s (.s .z (.s (.s .z .z) .z)) (.s .z (.s .z (.s (.s .z (.s .z .z)) (.s .z .z)))))) H
def Af (a0 a1:Value)(h:ah)(R:Value→ah→Prop):Prop:=
 ag prog Fv #[a0,a1] h λd b=>
 vK (unV .not d) λa=>
 vK (gV a false (some a0)) λe=>
 gK a false (λf=>ag prog xc #[e] b f) b λg c=>
 vK (gV a false (some a1)) λj=>
 vK (gV a false (ak .i .mul (af 3) j)) λk=>
 vK (gV a false (ak .i .geq g k)) λl=>
 vK (aE a (.bool true) l) λm=>
 aF m (
 R ai c) (
 ag prog qT #[a0,a1] c λn o=>
 vK (ak .i .mul (af 3) a1) λp=>
 ag prog qT #[a0,p] o λq r=>
 ag prog sW #[n,q,(af 40)] r λs t=>
 ag prog km #[s,(af 10)] t λu v=>
 R u v)
theorem Ki (H:Af a0 a1 h R):ag prog vN #[a0,a1] h R:=fk f239 (.s .z (.s (.s .z (.s (.s .z .z) .z)) (.s .z .z))) H
def gu (a0 a1:Value)(h:ah)(R:Value→ah→Prop):Prop:=
 ag prog iC #[a0,a1] h λa b=>
 vK (ak .i .geq a ai) λc=>
 R c b
theorem lE (H:gu a0 a1 h R):ag prog dT #[a0,a1] h R:=fk f240 (.s .z (.s .z .z)) H
def xW (a0:Value)(h:ah)(R:Value→ah→Prop):Prop:=
 ag prog xa #[a0] h λa b=>
 vK (ak .i .gtr a (af 1099511627776)) λc=>
 R c b
theorem IB (H:xW a0 h R):ag prog mI #[a0] h R:=fk f241 (.s .z (.s .z .z)) H
def FI (a0:Value)(h:ah)(R:Value→ah→Prop):Prop:=
 ag prog Cu #[a0,(af (-1))] h λa b=>
 vK (jS a0 a) λc=>
 R c b
theorem Qw (H:FI a0 h R):ag prog xa #[a0] h R:=fk f242 (.s .z (.s .z .z)) H
def Gg (a0 a1:Value)(h:ah)(R:Value→ah→Prop):Prop:=
 vK (ak .i .add a0 a1) λc=>
 vK (ak .i .gtr a1 ai) λa=>
 vK (gV a true (some c)) λd=>
 vK (gV a true (some a0)) λe=>
 vK (gV a true (ak .i .lss d e)) λf=>
 vK (aE a f (.bool false)) λg=>
 aF g (
 R (af 9223372036854775807) h) (
 vK (ak .i .lss a1 ai) λb=>
 vK (gV b true (some c)) λj=>
 vK (gV b true (some a0)) λk=>
 vK (gV b true (ak .i .gtr j k)) λl=>
 vK (aE b l (.bool false)) λm=>
 aF m (
 R (af (-9223372036854775808)) h) (
 R c h))
theorem QX (H:Gg a0 a1 h R):ag prog xh #[a0,a1] h R:=fk f243 (.s .z (.s .z (.s (.s .z (.s (.s .z .z) (.s .z (.s (.s .z .z) .z)))) (.s .z .z)))) H
def DZ (a0:Value)(h:ah)(R:Value→ah→Prop):Prop:=
 vK (ak .i .lss a0 ai) λa=>
 aF a (
 vK (gd .u64 a0) λb=>
 vK (unV .neg b) λc=>
 R c h) (
 vK (gd .u64 a0) λd=>
 R d h)
theorem OG (H:DZ a0 h R):ag prog iV #[a0] h R:=fk f244 (.s .z (.s (.s .z (.s (.s .z .z) .z)) (.s .z .z))) H
def D0 (a0 a1:Value)(h:ah)(R:Value→ah→Prop):Prop:=
 vK (gV a1 true (some a0)) λa=>
 vK (gV a1 true (ak .i .geq a (.int .u64 9223372036854775808))) λb=>
 vK (aE a1 b (.bool false)) λc=>
 aF c (
 R (af (-9223372036854775808)) h) (
 aF a1 (
 vK (gd .i64 a0) λd=>
 vK (unV .neg d) λe=>
 R e h) (
 vK (ak .i .gtr a0 (.int .u64 9223372036854775807)) λf=>
 aF f (
 R (af 9223372036854775807) h) (
 vK (gd .i64 a0) λg=>
 R g h)))
theorem OH (H:D0 a0 a1 h R):ag prog lN #[a0,a1] h R:=fk f245 (.s .z (.s (.s .z (.s (.s .z .z) (.s .z (.s (.s .z .z) (.s .z (.s (.s .z .z) .z)))))) (.s .z .z))) H
def kA (a0 a1 a2:Value)(h:ah)(R:Value→ah→Prop):Prop:=
 aZ [ai,(af 20)] h λc ab e k=>
 vK (ak .i .leq (ix c 1) a1) λl=>
 aF l (
 ag prog dm #[a0,(ix c 0),(ix c 1),a2] e λac m=>
 vK (ak .i .add (ix c 1) (af 20)) λn=>
 k [(ix c 1),n] m) (
 ag prog dm #[a0,(ix c 0),a1,a2] e λad o=>
 aZ [(af 20)] o λb ae f g=>
 vK (ak .i .lss (ix b 0) a1) λp=>
 aF p (
 vK (ak .i .mul (af 2) (ix b 0)) λq=>
 aZ [ai,q] f λa aj d r=>
 vK (ak .i .leq (ix a 1) a1) λs=>
 aF s (
 vK (ak .i .add (ix a 0) (ix b 0)) λt=>
 ag prog bS #[a0,(ix a 0),t,(ix a 1),a2] d λal u=>
 vK (ak .i .mul (af 2) (ix b 0)) λv=>
 vK (ak .i .add (ix a 1) v) λw=>
 r [(ix a 1),w] u) (
 vK (ak .i .add (ix a 0) (ix b 0)) λj=>
 vK (ak .i .lss j a1) λx=>
 aF x (
 ag prog bS #[a0,(ix a 0),j,a1,a2] d λam y=>
 vK (ak .i .mul (ix b 0) (af 2)) λz=>
 g [z] y) (
 vK (ak .i .mul (ix b 0) (af 2)) λaa=>
 g [aa] d))) (
 R (.tuple #[]) f))
theorem tS (H:kA a0 a1 a2 h R):ag prog io #[a0,a1,a2] h R:=fk f246 (.s .z (.s .z (.s (.l 8386944 [7,8] (.s (.s .z (.s .z .z)) (.s .z (.s .z .z)))) (.s .z (.l 9223372036586341312 [6] (.s (.s .z (.s .z .z)) (.s .z (.s (.l 562941363487104 [7,8] (.s (.s .z (.s .z .z)) (.s .z (.s .z .z)))) (.s (.s .z (.s .z (.s .z .z))) .z))))))))) H
def vh (a0:Value)(h:ah)(R:Value→ah→Prop):Prop:=
 vK (ak .i .neq a0 a0) λa=>
 R a h
theorem ES (H:vh a0 h R):ag prog kP #[a0] h R:=fk f247 (.s .z (.s .z .z)) H
def Bg (a0 a1:Value)(h:ah)(R:Value→ah→Prop):Prop:=
 vK (ak .i .leq a1 ai) λa=>
 aF a (
 R a0 h) (
 vK (ak .i .geq a1 (af 64)) λb=>
 aF b (
 R ai h) (
 vK (ak .i .shr a0 a1) λc=>
 vK (ak .i .sub a1 aH) λd=>
 vK (ak .i .shr a0 d) λe=>
 vK (ak .i .and e aH) λf=>
 vK (ak .i .add c f) λg=>
 R g h))
theorem Mp (H:Bg a0 a1 h R):ag prog km #[a0,a1] h R:=fk f248 (.s .z (.s (.s .z (.s (.s .z .z) .z)) (.s (.s .z (.s (.s .z .z) .z)) (.s .z .z)))) H
def Jz (a0:Value)(h:ah)(R:Value→ah→Prop):Prop:=
 vK (jS ai a0) λc=>
 vK (ak .i .quo c (af 762123384786)) λg=>
 vK (ak .i .rem c (af 762123384786)) λj=>
 aZ [(af 1099511627776),(af 1099511627776),ai] h λa v d e=>
 vK (ak .i .lss (ix a 2) (af 16)) λk=>
 aF k (
 vK (ak .i .add (ix a 2) aH) λl=>
 vK (ak .i .shl l (.int .u64 40)) λm=>
 ag prog eG #[(ix a 1),j,m] d λb f=>
 vK (ak .i .rem (ix a 2) (af 2)) λn=>
 vK (ak .i .eql n ai) λo=>
 aF o (
 vK (ak .i .sub (ix a 0) b) λp=>
 vK (ak .i .add (ix a 2) aH) λq=>
 e [p,b,q] f) (
 vK (ak .i .add (ix a 0) b) λr=>
 vK (ak .i .add (ix a 2) aH) λs=>
 e [r,b,s] f)) (
 ag prog km #[(ix a 0),g] d λt u=>
 R t u)
theorem Tm (H:Jz a0 h R):ag prog Fy #[a0] h R:=fk f249 (.s .z (.s .z (.s .z (.s .z (.s (.s .z (.l 8589918432 [5,6,14] (.s .z (.s (.s .z .z) (.s (.s .z (.s .z (.s .z (.s .z .z)))) .z))))) (.s .z .z)))))) H
def D3 (a0 a1:Value)(h:ah)(R:Value→ah→Prop):Prop:=
 vK (ak .i .lss a1 aH) λa=>
 vK (gV a false (some a1)) λd=>
 vK (gV a false (ak .i .gtr d (af 4194304))) λe=>
 vK (aE a (.bool true) e) λb=>
 vK (gV b false (some a0)) λf=>
 vK (gV b false (ak .i .lss f (af (-16384)))) λg=>
 vK (aE b (.bool true) g) λc=>
 vK (gV c false (some a0)) λj=>
 vK (gV c false (ak .i .gtr j (af 16384))) λk=>
 vK (aE c (.bool true) k) λl=>
 aF l (
 R (af 9223372036854775807) h) (
 vK (ak .i .mul a0 a0) λm=>
 vK (ak .i .shl m (.int .u64 31)) λn=>
 vK (ak .i .mul a1 a1) λo=>
 ag prog eG #[n,(af 1099511627776),o] h λp q=>
 R p q)
theorem OI (H:D3 a0 a1 h R):ag prog zX #[a0,a1] h R:=fk f250 (.s .z (.s (.s .z (.s (.s .z .z) .z)) (.s .z .z))) H
def yg (a0 a1:Value)(h:ah)(R:Value→ah→Prop):Prop:=
 aF (.bool false) (
 vK (gd .u32 a0) λc=>
 vK (gd .u32 a1) λd=>
 ag prog Il #[c,d] h λa e=>
 vK (aL a 0) λf=>
 vK (aL a 1) λg=>
 vK (gd .u64 f) λi=>
 vK (gd .u64 g) λj=>
 R (.tuple #[i,j]) e) (
 ag prog kO #[a0,a1] h λb k=>
 vK (aL b 0) λl=>
 vK (aL b 1) λm=>
 R (.tuple #[l,m]) k)
theorem IK (H:yg a0 a1 h R):ag prog tg #[a0,a1] h R:=fk f251 (.s .z (.s (.s (.s .z (.s .z .z)) .z) (.s .z (.s .z .z)))) H
def Ac (a0 a1:Value)(h:ah)(R:Value→ah→Prop):Prop:=
 ag prog sw #[a0] h λc d=>
 ag prog sw #[a1] d λe f=>
 ag prog kO #[c,e] f λa g=>
 vK (aL a 0) λj=>
 vK (aL a 1) λk=>
 vK (ak .i .lss a0 ai) λl=>
 vK (ak .i .lss a1 ai) λm=>
 vK (ak .b .neq l m) λn=>
 R (.tuple #[j,k,n]) g
theorem Kf (H:Ac a0 a1 h R):ag prog oO #[a0,a1] h R:=fk f252 (.s .z (.s .z (.s .z .z))) H
def FH (a0:Value)(h:ah)(R:Value→ah→Prop):Prop:=
 vK (ak .i .lss a0 ai) λa=>
 aF a (
 vK (gd .u64 a0) λb=>
 vK (unV .neg b) λc=>
 R c h) (
 vK (gd .u64 a0) λd=>
 R d h)
theorem Qv (H:FH a0 h R):ag prog sw #[a0] h R:=fk f253 (.s .z (.s (.s .z (.s (.s .z .z) .z)) (.s .z .z))) H
def AL (a0 a1 a2:Value)(h:ah)(R:Value→ah→Prop):Prop:=
 vK (gV a2 true (some a0)) λc=>
 vK (gV a2 true (ak .i .gtr c (.int .u64 0))) λd=>
 vK (gV a2 true (some d)) λa=>
 vK (gV a false (some a1)) λe=>
 vK (gV a false (ak .i .gtr e (.int .u64 9223372036854775808))) λf=>
 vK (gV a2 true (aE a (.bool true) f)) λg=>
 vK (aE a2 g (.bool false)) λj=>
 aF j (
 R (af (-9223372036854775808)) h) (
 aF a2 (
 vK (unV .neg a1) λk=>
 vK (gd .i64 k) λl=>
 R l h) (
 vK (ak .i .gtr a0 (.int .u64 0)) λb=>
 vK (gV b false (some a1)) λm=>
 vK (gV b false (ak .i .gtr m (.int .u64 9223372036854775807))) λn=>
 vK (aE b (.bool true) n) λo=>
 aF o (
 R (af 9223372036854775807) h) (
 vK (gd .i64 a1) λp=>
 R p h)))
theorem LS (H:AL a0 a1 a2 h R):ag prog eF #[a0,a1,a2] h R:=fk f254 (.s .z (.s (.s .z (.s (.s .z .z) (.s .z (.s (.s .z .z) (.s .z (.s (.s .z .z) .z)))))) (.s .z .z))) H
def ve (a0 a1 a2:Value)(h:ah)(R:Value→ah→Prop):Prop:=
 eK (λo=>
 vK (ak .i .eql a2 (.int .u64 0)) λaf=>
 aF af (
 vK (ldV h (.pointer (some ⟨yE,0,none⟩))) λb2=>
 M7 h λb3 ai=>
 o [] ai) (
 o [] h))
 λb4 b5 j=>
 eK (λp=>
 vK (ak .i .leq a2 a0) λaj=>
 aF aj (
 vK (ldV j (.pointer (some ⟨vZ,0,none⟩))) λb6=>
 M7 j λb7 al=>
 p [] al) (
 p [] j))
 λb8 b9 q=>
 vK (ak .i .eql a0 (.int .u64 0)) λam=>
 aF am (
 vK (ak .i .quo a1 a2) λan=>
 vK (ak .i .rem a1 a2) λao=>
 R (.tuple #[an,ao]) q) (
 ag prog ir #[a2] q λap aq=>
 vK (gd .u64 ap) λf=>
 vK (ak .i .shl a2 f) λg=>
 vK (ak .i .shr g (.int .u64 32)) λc=>
 vK (ak .i .and g (.int .u64 4294967295)) λr=>
 vK (ak .i .shl a0 f) λar=>
 vK (ak .i .sub (.int .u64 64) f) λau=>
 vK (ak .i .shr a1 au) λav=>
 vK (ak .i .or ar av) λk=>
 vK (ak .i .shl a1 f) λs=>
 vK (ak .i .shr s (.int .u64 32)) λt=>
 vK (ak .i .and s (.int .u64 4294967295)) λu=>
 vK (ak .i .quo k c) λv=>
 vK (ak .i .mul v c) λaw=>
 vK (ak .i .sub k aw) λax=>
 eK (λw=>
 aZ [v,ax] aq λd ca l ay=>
 vK (ak .i .geq (ix d 0) (.int .u64 4294967296)) λa=>
 vK (gV a false (some (ix d 0))) λaz=>
 vK (gV a false (some r)) λa3=>
 vK (gV a false (ak .i .mul az a3)) λa4=>
 vK (gV a false (some (ix d 1))) λa5=>
 vK (gV a false (ak .i .mul (.int .u64 4294967296) a5)) λa6=>
 vK (gV a false (some t)) λa7=>
 vK (gV a false (ak .i .add a6 a7)) λa8=>
 vK (gV a false (ak .i .gtr a4 a8)) λa9=>
 vK (aE a (.bool true) a9) λba=>
 aF ba (
 vK (ak .i .sub (ix d 0) (.int .u64 1)) λx=>
 vK (ak .i .add (ix d 1) c) λy=>
 vK (ak .i .geq y (.int .u64 4294967296)) λbb=>
 aF bb (
 w [x] l) (
 ay [x,y] l)) (
 w [(ix d 0)] l))
 λz cb bc=>
 vK (ak .i .mul k (.int .u64 4294967296)) λbd=>
 vK (ak .i .add bd t) λbe=>
 vK (ak .i .mul (ix z 0) g) λbf=>
 vK (ak .i .sub be bf) λm=>
 vK (ak .i .quo m c) λaa=>
 vK (ak .i .mul aa c) λbg=>
 vK (ak .i .sub m bg) λbh=>
 eK (λab=>
 aZ [bh,aa] bc λe cc n bi=>
 vK (ak .i .geq (ix e 1) (.int .u64 4294967296)) λb=>
 vK (gV b false (some (ix e 1))) λbj=>
 vK (gV b false (some r)) λbk=>
 vK (gV b false (ak .i .mul bj bk)) λbl=>
 vK (gV b false (some (ix e 0))) λbm=>
 vK (gV b false (ak .i .mul (.int .u64 4294967296) bm)) λbn=>
 vK (gV b false (some u)) λbo=>
 vK (gV b false (ak .i .add bn bo)) λbp=>
 vK (gV b false (ak .i .gtr bl bp)) λbq=>
 vK (aE b (.bool true) bq) λbr=>
 aF br (
 vK (ak .i .sub (ix e 1) (.int .u64 1)) λac=>
 vK (ak .i .add (ix e 0) c) λad=>
 vK (ak .i .geq ad (.int .u64 4294967296)) λbs=>
 aF bs (
 ab [ac] n) (
 bi [ad,ac] n)) (
 ab [(ix e 1)] n))
 λae cd bt=>
 vK (ak .i .mul (ix z 0) (.int .u64 4294967296)) λbu=>
 vK (ak .i .add bu (ix ae 0)) λbv=>
 vK (ak .i .mul m (.int .u64 4294967296)) λbw=>
 vK (ak .i .add bw u) λbx=>
 vK (ak .i .mul (ix ae 0) g) λbz=>
 vK (ak .i .sub bx bz) λb0=>
 vK (ak .i .shr b0 f) λb1=>
 R (.tuple #[bv,b1]) bt)
theorem EQ (H:ve a0 a1 a2 h R):ag prog pu #[a0,a1,a2] h R:=fk f255 (.s .z (.j 3670016 [] (.s .z (.s .z .z)) (.j 62914560 [] (.s .z (.s .z .z)) (.s (.s .z (.s (.s .z .z) .z)) (.s .z (.s .z (.s .z (.s .z (.s .z (.s .z (.s .z (.s .z (.s .z (.s .z (.s (.m 77371104881383677504880640 [15] (.l 77371104881383677504880640 [15,16] (.s (.s .z (.s .z .z)) (.s .z (.s .z (.s .z (.s .z .z))))))) (.s .z (.s .z (.s .z (.s (.m 2658450920967430832890008133748195328 [18] (.l 2658450920967430832890008133748195328 [16,18] (.s (.s .z (.s .z .z)) (.s .z (.s .z (.s .z (.s .z .z))))))) (.s .z .z)))))))))))))))))))) H
def Bf (h:ah)(R:Value→ah→Prop):Prop:=
 ag prog Db #[ai,(af 4),(af 2),aH] h λj c=>
 vK (aL j 0) λl=>
 vK (aL j 1) λe=>
 vK (ak .i .eql l (af 2)) λd=>
 vK (gV d true (some e)) λm=>
 vK (gV d true (aD m)) λn=>
 vK (gV d true (ak .i .eql n (af 2))) λo=>
 vK (aE d o (.bool false)) λa=>
 vK (gV a true (some e)) λp=>
 vK (gV a true (bu 1 p ai)) λq=>
 vK (gV a true (ldV c q)) λr=>
 vK (gV a true (ak .i .eql r (af 536870912))) λs=>
 vK (aE a s (.bool false)) λb=>
 vK (gV b true (some e)) λt=>
 vK (gV b true (bu 1 t aH)) λu=>
 vK (gV b true (ldV c u)) λv=>
 vK (gV b true (ak .i .eql v (af 536870912))) λw=>
 vK (aE b w (.bool false)) λf=>
 gK f true (λx=>ag prog vP #[ai,aH] c x) c λy k=>
 vK (gV f true (ak .i .eql y (af 1073741824))) λz=>
 vK (aE f z (.bool false)) λg=>
 gK g true (λaa=>ag prog vP #[aH,(af 2)] k aa) k λab ac=>
 vK (gV g true (ak .i .eql ab (af 603979776))) λad=>
 vK (aE g ad (.bool false)) λae=>
 R ae ac
theorem Mo (H:Bf h R):ag prog xP #[] h R:=fk f257 (.s .z (.s .z (.s .z .z))) H
def Be (h:ah)(R:Value→ah→Prop):Prop:=
 df #[ai,ai,ai] 2 3 [(0,1,(af 536870912)),(1,1,(af 536870912)),(2,1,(af 536870912))] h λj k=>
 ag prog jE #[j] k λd l=>
 vK (aL d 0) λm=>
 vK (aL d 1) λn=>
 ag prog mJ #[(af 65536)] l λe f=>
 vK (aL e 0) λo=>
 vK (aL e 1) λp=>
 vK (ak .i .eql n ai) λa=>
 vK (gV a true (some m)) λq=>
 gK a true (λr=>df #[ai,ai,ai] 2 3 [(0,1,(af 5462)),(1,1,(af 5461)),(2,1,(af 5461))] f r) f λs g=>
 gK a true (λt=>ag prog uE #[q,s] g t) g λu v=>
 vK (aE a u (.bool false)) λc=>
 vK (gV c true (some p)) λw=>
 vK (gV c true (ak .i .eql w ai)) λx=>
 vK (aE c x (.bool false)) λb=>
 vK (gV b true (some o)) λy=>
 vK (gV b true (aD y)) λz=>
 vK (gV b true (ak .i .eql z (af 7))) λaa=>
 vK (aE b aa (.bool false)) λab=>
 R ab v
theorem Mn (H:Be h R):ag prog xO #[] h R:=fk f258 (.s .z (.s .z (.s .z (.s .z .z)))) H
def DJ (a0 a1:Value)(h:ah)(R:Value→ah→Prop):Prop:=
 vK (aD a0) λc=>
 vK (aD a1) λd=>
 vK (ak .i .neq c d) λe=>
 aF e (
 R (.bool false) h) (
 vK (aD a0) λf=>
 aZ [ai] h λb q a g=>
 vK (ak .i .lss (ix b 0) f) λj=>
 aF j (
 vK (bu 1 a0 (ix b 0)) λk=>
 vK (ldV a k) λl=>
 vK (bu 1 a1 (ix b 0)) λm=>
 vK (ldV a m) λn=>
 vK (ak .i .neq l n) λo=>
 aF o (
 R (.bool false) a) (
 vK (ak .i .add (ix b 0) aH) λp=>
 g [p] a)) (
 R (.bool true) a))
theorem On (H:DJ a0 a1 h R):ag prog uE #[a0,a1] h R:=fk f259 (.s .z (.s (.s .z (.s (.s .z .z) .z)) (.s (.s .z (.l 67100720 [13] (.s .z (.s (.s .z .z) (.s (.s .z (.s .z (.s (.s .z .z) .z))) .z))))) (.s .z .z)))) H
def yb (a0 a1:Value)(h:ah)(R:Value→ah→Prop):Prop:=
 vK (aR a0) λb=>
 vK (aB 2 b) λc=>
 vK (ldV h c) λd=>
 vK (JI (.int .i64) (.slice none 0 0) true h d a1) λa=>
 vK (aL a 0) λf=>
 vK (aL a 1) λe=>
 R e h
theorem IF (H:yb a0 a1 h R):ag prog mK #[a0,a1] h R:=fk f260 (.s .z (.s .z (.s .z .z))) H
def uT (a0:Value)(h:ah)(R:Value→ah→Prop):Prop:=
 vK (aR a0) λa=>
 vK (aB 2 a) λb=>
 vK (ldV h b) λc=>
 vK (Pq h c) λd=>
 vK (ak .i .eql d ai) λe=>
 aF e (
 R (.tuple #[ai,(.bool false)]) h) (
 vK (aR a0) λf=>
 vK (aB 2 f) λg=>
 vK (ldV h g) λj=>
 ag prog eM #[j] h λk l=>
 ag prog oR #[k] l λm n=>
 ag prog gU #[m] n λo p=>
 R (.tuple #[o,(.bool true)]) p)
theorem EH (H:uT a0 h R):ag prog oV #[a0] h R:=fk f261 (.s .z (.s (.s .z (.s (.s .z .z) .z)) (.s .z .z))) H
def ww (a0 a1:Value)(h:ah)(R:Value→ah→Prop):Prop:=
 bJ h λS=>
 vK (aR a0) λd=>
 vK (aB 3 d) λe=>
 qK S (λh=>ldV h e) λf=>
 vK (aR a0) λg=>
 vK (aB 2 g) λi=>
 qK S (λh=>ldV h i) λj=>
 qK S (λh=>JI (.int .i64) (.slice none 0 0) false h j a1) λk=>
 df #[(.slice none 0 0)] 28 1 [(0,1,k)] h λl a=>
 S a∧(di (.slice none 0 0) 28 1 24 f l a λm b=>
 S b∧(vK (aR a0) λn=>
 vK (aB 3 n) λo=>
 stK 1 o m b λt c=>
 vK (aR a0) λp=>
 vK (aB 2 p) λq=>
 vK (ldV c q) λr=>
 oA (.int .i64) r a1 c λu s=>
 R (.tuple #[]) s))
theorem Gx (H:ww a0 a1 h R):ag prog qE #[a0,a1] h R:=fk f262 (.s (.d (.op 0 .r (.op 1 .r (.op 2 .r (.op 3 .r (.op 4 .r (.op 5 .r (.op 6 .r (.op 7 .r (.op 8 .r (.op 9 .r (.op 10 .r (.op 11 .e (.op 12 .e (.op 13 .r (.op 14 .r (.op 15 .n .nil))))))))))))))))) .z) H
def uQ (a0:Value)(h:ah)(R:Value→ah→Prop):Prop:=
 vK (aR a0) λc=>
 vK (aB 3 c) λd=>
 vK (ldV h d) λe=>
 vK (aD e) λa=>
 vK (ak .i .gtr a ai) λf=>
 aF f (
 vK (aR a0) λg=>
 vK (aB 3 g) λj=>
 vK (ldV h j) λk=>
 vK (ak .i .sub a aH) λl=>
 vK (bu 1 k l) λm=>
 vK (ldV h m) λn=>
 vK (aR a0) λo=>
 vK (aB 3 o) λp=>
 vK (ldV h p) λq=>
 vK (ak .i .sub a aH) λr=>
 vK (xj 1 q none (some r)) λs=>
 vK (aR a0) λt=>
 vK (aB 3 t) λu=>
 stK 1 u s h λaa v=>
 R n v) (
 vK (aR a0) λw=>
 vK (aB 1 w) λx=>
 vK (ldV h x) λb=>
 mkK ai 2 1 8 b b h λy z=>
 R y z)
theorem EC (H:uQ a0 h R):ag prog oS #[a0] h R:=fk f263 (.s .z (.s (.s .z (.s .z (.s (.s .z (.s .z (.s .z .z))) .z))) (.s .z .z))) H
def FU (a0 a1 a2 a3:Value)(h:ah)(R:Value→ah→Prop):Prop:=
 vK (ak .i .geq a0 ai) λb=>
 vK (gV b true (some a0)) λj=>
 vK (gV b true (ak .i .leq j (af 2))) λk=>
 vK (aE b k (.bool false)) λc=>
 vK (gV c true (some a1)) λl=>
 vK (gV c true (ak .i .geq l aH)) λm=>
 vK (aE c m (.bool false)) λd=>
 vK (gV d true (some a1)) λn=>
 vK (gV d true (ak .i .leq n (af 65536))) λo=>
 vK (aE d o (.bool false)) λe=>
 vK (gV e true (some a2)) λp=>
 vK (gV e true (ak .i .geq p aH)) λq=>
 vK (aE e q (.bool false)) λf=>
 vK (gV f true (some a2)) λr=>
 vK (gV f true (ak .i .leq r (af 65536))) λs=>
 vK (aE f s (.bool false)) λg=>
 vK (gV g true (some a3)) λt=>
 vK (gV g true (ak .i .geq t ai)) λu=>
 vK (aE g u (.bool false)) λa=>
 vK (gV a true (some a3)) λv=>
 vK (gV a true (some a2)) λw=>
 vK (gV a true (ak .i .lss v w)) λx=>
 vK (aE a x (.bool false)) λy=>
 R y h
theorem QJ (H:FU a0 a1 a2 a3 h R):ag prog Cn #[a0,a1,a2,a3] h R:=fk f264 (.s .z (.s .z .z)) H
def Jt (a0 a1 a2 a3 a4:Value)(h:ah)(R:Value→ah→Prop):Prop:=
 vK (ak .i .eql a0 ai) λl=>
 aF l (
 vK (ak .i .add a4 aH) λm=>
 vK (ak .i .mul m a2) λn=>
 vK (ak .i .mul a3 a1) λo=>
 vK (ak .i .gtr n o) λa=>
 vK (gV a true (some a4)) λp=>
 vK (gV a true (some a2)) λq=>
 vK (gV a true (ak .i .mul p q)) λr=>
 vK (gV a true (some a3)) λs=>
 vK (gV a true (ak .i .add s aH)) λt=>
 vK (gV a true (some a1)) λu=>
 vK (gV a true (ak .i .mul t u)) λv=>
 vK (gV a true (ak .i .lss r v)) λw=>
 vK (aE a w (.bool false)) λx=>
 R x h) (
 ag prog lL #[a1,a2,a3,a4] h λe f=>
 vK (aL e 0) λd=>
 vK (aL e 1) λg=>
 vK (ak .i .mul (af 2) g) λj=>
 vK (ak .i .eql a0 (af 2)) λy=>
 aF y (
 vK (ak .i .mul (af 3) g) λk=>
 vK (ak .i .lss d k) λb=>
 vK (gV b true (some d)) λz=>
 vK (gV b true (some k)) λaa=>
 vK (gV b true (unV .neg aa)) λab=>
 vK (gV b true (ak .i .gtr z ab)) λac=>
 vK (aE b ac (.bool false)) λad=>
 R ad f) (
 vK (ak .i .lss d j) λc=>
 vK (gV c true (some d)) λae=>
 vK (gV c true (some j)) λaj=>
 vK (gV c true (unV .neg aj)) λal=>
 vK (gV c true (ak .i .gtr ae al)) λam=>
 vK (aE c am (.bool false)) λan=>
 R an f))
theorem Tg (H:Jt a0 a1 a2 a3 a4 h R):ag prog qH #[a0,a1,a2,a3,a4] h R:=fk f265 (.s .z (.s (.s .z (.s (.s .z .z) .z)) (.s .z (.s .z (.s (.s .z (.s .z .z)) (.s .z .z)))))) H
def Ai (a0 a1 a2 a3 a4:Value)(h:ah)(R:Value→ah→Prop):Prop:=
 vK (ak .i .eql a0 ai) λl=>
 aF l (
 vK (ak .i .mul a3 a1) λa=>
 eK (λb=>
 vK (ak .i .mul a4 a2) λm=>
 vK (ak .i .gtr m a) λn=>
 aF n (
 vK (ak .i .mul a4 a2) λo=>
 b [o] h) (
 b [a] h))
 λc al d=>
 vK (ak .i .add a3 aH) λp=>
 vK (ak .i .mul p a1) λe=>
 vK (ak .i .add a4 aH) λq=>
 vK (ak .i .mul q a2) λr=>
 vK (ak .i .lss r e) λs=>
 aF s (
 vK (ak .i .add a4 aH) λt=>
 vK (ak .i .mul t a2) λu=>
 vK (ak .i .sub u (ix c 0)) λv=>
 ag prog dj #[v,(af 1073741824),a1] d λw x=>
 R w x) (
 vK (ak .i .sub e (ix c 0)) λy=>
 ag prog dj #[y,(af 1073741824),a1] d λz aa=>
 R z aa)) (
 ag prog lL #[a1,a2,a3,a4] h λf g=>
 vK (aL f 0) λj=>
 vK (aL f 1) λk=>
 vK (ak .i .eql a0 aH) λab=>
 aF ab (
 ag prog zN #[j,k] g λac ad=>
 R ac ad) (
 ag prog sZ #[j,k] g λae aj=>
 R ae aj))
theorem Kl (H:Ai a0 a1 a2 a3 a4 h R):ag prog vO #[a0,a1,a2,a3,a4] h R:=fk f266 (.s .z (.s (.s .z (.s (.s .z (.j 267388928 [11] (.s .z (.s .z .z)) (.s .z (.s (.s .z (.s .z .z)) (.s .z .z))))) .z)) (.s .z (.s (.s .z (.s (.s .z .z) .z)) (.s .z .z))))) H
def DI (a0:Value)(h:ah)(R:Value→ah→Prop):Prop:=
 vK (ak .i .geq a0 ai) λa=>
 aF a (
 R a0 h) (
 vK (ak .i .lss a0 (af (-9223372036854775807))) λb=>
 aF b (
 R (af 9223372036854775807) h) (
 vK (unV .neg a0) λc=>
 R c h))
theorem Om (H:DI a0 h R):ag prog uD #[a0] h R:=fk f267 (.s .z (.s (.s .z (.s (.s .z .z) .z)) (.s (.s .z (.s (.s .z .z) .z)) (.s .z .z)))) H
def FS (a0:Value)(h:ah)(R:Value→ah→Prop):Prop:=
 vK (aD a0) λc=>
 aZ [ai,ai] h λa m b d=>
 vK (ak .i .lss (ix a 1) c) λe=>
 aF e (
 vK (bu 1 a0 (ix a 1)) λf=>
 vK (ldV b f) λg=>
 ag prog uC #[(ix a 0),g] b λj k=>
 vK (ak .i .add (ix a 1) aH) λl=>
 d [j,l] k) (
 R (ix a 0) b)
theorem QH (H:FS a0 h R):ag prog Cm #[a0] h R:=fk f268 (.s .z (.s .z (.s (.s .z (.l 65320 [3,8] (.s .z (.s (.s .z .z) (.s (.s .z .z) .z))))) (.s .z .z)))) H
def AX (a0 a1:Value)(h:ah)(R:Value→ah→Prop):Prop:=
 vK (ak .i .eql a1 ai) λg=>
 aF g (
 R ai h) (
 ag prog gh #[a0] h λj k=>
 vK ((aM #[(.int .u64 0),(.int .u64 0)] [(0,1,(.int .u64 0)),(1,1,j)]).map .agg) λl=>
 ag prog gh #[a1] k λm n=>
 ag prog uF #[l,m] n λe o=>
 vK (aL e 0) λp=>
 vK (aL e 1) λq=>
 aW #[(.int .u64 0),(.int .u64 0)] 351 o λa r=>
 stK 2 a p r λal d=>
 vK (ak .i .lss a0 ai) λs=>
 vK (ak .i .lss a1 ai) λt=>
 vK (ak .b .neq s t) λc=>
 vK (gV c true (some q)) λu=>
 vK (gV c true (ak .i .gtr u (.int .u64 0))) λv=>
 vK (aE c v (.bool false)) λw=>
 aF w (
 vK (aO 2 d a) λx=>
 vK ((aM #[(.int .u64 0),(.int .u64 0)] [(0,1,(.int .u64 0)),(1,1,(.int .u64 1))]).map .agg) λy=>
 ag prog iO #[x,y] d λz aa=>
 stK 2 a z aa λam f=>
 vK (aO 2 f a) λab=>
 ag prog dK #[ab,c] f λac ad=>
 R ac ad) (
 vK (aO 2 d a) λae=>
 ag prog dK #[ae,c] d λaf aj=>
 R af aj))
theorem L8 (H:AX a0 a1 h R):ag prog qX #[a0,a1] h R:=fk f269 (.s .z (.s (.s .z (.s (.s .z .z) .z)) (.s .z (.s .z (.s (.s .z (.s .z .z)) (.s .z .z)))))) H
def AV (a0 a1:Value)(h:ah)(R:Value→ah→Prop):Prop:=
 vK (ak .i .lss a1 aH) λw=>
 aF w (
 R a0 h) (
 vK (ak .i .gtr a1 (af 64)) λx=>
 aF x (
 R ai h) (
 vK ((aM #[(.int .u64 0),(.int .u64 0)] [(0,1,(.int .u64 0)),(1,1,(.int .u64 1))]).map .agg) λy=>
 aW #[(.int .u64 0),(.int .u64 0)] 351 h λc z=>
 stK 2 c y z λck aa=>
 vK (ak .i .sub a1 aH) λab=>
 aZ [ai] aa λp cl n ac=>
 vK (ak .i .lss (ix p 0) ab) λad=>
 aF ad (
 vK (aO 2 n c) λae=>
 ag prog fi #[ae,(.int .u64 0)] n λaj al=>
 stK 2 c aj al λcm am=>
 vK (ak .i .add (ix p 0) aH) λan=>
 ac [an] am) (
 ag prog gh #[a0] n λao ap=>
 vK ((aM #[(.int .u64 0),(.int .u64 0)] [(0,1,(.int .u64 0)),(1,1,ao)]).map .agg) λaq=>
 aW #[(.int .u64 0),(.int .u64 0)] 351 ap λj ar=>
 stK 2 j aq ar λcn au=>
 vK ((aM #[(.int .u64 0),(.int .u64 0)] []).map .agg) λav=>
 aW #[(.int .u64 0),(.int .u64 0)] 351 au λb aw=>
 stK 2 b av aw λco ax=>
 aZ [(af 127)] ax λo cp a ay=>
 vK (ak .i .geq (ix o 0) a1) λaz=>
 aF az (
 bJ a λS=>
 qK S (λa=>aO 2 a b) λa2=>
 qK S (λa=>aO 2 a j) λa3=>
 ag prog iP #[a3,(ix o 0)] a λa4 q=>
 S q∧(ag prog fi #[a2,a4] q λa5 a6=>
 stK 2 b a5 a6 λcq a7=>
 vK (ak .i .sub (ix o 0) aH) λa8=>
 ay [a8] a7)) (
 vK (aO 2 a j) λa9=>
 aW #[(.int .u64 0),(.int .u64 0)] 351 a λd ba=>
 stK 2 d a9 ba λcr bb=>
 aZ [a1] bb λe cs f r=>
 vK (ak .i .lss (ix e 0) (af 128)) λbc=>
 aF bc (
 vK (aO 2 f j) λbd=>
 ag prog iP #[bd,(ix e 0)] f λbe s=>
 vK (ak .i .eql be (.int .u64 1)) λbf=>
 aF bf (
 vK ((aM #[(.int .u64 0),(.int .u64 0)] [(0,1,(.int .u64 0)),(1,1,(.int .u64 1))]).map .agg) λbg=>
 aW #[(.int .u64 0),(.int .u64 0)] 351 s λk bh=>
 stK 2 k bg bh λct bi=>
 aZ [ai] bi λt cu g bj=>
 vK (ak .i .lss (ix t 0) (ix e 0)) λbk=>
 aF bk (
 vK (aO 2 g k) λbl=>
 ag prog fi #[bl,(.int .u64 0)] g λbm bn=>
 stK 2 k bm bn λcv bo=>
 vK (ak .i .add (ix t 0) aH) λbp=>
 bj [bp] bo) (
 vK (aO 2 g d) λbq=>
 vK (aO 2 g k) λbr=>
 ag prog qW #[bq,br] g λbs bt=>
 stK 2 d bs bt λcw bu=>
 vK (ak .i .add (ix e 0) aH) λbv=>
 r [bv] bu)) (
 vK (ak .i .add (ix e 0) aH) λbw=>
 r [bw] s)) (
 vK (aO 2 f d) λbx=>
 vK (aO 2 f c) λbz=>
 ag prog jY #[bx,bz] f λb0 l=>
 vK (unV .not b0) λb1=>
 eK (λu=>
 vK (ak .i .lss a0 ai) λb2=>
 aF b2 (
 vK (aO 2 l c) λb3=>
 vK (aO 2 l d) λb4=>
 ag prog jY #[b3,b4] l λb5 b6=>
 u [b5] b6) (
 u [b1] l))
 λb7 cx m=>
 aF (ix b7 0) (
 vK (aO 2 m b) λb8=>
 vK ((aM #[(.int .u64 0),(.int .u64 0)] [(0,1,(.int .u64 0)),(1,1,(.int .u64 1))]).map .agg) λb9=>
 ag prog iO #[b8,b9] m λca cb=>
 stK 2 b ca cb λcy v=>
 vK (aO 2 v b) λcc=>
 vK (ak .i .lss a0 ai) λcd=>
 ag prog dK #[cc,cd] v λce cf=>
 R ce cf) (
 vK (aO 2 m b) λcg=>
 vK (ak .i .lss a0 ai) λch=>
 ag prog dK #[cg,ch] m λci cj=>
 R ci cj))))))
theorem L6 (H:AV a0 a1 h R):ag prog mx #[a0,a1] h R:=fk f270 (.s .z (.s (.s .z (.s (.s .z .z) .z)) (.s (.s .z (.s (.s .z .z) .z)) (.s .z (.s (.s .z (.l 65011712 [21] (.s .z (.s (.s .z .z) (.s .z .z))))) (.s .z (.s .z (.s (.s .z (.l 1098437886208 [8] (.s (.s .z (.s .z .z)) (.s (.d (.op 0 .r (.op 1 .r (.op 2 .r (.op 3 .e (.op 4 .n (.op 5 .n .nil))))))) .z)))) (.s .z (.s (.s .z (.l 1152917106560338944 [10] (.s (.s .z (.s .z .z)) (.s (.s .z (.s (.s .z (.s (.s .z (.l 139611588448485376 [52] (.s .z (.s (.s .z .z) (.s .z .z))))) .z)) .z)) .z)))) (.s .z (.j 571849066284996104192 [12] (.s .z (.s .z .z)) (.s (.s .z (.s .z .z)) (.s .z .z)))))))))))))) H
def FW (a0:Value)(h:ah)(R:Value→ah→Prop):Prop:=
 eK (λc=>
 vK (ak .i .lss a0 ai) λk=>
 aF k (
 c [ai] h) (
 c [a0] h))
 λd aa l=>
 ag prog qX #[(ix d 0),(af 762123384786)] l λe m=>
 vK (ak .i .mul e (af 762123384786)) λn=>
 vK (ak .i .sub (ix d 0) n) λo=>
 aZ [(af 1099511627776),ai,(af 1099511627776),aH] m λa ab f g=>
 vK (ak .i .leq (ix a 3) (af 16)) λp=>
 aF p (
 vK (ak .i .mul (ix a 3) (af 1099511627776)) λq=>
 ag prog dj #[(ix a 2),o,q] f λb j=>
 vK (ak .i .rem (ix a 3) (af 2)) λr=>
 vK (ak .i .eql r aH) λs=>
 aF s (
 vK (ak .i .add (ix a 1) b) λt=>
 vK (ak .i .add (ix a 3) aH) λu=>
 g [(ix a 0),t,b,u] j) (
 vK (ak .i .add (ix a 0) b) λv=>
 vK (ak .i .add (ix a 3) aH) λw=>
 g [v,(ix a 1),b,w] j)) (
 vK (ak .i .sub (ix a 0) (ix a 1)) λx=>
 ag prog mx #[x,e] f λy z=>
 R y z)
theorem QL (H:FW a0 h R):ag prog Cq #[a0] h R:=fk f271 (.s .z (.j 1537 [0] (.s .z (.s .z .z)) (.s .z (.s .z (.s .z (.s .z (.s .z (.s (.s .z (.l 34359607776 [5,6,7,8] (.s (.s .z (.s .z .z)) (.s (.s .z (.s .z (.s .z .z))) .z)))) (.s .z .z))))))))) H
def AR (a0 a1:Value)(h:ah)(R:Value→ah→Prop):Prop:=
 vK (ak .i .lss a1 aH) λa=>
 vK (gV a false (some a1)) λd=>
 vK (gV a false (ak .i .gtr d (af 4194304))) λe=>
 vK (aE a (.bool true) e) λb=>
 vK (gV b false (some a0)) λf=>
 vK (gV b false (ak .i .lss f (af (-16384)))) λg=>
 vK (aE b (.bool true) g) λc=>
 vK (gV c false (some a0)) λj=>
 vK (gV c false (ak .i .gtr j (af 16384))) λk=>
 vK (aE c (.bool true) k) λl=>
 aF l (
 R (af 9223372036854775807) h) (
 vK (ak .i .mul a0 a0) λm=>
 vK (ak .i .mul m (af 2147483648)) λn=>
 vK (ak .i .mul a1 a1) λo=>
 ag prog dj #[n,(af 1099511627776),o] h λp q=>
 R p q)
theorem L2 (H:AR a0 a1 h R):ag prog xF #[a0,a1] h R:=fk f272 (.s .z (.s (.s .z (.s (.s .z .z) .z)) (.s .z .z))) H
def DG (a0 a1:Value)(h:ah)(R:Value→ah→Prop):Prop:=
 vK (ak .i .gtr a1 ai) λa=>
 vK (gV a true (some a0)) λc=>
 vK (gV a true (some a1)) λd=>
 vK (gV a true (ak .i .sub (af 9223372036854775807) d)) λe=>
 vK (gV a true (ak .i .gtr c e)) λf=>
 vK (aE a f (.bool false)) λg=>
 aF g (
 R (af 9223372036854775807) h) (
 vK (ak .i .lss a1 ai) λb=>
 vK (gV b true (some a0)) λj=>
 vK (gV b true (some a1)) λk=>
 vK (gV b true (ak .i .sub (af (-9223372036854775808)) k)) λl=>
 vK (gV b true (ak .i .lss j l)) λm=>
 vK (aE b m (.bool false)) λn=>
 aF n (
 R (af (-9223372036854775808)) h) (
 vK (ak .i .add a0 a1) λo=>
 R o h))
theorem Oj (H:DG a0 a1 h R):ag prog uC #[a0,a1] h R:=fk f273 (.s .z (.s (.s .z (.s (.s .z .z) .z)) (.s (.s .z (.s (.s .z .z) .z)) (.s .z .z)))) H
def AU (a0 a1:Value)(h:ah)(R:Value→ah→Prop):Prop:=
 aW #[(.int .u64 0),(.int .u64 0)] 351 h λe j=>
 vK ((aM #[(.int .u64 0),(.int .u64 0)] []).map .agg) λk=>
 aW #[(.int .u64 0),(.int .u64 0)] 351 j λa l=>
 stK 2 a k l λad m=>
 aZ [(af 63)] m λb ae c f=>
 vK (ak .i .geq (ix b 0) ai) λn=>
 aF n (
 vK (aO 2 c a) λo=>
 ag prog fi #[o,(.int .u64 0)] c λp q=>
 stK 2 a p q λaj d=>
 vK (ak .i .shr a1 (ix b 0)) λr=>
 vK (ak .i .and r (.int .u64 1)) λs=>
 vK (ak .i .eql s (.int .u64 1)) λt=>
 aF t (
 vK (aO 2 d a) λu=>
 vK ((aM #[(.int .u64 0),(.int .u64 0)] [(0,1,(.int .u64 0)),(1,1,a0)]).map .agg) λv=>
 ag prog iO #[u,v] d λw x=>
 stK 2 a w x λal y=>
 vK (ak .i .sub (ix b 0) aH) λz=>
 f [z] y) (
 vK (ak .i .sub (ix b 0) aH) λaa=>
 f [aa] d)) (
 vK (aO 2 c a) λab=>
 stK 2 e ab c λam g=>
 vK (aO 2 g e) λac=>
 R ac g)
theorem L5 (H:AU a0 a1 h R):ag prog qV #[a0,a1] h R:=fk f274 (.s .z (.s .z (.s (.s .z (.l 8388416 [6] (.s (.s .z (.s .z .z)) (.s (.s .z (.s .z (.s .z .z))) .z)))) (.s .z .z)))) H
def DM (a0:Value)(h:ah)(R:Value→ah→Prop):Prop:=
 vK (ak .i .lss a0 ai) λa=>
 aF a (
 vK (ak .i .add a0 aH) λb=>
 vK (unV .neg b) λc=>
 vK (gd .u64 c) λd=>
 vK (ak .i .add d (.int .u64 1)) λe=>
 R e h) (
 vK (gd .u64 a0) λf=>
 R f h)
theorem Ot (H:DM a0 h R):ag prog gh #[a0] h R:=fk f275 (.s .z (.s (.s .z (.s (.s .z .z) .z)) (.s .z .z))) H
def yd (a0 a1 a2:Value)(h:ah)(R:Value→ah→Prop):Prop:=
 aW (Value.cells a0) 351 h λk e=>
 vK (aO 2 e k) λl=>
 ag prog uF #[l,a1] e λf m=>
 vK (aL f 0) λn=>
 vK (aL f 1) λo=>
 aW #[(.int .u64 0),(.int .u64 0)] 351 m λa p=>
 stK 2 a n p λaq q=>
 vK ((aM #[(.int .u64 0),(.int .u64 0)] [(0,1,(.int .u64 0)),(1,1,o)]).map .agg) λr=>
 ag prog fi #[r,(.int .u64 0)] q λs t=>
 aW #[(.int .u64 0),(.int .u64 0)] 351 t λc u=>
 stK 2 c s u λar g=>
 vK (aO 2 g c) λv=>
 vK ((aM #[(.int .u64 0),(.int .u64 0)] [(0,1,(.int .u64 0)),(1,1,a1)]).map .agg) λw=>
 ag prog jY #[v,w] g λx d=>
 vK (unV .not x) λy=>
 eK (λi=>
 aF a2 (
 vK ((aM #[(.int .u64 0),(.int .u64 0)] [(0,1,(.int .u64 0)),(1,1,a1)]).map .agg) λz=>
 vK (aO 2 d c) λaa=>
 ag prog jY #[z,aa] d λab ac=>
 i [ab] ac) (
 i [y] d))
 λad au b=>
 aF (ix ad 0) (
 vK (aO 2 b a) λae=>
 vK ((aM #[(.int .u64 0),(.int .u64 0)] [(0,1,(.int .u64 0)),(1,1,(.int .u64 1))]).map .agg) λaf=>
 ag prog iO #[ae,af] b λai aj=>
 stK 2 a ai aj λav j=>
 vK (aO 2 j a) λak=>
 ag prog dK #[ak,a2] j λal am=>
 R al am) (
 vK (aO 2 b a) λan=>
 ag prog dK #[an,a2] b λao ap=>
 R ao ap)
theorem IH (H:yd a0 a1 a2 h R):ag prog te #[a0,a1,a2] h R:=fk f276 (.s .z (.s .z (.s .z (.s .z (.j 1040188416 [10] (.s .z (.s .z .z)) (.s (.s .z (.s .z .z)) (.s .z .z))))))) H
def Jq (a0 a1:Value)(h:ah)(R:Value→ah→Prop):Prop:=
 vK (ak .i .geq a1 aH) λc=>
 vK (gV c true (some a1)) λd=>
 vK (gV c true (ak .i .leq d (af 1048576))) λe=>
 vK (aE c e (.bool false)) λa=>
 vK (gV a true (some a0)) λf=>
 vK (gV a true (some a1)) λg=>
 vK (gV a true (ak .i .mul (af (-4)) g)) λj=>
 vK (gV a true (ak .i .geq f j)) λk=>
 vK (aE a k (.bool false)) λb=>
 vK (gV b true (some a0)) λl=>
 vK (gV b true (some a1)) λm=>
 vK (gV b true (ak .i .mul (af 4) m)) λn=>
 vK (gV b true (ak .i .leq l n)) λo=>
 vK (aE b o (.bool false)) λp=>
 R p h
theorem Td (H:Jq a0 a1 h R):ag prog Fv #[a0,a1] h R:=fk f278 (.s .z (.s .z .z)) H
def FM (a0:Value)(h:ah)(R:Value→ah→Prop):Prop:=
 vK (unV .neg a0) λa=>
 vK (jS a0 a) λb=>
 R b h
theorem QA (H:FM a0 h R):ag prog xc #[a0] h R:=fk f279 (.s .z (.s .z .z)) H
def xV (a0 a1 a2:Value)(h:ah)(R:Value→ah→Prop):Prop:=
 vK (jS ai a2) λb=>
 vK (ak .i .geq b (af 128)) λr=>
 aF r (
 R ai h) (
 ag prog oO #[a0,a1] h λg j=>
 vK (aL g 0) λc=>
 vK (aL g 1) λd=>
 vK (aL g 2) λe=>
 vK (ak .i .eql b ai) λs=>
 aF s (
 ag prog eF #[c,d,e] j λt u=>
 R t u) (
 ag prog uz #[c,d,b] j λk v=>
 vK (aL k 0) λl=>
 vK (aL k 1) λm=>
 vK (ak .i .sub b aH) λw=>
 ag prog uz #[c,d,w] v λn o=>
 vK (aL n 0) λax=>
 vK (aL n 1) λx=>
 vK (ak .i .and x (.int .u64 1)) λy=>
 vK (ak .i .eql y (.int .u64 0)) λf=>
 vK (gV f false (some e)) λz=>
 vK (gV f false (some z)) λa=>
 vK (gV a true (some c)) λaa=>
 vK (gV a true (some d)) λab=>
 vK (gV a true (some b)) λac=>
 vK (gV a true (ak .i .sub ac aH)) λad=>
 gK a true (λae=>ag prog zF #[aa,ab,ad] o ae) o λaj p=>
 vK (gV f false (aE a aj (.bool false))) λal=>
 vK (aE f (.bool true) al) λam=>
 aF am (
 ag prog eF #[l,m,e] p λan ao=>
 R an ao) (
 ag prog gA #[m,(.int .u64 1),(.int .u64 0)] p λq ap=>
 vK (aL q 0) λaq=>
 vK (aL q 1) λar=>
 vK (ak .i .add l ar) λau=>
 ag prog eF #[au,aq,e] ap λav aw=>
 R av aw)))
theorem IA (H:xV a0 a1 a2 h R):ag prog sW #[a0,a1,a2] h R:=fk f280 (.s .z (.s .z (.s (.s .z (.s (.s .z .z) .z)) (.s .z (.s (.s .z (.s (.s .z .z) .z)) (.s .z (.s .z (.s (.s .z (.s (.s .z .z) .z)) (.s .z (.s .z .z)))))))))) H
def AN (a0 a1:Value)(h:ah)(R:Value→ah→Prop):Prop:=
 ag prog xc #[a0] h λb f=>
 ag prog eG #[(af 10851744800547),b,a1] f λg j=>
 ag prog eG #[g,b,a1] j λk l=>
 aZ [(af 1099511627776),(af 1099511627776),aH,aH] l λa x c m=>
 vK (ak .i .leq (ix a 3) (af 30)) λn=>
 aF n (
 vK (unV .neg (ix a 2)) λd=>
 vK (ak .i .mul (af 2) (ix a 3)) λo=>
 vK (ak .i .mul (af 2) (ix a 3)) λp=>
 vK (ak .i .add p aH) λq=>
 vK (ak .i .mul o q) λr=>
 vK (ak .i .shl r (.int .u64 40)) λs=>
 ag prog eG #[(ix a 1),k,s] c λe t=>
 vK (ak .i .mul d e) λu=>
 vK (ak .i .add (ix a 0) u) λv=>
 vK (ak .i .add (ix a 3) aH) λw=>
 m [v,e,d,w] t) (
 R (ix a 0) c)
theorem LW (H:AN a0 a1 h R):ag prog qT #[a0,a1] h R:=fk f281 (.s .z (.s .z (.s .z (.s .z (.s (.s .z (.l 549755552704 [6,7,8,9] (.s (.s .z (.s .z .z)) (.s (.s .z (.s .z .z)) .z)))) (.s .z .z)))))) H
def hG (a0 a1:Value)(h:ah)(R:Value→ah→Prop):Prop:=
 vK (aD a0) λd=>
 aZ [ai] h λa m b e=>
 vK (ak .i .lss (ix a 0) d) λf=>
 aF f (
 vK (bu 1 a0 (ix a 0)) λg=>
 vK (ldV b g) λj=>
 clK prog a1 #[j] b λk c=>
 aF k (
 R (ix a 0) c) (
 vK (ak .i .add (ix a 0) aH) λl=>
 e [l] c)) (
 R (af (-1)) b)
theorem mS (H:hG a0 a1 h R):ag prog iC #[a0,a1] h R:=fk f282 (.s .z (.s (.s .z (.l 524080 [8] (.s .z (.s (.s .z .z) (.s (.s .z (.s .z (.s (.s .z .z) .z))) .z))))) (.s .z .z))) H
def Ge (a0 a1:Value)(h:ah)(R:Value→ah→Prop):Prop:=
 ag prog iV #[a0] h λd e=>
 ag prog iV #[a1] e λf g=>
 ag prog kO #[d,f] g λa c=>
 vK (aL a 0) λj=>
 vK (aL a 1) λk=>
 vK (ak .i .neq j (.int .u64 0)) λl=>
 aF l (
 vK (ak .i .lss a0 ai) λm=>
 vK (ak .i .lss a1 ai) λn=>
 vK (ak .b .neq m n) λo=>
 ag prog lN #[(.int .u64 18446744073709551615),o] c λp q=>
 R p q) (
 vK (ak .i .lss a0 ai) λr=>
 vK (ak .i .lss a1 ai) λs=>
 vK (ak .b .neq r s) λt=>
 ag prog lN #[k,t] c λu v=>
 R u v)
theorem QV (H:Ge a0 a1 h R):ag prog Cu #[a0,a1] h R:=fk f283 (.s .z (.s .z (.s (.s .z (.s .z .z)) (.s .z .z)))) H
def gZ (a0 a1 a2 a3:Value)(h:ah)(R:Value→ah→Prop):Prop:=
 vK (ak .i .add a1 aH) λg=>
 aZ [g] h λe ap f j=>
 vK (ak .i .lss (ix e 0) a2) λk=>
 aF k (
 aZ [(ix e 0)] f λb aq c l=>
 bJ c λS=>
 vK (ak .i .gtr (ix b 0) a1) λa=>
 vK (gV a true (some a3)) λm=>
 vK (gV a true (some a0)) λn=>
 vK (gV a true (some (ix b 0))) λo=>
 vK (gV a true (bu 1 n o)) λp=>
 qK S (λc=>gV a true (ldV c p)) λq=>
 vK (gV a true (some a0)) λr=>
 vK (gV a true (some (ix b 0))) λs=>
 vK (gV a true (ak .i .sub s aH)) λt=>
 vK (gV a true (bu 1 r t)) λu=>
 qK S (λc=>gV a true (ldV c u)) λv=>
 gK a true (λw=>clK prog m #[q,v] c w) c λx d=>
 vK (gV a true (ak .i .lss x ai)) λy=>
 vK (aE a y (.bool false)) λz=>
 aF z (
 bJ d λS=>
 vK (ak .i .sub (ix b 0) aH) λaa=>
 vK (ak .i .sub (ix b 0) aH) λab=>
 vK (bu 1 a0 ab) λac=>
 qK S (λd=>ldV d ac) λad=>
 vK (bu 1 a0 (ix b 0)) λae=>
 qK S (λd=>ldV d ae) λaf=>
 vK (bu 1 a0 (ix b 0)) λag=>
 stK 1 ag ad d λar aj=>
 vK (bu 1 a0 aa) λal=>
 stK 1 al af aj λau am=>
 vK (ak .i .sub (ix b 0) aH) λan=>
 l [an] am) (
 vK (ak .i .add (ix e 0) aH) λao=>
 j [ao] d)) (
 R (.tuple #[]) f)
theorem mR (H:gZ a0 a1 a2 a3 h R):ag prog dm #[a0,a1,a2,a3] h R:=fk f284 (.s .z (.l 9007199254737664 [8] (.s (.s .z (.s .z .z)) (.s (.s .z (.l 9007199254479360 [9] (.s (.s (.d (.op 0 .r (.op 1 .r (.op 2 .r (.op 3 .r (.op 4 .r (.op 5 .r (.op 6 .r (.op 7 .r (.op 8 .r (.op 9 .r (.op 10 .r (.op 11 .r (.op 12 .r (.op 13 .r (.op 14 .n (.op 15 .r (.op 16 .r .nil)))))))))))))))))) (.s .z .z)) (.s (.d (.op 0 .r (.op 1 .r (.op 2 .r (.op 3 .r (.op 4 .r (.op 5 .r (.op 6 .r (.op 7 .r (.op 8 .r (.op 9 .r (.op 10 .r (.op 11 .r (.op 12 .r (.op 13 .r (.op 14 .r (.op 15 .n (.op 16 .r (.op 17 .n .nil))))))))))))))))))) .z)))) .z)))) H
def jH (a0 a1 a2 a3 a4:Value)(h:ah)(R:Value→ah→Prop):Prop:=
 vK (ak .i .sub a2 a1) λal=>
 vK (ak .i .eql al aH) λam=>
 aF am (
 aZ [a2,a3] h λe df f x=>
 vK (ak .i .lss (ix e 0) (ix e 1)) λan=>
 aF an (
 vK (ak .i .add (ix e 0) (ix e 1)) λao=>
 vK (gd .u64 ao) λap=>
 vK (ak .i .shr ap (.int .u64 1)) λaq=>
 vK (gd .i64 aq) λt=>
 bJ f λS=>
 vK (bu 1 a0 t) λar=>
 qK S (λf=>ldV f ar) λau=>
 vK (bu 1 a0 a1) λav=>
 qK S (λf=>ldV f av) λaw=>
 clK prog a4 #[au,aw] f λax y=>
 vK (ak .i .lss ax ai) λay=>
 aF ay (
 vK (ak .i .add t aH) λaz=>
 x [az,(ix e 1)] y) (
 x [(ix e 0),t] y)) (
 aZ [a1] f λm dg g a5=>
 vK (ak .i .sub (ix e 0) aH) λa6=>
 vK (ak .i .lss (ix m 0) a6) λa7=>
 aF a7 (
 bJ g λS=>
 vK (ak .i .add (ix m 0) aH) λa8=>
 vK (ak .i .add (ix m 0) aH) λa9=>
 vK (bu 1 a0 a9) λba=>
 qK S (λg=>ldV g ba) λbb=>
 vK (bu 1 a0 (ix m 0)) λbc=>
 qK S (λg=>ldV g bc) λbd=>
 vK (bu 1 a0 (ix m 0)) λbe=>
 stK 1 be bb g λdh bf=>
 vK (bu 1 a0 a8) λbg=>
 stK 1 bg bd bf λdi bh=>
 vK (ak .i .add (ix m 0) aH) λbi=>
 a5 [bi] bh) (
 R (.tuple #[]) g))) (
 vK (ak .i .sub a3 a2) λbj=>
 vK (ak .i .eql bj aH) λbk=>
 aF bk (
 aZ [a1,a2] h λj dj k z=>
 vK (ak .i .lss (ix j 0) (ix j 1)) λbl=>
 aF bl (
 vK (ak .i .add (ix j 0) (ix j 1)) λbm=>
 vK (gd .u64 bm) λbn=>
 vK (ak .i .shr bn (.int .u64 1)) λbo=>
 vK (gd .i64 bo) λu=>
 bJ k λS=>
 vK (bu 1 a0 a2) λbp=>
 qK S (λk=>ldV k bp) λbq=>
 vK (bu 1 a0 u) λbr=>
 qK S (λk=>ldV k br) λbs=>
 clK prog a4 #[bq,bs] k λbt aa=>
 vK (ak .i .lss bt ai) λbv=>
 vK (unV .not bv) λbw=>
 aF bw (
 vK (ak .i .add u aH) λbx=>
 z [bx,(ix j 1)] aa) (
 z [(ix j 0),u] aa)) (
 aZ [a2] k λn dk l bz=>
 vK (ak .i .gtr (ix n 0) (ix j 0)) λb0=>
 aF b0 (
 bJ l λS=>
 vK (ak .i .sub (ix n 0) aH) λb1=>
 vK (ak .i .sub (ix n 0) aH) λb2=>
 vK (bu 1 a0 b2) λb3=>
 qK S (λl=>ldV l b3) λb4=>
 vK (bu 1 a0 (ix n 0)) λb5=>
 qK S (λl=>ldV l b5) λb6=>
 vK (bu 1 a0 (ix n 0)) λb7=>
 stK 1 b7 b4 l λdl b8=>
 vK (bu 1 a0 b1) λb9=>
 stK 1 b9 b6 b8 λdm ca=>
 vK (ak .i .sub (ix n 0) aH) λcb=>
 bz [cb] ca) (
 R (.tuple #[]) l))) (
 vK (ak .i .add a1 a3) λcc=>
 vK (gd .u64 cc) λcd=>
 vK (ak .i .shr cd (.int .u64 1)) λce=>
 vK (gd .i64 ce) λb=>
 vK (ak .i .add b a2) λv=>
 eK (λab=>
 vK (ak .i .gtr a2 b) λcf=>
 aF cf (
 vK (ak .i .sub v a3) λcg=>
 ab [cg,b] h) (
 ab [a1,a2] h))
 λac dn ch=>
 vK (ak .i .sub v aH) λci=>
 aZ [(ix ac 0),(ix ac 1)] ch λa dp c ad=>
 vK (ak .i .lss (ix a 0) (ix a 1)) λcj=>
 aF cj (
 vK (ak .i .add (ix a 0) (ix a 1)) λck=>
 vK (gd .u64 ck) λcl=>
 vK (ak .i .shr cl (.int .u64 1)) λcm=>
 vK (gd .i64 cm) λo=>
 bJ c λS=>
 vK (ak .i .sub ci o) λcn=>
 vK (bu 1 a0 cn) λco=>
 qK S (λc=>ldV c co) λcp=>
 vK (bu 1 a0 o) λcq=>
 qK S (λc=>ldV c cq) λcr=>
 clK prog a4 #[cp,cr] c λcs ae=>
 vK (ak .i .lss cs ai) λct=>
 vK (unV .not ct) λcu=>
 aF cu (
 vK (ak .i .add o aH) λcv=>
 ad [cv,(ix a 1)] ae) (
 ad [(ix a 0),o] ae)) (
 vK (ak .i .sub v (ix a 0)) λd=>
 eK (λaf=>
 vK (ak .i .lss (ix a 0) a2) λp=>
 vK (gV p true (some a2)) λcw=>
 vK (gV p true (some d)) λcx=>
 vK (gV p true (ak .i .lss cw cx)) λcy=>
 vK (aE p cy (.bool false)) λcz=>
 aF cz (
 ag prog iq #[a0,(ix a 0),a2,d,a4] c λdq c0=>
 af [] c0) (
 af [] c))
 λdr ds w=>
 vK (ak .i .lss a1 (ix a 0)) λq=>
 vK (gV q true (some (ix a 0))) λc1=>
 vK (gV q true (some b)) λc2=>
 vK (gV q true (ak .i .lss c1 c2)) λc3=>
 vK (aE q c3 (.bool false)) λc4=>
 aF c4 (
 ag prog bS #[a0,a1,(ix a 0),b,a4] w λdt aj=>
 vK (ak .i .lss b d) λr=>
 vK (gV r true (some d)) λc5=>
 vK (gV r true (some a3)) λc6=>
 vK (gV r true (ak .i .lss c5 c6)) λc7=>
 vK (aE r c7 (.bool false)) λc8=>
 aF c8 (
 ag prog bS #[a0,b,d,a3,a4] aj λdu c9=>
 R (.tuple #[]) c9) (
 R (.tuple #[]) aj)) (
 vK (ak .i .lss b d) λs=>
 vK (gV s true (some d)) λda=>
 vK (gV s true (some a3)) λdb=>
 vK (gV s true (ak .i .lss da db)) λdc=>
 vK (aE s dc (.bool false)) λdd=>
 aF dd (
 ag prog bS #[a0,b,d,a3,a4] w λdv de=>
 R (.tuple #[]) de) (
 R (.tuple #[]) w)))))
theorem rM (H:jH a0 a1 a2 a3 a4 h R):ag prog bS #[a0,a1,a2,a3,a4] h R:=fk f285 (.s (.s .z (.s (.s .z (.s .z (.s (.l 18014396362005504 [10,11] (.s (.s .z (.s .z .z)) (.s .z (.s (.d (.op 0 .r (.op 1 .r (.op 2 .r (.op 3 .r (.op 4 .r (.op 5 .r (.op 6 .r (.op 7 .r (.op 8 .r (.op 9 .n (.op 10 .r .nil)))))))))))) (.s .z .z))))) (.s (.s .z (.l 151115691423031627882496 [13] (.s (.s .z (.s .z .z)) (.s (.d (.op 0 .r (.op 1 .r (.op 2 .r (.op 3 .r (.op 4 .r (.op 5 .r (.op 6 .r (.op 7 .r (.op 8 .r (.op 9 .r (.op 10 .r (.op 11 .r (.op 12 .r (.op 13 .r (.op 14 .r (.op 15 .n (.op 16 .r (.op 17 .n .nil))))))))))))))))))) .z)))) .z)))) .z)) (.s (.s .z (.s (.s .z (.s .z (.s (.l 162259267157806806474544612753408 [14,15] (.s (.s .z (.s .z .z)) (.s .z (.s (.d (.op 0 .r (.op 1 .r (.op 2 .r (.op 3 .r (.op 4 .r (.op 5 .r (.op 6 .r (.op 7 .r (.op 8 .r (.op 9 .n (.op 10 .r (.op 11 .r .nil))))))))))))) (.s .z .z))))) (.s (.s .z (.l 680564409323323268500022431707515977728 [17] (.s (.s .z (.s .z .z)) (.s (.d (.op 0 .r (.op 1 .r (.op 2 .r (.op 3 .r (.op 4 .r (.op 5 .r (.op 6 .r (.op 7 .r (.op 8 .r (.op 9 .r (.op 10 .r (.op 11 .r (.op 12 .r (.op 13 .r (.op 14 .r (.op 15 .n (.op 16 .r (.op 17 .n .nil))))))))))))))))))) .z)))) .z)))) .z)) (.s .z (.s .z (.s .z (.j 178057512444517944145699250583176761402458112 [20,21] (.s .z (.s (.s .z .z) (.s .z .z))) (.s .z (.s (.l 47890484938435180470718404069304177263338029388398592 [20,21] (.s (.s .z (.s .z .z)) (.s .z (.s (.d (.op 0 .r (.op 1 .r (.op 2 .r (.op 3 .r (.op 4 .r (.op 5 .r (.op 6 .r (.op 7 .r (.op 8 .r (.op 9 .r (.op 10 .r (.op 11 .n (.op 12 .r (.op 13 .r .nil))))))))))))))) (.s .z .z))))) (.s .z (.j 6276718611501464291621199836450878838806450759683488612352 [] (.s .z (.s .z .z)) (.s (.s .z (.s .z .z)) (.s .z (.s .z .z))))))))))))) H
def kC (a0:Value)(h:ah)(R:Value→ah→Prop):Prop:=
 ag prog xf #[a0] h λa b=>
 vK (ak .i .sub (af 64) a) λc=>
 R c b
theorem tW (H:kC a0 h R):ag prog ir #[a0] h R:=fk f288 (.s .z (.s .z .z)) H
def kc (a0:Value)(h:ah)(R:Value→ah→Prop):Prop:=
 eK (λc=>
 vK (aD a0) λe=>
 vK (ak .i .lss e aH) λf=>
 aF f (
 M7 h λs g=>
 c [] g) (
 c [] h))
 λt u d=>
 vK (bu 1 a0 ai) λj=>
 vK (ldV d j) λk=>
 aZ [k,aH] d λa v b l=>
 vK (aD a0) λm=>
 vK (ak .i .lss (ix a 1) m) λn=>
 aF n (
 vK (bu 1 a0 (ix a 1)) λo=>
 vK (ldV b o) λp=>
 vK (rR (ix a 0) p) λq=>
 vK (ak .i .add (ix a 1) aH) λr=>
 l [q,r] b) (
 R (ix a 0) b)
theorem sJ (H:kc a0 h R):ag prog gU #[a0] h R:=fk f289 (.s .z (.j 480 [] (.s .z (.s .z .z)) (.s .z (.s (.s .z (.l 16773144 [3,4] (.s (.s .z (.s .z .z)) (.s .z .z)))) (.s .z .z))))) H
def ed (a0:Value)(h:ah)(R:Value→ah→Prop):Prop:=
 aW (Value.cells a0) 284 h λa b=>
 R (.func (.func dF) #[] #[a]) b
theorem iY (H:ed a0 h R):ag prog eM #[a0] h R:=fk f291 (.s .z (.s .z .z)) H
def wB (a0 a1 a2 a3:Value)(h:ah)(R:Value→ah→Prop):Prop:=
 vK (ak .i .mul (af 2) a0) λb=>
 eK (λa=>
 vK (ak .i .gtr a1 a0) λc=>
 aF c (
 vK (ak .i .mul (af 2) a1) λd=>
 a [d] h) (
 a [b] h))
 λe p f=>
 vK (ak .i .mul (af 2) a1) λg=>
 vK (ak .i .mul g a3) λj=>
 vK (ak .i .mul (af 2) a2) λk=>
 vK (ak .i .add k aH) λl=>
 vK (ak .i .mul l a0) λm=>
 vK (ak .i .sub j m) λn=>
 vK (ak .i .add n a1) λo=>
 R (.tuple #[o,(ix e 0)]) f
theorem GA (H:wB a0 a1 a2 a3 h R):ag prog lL #[a0,a1,a2,a3] h R:=fk f292 (.s .z (.s .z (.j 254976 [10] (.s .z (.s .z .z)) (.s .z .z)))) H
def DL (a0 a1:Value)(h:ah)(R:Value→ah→Prop):Prop:=
 vK (ak .i .lss a1 aH) λd=>
 vK (gV d false (some a1)) λl=>
 vK (gV d false (ak .i .gtr l (af 262144))) λm=>
 vK (aE d (.bool true) m) λn=>
 aF n (
 R ai h) (
 vK (ak .i .mul (af 2) a1) λo=>
 vK (ak .i .geq a0 o) λa=>
 vK (gV a false (some a0)) λp=>
 vK (gV a false (some a1)) λq=>
 vK (gV a false (ak .i .mul (af (-2)) q)) λr=>
 vK (gV a false (ak .i .leq p r)) λs=>
 vK (aE a (.bool true) s) λt=>
 aF t (
 R ai h) (
 eK (λf=>
 vK (ak .i .lss a0 ai) λu=>
 aF u (
 vK (unV .neg a0) λv=>
 f [v] h) (
 f [a0] h))
 λb ay g=>
 vK (ak .i .mul (ix b 0) (ix b 0)) λe=>
 vK (ak .i .mul e (ix b 0)) λj=>
 vK (ak .i .mul a1 a1) λk=>
 vK (ak .i .mul k a1) λc=>
 vK (ak .i .lss (ix b 0) a1) λw=>
 aF w (
 vK (ak .i .mul (af 3) j) λx=>
 vK (ak .i .mul (af 5) e) λy=>
 vK (ak .i .mul y a1) λz=>
 vK (ak .i .sub x z) λaa=>
 vK (ak .i .mul (af 2) c) λab=>
 vK (ak .i .add aa ab) λac=>
 vK (ak .i .mul (af 2) c) λad=>
 ag prog dj #[ac,(af 1073741824),ad] g λae aj=>
 R ae aj) (
 vK (ak .i .mul (af 5) e) λal=>
 vK (ak .i .mul al a1) λam=>
 vK (ak .i .sub am j) λan=>
 vK (ak .i .mul (af 8) (ix b 0)) λao=>
 vK (ak .i .mul ao k) λap=>
 vK (ak .i .sub an ap) λaq=>
 vK (ak .i .mul (af 4) c) λar=>
 vK (ak .i .add aq ar) λau=>
 vK (ak .i .mul (af 2) c) λav=>
 ag prog dj #[au,(af 1073741824),av] g λaw ax=>
 R aw ax)))
theorem Oq (H:DL a0 a1 h R):ag prog zN #[a0,a1] h R:=fk f293 (.s .z (.s (.s .z (.s (.s .z .z) .z)) (.s (.s .z (.s (.s .z .z) .z)) (.j 503316481 [0] (.s .z (.s .z .z)) (.s .z (.s .z (.s .z (.s .z (.s (.s .z (.s (.s .z .z) .z)) (.s .z .z)))))))))) H
def yc (a0 a1:Value)(h:ah)(R:Value→ah→Prop):Prop:=
 ag prog Co #[a0,a1] h λd c=>
 vK (unV .not d) λa=>
 vK (gV a false (some a0)) λe=>
 vK (gV a false (some a1)) λf=>
 vK (gV a false (ak .i .mul (af 3) f)) λg=>
 vK (gV a false (ak .i .geq e g)) λj=>
 vK (aE a (.bool true) j) λb=>
 vK (gV b false (some a0)) λk=>
 vK (gV b false (some a1)) λl=>
 vK (gV b false (ak .i .mul (af (-3)) l)) λm=>
 vK (gV b false (ak .i .leq k m)) λn=>
 vK (aE b (.bool true) n) λo=>
 aF o (
 R ai c) (
 ag prog pe #[a0,a1] c λp q=>
 vK (ak .i .mul (af 3) a1) λr=>
 ag prog pe #[a0,r] q λs t=>
 ag prog qI #[p,s,(af 40)] t λu v=>
 ag prog mx #[u,(af 10)] v λw x=>
 R w x)
theorem IG (H:yc a0 a1 h R):ag prog sZ #[a0,a1] h R:=fk f294 (.s .z (.s (.s .z (.s (.s .z .z) .z)) (.s .z (.s .z .z)))) H
def DO (a0 a1:Value)(h:ah)(R:Value→ah→Prop):Prop:=
 aW (Value.cells a0) 351 h λq r=>
 aW #[(.int .u64 0),(.int .u64 0)] 351 r λd s=>
 vK ((aM #[(.int .u64 0),(.int .u64 0)] []).map .agg) λt=>
 aW #[(.int .u64 0),(.int .u64 0)] 351 s λb u=>
 stK 2 b t u λbc v=>
 vK ((aM #[(.int .u64 0),(.int .u64 0)] []).map .agg) λw=>
 aW #[(.int .u64 0),(.int .u64 0)] 351 v λc x=>
 stK 2 c w x λbd f=>
 vK (ak .i .eql a1 (.int .u64 0)) λy=>
 aF y (
 vK (aO 2 f b) λz=>
 stK 2 d z f λbe k=>
 vK (aO 2 k d) λaa=>
 R (.tuple #[aa,(.int .u64 0)]) k) (
 aZ [(af 127)] f λe bf a l=>
 vK (ak .i .geq (ix e 0) ai) λab=>
 aF ab (
 bJ a λS=>
 qK S (λa=>aO 2 a c) λac=>
 qK S (λa=>aO 2 a q) λad=>
 ag prog iP #[ad,(ix e 0)] a λae m=>
 S m∧(ag prog fi #[ac,ae] m λaj al=>
 stK 2 c aj al λbg n=>
 vK (aO 2 n b) λam=>
 ag prog fi #[am,(.int .u64 0)] n λan ao=>
 stK 2 b an ao λbh o=>
 vK (aO 2 o c) λap=>
 vK ((aM #[(.int .u64 0),(.int .u64 0)] [(0,1,(.int .u64 0)),(1,1,a1)]).map .agg) λaq=>
 ag prog jY #[ap,aq] o λar g=>
 vK (unV .not ar) λau=>
 aF au (
 vK (aO 2 g c) λav=>
 vK ((aM #[(.int .u64 0),(.int .u64 0)] [(0,1,(.int .u64 0)),(1,1,a1)]).map .agg) λaw=>
 ag prog qW #[av,aw] g λax ay=>
 stK 2 c ax ay λbi p=>
 vK (aB 1 b) λaz=>
 vK (ldV p az) λa2=>
 vK (ak .i .add a2 (.int .u64 1)) λa3=>
 vK (aB 1 b) λa4=>
 stK 1 a4 a3 p λbj a5=>
 vK (ak .i .sub (ix e 0) aH) λa6=>
 l [a6] a5) (
 vK (ak .i .sub (ix e 0) aH) λa7=>
 l [a7] g))) (
 bJ a λS=>
 qK S (λa=>aO 2 a b) λa8=>
 vK (aB 1 c) λa9=>
 qK S (λa=>ldV a a9) λba=>
 stK 2 d a8 a λbk j=>
 S j∧(vK (aO 2 j d) λbb=>
 R (.tuple #[bb,ba]) j)))
theorem Ov (H:DO a0 a1 h R):ag prog uF #[a0,a1] h R:=fk f295 (.s .z (.s .z (.s .z (.s (.s .z (.s (.s .z .z) .z)) (.s (.s .z (.l 274877890816 [8] (.s (.s .z (.s .z .z)) (.s (.s (.d (.op 0 .r (.op 1 .r (.op 2 .r (.op 3 .e (.op 4 .n (.op 5 .n .nil))))))) (.s .z (.s .z (.s (.s .z .z) .z)))) .z)))) (.s (.d (.op 0 .r (.op 1 .r (.op 2 .r (.op 3 .e (.op 4 .r .nil)))))) .z)))))) H
def DN (a0 a1:Value)(h:ah)(R:Value→ah→Prop):Prop:=
 aW (Value.cells a0) 351 h λe l=>
 aW (Value.cells a1) 351 l λf m=>
 aW #[(.int .u64 0),(.int .u64 0)] 351 m λd c=>
 vK (aB 0 e) λn=>
 vK (ldV c n) λo=>
 vK (aB 0 f) λp=>
 vK (ldV c p) λq=>
 vK (ak .i .add o q) λr=>
 vK (aB 1 e) λs=>
 vK (ldV c s) λt=>
 vK (aB 1 f) λu=>
 vK (ldV c u) λv=>
 vK (ak .i .add t v) λw=>
 vK ((aM #[(.int .u64 0),(.int .u64 0)] [(0,1,r),(1,1,w)]).map .agg) λx=>
 aW #[(.int .u64 0),(.int .u64 0)] 351 c λa y=>
 stK 2 a x y λao b=>
 vK (aB 1 a) λz=>
 vK (ldV b z) λaa=>
 vK (aB 1 e) λab=>
 vK (ldV b ab) λac=>
 vK (ak .i .lss aa ac) λad=>
 aF ad (
 vK (aB 0 a) λae=>
 vK (ldV b ae) λaf=>
 vK (ak .i .add af (.int .u64 1)) λag=>
 vK (aB 0 a) λai=>
 stK 1 ai ag b λap g=>
 vK (aO 2 g a) λaj=>
 stK 2 d aj g λaq j=>
 vK (aO 2 j d) λal=>
 R al j) (
 vK (aO 2 b a) λam=>
 stK 2 d am b λar k=>
 vK (aO 2 k d) λan=>
 R an k)
theorem Ou (H:DN a0 a1 h R):ag prog iO #[a0,a1] h R:=fk f296 (.s .z (.s .z (.s (.s .z (.s .z .z)) (.s .z .z)))) H
def DQ (a0 a1:Value)(h:ah)(R:Value→ah→Prop):Prop:=
 aW (Value.cells a0) 351 h λb a=>
 aF a1 (
 vK (aB 0 b) λe=>
 vK (ldV a e) λf=>
 vK (ak .i .gtr f (.int .u64 0)) λc=>
 vK (gV c false (aB 1 b)) λg=>
 vK (gV c false (ldV a g)) λj=>
 vK (gV c false (ak .i .gtr j (.int .u64 9223372036854775807))) λk=>
 vK (aE c (.bool true) k) λl=>
 aF l (
 R (af (-9223372036854775808)) a) (
 vK (aB 1 b) λm=>
 vK (ldV a m) λn=>
 vK (gd .i64 n) λo=>
 vK (unV .neg o) λp=>
 R p a)) (
 vK (aB 0 b) λq=>
 vK (ldV a q) λr=>
 vK (ak .i .gtr r (.int .u64 0)) λd=>
 vK (gV d false (aB 1 b)) λs=>
 vK (gV d false (ldV a s)) λt=>
 vK (gV d false (ak .i .gtr t (.int .u64 9223372036854775807))) λu=>
 vK (aE d (.bool true) u) λv=>
 aF v (
 R (af 9223372036854775807) a) (
 vK (aB 1 b) λw=>
 vK (ldV a w) λx=>
 vK (gd .i64 x) λy=>
 R y a))
theorem Oy (H:DQ a0 a1 h R):ag prog dK #[a0,a1] h R:=fk f297 (.s .z (.s (.s .z (.s (.s (.s .z (.s (.s .z .z) .z)) (.s .z .z)) .z)) (.s (.s .z (.s (.s .z .z) .z)) (.s .z .z)))) H
def AT (a0 a1:Value)(h:ah)(R:Value→ah→Prop):Prop:=
 aW (Value.cells a0) 351 h λb e=>
 aW #[(.int .u64 0),(.int .u64 0)] 351 e λc a=>
 vK (aB 0 b) λf=>
 vK (ldV a f) λg=>
 vK (ak .i .shl g (.int .u64 1)) λj=>
 vK (aB 1 b) λk=>
 vK (ldV a k) λl=>
 vK (ak .i .shr l (.int .u64 63)) λm=>
 vK (ak .i .add j m) λn=>
 vK (aB 1 b) λo=>
 vK (ldV a o) λp=>
 vK (ak .i .shl p (.int .u64 1)) λq=>
 vK (ak .i .add q a1) λr=>
 vK ((aM #[(.int .u64 0),(.int .u64 0)] [(0,1,n),(1,1,r)]).map .agg) λs=>
 stK 2 c s a λu d=>
 vK (aO 2 d c) λt=>
 R t d
theorem L4 (H:AT a0 a1 h R):ag prog fi #[a0,a1] h R:=fk f298 (.s .z (.s .z .z)) H
def FX (a0 a1:Value)(h:ah)(R:Value→ah→Prop):Prop:=
 aW (Value.cells a0) 351 h λb a=>
 vK (ak .i .geq a1 (af 64)) λc=>
 aF c (
 vK (aB 0 b) λd=>
 vK (ldV a d) λe=>
 vK (ak .i .sub a1 (af 64)) λf=>
 vK (ak .i .shr e f) λg=>
 vK (ak .i .and g (.int .u64 1)) λj=>
 R j a) (
 vK (aB 1 b) λk=>
 vK (ldV a k) λl=>
 vK (ak .i .shr l a1) λm=>
 vK (ak .i .and m (.int .u64 1)) λn=>
 R n a)
theorem QM (H:FX a0 a1 h R):ag prog iP #[a0,a1] h R:=fk f299 (.s .z (.s (.s .z (.s (.s .z .z) .z)) (.s .z .z))) H
def AW (a0 a1:Value)(h:ah)(R:Value→ah→Prop):Prop:=
 aW (Value.cells a0) 351 h λe l=>
 aW (Value.cells a1) 351 l λf m=>
 aW #[(.int .u64 0),(.int .u64 0)] 351 m λd b=>
 vK (aB 0 e) λn=>
 vK (ldV b n) λo=>
 vK (aB 0 f) λp=>
 vK (ldV b p) λq=>
 vK (ak .i .sub o q) λr=>
 vK (aB 1 e) λs=>
 vK (ldV b s) λt=>
 vK (aB 1 f) λu=>
 vK (ldV b u) λv=>
 vK (ak .i .sub t v) λw=>
 vK ((aM #[(.int .u64 0),(.int .u64 0)] [(0,1,r),(1,1,w)]).map .agg) λx=>
 aW #[(.int .u64 0),(.int .u64 0)] 351 b λc y=>
 stK 2 c x y λao a=>
 vK (aB 1 e) λz=>
 vK (ldV a z) λaa=>
 vK (aB 1 f) λab=>
 vK (ldV a ab) λac=>
 vK (ak .i .lss aa ac) λad=>
 aF ad (
 vK (aB 0 c) λae=>
 vK (ldV a ae) λaf=>
 vK (ak .i .sub af (.int .u64 1)) λag=>
 vK (aB 0 c) λai=>
 stK 1 ai ag a λap g=>
 vK (aO 2 g c) λaj=>
 stK 2 d aj g λaq j=>
 vK (aO 2 j d) λal=>
 R al j) (
 vK (aO 2 a c) λam=>
 stK 2 d am a λar k=>
 vK (aO 2 k d) λan=>
 R an k)
theorem L7 (H:AW a0 a1 h R):ag prog qW #[a0,a1] h R:=fk f300 (.s .z (.s .z (.s (.s .z (.s .z .z)) (.s .z .z)))) H
def DP (a0 a1:Value)(h:ah)(R:Value→ah→Prop):Prop:=
 aW (Value.cells a0) 351 h λb d=>
 aW (Value.cells a1) 351 d λc a=>
 vK (aB 0 b) λe=>
 vK (ldV a e) λf=>
 vK (aB 0 c) λg=>
 vK (ldV a g) λj=>
 vK (ak .i .neq f j) λk=>
 aF k (
 vK (aB 0 b) λl=>
 vK (ldV a l) λm=>
 vK (aB 0 c) λn=>
 vK (ldV a n) λo=>
 vK (ak .i .lss m o) λp=>
 R p a) (
 vK (aB 1 b) λq=>
 vK (ldV a q) λr=>
 vK (aB 1 c) λs=>
 vK (ldV a s) λt=>
 vK (ak .i .lss r t) λu=>
 R u a)
theorem Ox (H:DP a0 a1 h R):ag prog jY #[a0,a1] h R:=fk f301 (.s .z (.s (.s .z (.s (.s .z .z) .z)) (.s .z .z))) H
def Dv (a0 a1 a2:Value)(h:ah)(R:Value→ah→Prop):Prop:=
 vK (ak .i .geq a2 (af 64)) λa=>
 aF a (
 vK (ak .i .sub a2 (af 64)) λb=>
 vK (ak .i .shr a0 b) λc=>
 R (.tuple #[(.int .u64 0),c]) h) (
 vK (ak .i .shr a0 a2) λd=>
 vK (ak .i .shr a1 a2) λe=>
 vK (ak .i .sub (af 64) a2) λf=>
 vK (ak .i .shl a0 f) λg=>
 vK (ak .i .or e g) λj=>
 R (.tuple #[d,j]) h)
theorem N8 (H:Dv a0 a1 a2 h R):ag prog uz #[a0,a1,a2] h R:=fk f302 (.s .z (.s (.s .z (.s (.s .z .z) .z)) (.s .z .z))) H
def Dw (a0 a1 a2:Value)(h:ah)(R:Value→ah→Prop):Prop:=
 vK (ak .i .geq a2 (af 64)) λb=>
 aF b (
 vK (ak .i .eql a1 (.int .u64 0)) λa=>
 vK (gV a true (some a0)) λc=>
 vK (gV a true (some a2)) λd=>
 vK (gV a true (ak .i .sub (af 128) d)) λe=>
 vK (gV a true (ak .i .shl c e)) λf=>
 vK (gV a true (ak .i .eql f (.int .u64 0))) λg=>
 vK (aE a g (.bool false)) λj=>
 R j h) (
 vK (ak .i .sub (af 64) a2) λk=>
 vK (ak .i .shl a1 k) λl=>
 vK (ak .i .eql l (.int .u64 0)) λm=>
 R m h)
theorem N9 (H:Dw a0 a1 a2 h R):ag prog zF #[a0,a1,a2] h R:=fk f303 (.s .z (.s (.s .z (.s (.s .z .z) .z)) (.s .z .z))) H
def kB (a0 a1 a2 a3 a4:Value)(h:ah)(R:Value→ah→Prop):Prop:=
 vK (ak .i .sub a2 a1) λd=>
 vK (ak .i .sub a3 a2) λe=>
 aZ [d,e] h λa t b c=>
 vK (ak .i .neq (ix a 0) (ix a 1)) λf=>
 aF f (
 vK (ak .i .gtr (ix a 0) (ix a 1)) λg=>
 aF g (
 vK (ak .i .sub a2 (ix a 0)) λj=>
 ag prog dc #[a0,j,a2,(ix a 1),a4] b λu k=>
 vK (ak .i .sub (ix a 0) (ix a 1)) λl=>
 c [l,(ix a 1)] k) (
 vK (ak .i .sub a2 (ix a 0)) λm=>
 vK (ak .i .add a2 (ix a 1)) λn=>
 vK (ak .i .sub n (ix a 0)) λo=>
 ag prog dc #[a0,m,o,(ix a 0),a4] b λv p=>
 vK (ak .i .sub (ix a 1) (ix a 0)) λq=>
 c [(ix a 0),q] p)) (
 vK (ak .i .sub a2 (ix a 0)) λr=>
 ag prog dc #[a0,r,a2,(ix a 0),a4] b λw s=>
 R (.tuple #[]) s)
theorem tT (H:kB a0 a1 a2 a3 a4 h R):ag prog iq #[a0,a1,a2,a3,a4] h R:=fk f304 (.s .z (.s .z (.s (.l 1125899906583552 [10,11] (.s (.s .z (.s .z .z)) (.s .z (.s (.s .z .z) (.s .z .z))))) .z))) H
def FV (a0 a1:Value)(h:ah)(R:Value→ah→Prop):Prop:=
 vK (ak .i .lss a1 aH) λb=>
 vK (gV b false (some a1)) λc=>
 vK (gV b false (ak .i .gtr c (af 1048576))) λd=>
 vK (aE b (.bool true) d) λe=>
 aF e (
 R (.bool false) h) (
 vK (ak .i .mul (af 4) a1) λf=>
 vK (ak .i .leq a0 f) λa=>
 vK (gV a true (some a0)) λg=>
 vK (gV a true (some a1)) λj=>
 vK (gV a true (ak .i .mul (af (-4)) j)) λk=>
 vK (gV a true (ak .i .geq g k)) λl=>
 vK (aE a l (.bool false)) λm=>
 R m h)
theorem QK (H:FV a0 a1 h R):ag prog Co #[a0,a1] h R:=fk f307 (.s .z (.s (.s .z (.s (.s .z .z) .z)) (.s .z .z))) H
def wC (a0 a1 a2:Value)(h:ah)(R:Value→ah→Prop):Prop:=
 eK (λp=>
 vK (ak .i .lss a2 ai) λt=>
 aF t (
 p [ai] h) (
 p [a2] h))
 λe bx q=>
 vK (ak .i .gtr (ix e 0) (af 127)) λu=>
 aF u (
 R ai q) (
 vK (ak .i .lss a0 ai) λv=>
 vK (ak .i .lss a1 ai) λw=>
 vK (ak .b .neq v w) λj=>
 ag prog gh #[a0] q λx y=>
 ag prog gh #[a1] y λz aa=>
 ag prog qV #[x,z] aa λab ac=>
 aW #[(.int .u64 0),(.int .u64 0)] 351 ac λf ad=>
 stK 2 f ab ad λbz m=>
 vK (ak .i .eql (ix e 0) ai) λae=>
 aF ae (
 vK (aO 2 m f) λaj=>
 ag prog dK #[aj,j] m λal am=>
 R al am) (
 vK ((aM #[(.int .u64 0),(.int .u64 0)] []).map .agg) λan=>
 aW #[(.int .u64 0),(.int .u64 0)] 351 m λc ao=>
 stK 2 c an ao λb0 ap=>
 aZ [(af 127)] ap λn b1 d aq=>
 vK (ak .i .geq (ix n 0) (ix e 0)) λar=>
 aF ar (
 bJ d λS=>
 qK S (λd=>aO 2 d c) λau=>
 qK S (λd=>aO 2 d f) λav=>
 ag prog iP #[av,(ix n 0)] d λaw r=>
 S r∧(ag prog fi #[au,aw] r λax ay=>
 stK 2 c ax ay λb2 az=>
 vK (ak .i .sub (ix n 0) aH) λa3=>
 aq [a3] az)) (
 vK (ak .i .sub (ix e 0) aH) λa4=>
 aZ [(.bool false),ai] d λa b3 g a5=>
 vK (ak .i .lss (ix a 1) a4) λa6=>
 aF a6 (
 vK (gV (ix a 0) false (aO 2 g f)) λa7=>
 vK (gV (ix a 0) false (some (ix a 1))) λa8=>
 gK (ix a 0) false (λa9=>ag prog iP #[a7,a8] g a9) g λba bb=>
 vK (gV (ix a 0) false (ak .i .eql ba (.int .u64 1))) λbc=>
 vK (aE (ix a 0) (.bool true) bc) λbd=>
 vK (ak .i .add (ix a 1) aH) λbe=>
 a5 [bd,be] bb) (
 vK (aO 2 g f) λbf=>
 vK (ak .i .sub (ix e 0) aH) λbg=>
 ag prog iP #[bf,bg] g λbh k=>
 vK (ak .i .eql bh (.int .u64 1)) λl=>
 vK (gV l true (some (ix a 0))) λbi=>
 vK (gV l true (some bi)) λo=>
 vK (gV o false (some j)) λbj=>
 vK (gV o false (unV .not bj)) λbk=>
 vK (gV l true (aE o (.bool true) bk)) λbl=>
 vK (aE l bl (.bool false)) λbm=>
 aF bm (
 vK (aO 2 k c) λbn=>
 vK ((aM #[(.int .u64 0),(.int .u64 0)] [(1,1,(.int .u64 1))]).map .agg) λbo=>
 ag prog iO #[bn,bo] k λbp bq=>
 stK 2 c bp bq λb4 s=>
 vK (aO 2 s c) λbr=>
 ag prog dK #[br,j] s λbs bt=>
 R bs bt) (
 vK (aO 2 k c) λbu=>
 ag prog dK #[bu,j] k λbv bw=>
 R bv bw)))))
theorem GB (H:wC a0 a1 a2 h R):ag prog qI #[a0,a1,a2] h R:=fk f308 (.s .z (.j 24580 [2] (.s .z (.s .z .z)) (.s (.s .z (.s (.s .z .z) .z)) (.s .z (.s .z (.s (.s .z (.s (.s .z .z) .z)) (.s .z (.s (.s .z (.l 8787503088640 [10] (.s (.s .z (.s .z .z)) (.s (.d (.op 0 .r (.op 1 .r (.op 2 .r (.op 3 .e (.op 4 .n (.op 5 .n .nil))))))) .z)))) (.s .z (.s (.s .z (.l 72022409665845248 [11,45] (.s .z (.s (.s .z .z) (.s (.s .z .z) .z))))) (.s (.s .z (.s .z .z)) (.s .z .z)))))))))))) H
def Aj (a0 a1:Value)(h:ah)(R:Value→ah→Prop):Prop:=
 eK (λc=>
 vK (ak .i .lss a0 ai) λj=>
 aF j (
 vK (unV .neg a0) λk=>
 c [k] h) (
 c [a0] h))
 λd ad l=>
 ag prog dj #[(af 10851744800547),(ix d 0),a1] l λm n=>
 ag prog dj #[m,(ix d 0),a1] n λo p=>
 aZ [(af 1099511627776),ai,(af 1099511627776),aH] p λa ae e f=>
 vK (ak .i .leq (ix a 3) (af 30)) λq=>
 aF q (
 vK (ak .i .mul (af 2) (ix a 3)) λr=>
 vK (ak .i .mul (af 2) (ix a 3)) λs=>
 vK (ak .i .add s aH) λt=>
 vK (ak .i .mul r t) λu=>
 vK (ak .i .mul u (af 1099511627776)) λv=>
 ag prog dj #[(ix a 2),o,v] e λb g=>
 vK (ak .i .rem (ix a 3) (af 2)) λw=>
 vK (ak .i .eql w aH) λx=>
 aF x (
 vK (ak .i .add (ix a 1) b) λy=>
 vK (ak .i .add (ix a 3) aH) λz=>
 f [(ix a 0),y,b,z] g) (
 vK (ak .i .add (ix a 0) b) λaa=>
 vK (ak .i .add (ix a 3) aH) λab=>
 f [aa,(ix a 1),b,ab] g)) (
 vK (ak .i .sub (ix a 0) (ix a 1)) λac=>
 R ac e)
theorem Km (H:Aj a0 a1 h R):ag prog pe #[a0,a1] h R:=fk f309 (.s .z (.j 61441 [0] (.s .z (.s .z .z)) (.s .z (.s .z (.s .z (.s .z (.s .z (.s (.s .z (.l 140737479970688 [7,8,9,10] (.s (.s .z (.s .z .z)) (.s (.s .z (.s .z (.s .z (.s .z .z)))) .z)))) (.s .z .z))))))))) H
def jp (a0 a1 a2 a3 a4:Value)(h:ah)(R:Value→ah→Prop):Prop:=
 aZ [ai] h λb t a c=>
 vK (ak .i .lss (ix b 0) a3) λd=>
 aF d (
 bJ a λS=>
 vK (ak .i .add a1 (ix b 0)) λe=>
 vK (ak .i .add a2 (ix b 0)) λf=>
 vK (ak .i .add a2 (ix b 0)) λg=>
 vK (bu 1 a0 g) λj=>
 qK S (λa=>ldV a j) λk=>
 vK (ak .i .add a1 (ix b 0)) λl=>
 vK (bu 1 a0 l) λm=>
 qK S (λa=>ldV a m) λn=>
 vK (bu 1 a0 e) λo=>
 stK 1 o k a λu p=>
 vK (bu 1 a0 f) λq=>
 stK 1 q n p λv r=>
 vK (ak .i .add (ix b 0) aH) λs=>
 c [s] r) (
 R (.tuple #[]) a)
theorem qf (H:jp a0 a1 a2 a3 a4 h R):ag prog dc #[a0,a1,a2,a3,a4] h R:=fk f310 (.s .z (.l 274877905920 [10] (.s (.s .z (.s .z .z)) (.s (.d (.op 0 .r (.op 1 .r (.op 2 .r (.op 3 .r (.op 4 .r (.op 5 .r (.op 6 .r (.op 7 .r (.op 8 .r (.op 9 .r (.op 10 .r (.op 11 .r (.op 12 .r (.op 13 .r (.op 14 .r (.op 15 .r (.op 16 .r (.op 17 .r (.op 18 .r (.op 19 .r (.op 20 .r (.op 21 .n (.op 22 .r (.op 23 .n .nil))))))))))))))))))))))))) .z)))) H
end
def jW:Nat→ByteArray
 |0=>⟨#[99,108,97,109,112]⟩
 |1=>⟨#[109,105,114,114,111,114]⟩
 |2=>⟨#[119,114,97,112]⟩
 |_=>⟨#[]⟩
def Vd:Nat→ByteArray
 |0=>⟨#[98,111,120]⟩
 |1=>⟨#[99,117,98,105,99]⟩
 |2=>⟨#[108,97,110,99,122,111,115]⟩
 |_=>⟨#[]⟩
def TK:Nat→Int
 |0=>0
 |1=>2
 |_=>3
def TabH (h:ah)(name:String)(k:IntKind)(zs:List Int):Prop:=∃g t f,prog.globalNamed name=some g∧h[g]? =some (.cells (zs.map λz=>Value.int k z).toArray t f)
theorem TabH.is {h:ah}{name:String}{k:IntKind}{zs:List Int}(H:TabH h name k zs)(w:World)(D:w.heap=h):Lib.TabIs prog w name k zs:=by
 obtain⟨g,t,f,h1,A⟩:=H;subst D;unfold Lib.TabIs World.var?;rw[h1,Option.bind_some,A]
structure eB (h:ah):Prop where
 names:∃v,aG h ⟨oK,0,none⟩=some v∧SlC 1 h v 3 [.string (jW 0),.string (jW 1),.string (jW 2)]
 kinds:∀i,i<3→aG h ⟨fH,2*i,none⟩=some (.string (Vd i))∧aG h ⟨fH,2*i+1,none⟩=some (.int .i64 (TK i))
theorem eB.ext {h h':ah}(H:eB h)(e:Ext h h'):eB h':=by
 obtain⟨⟨v,h1,D⟩,A⟩:=H;exact⟨⟨v,e.cell h1,D.ext e⟩,λi hi=>⟨e.cell (A i hi).1,e.cell (A i hi).2⟩⟩
end Go.Proofs.YtjljhnandbbldaaGreatDoor
namespace Go.Crisp
open Go Go.ChangeShapes Go.WideShapes Go.ChangeAt Go.RowKit
def Cg (P:Program)(L:List (String×DataW Unit))(h:ah):Prop:=∀w:World,w.heap=h→laidMetH P L w
theorem row_laid {H:Type}{enc:TypeId×Value→H}{C:Checked}{os:Os}{f:FuncId}{fn:Func}{s:ChangeSpec}{aa:List PathCond}{rt:TypeId}{ts:List TS}{L:List (String×DataW Unit)}
  (a9:rO C.prog f=true) (own:ownKnob C.prog.godebug=none) (started:os.Started) (ab:C.prog.inits.idxOf? f=none) (ay:C.prog.funcs[f]? =some fn)
  (al:laidOutB C.prog=true) (F:s.vars=[]) (hp:GL C.prog ts fn.params.toList=true) (ad:fn.params.toList.all (λt=>C.prog.readableRec t&&decide (t<C.prog.types.size))=true)
  (aw:fn.resultTypes=#[rt]) (ax:C.prog.underlying rt=some .bool)
  (D:∀ds:List (DataW H),ds.length=ts.length→s.fn H ds={results:=[.lit (.bool true)],args:=ds})
  (I:∃(w:World) (A:Tape) (i:Input),w.os=os∧(w.forCall A i).Shaped C.prog∧i.vars=[]∧Input.okWide C.prog (w.forCall A i) .any w.heap.size f i∧
   ((s.pre enc C.prog fn aa false (w.forCall A i).memory i.args∧laidMetH C.prog L (w.forCall A i).memory)∧sizedMet enc C.prog fn (OpenSpec.ofChange s) false (w.forCall A i).memory i.args)∧Assume.holds {} C.prog (lone (Frame.enter C.prog f i.args .normal) [] (w.forCall A i)))
  (G:∀(h:ah) (args:Array Value),Cg C.prog L h→vU ts h args.toList→ag C.prog f args h λr h'=>r=.bool true∧Ext h h'):
  ReturnsInHanded {} C os f .any (λw args=>(s.pre enc C.prog fn aa false w args∧laidMetH C.prog L w)∧sizedMet enc C.prog fn (OpenSpec.ofChange s) false w args) (s.post enc C.prog fn false true false false):=by
 refine returnsInHanded_of_change_and (X:=λw _=>laidMetH C.prog L w) (λ_ _ _ hh h=>h.of_heap hh) own started ab ay I ?_;intro W bd args ds gs before ar hW _ an hL _;have a7:=hW;obtain⟨p,q,hA,hV,rfl,_,_⟩:=hW;rw[F]at hV;obtain⟨rfl,rfl⟩:=trodVars_none hV;have a8:s.plain.varTypes C.prog=[]:=by simp[DataSpec.varTypes,ChangeSpec.plain,F]
 rw[a8,gR,gR]at an;have hw:Aw (DataW.weightsEach C.prog fn.params.toList ds):=λn hn=>by
  have:=CX.1 an n hn;exact CU this
 have bc:vU ts W.heap args.toList:=Xd hp (λj t v ht hv=>ar j t v (by simpa using ht) (by simpa using hv)) hA hw;have U:ds.length=ts.length:=by
  have l1:∀{ids:List TypeId} {vs:List Value} {ds:List (DataW H)} {ps:List MemPlace},DataW.TrodAll enc C.prog W 0 (λ_=>true) true ids vs ds ps→ds.length=ids.length:=by
   intro ids;induction ids with
   |nil=>intro vs ds ps h;obtain⟨rfl,rfl,rfl⟩:=trodAll_nil h;rfl
   |cons t ids ih=>intro vs ds ps h;obtain⟨v,be,d,bg,p,q,rfl,rfl,rfl,h1,h2⟩:=trodAll_cons h;simp[ih h2]
  have l2:∀(ts:List TS) (ids:List TypeId),GL C.prog ts ids=true→ids.length=ts.length:=by
   intro ts;induction ts with
   |nil=>intro ids h;cases ids<;>simp_all [GL]
   |cons t ts ih=>intro ids h;cases ids<;>simp[GL]at h;simp[ih _ h.2]
  rw[l1 hA,l2 _ _ hp]
 refine((G W.heap args (λw hw=>hL.of_heap hw.symm) bc).calls a9 W rfl).mono λe W' ⟨v,he,hs,hv,hx⟩=>?_
 subst he hv;have au:Below W.heap.size W W':=⟨hs.1,hs.2.1,hs.2.2,hx.1,λk hk=>hx.2 k hk⟩
 refine⟨_,rfl,ds,[],_,[],p,[],a7,?_,?_,?_,au.frame _,λh=>by cases h⟩
 ·rw[gR,D ds U,aw];exact trodAll_mk1 (shut_bool ax _)
 ·rw[gR,D ds U];exact PI al au ad hA
 ·rw[gR,D ds U,F];rfl
theorem JK {P:Program}{w:World}:∀{L:List (String×DataW Unit)} {H:List MemPlace},DataW.LaidVars P w L H→∀{n:String} {d:DataW Unit},(n,d)∈L→
  ∃g t cs fuel p,P.globalNamed n=some g∧(P.globals[g]?).map (·.type)=some t∧w.var? P n=some cs∧DataW.trod (λ_=>()) P w 0 (λ_=>true) false fuel t cs.toList=some (d,p)
 | [],_,_,n,d,hm=>absurd hm (by simp)
 |(n',d')::r,_,h,n,d,hm=>by
  obtain⟨g,t,cs,fuel,p,q,h1,D,A,G,F,_⟩:=h;rcases kq.1 hm with e|e
  ·cases e;exact⟨g,t,cs,fuel,p,h1,D,A,G⟩
  ·exact JK F e
theorem Cg.at {P:Program}{L:List (String×DataW Unit)}{h:ah}(H:Cg P L h)(G:(L.all λx=>x.2.handleName?.isNone)=true){n:String}{d:DataW Unit}(F:(n,d)∈L)(w:World)(A:w.heap=h):
  ∃g t cs fuel p,P.globalNamed n=some g∧(P.globals[g]?).map (·.type)=some t∧w.var? P n=some cs∧DataW.trod (λ_=>()) P w 0 (λ_=>true) false fuel t cs.toList=some (d,p):=by
 have:=H w A;rw[MakeChecks.laidMetH_plain _ _ _ G]at this;obtain⟨I,D,_⟩:=this;exact JK D F
def zbW (P:Program)(n:String)(g:Nat)(k:Program→TypeId→Bool):Bool:=
 decide (P.globalNamed n=some g)&&(match(P.globals[g]?).map (·.type)with|some t=>k P t|none=>false)
def WC (k:IntKind)(P:Program)(t:TypeId):Bool:=match P.underlying t with|some (.int k')=>decide (k=k')&&P.cellsOf t==1|_=>false
def MT (P:Program)(t:TypeId):Bool:=match P.underlying t with|some .string=>P.cellsOf t==1|_=>false
def RX (e:Program→TypeId→Bool)(P:Program)(t:TypeId):Bool:=match P.underlying t with|some (.slice u)=>e P u|_=>false
def Zb (n:Nat)(e:Program→TypeId→Bool)(P:Program)(t:TypeId):Bool:=match P.underlying t with|some (.array n' u)=>n==n'&&P.cellsOf t==n*P.cellsOf u&&e P u|_=>false
def U9 (a b:Program→TypeId→Bool)(P:Program)(t:TypeId):Bool:=match P.underlying t with|some (.struct ⟨[x,y]⟩)=>x.offset==0&&y.offset==1&&a P x.type&&b P y.type&&P.cellsOf t==2|_=>false
theorem Cg.kind {P:Program}{L:List (String×DataW Unit)}{h:ah}(H:Cg P L h)(hn:(L.all λx=>x.2.handleName?.isNone)=true){n:String}{d:DataW Unit}(I:(n,d)∈L)(w:World)(F:w.heap=h)
  {g:Nat} {k:Program→TypeId→Bool} (A:zbW P n g k=true):
  ∃t cs fuel p,P.globalNamed n=some g∧k P t=true∧w.var? P n=some cs∧(∀i,aG h ⟨g,i,none⟩=cs[i]?)∧DataW.trod (λ_=>()) P w 0 (λ_=>true) false fuel t cs.toList=some (d,p):=by
 obtain⟨U,t,cs,fuel,p,h1,W,G,h4⟩:=H.at hn I w F;unfold zbW at A;rw[dh,dS]at A;obtain⟨k1,D⟩:=A;obtain rfl:U=g:=sQ (h1.symm.trans k1);rw[W]at D;refine⟨t,cs,fuel,p,h1,D,G,λi=>?_,h4⟩;subst F;exact World.var?_cell h1 G i
theorem Xl {k:IntKind}{P:Program}{w:World}{fuel:Nat}{t:TypeId}{cs:List Value}{z:Int}{p:List MemPlace}(A:WC k P t=true)(h:DataW.trod (λ_=>()) P w 0 (λ_=>true) false fuel t cs=some (.lit (.int k z),p)):cs=[.int k z]∧P.cellsOf t=1:=by
 unfold WC at A;split at A
 ·rename_i k' hu;rw[dh,dS]at A;obtain⟨rfl,hc⟩:=A;obtain⟨n,rfl,D,_⟩:=DataW.trod_int hu h;cases D;exact⟨rfl,by simpa using hc⟩
 ·cases A
theorem OY {P:Program}{w:World}{fuel:Nat}{t:TypeId}{cs:List Value}{z:List UInt8}{p:List MemPlace}(A:MT P t=true)(h:DataW.trod (λ_=>()) P w 0 (λ_=>true) false fuel t cs=some (.lit (.string z),p)):cs=[.string ⟨⟨z⟩⟩]∧P.cellsOf t=1:=by
 unfold MT at A;split at A
 ·rename_i hu;obtain⟨s,rfl,D,_⟩:=DataW.trod_string hu h;cases D;exact⟨rfl,by simpa using A⟩
 ·cases A
theorem Ef {cs:List Value}{i:Nat}{v:Value}(h:(cs.drop i).take 1=[v]):cs[i]? =some v:=by
 have:=congrArg (λl=>l[0]?) h;simpa using this
theorem Xk {P:Program}{w:World}{h:ah}(hw:w.heap=h){fuel:Nat}{t:TypeId}{cs:List Value}{zs:List (List UInt8)}{p:List MemPlace}(hz:zs≠[])(F:RX MT P t=true)
  (H:DataW.trod (λ_=>()) P w 0 (λ_=>true) false fuel t cs=some (.slice (zs.map λz=>.lit (.string z)) [],p)):
  ∃b o cap,cs=[.slice (some ⟨b,o,none⟩) zs.length cap]∧∀i (hi:i<zs.length),aG h ⟨b,o+i,none⟩=some (.string ⟨⟨zs[i]⟩⟩):=by
 unfold RX at F;split at F
 ·rename_i u hu;have c1:P.cellsOf u=1:=by
   unfold MT at F;split at F
   ·simpa using F
   ·cases F
  rcases DataW.trod_slice hu H with⟨_,he⟩|⟨a,len,cap,A,rest,m,rfl,rfl,he,_,_,_,al,G,_⟩
  ·cases he
  ·have I:A.map (·.1)=zs.map λz=>DataW.lit (.string z):=by
    have:=congrArg (λx=>x.1) he;simp only[DataW.slice.injEq]at this;exact this.1.symm
   have hl:A.length=zs.length:=by simpa using congrArg List.length I
   have L:len=zs.length:=ae;subst L;have ha:∃b o,a=⟨b,o,none⟩:=by
    have h0:0<zs.length:=wZ.2 hz;have:=G 0 h0;rw[ja ae]at this;cases hc:w.cells? 0 (a.add (0*P.cellsOf u)) (P.cellsOf u)with
    |none=>rw[hc]at this;cases this
    | some l=>
     obtain⟨b,o,s⟩:=a;cases s with
     |none=>exact⟨b,o,rfl⟩
     |some x=>
      exfalso;obtain⟨W,D⟩:=Fj hc;rw[c1]at W;have D:=D 0 ae;unfold aG at D;split at D
      ·rw[aA (by unfold Addr.add;split<;>simp_all)]at D;cases D
      ·cases D
   obtain⟨b,o,rfl⟩:=ha;refine⟨b,o,cap,rfl,λi hi=>?_⟩;have h1:=G i hi;have aa:A[i]? =some (A[i]'ae):=ja ae;rw[aa,c1,lX]at h1;have D:(A[i]'ae).1=.lit (.string zs[i]):=by
    have:=congrArg (λl=>l[i]?) I;simpa[hi,hl]using this
   obtain⟨x,y,ab⟩:∃x y,A[i]'ae=(x,y):=⟨_,_,rfl⟩
   rw[ab]at h1 D;simp only at D;rw[D,RI]at h1;obtain⟨l,ad,U⟩:=h1;have W:=(OY F U).1;subst W;have h4:=(Fj ad).2 0 (by simp);rw[Ih,Ih,hw]at h4;simpa using h4
 ·cases F
theorem Ux {k:IntKind}{P:Program}{w:World}{fuel:Nat}{t:TypeId}{cs:List Value}{zs:List (List UInt8×Int)}{p:List MemPlace}(H:Zb zs.length (U9 MT (WC k)) P t=true)
  (h:DataW.trod (λ_=>()) P w 0 (λ_=>true) false fuel t cs=some (.agg (zs.map λz=>.agg [.lit (.string z.1),.lit (.int k z.2)]),p)):
  ∀i (hi:i<zs.length),cs[2*i]? =some (.string ⟨⟨zs[i].1⟩⟩)∧cs[2*i+1]? =some (.int k zs[i].2):=by
 unfold Zb at H;split at H
 ·rename_i n u hu;rw[dh,dh]at H;obtain⟨⟨hn,hc⟩,hi⟩:=H;obtain⟨L,m,rfl,he,hl,hx,U⟩:=DataW.trod_array hu h;have hn:zs.length=n:=by simpa using hn
  subst hn;unfold U9 at hi;split at hi
  ·rename_i f1 f2 hs;simp only[dh,CV]at hi;obtain⟨⟨⟨⟨o1,o2⟩,t1⟩,t2⟩,c2⟩:=hi;have ab:L.map (·.1)=zs.map λz=>DataW.agg [.lit (.string z.1),.lit (.int k z.2)]:=by
    have:=congrArg (λx=>x.1) he;simpa using this.symm
   intro i I;have h1:=U i I;have aa:L[i]? =some (L[i]'ae):=ja ae;rw[aa,c2]at h1;have W:(L[i]'ae).1=.agg [.lit (.string zs[i].1),.lit (.int k zs[i].2)]:=by
    have:=congrArg (λl=>l[i]?) ab;simpa[I,hx]using this
   obtain⟨a,b,al⟩:∃a b,L[i]'ae=(a,b):=⟨_,_,rfl⟩
   rw[al]at h1 W;simp only at W;rw[W]at h1;obtain⟨ys,m',rfl,A,an,hy,D⟩:=DataW.trod_struct hs h1;have ad:ys.length=2:=hy
   match ys,ad,A,D with
   | [y1,y2],_,A,D=>
    have A:=congrArg (λx=>x.1) A;simp only[uo,List.map_nil,DataW.agg.injEq,List.cons.injEq,and_true]at A;have a1:=D 0 f1 rfl;have a2:=D 1 f2 rfl;rw[o1]at a1;rw[o2]at a2;obtain⟨a,b⟩:=y1;obtain⟨a',b'⟩:=y2;simp only at A;obtain⟨rfl,rfl⟩:=A;have F:=OY t1 a1;have G:=Xl t2 a2;rw[F.2]at F;rw[G.2]at G;have F:=Ef F.1;have G:=Ef G.1;rw[Wm ae,List.getElem?_drop]at F G;refine⟨?_,?_⟩
    ·rw[eO];simpa using F
    ·rw[eO];simpa using G
  ·cases hi
 ·cases H
end Go.Crisp
namespace Go.Proofs.YtjljhnandbbldaaGreatDoor
open Go Go.Crisp
open _root_.Go.Proofs.Tryz
theorem Zg {L:List (String×DataW Unit)}{h:ah}(H:Cg prog L h)(hn:(L.all λx=>x.2.handleName?.isNone)=true)
  (m1:("smalto/border.names",Rows.laid_smalto_border_names)∈L) (m2:("smalto/raw.kinds",Rows.laid_smalto_raw_kinds)∈L):eB h:=by
 let w:World:=⟨h,λ_ _=>0,0,default,#[]⟩
 refine⟨?_,?_⟩
 ·obtain⟨t,cs,fuel,p,_,hk,_,hc,ht⟩:=H.kind hn m1 w rfl (g:=oK) (k:=RX MT) (by kernel_rfl);obtain⟨b,o,cap,he,hx⟩:=Xk (h:=h) rfl (zs:=[[99,108,97,109,112],[109,105,114,114,111,114],[119,114,97,112]]) (by simp) hk ht;have h0:=hc 0;obtain⟨l⟩:=cs;rw[show l=_ from he]at h0;refine⟨_,h0,by simp,some ⟨b,o,none⟩,cap,rfl,.inr ⟨b,o,rfl,λj hj=>?_⟩⟩;have:=hx j hj;rw[this]
  match j,hj with
  |0,_=>rfl
  |1,_=>rfl
  |2,_=>rfl
 ·obtain⟨t,cs,fuel,p,_,hk,_,hc,ht⟩:=H.kind hn m2 w rfl (g:=fH) (k:=Zb 3 (U9 MT (WC .i64))) (by kernel_rfl);have:=Ux (zs:=[([98,111,120],0),([99,117,98,105,99],2),([108,97,110,99,122,111,115],3)]) hk ht;intro i hi;have h1:=this i hi;rw[hc,hc];rw[um,um]at h1;rw[h1.1,h1.2]
  match i,hi with
  |0,_=>exact⟨rfl,rfl⟩
  |1,_=>exact⟨rfl,rfl⟩
  |2,_=>exact⟨rfl,rfl⟩
end Go.Proofs.YtjljhnandbbldaaGreatDoor
namespace Go.Crisp
open Go
theorem ka (n:Int):I64 (IntKind.i64.wrap n):=by rw[iW];unfold I64;omega
theorem uJ (a b:Int):IntKind.i64.wrap (IntKind.i64.wrap a+b)=IntKind.i64.wrap (a+b):=by rw[iW,iW,iW];omega
theorem pX (a b:Int):IntKind.i64.wrap (a+IntKind.i64.wrap b)=IntKind.i64.wrap (a+b):=by rw[iW,iW,iW];omega
theorem yF (a b:Int):IntKind.i64.wrap (IntKind.i64.wrap a-b)=IntKind.i64.wrap (a-b):=by rw[iW,iW,iW];omega
theorem Ek (a b:Int):IntKind.i64.wrap (a-IntKind.i64.wrap b)=IntKind.i64.wrap (a-b):=by rw[iW,iW,iW];omega
def nM (x n:Int):Int:=if n≤0 then x else if 64≤n then 0 else x/2^n.toNat+x/2^(n.toNat-1)%2
theorem za2 {x:Int}{k:Nat}(D:I64 x): -9223372036854775808≤x/2^k∧x/2^k≤9223372036854775807:=by
 obtain⟨F,G⟩:=D;have A:(0:Int)<2^k:=Ha ae;constructor
 ·rw[ui A];have: -9223372036854775808*(2:Int)^k≤ -9223372036854775808*1:=RH ae ae;omega
 ·apply G9;rw[wW A];have:(9223372036854775807+1)*1≤(9223372036854775807+1)*(2:Int)^k:=qR ae ae;omega
theorem En {x n:Int}(A:I64 x):I64 (nM x n):=by
 unfold nM;split
 ·exact A
 split
 ·unfold I64;omega
 ·have F:(2:Int)^n.toNat=2^(n.toNat-1)*2:=by
   obtain⟨j,G⟩:∃j,n.toNat=j+1:=⟨n.toNat-1,ae⟩
   rw[G,zh,Int.pow_succ]
  have H:(0:Int)<2^(n.toNat-1):=Ha ae;have D:x/2^n.toNat=x/2^(n.toNat-1)/2:=by rw[F,Int.ediv_ediv,az ae,Int.sub_zero]
  have:=za2 (k:=n.toNat-1) A;unfold I64;rw[D];omega
def fC (r:Int):Nat→Int×Int
 |0=>(1099511627776,1099511627776)
 | i+1=>(IntKind.i64.wrap (if i%2=0 then(fC r i).1-cS (fC r i).2 r (((i:Int)+1)*1099511627776)else(fC r i).1+cS (fC r i).2 r (((i:Int)+1)*1099511627776)),
   cS (fC r i).2 r (((i:Int)+1)*1099511627776))
def XY (t:Int):Int:=nM (fC (max 0 t%762123384786) 16).1 (max 0 t/762123384786)
def Et (d sigma:Int):Int:=if sigma<1∨4194304<sigma∨d< -16384∨16384<d then 9223372036854775807 else cS (d*d*2147483648) 1099511627776 (sigma*sigma)
def BQ (d sigma:Int):Int:=nM (XY (Et d sigma)) 10
theorem gk (a b d:Int):I64 (cS a b d):=by
 unfold cS;split
 ·unfold I64;omega
 ·exact Pz _ _
theorem BU (r:Int):∀i,I64 (fC r i).1∧I64 (fC r i).2
 |0=>⟨by unfold I64 fC;omega,by unfold I64 fC;omega⟩
 |i+1=>by simp only[fC];exact⟨ka _,gk _ _ _⟩
theorem M8 (t:Int):I64 (XY t):=En (BU _ _).1
theorem LN (d s:Int):I64 (Et d s):=by
 unfold Et;split
 ·unfold I64;omega
 ·exact gk _ _ _
theorem Vc (d s:Int):I64 (BQ d s):=En (M8 _)
theorem O0 {d B:Int}(h1: -B≤d)(A:d≤B):0≤d*d∧d*d≤B*B:=by
 refine⟨by rcases CM 0 d with h|h;exact mV h h;exact Int.mul_nonneg_of_nonpos_of_nonpos h h,?_⟩;rcases CM 0 d with h|h
 ·exact qn A A h ae
 ·have: -d* -d≤B*B:=qn ae ae ae ae
  rwa [Int.neg_mul_neg]at this
def Kx (p q:Int):Prop:=1≤q∧q≤1048576∧ -4*q≤p∧p≤4*q
instance (p q:Int):Decidable (Kx p q):=by unfold Kx;infer_instance
def cA (u:Int):Nat→Int×Int
 |0=>(1099511627776,1099511627776)
 | i+1=>(IntKind.i64.wrap (if i%2=0 then(cA u i).1-cS (cA u i).2 u (2*((i:Int)+1)*(2*((i:Int)+1)+1)*1099511627776)else(cA u i).1+cS (cA u i).2 u (2*((i:Int)+1)*(2*((i:Int)+1)+1)*1099511627776)),
   cS (cA u i).2 u (2*((i:Int)+1)*(2*((i:Int)+1)+1)*1099511627776))
def yO (p q:Int):Int:=(cA (cS (cS 10851744800547 (max p (-p)) q) (max p (-p)) q) 30).1
theorem yN (r:Int):∀i,I64 (cA r i).1∧I64 (cA r i).2
 |0=>⟨by unfold I64 cA;omega,by unfold I64 cA;omega⟩
 |i+1=>by simp only[cA];exact⟨ka _,gk _ _ _⟩
theorem wN (p q:Int):I64 (yO p q):=(yN _ _).1
def Lp (m n:Nat)(below:Bool):Nat:=if n=0 then m else m/2^n+(if m/2^(n-1)%2=1∧¬(below=true∧m%2^(n-1)=0)then 1 else 0)
def qi (a b n:Int):Int:=if 128≤n then 0 else jK (Lp (a.natAbs*b.natAbs) n.toNat (kI a b)) (kI a b)
theorem xr (a b n:Int):I64 (qi a b n):=by
 unfold qi;split
 ·unfold I64;omega
 ·exact Pz _ _
def vB (p q:Int):Int:=if¬Kx p q∨3*q≤max p (-p)then 0 else nM (qi (yO p q) (yO p (3*q)) 40) 10
theorem RW (p q:Int):I64 (vB p q):=by
 unfold vB;split
 ·unfold I64;omega
 ·exact En (xr _ _ _)
def gD (b w:Bool)(v:Value):Value:=bif b==w then v else undef
theorem gD_tt (v:Value):gD true true v=v:=cR rfl rfl
theorem gD_ff (v:Value):gD false false v=v:=cR rfl rfl
theorem gD_tf (v:Value):gD true false v=undef:=cR rfl rfl
theorem gD_ft (v:Value):gD false true v=undef:=cR rfl rfl
theorem gD_gD (b w:Bool)(v:Value):gD b w (gD b w v)=gD b w v:=by cases b<;>cases w<;>rfl
theorem gV_gD (b w:Bool)(v:Value):gV (.bool b) w (some v)=some (gD b w v):=by cases b<;>cases w<;>rfl
theorem gV_un (b w:Bool)(o:UnOp)(v:Value):gV (.bool b) w (unV o (gD b w v))=gV (.bool b) w (unV o v):=by cases b<;>cases w<;>rfl
theorem zbb (b w:Bool)(e:EK)(o:BinOp)(v u:Value):gV (.bool b) w (ak e o (gD b w v) u)=gV (.bool b) w (ak e o v u):=by cases b<;>cases w<;>rfl
theorem zba (b w:Bool)(e:EK)(o:BinOp)(v u:Value):gV (.bool b) w (ak e o u (gD b w v))=gV (.bool b) w (ak e o u v):=by cases b<;>cases w<;>rfl
theorem zcy (b w:Bool)(k:IntKind)(v:Value):gV (.bool b) w (gd k (gD b w v))=gV (.bool b) w (gd k v):=by cases b<;>cases w<;>rfl
theorem zcw (b w:Bool)(n:Nat)(v:Value):gV (.bool b) w (aB n (gD b w v))=gV (.bool b) w (aB n v):=by cases b<;>cases w<;>rfl
theorem gV_ld (b w:Bool)(h:ah)(v:Value):gV (.bool b) w (ldV h (gD b w v))=gV (.bool b) w (ldV h v):=by cases b<;>cases w<;>rfl
theorem zcv (b w:Bool)(n:Nat)(h:ah)(v:Value):gV (.bool b) w (aO n h (gD b w v))=gV (.bool b) w (aO n h v):=by cases b<;>cases w<;>rfl
theorem za9 (b w:Bool)(n:Nat)(v u:Value):gV (.bool b) w (bu n (gD b w v) u)=gV (.bool b) w (bu n v u):=by cases b<;>cases w<;>rfl
theorem za8 (b w:Bool)(n:Nat)(v u:Value):gV (.bool b) w (bu n u (gD b w v))=gV (.bool b) w (bu n u v):=by cases b<;>cases w<;>rfl
theorem Zp (b w:Bool)(v:Value):gV (.bool b) w (aD (gD b w v))=gV (.bool b) w (aD v):=by cases b<;>cases w<;>rfl
theorem Zo (b w:Bool)(v:Value):gV (.bool b) w (IR (gD b w v))=gV (.bool b) w (IR v):=by cases b<;>cases w<;>rfl
theorem zcx (b w:Bool)(n:Nat)(v:Value):gV (.bool b) w (aL (gD b w v) n)=gV (.bool b) w (aL v n):=by cases b<;>cases w<;>rfl
theorem zcu (b w:Bool)(v:Value):gV (.bool b) w (aR (gD b w v))=gV (.bool b) w (aR v):=by cases b<;>cases w<;>rfl
theorem za7 (b w:Bool)(v u:Value):gV (.bool b) w (jS (gD b w v) u)=gV (.bool b) w (jS v u):=by cases b<;>cases w<;>rfl
theorem za6 (b w:Bool)(v u:Value):gV (.bool b) w (jS u (gD b w v))=gV (.bool b) w (jS u v):=by cases b<;>cases w<;>rfl
theorem za5 (b w:Bool)(v u:Value):gV (.bool b) w (rR (gD b w v) u)=gV (.bool b) w (rR v u):=by cases b<;>cases w<;>rfl
theorem za4 (b w:Bool)(v u:Value):gV (.bool b) w (rR u (gD b w v))=gV (.bool b) w (rR u v):=by cases b<;>cases w<;>rfl
theorem za3 (b w a:Bool)(n o:Nat)(v:Value):gV (.bool b) w (pS a n o (gD b w v))=gV (.bool b) w (pS a n o v):=by cases b<;>cases w<;>rfl
theorem Zj (b w:Bool)(v u x:Value):gV (.bool b) w (aE (gD b w v) u x)=gV (.bool b) w (aE v u x):=by cases b<;>cases w<;>rfl
theorem Zi (b w:Bool)(v u x:Value):gV (.bool b) w (aE v (gD b w u) x)=gV (.bool b) w (aE v u x):=by cases b<;>cases w<;>rfl
theorem Zh (b w:Bool)(v u x:Value):gV (.bool b) w (aE v u (gD b w x))=gV (.bool b) w (aE v u x):=by cases b<;>cases w<;>rfl
theorem YT (b c:Bool):aE (.bool b) (gD b true (.bool c)) (.bool false)=some (.bool (b&&c)):=by cases b<;>rfl
theorem zaQ (b c:Bool):aE (.bool b) (.bool true) (gD b false (.bool c))=some (.bool (b||c)):=by cases b<;>rfl
theorem Zq (b w c A:Bool)(r:Option Value):gV (gD b w (.bool c)) A r=gV (.bool ((b==w)&&(c==A))) true r:=by cases b<;>cases w<;>cases c<;>cases A<;>rfl
theorem Zs (b w c A:Bool)(m:(Value→ah→Prop)→Prop)(h:ah)(K:Value→ah→Prop):gK (gD b w (.bool c)) A m h K=gK (.bool ((b==w)&&(c==A))) true m h K:=by cases b<;>cases w<;>cases c<;>cases A<;>rfl
theorem TE (b c d:Bool):gV (.bool b) true (aE (.bool c) (gD (b&&c) true (.bool d)) (.bool false))=some (gD b true (.bool (c&&d))):=by cases b<;>cases c<;>rfl
theorem TF (b c d:Bool):gV (.bool b) false (aE (.bool c) (gD (!b&&c) true (.bool d)) (.bool false))=some (gD b false (.bool (c&&d))):=by cases b<;>cases c<;>rfl
theorem WK (b c d:Bool):gV (.bool b) true (aE (.bool c) (.bool true) (gD (b&& !c) true (.bool d)))=some (gD b true (.bool (c||d))):=by cases b<;>cases c<;>rfl
theorem WL (b c d:Bool):gV (.bool b) false (aE (.bool c) (.bool true) (gD (!b&& !c) true (.bool d)))=some (gD b false (.bool (c||d))):=by cases b<;>cases c<;>rfl
theorem XU (p q:Prop)[Decidable p][Decidable q](d:Bool):gV (.bool (decide p)) true (aE (.bool (decide q)) (gD (decide (p∧q)) true (.bool d)) (.bool false))=some (gD (decide p) true (.bool (decide q&&d))):=by rw[G8];exact TE _ _ _
theorem XV (p q:Prop)[Decidable p][Decidable q](d:Bool):gV (.bool (decide p)) false (aE (.bool (decide q)) (gD (decide (¬p∧q)) true (.bool d)) (.bool false))=some (gD (decide p) false (.bool (decide q&&d))):=by rw[G8,G7];exact TF _ _ _
theorem Zk (p q:Prop)[Decidable p][Decidable q](d:Bool):gV (.bool (decide p)) true (aE (.bool (decide q)) (.bool true) (gD (decide (p∧¬q)) true (.bool d)))=some (gD (decide p) true (.bool (decide q||d))):=by rw[G8,G7];exact WK _ _ _
theorem Zn (p q:Prop)[Decidable p][Decidable q](d:Bool):gV (.bool (decide p)) false (aE (.bool (decide q)) (.bool true) (gD (decide (¬p∧¬q)) true (.bool d)))=some (gD (decide p) false (.bool (decide q||d))):=by rw[G8,G7,G7];exact WL _ _ _
theorem beq_t (b:Bool):(b==true)=b:=by cases b<;>rfl
theorem beq_f (b:Bool):(b==false)= !b:=by cases b<;>rfl
theorem zbh (p q:Prop)[Decidable p][Decidable q]:(decide p&&decide q)=decide (p∧q):=(G8 p q).symm
theorem zcI (p q:Prop)[Decidable p][Decidable q]:(decide p||decide q)=decide (p∨q):=(RG p q).symm
theorem WT (p:Prop)[Decidable p]:(!decide p)=decide (¬p):=G7.symm
theorem zcH (p:Prop)[Decidable p]:decide (True∧p)=decide p:=by by_cases h:p<;>simp[h]
theorem zcK (p:Prop)[Decidable p]:decide (p∧True)=decide p:=by by_cases h:p<;>simp[h]
theorem zcJ (p:Prop)[Decidable p]:decide (False∧p)=false:=by simp
theorem zcL (p:Prop)[Decidable p]:decide (p∧False)=false:=by simp
theorem gK_f {b:Bool}{m:(Value→ah→Prop)→Prop}{h:ah}{K:Value→ah→Prop}(h1:b=false→m K)(A:b=true→K undef h):gK (.bool b) false m h K:=by
 cases b
 ·exact h1 rfl
 ·exact A rfl
theorem lG {init:List Value}{h:ah}{body:List Value→Env→ah→(List Value→ah→Prop)→Prop}(st:Nat→List Value)(N A:Nat)(hi:init=st A)(h0:A≤N)
  (step:∀i again ρj,A≤i→i≤N→(i<N→again (st (i+1)) h)→body (st i) ρj h again):aZ init h body:=by
 refine dw (λd D h'=>∃i,d=N-i∧A≤i∧i≤N∧D=st i∧h'=h) (N-A) ⟨A,rfl,bU _,h0,hi,rfl⟩ ?_;rintro d D ρj h' again ⟨i,rfl,h1,G,rfl,rfl⟩ H;exact step i again ρj h1 G λF=>H _ _ (N-(i+1)) ae ⟨i+1,rfl,ae,F,rfl,rfl⟩
theorem bH {α:Type}{init:List Value}{h:ah}{body:List Value→Env→ah→(List Value→ah→Prop)→Prop}(N A:Nat)(st:Nat→α→List Value)(I:Nat→α→ah→Prop)(a0:α)(hi:init=st A a0)(h0:A≤N)(W:I A a0 h)
  (step:∀i a h again ρj,A≤i→i≤N→I i a h→(∀D h',i<N→I (i+1) D h'→again (st (i+1) D) h')→body (st i a) ρj h again):aZ init h body:=by
 refine dw (λd G h'=>∃i a,d=N-i∧A≤i∧i≤N∧G=st i a∧I i a h') (N-A) ⟨A,a0,rfl,bU _,h0,hi,W⟩ ?_;rintro d G ρj h' again ⟨i,a,rfl,h1,U,rfl,hi⟩ H;exact step i a h' again ρj h1 U hi λD h' L F=>H _ _ (N-(i+1)) ae ⟨i+1,D,rfl,ae,L,rfl,F⟩
attribute [go_sem] gD_gD gD_tt gD_ff gD_tf gD_ft gV_gD gV_un zbb zba zcy zcw gV_ld zcv za9 za8 Zp Zo zcx zcu za7 za6 za5 za4 za3 Zj Zi Zh true_or or_true false_or or_false zcH zcK zcJ zcL YT zaQ Zq Zs TE TF WK WL XU XV Zk Zn beq_t beq_f zbh zcI WT
attribute [irreducible] gD
end Go.Crisp
namespace Go.Proofs.YtjljhnandbbldaaGreatDoor
open Go Go.Crisp
attribute [local irreducible] ag df aW stK aF vK qK bJ gK eK aZ mkK di Fi GM CF bsK
open _root_.Go.Proofs.Tryz
theorem nC {h:ah}{x:Int}(A:I64 x):ag prog iV #[af x] h λr h'=>r=.int .u64 (x.natAbs:Int)∧h'=h:=by
 apply OG;unfold DZ;simp only[go_sem];refine ao (λh0=>?_) (λh0=>?_)
 ·rw[SH A h0];exact⟨rfl,trivial⟩
 ·rw[SG A h0];exact⟨rfl,trivial⟩
theorem si {h:ah}{m:Nat}{b:Bool}(A:m<18446744073709551616):ag prog lN #[.int .u64 (m:Int),.bool b] h λr h'=>r=af (jK m b)∧h'=h:=by
 apply OH;unfold D0;unfold jK;cases b
 ·simp only[go_sem,gF,cF];refine ao (λh0=>?_) (λh0=>?_)
  ·rw[aA ae];exact⟨rfl,trivial⟩
  ·rw[az ae,w64 ae ae];exact⟨rfl,trivial⟩
 ·simp only[go_sem,cJ];refine ao (λh0=>?_) (λh0=>?_)
  ·rw[aA ae];exact⟨rfl,trivial⟩
  ·rw[az ae,w64 (n:=(m:Int)) ae ae,w64 ae ae];exact⟨by congr 1;omega,trivial⟩
theorem KC {a b:Nat}(D:0<b)(A:a<18446744073709551616):ak .i .quo (.int .u64 (a:Int)) (.int .u64 (b:Int))=some (.int .u64 ((a/b:Nat):Int)):=by
 have e:(a:Int).tdiv (b:Int)=((a/b:Nat):Int):=(Int.ofNat_tdiv a b).symm;rw[mq _ _ _ _ ae,e,ga (sP (jy _ _) A)]
theorem VW {a b:Nat}(A:0<b):ak .i .rem (.int .u64 (a:Int)) (.int .u64 (b:Int))=some (.int .u64 ((a%b:Nat):Int)):=by
 have e:(a:Int).tmod (b:Int)=((a%b:Nat):Int):=(Int.ofNat_tmod a b).symm;rw[dP _ _ _ _ ae,e]
theorem js {x:Int}(h:I64 x):x.natAbs<18446744073709551616:=by unfold I64 at h;omega
theorem qh {x:Int}(h:I64 x):x.natAbs≤9223372036854775808:=by unfold I64 at h;omega
theorem Lc {h:ah}{a b:Int}(F:I64 a)(G:I64 b):ag prog kn #[af a,af b] h λr h'=>r=af (IY a b)∧h'=h:=by
 apply Mq;unfold Bh;simp only[go_sem];unfold IY;refine ao (λh0=>?_) (λh0=>?_)
 ·rw[aA h0];exact⟨rfl,trivial⟩
 rw[az h0];refine aP (λh'=>h'=h) rfl ?_;refine(nC F).mono λv1 h1 ⟨L,w1⟩=>?_
 subst L w1
 try refine⟨rfl,?_⟩
 refine(nC G).mono λv2 h2 ⟨e2,W⟩=>?_
 subst e2 W
 try refine⟨rfl,?_⟩
 have D:0<b.natAbs:=ae;have aa:=qh F;rw[KC D (js F),aj];refine(nC F).mono λv3 h3 ⟨e3,w3⟩=>?_
 subst e3 w3
 try refine⟨rfl,?_⟩
 refine(nC G).mono λv4 h4 ⟨U,I⟩=>?_
 subst U I
 try refine⟨rfl,?_⟩
 rw[VW D,aj];simp only[go_sem];have hq:a.natAbs/b.natAbs≤a.natAbs:=jy _ _;by_cases hd:kI a b=true
 ·have A:(!(decide (a<0)==decide (b<0)))=true:=hd;rw[A];simp only[go_sem];by_cases H:a.natAbs%b.natAbs=0
  ·have q:(((a.natAbs%b.natAbs:Nat):Int)=0)=True:=jx ae;simp only[go_sem,q];rw[hd];unfold Fg;rw[az (by simp[H])];exact si ae
  ·have q:(((a.natAbs%b.natAbs:Nat):Int)=0)=False:=fJ ae;simp only[go_sem,q];rw[hd,show((a.natAbs/b.natAbs:Nat):Int)+1=((a.natAbs/b.natAbs+1:Nat):Int)from rfl,ga (m:=a.natAbs/b.natAbs+1) ae];unfold Fg;rw[aA ⟨rfl,H⟩];exact si (m:=a.natAbs/b.natAbs+1) ae
 ·have hd:kI a b=false:=by simpa using hd
  have A:(!(decide (a<0)==decide (b<0)))=false:=hd;rw[A];simp only[go_sem];rw[hd];unfold Fg;rw[az (by simp)];exact si ae
theorem zbR (a:Int):ak .i .and (af a) aH=some (af (a%2)):=by
 have e:(BitVec.ofInt 64 a&&& BitVec.ofInt 64 1).toNat=(a%2).toNat:=by
  rw[BitVec.toNat_and,RF,RF];have h1:(1%((2^64:Nat):Int)).toNat=1:=by decide
  rw[h1,Hl];omega
 show some (af (IntKind.i64.wrap (((BitVec.ofInt 64 a&&& BitVec.ofInt 64 1).toNat:Nat):Int)))=_;rw[e,w64 ae ae]
 congr 2;omega
theorem VS (x:Int)(n:Nat)(A:n≤64):ak .i .shr (af x) (af (n:Int))=some (af (x/2^n)):=by
 show(if(n:Int)<0 then none else some (af (x.fdiv (2^(min (n:Int).toNat 64)))))=_;rw[az ae,eT,uj A,RE _ (Int.le_of_lt (Ha ae))]
theorem Lb {h:ah}{x n:Int}(F:I64 x)(L:I64 n):ag prog km #[af x,af n] h λr h'=>r=af (nM x n)∧h'=h:=by
 apply Mp;unfold Bg;simp only[go_sem];unfold nM;refine ao (λh0=>?_) (λh0=>?_)
 ·rw[aA h0];exact⟨rfl,trivial⟩
 rw[az h0];refine ao (λh1=>?_) (λh1=>?_)
 ·rw[aA h1];exact⟨rfl,trivial⟩
 rw[az h1];obtain⟨k,rfl⟩:∃k:Nat,n=(k:Int):=⟨n.toNat,ae⟩
 rw[w64 (n:=(k:Int)-1) ae ae,show(k:Int)-1=((k-1:Nat):Int)by omega,VS x k ae,aj,VS x (k-1) ae,aj,zbR,aj];simp only[go_sem,eT];refine⟨?_,trivial⟩
 congr 1
 have D:(2:Int)^k=2*2^(k-1):=by
  obtain⟨j,rfl⟩:∃j,k=j+1:=⟨k-1,ae⟩
  rw[zh,Int.pow_succ,fQ]
 have A:(0:Int)<2^(k-1):=Ha ae;have G:x/2^k=x/2^(k-1)/2:=by rw[D,fQ,Int.ediv_ediv,az ae,Int.sub_zero]
 obtain⟨H,I⟩:=F;have U: -9223372036854775808≤x/2^(k-1)∧x/2^(k-1)≤9223372036854775807:=by
  constructor
  ·rw[ui A];have: -9223372036854775808*(2:Int)^(k-1)≤ -9223372036854775808*1:=RH ae ae;omega
  ·apply G9;rw[wW A];have:(9223372036854775807+1)*1≤(9223372036854775807+1)*(2:Int)^(k-1):=qR ae ae;omega
 rw[w64 ae ae]
end Go.Proofs.YtjljhnandbbldaaGreatDoor
namespace Go.Proofs.YtjljhnandbbldaaGreatDoor
open Go Go.Crisp
open _root_.Go.Proofs.Tryz
def NW:Go.Shelf.Ren:=⟨λn=>match n with|264=>287|n=>n,λn=>match n with|46=>260|53=>303|n=>n,λn=>n⟩
theorem XO:Go.Proofs.Lays.n264 prog NW where
 mixed:=by kernel_rfl
 f264:=by kernel_rfl
 t46:=by kernel_rfl
 a46:=λw=>cn (by kernel_rfl)
 z46:=λw=>bD (by kernel_rfl)
 v46:=λw=>bA (by kernel_rfl)
 t53:=by kernel_rfl
 a53:=λw=>cn (by kernel_rfl)
 z53:=λw=>bD (by kernel_rfl)
 v53:=λw=>bA (by kernel_rfl)
def NX:Go.Shelf.Ren:=⟨λn=>match n with|129=>199|n=>n,λn=>match n with|3=>3|4=>4|5=>5|9=>9|46=>260|53=>303|n=>n,λn=>n⟩
theorem XP:Go.Proofs.Lays.n129 prog NX where
 mixed:=by kernel_rfl
 f129:=by kernel_rfl
 t3:=by kernel_rfl
 a3:=λw=>cn (by kernel_rfl)
 z3:=λw=>bD (by kernel_rfl)
 v3:=λw=>bA (by kernel_rfl)
 t4:=by kernel_rfl
 a4:=λw=>cn (by kernel_rfl)
 z4:=λw=>bD (by kernel_rfl)
 v4:=λw=>bA (by kernel_rfl)
 t5:=by kernel_rfl
 a5:=λw=>cn (by kernel_rfl)
 z5:=λw=>bD (by kernel_rfl)
 v5:=λw=>bA (by kernel_rfl)
 t9:=by kernel_rfl
 a9:=λw=>cn (by kernel_rfl)
 z9:=λw=>bD (by kernel_rfl)
 v9:=λw=>bA (by kernel_rfl)
 t46:=by kernel_rfl
 a46:=λw=>cn (by kernel_rfl)
 z46:=λw=>bD (by kernel_rfl)
 v46:=λw=>bA (by kernel_rfl)
 t53:=by kernel_rfl
 a53:=λw=>cn (by kernel_rfl)
 z53:=λw=>bD (by kernel_rfl)
 v53:=λw=>bA (by kernel_rfl)
def NY:Go.Shelf.Ren:=⟨λn=>match n with|25=>256|n=>n,λn=>match n with|22=>303|n=>n,λn=>n⟩
theorem XQ:Go.Proofs.Lays7.n25 prog NY where
 mixed:=by kernel_rfl
 f25:=by kernel_rfl
 t22:=by kernel_rfl
 a22:=λw=>cn (by kernel_rfl)
 z22:=λw=>bD (by kernel_rfl)
 v22:=λw=>bA (by kernel_rfl)
 i22:=by kernel_rfl
end Go.Proofs.YtjljhnandbbldaaGreatDoor
namespace Go.Proofs.YtjljhnandbbldaaGreatDoor
open Go Go.Crisp
attribute [local irreducible] ag df aW stK aF vK qK bJ gK eK aZ mkK di Fi GM CF bsK
open _root_.Go.Proofs.Tryz
theorem Fk {h:ah}{x:Int}(A:I64 x):ag prog sw #[af x] h λr h'=>r=.int .u64 (x.natAbs:Int)∧h'=h:=by
 apply Qv;unfold FH;simp only[go_sem];refine ao (λh0=>?_) (λh0=>?_)
 ·rw[SH A h0];exact⟨rfl,trivial⟩
 ·rw[SG A h0];exact⟨rfl,trivial⟩
section
attribute [local semireducible] ag
theorem Se {h:ah}{x y:Nat}(F:x<18446744073709551616)(A:y<18446744073709551616):
  ag prog kO #[.int .u64 (x:Int),.int .u64 (y:Int)] h λr h'=>r=.tuple #[.int .u64 ((x*y/18446744073709551616:Nat):Int),.int .u64 ((x*y%18446744073709551616:Nat):Int)]∧h'=h:=by
 refine ag.ofCalls (by kernel_rfl) λw D=>?_
 refine(Any.bits_Mul64 XO x y F A w).mono ?_;rintro e w' ⟨rfl,rfl⟩;exact⟨_,rfl,dD.refl _,rfl,D⟩
end
theorem PS {h:ah}{a b:Int}(A:I64 a)(D:I64 b):ag prog oO #[af a,af b] h λr h'=>
  r=.tuple #[.int .u64 ((a.natAbs*b.natAbs/18446744073709551616:Nat):Int),.int .u64 ((a.natAbs*b.natAbs%18446744073709551616:Nat):Int),.bool (kI a b)]∧h'=h:=by
 apply Kf;unfold Ac;refine(Fk A).mono λW h1 ⟨F,w1⟩=>?_
 subst F w1;refine(Fk D).mono λv2 h2 ⟨I,G⟩=>?_
 subst I;refine(Se (js A) (js D)).mono λv3 U ⟨H,L⟩=>?_
 subst H;simp only[go_sem];exact⟨rfl,L.trans G⟩
section
attribute [local semireducible] ag
theorem Xb {h:ah}{x y c:Nat}(hc:c≤1):ag prog gA #[.int .u64 (x:Int),.int .u64 (y:Int),.int .u64 (c:Int)] h λr h'=>
  r=.tuple #[.int .u64 (((x+y+c)%18446744073709551616:Nat):Int),.int .u64 (((x+y+c)/18446744073709551616:Nat):Int)]∧h'=h:=
 ag.ofRun λw A=>⟨_,w,Any7.bits_Add64 XQ x y c hc w,dD.refl _,rfl,A⟩
theorem zbJ {h:ah}{x:Nat}(D:x<18446744073709551616):ag prog xf #[.int .u64 (x:Int)] h λr h'=>r=af (Lib.bitLen x:Int)∧h'=h:=by
 refine ag.ofCalls (by kernel_rfl) λw A=>?_
 refine(Any.bits_Len64 XP (x:Int) w ae ae).mono ?_;rintro e w' ⟨rfl,rfl⟩;exact⟨_,rfl,dD.refl _,rfl,A⟩
end
theorem Je {h:ah}{x:Nat}(A:x<18446744073709551616):ag prog ir #[.int .u64 (x:Int)] h λr h'=>r=af (64-(Lib.bitLen x:Int))∧h'=h:=by
 apply tW;unfold kC;refine(zbJ A).mono λv h1 ⟨D,w1⟩=>?_
 subst D;have:=Lib.bitLen_le x 64 (bU _) A;have this:Lib.bitLen x≤64:=this;simp only[go_sem];rw[w64 ae ae];exact⟨rfl,w1⟩
theorem B5 {h:ah}{m:Nat}{b:Bool}(A:m<340282366920938463463374607431768211456):
  ag prog eF #[.int .u64 ((m/18446744073709551616:Nat):Int),.int .u64 ((m%18446744073709551616:Nat):Int),.bool b] h λr h'=>r=af (jK m b)∧h'=h:=by
 apply LS;unfold AL;unfold jK;cases b
 ·simp only[go_sem,gF,cF];refine ao (λh0=>?_) (λh0=>?_)
  ·rw[aA ae];exact⟨rfl,trivial⟩
  ·rw[az ae,w64 ae ae];exact⟨by congr 1;omega,trivial⟩
 ·simp only[go_sem,cJ];refine ao (λh0=>?_) (λh0=>?_)
  ·rw[aA ae];exact⟨rfl,trivial⟩
  ·have e:IntKind.i64.wrap (IntKind.u64.wrap (0-((m%18446744073709551616:Nat):Int)))= -((m%18446744073709551616:Nat):Int):=by
    rw[eZ,iW];omega
   rw[e];refine⟨?_,trivial⟩
   congr 1
   split<;>omega
end Go.Proofs.YtjljhnandbbldaaGreatDoor
namespace Go.Crisp
open Go
section
structure NN (u d Y yn1 yn0 q r:Nat):Prop where
 eq:q*yn1+r=u
 up:(u*4294967296+d)/Y≤q
section
variable {u d Y yn1 yn0 q r:Nat}(hY:Y=yn1*4294967296+yn0)(h0:yn0<4294967296)(h1:2147483648≤yn1)(h1':yn1<4294967296)(hu:u<Y)(hd:d<4294967296)
theorem PA (hY:Y=yn1*4294967296+yn0)(g:NN u d Y yn1 yn0 q r):q*Y+r*4294967296=u*4294967296+q*yn0:=by
 have:=g.eq;rw[hY,He,←uh,←this,ef];omega
theorem Nf (hu:u<Y)(hd:d<4294967296):(u*4294967296+d)/Y<4294967296:=by
 rw[vz ae];have:(u+1)*4294967296≤Y*4294967296:=ic _ hu;rw[ef]at this;rw[eO 4294967296 Y];omega
theorem TD (hY:Y=yn1*4294967296+yn0)(h1:2147483648≤yn1)(hu:u<Y)(hd:d<4294967296):NN u d Y yn1 yn0 (u/yn1) (u-u/yn1*yn1):=by
 have A:u/yn1*yn1≤u:=G6 u yn1;refine⟨ae,?_⟩;rw[KR ae];have hq:(u*4294967296+d)/Y*Y≤u*4294967296+d:=G6 _ _;generalize(u*4294967296+d)/Y=Q at hq;rw[hY,He,←uh]at hq;generalize Q*yn1=a at hq ⊢;omega
theorem Fb (hY:Y=yn1*4294967296+yn0)(h1:2147483648≤yn1)(hu:u<Y)(hd:d<4294967296)(g:NN u d Y yn1 yn0 q r)(h:4294967296≤q∨4294967296*r+d<q*yn0):1≤q∧NN u d Y yn1 yn0 (q-1) (r+yn1):=by
 have A:=Nf hu hd;have F:(u*4294967296+d)/Y<q:=by
  rcases h with h|h
  ·exact bT A h
  ·rw[vz ae];have:=PA hY g
   clear hY A
   generalize q*Y=a at this ⊢;omega
 have D:1≤q:=sP (bZ _) F;refine⟨D,⟨?_,Nat.le_sub_one_of_lt F⟩⟩;have:=g.eq;obtain⟨k,rfl⟩:∃k,q=k+1:=⟨q-1,ae⟩
 rw[ef]at this;rw[zh];omega
theorem MY (hY:Y=yn1*4294967296+yn0)(h1:2147483648≤yn1)(g:NN u d Y yn1 yn0 q r)(h:q*yn0≤4294967296*r+d):q=(u*4294967296+d)/Y:=by
 have:=PA hY g;have A:=g.up;have:q≤(u*4294967296+d)/Y:=by
  rw[KR ae]
  clear hY A
  generalize q*Y=a at this ⊢;omega
 exact Nat.le_antisymm this A
theorem Vb (hY:Y=yn1*4294967296+yn0)(h0:yn0<4294967296)(h1:2147483648≤yn1)(hu:u<Y)(g:NN u d Y yn1 yn0 q r)(h:4294967296≤r):q=(u*4294967296+d)/Y:=by
 refine MY hY h1 g ?_;have e:=g.eq;have hq:q<4294967296:=by
  rcases oE q 4294967296 with A|A
  ·exact A
  ·have:4294967296*yn1≤q*yn1:=ic _ A;omega
 have:q*yn0≤q*4294967296:=Wl _ ae;omega
theorem Zc (h1:2147483648≤yn1)(hY:Y=yn1*4294967296+yn0)(h0:yn0<4294967296)(hu:u<Y):u/yn1<4294967298:=by
 rw[vz ae];omega
end
theorem Vk {M Y d0 q r:Nat}(hY:0<Y)(hq:M/Y=q)(A:M%Y=r):
  (M*4294967296+d0)/Y=q*4294967296+(r*4294967296+d0)/Y∧(M*4294967296+d0)%Y=(r*4294967296+d0)%Y:=by
 have h:=mW M Y;rw[hq,A]at h;have e:M*4294967296+d0=(r*4294967296+d0)+Y*(q*4294967296):=by
  rw[←h,ef,uh,ul,CR]
 rw[e];exact⟨by rw[Hd _ _ hY,CR],by rw[KS]⟩
end
end Go.Crisp
namespace Go.Proofs.YtjljhnandbbldaaGreatDoor
open Go Go.Crisp
attribute [local irreducible] ag df aW stK aF vK qK bJ gK eK aZ mkK di Fi GM CF bsK
open _root_.Go.Proofs.Tryz
theorem mB {a n:Nat}(k':IntKind)(A:n≤64):ak .i .shr (.int .u64 (a:Int)) (.int k' (n:Int))=some (.int .u64 ((a/2^n:Nat):Int)):=by
 show(if(n:Int)<0 then none else some (Value.int .u64 ((a:Int).fdiv (2^(min (n:Int).toNat 64)))))=_;rw[az ae,eT,uj A,RE _ (Int.le_of_lt (Ha ae))];simp
theorem wm {a n:Nat}(k':IntKind)(A:n≤64):ak .i .shl (.int .u64 (a:Int)) (.int k' (n:Int))=some (.int .u64 ((a*2^n%18446744073709551616:Nat):Int)):=by
 show(if(n:Int)<0 then none else some (Value.int .u64 (IntKind.u64.wrap ((a:Int)*(2^(min (n:Int).toNat 64))))))=_;rw[az ae,eT,uj A,eZ];simp
theorem mA (a:Nat)(h:a<18446744073709551616):(BitVec.ofInt 64 (a:Int)).toNat=a:=by
 rw[RF];simp only[Nat.reducePow];omega
theorem YX {a b:Nat}(D:a<18446744073709551616)(A:b<18446744073709551616):ak .i .or (.int .u64 (a:Int)) (.int .u64 (b:Int))=some (.int .u64 ((a|||b:Nat):Int)):=by
 show some (Value.int .u64 (IntKind.u64.wrap (((BitVec.ofInt 64 (a:Int)|||BitVec.ofInt 64 (b:Int)).toNat:Nat):Int)))=_;rw[BitVec.toNat_or,mA a D,mA b A,ga];exact Nat.or_lt_two_pow (n:=64) D A
theorem Si {a b:Nat}(A:a<18446744073709551616)(D:b<18446744073709551616):ak .i .and (.int .u64 (a:Int)) (.int .u64 (b:Int))=some (.int .u64 ((a&&& b:Nat):Int)):=by
 show some (Value.int .u64 (IntKind.u64.wrap (((BitVec.ofInt 64 (a:Int)&&& BitVec.ofInt 64 (b:Int)).toNat:Nat):Int)))=_;rw[BitVec.toNat_and,mA a A,mA b D,ga];exact sP Nat.and_le_left A
theorem NL {a:Nat}(A:a<18446744073709551616):ak .i .and (.int .u64 (a:Int)) (.int .u64 4294967295)=some (.int .u64 ((a%4294967296:Nat):Int)):=by
 rw[show(4294967295:Int)=((4294967295:Nat):Int)from rfl,Si A ae];have:=Nat.and_two_pow_sub_one_eq_mod a 32;simp only[Nat.reducePow,Nat.reduceSub]at this;rw[this]
theorem Un {a:Nat}(A:a<18446744073709551616):ak .i .and (.int .u64 (a:Int)) (.int .u64 1)=some (.int .u64 ((a%2:Nat):Int)):=by
 rw[show(1:Int)=((1:Nat):Int)from rfl,Si A ae,Hl]
theorem Ta {a b s:Nat}(A:b<2^s):a*2^s|||b=a*2^s+b:=by
 rw[eO,Nat.two_pow_add_eq_or_of_lt A]
theorem cvu {n:Nat}(k:IntKind)(h:n<18446744073709551616):gd .u64 (.int k (n:Int))=some (.int .u64 (n:Int)):=by
 rw[BX,ga h]
theorem TA {H a b c u:Nat}(h:H=a*18446744073709551616+u)(hu:u=b*4294967296+c):H=(a*4294967296+b)*4294967296+c:=by
 rw[h,hu,ef,uh];simp only[Nat.reduceMul,ul]
theorem MX {u d Y yn1 yn0:Nat}{h:ah}(hY:Y=yn1*4294967296+yn0)(h0:yn0<4294967296)(h1:2147483648≤yn1)(h1':yn1<4294967296)(hu:u<Y)(hd:d<4294967296)
  {init:List Value} {body:List Value→Env→ah→(List Value→ah→Prop)→Prop} (P:Nat→Nat→List Value) (hi:init=P (u/yn1) (u-u/yn1*yn1))
  (step:∀q r again ρj,q<4294967298→r<4294967296→(∀F D,F=q-1→D=r+yn1→1≤q→(4294967296≤q∨4294967296*r+d<q*yn0)→D<4294967296→again (P F D) h)→
   ((4294967296≤q∨4294967296*r+d<q*yn0)→1≤q→4294967296≤r+yn1→q-1=(u*4294967296+d)/Y)→(¬(4294967296≤q∨4294967296*r+d<q*yn0)→q=(u*4294967296+d)/Y)→((4294967296≤q∨4294967296*r+d<q*yn0)→1≤q)→
   body (P q r) ρj h again):aZ init h body:=by
 have L:=Zc h1 hY h0 hu;refine dw (λm xs h'=>h'=h∧∃q r,m=q∧xs=P q r∧NN u d Y yn1 yn0 q r∧q<4294967298∧r<4294967296) (u/yn1) ⟨rfl,u/yn1,u-u/yn1*yn1,rfl,hi,TD hY h1 hu hd,L,?_⟩ ?_
 ·have:=mW u yn1;have h2:=gT u (show yn1>0 by omega);rw[eO]at this;omega
 ·rintro m xs ρj h' again ⟨hh,q,r,G,rfl,g,hq,hr⟩ H;have G:=G.symm;subst hh G;refine step q r again ρj hq hr (λF D U I W hc A=>?_) (λhc W A=>?_) (λhc=>?_) λhc=>(Fb hY h1 hu hd g hc).1
  ·subst U I;refine H _ _ (q-1) ae ⟨rfl,q-1,r+yn1,rfl,rfl,(Fb hY h1 hu hd g hc).2,ae,A⟩
  ·exact Vb hY h0 h1 hu (Fb hY h1 hu hd g hc).2 A
  ·exact MY hY h1 g ae
theorem zbM {h:ah}{hi lo y:Nat}(bv:hi<y)(b5:lo<18446744073709551616)(hy:y<18446744073709551616):
  ag prog pu #[.int .u64 (hi:Int),.int .u64 (lo:Int),.int .u64 (y:Int)] h λr h'=>
   r=.tuple #[.int .u64 (((hi*18446744073709551616+lo)/y:Nat):Int),.int .u64 (((hi*18446744073709551616+lo)%y:Nat):Int)]∧h'=h:=by
 apply EQ;unfold ve;have q1:((y:Int)=0)=False:=fJ ae;have q2:((y:Int)≤(hi:Int))=False:=fJ ae;simp only[go_sem,q1,q2];refine bi (λxs h'=>h'=h) rfl λxs ρj h' e=>?_
 subst e;refine bi (λxs ci=>ci=h') rfl λxs ρj ci e=>?_
 subst e;refine ao (λh0=>?_) (λh0=>?_)
 ·have h0:hi=0:=ae;subst h0;rw[KC ae b5,aj,VW ae,aj];exact⟨by simp,rfl⟩
 refine(Je hy).mono λv1 h1 ⟨e1,w1⟩=>?_
 subst e1 w1;obtain⟨b0,b1,b2⟩:=Lib.bitLenAux_bounds 64 y hy ae;have b3:=Lib.bitLen_le y 64 (bU _) hy;have ct:Lib.bitLen y=Lib.bitLenAux 64 y:=rfl;rw[←ct]at b0 b1 b2;generalize hL:Lib.bitLen y=L at b0 b1 b2 b3;obtain⟨s,hs⟩:∃s,s=64-L:=⟨_,rfl⟩
 rw[show(64:Int)-(L:Int)=(s:Int)by omega,cvu _ ae,aj,wm _ ae,aj];have hp:(0:Nat)<2^s:=wV ae;have ca:2^L*2^s=18446744073709551616:=by
  rw[←vx,show L+s=64 by omega]
 have cc:2^(L-1)*2^s=9223372036854775808:=by
  rw[←vx,show L-1+s=63 by omega]
 have bc:y*2^s<18446744073709551616:=by rw[←ca];exact RD b2 hp
 have er:9223372036854775808≤y*2^s:=by rw[←cc];exact ic _ b1
 have bd:hi*2^s<18446744073709551616:=Nat.lt_trans (RD bv hp) bc;rw[vy bc];have ar:lo/2^(64-s)<2^s:=by
  rw[vz (wV ae),←vx,show s+(64-s)=64 by omega];exact b5
 have dz:(32:Int)=((32:Nat):Int):=rfl;rw[dz,mB _ ae,aj,NL bc,aj,wm _ ae,aj,vy bd,ig,aj,
  wu64 (n:=64-(s:Int)) ae ae,show(64:Int)-(s:Int)=((64-s:Nat):Int)by omega,mB _ ae,aj,
  YX bd (bT ar (by rw[←ca];exact Nat.le_mul_of_pos_left _ (wV ae))),aj,Ta ar,wm _ ae,aj]
 -- what is divided, shifted
 have ep:(hi*18446744073709551616+lo)*2^s<y*2^s*18446744073709551616:=by
  have:hi*18446744073709551616+lo<y*18446744073709551616:=ae;rw[RC];exact RD this hp
 have an:lo*2^s=lo/2^(64-s)*18446744073709551616+lo*2^s%18446744073709551616:=by
  have e:lo*2^s/18446744073709551616=lo/2^(64-s):=by
   rw[show(18446744073709551616:Nat)=2^(64-s)*2^s by rw[←vx,show 64-s+s=64 by omega]];exact Wj _ _ hp
  rw[←e,eO _ 18446744073709551616];exact(mW _ _).symm
 have F:(hi*18446744073709551616+lo)*2^s=(hi*2^s+lo/2^(64-s))*18446744073709551616+lo*2^s%18446744073709551616:=by
  rw[ef,an,RC,ef,ul]
  congr 2
  rw[←an]
 have ax:(hi*18446744073709551616+lo)/y=(hi*18446744073709551616+lo)*2^s/(y*2^s):=(Wj _ _ hp).symm;have cr:(hi*18446744073709551616+lo)%y=(hi*18446744073709551616+lo)*2^s%(y*2^s)/2^s:=by
  rw[RB,Nat.mul_div_cancel _ hp]
 have aa:(hi*18446744073709551616+lo)/y<18446744073709551616:=by
  rw[vz ae,eO];have:(hi+1)*18446744073709551616≤y*18446744073709551616:=ic _ bv;omega
 rw[ax,cr];rw[ax]at aa;generalize(hi*18446744073709551616+lo)*2^s=HS at*;generalize ec:hi*2^s+lo/2^(64-s)=A at*;have bg:lo*2^s%18446744073709551616<18446744073709551616:=gT _ ae;generalize lo*2^s%18446744073709551616=U at*;generalize ek:y*2^s=Y at*
 clear an bd ar
 have hu:A<Y:=ae;have bk:U/4294967296<4294967296:=ae;have be:U%4294967296<4294967296:=ae;have b6:(2:Nat)^32=4294967296:=rfl;rw[mB _ ae,aj,NL bg,aj,b6];have cp:Y=Y/4294967296*4294967296+Y%4294967296:=ae;have b4:2147483648≤Y/4294967296:=ae;have a7:Y/4294967296<4294967296:=ae;have b7:Y%4294967296<4294967296:=ae;have b8:s≤64:=ae;generalize ei:Y/4294967296=yn1 at*;generalize et:Y%4294967296=yn0 at*;generalize es:U/4294967296=H at*;generalize ej:U%4294967296=G at*;have cu:U=H*4294967296+G:=ae;rw[KC ae ae,aj,ms,aj];have eg:A/yn1*yn1≤A:=G6 _ _;rw[show((A/yn1:Nat):Int)*(yn1:Int)=((A/yn1*yn1:Nat):Int)from(lV _ _).symm,ga ae,ig,aj,
  show(A:Int)-((A/yn1*yn1:Nat):Int)=((A-A/yn1*yn1:Nat):Int)by omega,ga ae]
 have body:∀{u d q r:Nat} {X Y:Prop} (hq:q<4294967298) (hr:r<4294967296) (hd:d<4294967296),
   ((4294967296≤q∨4294967296*r+d<q*yn0)→X)→(¬(4294967296≤q∨4294967296*r+d<q*yn0)→Y)→
   vK (ak .i .geq (.int .u64 (q:Int)) (.int .u64 4294967296)) λI=>
    vK (gV I false (some (.int .u64 (q:Int)))) λcw=>vK (gV I false (some (.int .u64 (yn0:Int)))) λc9=>vK (gV I false (ak .i .mul cw c9)) λc4=>
    vK (gV I false (some (.int .u64 (r:Int)))) λdl=>vK (gV I false (ak .i .mul (.int .u64 4294967296) dl)) λdq=>vK (gV I false (some (.int .u64 (d:Int)))) λc3=>
    vK (gV I false (ak .i .add dq c3)) λea=>vK (gV I false (ak .i .gtr c4 ea)) λc6=>vK (aE I (.bool true) c6) λc7=>aF c7 X Y:=by
  intro u d q r X Y hq hr hd hX hY;simp only[go_sem];by_cases hc:4294967296≤q
  ·have e:((4294967296:Int)≤(q:Int))=True:=jx ae;simp only[go_sem,e];exact hX (.inl hc)
  ·have e:((4294967296:Int)≤(q:Int))=False:=fJ ae;simp only[go_sem,e];have ee:q*yn0≤q*4294967296:=Wl _ ae;rw[show(q:Int)*(yn0:Int)=((q*yn0:Nat):Int)from(lV _ _).symm,ga (m:=q*yn0) ae,
    show(4294967296:Int)*(r:Int)=((4294967296*r:Nat):Int)by omega,ga (m:=4294967296*r) ae,
    show((4294967296*r:Nat):Int)+(d:Int)=((4294967296*r+d:Nat):Int)by omega,ga (m:=4294967296*r+d) ae]
   refine ao (λh0=>hX (.inr ae)) (λh0=>hY ae)
 refine bi (λxs h'=>xs=[.int .u64 (((A*4294967296+H)/Y:Nat):Int)]∧h'=h1) ?_ ?_
 ·refine MX (d:=H) cp b7 b4 a7 hu bk (λq r=>[.int .u64 (q:Int),.int .u64 (r:Int)]) rfl λq r again ρj hq hr g1 g2 g3 g4=>?_
  simp only[gX,vC];refine body (u:=0) hq hr bk (λhc=>?_) (λhc=>?_)
  ·have au:=g4 hc;rw[ig,aj,show(q:Int)-1=((q-1:Nat):Int)by omega,ga ae,du,aj,show(r:Int)+(yn1:Int)=((r+yn1:Nat):Int)by omega,ga ae];rw[NF,aj];refine ao (λh0=>⟨by rw[g2 hc au ae],trivial⟩) (λh0=>g1 _ _ rfl rfl au hc ae)
  ·exact⟨by rw[g3 hc],trivial⟩
 rintro xs ρj h2 ⟨rfl,e2⟩;subst e2;simp only[gX];have c8:=Nf hu bk;have cb:=mW (A*4294967296+H) Y;have W:(A*4294967296+H)%Y<Y:=gT _ ae;have hD:=Vk (M:=A*4294967296+H) (Y:=Y) (d0:=G) ae rfl rfl;obtain⟨ad,a9⟩:∃q,q=(A*4294967296+H)/Y:=⟨_,rfl⟩
 obtain⟨D,a8⟩:∃q,q=(A*4294967296+H)%Y:=⟨_,rfl⟩
 rw[←a9,←a8]at cb hD;rw[←a8]at W;rw[←a9]at c8 ⊢;have c0:IntKind.u64.wrap (IntKind.u64.wrap (IntKind.u64.wrap ((A:Int)*4294967296)+(H:Int))-IntKind.u64.wrap ((ad:Int)*(Y:Int)))=(D:Int):=by
  rw[show(ad:Int)*(Y:Int)=((Y*ad:Nat):Int)by rw[eO];exact(lV _ _).symm];rw[eZ,eZ,eZ,eZ]
  clear hD F
  generalize Y*ad=P at*;omega
 rw[ms,aj,du,aj,ms,aj,ig,aj,c0];have eh:D/yn1*yn1≤D:=G6 _ _;rw[KC ae ae,aj,ms,aj,show((D/yn1:Nat):Int)*(yn1:Int)=((D/yn1*yn1:Nat):Int)from(lV _ _).symm,ga ae,ig,aj,
  show(D:Int)-((D/yn1*yn1:Nat):Int)=((D-D/yn1*yn1:Nat):Int)by omega,ga ae]
 refine bi (λxs h'=>xs=[.int .u64 (((D*4294967296+G)/Y:Nat):Int)]∧h'=h2) ?_ ?_
 ·refine MX (d:=G) cp b7 b4 a7 W be (λq r=>[.int .u64 (r:Int),.int .u64 (q:Int)]) rfl λq r again ρj hq hr g1 g2 g3 g4=>?_
  simp only[gX,vC];refine body (u:=0) hq hr be (λhc=>?_) (λhc=>?_)
  ·have au:=g4 hc;rw[ig,aj,show(q:Int)-1=((q-1:Nat):Int)by omega,ga ae,du,aj,show(r:Int)+(yn1:Int)=((r+yn1:Nat):Int)by omega,ga ae];rw[NF,aj];refine ao (λh0=>⟨by rw[g2 hc au ae],trivial⟩) (λh0=>g1 _ _ rfl rfl au hc ae)
  ·exact⟨by rw[g3 hc],trivial⟩
 rintro xs ρj h3 ⟨rfl,e3⟩;subst e3;simp only[gX];have eb:=Nf W be;have ay:=mW (D*4294967296+G) Y;have c1:(D*4294967296+G)%Y<Y:=gT _ ae;have bo:HS=(A*4294967296+H)*4294967296+G:=TA F cu;rw[bo]at aa ⊢;rw[hD.1]at aa ⊢;rw[hD.2];obtain⟨ab,al⟩:∃q,q=(D*4294967296+G)/Y:=⟨_,rfl⟩
 obtain⟨rr,aw⟩:∃q,q=(D*4294967296+G)%Y:=⟨_,rfl⟩
 rw[←al,←aw]at ay;rw[←aw]at c1;rw[←al]at eb aa;rw[←al,←aw];have c2:IntKind.u64.wrap (IntKind.u64.wrap (IntKind.u64.wrap ((D:Int)*4294967296)+(G:Int))-IntKind.u64.wrap ((ab:Int)*(Y:Int)))=(rr:Int):=by
  rw[show(ab:Int)*(Y:Int)=((Y*ab:Nat):Int)by rw[eO];exact(lV _ _).symm];rw[eZ,eZ,eZ,eZ]
  clear hD F bo
  generalize Y*ab=P at*;omega
 have rq:IntKind.u64.wrap (IntKind.u64.wrap ((ad:Int)*4294967296)+(ab:Int))=((ad*4294967296+ab:Nat):Int):=by
  rw[eZ,eZ]
  clear hD F bo cb ay
  omega
 rw[ms,aj,du,aj,ms,aj,du,aj,ms,aj,ig,aj,c2,rq,mB _ b8,aj];exact⟨rfl,trivial⟩
theorem Py {m n:Nat}{b:Bool}(A:9223372036854775808≤m)(D:9223372036854775808≤n):jK m b=jK n b:=by
 unfold jK;cases b
 ·simp only[gF,cF];rw[aA ae,aA ae]
 ·simp only[cJ];rw[aA ae,aA ae]
theorem Qr {a b:Int}(D:I64 a)(F:I64 b):a.natAbs*b.natAbs≤85070591730234615865843651857942052864:=by
 have h1:=qh D;have A:=qh F;exact bh (zg h1 A) (by decide)
theorem Nd {m n:Nat}(h:m≤85070591730234615865843651857942052864):m/n≤85070591730234615865843651857942052864:=bh (jy _ _) h
theorem oH {h:ah}{a b d:Int}(ha:I64 a)(hb:I64 b)(hd:I64 d):ag prog eG #[af a,af b,af d] h λr h'=>r=af (cS a b d)∧h'=h:=by
 apply LU;unfold AM;simp only[go_sem];unfold cS;refine ao (λh0=>?_) (λh0=>?_)
 ·rw[aA h0];exact⟨rfl,trivial⟩
 rw[az h0];have hm:=Qr ha hb;refine(PS ha hb).mono λv1 h1 ⟨e1,w1⟩=>?_
 subst e1 w1;simp only[go_sem];refine(Fk hd).mono λv2 H ⟨e2,w2⟩=>?_
 subst e2 w2;have al:=qh hd;have A:0<d.natAbs:=ae;obtain⟨m,ab⟩:∃m,m=a.natAbs*b.natAbs:=⟨_,rfl⟩
 obtain⟨bl,F⟩:∃bl,bl=(kI a b != decide (d<0)):=⟨_,rfl⟩
 obtain⟨D,hD⟩:∃D,D=d.natAbs:=⟨_,rfl⟩
 have L:(!(kI a b==decide (d<0)))=bl:=F.symm;rw[←ab]at hm ⊢;rw[←F,L,←hD];rw[←hD]at A al;have hq:m/D≤85070591730234615865843651857942052864:=Nd hm;simp only[go_sem];refine ao (λh1=>?_) (λh1=>?_)
 ·have ay:18446744073709551616≤m/D:=by
   rw[KR A];have H:D≤m/18446744073709551616:=ae;have:=(KR (show 0<18446744073709551616 by omega)).1 H;rw[eO];exact this
  refine(B5 (m:=18446744073709551616) (b:=bl) ae).mono λv h' ⟨e,w⟩=>⟨?_,w⟩
  rw[e,Py ae (n:=wR m D bl)];unfold wR;omega
 ·have U:m/18446744073709551616<D:=ae;have aw:m/D<18446744073709551616:=by
   rw[vz A,eO];exact(vz ae).1 U
  refine(zbM U (gT _ ae) ae).mono λv H ⟨e,w⟩=>?_
  subst e w;have an:m/18446744073709551616*18446744073709551616+m%18446744073709551616=m:=by
   rw[eO];exact mW _ _
  rw[an];simp only[go_sem];have hr:m%D<D:=gT _ A;rw[show(D:Int)-((m%D:Nat):Int)=((D-m%D:Nat):Int)by omega,ga (m:=D-m%D) ae];have fin:∀up:Nat,up≤1→wR m D bl=m/D+up→ag prog gA #[.int .u64 ((m/D:Nat):Int),.int .u64 (up:Int),.int .u64 0] H λI ad=>
    vK (aL I 0) λar=>vK (aL I 1) λW=>ag prog eF #[W,ar,.bool bl] ad λaa au=>aa=af (jK (wR m D bl) bl)∧au=H:=by
   intro up ax hn;refine(Xb (x:=m/D) (y:=up) (c:=0) ae).mono λv h3 ⟨e,w⟩=>?_
   subst e w;simp only[go_sem];refine(B5 (m:=m/D+up+0) (b:=bl) ae).mono λv h' ⟨e,w⟩=>⟨?_,w⟩
   rw[e,hn];rfl
  cases G:bl
  ·rw[G]at fin;simp only[go_sem];refine ao (λh3=>?_) (λh3=>?_)
   ·refine fin 1 ae ?_;unfold wR;simp only[gF,cF];rw[aA ae]
   ·refine fin 0 ae ?_;unfold wR;simp only[gF,cF];rw[az ae]
  ·rw[G]at fin;simp only[go_sem];by_cases h3:D-m%D<m%D
   ·have e3:(((D-m%D:Nat):Int)<((m%D:Nat):Int))=True:=jx ae;simp only[go_sem,e3];refine fin 1 ae ?_;unfold wR;simp only[cJ];rw[aA ae]
   ·have e3:(((D-m%D:Nat):Int)<((m%D:Nat):Int))=False:=fJ ae;simp only[go_sem,e3];refine fin 0 ae ?_;unfold wR;simp only[cJ];rw[az ae]
theorem JQ {h:ah}{m n:Nat}(hm:m<340282366920938463463374607431768211456)(hn:n<128):
  ag prog uz #[.int .u64 ((m/18446744073709551616:Nat):Int),.int .u64 ((m%18446744073709551616:Nat):Int),af (n:Int)] h λr h'=>
   r=.tuple #[.int .u64 ((m/2^n/18446744073709551616:Nat):Int),.int .u64 ((m/2^n%18446744073709551616:Nat):Int)]∧h'=h:=by
 apply N8;unfold Dv;simp only[go_sem];have I:m/18446744073709551616<18446744073709551616:=ae;refine ao (λh0=>?_) (λh0=>?_)
 ·rw[w64 (n:=(n:Int)-64) ae ae,show(n:Int)-64=((n-64:Nat):Int)by omega,mB _ ae,aj];refine⟨?_,trivial⟩;have e:m/2^n=m/18446744073709551616/2^(n-64):=by
   rw[Hf,show(18446744073709551616:Nat)=2^64 from rfl,←vx,show 64+(n-64)=n by omega]
  have H:m/18446744073709551616/2^(n-64)<18446744073709551616:=sP (jy _ _) I;rw[e,sO H,vy H];rfl
 ·have W:n<64:=ae;rw[mB _ ae,aj,mB _ ae,aj];rw[w64 (n:=64-(n:Int)) ae ae,show(64:Int)-(n:Int)=((64-n:Nat):Int)by omega,wm _ ae,aj];have F:m%18446744073709551616<18446744073709551616:=gT _ ae;have h2:m%18446744073709551616/2^n<18446744073709551616:=sP (jy _ _) F;rw[YX h2 (gT _ ae),aj];refine⟨?_,trivial⟩;have L:(0:Nat)<2^n:=wV ae;have A:(18446744073709551616:Nat)=2^n*2^(64-n):=by rw[←vx,show n+(64-n)=64 by omega]
  have D:m%18446744073709551616/2^n<2^(64-n):=by
   rw[vz L,eO,←A];exact F
  -- the low half of what is above
  have e1:m/2^n=m/18446744073709551616*2^(64-n)+m%18446744073709551616/2^n:=by
   have e:=mW m 18446744073709551616;have e2:m=m%18446744073709551616+2^n*(m/18446744073709551616*2^(64-n)):=by
    have:2^n*(m/18446744073709551616*2^(64-n))=18446744073709551616*(m/18446744073709551616):=by
     rw[A,CN,eO]
    rw[this];omega
   conv=>lhs;rw[e2]
   rw[Hd _ _ L,CR]
  have e3:m/18446744073709551616*2^(64-n)%18446744073709551616=m/18446744073709551616%2^n*2^(64-n):=by
   have:(18446744073709551616:Nat)=2^n*2^(64-n):=A
   conv=>lhs;rhs;rw[this]
   exact RB _ _ _
  rw[e3,Nat.or_comm,Ta D];generalize U:m/18446744073709551616=G at*;have e4:m/2^n/18446744073709551616=G/2^n:=by
   rw[Hf,eO,←Hf,U]
  have e5:m/2^n%18446744073709551616=G%2^n*2^(64-n)+m%18446744073709551616/2^n:=by
   rw[e1];have hd:=mW G (2^n);have:G*2^(64-n)=G%2^n*2^(64-n)+18446744073709551616*(G/2^n):=by
    conv=>lhs;rw[←hd]
    rw[ef,CR,RC,←A]
   rw[this,Nat.add_right_comm,KS,vy];have h6:G%2^n+1≤2^n:=gT _ L;have h7:(G%2^n+1)*2^(64-n)≤2^n*2^(64-n):=ic _ h6;rw[←A,ef,sN]at h7;exact bT (Nat.add_lt_add_left D _) h7
  rw[e4,e5]
theorem zbz {h:ah}{m n:Nat}(H:m<340282366920938463463374607431768211456)(L:n<128):
  ag prog zF #[.int .u64 ((m/18446744073709551616:Nat):Int),.int .u64 ((m%18446744073709551616:Nat):Int),af (n:Int)] h λr h'=>r=.bool (decide (m%2^n=0))∧h'=h:=by
 apply N9;unfold Dw;simp only[go_sem];have D:∀(a k:Nat),k≤64→(a*2^(64-k)%18446744073709551616=0↔a%2^k=0):=by
  intro a k I;have A:(18446744073709551616:Nat)=2^k*2^(64-k):=by rw[←vx,show k+(64-k)=64 by omega]
  rw[A,RB];have:0<2^(64-k):=wV ae;constructor
  ·intro h;rcases Nat.mul_eq_zero.1 h with h|h<;>omega
  ·intro h;rw[h,zi]
 refine ao (λh0=>?_) (λh0=>?_)
 ·-- n ≥ 64
  have e:(2:Nat)^n=18446744073709551616*2^(n-64):=by rw[show(18446744073709551616:Nat)=2^64 from rfl,←vx,show 64+(n-64)=n by omega]
  have key:m%2^n=0↔m%18446744073709551616=0∧m/18446744073709551616%2^(n-64)=0:=by
   rw[e,Nat.mod_mul];constructor
   ·intro h;have h1:m%18446744073709551616=0:=ae;refine⟨h1,?_⟩;rw[h1,aK]at h;rcases Nat.mul_eq_zero.1 h with h|h
    ·omega
    ·exact h
   ·rintro⟨h1,G⟩;rw[h1,G]
  by_cases F:m%18446744073709551616=0
  ·have q:(((m%18446744073709551616:Nat):Int)=0)=True:=jx ae;simp only[go_sem,q];rw[w64 (n:=128-(n:Int)) ae ae,show(128:Int)-(n:Int)=((64-(n-64):Nat):Int)by omega,wm _ ae,aj];simp only[go_sem];refine⟨?_,trivial⟩
   congr 1
   rw[gE];have:=D (m/18446744073709551616) (n-64) ae;constructor
   ·intro h;exact key.2 ⟨F,this.1 ae⟩
   ·intro h;have:=this.2 (key.1 h).2;omega
  ·have q:(((m%18446744073709551616:Nat):Int)=0)=False:=fJ ae;simp only[go_sem,q];refine⟨?_,trivial⟩
   congr 1
   rw[Eq.comm,G0];exact λh=>F (key.1 h).1
 ·rw[w64 (n:=64-(n:Int)) ae ae,show(64:Int)-(n:Int)=((64-n:Nat):Int)by omega,wm _ ae,aj];simp only[go_sem];refine⟨?_,trivial⟩
  congr 1
  rw[gE];have:=D (m%18446744073709551616) n ae;have e:m%18446744073709551616%2^n=m%2^n:=by
   have A:(18446744073709551616:Nat)=2^n*2^(64-n):=by rw[←vx,show n+(64-n)=64 by omega]
   rw[A,Nat.mod_mul_right_mod]
  rw[e]at this;constructor
  ·intro h;exact this.1 ae
  ·intro h;have:=this.2 h;omega
theorem VB {h:ah} {a b n:Int} (ha:I64 a) (hb:I64 b) (hn:I64 n):ag prog sW #[af a,af b,af n] h λr h'=>r=af (qi a b n)∧h'=h:=by
  apply IA;unfold xV;simp only[go_sem];have hm:=Qr ha hb;unfold qi;refine ao (λh0=>?_) (λh0=>?_)
  · rw[aA ae];exact⟨rfl,trivial⟩
  rw[az ae];have al:max 0 n=((n.toNat:Nat):Int):=ae;rw[al]at h0 ⊢;obtain⟨k,hk⟩:∃k,k=n.toNat:=⟨_,rfl⟩
  rw[←hk]at h0 ⊢;refine(PS ha hb).mono λv1 h1 ⟨e1,w1⟩=>?_
  subst e1 w1;obtain⟨m,ab⟩:∃m,m=a.natAbs*b.natAbs:=⟨_,rfl⟩
  obtain⟨bl,aa⟩:∃bl,bl=kI a b:=⟨_,rfl⟩
  rw[←ab]at hm ⊢;rw[←aa];simp only[go_sem];unfold Lp;refine ao (λh1=>?_) (λh1=>?_)
  · rw[aA ae]
    exact B5 ae
  rw[az ae];refine(JQ (m:=m) (n:=k) ae ae).mono λv h2 ⟨e,w⟩=>?_
  subst e w;simp only[go_sem];rw[w64 (n:=(k:Int)-1) ae ae,show(k:Int)-1=((k-1:Nat):Int)by omega];refine(JQ (m:=m) (n:=k-1) ae ae).mono λv U ⟨e,w⟩=>?_
  subst e w;simp only[go_sem];have au:m/2^k≤85070591730234615865843651857942052864:=Nd hm;rw[Un (gT _ ae),aj,show m/2^(k-1)%18446744073709551616%2=m/2^(k-1)%2 by omega];have D:ag prog eF #[.int .u64 ((m/2^k/18446744073709551616:Nat):Int),.int .u64 ((m/2^k%18446744073709551616:Nat):Int),.bool bl] U λF G=>F=af (jK (m/2^k+0) bl)∧G=U:=B5 ae
  have A:ag prog gA #[.int .u64 ((m/2^k%18446744073709551616:Nat):Int),.int .u64 1,.int .u64 0] U λI ad=>
        vK (aL I 0) λar=>vK (aL I 1) λW=>vK (ak .i .add (.int .u64 ((m/2^k/18446744073709551616:Nat):Int)) W) λan=>
        ag prog eF #[an,ar,.bool bl] ad λF G=>F=af (jK (m/2^k+1) bl)∧G=U:=by
    refine(Xb (x:=m/2^k%18446744073709551616) (y:=1) (c:=0) ae).mono λv h4 ⟨e,w⟩=>?_
    subst e w;simp only[go_sem];generalize m/2^k=M at*;have e1:(M%18446744073709551616+1+0)%18446744073709551616=(M+1)%18446744073709551616:=ae;have e2:((M/18446744073709551616:Nat):Int)+(((M%18446744073709551616+1+0)/18446744073709551616:Nat):Int)=(((M+1)/18446744073709551616:Nat):Int):=ae;rw[e1,e2,ga ae];exact B5 ae
  by_cases hh:m/2^(k-1)%2=0
  · have q:(((m/2^(k-1)%2:Nat):Int)=0)=True:=jx ae
    simp only[go_sem,q];rw[az (λh=>ae)];exact D
  · have q:(((m/2^(k-1)%2:Nat):Int)=0)=False:=fJ ae
    simp only[go_sem,q];have L:m/2^(k-1)%2=1:=ae;cases H:bl
    · rw[H]at A
      simp only[go_sem];rw[aA ⟨L,by simp⟩];exact A
    · rw[H]at D A
      simp only[go_sem];rw[w64 (n:=(k:Int)-1) ae ae,show(k:Int)-1=((k-1:Nat):Int)by omega];refine(zbz (m:=m) (n:=k-1) ae ae).mono λv h4 ⟨e,w⟩=>?_
      subst e w
      try simp only[go_sem]
      refine ao (λh5=>?_) (λh5=>?_)
      · rw[az (λh=>h.2 ⟨trivial,h5⟩)]
        exact D
      · rw[aA ⟨L,λh=>h5 h.2⟩]
        exact A
end Go.Proofs.YtjljhnandbbldaaGreatDoor
