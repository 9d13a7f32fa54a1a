/- Several texts of this session, one behind the other, without what this claim does not need (put together by its program pack.py). Conditions: none. -/
import Derived.Test.YtcoimlclclnlkaaGreatDoorMp1
import Derived.Lib.ItoaNum
import Derived.Lib.LaidTab
import Derived.LaidLaws
import Derived.LaidHandle
import Derived.LaidMore
import Derived.MakeChecks
import Derived.Handed
import Derived.Stop.Joined
import Derived.Test.YtcoimlclclnlkaaGreatDoorRows
import Derived.Test.YtcoimlclclnlkaaGreatDoorProg
import Derived.Shelf.Bits.Mul64
import Derived.Shelf.Spec.BitsCarry
import Derived.Shelf.Strconv.Itoa0
set_option linter.unusedVariables false
set_option linter.unusedSimpArgs false
set_option maxRecDepth 100000
namespace Go.Proofs.YtcoimlclclnlkaaGreatDoor
open Go Go.Crisp
open _root_.Go.Proofs.Tryz
section
variable {a0 a1 a2 a3 a4 a5 a6:Value}{h:Heap}{R:Value→Heap→Prop}
def zkr (a0 a1:Value)(h:Heap)(R:Value→Heap→Prop):Prop:=
 newK #[(.int .u64 0),(.int .u64 0)] 293 h fun e j=>
 vK ((fillL #[(.int .u64 0),(.int .u64 0)] []).map .agg) fun k=>
 newK #[(.int .u64 0),(.int .u64 0)] 293 j fun a l=>
 stK 2 a k l fun ad m=>
 loopK [(.int .i64 63)] m fun b ae c f=>
 vK (binV .i .geq (ix b 0) (.int .i64 0)) fun n=>
 iteK n (
 vK (ldsV 2 c a) fun o=>
 FCall prog zbf #[o,(.int .u64 0)] c fun p q=>
 stK 2 a p q fun af d=>
 vK (binV .i .shr a1 (ix b 0)) fun r=>
 vK (binV .i .and r (.int .u64 1)) fun s=>
 vK (binV .i .eql s (.int .u64 1)) fun t=>
 iteK t (
 vK (ldsV 2 d a) fun u=>
 vK ((fillL #[(.int .u64 0),(.int .u64 0)] [(0,1,(.int .u64 0)),(1,1,a0)]).map .agg) fun v=>
 FCall prog zcs #[u,v] d fun w x=>
 stK 2 a w x fun ag y=>
 vK (binV .i .sub (ix b 0) (.int .i64 1)) fun z=>
 f [z] y) (
 vK (binV .i .sub (ix b 0) (.int .i64 1)) fun aa=>
 f [aa] d)) (
 vK (ldsV 2 c a) fun ab=>
 stK 2 e ab c fun ah g=>
 vK (ldsV 2 g e) fun ac=>
 R ac g)
theorem zqf (H:zkr a0 a1 h R):FCall prog zfy #[a0,a1] h R:=fk f255 (.s .z (.s .z (.s (.s .z (.l 8388416 [6] (.s (.s .z (.s .z .z)) (.s (.s .z (.s .z (.s .z .z))) .z)))) (.s .z .z)))) H
def ziG (a0 a1 a2:Value)(h:Heap)(R:Value→Heap→Prop):Prop:=
 newK (Value.cells a0) 293 h fun k e=>
 vK (ldsV 2 e k) fun l=>
 FCall prog zg5 #[l,a1] e fun f m=>
 vK (extV f 0) fun n=>
 vK (extV f 1) fun o=>
 newK #[(.int .u64 0),(.int .u64 0)] 293 m fun a p=>
 stK 2 a n p fun ao q=>
 vK ((fillL #[(.int .u64 0),(.int .u64 0)] [(0,1,(.int .u64 0)),(1,1,o)]).map .agg) fun r=>
 FCall prog zbf #[r,(.int .u64 0)] q fun s t=>
 newK #[(.int .u64 0),(.int .u64 0)] 293 t fun c u=>
 stK 2 c s u fun ap g=>
 vK (ldsV 2 g c) fun v=>
 vK ((fillL #[(.int .u64 0),(.int .u64 0)] [(0,1,(.int .u64 0)),(1,1,a1)]).map .agg) fun w=>
 FCall prog zcZ #[v,w] g fun x d=>
 vK (unV .not x) fun y=>
 joinK (fun i=>
 iteK a2 (
 vK ((fillL #[(.int .u64 0),(.int .u64 0)] [(0,1,(.int .u64 0)),(1,1,a1)]).map .agg) fun z=>
 vK (ldsV 2 d c) fun aa=>
 FCall prog zcZ #[z,aa] d fun ab ac=>
 i [ab] ac) (
 i [y] d))
 fun ad aq b=>
 iteK (ix ad 0) (
 vK (ldsV 2 b a) fun ae=>
 vK ((fillL #[(.int .u64 0),(.int .u64 0)] [(0,1,(.int .u64 0)),(1,1,(.int .u64 1))]).map .agg) fun af=>
 FCall prog zcs #[ae,af] b fun ag ah=>
 stK 2 a ag ah fun ar j=>
 vK (ldsV 2 j a) fun ai=>
 FCall prog za3 #[ai,a2] j fun aj ak=>
 R aj ak) (
 vK (ldsV 2 b a) fun al=>
 FCall prog za3 #[al,a2] b fun am an=>
 R am an)
theorem zos (H:ziG a0 a1 a2 h R):FCall prog zgo #[a0,a1,a2] h R:=fk f256 (.s .z (.s .z (.s .z (.s .z (.j 1040188416 [10] (.s .z (.s .z .z)) (.s (.s .z (.s .z .z)) (.s .z .z))))))) H
def zcJ (a0:Value)(h:Heap)(R:Value→Heap→Prop):Prop:=
 joinK (fun c=>
 vK (zaf a0) fun e=>
 vK (binV .i .lss e (.int .i64 1)) fun f=>
 iteK f (
 failK h fun s g=>
 c [] g) (
 c [] h))
 fun t u d=>
 vK (idxV 1 a0 (.int .i64 0)) fun j=>
 vK (ldV d j) fun k=>
 loopK [k,(.int .i64 1)] d fun a v b l=>
 vK (zaf a0) fun m=>
 vK (binV .i .lss (ix a 1) m) fun n=>
 iteK n (
 vK (idxV 1 a0 (ix a 1)) fun o=>
 vK (ldV b o) fun p=>
 vK (minV (ix a 0) p) fun q=>
 vK (binV .i .add (ix a 1) (.int .i64 1)) fun r=>
 l [q,r] b) (
 R (ix a 0) b)
theorem zft (H:zcJ a0 h R):FCall prog zbS #[a0] h R:=fk f257 (.s .z (.j 480 [] (.s .z (.s .z .z)) (.s .z (.s (.s .z (.l 16773144 [3,4] (.s (.s .z (.s .z .z)) (.s .z .z)))) (.s .z .z))))) H
def zaY (a0:Value)(h:Heap)(R:Value→Heap→Prop):Prop:=
 newK (Value.cells a0) 236 h fun a b=>
 R (.func (.func zaS) #[] #[a]) b
theorem zcb (H:zaY a0 h R):FCall prog za5 #[a0] h R:=fk f259 (.s .z (.s .z .z)) H
def zlT (a0 a1 a2 a3:Value)(h:Heap)(R:Value→Heap→Prop):Prop:=
 FCall prog zp4 #[a0,a1,a2,a3] h fun g b=>
 vK (unV .not g) fun j=>
 iteK j (
 R (.tuple #[(.int .i64 0),(.int .i64 0)]) b) (
 vK (binV .i .mul a3 a1) fun k=>
 FCall prog zc9 #[k,a2] b fun c l=>
 vK (binV .i .add a3 (.int .i64 1)) fun m=>
 vK (binV .i .mul m a1) fun n=>
 FCall prog zj5 #[n,a2] l fun o a=>
 vK (binV .i .neq a0 (.int .i64 0)) fun p=>
 iteK p (
 vK (binV .i .mul (.int .i64 2) a3) fun q=>
 vK (binV .i .add q (.int .i64 1)) fun r=>
 vK (binV .i .mul r a1) fun s=>
 vK (binV .i .sub s a2) fun d=>
 vK (idxaV 3 2 (.pointer (some ⟨zbw,0,none⟩)) a0) fun t=>
 vK (fldV 1 t) fun u=>
 vK (ldV a u) fun v=>
 vK (binV .i .mul v (.int .i64 2)) fun w=>
 vK (maxV a1 a2) fun x=>
 vK (binV .i .mul w x) fun e=>
 vK (binV .i .sub d e) fun y=>
 vK (binV .i .mul (.int .i64 2) a2) fun z=>
 FCall prog zc9 #[y,z] a fun aa ab=>
 vK (binV .i .add aa (.int .i64 1)) fun f=>
 vK (binV .i .add d e) fun ac=>
 vK (binV .i .mul (.int .i64 2) a2) fun ad=>
 FCall prog zj5 #[ac,ad] ab fun ae af=>
 vK (binV .i .sub ae f) fun ag=>
 R (.tuple #[f,ag]) af) (
 vK (binV .i .sub o c) fun ah=>
 R (.tuple #[c,ah]) a))
theorem zsd (H:zlT a0 a1 a2 a3 h R):FCall prog zjH #[a0,a1,a2,a3] h R:=fk f260 (.s .z (.s (.s .z (.s (.s .z .z) .z)) (.s .z (.s (.s .z (.s (.s .z .z) .z)) (.s .z .z))))) H
def znW (a0 a1 a2 a3 a4:Value)(h:Heap)(R:Value→Heap→Prop):Prop:=
 vK (binV .i .eql a0 (.int .i64 0)) fun c=>
 iteK c (
 vK (binV .i .add a3 (.int .i64 1)) fun d=>
 vK (binV .i .mul d a1) fun e=>
 vK (binV .i .add a4 (.int .i64 1)) fun f=>
 vK (binV .i .mul f a2) fun g=>
 vK (minV e g) fun j=>
 vK (binV .i .mul a3 a1) fun k=>
 vK (binV .i .mul a4 a2) fun l=>
 vK (maxV k l) fun m=>
 vK (binV .i .sub j m) fun n=>
 FCall prog zba #[n,(.int .i64 1073741824),a1] h fun o p=>
 R o p) (
 vK (binV .i .mul (.int .i64 2) a2) fun q=>
 vK (binV .i .mul q a4) fun r=>
 vK (binV .i .mul (.int .i64 2) a3) fun s=>
 vK (binV .i .add s (.int .i64 1)) fun t=>
 vK (binV .i .mul t a1) fun u=>
 vK (binV .i .sub r u) fun v=>
 vK (binV .i .add v a2) fun a=>
 vK (maxV a1 a2) fun w=>
 vK (binV .i .mul (.int .i64 2) w) fun b=>
 vK (binV .i .eql a0 (.int .i64 1)) fun x=>
 iteK x (
 FCall prog zhO #[a,b] h fun y z=>
 R y z) (
 FCall prog zhe #[a,b] h fun aa ab=>
 R aa ab))
theorem ok_raw_weigh (H:znW a0 a1 a2 a3 a4 h R):FCall prog zlm #[a0,a1,a2,a3,a4] h R:=fk f261 (.s .z (.s (.s .z (.s (.s .z (.s .z .z)) .z)) (.s .z (.s (.s .z (.s (.s .z .z) .z)) (.s .z .z))))) H
def zlB (a0:Value)(h:Heap)(R:Value→Heap→Prop):Prop:=
 vK (zaf a0) fun e=>
 vK (binV .i .eql e (.int .i64 0)) fun a=>
 vK (gV a false (some a0)) fun f=>
 vK (gV a false (zaf f)) fun g=>
 vK (gV a false (binV .i .gtr g (.int .i64 1048576))) fun j=>
 vK (pickV a (.bool true) j) fun b=>
 vK (gV b false (some a0)) fun k=>
 gK b false (fun l=>FCall prog zaW #[k,(.func (.func zdV) #[] #[])] h l) h fun m c=>
 vK (pickV b (.bool true) m) fun n=>
 iteK n (
 R (.int .i64 7) c) (
 FCall prog zj4 #[a0] c fun o d=>
 vK (binV .i .lss o (.int .i64 268435456)) fun p=>
 iteK p (
 R (.int .i64 8) d) (
 R (.int .i64 0) d))
theorem zrV (H:zlB a0 h R):FCall prog zjC #[a0] h R:=fk f262 (.s .z (.s (.s .z (.s (.s .z .z) .z)) (.s (.s .z (.s (.s .z .z) .z)) (.s .z .z)))) H
def zoQ (a0:Value)(h:Heap)(R:Value→Heap→Prop):Prop:=
 vK (zaf a0) fun c=>
 loopK [(.int .i64 0),(.int .i64 0)] h fun a m b d=>
 vK (binV .i .lss (ix a 1) c) fun e=>
 iteK e (
 vK (idxV 1 a0 (ix a 1)) fun f=>
 vK (ldV b f) fun g=>
 FCall prog ziu #[(ix a 0),g] b fun j k=>
 vK (binV .i .add (ix a 1) (.int .i64 1)) fun l=>
 d [j,l] k) (
 R (ix a 0) b)
theorem ok_taps_Sum (H:zoQ a0 h R):FCall prog zj4 #[a0] h R:=fk f263 (.s .z (.s .z (.s (.s .z (.l 65320 [3,8] (.s .z (.s (.s .z .z) (.s (.s .z .z) .z))))) (.s .z .z)))) H
def zkJ (a0 a1:Value)(h:Heap)(R:Value→Heap→Prop):Prop:=
 vK (binV .i .eql a1 (.int .i64 0)) fun e=>
 iteK e (
 R (.int .i64 0) h) (
 drawK h fun S=>
 FCall prog zcu #[a0] h fun f g=>
 FCall prog zcu #[a1] g fun j k=>
 vK (binV .i .quo f j) fun c=>
 FCall prog zcu #[a0] k fun l m=>
 FCall prog zcu #[a1] m fun n d=>
 vK (binV .i .rem l n) fun o=>
 vK (binV .i .lss a0 (.int .i64 0)) fun p=>
 vK (binV .i .lss a1 (.int .i64 0)) fun q=>
 vK (binV .b .neq p q) fun a=>
 vK (gV a true (some o)) fun r=>
 vK (gV a true (binV .i .neq r (.int .u64 0))) fun s=>
 vK (pickV a s (.bool false)) fun t=>
 iteK t (
 vK (binV .i .add c (.int .u64 1)) fun u=>
 FCall prog zdI #[u,a] d fun v w=>
 R v w) (
 FCall prog zdI #[c,a] d fun x y=>
 R x y))
theorem zqx (H:zkJ a0 a1 h R):FCall prog zc9 #[a0,a1] h R:=fk f264 (.s .z (.s (.s .z (.s (.s .z .z) .z)) (.s (.d (.op 0 .r (.op 2 .r (.op 5 .r (.op 7 .r (.op 1 .n (.op 3 .n (.op 4 .r (.op 6 .n (.op 8 .n (.op 9 .r (.op 10 .r (.op 11 .r .nil))))))))))))) (.s .z (.s (.s .z (.s .z .z)) (.s .z .z)))))) H
def zbL (a0 a1:Value)(h:Heap)(R:Value→Heap→Prop):Prop:=
 vK (zaf a0) fun a=>
 FCall prog zbZ #[a0,a,a1] h fun c b=>
 R (.tuple #[]) b
theorem zdt (H:zbL a0 a1 h R):FCall prog za7 #[a0,a1] h R:=fk f265 .z H
def zfi (a0 a1 a2:Value)(h:Heap)(R:Value→Heap→Prop):Prop:=
 drawK h fun S=>
 qK S (fun h=>ldV h a2) fun a=>
 vK (idxV 1 a a1) fun b=>
 qK S (fun h=>ldV h b) fun c=>
 qK S (fun h=>ldV h a2) fun d=>
 vK (idxV 1 d a0) fun e=>
 qK S (fun h=>ldV h e) fun f=>
 FCall prog zdz #[c,f] h fun g i=>
 R g i
theorem zka (H:zfi a0 a1 a2 h R):FCall prog zdw #[a0,a1,a2] h R:=fk f266 (.s .z (.s (.d (.op 0 .r (.op 1 .r (.op 2 .r (.op 3 .r (.op 4 .r (.op 5 .r (.op 6 .r (.op 7 .r (.op 8 .n (.op 9 .r .nil))))))))))) .z)) H
def zfq (a0 a1:Value)(h:Heap)(R:Value→Heap→Prop):Prop:=
 FCall prog zda #[a0] h fun c d=>
 FCall prog zda #[a1] d fun b a=>
 iteK c (
 iteK b (
 R (.int .i64 0) a) (
 R (.int .i64 (-1)) a)) (
 iteK b (
 R (.int .i64 1) a) (
 vK (binV .i .lss a0 a1) fun e=>
 iteK e (
 R (.int .i64 (-1)) a) (
 vK (binV .i .gtr a0 a1) fun f=>
 iteK f (
 R (.int .i64 1) a) (
 R (.int .i64 0) a))))
theorem zki (H:zfq a0 a1 h R):FCall prog zdz #[a0,a1] h R:=fk f267 (.s .z (.s .z (.s .z (.s (.s .z (.s (.s (.s .z (.s (.s .z .z) .z)) (.s .z .z)) .z)) (.s (.s .z (.s (.s .z .z) .z)) (.s (.s .z (.s (.s .z .z) .z)) (.s (.s .z (.s (.s .z .z) .z)) (.s .z .z)))))))) H
def znM (a0:Value)(h:Heap)(R:Value→Heap→Prop):Prop:=
 vK (zaf a0) fun c=>
 loopK [(.int .i64 0),(.int .i64 0)] h fun a o b d=>
 vK (binV .i .lss (ix a 1) c) fun e=>
 iteK e (
 vK (idxV 1 a0 (ix a 1)) fun f=>
 vK (ldV b f) fun g=>
 FCall prog zib #[g] b fun j k=>
 FCall prog ziu #[(ix a 0),j] k fun l m=>
 vK (binV .i .add (ix a 1) (.int .i64 1)) fun n=>
 d [l,n] m) (
 R (ix a 0) b)
theorem ok_taps_Size (H:znM a0 h R):FCall prog zic #[a0] h R:=fk f268 (.s .z (.s .z (.s (.s .z (.l 130856 [3,8] (.s .z (.s (.s .z .z) (.s (.s .z .z) .z))))) (.s .z .z)))) H
def zl4 (a0 a1:Value)(h:Heap)(R:Value→Heap→Prop):Prop:=
 FCall prog zjM #[a0,a1] h fun a b=>
 FCall prog znG #[a] b fun c d=>
 FCall prog zc8 #[c,(.int .i64 10)] d fun e f=>
 R e f
theorem zsn (H:zl4 a0 a1 h R):FCall prog zjN #[a0,a1] h R:=fk f269 (.s .z (.s .z .z)) H
def zcg (a0 a1:Value)(h:Heap)(R:Value→Heap→Prop):Prop:=
 joinK (fun e=>
 vK (binV .i .lss a1 (.int .i64 0)) fun m=>
 iteK m (
 failK h fun aj n=>
 e [] n) (
 e [] h))
 fun ak al o=>
 vK (zaf a0) fun p=>
 vK (cviV .u64 p) fun q=>
 vK (cviV .u64 a1) fun r=>
 FCall prog zgs #[q,r] o fun f g=>
 vK (extV f 0) fun s=>
 vK (extV f 1) fun j=>
 joinK (fun k=>
 vK (binV .i .gtr s (.int .u64 0)) fun c=>
 vK (gV c false (some j)) fun t=>
 vK (gV c false (binV .i .gtr t (.int .u64 9223372036854775807))) fun u=>
 vK (pickV c (.bool true) u) fun v=>
 iteK v (
 failK g fun am w=>
 k [] w) (
 k [] g))
 fun an ao x=>
 vK (cviV .i64 j) fun l=>
 mkK (.int .i64 0) 2 1 8 l l x fun a y=>
 cpyK 1 a a0 y fun z aa=>
 loopK [z] aa fun b ap d ab=>
 vK (zaf a) fun ac=>
 vK (binV .i .lss (ix b 0) ac) fun ad=>
 iteK ad (
 drawK d fun S=>
 vK (slcV 1 a (some (ix b 0)) none) fun ae=>
 vK (slcV 1 a none (some (ix b 0))) fun af=>
 cpyK 1 ae af d fun ag ah=>
 vK (binV .i .add (ix b 0) ag) fun ai=>
 ab [ai] ah) (
 R a d)
theorem zed (H:zcg a0 a1 h R):FCall prog zbj #[a0,a1] h R:=fk f270 (.s .z (.j 3584 [] (.s .z (.s .z .z)) (.s .z (.j 266338304 [] (.s .z (.s .z .z)) (.s .z (.s .z (.s (.l 140720308486400 [8] (.s (.s .z (.s .z .z)) (.d (.op 0 .r (.op 1 .r (.op 2 .r (.op 3 .r (.op 4 .r (.op 5 .r (.op 6 .r (.op 7 .n (.op 8 .r (.op 9 .r .nil))))))))))))) (.s .z .z)))))))) H
def zkl (a0 a1 a2:Value)(h:Heap)(R:Value→Heap→Prop):Prop:=
 vK (binV .i .eql a2 (.int .i64 0)) fun r=>
 iteK r (
 R (.int .i64 0) h) (
 FCall prog zeD #[a0,a1] h fun e s=>
 vK (extV e 0) fun j=>
 vK (extV e 1) fun t=>
 vK (extV e 2) fun u=>
 FCall prog zgi #[a2] s fun f k=>
 vK (binV .i .lss a2 (.int .i64 0)) fun v=>
 vK (binV .b .neq u v) fun a=>
 vK (binV .i .geq j f) fun w=>
 iteK w (
 FCall prog za9 #[(.int .u64 1),(.int .u64 0),a] k fun x y=>
 R x y) (
 FCall prog zev #[j,t,f] k fun l m=>
 vK (extV l 0) fun n=>
 vK (extV l 1) fun g=>
 vK (binV .i .sub f g) fun o=>
 vK (gV a true (some g)) fun z=>
 vK (gV a true (some o)) fun aa=>
 vK (gV a true (binV .i .gtr z aa)) fun ab=>
 vK (pickV a ab (.bool false)) fun c=>
 vK (gV c false (some a)) fun ac=>
 vK (gV c false (unV .not ac)) fun ad=>
 vK (gV c false (some ad)) fun d=>
 vK (gV d true (some g)) fun ae=>
 vK (gV d true (some o)) fun af=>
 vK (gV d true (binV .i .geq ae af)) fun ag=>
 vK (gV c false (pickV d ag (.bool false))) fun ah=>
 vK (pickV c (.bool true) ah) fun ai=>
 iteK ai (
 FCall prog zbK #[n,(.int .u64 1),(.int .u64 0)] m fun p aj=>
 vK (extV p 0) fun ak=>
 vK (extV p 1) fun al=>
 FCall prog za9 #[al,ak,a] aj fun am an=>
 R am an) (
 FCall prog zbK #[n,(.int .u64 0),(.int .u64 0)] m fun q ao=>
 vK (extV q 0) fun ap=>
 vK (extV q 1) fun aq=>
 FCall prog za9 #[aq,ap,a] ao fun ar au=>
 R ar au)))
theorem zp9 (H:zkl a0 a1 a2 h R):FCall prog zba #[a0,a1,a2] h R:=fk f271 (.s .z (.s (.s .z (.s (.s .z .z) .z)) (.s .z (.s .z (.s .z (.s (.s .z (.s (.s .z .z) .z)) (.s .z (.s .z (.s .z (.s (.s .z (.s .z .z)) (.s .z (.s .z .z)))))))))))) H
def zoW (a0 a1:Value)(h:Heap)(R:Value→Heap→Prop):Prop:=
 vK (binV .i .lss a1 (.int .i64 1)) fun d=>
 vK (gV d false (some a1)) fun e=>
 vK (gV d false (binV .i .gtr e (.int .i64 262144))) fun f=>
 vK (pickV d (.bool true) f) fun b=>
 vK (gV b false (some a0)) fun g=>
 vK (gV b false (some a1)) fun j=>
 vK (gV b false (binV .i .mul (.int .i64 2) j)) fun k=>
 vK (gV b false (binV .i .geq g k)) fun l=>
 vK (pickV b (.bool true) l) fun c=>
 vK (gV c false (some a0)) fun m=>
 vK (gV c false (some a1)) fun n=>
 vK (gV c false (binV .i .mul (.int .i64 (-2)) n)) fun o=>
 vK (gV c false (binV .i .leq m o)) fun p=>
 vK (pickV c (.bool true) p) fun q=>
 iteK q (
 R (.int .i64 0) h) (
 vK (unV .neg a0) fun r=>
 vK (maxV a0 r) fun a=>
 vK (binV .i .mul (.int .i64 3) a) fun s=>
 vK (binV .i .mul s a) fun t=>
 vK (binV .i .mul t a) fun u=>
 vK (binV .i .mul (.int .i64 5) a) fun v=>
 vK (binV .i .mul v a) fun w=>
 vK (binV .i .mul w a1) fun x=>
 vK (binV .i .sub u x) fun y=>
 vK (binV .i .mul (.int .i64 2) a1) fun z=>
 vK (binV .i .mul z a1) fun aa=>
 vK (binV .i .mul aa a1) fun ab=>
 vK (binV .i .add y ab) fun ac=>
 vK (binV .i .geq a a1) fun ad=>
 iteK ad (
 vK (unV .neg a) fun ae=>
 vK (binV .i .mul ae a) fun af=>
 vK (binV .i .mul af a) fun ag=>
 vK (binV .i .mul (.int .i64 5) a) fun ah=>
 vK (binV .i .mul ah a) fun ai=>
 vK (binV .i .mul ai a1) fun aj=>
 vK (binV .i .add ag aj) fun ak=>
 vK (binV .i .mul (.int .i64 8) a) fun al=>
 vK (binV .i .mul al a1) fun am=>
 vK (binV .i .mul am a1) fun an=>
 vK (binV .i .sub ak an) fun ao=>
 vK (binV .i .mul (.int .i64 4) a1) fun ap=>
 vK (binV .i .mul ap a1) fun aq=>
 vK (binV .i .mul aq a1) fun ar=>
 vK (binV .i .add ao ar) fun au=>
 vK (binV .i .mul (.int .i64 2) a1) fun av=>
 vK (binV .i .mul av a1) fun aw=>
 vK (binV .i .mul aw a1) fun ax=>
 FCall prog zba #[au,(.int .i64 1073741824),ax] h fun ay az=>
 R ay az) (
 vK (binV .i .mul (.int .i64 2) a1) fun a2=>
 vK (binV .i .mul a2 a1) fun a3=>
 vK (binV .i .mul a3 a1) fun a4=>
 FCall prog zba #[ac,(.int .i64 1073741824),a4] h fun a5 a6=>
 R a5 a6))
theorem ok_raw_Keys (H:zoW a0 a1 h R):FCall prog zhO #[a0,a1] h R:=fk f278 (.s .z (.s (.s .z (.s (.s .z .z) .z)) (.s .z (.s .z (.s (.s .z (.s .z .z)) (.s .z .z)))))) H
def zhv (a0 a1 a2 a3:Value)(h:Heap)(R:Value→Heap→Prop):Prop:=
 vK (binV .i .mul (.int .i64 2) a0) fun b=>
 joinK (fun a=>
 vK (binV .i .gtr a1 a0) fun c=>
 iteK c (
 vK (binV .i .mul (.int .i64 2) a1) fun d=>
 a [d] h) (
 a [b] h))
 fun e p f=>
 vK (binV .i .mul (.int .i64 2) a1) fun g=>
 vK (binV .i .mul g a3) fun j=>
 vK (binV .i .mul (.int .i64 2) a2) fun k=>
 vK (binV .i .add k (.int .i64 1)) fun l=>
 vK (binV .i .mul l a0) fun m=>
 vK (binV .i .sub j m) fun n=>
 vK (binV .i .add n a1) fun o=>
 R (.tuple #[o,(ix e 0)]) f
theorem zm8 (H:zhv a0 a1 a2 a3 h R):FCall prog zdp #[a0,a1,a2,a3] h R:=fk f279 (.s .z (.s .z (.j 254976 [10] (.s .z (.s .z .z)) (.s .z .z)))) H
def zlN (a0 a1:Value)(h:Heap)(R:Value→Heap→Prop):Prop:=
 vK (binV .i .lss a1 (.int .i64 1)) fun d=>
 vK (gV d false (some a1)) fun l=>
 vK (gV d false (binV .i .gtr l (.int .i64 262144))) fun m=>
 vK (pickV d (.bool true) m) fun n=>
 iteK n (
 R (.int .i64 0) h) (
 vK (binV .i .mul (.int .i64 2) a1) fun o=>
 vK (binV .i .geq a0 o) fun a=>
 vK (gV a false (some a0)) fun p=>
 vK (gV a false (some a1)) fun q=>
 vK (gV a false (binV .i .mul (.int .i64 (-2)) q)) fun r=>
 vK (gV a false (binV .i .leq p r)) fun s=>
 vK (pickV a (.bool true) s) fun t=>
 iteK t (
 R (.int .i64 0) h) (
 joinK (fun f=>
 vK (binV .i .lss a0 (.int .i64 0)) fun u=>
 iteK u (
 vK (unV .neg a0) fun v=>
 f [v] h) (
 f [a0] h))
 fun b ar g=>
 vK (binV .i .mul (ix b 0) (ix b 0)) fun e=>
 vK (binV .i .mul e (ix b 0)) fun j=>
 vK (binV .i .mul a1 a1) fun k=>
 vK (binV .i .mul k a1) fun c=>
 vK (binV .i .lss (ix b 0) a1) fun w=>
 iteK w (
 vK (binV .i .mul (.int .i64 3) j) fun x=>
 vK (binV .i .mul (.int .i64 5) e) fun y=>
 vK (binV .i .mul y a1) fun z=>
 vK (binV .i .sub x z) fun aa=>
 vK (binV .i .mul (.int .i64 2) c) fun ab=>
 vK (binV .i .add aa ab) fun ac=>
 vK (binV .i .mul (.int .i64 2) c) fun ad=>
 FCall prog zaP #[ac,(.int .i64 1073741824),ad] g fun ae af=>
 R ae af) (
 vK (binV .i .mul (.int .i64 5) e) fun ag=>
 vK (binV .i .mul ag a1) fun ah=>
 vK (binV .i .sub ah j) fun ai=>
 vK (binV .i .mul (.int .i64 8) (ix b 0)) fun aj=>
 vK (binV .i .mul aj k) fun ak=>
 vK (binV .i .sub ai ak) fun al=>
 vK (binV .i .mul (.int .i64 4) c) fun am=>
 vK (binV .i .add al am) fun an=>
 vK (binV .i .mul (.int .i64 2) c) fun ao=>
 FCall prog zaP #[an,(.int .i64 1073741824),ao] g fun ap aq=>
 R ap aq)))
theorem zr7 (H:zlN a0 a1 h R):FCall prog zjG #[a0,a1] h R:=fk f280 (.s .z (.s (.s .z (.s (.s .z .z) .z)) (.s (.s .z (.s (.s .z .z) .z)) (.j 503316481 [0] (.s .z (.s .z .z)) (.s .z (.s .z (.s .z (.s .z (.s (.s .z (.s (.s .z .z) .z)) (.s .z .z)))))))))) H
def ziF (a0 a1:Value)(h:Heap)(R:Value→Heap→Prop):Prop:=
 FCall prog zlk #[a0,a1] h fun d c=>
 vK (unV .not d) fun a=>
 vK (gV a false (some a0)) fun e=>
 vK (gV a false (some a1)) fun f=>
 vK (gV a false (binV .i .mul (.int .i64 3) f)) fun g=>
 vK (gV a false (binV .i .geq e g)) fun j=>
 vK (pickV a (.bool true) j) fun b=>
 vK (gV b false (some a0)) fun k=>
 vK (gV b false (some a1)) fun l=>
 vK (gV b false (binV .i .mul (.int .i64 (-3)) l)) fun m=>
 vK (gV b false (binV .i .leq k m)) fun n=>
 vK (pickV b (.bool true) n) fun o=>
 iteK o (
 R (.int .i64 0) c) (
 FCall prog zeH #[a0,a1] c fun p q=>
 vK (binV .i .mul (.int .i64 3) a1) fun r=>
 FCall prog zeH #[a0,r] q fun s t=>
 FCall prog zfb #[p,s,(.int .i64 40)] t fun u v=>
 FCall prog zdY #[u,(.int .i64 10)] v fun w x=>
 R w x)
theorem zor (H:ziF a0 a1 h R):FCall prog zgn #[a0,a1] h R:=fk f281 (.s .z (.s (.s .z (.s (.s .z .z) .z)) (.s .z (.s .z .z)))) H
def zlQ (a0 a1:Value)(h:Heap)(R:Value→Heap→Prop):Prop:=
 newK (Value.cells a0) 293 h fun q r=>
 newK #[(.int .u64 0),(.int .u64 0)] 293 r fun d s=>
 vK ((fillL #[(.int .u64 0),(.int .u64 0)] []).map .agg) fun t=>
 newK #[(.int .u64 0),(.int .u64 0)] 293 s fun b u=>
 stK 2 b t u fun a7 v=>
 vK ((fillL #[(.int .u64 0),(.int .u64 0)] []).map .agg) fun w=>
 newK #[(.int .u64 0),(.int .u64 0)] 293 v fun c x=>
 stK 2 c w x fun a8 f=>
 vK (binV .i .eql a1 (.int .u64 0)) fun y=>
 iteK y (
 vK (ldsV 2 f b) fun z=>
 stK 2 d z f fun a9 k=>
 vK (ldsV 2 k d) fun aa=>
 R (.tuple #[aa,(.int .u64 0)]) k) (
 loopK [(.int .i64 127)] f fun e ba a l=>
 vK (binV .i .geq (ix e 0) (.int .i64 0)) fun ab=>
 iteK ab (
 drawK a fun S=>
 qK S (fun a=>ldsV 2 a c) fun ac=>
 qK S (fun a=>ldsV 2 a q) fun ad=>
 FCall prog zcy #[ad,(ix e 0)] a fun ae m=>
 S m∧(FCall prog zbf #[ac,ae] m fun af ag=>
 stK 2 c af ag fun bb n=>
 vK (ldsV 2 n b) fun ah=>
 FCall prog zbf #[ah,(.int .u64 0)] n fun ai aj=>
 stK 2 b ai aj fun bc o=>
 vK (ldsV 2 o c) fun ak=>
 vK ((fillL #[(.int .u64 0),(.int .u64 0)] [(0,1,(.int .u64 0)),(1,1,a1)]).map .agg) fun al=>
 FCall prog zcZ #[ak,al] o fun am g=>
 vK (unV .not am) fun an=>
 iteK an (
 vK (ldsV 2 g c) fun ao=>
 vK ((fillL #[(.int .u64 0),(.int .u64 0)] [(0,1,(.int .u64 0)),(1,1,a1)]).map .agg) fun ap=>
 FCall prog zfz #[ao,ap] g fun aq ar=>
 stK 2 c aq ar fun bd p=>
 vK (fldV 1 b) fun au=>
 vK (ldV p au) fun av=>
 vK (binV .i .add av (.int .u64 1)) fun aw=>
 vK (fldV 1 b) fun ax=>
 stK 1 ax aw p fun be ay=>
 vK (binV .i .sub (ix e 0) (.int .i64 1)) fun az=>
 l [az] ay) (
 vK (binV .i .sub (ix e 0) (.int .i64 1)) fun a2=>
 l [a2] g))) (
 drawK a fun S=>
 qK S (fun a=>ldsV 2 a b) fun a3=>
 vK (fldV 1 c) fun a4=>
 qK S (fun a=>ldV a a4) fun a5=>
 stK 2 d a3 a fun bf j=>
 S j∧(vK (ldsV 2 j d) fun a6=>
 R (.tuple #[a6,a5]) j)))
theorem zsa (H:zlQ a0 a1 h R):FCall prog zg5 #[a0,a1] h R:=fk f282 (.s .z (.s .z (.s .z (.s (.s .z (.s (.s .z .z) .z)) (.s (.s .z (.l 274877890816 [8] (.s (.s .z (.s .z .z)) (.s (.s (.d (.op 0 .r (.op 1 .r (.op 2 .r (.op 3 .e (.op 4 .n (.op 5 .n .nil))))))) (.s .z (.s .z (.s (.s .z .z) .z)))) .z)))) (.s (.d (.op 0 .r (.op 1 .r (.op 2 .r (.op 3 .e (.op 4 .r .nil)))))) .z)))))) H
def zqL (a0 a1 a2 a3:Value)(h:Heap)(R:Value→Heap→Prop):Prop:=
 vK (binV .i .geq a0 (.int .i64 0)) fun b=>
 vK (gV b true (some a0)) fun j=>
 vK (gV b true (binV .i .lss j (.int .i64 3))) fun k=>
 vK (pickV b k (.bool false)) fun c=>
 vK (gV c true (some a1)) fun l=>
 vK (gV c true (binV .i .geq l (.int .i64 1))) fun m=>
 vK (pickV c m (.bool false)) fun d=>
 vK (gV d true (some a1)) fun n=>
 vK (gV d true (binV .i .leq n (.int .i64 65536))) fun o=>
 vK (pickV d o (.bool false)) fun e=>
 vK (gV e true (some a2)) fun p=>
 vK (gV e true (binV .i .geq p (.int .i64 1))) fun q=>
 vK (pickV e q (.bool false)) fun f=>
 vK (gV f true (some a2)) fun r=>
 vK (gV f true (binV .i .leq r (.int .i64 65536))) fun s=>
 vK (pickV f s (.bool false)) fun g=>
 vK (gV g true (some a3)) fun t=>
 vK (gV g true (binV .i .geq t (.int .i64 0))) fun u=>
 vK (pickV g u (.bool false)) fun a=>
 vK (gV a true (some a3)) fun v=>
 vK (gV a true (some a2)) fun w=>
 vK (gV a true (binV .i .lss v w)) fun x=>
 vK (pickV a x (.bool false)) fun y=>
 R y h
theorem ok_raw_may (H:zqL a0 a1 a2 a3 h R):FCall prog zp4 #[a0,a1,a2,a3] h R:=fk f285 (.s .z (.s .z .z)) H
def zoU (a0 a1:Value)(h:Heap)(R:Value→Heap→Prop):Prop:=
 vK (unV .neg a0) fun a=>
 FCall prog zc9 #[a,a1] h fun b c=>
 vK (unV .neg b) fun d=>
 R d c
theorem ok_raw_ceil (H:zoU a0 a1 h R):FCall prog zj5 #[a0,a1] h R:=fk f286 (.s .z (.s .z .z)) H
def zi4 (a0 a1:Value)(h:Heap)(R:Value→Heap→Prop):Prop:=
 FCall prog znD #[a0,a1] h fun d b=>
 vK (unV .not d) fun a=>
 vK (gV a false (some a0)) fun e=>
 gK a false (fun f=>FCall prog zid #[e] b f) b fun g c=>
 vK (gV a false (some a1)) fun j=>
 vK (gV a false (binV .i .mul (.int .i64 3) j)) fun k=>
 vK (gV a false (binV .i .geq g k)) fun l=>
 vK (pickV a (.bool true) l) fun m=>
 iteK m (
 R (.int .i64 0) c) (
 FCall prog zfx #[a0,a1] c fun n o=>
 vK (binV .i .mul (.int .i64 3) a1) fun p=>
 FCall prog zfx #[a0,p] o fun q r=>
 FCall prog zgj #[n,q,(.int .i64 40)] r fun s t=>
 FCall prog zc8 #[s,(.int .i64 10)] t fun u v=>
 R u v)
theorem zpg (H:zi4 a0 a1 h R):FCall prog zhe #[a0,a1] h R:=fk f287 (.s .z (.s (.s .z (.s (.s .z .z) .z)) (.s .z .z))) H
def zbB (a0 a1:Value)(h:Heap)(R:Value→Heap→Prop):Prop:=
 FCall prog zb3 #[a0,a1] h fun a b=>
 vK (binV .i .geq a (.int .i64 0)) fun c=>
 R c b
theorem zde (H:zbB a0 a1 h R):FCall prog zaW #[a0,a1] h R:=fk f288 (.s .z (.s .z .z)) H
def ziA (a0:Value)(h:Heap)(R:Value→Heap→Prop):Prop:=
 FCall prog zib #[a0] h fun a b=>
 vK (binV .i .gtr a (.int .i64 1099511627776)) fun c=>
 R c b
theorem zom (H:ziA a0 h R):FCall prog zdV #[a0] h R:=fk f289 (.s .z (.s .z .z)) H
def znK (a0:Value)(h:Heap)(R:Value→Heap→Prop):Prop:=
 FCall prog zlp #[a0,(.int .i64 (-1))] h fun a b=>
 vK (maxV a0 a) fun c=>
 R c b
theorem ok_taps_size (H:znK a0 h R):FCall prog zib #[a0] h R:=fk f290 (.s .z (.s .z .z)) H
def zn5 (a0 a1:Value)(h:Heap)(R:Value→Heap→Prop):Prop:=
 vK (binV .i .add a0 a1) fun c=>
 vK (binV .i .gtr a1 (.int .i64 0)) fun a=>
 vK (gV a true (some c)) fun d=>
 vK (gV a true (some a0)) fun e=>
 vK (gV a true (binV .i .lss d e)) fun f=>
 vK (pickV a f (.bool false)) fun g=>
 iteK g (
 R (.int .i64 9223372036854775807) h) (
 vK (binV .i .lss a1 (.int .i64 0)) fun b=>
 vK (gV b true (some c)) fun j=>
 vK (gV b true (some a0)) fun k=>
 vK (gV b true (binV .i .gtr j k)) fun l=>
 vK (pickV b l (.bool false)) fun m=>
 iteK m (
 R (.int .i64 (-9223372036854775808)) h) (
 R c h))
theorem ok_fixed_Add (H:zn5 a0 a1 h R):FCall prog ziu #[a0,a1] h R:=fk f291 (.s .z (.s .z (.s (.s .z (.s (.s .z .z) (.s .z (.s (.s .z .z) .z)))) (.s .z .z)))) H
def zl0 (a0:Value)(h:Heap)(R:Value→Heap→Prop):Prop:=
 vK (binV .i .lss a0 (.int .i64 0)) fun a=>
 iteK a (
 vK (cviV .u64 a0) fun b=>
 vK (unV .neg b) fun c=>
 R c h) (
 vK (cviV .u64 a0) fun d=>
 R d h)
theorem zsk (H:zl0 a0 h R):FCall prog zcu #[a0] h R:=fk f292 (.s .z (.s (.s .z (.s (.s .z .z) .z)) (.s .z .z))) H
def zl1 (a0 a1:Value)(h:Heap)(R:Value→Heap→Prop):Prop:=
 vK (gV a1 true (some a0)) fun a=>
 vK (gV a1 true (binV .i .geq a (.int .u64 9223372036854775808))) fun b=>
 vK (pickV a1 b (.bool false)) fun c=>
 iteK c (
 R (.int .i64 (-9223372036854775808)) h) (
 iteK a1 (
 vK (cviV .i64 a0) fun d=>
 vK (unV .neg d) fun e=>
 R e h) (
 vK (binV .i .gtr a0 (.int .u64 9223372036854775807)) fun f=>
 iteK f (
 R (.int .i64 9223372036854775807) h) (
 vK (cviV .i64 a0) fun g=>
 R g h)))
theorem zsl (H:zl1 a0 a1 h R):FCall prog zdI #[a0,a1] h R:=fk f293 (.s .z (.s (.s .z (.s (.s .z .z) (.s .z (.s (.s .z .z) (.s .z (.s (.s .z .z) .z)))))) (.s .z .z))) H
def zcN (a0 a1 a2:Value)(h:Heap)(R:Value→Heap→Prop):Prop:=
 loopK [(.int .i64 0),(.int .i64 20)] h fun c ab e k=>
 vK (binV .i .leq (ix c 1) a1) fun l=>
 iteK l (
 FCall prog zaL #[a0,(ix c 0),(ix c 1),a2] e fun ac m=>
 vK (binV .i .add (ix c 1) (.int .i64 20)) fun n=>
 k [(ix c 1),n] m) (
 FCall prog zaL #[a0,(ix c 0),a1,a2] e fun ad o=>
 loopK [(.int .i64 20)] o fun b ae f g=>
 vK (binV .i .lss (ix b 0) a1) fun p=>
 iteK p (
 vK (binV .i .mul (.int .i64 2) (ix b 0)) fun q=>
 loopK [(.int .i64 0),q] f fun a af d r=>
 vK (binV .i .leq (ix a 1) a1) fun s=>
 iteK s (
 vK (binV .i .add (ix a 0) (ix b 0)) fun t=>
 FCall prog zay #[a0,(ix a 0),t,(ix a 1),a2] d fun ag u=>
 vK (binV .i .mul (.int .i64 2) (ix b 0)) fun v=>
 vK (binV .i .add (ix a 1) v) fun w=>
 r [(ix a 1),w] u) (
 vK (binV .i .add (ix a 0) (ix b 0)) fun j=>
 vK (binV .i .lss j a1) fun x=>
 iteK x (
 FCall prog zay #[a0,(ix a 0),j,a1,a2] d fun ah y=>
 vK (binV .i .mul (ix b 0) (.int .i64 2)) fun z=>
 g [z] y) (
 vK (binV .i .mul (ix b 0) (.int .i64 2)) fun aa=>
 g [aa] d))) (
 R (.tuple #[]) f))
theorem zf4 (H:zcN a0 a1 a2 h R):FCall prog zbZ #[a0,a1,a2] h R:=fk f294 (.s .z (.s .z (.s (.l 8386944 [7,8] (.s (.s .z (.s .z .z)) (.s .z (.s .z .z)))) (.s .z (.l 9223372036586341312 [6] (.s (.s .z (.s .z .z)) (.s .z (.s (.l 562941363487104 [7,8] (.s (.s .z (.s .z .z)) (.s .z (.s .z .z)))) (.s (.s .z (.s .z (.s .z .z))) .z))))))))) H
def zgN (a0:Value)(h:Heap)(R:Value→Heap→Prop):Prop:=
 vK (binV .i .neq a0 a0) fun a=>
 R a h
theorem zmy (H:zgN a0 h R):FCall prog zda #[a0] h R:=fk f295 (.s .z (.s .z .z)) H
def zoY (a0:Value)(h:Heap)(R:Value→Heap→Prop):Prop:=
 vK (maxV (.int .i64 0) a0) fun c=>
 vK (binV .i .quo c (.int .i64 762123384786)) fun g=>
 vK (binV .i .rem c (.int .i64 762123384786)) fun j=>
 loopK [(.int .i64 1099511627776),(.int .i64 1099511627776),(.int .i64 0)] h fun a v d e=>
 vK (binV .i .lss (ix a 2) (.int .i64 16)) fun k=>
 iteK k (
 vK (binV .i .add (ix a 2) (.int .i64 1)) fun l=>
 vK (binV .i .shl l (.int .u64 40)) fun m=>
 FCall prog zba #[(ix a 1),j,m] d fun b f=>
 vK (binV .i .rem (ix a 2) (.int .i64 2)) fun n=>
 vK (binV .i .eql n (.int .i64 0)) fun o=>
 iteK o (
 vK (binV .i .sub (ix a 0) b) fun p=>
 vK (binV .i .add (ix a 2) (.int .i64 1)) fun q=>
 e [p,b,q] f) (
 vK (binV .i .add (ix a 0) b) fun r=>
 vK (binV .i .add (ix a 2) (.int .i64 1)) fun s=>
 e [r,b,s] f)) (
 FCall prog zc8 #[(ix a 0),g] d fun t u=>
 R t u)
theorem ok_expo_Exp (H:zoY a0 h R):FCall prog znG #[a0] h R:=fk f296 (.s .z (.s .z (.s .z (.s .z (.s (.s .z (.l 8589918432 [5,6,14] (.s .z (.s (.s .z .z) (.s (.s .z (.s .z (.s .z (.s .z .z)))) .z))))) (.s .z .z)))))) H
def zl3 (a0 a1:Value)(h:Heap)(R:Value→Heap→Prop):Prop:=
 vK (binV .i .lss a1 (.int .i64 1)) fun a=>
 vK (gV a false (some a1)) fun d=>
 vK (gV a false (binV .i .gtr d (.int .i64 4194304))) fun e=>
 vK (pickV a (.bool true) e) fun b=>
 vK (gV b false (some a0)) fun f=>
 vK (gV b false (binV .i .lss f (.int .i64 (-16384)))) fun g=>
 vK (pickV b (.bool true) g) fun c=>
 vK (gV c false (some a0)) fun j=>
 vK (gV c false (binV .i .gtr j (.int .i64 16384))) fun k=>
 vK (pickV c (.bool true) k) fun l=>
 iteK l (
 R (.int .i64 9223372036854775807) h) (
 vK (binV .i .mul a0 a0) fun m=>
 vK (binV .i .shl m (.int .u64 31)) fun n=>
 vK (binV .i .mul a1 a1) fun o=>
 FCall prog zba #[n,(.int .i64 1099511627776),o] h fun p q=>
 R p q)
theorem zsm (H:zl3 a0 a1 h R):FCall prog zjM #[a0,a1] h R:=fk f297 (.s .z (.s (.s .z (.s (.s .z .z) .z)) (.s .z .z))) H
def ziJ (a0 a1:Value)(h:Heap)(R:Value→Heap→Prop):Prop:=
 iteK (.bool false) (
 vK (cviV .u32 a0) fun c=>
 vK (cviV .u32 a1) fun d=>
 FCall prog znF #[c,d] h fun a e=>
 vK (extV a 0) fun f=>
 vK (extV a 1) fun g=>
 vK (cviV .u64 f) fun i=>
 vK (cviV .u64 g) fun j=>
 R (.tuple #[i,j]) e) (
 FCall prog zc7 #[a0,a1] h fun b k=>
 vK (extV b 0) fun l=>
 vK (extV b 1) fun m=>
 R (.tuple #[l,m]) k)
theorem zov (H:ziJ a0 a1 h R):FCall prog zgs #[a0,a1] h R:=fk f298 (.s .z (.s (.s (.s .z (.s .z .z)) .z) (.s .z (.s .z .z)))) H
def zi1 (a0 a1:Value)(h:Heap)(R:Value→Heap→Prop):Prop:=
 FCall prog zgi #[a0] h fun c d=>
 FCall prog zgi #[a1] d fun e f=>
 FCall prog zc7 #[c,e] f fun a g=>
 vK (extV a 0) fun j=>
 vK (extV a 1) fun k=>
 vK (binV .i .lss a0 (.int .i64 0)) fun l=>
 vK (binV .i .lss a1 (.int .i64 0)) fun m=>
 vK (binV .b .neq l m) fun n=>
 R (.tuple #[j,k,n]) g
theorem zpd (H:zi1 a0 a1 h R):FCall prog zeD #[a0,a1] h R:=fk f299 (.s .z (.s .z (.s .z .z))) H
def znJ (a0:Value)(h:Heap)(R:Value→Heap→Prop):Prop:=
 vK (binV .i .lss a0 (.int .i64 0)) fun a=>
 iteK a (
 vK (cviV .u64 a0) fun b=>
 vK (unV .neg b) fun c=>
 R c h) (
 vK (cviV .u64 a0) fun d=>
 R d h)
theorem ok_wide_size (H:znJ a0 h R):FCall prog zgi #[a0] h R:=fk f300 (.s .z (.s (.s .z (.s (.s .z .z) .z)) (.s .z .z))) H
def zkk (a0 a1 a2:Value)(h:Heap)(R:Value→Heap→Prop):Prop:=
 vK (gV a2 true (some a0)) fun c=>
 vK (gV a2 true (binV .i .gtr c (.int .u64 0))) fun d=>
 vK (gV a2 true (some d)) fun a=>
 vK (gV a false (some a1)) fun e=>
 vK (gV a false (binV .i .gtr e (.int .u64 9223372036854775808))) fun f=>
 vK (gV a2 true (pickV a (.bool true) f)) fun g=>
 vK (pickV a2 g (.bool false)) fun j=>
 iteK j (
 R (.int .i64 (-9223372036854775808)) h) (
 iteK a2 (
 vK (unV .neg a1) fun k=>
 vK (cviV .i64 k) fun l=>
 R l h) (
 vK (binV .i .gtr a0 (.int .u64 0)) fun b=>
 vK (gV b false (some a1)) fun m=>
 vK (gV b false (binV .i .gtr m (.int .u64 9223372036854775807))) fun n=>
 vK (pickV b (.bool true) n) fun o=>
 iteK o (
 R (.int .i64 9223372036854775807) h) (
 vK (cviV .i64 a1) fun p=>
 R p h)))
theorem zp8 (H:zkk a0 a1 a2 h R):FCall prog za9 #[a0,a1,a2] h R:=fk f301 (.s .z (.s (.s .z (.s (.s .z .z) (.s .z (.s (.s .z .z) (.s .z (.s (.s .z .z) .z)))))) (.s .z .z))) H
def zgM (a0 a1 a2:Value)(h:Heap)(R:Value→Heap→Prop):Prop:=
 joinK (fun o=>
 vK (binV .i .eql a2 (.int .u64 0)) fun af=>
 iteK af (
 vK (ldV h (.pointer (some ⟨zia,0,none⟩))) fun bz=>
 failK h fun b0 ag=>
 o [] ag) (
 o [] h))
 fun b1 b2 j=>
 joinK (fun p=>
 vK (binV .i .leq a2 a0) fun ah=>
 iteK ah (
 vK (ldV j (.pointer (some ⟨zhb,0,none⟩))) fun b3=>
 failK j fun b4 ai=>
 p [] ai) (
 p [] j))
 fun b5 b6 q=>
 vK (binV .i .eql a0 (.int .u64 0)) fun aj=>
 iteK aj (
 vK (binV .i .quo a1 a2) fun ak=>
 vK (binV .i .rem a1 a2) fun al=>
 R (.tuple #[ak,al]) q) (
 FCall prog zb2 #[a2] q fun am an=>
 vK (cviV .u64 am) fun f=>
 vK (binV .i .shl a2 f) fun g=>
 vK (binV .i .shr g (.int .u64 32)) fun c=>
 vK (binV .i .and g (.int .u64 4294967295)) fun r=>
 vK (binV .i .shl a0 f) fun ao=>
 vK (binV .i .sub (.int .u64 64) f) fun ap=>
 vK (binV .i .shr a1 ap) fun aq=>
 vK (binV .i .or ao aq) fun k=>
 vK (binV .i .shl a1 f) fun s=>
 vK (binV .i .shr s (.int .u64 32)) fun t=>
 vK (binV .i .and s (.int .u64 4294967295)) fun u=>
 vK (binV .i .quo k c) fun v=>
 vK (binV .i .mul v c) fun ar=>
 vK (binV .i .sub k ar) fun au=>
 joinK (fun w=>
 loopK [v,au] an fun d b7 l av=>
 vK (binV .i .geq (ix d 0) (.int .u64 4294967296)) fun a=>
 vK (gV a false (some (ix d 0))) fun aw=>
 vK (gV a false (some r)) fun ax=>
 vK (gV a false (binV .i .mul aw ax)) fun ay=>
 vK (gV a false (some (ix d 1))) fun az=>
 vK (gV a false (binV .i .mul (.int .u64 4294967296) az)) fun a3=>
 vK (gV a false (some t)) fun a4=>
 vK (gV a false (binV .i .add a3 a4)) fun a5=>
 vK (gV a false (binV .i .gtr ay a5)) fun a6=>
 vK (pickV a (.bool true) a6) fun a7=>
 iteK a7 (
 vK (binV .i .sub (ix d 0) (.int .u64 1)) fun x=>
 vK (binV .i .add (ix d 1) c) fun y=>
 vK (binV .i .geq y (.int .u64 4294967296)) fun a8=>
 iteK a8 (
 w [x] l) (
 av [x,y] l)) (
 w [(ix d 0)] l))
 fun z b8 a9=>
 vK (binV .i .mul k (.int .u64 4294967296)) fun ba=>
 vK (binV .i .add ba t) fun bb=>
 vK (binV .i .mul (ix z 0) g) fun bc=>
 vK (binV .i .sub bb bc) fun m=>
 vK (binV .i .quo m c) fun aa=>
 vK (binV .i .mul aa c) fun bd=>
 vK (binV .i .sub m bd) fun be=>
 joinK (fun ab=>
 loopK [be,aa] a9 fun e b9 n bf=>
 vK (binV .i .geq (ix e 1) (.int .u64 4294967296)) fun b=>
 vK (gV b false (some (ix e 1))) fun bg=>
 vK (gV b false (some r)) fun bh=>
 vK (gV b false (binV .i .mul bg bh)) fun bi=>
 vK (gV b false (some (ix e 0))) fun bj=>
 vK (gV b false (binV .i .mul (.int .u64 4294967296) bj)) fun bk=>
 vK (gV b false (some u)) fun bl=>
 vK (gV b false (binV .i .add bk bl)) fun bm=>
 vK (gV b false (binV .i .gtr bi bm)) fun bn=>
 vK (pickV b (.bool true) bn) fun bo=>
 iteK bo (
 vK (binV .i .sub (ix e 1) (.int .u64 1)) fun ac=>
 vK (binV .i .add (ix e 0) c) fun ad=>
 vK (binV .i .geq ad (.int .u64 4294967296)) fun bp=>
 iteK bp (
 ab [ac] n) (
 bf [ad,ac] n)) (
 ab [(ix e 1)] n))
 fun ae ca bq=>
 vK (binV .i .mul (ix z 0) (.int .u64 4294967296)) fun br=>
 vK (binV .i .add br (ix ae 0)) fun bs=>
 vK (binV .i .mul m (.int .u64 4294967296)) fun bt=>
 vK (binV .i .add bt u) fun bu=>
 vK (binV .i .mul (ix ae 0) g) fun bv=>
 vK (binV .i .sub bu bv) fun bw=>
 vK (binV .i .shr bw f) fun bx=>
 R (.tuple #[bs,bx]) bq)
theorem zmx (H:zgM a0 a1 a2 h R):FCall prog zev #[a0,a1,a2] h R:=fk f302 (.s .z (.j 3670016 [] (.s .z (.s .z .z)) (.j 62914560 [] (.s .z (.s .z .z)) (.s (.s .z (.s (.s .z .z) .z)) (.s .z (.s .z (.s .z (.s .z (.s .z (.s .z (.s .z (.s .z (.s .z (.s .z (.s (.m 77371104881383677504880640 [15] (.l 77371104881383677504880640 [15,16] (.s (.s .z (.s .z .z)) (.s .z (.s .z (.s .z (.s .z .z))))))) (.s .z (.s .z (.s .z (.s (.m 2658450920967430832890008133748195328 [18] (.l 2658450920967430832890008133748195328 [16,18] (.s (.s .z (.s .z .z)) (.s .z (.s .z (.s .z (.s .z .z))))))) (.s .z .z)))))))))))))))))))) H
def znT (a0 a1:Value)(h:Heap)(R:Value→Heap→Prop):Prop:=
 vK (binV .i .lss a1 (.int .i64 1)) fun b=>
 vK (gV b false (some a1)) fun c=>
 vK (gV b false (binV .i .gtr c (.int .i64 1048576))) fun d=>
 vK (pickV b (.bool true) d) fun e=>
 iteK e (
 R (.bool false) h) (
 vK (binV .i .mul (.int .i64 4) a1) fun f=>
 vK (binV .i .leq a0 f) fun a=>
 vK (gV a true (some a0)) fun g=>
 vK (gV a true (some a1)) fun j=>
 vK (gV a true (binV .i .mul (.int .i64 (-4)) j)) fun k=>
 vK (gV a true (binV .i .geq g k)) fun l=>
 vK (pickV a l (.bool false)) fun m=>
 R m h)
theorem ok_ref04_May (H:znT a0 a1 h R):FCall prog zlk #[a0,a1] h R:=fk f305 (.s .z (.s (.s .z (.s (.s .z .z) .z)) (.s .z .z))) H
def zhw (a0 a1 a2:Value)(h:Heap)(R:Value→Heap→Prop):Prop:=
 joinK (fun p=>
 vK (binV .i .lss a2 (.int .i64 0)) fun t=>
 iteK t (
 p [(.int .i64 0)] h) (
 p [a2] h))
 fun e bs q=>
 vK (binV .i .gtr (ix e 0) (.int .i64 127)) fun u=>
 iteK u (
 R (.int .i64 0) q) (
 vK (binV .i .lss a0 (.int .i64 0)) fun v=>
 vK (binV .i .lss a1 (.int .i64 0)) fun w=>
 vK (binV .b .neq v w) fun j=>
 FCall prog zbG #[a0] q fun x y=>
 FCall prog zbG #[a1] y fun z aa=>
 FCall prog zfy #[x,z] aa fun ab ac=>
 newK #[(.int .u64 0),(.int .u64 0)] 293 ac fun f ad=>
 stK 2 f ab ad fun bt m=>
 vK (binV .i .eql (ix e 0) (.int .i64 0)) fun ae=>
 iteK ae (
 vK (ldsV 2 m f) fun af=>
 FCall prog za3 #[af,j] m fun ag ah=>
 R ag ah) (
 vK ((fillL #[(.int .u64 0),(.int .u64 0)] []).map .agg) fun ai=>
 newK #[(.int .u64 0),(.int .u64 0)] 293 m fun c aj=>
 stK 2 c ai aj fun bu ak=>
 loopK [(.int .i64 127)] ak fun n bv d al=>
 vK (binV .i .geq (ix n 0) (ix e 0)) fun am=>
 iteK am (
 drawK d fun S=>
 qK S (fun d=>ldsV 2 d c) fun an=>
 qK S (fun d=>ldsV 2 d f) fun ao=>
 FCall prog zcy #[ao,(ix n 0)] d fun ap r=>
 S r∧(FCall prog zbf #[an,ap] r fun aq ar=>
 stK 2 c aq ar fun bw au=>
 vK (binV .i .sub (ix n 0) (.int .i64 1)) fun av=>
 al [av] au)) (
 vK (binV .i .sub (ix e 0) (.int .i64 1)) fun aw=>
 loopK [(.bool false),(.int .i64 0)] d fun a bx g ax=>
 vK (binV .i .lss (ix a 1) aw) fun ay=>
 iteK ay (
 vK (gV (ix a 0) false (ldsV 2 g f)) fun az=>
 vK (gV (ix a 0) false (some (ix a 1))) fun a3=>
 gK (ix a 0) false (fun a4=>FCall prog zcy #[az,a3] g a4) g fun a5 a6=>
 vK (gV (ix a 0) false (binV .i .eql a5 (.int .u64 1))) fun a7=>
 vK (pickV (ix a 0) (.bool true) a7) fun a8=>
 vK (binV .i .add (ix a 1) (.int .i64 1)) fun a9=>
 ax [a8,a9] a6) (
 vK (ldsV 2 g f) fun ba=>
 vK (binV .i .sub (ix e 0) (.int .i64 1)) fun bb=>
 FCall prog zcy #[ba,bb] g fun bc k=>
 vK (binV .i .eql bc (.int .u64 1)) fun l=>
 vK (gV l true (some (ix a 0))) fun bd=>
 vK (gV l true (some bd)) fun o=>
 vK (gV o false (some j)) fun be=>
 vK (gV o false (unV .not be)) fun bf=>
 vK (gV l true (pickV o (.bool true) bf)) fun bg=>
 vK (pickV l bg (.bool false)) fun bh=>
 iteK bh (
 vK (ldsV 2 k c) fun bi=>
 vK ((fillL #[(.int .u64 0),(.int .u64 0)] [(1,1,(.int .u64 1))]).map .agg) fun bj=>
 FCall prog zcs #[bi,bj] k fun bk bl=>
 stK 2 c bk bl fun bz s=>
 vK (ldsV 2 s c) fun bm=>
 FCall prog za3 #[bm,j] s fun bn bo=>
 R bn bo) (
 vK (ldsV 2 k c) fun bp=>
 FCall prog za3 #[bp,j] k fun bq br=>
 R bq br)))))
theorem zm9 (H:zhw a0 a1 a2 h R):FCall prog zfb #[a0,a1,a2] h R:=fk f306 (.s .z (.j 24580 [2] (.s .z (.s .z .z)) (.s (.s .z (.s (.s .z .z) .z)) (.s .z (.s .z (.s (.s .z (.s (.s .z .z) .z)) (.s .z (.s (.s .z (.l 8787503088640 [10] (.s (.s .z (.s .z .z)) (.s (.d (.op 0 .r (.op 1 .r (.op 2 .r (.op 3 .e (.op 4 .n (.op 5 .n .nil))))))) .z)))) (.s .z (.s (.s .z (.l 72022409665845248 [11,45] (.s .z (.s (.s .z .z) (.s (.s .z .z) .z))))) (.s (.s .z (.s .z .z)) (.s .z .z)))))))))))) H
def zi8 (a0 a1:Value)(h:Heap)(R:Value→Heap→Prop):Prop:=
 joinK (fun c=>
 vK (binV .i .lss a0 (.int .i64 0)) fun j=>
 iteK j (
 vK (unV .neg a0) fun k=>
 c [k] h) (
 c [a0] h))
 fun d ad l=>
 FCall prog zaP #[(.int .i64 10851744800547),(ix d 0),a1] l fun m n=>
 FCall prog zaP #[m,(ix d 0),a1] n fun o p=>
 loopK [(.int .i64 1099511627776),(.int .i64 0),(.int .i64 1099511627776),(.int .i64 1)] p fun a ae e f=>
 vK (binV .i .leq (ix a 3) (.int .i64 30)) fun q=>
 iteK q (
 vK (binV .i .mul (.int .i64 2) (ix a 3)) fun r=>
 vK (binV .i .mul (.int .i64 2) (ix a 3)) fun s=>
 vK (binV .i .add s (.int .i64 1)) fun t=>
 vK (binV .i .mul r t) fun u=>
 vK (binV .i .mul u (.int .i64 1099511627776)) fun v=>
 FCall prog zaP #[(ix a 2),o,v] e fun b g=>
 vK (binV .i .rem (ix a 3) (.int .i64 2)) fun w=>
 vK (binV .i .eql w (.int .i64 1)) fun x=>
 iteK x (
 vK (binV .i .add (ix a 1) b) fun y=>
 vK (binV .i .add (ix a 3) (.int .i64 1)) fun z=>
 f [(ix a 0),y,b,z] g) (
 vK (binV .i .add (ix a 0) b) fun aa=>
 vK (binV .i .add (ix a 3) (.int .i64 1)) fun ab=>
 f [aa,(ix a 1),b,ab] g)) (
 vK (binV .i .sub (ix a 0) (ix a 1)) fun ac=>
 R ac e)
theorem zpk (H:zi8 a0 a1 h R):FCall prog zeH #[a0,a1] h R:=fk f307 (.s .z (.j 61441 [0] (.s .z (.s .z .z)) (.s .z (.s .z (.s .z (.s .z (.s .z (.s (.s .z (.l 140737479970688 [7,8,9,10] (.s (.s .z (.s .z .z)) (.s (.s .z (.s .z (.s .z (.s .z .z)))) .z)))) (.s .z .z))))))))) H
def zoR (a0 a1:Value)(h:Heap)(R:Value→Heap→Prop):Prop:=
 vK (binV .i .geq a1 (.int .i64 1)) fun c=>
 vK (gV c true (some a1)) fun d=>
 vK (gV c true (binV .i .leq d (.int .i64 1048576))) fun e=>
 vK (pickV c e (.bool false)) fun a=>
 vK (gV a true (some a0)) fun f=>
 vK (gV a true (some a1)) fun g=>
 vK (gV a true (binV .i .mul (.int .i64 (-4)) g)) fun j=>
 vK (gV a true (binV .i .geq f j)) fun k=>
 vK (pickV a k (.bool false)) fun b=>
 vK (gV b true (some a0)) fun l=>
 vK (gV b true (some a1)) fun m=>
 vK (gV b true (binV .i .mul (.int .i64 4) m)) fun n=>
 vK (gV b true (binV .i .leq l n)) fun o=>
 vK (pickV b o (.bool false)) fun p=>
 R p h
theorem ok_sinc_May (H:zoR a0 a1 h R):FCall prog znD #[a0,a1] h R:=fk f308 (.s .z (.s .z .z)) H
def znO (a0:Value)(h:Heap)(R:Value→Heap→Prop):Prop:=
 vK (unV .neg a0) fun a=>
 vK (maxV a0 a) fun b=>
 R b h
theorem ok_sinc_size (H:znO a0 h R):FCall prog zid #[a0] h R:=fk f309 (.s .z (.s .z .z)) H
def ziz (a0 a1 a2:Value)(h:Heap)(R:Value→Heap→Prop):Prop:=
 vK (maxV (.int .i64 0) a2) fun b=>
 vK (binV .i .geq b (.int .i64 128)) fun r=>
 iteK r (
 R (.int .i64 0) h) (
 FCall prog zeD #[a0,a1] h fun g j=>
 vK (extV g 0) fun c=>
 vK (extV g 1) fun d=>
 vK (extV g 2) fun e=>
 vK (binV .i .eql b (.int .i64 0)) fun s=>
 iteK s (
 FCall prog za9 #[c,d,e] j fun t u=>
 R t u) (
 FCall prog zg0 #[c,d,b] j fun k v=>
 vK (extV k 0) fun l=>
 vK (extV k 1) fun m=>
 vK (binV .i .sub b (.int .i64 1)) fun w=>
 FCall prog zg0 #[c,d,w] v fun n o=>
 vK (extV n 0) fun aq=>
 vK (extV n 1) fun x=>
 vK (binV .i .and x (.int .u64 1)) fun y=>
 vK (binV .i .eql y (.int .u64 0)) fun f=>
 vK (gV f false (some e)) fun z=>
 vK (gV f false (some z)) fun a=>
 vK (gV a true (some c)) fun aa=>
 vK (gV a true (some d)) fun ab=>
 vK (gV a true (some b)) fun ac=>
 vK (gV a true (binV .i .sub ac (.int .i64 1))) fun ad=>
 gK a true (fun ae=>FCall prog zjB #[aa,ab,ad] o ae) o fun af p=>
 vK (gV f false (pickV a af (.bool false))) fun ag=>
 vK (pickV f (.bool true) ag) fun ah=>
 iteK ah (
 FCall prog za9 #[l,m,e] p fun ai aj=>
 R ai aj) (
 FCall prog zbK #[m,(.int .u64 1),(.int .u64 0)] p fun q ak=>
 vK (extV q 0) fun al=>
 vK (extV q 1) fun am=>
 vK (binV .i .add l am) fun an=>
 FCall prog za9 #[an,al,e] ak fun ao ap=>
 R ao ap)))
theorem zol (H:ziz a0 a1 a2 h R):FCall prog zgj #[a0,a1,a2] h R:=fk f310 (.s .z (.s .z (.s (.s .z (.s (.s .z .z) .z)) (.s .z (.s (.s .z (.s (.s .z .z) .z)) (.s .z (.s .z (.s (.s .z (.s (.s .z .z) .z)) (.s .z (.s .z .z)))))))))) H
def zkm (a0 a1:Value)(h:Heap)(R:Value→Heap→Prop):Prop:=
 FCall prog zid #[a0] h fun b f=>
 FCall prog zba #[(.int .i64 10851744800547),b,a1] f fun g j=>
 FCall prog zba #[g,b,a1] j fun k l=>
 loopK [(.int .i64 1099511627776),(.int .i64 1099511627776),(.int .i64 1),(.int .i64 1)] l fun a x c m=>
 vK (binV .i .leq (ix a 3) (.int .i64 30)) fun n=>
 iteK n (
 vK (unV .neg (ix a 2)) fun d=>
 vK (binV .i .mul (.int .i64 2) (ix a 3)) fun o=>
 vK (binV .i .mul (.int .i64 2) (ix a 3)) fun p=>
 vK (binV .i .add p (.int .i64 1)) fun q=>
 vK (binV .i .mul o q) fun r=>
 vK (binV .i .shl r (.int .u64 40)) fun s=>
 FCall prog zba #[(ix a 1),k,s] c fun e t=>
 vK (binV .i .mul d e) fun u=>
 vK (binV .i .add (ix a 0) u) fun v=>
 vK (binV .i .add (ix a 3) (.int .i64 1)) fun w=>
 m [v,e,d,w] t) (
 R (ix a 0) c)
theorem zqa (H:zkm a0 a1 h R):FCall prog zfx #[a0,a1] h R:=fk f311 (.s .z (.s .z (.s .z (.s .z (.s (.s .z (.l 549755552704 [6,7,8,9] (.s (.s .z (.s .z .z)) (.s (.s .z (.s .z .z)) .z)))) (.s .z .z)))))) H
def zbX (a0 a1:Value)(h:Heap)(R:Value→Heap→Prop):Prop:=
 vK (zaf a0) fun d=>
 loopK [(.int .i64 0)] h fun a m b e=>
 vK (binV .i .lss (ix a 0) d) fun f=>
 iteK f (
 vK (idxV 1 a0 (ix a 0)) fun g=>
 vK (ldV b g) fun j=>
 clK prog a1 #[j] b fun k c=>
 iteK k (
 R (ix a 0) c) (
 vK (binV .i .add (ix a 0) (.int .i64 1)) fun l=>
 e [l] c)) (
 R (.int .i64 (-1)) b)
theorem zdK (H:zbX a0 a1 h R):FCall prog zb3 #[a0,a1] h R:=fk f312 (.s .z (.s (.s .z (.l 524080 [8] (.s .z (.s (.s .z .z) (.s (.s .z (.s .z (.s (.s .z .z) .z))) .z))))) (.s .z .z))) H
def zn3 (a0 a1:Value)(h:Heap)(R:Value→Heap→Prop):Prop:=
 FCall prog zcu #[a0] h fun d e=>
 FCall prog zcu #[a1] e fun f g=>
 FCall prog zc7 #[d,f] g fun a c=>
 vK (extV a 0) fun j=>
 vK (extV a 1) fun k=>
 vK (binV .i .neq j (.int .u64 0)) fun l=>
 iteK l (
 vK (binV .i .lss a0 (.int .i64 0)) fun m=>
 vK (binV .i .lss a1 (.int .i64 0)) fun n=>
 vK (binV .b .neq m n) fun o=>
 FCall prog zdI #[(.int .u64 18446744073709551615),o] c fun p q=>
 R p q) (
 vK (binV .i .lss a0 (.int .i64 0)) fun r=>
 vK (binV .i .lss a1 (.int .i64 0)) fun s=>
 vK (binV .b .neq r s) fun t=>
 FCall prog zdI #[k,t] c fun u v=>
 R u v)
theorem ok_fixed_Mul (H:zn3 a0 a1 h R):FCall prog zlp #[a0,a1] h R:=fk f313 (.s .z (.s .z (.s (.s .z (.s .z .z)) (.s .z .z)))) H
def zbW (a0 a1 a2 a3:Value)(h:Heap)(R:Value→Heap→Prop):Prop:=
 vK (binV .i .add a1 (.int .i64 1)) fun g=>
 loopK [g] h fun e am f j=>
 vK (binV .i .lss (ix e 0) a2) fun k=>
 iteK k (
 loopK [(ix e 0)] f fun b an c l=>
 drawK c fun S=>
 vK (binV .i .gtr (ix b 0) a1) fun a=>
 vK (gV a true (some a3)) fun m=>
 vK (gV a true (some a0)) fun n=>
 vK (gV a true (some (ix b 0))) fun o=>
 vK (gV a true (idxV 1 n o)) fun p=>
 qK S (fun c=>gV a true (ldV c p)) fun q=>
 vK (gV a true (some a0)) fun r=>
 vK (gV a true (some (ix b 0))) fun s=>
 vK (gV a true (binV .i .sub s (.int .i64 1))) fun t=>
 vK (gV a true (idxV 1 r t)) fun u=>
 qK S (fun c=>gV a true (ldV c u)) fun v=>
 gK a true (fun w=>clK prog m #[q,v] c w) c fun x d=>
 vK (gV a true (binV .i .lss x (.int .i64 0))) fun y=>
 vK (pickV a y (.bool false)) fun z=>
 iteK z (
 drawK d fun S=>
 vK (binV .i .sub (ix b 0) (.int .i64 1)) fun aa=>
 vK (binV .i .sub (ix b 0) (.int .i64 1)) fun ab=>
 vK (idxV 1 a0 ab) fun ac=>
 qK S (fun d=>ldV d ac) fun ad=>
 vK (idxV 1 a0 (ix b 0)) fun ae=>
 qK S (fun d=>ldV d ae) fun af=>
 vK (idxV 1 a0 (ix b 0)) fun ag=>
 stK 1 ag ad d fun ao ah=>
 vK (idxV 1 a0 aa) fun ai=>
 stK 1 ai af ah fun ap aj=>
 vK (binV .i .sub (ix b 0) (.int .i64 1)) fun ak=>
 l [ak] aj) (
 vK (binV .i .add (ix e 0) (.int .i64 1)) fun al=>
 j [al] d)) (
 R (.tuple #[]) f)
theorem zdJ (H:zbW a0 a1 a2 a3 h R):FCall prog zaL #[a0,a1,a2,a3] h R:=fk f314 (.s .z (.l 9007199254737664 [8] (.s (.s .z (.s .z .z)) (.s (.s .z (.l 9007199254479360 [9] (.s (.s (.d (.op 0 .r (.op 1 .r (.op 2 .r (.op 3 .r (.op 4 .r (.op 5 .r (.op 6 .r (.op 7 .r (.op 8 .r (.op 9 .r (.op 10 .r (.op 11 .r (.op 12 .r (.op 13 .r (.op 14 .n (.op 15 .r (.op 16 .r .nil)))))))))))))))))) (.s .z .z)) (.s (.d (.op 0 .r (.op 1 .r (.op 2 .r (.op 3 .r (.op 4 .r (.op 5 .r (.op 6 .r (.op 7 .r (.op 8 .r (.op 9 .r (.op 10 .r (.op 11 .r (.op 12 .r (.op 13 .r (.op 14 .r (.op 15 .n (.op 16 .r (.op 17 .n .nil))))))))))))))))))) .z)))) .z)))) H
def zcA (a0 a1 a2 a3 a4:Value)(h:Heap)(R:Value→Heap→Prop):Prop:=
 vK (binV .i .sub a2 a1) fun ah=>
 vK (binV .i .eql ah (.int .i64 1)) fun ai=>
 iteK ai (
 loopK [a2,a3] h fun e da f x=>
 vK (binV .i .lss (ix e 0) (ix e 1)) fun aj=>
 iteK aj (
 vK (binV .i .add (ix e 0) (ix e 1)) fun ak=>
 vK (cviV .u64 ak) fun al=>
 vK (binV .i .shr al (.int .u64 1)) fun am=>
 vK (cviV .i64 am) fun t=>
 drawK f fun S=>
 vK (idxV 1 a0 t) fun an=>
 qK S (fun f=>ldV f an) fun ao=>
 vK (idxV 1 a0 a1) fun ap=>
 qK S (fun f=>ldV f ap) fun aq=>
 clK prog a4 #[ao,aq] f fun ar y=>
 vK (binV .i .lss ar (.int .i64 0)) fun au=>
 iteK au (
 vK (binV .i .add t (.int .i64 1)) fun av=>
 x [av,(ix e 1)] y) (
 x [(ix e 0),t] y)) (
 loopK [a1] f fun m db g aw=>
 vK (binV .i .sub (ix e 0) (.int .i64 1)) fun ax=>
 vK (binV .i .lss (ix m 0) ax) fun ay=>
 iteK ay (
 drawK g fun S=>
 vK (binV .i .add (ix m 0) (.int .i64 1)) fun az=>
 vK (binV .i .add (ix m 0) (.int .i64 1)) fun a5=>
 vK (idxV 1 a0 a5) fun a6=>
 qK S (fun g=>ldV g a6) fun a7=>
 vK (idxV 1 a0 (ix m 0)) fun a8=>
 qK S (fun g=>ldV g a8) fun a9=>
 vK (idxV 1 a0 (ix m 0)) fun ba=>
 stK 1 ba a7 g fun dc bb=>
 vK (idxV 1 a0 az) fun bc=>
 stK 1 bc a9 bb fun dd bd=>
 vK (binV .i .add (ix m 0) (.int .i64 1)) fun be=>
 aw [be] bd) (
 R (.tuple #[]) g))) (
 vK (binV .i .sub a3 a2) fun bf=>
 vK (binV .i .eql bf (.int .i64 1)) fun bg=>
 iteK bg (
 loopK [a1,a2] h fun j de k z=>
 vK (binV .i .lss (ix j 0) (ix j 1)) fun bh=>
 iteK bh (
 vK (binV .i .add (ix j 0) (ix j 1)) fun bi=>
 vK (cviV .u64 bi) fun bj=>
 vK (binV .i .shr bj (.int .u64 1)) fun bk=>
 vK (cviV .i64 bk) fun u=>
 drawK k fun S=>
 vK (idxV 1 a0 a2) fun bl=>
 qK S (fun k=>ldV k bl) fun bm=>
 vK (idxV 1 a0 u) fun bn=>
 qK S (fun k=>ldV k bn) fun bo=>
 clK prog a4 #[bm,bo] k fun bp aa=>
 vK (binV .i .lss bp (.int .i64 0)) fun bq=>
 vK (unV .not bq) fun br=>
 iteK br (
 vK (binV .i .add u (.int .i64 1)) fun bs=>
 z [bs,(ix j 1)] aa) (
 z [(ix j 0),u] aa)) (
 loopK [a2] k fun n df l bt=>
 vK (binV .i .gtr (ix n 0) (ix j 0)) fun bu=>
 iteK bu (
 drawK l fun S=>
 vK (binV .i .sub (ix n 0) (.int .i64 1)) fun bv=>
 vK (binV .i .sub (ix n 0) (.int .i64 1)) fun bw=>
 vK (idxV 1 a0 bw) fun bx=>
 qK S (fun l=>ldV l bx) fun bz=>
 vK (idxV 1 a0 (ix n 0)) fun b0=>
 qK S (fun l=>ldV l b0) fun b1=>
 vK (idxV 1 a0 (ix n 0)) fun b2=>
 stK 1 b2 bz l fun dg b3=>
 vK (idxV 1 a0 bv) fun b4=>
 stK 1 b4 b1 b3 fun dh b5=>
 vK (binV .i .sub (ix n 0) (.int .i64 1)) fun b6=>
 bt [b6] b5) (
 R (.tuple #[]) l))) (
 vK (binV .i .add a1 a3) fun b7=>
 vK (cviV .u64 b7) fun b8=>
 vK (binV .i .shr b8 (.int .u64 1)) fun b9=>
 vK (cviV .i64 b9) fun b=>
 vK (binV .i .add b a2) fun v=>
 joinK (fun ab=>
 vK (binV .i .gtr a2 b) fun ca=>
 iteK ca (
 vK (binV .i .sub v a3) fun cb=>
 ab [cb,b] h) (
 ab [a1,a2] h))
 fun ac di cc=>
 vK (binV .i .sub v (.int .i64 1)) fun cd=>
 loopK [(ix ac 0),(ix ac 1)] cc fun a dj c ad=>
 vK (binV .i .lss (ix a 0) (ix a 1)) fun ce=>
 iteK ce (
 vK (binV .i .add (ix a 0) (ix a 1)) fun cf=>
 vK (cviV .u64 cf) fun cg=>
 vK (binV .i .shr cg (.int .u64 1)) fun ch=>
 vK (cviV .i64 ch) fun o=>
 drawK c fun S=>
 vK (binV .i .sub cd o) fun ci=>
 vK (idxV 1 a0 ci) fun cj=>
 qK S (fun c=>ldV c cj) fun ck=>
 vK (idxV 1 a0 o) fun cl=>
 qK S (fun c=>ldV c cl) fun cm=>
 clK prog a4 #[ck,cm] c fun cn ae=>
 vK (binV .i .lss cn (.int .i64 0)) fun co=>
 vK (unV .not co) fun cp=>
 iteK cp (
 vK (binV .i .add o (.int .i64 1)) fun cq=>
 ad [cq,(ix a 1)] ae) (
 ad [(ix a 0),o] ae)) (
 vK (binV .i .sub v (ix a 0)) fun d=>
 joinK (fun af=>
 vK (binV .i .lss (ix a 0) a2) fun p=>
 vK (gV p true (some a2)) fun cr=>
 vK (gV p true (some d)) fun cs=>
 vK (gV p true (binV .i .lss cr cs)) fun ct=>
 vK (pickV p ct (.bool false)) fun cu=>
 iteK cu (
 FCall prog zb0 #[a0,(ix a 0),a2,d,a4] c fun dk cv=>
 af [] cv) (
 af [] c))
 fun dl dm w=>
 vK (binV .i .lss a1 (ix a 0)) fun q=>
 vK (gV q true (some (ix a 0))) fun cw=>
 vK (gV q true (some b)) fun cx=>
 vK (gV q true (binV .i .lss cw cx)) fun cy=>
 vK (pickV q cy (.bool false)) fun cz=>
 iteK cz (
 FCall prog zay #[a0,a1,(ix a 0),b,a4] w fun dn ag=>
 vK (binV .i .lss b d) fun r=>
 vK (gV r true (some d)) fun c0=>
 vK (gV r true (some a3)) fun c1=>
 vK (gV r true (binV .i .lss c0 c1)) fun c2=>
 vK (pickV r c2 (.bool false)) fun c3=>
 iteK c3 (
 FCall prog zay #[a0,b,d,a3,a4] ag fun dp c4=>
 R (.tuple #[]) c4) (
 R (.tuple #[]) ag)) (
 vK (binV .i .lss b d) fun s=>
 vK (gV s true (some d)) fun c5=>
 vK (gV s true (some a3)) fun c6=>
 vK (gV s true (binV .i .lss c5 c6)) fun c7=>
 vK (pickV s c7 (.bool false)) fun c8=>
 iteK c8 (
 FCall prog zay #[a0,b,d,a3,a4] w fun dq c9=>
 R (.tuple #[]) c9) (
 R (.tuple #[]) w)))))
theorem ze6 (H:zcA a0 a1 a2 a3 a4 h R):FCall prog zay #[a0,a1,a2,a3,a4] h R:=fk f315 (.s (.s .z (.s (.s .z (.s .z (.s (.l 18014396362005504 [10,11] (.s (.s .z (.s .z .z)) (.s .z (.s (.d (.op 0 .r (.op 1 .r (.op 2 .r (.op 3 .r (.op 4 .r (.op 5 .r (.op 6 .r (.op 7 .r (.op 8 .r (.op 9 .n (.op 10 .r .nil)))))))))))) (.s .z .z))))) (.s (.s .z (.l 151115691423031627882496 [13] (.s (.s .z (.s .z .z)) (.s (.d (.op 0 .r (.op 1 .r (.op 2 .r (.op 3 .r (.op 4 .r (.op 5 .r (.op 6 .r (.op 7 .r (.op 8 .r (.op 9 .r (.op 10 .r (.op 11 .r (.op 12 .r (.op 13 .r (.op 14 .r (.op 15 .n (.op 16 .r (.op 17 .n .nil))))))))))))))))))) .z)))) .z)))) .z)) (.s (.s .z (.s (.s .z (.s .z (.s (.l 162259267157806806474544612753408 [14,15] (.s (.s .z (.s .z .z)) (.s .z (.s (.d (.op 0 .r (.op 1 .r (.op 2 .r (.op 3 .r (.op 4 .r (.op 5 .r (.op 6 .r (.op 7 .r (.op 8 .r (.op 9 .n (.op 10 .r (.op 11 .r .nil))))))))))))) (.s .z .z))))) (.s (.s .z (.l 680564409323323268500022431707515977728 [17] (.s (.s .z (.s .z .z)) (.s (.d (.op 0 .r (.op 1 .r (.op 2 .r (.op 3 .r (.op 4 .r (.op 5 .r (.op 6 .r (.op 7 .r (.op 8 .r (.op 9 .r (.op 10 .r (.op 11 .r (.op 12 .r (.op 13 .r (.op 14 .r (.op 15 .n (.op 16 .r (.op 17 .n .nil))))))))))))))))))) .z)))) .z)))) .z)) (.s .z (.s .z (.s .z (.j 178057512444517944145699250583176761402458112 [20,21] (.s .z (.s (.s .z .z) (.s .z .z))) (.s .z (.s (.l 47890484938435180470718404069304177263338029388398592 [20,21] (.s (.s .z (.s .z .z)) (.s .z (.s (.d (.op 0 .r (.op 1 .r (.op 2 .r (.op 3 .r (.op 4 .r (.op 5 .r (.op 6 .r (.op 7 .r (.op 8 .r (.op 9 .r (.op 10 .r (.op 11 .n (.op 12 .r (.op 13 .r .nil))))))))))))))) (.s .z .z))))) (.s .z (.j 6276718611501464291621199836450878838806450759683488612352 [] (.s .z (.s .z .z)) (.s (.s .z (.s .z .z)) (.s .z (.s .z .z))))))))))))) H
def zcP (a0:Value)(h:Heap)(R:Value→Heap→Prop):Prop:=
 FCall prog zhQ #[a0] h fun a b=>
 vK (binV .i .sub (.int .i64 64) a) fun c=>
 R c b
theorem zf6 (H:zcP a0 h R):FCall prog zb2 #[a0] h R:=fk f318 (.s .z (.s .z .z)) H
def zlz (a0 a1 a2:Value)(h:Heap)(R:Value→Heap→Prop):Prop:=
 vK (binV .i .geq a2 (.int .i64 64)) fun a=>
 iteK a (
 vK (binV .i .sub a2 (.int .i64 64)) fun b=>
 vK (binV .i .shr a0 b) fun c=>
 R (.tuple #[(.int .u64 0),c]) h) (
 vK (binV .i .shr a0 a2) fun d=>
 vK (binV .i .shr a1 a2) fun e=>
 vK (binV .i .sub (.int .i64 64) a2) fun f=>
 vK (binV .i .shl a0 f) fun g=>
 vK (binV .i .or e g) fun j=>
 R (.tuple #[d,j]) h)
theorem zrT (H:zlz a0 a1 a2 h R):FCall prog zg0 #[a0,a1,a2] h R:=fk f319 (.s .z (.s (.s .z (.s (.s .z .z) .z)) (.s .z .z))) H
def zlA (a0 a1 a2:Value)(h:Heap)(R:Value→Heap→Prop):Prop:=
 vK (binV .i .geq a2 (.int .i64 64)) fun b=>
 iteK b (
 vK (binV .i .eql a1 (.int .u64 0)) fun a=>
 vK (gV a true (some a0)) fun c=>
 vK (gV a true (some a2)) fun d=>
 vK (gV a true (binV .i .sub (.int .i64 128) d)) fun e=>
 vK (gV a true (binV .i .shl c e)) fun f=>
 vK (gV a true (binV .i .eql f (.int .u64 0))) fun g=>
 vK (pickV a g (.bool false)) fun j=>
 R j h) (
 vK (binV .i .sub (.int .i64 64) a2) fun k=>
 vK (binV .i .shl a1 k) fun l=>
 vK (binV .i .eql l (.int .u64 0)) fun m=>
 R m h)
theorem zrU (H:zlA a0 a1 a2 h R):FCall prog zjB #[a0,a1,a2] h R:=fk f320 (.s .z (.s (.s .z (.s (.s .z .z) .z)) (.s .z .z))) H
def zcO (a0 a1 a2 a3 a4:Value)(h:Heap)(R:Value→Heap→Prop):Prop:=
 vK (binV .i .sub a2 a1) fun d=>
 vK (binV .i .sub a3 a2) fun e=>
 loopK [d,e] h fun a t b c=>
 vK (binV .i .neq (ix a 0) (ix a 1)) fun f=>
 iteK f (
 vK (binV .i .gtr (ix a 0) (ix a 1)) fun g=>
 iteK g (
 vK (binV .i .sub a2 (ix a 0)) fun j=>
 FCall prog zaI #[a0,j,a2,(ix a 1),a4] b fun u k=>
 vK (binV .i .sub (ix a 0) (ix a 1)) fun l=>
 c [l,(ix a 1)] k) (
 vK (binV .i .sub a2 (ix a 0)) fun m=>
 vK (binV .i .add a2 (ix a 1)) fun n=>
 vK (binV .i .sub n (ix a 0)) fun o=>
 FCall prog zaI #[a0,m,o,(ix a 0),a4] b fun v p=>
 vK (binV .i .sub (ix a 1) (ix a 0)) fun q=>
 c [(ix a 0),q] p)) (
 vK (binV .i .sub a2 (ix a 0)) fun r=>
 FCall prog zaI #[a0,r,a2,(ix a 0),a4] b fun w s=>
 R (.tuple #[]) s)
theorem zf5 (H:zcO a0 a1 a2 a3 a4 h R):FCall prog zb0 #[a0,a1,a2,a3,a4] h R:=fk f321 (.s .z (.s .z (.s (.l 1125899906583552 [10,11] (.s (.s .z (.s .z .z)) (.s .z (.s (.s .z .z) (.s .z .z))))) .z))) H
def zco (a0 a1 a2 a3 a4:Value)(h:Heap)(R:Value→Heap→Prop):Prop:=
 loopK [(.int .i64 0)] h fun b t a c=>
 vK (binV .i .lss (ix b 0) a3) fun d=>
 iteK d (
 drawK a fun S=>
 vK (binV .i .add a1 (ix b 0)) fun e=>
 vK (binV .i .add a2 (ix b 0)) fun f=>
 vK (binV .i .add a2 (ix b 0)) fun g=>
 vK (idxV 1 a0 g) fun j=>
 qK S (fun a=>ldV a j) fun k=>
 vK (binV .i .add a1 (ix b 0)) fun l=>
 vK (idxV 1 a0 l) fun m=>
 qK S (fun a=>ldV a m) fun n=>
 vK (idxV 1 a0 e) fun o=>
 stK 1 o k a fun u p=>
 vK (idxV 1 a0 f) fun q=>
 stK 1 q n p fun v r=>
 vK (binV .i .add (ix b 0) (.int .i64 1)) fun s=>
 c [s] r) (
 R (.tuple #[]) a)
theorem zeS (H:zco a0 a1 a2 a3 a4 h R):FCall prog zaI #[a0,a1,a2,a3,a4] h R:=fk f322 (.s .z (.l 274877905920 [10] (.s (.s .z (.s .z .z)) (.s (.d (.op 0 .r (.op 1 .r (.op 2 .r (.op 3 .r (.op 4 .r (.op 5 .r (.op 6 .r (.op 7 .r (.op 8 .r (.op 9 .r (.op 10 .r (.op 11 .r (.op 12 .r (.op 13 .r (.op 14 .r (.op 15 .r (.op 16 .r (.op 17 .r (.op 18 .r (.op 19 .r (.op 20 .r (.op 21 .n (.op 22 .r (.op 23 .n .nil))))))))))))))))))))))))) .z)))) H
end
def zc4:Nat→ByteArray
 |0=>⟨#[99,108,97,109,112]⟩
 |1=>⟨#[109,105,114,114,111,114]⟩
 |2=>⟨#[119,114,97,112]⟩
 |_=>⟨#[]⟩
def filterName:Nat→ByteArray
 |0=>⟨#[98,111,120]⟩
 |1=>⟨#[99,117,98,105,99]⟩
 |2=>⟨#[108,97,110,99,122,111,115]⟩
 |_=>⟨#[]⟩
def filterReach:Nat→Int
 |0=>0
 |1=>2
 |_=>3
def TabH (h:Heap)(name:String)(k:IntKind)(zs:List Int):Prop:=∃g t f,prog.globalNamed name=some g∧h[g]? =some (.cells (zs.map fun z=>Value.int k z).toArray t f)
theorem TabH.is {h:Heap}{name:String}{k:IntKind}{zs:List Int}(H:TabH h name k zs)(w:World)(hw:w.heap=h):Lib.TabIs prog w name k zs:=by
 obtain⟨g,t,f,h1,h2⟩:=H
 subst hw
 unfold Lib.TabIs World.var?
 rw[h1,Option.bind_some,h2]
structure GlobB (h:Heap):Prop where
 names:∃v,zah h ⟨zeC,0,none⟩=some v∧SlC 1 h v 3 [.string (zc4 0),.string (zc4 1),.string (zc4 2)]
 kinds:∀i,i<3→zah h ⟨zbw,2*i,none⟩=some (.string (filterName i))∧zah h ⟨zbw,2*i+1,none⟩=some (.int .i64 (filterReach i))
theorem GlobB.ext {h h':Heap}(H:GlobB h)(e:Ext h h'):GlobB h':=by
 obtain⟨⟨v,h1,h2⟩,h3⟩:=H
 exact⟨⟨v,e.cell h1,h2.ext e⟩,fun i hi=>⟨e.cell (h3 i hi).1,e.cell (h3 i hi).2⟩⟩
end Go.Proofs.YtcoimlclclnlkaaGreatDoor
namespace Go.Crisp
open Go Go.ChangeShapes Go.WideShapes Go.ChangeAt Go.RowKit
def zoi (P:Program)(L:List (String×DataW Unit))(h:Heap):Prop:=∀w:World,w.heap=h→laidMetH P L w
theorem row_laid {H:Type}{enc:TypeId×Value→H}{C:Checked}{os:Os}{f:FuncId}{fn:Func}{s:ChangeSpec}{conds:List PathCond}{rt:TypeId}{ts:List TS}{L:List (String×DataW Unit)}
  (hok:zgS C.prog f=true) (own:ownKnob C.prog.godebug=none) (started:os.Started) (noInit:C.prog.inits.idxOf? f=none) (hfn:C.prog.funcs[f]? =some fn)
  (laid:laidOutB C.prog=true) (hvars:s.vars=[]) (hp:okAll C.prog ts fn.params.toList=true) (hread:fn.params.toList.all (fun t=>C.prog.readableRec t&&decide (t<C.prog.types.size))=true)
  (hres:fn.resultTypes=#[rt]) (hrt:C.prog.underlying rt=some .bool)
  (hspec:∀ds:List (DataW H),ds.length=ts.length→s.fn H ds={results:=[.lit (.bool true)],args:=ds})
  (witness:∃(w:World) (tape:Tape) (i:Input),w.os=os∧(w.forCall tape i).Shaped C.prog∧i.vars=[]∧Input.okWide C.prog (w.forCall tape i) .any w.heap.size f i∧
   ((s.pre enc C.prog fn conds false (w.forCall tape i).memory i.args∧laidMetH C.prog L (w.forCall tape i).memory)∧sizedMet enc C.prog fn (OpenSpec.ofChange s) false (w.forCall tape i).memory i.args)∧Assume.holds {} C.prog (lone (Frame.enter C.prog f i.args .normal) [] (w.forCall tape i)))
  (contract:∀(h:Heap) (args:Array Value),zoi C.prog L h→zjQ ts h args.toList→FCall C.prog f args h fun r h'=>r=.bool true∧Ext h h'):
  ReturnsInHanded {} C os f .any (fun w args=>(s.pre enc C.prog fn conds false w args∧laidMetH C.prog L w)∧sizedMet enc C.prog fn (OpenSpec.ofChange s) false w args) (s.post enc C.prog fn false true false false):=by
 refine returnsInHanded_of_change_and (X:=fun w _=>laidMetH C.prog L w) (fun _ _ _ hh h=>h.of_heap hh) own started noInit hfn witness ?_
 intro W base args ds gs before hval hW _ hsz hL _
 have hW':=hW
 obtain⟨p,q,hA,hV,rfl,_,_⟩:=hW
 rw[hvars]at hV
 obtain⟨rfl,rfl⟩:=trodVars_none hV
 have hvt:s.plain.varTypes C.prog=[]:=by simp[DataSpec.varTypes,ChangeSpec.plain,hvars]
 rw[hvt,List.append_nil,List.append_nil]at hsz
 have hw:light (DataW.weightsEach C.prog fn.params.toList ds):=fun n hn=>by
  have:=List.all_eq_true.1 hsz n hn
  exact of_decide_eq_true this
 have hAR:zjQ ts W.heap args.toList:=args_rd hp (fun j t v ht hv=>hval j t v (by simpa using ht) (by simpa using hv)) hA hw
 have hlen:ds.length=ts.length:=by
  have l1:∀{ids:List TypeId} {vs:List Value} {ds:List (DataW H)} {ps:List MemPlace},DataW.TrodAll enc C.prog W 0 (fun _=>true) true ids vs ds ps→ds.length=ids.length:=by
   intro ids
   induction ids with
   |nil=>intro vs ds ps h;obtain⟨rfl,rfl,rfl⟩:=trodAll_nil h;rfl
   |cons t ids ih=>intro vs ds ps h;obtain⟨v,vs',d,ds',p,q,rfl,rfl,rfl,h1,h2⟩:=trodAll_cons h;simp[ih h2]
  have l2:∀(ts:List TS) (ids:List TypeId),okAll C.prog ts ids=true→ids.length=ts.length:=by
   intro ts
   induction ts with
   |nil=>intro ids h;cases ids<;>simp_all [okAll]
   |cons t ts ih=>intro ids h;cases ids<;>simp[okAll]at h;simp[ih _ h.2]
  rw[l1 hA,l2 _ _ hp]
 refine((contract W.heap args (fun w hw=>hL.of_heap hw.symm) hAR).calls hok W rfl).mono fun e W' ⟨v,he,hs,hv,hx⟩=>?_
 subst he hv
 have bel:Below W.heap.size W W':=⟨hs.1,hs.2.1,hs.2.2,hx.1,fun k hk=>hx.2 k hk⟩
 refine⟨_,rfl,ds,[],_,[],p,[],hW',?_,?_,?_,bel.frame _,fun h=>by cases h⟩
 ·rw[List.append_nil,hspec ds hlen,hres]
  exact trodAll_mk1 (shut_bool hrt _)
 ·rw[List.append_nil,hspec ds hlen]
  exact carry_all laid bel hread hA
 ·rw[List.append_nil,hspec ds hlen,hvars]
  rfl
theorem zpC {P:Program}{w:World}:∀{L:List (String×DataW Unit)} {ps:List MemPlace},DataW.LaidVars P w L ps→∀{n:String} {d:DataW Unit},(n,d)∈L→
  ∃g t cs fuel p,P.globalNamed n=some g∧(P.globals[g]?).map (·.type)=some t∧w.var? P n=some cs∧DataW.trod (fun _=>()) P w 0 (fun _=>true) false fuel t cs.toList=some (d,p)
 | [],_,_,n,d,hm=>absurd hm (by simp)
 |(n',d')::r,_,h,n,d,hm=>by
  obtain⟨g,t,cs,fuel,p,q,h1,h2,h3,h4,h5,_⟩:=h
  rcases List.mem_cons.1 hm with e|e
  ·cases e;exact⟨g,t,cs,fuel,p,h1,h2,h3,h4⟩
  ·exact zpC h5 e
theorem zoi.at {P:Program}{L:List (String×DataW Unit)}{h:Heap}(H:zoi P L h)(hn:(L.all fun x=>x.2.handleName?.isNone)=true){n:String}{d:DataW Unit}(hm:(n,d)∈L)(w:World)(hw:w.heap=h):
  ∃g t cs fuel p,P.globalNamed n=some g∧(P.globals[g]?).map (·.type)=some t∧w.var? P n=some cs∧DataW.trod (fun _=>()) P w 0 (fun _=>true) false fuel t cs.toList=some (d,p):=by
 have:=H w hw
 rw[MakeChecks.laidMetH_plain _ _ _ hn]at this
 obtain⟨ps,hl,_⟩:=this
 exact zpC hl hm
def varIs (P:Program)(n:String)(g:Nat)(k:Program→TypeId→Bool):Bool:=
 decide (P.globalNamed n=some g)&&(match(P.globals[g]?).map (·.type)with|some t=>k P t|none=>false)
def isInt (k:IntKind)(P:Program)(t:TypeId):Bool:=match P.underlying t with|some (.int k')=>decide (k=k')&&P.cellsOf t==1|_=>false
def isStr (P:Program)(t:TypeId):Bool:=match P.underlying t with|some .string=>P.cellsOf t==1|_=>false
def isSlice (e:Program→TypeId→Bool)(P:Program)(t:TypeId):Bool:=match P.underlying t with|some (.slice u)=>e P u|_=>false
def isArr (n:Nat)(e:Program→TypeId→Bool)(P:Program)(t:TypeId):Bool:=match P.underlying t with|some (.array n' u)=>n==n'&&P.cellsOf t==n*P.cellsOf u&&e P u|_=>false
def isPair (a b:Program→TypeId→Bool)(P:Program)(t:TypeId):Bool:=match P.underlying t with|some (.struct ⟨[x,y]⟩)=>x.offset==0&&y.offset==1&&a P x.type&&b P y.type&&P.cellsOf t==2|_=>false
theorem zoi.kind {P:Program}{L:List (String×DataW Unit)}{h:Heap}(H:zoi P L h)(hn:(L.all fun x=>x.2.handleName?.isNone)=true){n:String}{d:DataW Unit}(hm:(n,d)∈L)(w:World)(hw:w.heap=h)
  {g:Nat} {k:Program→TypeId→Bool} (hk:varIs P n g k=true):
  ∃t cs fuel p,P.globalNamed n=some g∧k P t=true∧w.var? P n=some cs∧(∀i,zah h ⟨g,i,none⟩=cs[i]?)∧DataW.trod (fun _=>()) P w 0 (fun _=>true) false fuel t cs.toList=some (d,p):=by
 obtain⟨g',t,cs,fuel,p,h1,h2,h3,h4⟩:=H.at hn hm w hw
 unfold varIs at hk
 rw[Bool.and_eq_true,decide_eq_true_eq]at hk
 obtain⟨k1,k2⟩:=hk
 obtain rfl:g'=g:=Option.some.inj (h1.symm.trans k1)
 rw[h2]at k2
 refine⟨t,cs,fuel,p,h1,k2,h3,fun i=>?_,h4⟩
 subst hw
 exact World.var?_cell h1 h3 i
theorem trod_int' {k:IntKind}{P:Program}{w:World}{fuel:Nat}{t:TypeId}{cs:List Value}{z:Int}{p:List MemPlace}(ht:isInt k P t=true)(h:DataW.trod (fun _=>()) P w 0 (fun _=>true) false fuel t cs=some (.lit (.int k z),p)):cs=[.int k z]∧P.cellsOf t=1:=by
 unfold isInt at ht
 split at ht
 ·rename_i k' hu
  rw[Bool.and_eq_true,decide_eq_true_eq]at ht
  obtain⟨rfl,hc⟩:=ht
  obtain⟨n,rfl,he,_⟩:=DataW.trod_int hu h
  cases he
  exact⟨rfl,by simpa using hc⟩
 ·cases ht
theorem trod_str' {P:Program}{w:World}{fuel:Nat}{t:TypeId}{cs:List Value}{z:List UInt8}{p:List MemPlace}(ht:isStr P t=true)(h:DataW.trod (fun _=>()) P w 0 (fun _=>true) false fuel t cs=some (.lit (.string z),p)):cs=[.string ⟨⟨z⟩⟩]∧P.cellsOf t=1:=by
 unfold isStr at ht
 split at ht
 ·rename_i hu
  obtain⟨s,rfl,he,_⟩:=DataW.trod_string hu h
  cases he
  exact⟨rfl,by simpa using ht⟩
 ·cases ht
theorem zmI {cs:List Value}{i:Nat}{v:Value}(h:(cs.drop i).take 1=[v]):cs[i]? =some v:=by
 have:=congrArg (fun l=>l[0]?) h
 simpa using this
theorem trod_strs {P:Program}{w:World}{h:Heap}(hw:w.heap=h){fuel:Nat}{t:TypeId}{cs:List Value}{zs:List (List UInt8)}{p:List MemPlace}(hz:zs≠[])(ht:isSlice isStr P t=true)
  (H:DataW.trod (fun _=>()) P w 0 (fun _=>true) false fuel t cs=some (.slice (zs.map fun z=>.lit (.string z)) [],p)):
  ∃b o cap,cs=[.slice (some ⟨b,o,none⟩) zs.length cap]∧∀i (hi:i<zs.length),zah h ⟨b,o+i,none⟩=some (.string ⟨⟨zs[i]⟩⟩):=by
 unfold isSlice at ht
 split at ht
 ·rename_i u hu
  have c1:P.cellsOf u=1:=by
   unfold isStr at ht
   split at ht
   ·simpa using ht
   ·cases ht
  rcases DataW.trod_slice hu H with⟨_,he⟩|⟨a,len,cap,elems,rest,m,rfl,rfl,he,_,_,_,hlen,hat,_⟩
  ·cases he
  ·have hxe:elems.map (·.1)=zs.map fun z=>DataW.lit (.string z):=by
    have:=congrArg (fun x=>x.1) he
    simp only[DataW.slice.injEq]at this
    exact this.1.symm
   have hl:elems.length=zs.length:=by simpa using congrArg List.length hxe
   have hlz:len=zs.length:=by omega
   subst hlz
   have ha:∃b o,a=⟨b,o,none⟩:=by
    have h0:0<zs.length:=List.length_pos_iff.2 hz
    have:=hat 0 h0
    rw[List.getElem?_eq_getElem (by omega)]at this
    cases hc:w.cells? 0 (a.add (0*P.cellsOf u)) (P.cellsOf u)with
    |none=>rw[hc]at this;cases this
    | some l=>
     obtain⟨b,o,s⟩:=a
     cases s with
     |none=>exact⟨b,o,rfl⟩
     |some x=>
      exfalso
      obtain⟨h3,h2⟩:=zns hc
      rw[c1]at h3
      have h2:=h2 0 (by omega)
      unfold zah at h2
      split at h2
      ·rw[if_pos (by unfold Addr.add;split<;>simp_all)]at h2;cases h2
      ·cases h2
   obtain⟨b,o,rfl⟩:=ha
   refine⟨b,o,cap,rfl,fun i hi=>?_⟩
   have h1:=hat i hi
   have hxi:elems[i]? =some (elems[i]'(by omega)):=List.getElem?_eq_getElem (by omega)
   rw[hxi,c1,Nat.mul_one]at h1
   have h2:(elems[i]'(by omega)).1=.lit (.string zs[i]):=by
    have:=congrArg (fun l=>l[i]?) hxe
    simpa[hi,hl]using this
   obtain⟨x,y,hxy⟩:∃x y,elems[i]'(by omega)=(x,y):=⟨_,_,rfl⟩
   rw[hxy]at h1 h2
   simp only at h2
   rw[h2,Option.bind_eq_some_iff]at h1
   obtain⟨l,hl1,hl2⟩:=h1
   have h3:=(trod_str' ht hl2).1
   subst h3
   have h4:=(zns hl1).2 0 (by simp)
   rw[zoL,zoL,hw]at h4
   simpa using h4
 ·cases ht
theorem trod_pairs {k:IntKind}{P:Program}{w:World}{fuel:Nat}{t:TypeId}{cs:List Value}{zs:List (List UInt8×Int)}{p:List MemPlace}(ht:isArr zs.length (isPair isStr (isInt k)) P t=true)
  (h:DataW.trod (fun _=>()) P w 0 (fun _=>true) false fuel t cs=some (.agg (zs.map fun z=>.agg [.lit (.string z.1),.lit (.int k z.2)]),p)):
  ∀i (hi:i<zs.length),cs[2*i]? =some (.string ⟨⟨zs[i].1⟩⟩)∧cs[2*i+1]? =some (.int k zs[i].2):=by
 unfold isArr at ht
 split at ht
 ·rename_i n u hu
  rw[Bool.and_eq_true,Bool.and_eq_true]at ht
  obtain⟨⟨hn,hc⟩,hi⟩:=ht
  obtain⟨xs,m,rfl,he,hl,hx,hat⟩:=DataW.trod_array hu h
  have hn:zs.length=n:=by simpa using hn
  subst hn
  unfold isPair at hi
  split at hi
  ·rename_i f1 f2 hs
   simp only[Bool.and_eq_true,beq_iff_eq]at hi
   obtain⟨⟨⟨⟨o1,o2⟩,t1⟩,t2⟩,c2⟩:=hi
   have hxe:xs.map (·.1)=zs.map fun z=>DataW.agg [.lit (.string z.1),.lit (.int k z.2)]:=by
    have:=congrArg (fun x=>x.1) he
    simpa using this.symm
   intro i hi'
   have h1:=hat i hi'
   have hxi:xs[i]? =some (xs[i]'(by omega)):=List.getElem?_eq_getElem (by omega)
   rw[hxi,c2]at h1
   have h2:(xs[i]'(by omega)).1=.agg [.lit (.string zs[i].1),.lit (.int k zs[i].2)]:=by
    have:=congrArg (fun l=>l[i]?) hxe
    simpa[hi',hx]using this
   obtain⟨a,b,hab⟩:∃a b,xs[i]'(by omega)=(a,b):=⟨_,_,rfl⟩
   rw[hab]at h1 h2
   simp only at h2
   rw[h2]at h1
   obtain⟨ys,m',rfl,he',hl',hy,hat'⟩:=DataW.trod_struct hs h1
   have hy2:ys.length=2:=hy
   match ys,hy2,he',hat' with
   | [y1,y2],_,he',hat'=>
    have he':=congrArg (fun x=>x.1) he'
    simp only[List.map_cons,List.map_nil,DataW.agg.injEq,List.cons.injEq,and_true]at he'
    have a1:=hat' 0 f1 rfl
    have a2:=hat' 1 f2 rfl
    rw[o1]at a1
    rw[o2]at a2
    obtain⟨a,b⟩:=y1
    obtain⟨a',b'⟩:=y2
    simp only at he'
    obtain⟨rfl,rfl⟩:=he'
    have b1:=trod_str' t1 a1
    have b2:=trod_int' t2 a2
    rw[b1.2]at b1
    rw[b2.2]at b2
    have b1:=zmI b1.1
    have b2:=zmI b2.1
    rw[List.getElem?_take_of_lt (by omega),List.getElem?_drop]at b1 b2
    refine⟨?_,?_⟩
    ·rw[Nat.mul_comm];simpa using b1
    ·rw[Nat.mul_comm];simpa using b2
  ·cases hi
 ·cases ht
end Go.Crisp
namespace Go.Proofs.YtcoimlclclnlkaaGreatDoor
open Go Go.Crisp
open _root_.Go.Proofs.Tryz
theorem globB_of {L:List (String×DataW Unit)}{h:Heap}(H:zoi prog L h)(hn:(L.all fun x=>x.2.handleName?.isNone)=true)
  (m1:("smalto/border.names",Rows.laid_smalto_border_names)∈L) (m2:("smalto/raw.kinds",Rows.laid_smalto_raw_kinds)∈L):GlobB h:=by
 let w:World:=⟨h,fun _ _=>0,0,default,#[]⟩
 refine⟨?_,?_⟩
 ·obtain⟨t,cs,fuel,p,_,hk,_,hc,ht⟩:=H.kind hn m1 w rfl (g:=zeC) (k:=isSlice isStr) (by kernel_rfl)
  obtain⟨b,o,cap,he,hx⟩:=trod_strs (h:=h) rfl (zs:=[[99,108,97,109,112],[109,105,114,114,111,114],[119,114,97,112]]) (by simp) hk ht
  have h0:=hc 0
  obtain⟨l⟩:=cs
  rw[show l=_ from he]at h0
  refine⟨_,h0,by simp,some ⟨b,o,none⟩,cap,rfl,.inr ⟨b,o,rfl,fun j hj=>?_⟩⟩
  have:=hx j hj
  rw[this]
  match j,hj with
  |0,_=>rfl
  |1,_=>rfl
  |2,_=>rfl
 ·obtain⟨t,cs,fuel,p,_,hk,_,hc,ht⟩:=H.kind hn m2 w rfl (g:=zbw) (k:=isArr 3 (isPair isStr (isInt .i64))) (by kernel_rfl)
  have:=trod_pairs (zs:=[([98,111,120],0),([99,117,98,105,99],2),([108,97,110,99,122,111,115],3)]) hk ht
  intro i hi
  have h1:=this i hi
  rw[hc,hc]
  rw[Array.getElem?_toList,Array.getElem?_toList]at h1
  rw[h1.1,h1.2]
  match i,hi with
  |0,_=>exact⟨rfl,rfl⟩
  |1,_=>exact⟨rfl,rfl⟩
  |2,_=>exact⟨rfl,rfl⟩
end Go.Proofs.YtcoimlclclnlkaaGreatDoor
namespace Go.Crisp
open Go
theorem zdn (n:Int):I64 (IntKind.i64.wrap n):=by rw[zdh];unfold I64;omega
theorem zhk (a b:Int):IntKind.i64.wrap (IntKind.i64.wrap a+b)=IntKind.i64.wrap (a+b):=by rw[zdh,zdh,zdh];omega
theorem zfG (a b:Int):IntKind.i64.wrap (a+IntKind.i64.wrap b)=IntKind.i64.wrap (a+b):=by rw[zdh,zdh,zdh];omega
theorem zjR (a b:Int):IntKind.i64.wrap (IntKind.i64.wrap a-b)=IntKind.i64.wrap (a-b):=by rw[zdh,zdh,zdh];omega
theorem zmR (a b:Int):IntKind.i64.wrap (a-IntKind.i64.wrap b)=IntKind.i64.wrap (a-b):=by rw[zdh,zdh,zdh];omega
def zgv (x n:Int):Int:=if n≤0 then x else if 64≤n then 0 else x/2^n.toNat+x/2^(n.toNat-1)%2
theorem half_le {x:Int}{k:Nat}(hx:I64 x): -9223372036854775808≤x/2^k∧x/2^k≤9223372036854775807:=by
 obtain⟨b1,b2⟩:=hx
 have hp1:(0:Int)<2^k:=Int.pow_pos (by omega)
 constructor
 ·rw[Int.le_ediv_iff_mul_le hp1]
  have: -9223372036854775808*(2:Int)^k≤ -9223372036854775808*1:=Int.mul_le_mul_of_nonpos_left (by omega) (by omega)
  omega
 ·apply Int.le_of_lt_add_one
  rw[Int.ediv_lt_iff_lt_mul hp1]
  have:(9223372036854775807+1)*1≤(9223372036854775807+1)*(2:Int)^k:=Int.mul_le_mul_of_nonneg_left (by omega) (by omega)
  omega
theorem zmV {x n:Int}(hx:I64 x):I64 (zgv x n):=by
 unfold zgv
 split
 ·exact hx
 split
 ·unfold I64;omega
 ·have hp:(2:Int)^n.toNat=2^(n.toNat-1)*2:=by
   obtain⟨j,hj⟩:∃j,n.toNat=j+1:=⟨n.toNat-1,by omega⟩
   rw[hj,Nat.add_sub_cancel,Int.pow_succ]
  have hp1:(0:Int)<2^(n.toNat-1):=Int.pow_pos (by omega)
  have h2:x/2^n.toNat=x/2^(n.toNat-1)/2:=by rw[hp,Int.ediv_ediv,if_neg (by omega),Int.sub_zero]
  have:=half_le (k:=n.toNat-1) hx
  unfold I64
  rw[h2]
  omega
def zbP (r:Int):Nat→Int×Int
 |0=>(1099511627776,1099511627776)
 | i+1=>(IntKind.i64.wrap (if i%2=0 then(zbP r i).1-zaQ (zbP r i).2 r (((i:Int)+1)*1099511627776)else(zbP r i).1+zaQ (zbP r i).2 r (((i:Int)+1)*1099511627776)),
   zaQ (zbP r i).2 r (((i:Int)+1)*1099511627776))
def expZ (t:Int):Int:=zgv (zbP (max 0 t%762123384786) 16).1 (max 0 t/762123384786)
def zo3 (d sigma:Int):Int:=if sigma<1∨4194304<sigma∨d< -16384∨16384<d then 9223372036854775807 else zaQ (d*d*2147483648) 1099511627776 (sigma*sigma)
def zoa (d sigma:Int):Int:=zgv (expZ (zo3 d sigma)) 10
theorem zbO (a b d:Int):I64 (zaQ a b d):=by
 unfold zaQ
 split
 ·unfold I64;omega
 ·exact holdZ_i64 _ _
theorem zlc (r:Int):∀i,I64 (zbP r i).1∧I64 (zbP r i).2
 |0=>⟨by unfold I64 zbP;omega,by unfold I64 zbP;omega⟩
 |i+1=>by simp only[zbP];exact⟨zdn _,zbO _ _ _⟩
theorem zsM (t:Int):I64 (expZ t):=zmV (zlc _ _).1
theorem zqV (d s:Int):I64 (zo3 d s):=by
 unfold zo3
 split
 ·unfold I64;omega
 ·exact zbO _ _ _
theorem gaussZ_I64 (d s:Int):I64 (zoa d s):=zmV (zsM _)
theorem sq_le {d B:Int}(h1: -B≤d)(h2:d≤B):0≤d*d∧d*d≤B*B:=by
 refine⟨by rcases Int.le_total 0 d with h|h;exact Int.mul_nonneg h h;exact Int.mul_nonneg_of_nonpos_of_nonpos h h,?_⟩
 rcases Int.le_total 0 d with h|h
 ·exact Int.mul_le_mul h2 h2 h (by omega)
 ·have: -d* -d≤B*B:=Int.mul_le_mul (by omega) (by omega) (by omega) (by omega)
  rwa [Int.neg_mul_neg]at this
def mayZ (p q:Int):Prop:=1≤q∧q≤1048576∧ -4*q≤p∧p≤4*q
instance (p q:Int):Decidable (mayZ p q):=by unfold mayZ;infer_instance
def zaE (u:Int):Nat→Int×Int
 |0=>(1099511627776,1099511627776)
 | i+1=>(IntKind.i64.wrap (if i%2=0 then(zaE u i).1-zaQ (zaE u i).2 u (2*((i:Int)+1)*(2*((i:Int)+1)+1)*1099511627776)else(zaE u i).1+zaQ (zaE u i).2 u (2*((i:Int)+1)*(2*((i:Int)+1)+1)*1099511627776)),
   zaQ (zaE u i).2 u (2*((i:Int)+1)*(2*((i:Int)+1)+1)*1099511627776))
def zkW (p q:Int):Int:=(zaE (zaQ (zaQ 10851744800547 (max p (-p)) q) (max p (-p)) q) 30).1
theorem ziX (r:Int):∀i,I64 (zaE r i).1∧I64 (zaE r i).2
 |0=>⟨by unfold I64 zaE;omega,by unfold I64 zaE;omega⟩
 |i+1=>by simp only[zaE];exact⟨zdn _,zbO _ _ _⟩
theorem zhV (p q:Int):I64 (zkW p q):=(ziX _ _).1
def shiftN (m n:Nat)(below:Bool):Nat:=if n=0 then m else m/2^n+(if m/2^(n-1)%2=1∧¬(below=true∧m%2^(n-1)=0)then 1 else 0)
def zf9 (a b n:Int):Int:=if 128≤n then 0 else holdZ (shiftN (a.natAbs*b.natAbs) n.toNat (diffS a b)) (diffS a b)
theorem zh0 (a b n:Int):I64 (zf9 a b n):=by
 unfold zf9
 split
 ·unfold I64;omega
 ·exact holdZ_i64 _ _
def zh3 (p q:Int):Int:=if¬mayZ p q∨3*q≤max p (-p)then 0 else zgv (zf9 (zkW p q) (zkW p (3*q)) 40) 10
theorem lanczosZ_I64 (p q:Int):I64 (zh3 p q):=by
 unfold zh3
 split
 ·unfold I64;omega
 ·exact zmV (zh0 _ _ _)
def gD (b w:Bool)(v:Value):Value:=bif b==w then v else undef
theorem gD_tt (v:Value):gD true true v=v:=Eq.trans rfl rfl
theorem gD_ff (v:Value):gD false false v=v:=Eq.trans rfl rfl
theorem gD_tf (v:Value):gD true false v=undef:=Eq.trans rfl rfl
theorem gD_ft (v:Value):gD false true v=undef:=Eq.trans rfl rfl
theorem gD_gD (b w:Bool)(v:Value):gD b w (gD b w v)=gD b w v:=by cases b<;>cases w<;>rfl
theorem gV_gD (b w:Bool)(v:Value):gV (.bool b) w (some v)=some (gD b w v):=by cases b<;>cases w<;>rfl
theorem gV_un (b w:Bool)(o:UnOp)(v:Value):gV (.bool b) w (unV o (gD b w v))=gV (.bool b) w (unV o v):=by cases b<;>cases w<;>rfl
theorem gV_binl (b w:Bool)(e:EK)(o:BinOp)(v u:Value):gV (.bool b) w (binV e o (gD b w v) u)=gV (.bool b) w (binV e o v u):=by cases b<;>cases w<;>rfl
theorem gV_binr (b w:Bool)(e:EK)(o:BinOp)(v u:Value):gV (.bool b) w (binV e o u (gD b w v))=gV (.bool b) w (binV e o u v):=by cases b<;>cases w<;>rfl
theorem gV_cvi (b w:Bool)(k:IntKind)(v:Value):gV (.bool b) w (cviV k (gD b w v))=gV (.bool b) w (cviV k v):=by cases b<;>cases w<;>rfl
theorem gV_fld (b w:Bool)(n:Nat)(v:Value):gV (.bool b) w (fldV n (gD b w v))=gV (.bool b) w (fldV n v):=by cases b<;>cases w<;>rfl
theorem gV_ld (b w:Bool)(h:Heap)(v:Value):gV (.bool b) w (ldV h (gD b w v))=gV (.bool b) w (ldV h v):=by cases b<;>cases w<;>rfl
theorem gV_lds (b w:Bool)(n:Nat)(h:Heap)(v:Value):gV (.bool b) w (ldsV n h (gD b w v))=gV (.bool b) w (ldsV n h v):=by cases b<;>cases w<;>rfl
theorem gV_idxl (b w:Bool)(n:Nat)(v u:Value):gV (.bool b) w (idxV n (gD b w v) u)=gV (.bool b) w (idxV n v u):=by cases b<;>cases w<;>rfl
theorem gV_idxr (b w:Bool)(n:Nat)(v u:Value):gV (.bool b) w (idxV n u (gD b w v))=gV (.bool b) w (idxV n u v):=by cases b<;>cases w<;>rfl
theorem gV_lensl (b w:Bool)(v:Value):gV (.bool b) w (zaf (gD b w v))=gV (.bool b) w (zaf v):=by cases b<;>cases w<;>rfl
theorem gV_lenst (b w:Bool)(v:Value):gV (.bool b) w (zq1 (gD b w v))=gV (.bool b) w (zq1 v):=by cases b<;>cases w<;>rfl
theorem gV_ext (b w:Bool)(n:Nat)(v:Value):gV (.bool b) w (extV (gD b w v) n)=gV (.bool b) w (extV v n):=by cases b<;>cases w<;>rfl
theorem gV_nil (b w:Bool)(v:Value):gV (.bool b) w (nilV (gD b w v))=gV (.bool b) w (nilV v):=by cases b<;>cases w<;>rfl
theorem gV_maxl (b w:Bool)(v u:Value):gV (.bool b) w (maxV (gD b w v) u)=gV (.bool b) w (maxV v u):=by cases b<;>cases w<;>rfl
theorem gV_maxr (b w:Bool)(v u:Value):gV (.bool b) w (maxV u (gD b w v))=gV (.bool b) w (maxV u v):=by cases b<;>cases w<;>rfl
theorem gV_minl (b w:Bool)(v u:Value):gV (.bool b) w (minV (gD b w v) u)=gV (.bool b) w (minV v u):=by cases b<;>cases w<;>rfl
theorem gV_minr (b w:Bool)(v u:Value):gV (.bool b) w (minV u (gD b w v))=gV (.bool b) w (minV u v):=by cases b<;>cases w<;>rfl
theorem gV_part (b w a:Bool)(n o:Nat)(v:Value):gV (.bool b) w (partV a n o (gD b w v))=gV (.bool b) w (partV a n o v):=by cases b<;>cases w<;>rfl
theorem gV_pick0 (b w:Bool)(v u x:Value):gV (.bool b) w (pickV (gD b w v) u x)=gV (.bool b) w (pickV v u x):=by cases b<;>cases w<;>rfl
theorem gV_pick1 (b w:Bool)(v u x:Value):gV (.bool b) w (pickV v (gD b w u) x)=gV (.bool b) w (pickV v u x):=by cases b<;>cases w<;>rfl
theorem gV_pick2 (b w:Bool)(v u x:Value):gV (.bool b) w (pickV v u (gD b w x))=gV (.bool b) w (pickV v u x):=by cases b<;>cases w<;>rfl
theorem pick_and (b c:Bool):pickV (.bool b) (gD b true (.bool c)) (.bool false)=some (.bool (b&&c)):=by cases b<;>rfl
theorem pick_or (b c:Bool):pickV (.bool b) (.bool true) (gD b false (.bool c))=some (.bool (b||c)):=by cases b<;>rfl
theorem gV_guard (b w c w2:Bool)(r:Option Value):gV (gD b w (.bool c)) w2 r=gV (.bool ((b==w)&&(c==w2))) true r:=by cases b<;>cases w<;>cases c<;>cases w2<;>rfl
theorem gK_guard (b w c w2:Bool)(m:(Value→Heap→Prop)→Prop)(h:Heap)(K:Value→Heap→Prop):gK (gD b w (.bool c)) w2 m h K=gK (.bool ((b==w)&&(c==w2))) true m h K:=by cases b<;>cases w<;>cases c<;>cases w2<;>rfl
theorem gV_and_t (b c d:Bool):gV (.bool b) true (pickV (.bool c) (gD (b&&c) true (.bool d)) (.bool false))=some (gD b true (.bool (c&&d))):=by cases b<;>cases c<;>rfl
theorem gV_and_f (b c d:Bool):gV (.bool b) false (pickV (.bool c) (gD (!b&&c) true (.bool d)) (.bool false))=some (gD b false (.bool (c&&d))):=by cases b<;>cases c<;>rfl
theorem gV_or_t (b c d:Bool):gV (.bool b) true (pickV (.bool c) (.bool true) (gD (b&& !c) true (.bool d)))=some (gD b true (.bool (c||d))):=by cases b<;>cases c<;>rfl
theorem gV_or_f (b c d:Bool):gV (.bool b) false (pickV (.bool c) (.bool true) (gD (!b&& !c) true (.bool d)))=some (gD b false (.bool (c||d))):=by cases b<;>cases c<;>rfl
theorem gV_and_td (p q:Prop)[Decidable p][Decidable q](d:Bool):gV (.bool (decide p)) true (pickV (.bool (decide q)) (gD (decide (p∧q)) true (.bool d)) (.bool false))=some (gD (decide p) true (.bool (decide q&&d))):=by rw[Bool.decide_and];exact gV_and_t _ _ _
theorem gV_and_fd (p q:Prop)[Decidable p][Decidable q](d:Bool):gV (.bool (decide p)) false (pickV (.bool (decide q)) (gD (decide (¬p∧q)) true (.bool d)) (.bool false))=some (gD (decide p) false (.bool (decide q&&d))):=by rw[Bool.decide_and,decide_not];exact gV_and_f _ _ _
theorem gV_or_td (p q:Prop)[Decidable p][Decidable q](d:Bool):gV (.bool (decide p)) true (pickV (.bool (decide q)) (.bool true) (gD (decide (p∧¬q)) true (.bool d)))=some (gD (decide p) true (.bool (decide q||d))):=by rw[Bool.decide_and,decide_not];exact gV_or_t _ _ _
theorem gV_or_fd (p q:Prop)[Decidable p][Decidable q](d:Bool):gV (.bool (decide p)) false (pickV (.bool (decide q)) (.bool true) (gD (decide (¬p∧¬q)) true (.bool d)))=some (gD (decide p) false (.bool (decide q||d))):=by rw[Bool.decide_and,decide_not,decide_not];exact gV_or_f _ _ _
theorem beq_t (b:Bool):(b==true)=b:=by cases b<;>rfl
theorem beq_f (b:Bool):(b==false)= !b:=by cases b<;>rfl
theorem dec_and (p q:Prop)[Decidable p][Decidable q]:(decide p&&decide q)=decide (p∧q):=(Bool.decide_and p q).symm
theorem dec_or (p q:Prop)[Decidable p][Decidable q]:(decide p||decide q)=decide (p∨q):=(Bool.decide_or p q).symm
theorem dec_not (p:Prop)[Decidable p]:(!decide p)=decide (¬p):=decide_not.symm
theorem dec_ta (p:Prop)[Decidable p]:decide (True∧p)=decide p:=by by_cases h:p<;>simp[h]
theorem dec_at (p:Prop)[Decidable p]:decide (p∧True)=decide p:=by by_cases h:p<;>simp[h]
theorem dec_fa (p:Prop)[Decidable p]:decide (False∧p)=false:=by simp
theorem dec_af (p:Prop)[Decidable p]:decide (p∧False)=false:=by simp
theorem gK_f {b:Bool}{m:(Value→Heap→Prop)→Prop}{h:Heap}{K:Value→Heap→Prop}(h1:b=false→m K)(h2:b=true→K undef h):gK (.bool b) false m h K:=by
 cases b
 ·exact h1 rfl
 ·exact h2 rfl
theorem zeh {init:List Value}{h:Heap}{body:List Value→Env→Heap→(List Value→Heap→Prop)→Prop}(st:Nat→List Value)(N i0:Nat)(hi:init=st i0)(h0:i0≤N)
  (step:∀i again ρj,i0≤i→i≤N→(i<N→again (st (i+1)) h)→body (st i) ρj h again):loopK init h body:=by
 refine za1 (fun d xs h'=>∃i,d=N-i∧i0≤i∧i≤N∧xs=st i∧h'=h) (N-i0) ⟨i0,rfl,Nat.le_refl _,h0,hi,rfl⟩ ?_
 rintro d xs ρj h' again ⟨i,rfl,h1,h2,rfl,rfl⟩ H
 exact step i again ρj h1 h2 fun hl=>H _ _ (N-(i+1)) (by omega) ⟨i+1,rfl,by omega,hl,rfl,rfl⟩
theorem zaF {α:Type}{init:List Value}{h:Heap}{body:List Value→Env→Heap→(List Value→Heap→Prop)→Prop}(N i0:Nat)(st:Nat→α→List Value)(I:Nat→α→Heap→Prop)(a0:α)(hi:init=st i0 a0)(h0:i0≤N)(hI:I i0 a0 h)
  (step:∀i a h again ρj,i0≤i→i≤N→I i a h→(∀a' h',i<N→I (i+1) a' h'→again (st (i+1) a') h')→body (st i a) ρj h again):loopK init h body:=by
 refine za1 (fun d xs h'=>∃i a,d=N-i∧i0≤i∧i≤N∧xs=st i a∧I i a h') (N-i0) ⟨i0,a0,rfl,Nat.le_refl _,h0,hi,hI⟩ ?_
 rintro d xs ρj h' again ⟨i,a,rfl,h1,h2,rfl,hi⟩ H
 exact step i a h' again ρj h1 h2 hi fun a' h' hl hI'=>H _ _ (N-(i+1)) (by omega) ⟨i+1,a',rfl,by omega,hl,rfl,hI'⟩
attribute [go_sem] gD_gD gD_tt gD_ff gD_tf gD_ft gV_gD gV_un gV_binl gV_binr gV_cvi gV_fld gV_ld gV_lds gV_idxl gV_idxr gV_lensl gV_lenst gV_ext gV_nil gV_maxl gV_maxr gV_minl gV_minr gV_part gV_pick0 gV_pick1 gV_pick2 true_or or_true false_or or_false dec_ta dec_at dec_fa dec_af pick_and pick_or gV_guard gK_guard gV_and_t gV_and_f gV_or_t gV_or_f gV_and_td gV_and_fd gV_or_td gV_or_fd beq_t beq_f dec_and dec_or dec_not
attribute [irreducible] gD
end Go.Crisp
namespace Go.Proofs.YtcoimlclclnlkaaGreatDoor
open Go Go.Crisp
attribute [local irreducible] FCall rowK newK stK iteK vK qK drawK gK joinK loopK mkK appK cpyK zoB zmd bsK
open _root_.Go.Proofs.Tryz
theorem zek {h:Heap}{x:Int}(hx:I64 x):FCall prog zcu #[.int .i64 x] h fun r h'=>r=.int .u64 (x.natAbs:Int)∧h'=h:=by
 apply zsk
 unfold zl0
 simp only[go_sem]
 refine zac (fun h0=>?_) (fun h0=>?_)
 ·rw[size_neg hx h0];exact⟨rfl,trivial⟩
 ·rw[size_pos hx h0];exact⟨rfl,trivial⟩
theorem zgf {h:Heap}{m:Nat}{b:Bool}(hm:m<18446744073709551616):FCall prog zdI #[.int .u64 (m:Int),.bool b] h fun r h'=>r=.int .i64 (holdZ m b)∧h'=h:=by
 apply zsl
 unfold zl1
 unfold holdZ
 cases b
 ·simp only[go_sem,Bool.false_eq_true,if_false]
  refine zac (fun h0=>?_) (fun h0=>?_)
  ·rw[if_pos (by omega)];exact⟨rfl,trivial⟩
  ·rw[if_neg (by omega),w64 (by omega) (by omega)];exact⟨rfl,trivial⟩
 ·simp only[go_sem,if_true]
  refine zac (fun h0=>?_) (fun h0=>?_)
  ·rw[if_pos (by omega)];exact⟨rfl,trivial⟩
  ·rw[if_neg (by omega),w64 (n:=(m:Int)) (by omega) (by omega),w64 (by omega) (by omega)]
   exact⟨by congr 1;omega,trivial⟩
theorem zrQ {a b:Nat}(hb:0<b)(ha:a<18446744073709551616):binV .i .quo (.int .u64 (a:Int)) (.int .u64 (b:Int))=some (.int .u64 ((a/b:Nat):Int)):=by
 have e:(a:Int).tdiv (b:Int)=((a/b:Nat):Int):=(Int.ofNat_tdiv a b).symm
 rw[zez _ _ _ _ (by omega),e,zb7 (Nat.lt_of_le_of_lt (Nat.div_le_self _ _) ha)]
theorem rem_u64 {a b:Nat}(hb:0<b):binV .i .rem (.int .u64 (a:Int)) (.int .u64 (b:Int))=some (.int .u64 ((a%b:Nat):Int)):=by
 have e:(a:Int).tmod (b:Int)=((a%b:Nat):Int):=(Int.ofNat_tmod a b).symm
 rw[zbd _ _ _ _ (by omega),e]
theorem zcT {x:Int}(h:I64 x):x.natAbs<18446744073709551616:=by unfold I64 at h;omega
theorem zf7 {x:Int}(h:I64 x):x.natAbs≤9223372036854775808:=by unfold I64 at h;omega
theorem zsT {h:Heap}{a b:Int}(ha:I64 a)(hb:I64 b):FCall prog zc9 #[.int .i64 a,.int .i64 b] h fun r h'=>r=.int .i64 (zq8 a b)∧h'=h:=by
 apply zqx
 unfold zkJ
 simp only[go_sem]
 unfold zq8
 refine zac (fun h0=>?_) (fun h0=>?_)
 ·rw[if_pos h0];exact⟨rfl,trivial⟩
 rw[if_neg h0]
 refine zaj (fun h'=>h'=h) rfl ?_
 refine(zek ha).mono fun v1 h1 ⟨e1,w1⟩=>?_
 subst e1 w1
 try refine⟨rfl,?_⟩
 refine(zek hb).mono fun v2 h2 ⟨e2,w2⟩=>?_
 subst e2 w2
 try refine⟨rfl,?_⟩
 have hb0:0<b.natAbs:=by omega
 have ha1:=zf7 ha
 rw[zrQ hb0 (zcT ha),zaa]
 refine(zek ha).mono fun v3 h3 ⟨e3,w3⟩=>?_
 subst e3 w3
 try refine⟨rfl,?_⟩
 refine(zek hb).mono fun v4 h4 ⟨e4,w4⟩=>?_
 subst e4 w4
 try refine⟨rfl,?_⟩
 rw[rem_u64 hb0,zaa]
 simp only[go_sem]
 have hq:a.natAbs/b.natAbs≤a.natAbs:=Nat.div_le_self _ _
 by_cases hd:diffS a b=true
 ·have hd':(!(decide (a<0)==decide (b<0)))=true:=hd
  rw[hd']
  simp only[go_sem]
  by_cases hr:a.natAbs%b.natAbs=0
  ·have q:(((a.natAbs%b.natAbs:Nat):Int)=0)=True:=eq_true (by omega)
   simp only[go_sem,q]
   rw[hd]
   unfold zpJ
   rw[if_neg (by simp[hr])]
   exact zgf (by omega)
  ·have q:(((a.natAbs%b.natAbs:Nat):Int)=0)=False:=eq_false (by omega)
   simp only[go_sem,q]
   rw[hd,show((a.natAbs/b.natAbs:Nat):Int)+1=((a.natAbs/b.natAbs+1:Nat):Int)from rfl,zb7 (m:=a.natAbs/b.natAbs+1) (by omega)]
   unfold zpJ
   rw[if_pos ⟨rfl,hr⟩]
   exact zgf (m:=a.natAbs/b.natAbs+1) (by omega)
 ·have hd:diffS a b=false:=by simpa using hd
  have hd':(!(decide (a<0)==decide (b<0)))=false:=hd
  rw[hd']
  simp only[go_sem]
  rw[hd]
  unfold zpJ
  rw[if_neg (by simp)]
  exact zgf (by omega)
theorem and_one (a:Int):binV .i .and (.int .i64 a) (.int .i64 1)=some (.int .i64 (a%2)):=by
 have e:(BitVec.ofInt 64 a&&& BitVec.ofInt 64 1).toNat=(a%2).toNat:=by
  rw[BitVec.toNat_and,BitVec.toNat_ofInt,BitVec.toNat_ofInt]
  have h1:(1%((2^64:Nat):Int)).toNat=1:=by decide
  rw[h1,Nat.and_one_is_mod]
  omega
 show some (Value.int .i64 (IntKind.i64.wrap (((BitVec.ofInt 64 a&&& BitVec.ofInt 64 1).toNat:Nat):Int)))=_
 rw[e,w64 (by omega) (by omega)]
 congr 2;omega
theorem shr_i64 (x:Int)(n:Nat)(hn:n≤64):binV .i .shr (.int .i64 x) (.int .i64 (n:Int))=some (.int .i64 (x/2^n)):=by
 show(if(n:Int)<0 then none else some (Value.int .i64 (x.fdiv (2^(min (n:Int).toNat 64)))))=_
 rw[if_neg (by omega),Int.toNat_natCast,Nat.min_eq_left hn,Int.fdiv_eq_ediv_of_nonneg _ (Int.le_of_lt (Int.pow_pos (by omega)))]
theorem zsR {h:Heap}{x n:Int}(hx:I64 x)(hn:I64 n):FCall prog zc8 #[.int .i64 x,.int .i64 n] h fun r h'=>r=.int .i64 (zgv x n)∧h'=h:=by
 apply zqw
 unfold zkI
 simp only[go_sem]
 unfold zgv
 refine zac (fun h0=>?_) (fun h0=>?_)
 ·rw[if_pos h0];exact⟨rfl,trivial⟩
 rw[if_neg h0]
 refine zac (fun h1=>?_) (fun h1=>?_)
 ·rw[if_pos h1];exact⟨rfl,trivial⟩
 rw[if_neg h1]
 obtain⟨k,rfl⟩:∃k:Nat,n=(k:Int):=⟨n.toNat,by omega⟩
 rw[w64 (n:=(k:Int)-1) (by omega) (by omega),show(k:Int)-1=((k-1:Nat):Int)by omega,shr_i64 x k (by omega),zaa,shr_i64 x (k-1) (by omega),zaa,and_one,zaa]
 simp only[go_sem,Int.toNat_natCast]
 refine⟨?_,trivial⟩
 congr 1
 have hp:(2:Int)^k=2*2^(k-1):=by
  obtain⟨j,rfl⟩:∃j,k=j+1:=⟨k-1,by omega⟩
  rw[Nat.add_sub_cancel,Int.pow_succ,Int.mul_comm]
 have hp1:(0:Int)<2^(k-1):=Int.pow_pos (by omega)
 have h2:x/2^k=x/2^(k-1)/2:=by rw[hp,Int.mul_comm,Int.ediv_ediv,if_neg (by omega),Int.sub_zero]
 obtain⟨b1,b2⟩:=hx
 have b3: -9223372036854775808≤x/2^(k-1)∧x/2^(k-1)≤9223372036854775807:=by
  constructor
  ·rw[Int.le_ediv_iff_mul_le hp1]
   have: -9223372036854775808*(2:Int)^(k-1)≤ -9223372036854775808*1:=Int.mul_le_mul_of_nonpos_left (by omega) (by omega)
   omega
  ·apply Int.le_of_lt_add_one
   rw[Int.ediv_lt_iff_lt_mul hp1]
   have:(9223372036854775807+1)*1≤(9223372036854775807+1)*(2:Int)^(k-1):=Int.mul_le_mul_of_nonneg_left (by omega) (by omega)
   omega
 rw[w64 (by omega) (by omega)]
end Go.Proofs.YtcoimlclclnlkaaGreatDoor
namespace Go.Proofs.YtcoimlclclnlkaaGreatDoor
open Go Go.Crisp
open _root_.Go.Proofs.Tryz
def zrN:Go.Shelf.Ren:=⟨fun n=>match n with|264=>317|n=>n,fun n=>match n with|46=>310|53=>291|n=>n,fun n=>n⟩
theorem lay_Mul64:Go.Proofs.Lays.n264 prog zrN where
 mixed:=by kernel_rfl
 f264:=by kernel_rfl
 t46:=by kernel_rfl
 a46:=fun w=>zaC (by kernel_rfl)
 z46:=fun w=>zao (by kernel_rfl)
 v46:=fun w=>zan (by kernel_rfl)
 t53:=by kernel_rfl
 a53:=fun w=>zaC (by kernel_rfl)
 z53:=fun w=>zao (by kernel_rfl)
 v53:=fun w=>zan (by kernel_rfl)
def zrO:Go.Shelf.Ren:=⟨fun n=>match n with|129=>242|n=>n,fun n=>match n with|3=>3|4=>4|5=>5|9=>9|46=>310|53=>291|n=>n,fun n=>n⟩
theorem lay_Len64:Go.Proofs.Lays.n129 prog zrO where
 mixed:=by kernel_rfl
 f129:=by kernel_rfl
 t3:=by kernel_rfl
 a3:=fun w=>zaC (by kernel_rfl)
 z3:=fun w=>zao (by kernel_rfl)
 v3:=fun w=>zan (by kernel_rfl)
 t4:=by kernel_rfl
 a4:=fun w=>zaC (by kernel_rfl)
 z4:=fun w=>zao (by kernel_rfl)
 v4:=fun w=>zan (by kernel_rfl)
 t5:=by kernel_rfl
 a5:=fun w=>zaC (by kernel_rfl)
 z5:=fun w=>zao (by kernel_rfl)
 v5:=fun w=>zan (by kernel_rfl)
 t9:=by kernel_rfl
 a9:=fun w=>zaC (by kernel_rfl)
 z9:=fun w=>zao (by kernel_rfl)
 v9:=fun w=>zan (by kernel_rfl)
 t46:=by kernel_rfl
 a46:=fun w=>zaC (by kernel_rfl)
 z46:=fun w=>zao (by kernel_rfl)
 v46:=fun w=>zan (by kernel_rfl)
 t53:=by kernel_rfl
 a53:=fun w=>zaC (by kernel_rfl)
 z53:=fun w=>zao (by kernel_rfl)
 v53:=fun w=>zan (by kernel_rfl)
def zrP:Go.Shelf.Ren:=⟨fun n=>match n with|25=>303|n=>n,fun n=>match n with|22=>291|n=>n,fun n=>n⟩
theorem lay_Add64:Go.Proofs.Lays7.n25 prog zrP where
 mixed:=by kernel_rfl
 f25:=by kernel_rfl
 t22:=by kernel_rfl
 a22:=fun w=>zaC (by kernel_rfl)
 z22:=fun w=>zao (by kernel_rfl)
 v22:=fun w=>zan (by kernel_rfl)
 i22:=by kernel_rfl
end Go.Proofs.YtcoimlclclnlkaaGreatDoor
namespace Go.Proofs.YtcoimlclclnlkaaGreatDoor
open Go Go.Crisp
attribute [local irreducible] FCall rowK newK stK iteK vK qK drawK gK joinK loopK mkK appK cpyK zoB zmd bsK
open _root_.Go.Proofs.Tryz
theorem znt {h:Heap}{x:Int}(hx:I64 x):FCall prog zgi #[.int .i64 x] h fun r h'=>r=.int .u64 (x.natAbs:Int)∧h'=h:=by
 apply ok_wide_size
 unfold znJ
 simp only[go_sem]
 refine zac (fun h0=>?_) (fun h0=>?_)
 ·rw[size_neg hx h0];exact⟨rfl,trivial⟩
 ·rw[size_pos hx h0];exact⟨rfl,trivial⟩
section
attribute [local semireducible] FCall
theorem c_Mul64 {h:Heap}{x y:Nat}(hx:x<18446744073709551616)(hy:y<18446744073709551616):
  FCall prog zc7 #[.int .u64 (x:Int),.int .u64 (y:Int)] h fun r h'=>r=.tuple #[.int .u64 ((x*y/18446744073709551616:Nat):Int),.int .u64 ((x*y%18446744073709551616:Nat):Int)]∧h'=h:=by
 refine FCall.ofCalls (by kernel_rfl) fun w hw=>?_
 refine(Any.bits_Mul64 lay_Mul64 x y hx hy w).mono ?_
 rintro e w' ⟨rfl,rfl⟩
 exact⟨_,rfl,Same.refl _,rfl,hw⟩
end
theorem c_product {h:Heap}{a b:Int}(ha:I64 a)(hb:I64 b):FCall prog zeD #[.int .i64 a,.int .i64 b] h fun r h'=>
  r=.tuple #[.int .u64 ((a.natAbs*b.natAbs/18446744073709551616:Nat):Int),.int .u64 ((a.natAbs*b.natAbs%18446744073709551616:Nat):Int),.bool (diffS a b)]∧h'=h:=by
 apply zpd
 unfold zi1
 refine(znt ha).mono fun v1 h1 ⟨e1,w1⟩=>?_
 subst e1 w1
 refine(znt hb).mono fun v2 h2 ⟨e2,w2⟩=>?_
 subst e2
 refine(c_Mul64 (zcT ha) (zcT hb)).mono fun v3 h3 ⟨e3,w3⟩=>?_
 subst e3
 simp only[go_sem]
 exact⟨rfl,w3.trans w2⟩
section
attribute [local semireducible] FCall
theorem c_Add64 {h:Heap}{x y c:Nat}(hc:c≤1):FCall prog zbK #[.int .u64 (x:Int),.int .u64 (y:Int),.int .u64 (c:Int)] h fun r h'=>
  r=.tuple #[.int .u64 (((x+y+c)%18446744073709551616:Nat):Int),.int .u64 (((x+y+c)/18446744073709551616:Nat):Int)]∧h'=h:=
 FCall.ofRun fun w hw=>⟨_,w,Any7.bits_Add64 lay_Add64 x y c hc w,Same.refl _,rfl,hw⟩
theorem c_Len64 {h:Heap}{x:Nat}(hx:x<18446744073709551616):FCall prog zhQ #[.int .u64 (x:Int)] h fun r h'=>r=.int .i64 (Lib.bitLen x:Int)∧h'=h:=by
 refine FCall.ofCalls (by kernel_rfl) fun w hw=>?_
 refine(Any.bits_Len64 lay_Len64 (x:Int) w (by omega) (by omega)).mono ?_
 rintro e w' ⟨rfl,rfl⟩
 exact⟨_,rfl,Same.refl _,rfl,hw⟩
end
theorem zox {h:Heap}{x:Nat}(hx:x<18446744073709551616):FCall prog zb2 #[.int .u64 (x:Int)] h fun r h'=>r=.int .i64 (64-(Lib.bitLen x:Int))∧h'=h:=by
 apply zf6
 unfold zcP
 refine(c_Len64 hx).mono fun v h1 ⟨e1,w1⟩=>?_
 subst e1
 have:=Lib.bitLen_le x 64 (Nat.le_refl _) hx
 have this:Lib.bitLen x≤64:=this
 simp only[go_sem]
 rw[w64 (by omega) (by omega)]
 exact⟨rfl,w1⟩
theorem zmK {h:Heap}{m:Nat}{b:Bool}(hm:m<340282366920938463463374607431768211456):
  FCall prog za9 #[.int .u64 ((m/18446744073709551616:Nat):Int),.int .u64 ((m%18446744073709551616:Nat):Int),.bool b] h fun r h'=>r=.int .i64 (holdZ m b)∧h'=h:=by
 apply zp8
 unfold zkk
 unfold holdZ
 cases b
 ·simp only[go_sem,Bool.false_eq_true,if_false]
  refine zac (fun h0=>?_) (fun h0=>?_)
  ·rw[if_pos (by omega)];exact⟨rfl,trivial⟩
  ·rw[if_neg (by omega),w64 (by omega) (by omega)]
   exact⟨by congr 1;omega,trivial⟩
 ·simp only[go_sem,if_true]
  refine zac (fun h0=>?_) (fun h0=>?_)
  ·rw[if_pos (by omega)];exact⟨rfl,trivial⟩
  ·have e:IntKind.i64.wrap (IntKind.u64.wrap (0-((m%18446744073709551616:Nat):Int)))= -((m%18446744073709551616:Nat):Int):=by
    rw[zbC,zdh];omega
   rw[e]
   refine⟨?_,trivial⟩
   congr 1
   split<;>omega
end Go.Proofs.YtcoimlclclnlkaaGreatDoor
namespace Go.Crisp
open Go
section
structure Guess (u d Y yn1 yn0 q r:Nat):Prop where
 eq:q*yn1+r=u
 up:(u*4294967296+d)/Y≤q
section
variable {u d Y yn1 yn0 q r:Nat}(hY:Y=yn1*4294967296+yn0)(h0:yn0<4294967296)(h1:2147483648≤yn1)(h1':yn1<4294967296)(hu:u<Y)(hd:d<4294967296)
theorem guess_mul (hY:Y=yn1*4294967296+yn0)(g:Guess u d Y yn1 yn0 q r):q*Y+r*4294967296=u*4294967296+q*yn0:=by
 have:=g.eq
 rw[hY,Nat.mul_add,←Nat.mul_assoc,←this,Nat.add_mul];omega
theorem zsO (hu:u<Y)(hd:d<4294967296):(u*4294967296+d)/Y<4294967296:=by
 rw[Nat.div_lt_iff_lt_mul (by omega)]
 have:(u+1)*4294967296≤Y*4294967296:=Nat.mul_le_mul_right _ hu
 rw[Nat.add_mul]at this
 rw[Nat.mul_comm 4294967296 Y]
 omega
theorem guess_first (hY:Y=yn1*4294967296+yn0)(h1:2147483648≤yn1)(hu:u<Y)(hd:d<4294967296):Guess u d Y yn1 yn0 (u/yn1) (u-u/yn1*yn1):=by
 have hle:u/yn1*yn1≤u:=Nat.div_mul_le_self u yn1
 refine⟨by omega,?_⟩
 rw[Nat.le_div_iff_mul_le (by omega)]
 have hq:(u*4294967296+d)/Y*Y≤u*4294967296+d:=Nat.div_mul_le_self _ _
 generalize(u*4294967296+d)/Y=Q at hq
 rw[hY,Nat.mul_add,←Nat.mul_assoc]at hq
 generalize Q*yn1=a at hq ⊢
 omega
theorem znp (hY:Y=yn1*4294967296+yn0)(h1:2147483648≤yn1)(hu:u<Y)(hd:d<4294967296)(g:Guess u d Y yn1 yn0 q r)(h:4294967296≤q∨4294967296*r+d<q*yn0):1≤q∧Guess u d Y yn1 yn0 (q-1) (r+yn1):=by
 have hlt:=zsO hu hd
 have hQ:(u*4294967296+d)/Y<q:=by
  rcases h with h|h
  ·exact Nat.lt_of_lt_of_le hlt h
  ·rw[Nat.div_lt_iff_lt_mul (by omega)]
   have:=guess_mul hY g
   clear hY hlt
   generalize q*Y=a at this ⊢
   omega
 have hq1:1≤q:=Nat.lt_of_le_of_lt (Nat.zero_le _) hQ
 refine⟨hq1,⟨?_,Nat.le_sub_one_of_lt hQ⟩⟩
 have:=g.eq
 obtain⟨k,rfl⟩:∃k,q=k+1:=⟨q-1,by omega⟩
 rw[Nat.add_mul]at this
 rw[Nat.add_sub_cancel]
 omega
theorem zq6 (hY:Y=yn1*4294967296+yn0)(h1:2147483648≤yn1)(g:Guess u d Y yn1 yn0 q r)(h:q*yn0≤4294967296*r+d):q=(u*4294967296+d)/Y:=by
 have:=guess_mul hY g
 have hup:=g.up
 have:q≤(u*4294967296+d)/Y:=by
  rw[Nat.le_div_iff_mul_le (by omega)]
  clear hY hup
  generalize q*Y=a at this ⊢
  omega
 exact Nat.le_antisymm this hup
theorem guess_over (hY:Y=yn1*4294967296+yn0)(h0:yn0<4294967296)(h1:2147483648≤yn1)(hu:u<Y)(g:Guess u d Y yn1 yn0 q r)(h:4294967296≤r):q=(u*4294967296+d)/Y:=by
 refine zq6 hY h1 g ?_
 have e:=g.eq
 have hq:q<4294967296:=by
  rcases Nat.lt_or_ge q 4294967296 with h2|h2
  ·exact h2
  ·have:4294967296*yn1≤q*yn1:=Nat.mul_le_mul_right _ h2
   omega
 have:q*yn0≤q*4294967296:=Nat.mul_le_mul_left _ (by omega)
 omega
theorem guess_le (h1:2147483648≤yn1)(hY:Y=yn1*4294967296+yn0)(h0:yn0<4294967296)(hu:u<Y):u/yn1<4294967298:=by
 rw[Nat.div_lt_iff_lt_mul (by omega)]
 omega
end
theorem digits_div {M Y d0 q r:Nat}(hY:0<Y)(hq:M/Y=q)(hr:M%Y=r):
  (M*4294967296+d0)/Y=q*4294967296+(r*4294967296+d0)/Y∧(M*4294967296+d0)%Y=(r*4294967296+d0)%Y:=by
 have h:=Nat.div_add_mod M Y
 rw[hq,hr]at h
 have e:M*4294967296+d0=(r*4294967296+d0)+Y*(q*4294967296):=by
  rw[←h,Nat.add_mul,Nat.mul_assoc,Nat.add_assoc,Nat.add_comm]
 rw[e]
 exact⟨by rw[Nat.add_mul_div_left _ _ hY,Nat.add_comm],by rw[Nat.add_mul_mod_self_left]⟩
end
end Go.Crisp
namespace Go.Proofs.YtcoimlclclnlkaaGreatDoor
open Go Go.Crisp
attribute [local irreducible] FCall rowK newK stK iteK vK qK drawK gK joinK loopK mkK appK cpyK zoB zmd bsK
open _root_.Go.Proofs.Tryz
theorem ze3 {a n:Nat}(k':IntKind)(hn:n≤64):binV .i .shr (.int .u64 (a:Int)) (.int k' (n:Int))=some (.int .u64 ((a/2^n:Nat):Int)):=by
 show(if(n:Int)<0 then none else some (Value.int .u64 ((a:Int).fdiv (2^(min (n:Int).toNat 64)))))=_
 rw[if_neg (by omega),Int.toNat_natCast,Nat.min_eq_left hn,Int.fdiv_eq_ediv_of_nonneg _ (Int.le_of_lt (Int.pow_pos (by omega)))]
 simp
theorem ziY {a n:Nat}(k':IntKind)(hn:n≤64):binV .i .shl (.int .u64 (a:Int)) (.int k' (n:Int))=some (.int .u64 ((a*2^n%18446744073709551616:Nat):Int)):=by
 show(if(n:Int)<0 then none else some (Value.int .u64 (IntKind.u64.wrap ((a:Int)*(2^(min (n:Int).toNat 64))))))=_
 rw[if_neg (by omega),Int.toNat_natCast,Nat.min_eq_left hn,zbC]
 simp
theorem zdL (a:Nat)(h:a<18446744073709551616):(BitVec.ofInt 64 (a:Int)).toNat=a:=by
 rw[BitVec.toNat_ofInt];simp only[Nat.reducePow];omega
theorem or_u64 {a b:Nat}(ha:a<18446744073709551616)(hb:b<18446744073709551616):binV .i .or (.int .u64 (a:Int)) (.int .u64 (b:Int))=some (.int .u64 ((a|||b:Nat):Int)):=by
 show some (Value.int .u64 (IntKind.u64.wrap (((BitVec.ofInt 64 (a:Int)|||BitVec.ofInt 64 (b:Int)).toNat:Nat):Int)))=_
 rw[BitVec.toNat_or,zdL a ha,zdL b hb,zb7]
 exact Nat.or_lt_two_pow (n:=64) ha hb
theorem and_u64 {a b:Nat}(ha:a<18446744073709551616)(hb:b<18446744073709551616):binV .i .and (.int .u64 (a:Int)) (.int .u64 (b:Int))=some (.int .u64 ((a&&& b:Nat):Int)):=by
 show some (Value.int .u64 (IntKind.u64.wrap (((BitVec.ofInt 64 (a:Int)&&& BitVec.ofInt 64 (b:Int)).toNat:Nat):Int)))=_
 rw[BitVec.toNat_and,zdL a ha,zdL b hb,zb7]
 exact Nat.lt_of_le_of_lt Nat.and_le_left ha
theorem zrv {a:Nat}(ha:a<18446744073709551616):binV .i .and (.int .u64 (a:Int)) (.int .u64 4294967295)=some (.int .u64 ((a%4294967296:Nat):Int)):=by
 rw[show(4294967295:Int)=((4294967295:Nat):Int)from rfl,and_u64 ha (by omega)]
 have:=Nat.and_two_pow_sub_one_eq_mod a 32
 simp only[Nat.reducePow,Nat.reduceSub]at this
 rw[this]
theorem and_one_u64 {a:Nat}(ha:a<18446744073709551616):binV .i .and (.int .u64 (a:Int)) (.int .u64 1)=some (.int .u64 ((a%2:Nat):Int)):=by
 rw[show(1:Int)=((1:Nat):Int)from rfl,and_u64 ha (by omega),Nat.and_one_is_mod]
theorem or_shift {a b s:Nat}(hb:b<2^s):a*2^s|||b=a*2^s+b:=by
 rw[Nat.mul_comm,Nat.two_pow_add_eq_or_of_lt hb]
theorem cvu {n:Nat}(k:IntKind)(h:n<18446744073709551616):cviV .u64 (.int k (n:Int))=some (.int .u64 (n:Int)):=by
 rw[zoI,zb7 h]
theorem join_digits {H a b c u:Nat}(h:H=a*18446744073709551616+u)(hu:u=b*4294967296+c):H=(a*4294967296+b)*4294967296+c:=by
 rw[h,hu,Nat.add_mul,Nat.mul_assoc]
 simp only[Nat.reduceMul,Nat.add_assoc]
theorem zq5 {u d Y yn1 yn0:Nat}{h:Heap}(hY:Y=yn1*4294967296+yn0)(h0:yn0<4294967296)(h1:2147483648≤yn1)(h1':yn1<4294967296)(hu:u<Y)(hd:d<4294967296)
  {init:List Value} {body:List Value→Env→Heap→(List Value→Heap→Prop)→Prop} (P:Nat→Nat→List Value) (hi:init=P (u/yn1) (u-u/yn1*yn1))
  (step:∀q r again ρj,q<4294967298→r<4294967296→(∀q' r',q'=q-1→r'=r+yn1→1≤q→(4294967296≤q∨4294967296*r+d<q*yn0)→r'<4294967296→again (P q' r') h)→
   ((4294967296≤q∨4294967296*r+d<q*yn0)→1≤q→4294967296≤r+yn1→q-1=(u*4294967296+d)/Y)→(¬(4294967296≤q∨4294967296*r+d<q*yn0)→q=(u*4294967296+d)/Y)→((4294967296≤q∨4294967296*r+d<q*yn0)→1≤q)→
   body (P q r) ρj h again):loopK init h body:=by
 have hle:=guess_le h1 hY h0 hu
 refine za1 (fun m xs h'=>h'=h∧∃q r,m=q∧xs=P q r∧Guess u d Y yn1 yn0 q r∧q<4294967298∧r<4294967296) (u/yn1) ⟨rfl,u/yn1,u-u/yn1*yn1,rfl,hi,guess_first hY h1 hu hd,hle,?_⟩ ?_
 ·have:=Nat.div_add_mod u yn1
  have h2:=Nat.mod_lt u (show yn1>0 by omega)
  rw[Nat.mul_comm]at this
  omega
 ·rintro m xs ρj h' again ⟨hh,q,r,hm,rfl,g,hq,hr⟩ H
  have hm:=hm.symm
  subst hh hm
  refine step q r again ρj hq hr (fun q' r' hq' hr' h1q hc hr2=>?_) (fun hc h1q hr2=>?_) (fun hc=>?_) fun hc=>(znp hY h1 hu hd g hc).1
  ·subst hq' hr'
   refine H _ _ (q-1) (by omega) ⟨rfl,q-1,r+yn1,rfl,rfl,(znp hY h1 hu hd g hc).2,by omega,hr2⟩
  ·exact guess_over hY h0 h1 hu (znp hY h1 hu hd g hc).2 hr2
  ·exact zq6 hY h1 g (by omega)
theorem c_Div64 {h:Heap}{hi lo y:Nat}(hhi:hi<y)(hlo:lo<18446744073709551616)(hy:y<18446744073709551616):
  FCall prog zev #[.int .u64 (hi:Int),.int .u64 (lo:Int),.int .u64 (y:Int)] h fun r h'=>
   r=.tuple #[.int .u64 (((hi*18446744073709551616+lo)/y:Nat):Int),.int .u64 (((hi*18446744073709551616+lo)%y:Nat):Int)]∧h'=h:=by
 apply zmx
 unfold zgM
 have q1:((y:Int)=0)=False:=eq_false (by omega)
 have q2:((y:Int)≤(hi:Int))=False:=eq_false (by omega)
 simp only[go_sem,q1,q2]
 refine zar (fun xs h'=>h'=h) rfl fun xs ρj h' e=>?_
 subst e
 refine zar (fun xs h''=>h''=h') rfl fun xs ρj h'' e=>?_
 subst e
 refine zac (fun h0=>?_) (fun h0=>?_)
 ·have h0:hi=0:=by omega
  subst h0
  rw[zrQ (by omega) hlo,zaa,rem_u64 (by omega),zaa]
  exact⟨by simp,rfl⟩
 refine(zox hy).mono fun v1 h1 ⟨e1,w1⟩=>?_
 subst e1 w1
 obtain⟨b0,b1,b2⟩:=Lib.bitLenAux_bounds 64 y hy (by omega)
 have b3:=Lib.bitLen_le y 64 (Nat.le_refl _) hy
 have hbl:Lib.bitLen y=Lib.bitLenAux 64 y:=rfl
 rw[←hbl]at b0 b1 b2
 generalize hL:Lib.bitLen y=L at b0 b1 b2 b3
 obtain⟨s,hs⟩:∃s,s=64-L:=⟨_,rfl⟩
 rw[show(64:Int)-(L:Int)=(s:Int)by omega,cvu _ (by omega),zaa,ziY _ (by omega),zaa]
 have hp:(0:Nat)<2^s:=Nat.pow_pos (by omega)
 have hps:2^L*2^s=18446744073709551616:=by
  rw[←Nat.pow_add,show L+s=64 by omega]
 have hps1:2^(L-1)*2^s=9223372036854775808:=by
  rw[←Nat.pow_add,show L-1+s=63 by omega]
 have hY1:y*2^s<18446744073709551616:=by rw[←hps];exact Nat.mul_lt_mul_of_pos_right b2 hp
 have hY2:9223372036854775808≤y*2^s:=by rw[←hps1];exact Nat.mul_le_mul_right _ b1
 have hhs:hi*2^s<18446744073709551616:=Nat.lt_trans (Nat.mul_lt_mul_of_pos_right hhi hp) hY1
 rw[Nat.mod_eq_of_lt hY1]
 have hq64:lo/2^(64-s)<2^s:=by
  rw[Nat.div_lt_iff_lt_mul (Nat.pow_pos (by omega)),←Nat.pow_add,show s+(64-s)=64 by omega]
  exact hlo
 have e32:(32:Int)=((32:Nat):Int):=rfl
 rw[e32,ze3 _ (by omega),zaa,zrv hY1,zaa,ziY _ (by omega),zaa,Nat.mod_eq_of_lt hhs,zcx,zaa,
  wu64 (n:=64-(s:Int)) (by omega) (by omega),show(64:Int)-(s:Int)=((64-s:Nat):Int)by omega,ze3 _ (by omega),zaa,
  or_u64 hhs (Nat.lt_of_lt_of_le hq64 (by rw[←hps];exact Nat.le_mul_of_pos_left _ (Nat.pow_pos (by omega)))),zaa,or_shift hq64,ziY _ (by omega),zaa]
 -- what is divided, shifted
 have hHY:(hi*18446744073709551616+lo)*2^s<y*2^s*18446744073709551616:=by
  have:hi*18446744073709551616+lo<y*18446744073709551616:=by omega
  rw[Nat.mul_right_comm]
  exact Nat.mul_lt_mul_of_pos_right this hp
 have hlos:lo*2^s=lo/2^(64-s)*18446744073709551616+lo*2^s%18446744073709551616:=by
  have e:lo*2^s/18446744073709551616=lo/2^(64-s):=by
   rw[show(18446744073709551616:Nat)=2^(64-s)*2^s by rw[←Nat.pow_add,show 64-s+s=64 by omega]]
   exact Nat.mul_div_mul_right _ _ hp
  rw[←e,Nat.mul_comm _ 18446744073709551616]
  exact(Nat.div_add_mod _ _).symm
 have hsplit:(hi*18446744073709551616+lo)*2^s=(hi*2^s+lo/2^(64-s))*18446744073709551616+lo*2^s%18446744073709551616:=by
  rw[Nat.add_mul,hlos,Nat.mul_right_comm,Nat.add_mul,Nat.add_assoc]
  congr 2
  rw[←hlos]
 have hquo:(hi*18446744073709551616+lo)/y=(hi*18446744073709551616+lo)*2^s/(y*2^s):=(Nat.mul_div_mul_right _ _ hp).symm
 have hrem:(hi*18446744073709551616+lo)%y=(hi*18446744073709551616+lo)*2^s%(y*2^s)/2^s:=by
  rw[Nat.mul_mod_mul_right,Nat.mul_div_cancel _ hp]
 have hqlt:(hi*18446744073709551616+lo)/y<18446744073709551616:=by
  rw[Nat.div_lt_iff_lt_mul (by omega),Nat.mul_comm]
  have:(hi+1)*18446744073709551616≤y*18446744073709551616:=Nat.mul_le_mul_right _ hhi
  omega
 rw[hquo,hrem]
 rw[hquo]at hqlt
 generalize(hi*18446744073709551616+lo)*2^s=HS at*
 generalize hu32:hi*2^s+lo/2^(64-s)=un32 at*
 have hun10:lo*2^s%18446744073709551616<18446744073709551616:=Nat.mod_lt _ (by omega)
 generalize lo*2^s%18446744073709551616=un10 at*
 generalize hYe:y*2^s=Y at*
 clear hlos hhs hq64
 have hu:un32<Y:=by omega
 have hu1:un10/4294967296<4294967296:=by omega
 have hu0:un10%4294967296<4294967296:=by omega
 have e264:(2:Nat)^32=4294967296:=rfl
 rw[ze3 _ (by omega),zaa,zrv hun10,zaa,e264]
 have hYs:Y=Y/4294967296*4294967296+Y%4294967296:=by omega
 have hn1:2147483648≤Y/4294967296:=by omega
 have hn1':Y/4294967296<4294967296:=by omega
 have hn0:Y%4294967296<4294967296:=by omega
 have hs64:s≤64:=by omega
 generalize hy1:Y/4294967296=yn1 at*
 generalize hy0:Y%4294967296=yn0 at*
 generalize hd1:un10/4294967296=un1 at*
 generalize hd0:un10%4294967296=un0 at*
 have hud:un10=un1*4294967296+un0:=by omega
 rw[zrQ (by omega) (by omega),zaa,zeA,zaa]
 have hm1:un32/yn1*yn1≤un32:=Nat.div_mul_le_self _ _
 rw[show((un32/yn1:Nat):Int)*(yn1:Int)=((un32/yn1*yn1:Nat):Int)from(Int.natCast_mul _ _).symm,zb7 (by omega),zcx,zaa,
  show(un32:Int)-((un32/yn1*yn1:Nat):Int)=((un32-un32/yn1*yn1:Nat):Int)by omega,zb7 (by omega)]
 have body:∀{u d q r:Nat} {X Y:Prop} (hq:q<4294967298) (hr:r<4294967296) (hd:d<4294967296),
   ((4294967296≤q∨4294967296*r+d<q*yn0)→X)→(¬(4294967296≤q∨4294967296*r+d<q*yn0)→Y)→
   vK (binV .i .geq (.int .u64 (q:Int)) (.int .u64 4294967296)) fun v44=>
    vK (gV v44 false (some (.int .u64 (q:Int)))) fun v45=>vK (gV v44 false (some (.int .u64 (yn0:Int)))) fun v46=>vK (gV v44 false (binV .i .mul v45 v46)) fun v47=>
    vK (gV v44 false (some (.int .u64 (r:Int)))) fun v48=>vK (gV v44 false (binV .i .mul (.int .u64 4294967296) v48)) fun v49=>vK (gV v44 false (some (.int .u64 (d:Int)))) fun v50=>
    vK (gV v44 false (binV .i .add v49 v50)) fun v51=>vK (gV v44 false (binV .i .gtr v47 v51)) fun v52=>vK (pickV v44 (.bool true) v52) fun v53=>iteK v53 X Y:=by
  intro u d q r X Y hq hr hd hX hY
  simp only[go_sem]
  by_cases hc:4294967296≤q
  ·have e:((4294967296:Int)≤(q:Int))=True:=eq_true (by omega)
   simp only[go_sem,e]
   exact hX (.inl hc)
  ·have e:((4294967296:Int)≤(q:Int))=False:=eq_false (by omega)
   simp only[go_sem,e]
   have hqy:q*yn0≤q*4294967296:=Nat.mul_le_mul_left _ (by omega)
   rw[show(q:Int)*(yn0:Int)=((q*yn0:Nat):Int)from(Int.natCast_mul _ _).symm,zb7 (m:=q*yn0) (by omega),
    show(4294967296:Int)*(r:Int)=((4294967296*r:Nat):Int)by omega,zb7 (m:=4294967296*r) (by omega),
    show((4294967296*r:Nat):Int)+(d:Int)=((4294967296*r+d:Nat):Int)by omega,zb7 (m:=4294967296*r+d) (by omega)]
   refine zac (fun h0=>hX (.inr (by omega))) (fun h0=>hY (by omega))
 refine zar (fun xs h'=>xs=[.int .u64 (((un32*4294967296+un1)/Y:Nat):Int)]∧h'=h1) ?_ ?_
 ·refine zq5 (d:=un1) hYs hn0 hn1 hn1' hu hu1 (fun q r=>[.int .u64 (q:Int),.int .u64 (r:Int)]) rfl fun q r again ρj hq hr g1 g2 g3 g4=>?_
  simp only[ix_0,ix_1]
  refine body (u:=0) hq hr hu1 (fun hc=>?_) (fun hc=>?_)
  ·have h1q:=g4 hc
   rw[zcx,zaa,show(q:Int)-1=((q-1:Nat):Int)by omega,zb7 (by omega),za6,zaa,show(r:Int)+(yn1:Int)=((r+yn1:Nat):Int)by omega,zb7 (by omega)]
   rw[zsW,zaa]
   refine zac (fun h0=>⟨by rw[g2 hc h1q (by omega)],trivial⟩) (fun h0=>g1 _ _ rfl rfl h1q hc (by omega))
  ·exact⟨by rw[g3 hc],trivial⟩
 rintro xs ρj h2 ⟨rfl,e2⟩
 subst e2
 simp only[ix_0]
 have hq1:=zsO hu hu1
 have hdm:=Nat.div_add_mod (un32*4294967296+un1) Y
 have hun21:(un32*4294967296+un1)%Y<Y:=Nat.mod_lt _ (by omega)
 have hD:=digits_div (M:=un32*4294967296+un1) (Y:=Y) (d0:=un0) (by omega) rfl rfl
 obtain⟨qq1,hq1e⟩:∃q,q=(un32*4294967296+un1)/Y:=⟨_,rfl⟩
 obtain⟨un21,hr1e⟩:∃q,q=(un32*4294967296+un1)%Y:=⟨_,rfl⟩
 rw[←hq1e,←hr1e]at hdm hD
 rw[←hr1e]at hun21
 rw[←hq1e]at hq1 ⊢
 have r21:IntKind.u64.wrap (IntKind.u64.wrap (IntKind.u64.wrap ((un32:Int)*4294967296)+(un1:Int))-IntKind.u64.wrap ((qq1:Int)*(Y:Int)))=(un21:Int):=by
  rw[show(qq1:Int)*(Y:Int)=((Y*qq1:Nat):Int)by rw[Nat.mul_comm];exact(Int.natCast_mul _ _).symm]
  rw[zbC,zbC,zbC,zbC]
  clear hD hsplit
  generalize Y*qq1=P at*
  omega
 rw[zeA,zaa,za6,zaa,zeA,zaa,zcx,zaa,r21]
 have hm2:un21/yn1*yn1≤un21:=Nat.div_mul_le_self _ _
 rw[zrQ (by omega) (by omega),zaa,zeA,zaa,show((un21/yn1:Nat):Int)*(yn1:Int)=((un21/yn1*yn1:Nat):Int)from(Int.natCast_mul _ _).symm,zb7 (by omega),zcx,zaa,
  show(un21:Int)-((un21/yn1*yn1:Nat):Int)=((un21-un21/yn1*yn1:Nat):Int)by omega,zb7 (by omega)]
 refine zar (fun xs h'=>xs=[.int .u64 (((un21*4294967296+un0)/Y:Nat):Int)]∧h'=h2) ?_ ?_
 ·refine zq5 (d:=un0) hYs hn0 hn1 hn1' hun21 hu0 (fun q r=>[.int .u64 (r:Int),.int .u64 (q:Int)]) rfl fun q r again ρj hq hr g1 g2 g3 g4=>?_
  simp only[ix_0,ix_1]
  refine body (u:=0) hq hr hu0 (fun hc=>?_) (fun hc=>?_)
  ·have h1q:=g4 hc
   rw[zcx,zaa,show(q:Int)-1=((q-1:Nat):Int)by omega,zb7 (by omega),za6,zaa,show(r:Int)+(yn1:Int)=((r+yn1:Nat):Int)by omega,zb7 (by omega)]
   rw[zsW,zaa]
   refine zac (fun h0=>⟨by rw[g2 hc h1q (by omega)],trivial⟩) (fun h0=>g1 _ _ rfl rfl h1q hc (by omega))
  ·exact⟨by rw[g3 hc],trivial⟩
 rintro xs ρj h3 ⟨rfl,e3⟩
 subst e3
 simp only[ix_0]
 have hq0:=zsO hun21 hu0
 have hdm0:=Nat.div_add_mod (un21*4294967296+un0) Y
 have hun:(un21*4294967296+un0)%Y<Y:=Nat.mod_lt _ (by omega)
 have hHS:HS=(un32*4294967296+un1)*4294967296+un0:=join_digits hsplit hud
 rw[hHS]at hqlt ⊢
 rw[hD.1]at hqlt ⊢
 rw[hD.2]
 obtain⟨qq0,hq0e⟩:∃q,q=(un21*4294967296+un0)/Y:=⟨_,rfl⟩
 obtain⟨rr,hr0e⟩:∃q,q=(un21*4294967296+un0)%Y:=⟨_,rfl⟩
 rw[←hq0e,←hr0e]at hdm0
 rw[←hr0e]at hun
 rw[←hq0e]at hq0 hqlt
 rw[←hq0e,←hr0e]
 have r00:IntKind.u64.wrap (IntKind.u64.wrap (IntKind.u64.wrap ((un21:Int)*4294967296)+(un0:Int))-IntKind.u64.wrap ((qq0:Int)*(Y:Int)))=(rr:Int):=by
  rw[show(qq0:Int)*(Y:Int)=((Y*qq0:Nat):Int)by rw[Nat.mul_comm];exact(Int.natCast_mul _ _).symm]
  rw[zbC,zbC,zbC,zbC]
  clear hD hsplit hHS
  generalize Y*qq0=P at*
  omega
 have rq:IntKind.u64.wrap (IntKind.u64.wrap ((qq1:Int)*4294967296)+(qq0:Int))=((qq1*4294967296+qq0:Nat):Int):=by
  rw[zbC,zbC]
  clear hD hsplit hHS hdm hdm0
  omega
 rw[zeA,zaa,za6,zaa,zeA,zaa,za6,zaa,zeA,zaa,zcx,zaa,r00,rq,ze3 _ hs64,zaa]
 exact⟨rfl,trivial⟩
theorem holdZ_sat {m n:Nat}{b:Bool}(hm:9223372036854775808≤m)(hn:9223372036854775808≤n):holdZ m b=holdZ n b:=by
 unfold holdZ
 cases b
 ·simp only[Bool.false_eq_true,if_false]
  rw[if_pos (by omega),if_pos (by omega)]
 ·simp only[if_true]
  rw[if_pos (by omega),if_pos (by omega)]
theorem prod_lt {a b:Int}(ha:I64 a)(hb:I64 b):a.natAbs*b.natAbs≤85070591730234615865843651857942052864:=by
 have h1:=zf7 ha
 have h2:=zf7 hb
 exact Nat.le_trans (Nat.mul_le_mul h1 h2) (by decide)
theorem zrb {m n:Nat}(h:m≤85070591730234615865843651857942052864):m/n≤85070591730234615865843651857942052864:=Nat.le_trans (Nat.div_le_self _ _) h
theorem zfw {h:Heap}{a b d:Int}(ha:I64 a)(hb:I64 b)(hd:I64 d):FCall prog zba #[.int .i64 a,.int .i64 b,.int .i64 d] h fun r h'=>r=.int .i64 (zaQ a b d)∧h'=h:=by
 apply zp9
 unfold zkl
 simp only[go_sem]
 unfold zaQ
 refine zac (fun h0=>?_) (fun h0=>?_)
 ·rw[if_pos h0];exact⟨rfl,trivial⟩
 rw[if_neg h0]
 have hm:=prod_lt ha hb
 refine(c_product ha hb).mono fun v1 h1 ⟨e1,w1⟩=>?_
 subst e1 w1
 simp only[go_sem]
 refine(znt hd).mono fun v2 h2 ⟨e2,w2⟩=>?_
 subst e2 w2
 have hd1:=zf7 hd
 have hd0:0<d.natAbs:=by omega
 obtain⟨m,hme⟩:∃m,m=a.natAbs*b.natAbs:=⟨_,rfl⟩
 obtain⟨bl,hbl⟩:∃bl,bl=(diffS a b != decide (d<0)):=⟨_,rfl⟩
 obtain⟨D,hD⟩:∃D,D=d.natAbs:=⟨_,rfl⟩
 have hbl':(!(diffS a b==decide (d<0)))=bl:=hbl.symm
 rw[←hme]at hm ⊢
 rw[←hbl,hbl',←hD]
 rw[←hD]at hd0 hd1
 have hq:m/D≤85070591730234615865843651857942052864:=zrb hm
 simp only[go_sem]
 refine zac (fun h1=>?_) (fun h1=>?_)
 ·have hge:18446744073709551616≤m/D:=by
   rw[Nat.le_div_iff_mul_le hd0]
   have h2:D≤m/18446744073709551616:=by omega
   have:=(Nat.le_div_iff_mul_le (show 0<18446744073709551616 by omega)).1 h2
   rw[Nat.mul_comm];exact this
  refine(zmK (m:=18446744073709551616) (b:=bl) (by omega)).mono fun v h' ⟨e,w⟩=>⟨?_,w⟩
  rw[e,holdZ_sat (by omega) (n:=nearN m D bl)]
  unfold nearN
  omega
 ·have hlt:m/18446744073709551616<D:=by omega
  have hqlt:m/D<18446744073709551616:=by
   rw[Nat.div_lt_iff_lt_mul hd0,Nat.mul_comm]
   exact(Nat.div_lt_iff_lt_mul (by omega)).1 hlt
  refine(c_Div64 hlt (Nat.mod_lt _ (by omega)) (by omega)).mono fun v h2 ⟨e,w⟩=>?_
  subst e w
  have hmm:m/18446744073709551616*18446744073709551616+m%18446744073709551616=m:=by
   rw[Nat.mul_comm];exact Nat.div_add_mod _ _
  rw[hmm]
  simp only[go_sem]
  have hr:m%D<D:=Nat.mod_lt _ hd0
  rw[show(D:Int)-((m%D:Nat):Int)=((D-m%D:Nat):Int)by omega,zb7 (m:=D-m%D) (by omega)]
  have fin:∀up:Nat,up≤1→nearN m D bl=m/D+up→FCall prog zbK #[.int .u64 ((m/D:Nat):Int),.int .u64 (up:Int),.int .u64 0] h2 fun v31 h32=>
    vK (extV v31 0) fun v33=>vK (extV v31 1) fun v34=>FCall prog za9 #[v34,v33,.bool bl] h32 fun v35 h36=>v35=.int .i64 (holdZ (nearN m D bl) bl)∧h36=h2:=by
   intro up hup hn
   refine(c_Add64 (x:=m/D) (y:=up) (c:=0) (by omega)).mono fun v h3 ⟨e,w⟩=>?_
   subst e w
   simp only[go_sem]
   refine(zmK (m:=m/D+up+0) (b:=bl) (by omega)).mono fun v h' ⟨e,w⟩=>⟨?_,w⟩
   rw[e,hn];rfl
  cases hb2:bl
  ·rw[hb2]at fin
   simp only[go_sem]
   refine zac (fun h3=>?_) (fun h3=>?_)
   ·refine fin 1 (by omega) ?_
    unfold nearN
    simp only[Bool.false_eq_true,if_false]
    rw[if_pos (by omega)]
   ·refine fin 0 (by omega) ?_
    unfold nearN
    simp only[Bool.false_eq_true,if_false]
    rw[if_neg (by omega)]
  ·rw[hb2]at fin
   simp only[go_sem]
   by_cases h3:D-m%D<m%D
   ·have e3:(((D-m%D:Nat):Int)<((m%D:Nat):Int))=True:=eq_true (by omega)
    simp only[go_sem,e3]
    refine fin 1 (by omega) ?_
    unfold nearN
    simp only[if_true]
    rw[if_pos (by omega)]
   ·have e3:(((D-m%D:Nat):Int)<((m%D:Nat):Int))=False:=eq_false (by omega)
    simp only[go_sem,e3]
    refine fin 0 (by omega) ?_
    unfold nearN
    simp only[if_true]
    rw[if_neg (by omega)]
theorem zpQ {h:Heap}{m n:Nat}(hm:m<340282366920938463463374607431768211456)(hn:n<128):
  FCall prog zg0 #[.int .u64 ((m/18446744073709551616:Nat):Int),.int .u64 ((m%18446744073709551616:Nat):Int),.int .i64 (n:Int)] h fun r h'=>
   r=.tuple #[.int .u64 ((m/2^n/18446744073709551616:Nat):Int),.int .u64 ((m/2^n%18446744073709551616:Nat):Int)]∧h'=h:=by
 apply zrT
 unfold zlz
 simp only[go_sem]
 have hhi:m/18446744073709551616<18446744073709551616:=by omega
 refine zac (fun h0=>?_) (fun h0=>?_)
 ·rw[w64 (n:=(n:Int)-64) (by omega) (by omega),show(n:Int)-64=((n-64:Nat):Int)by omega,ze3 _ (by omega),zaa]
  refine⟨?_,trivial⟩
  have e:m/2^n=m/18446744073709551616/2^(n-64):=by
   rw[Nat.div_div_eq_div_mul,show(18446744073709551616:Nat)=2^64 from rfl,←Nat.pow_add,show 64+(n-64)=n by omega]
  have hlt:m/18446744073709551616/2^(n-64)<18446744073709551616:=Nat.lt_of_le_of_lt (Nat.div_le_self _ _) hhi
  rw[e,Nat.div_eq_of_lt hlt,Nat.mod_eq_of_lt hlt]
  rfl
 ·have hn64:n<64:=by omega
  rw[ze3 _ (by omega),zaa,ze3 _ (by omega),zaa]
  rw[w64 (n:=64-(n:Int)) (by omega) (by omega),show(64:Int)-(n:Int)=((64-n:Nat):Int)by omega,ziY _ (by omega),zaa]
  have hlow:m%18446744073709551616<18446744073709551616:=Nat.mod_lt _ (by omega)
  have h2:m%18446744073709551616/2^n<18446744073709551616:=Nat.lt_of_le_of_lt (Nat.div_le_self _ _) hlow
  rw[or_u64 h2 (Nat.mod_lt _ (by omega)),zaa]
  refine⟨?_,trivial⟩
  have hp:(0:Nat)<2^n:=Nat.pow_pos (by omega)
  have hp64:(18446744073709551616:Nat)=2^n*2^(64-n):=by rw[←Nat.pow_add,show n+(64-n)=64 by omega]
  have hlow2:m%18446744073709551616/2^n<2^(64-n):=by
   rw[Nat.div_lt_iff_lt_mul hp,Nat.mul_comm,←hp64];exact hlow
  -- the low half of what is above
  have e1:m/2^n=m/18446744073709551616*2^(64-n)+m%18446744073709551616/2^n:=by
   have e:=Nat.div_add_mod m 18446744073709551616
   have e2:m=m%18446744073709551616+2^n*(m/18446744073709551616*2^(64-n)):=by
    have:2^n*(m/18446744073709551616*2^(64-n))=18446744073709551616*(m/18446744073709551616):=by
     rw[hp64,Nat.mul_left_comm,Nat.mul_comm]
    rw[this];omega
   conv=>lhs;rw[e2]
   rw[Nat.add_mul_div_left _ _ hp,Nat.add_comm]
  have e3:m/18446744073709551616*2^(64-n)%18446744073709551616=m/18446744073709551616%2^n*2^(64-n):=by
   have:(18446744073709551616:Nat)=2^n*2^(64-n):=hp64
   conv=>lhs;rhs;rw[this]
   exact Nat.mul_mod_mul_right _ _ _
  rw[e3,Nat.or_comm,or_shift hlow2]
  generalize hHi:m/18446744073709551616=Hi at*
  have e4:m/2^n/18446744073709551616=Hi/2^n:=by
   rw[Nat.div_div_eq_div_mul,Nat.mul_comm,←Nat.div_div_eq_div_mul,hHi]
  have e5:m/2^n%18446744073709551616=Hi%2^n*2^(64-n)+m%18446744073709551616/2^n:=by
   rw[e1]
   have hd:=Nat.div_add_mod Hi (2^n)
   have:Hi*2^(64-n)=Hi%2^n*2^(64-n)+18446744073709551616*(Hi/2^n):=by
    conv=>lhs;rw[←hd]
    rw[Nat.add_mul,Nat.add_comm,Nat.mul_right_comm,←hp64]
   rw[this,Nat.add_right_comm,Nat.add_mul_mod_self_left,Nat.mod_eq_of_lt]
   have h6:Hi%2^n+1≤2^n:=Nat.mod_lt _ hp
   have h7:(Hi%2^n+1)*2^(64-n)≤2^n*2^(64-n):=Nat.mul_le_mul_right _ h6
   rw[←hp64,Nat.add_mul,Nat.one_mul]at h7
   exact Nat.lt_of_lt_of_le (Nat.add_lt_add_left hlow2 _) h7
  rw[e4,e5]
theorem c_exact {h:Heap}{m n:Nat}(hm:m<340282366920938463463374607431768211456)(hn:n<128):
  FCall prog zjB #[.int .u64 ((m/18446744073709551616:Nat):Int),.int .u64 ((m%18446744073709551616:Nat):Int),.int .i64 (n:Int)] h fun r h'=>r=.bool (decide (m%2^n=0))∧h'=h:=by
 apply zrU
 unfold zlA
 simp only[go_sem]
 have shlz:∀(a k:Nat),k≤64→(a*2^(64-k)%18446744073709551616=0↔a%2^k=0):=by
  intro a k hk
  have hp64:(18446744073709551616:Nat)=2^k*2^(64-k):=by rw[←Nat.pow_add,show k+(64-k)=64 by omega]
  rw[hp64,Nat.mul_mod_mul_right]
  have:0<2^(64-k):=Nat.pow_pos (by omega)
  constructor
  ·intro h;rcases Nat.mul_eq_zero.1 h with h|h<;>omega
  ·intro h;rw[h,Nat.zero_mul]
 refine zac (fun h0=>?_) (fun h0=>?_)
 ·-- n ≥ 64
  have e:(2:Nat)^n=18446744073709551616*2^(n-64):=by rw[show(18446744073709551616:Nat)=2^64 from rfl,←Nat.pow_add,show 64+(n-64)=n by omega]
  have key:m%2^n=0↔m%18446744073709551616=0∧m/18446744073709551616%2^(n-64)=0:=by
   rw[e,Nat.mod_mul]
   constructor
   ·intro h;have h1:m%18446744073709551616=0:=by omega
    refine⟨h1,?_⟩
    rw[h1,Nat.zero_add]at h
    rcases Nat.mul_eq_zero.1 h with h|h
    ·omega
    ·exact h
   ·rintro⟨h1,h2⟩;rw[h1,h2]
  by_cases hl:m%18446744073709551616=0
  ·have q:(((m%18446744073709551616:Nat):Int)=0)=True:=eq_true (by omega)
   simp only[go_sem,q]
   rw[w64 (n:=128-(n:Int)) (by omega) (by omega),show(128:Int)-(n:Int)=((64-(n-64):Nat):Int)by omega,ziY _ (by omega),zaa]
   simp only[go_sem]
   refine⟨?_,trivial⟩
   congr 1
   rw[decide_eq_decide]
   have:=shlz (m/18446744073709551616) (n-64) (by omega)
   constructor
   ·intro h;exact key.2 ⟨hl,this.1 (by omega)⟩
   ·intro h;have:=this.2 (key.1 h).2;omega
  ·have q:(((m%18446744073709551616:Nat):Int)=0)=False:=eq_false (by omega)
   simp only[go_sem,q]
   refine⟨?_,trivial⟩
   congr 1
   rw[Eq.comm,decide_eq_false_iff_not]
   exact fun h=>hl (key.1 h).1
 ·rw[w64 (n:=64-(n:Int)) (by omega) (by omega),show(64:Int)-(n:Int)=((64-n:Nat):Int)by omega,ziY _ (by omega),zaa]
  simp only[go_sem]
  refine⟨?_,trivial⟩
  congr 1
  rw[decide_eq_decide]
  have:=shlz (m%18446744073709551616) n (by omega)
  have e:m%18446744073709551616%2^n=m%2^n:=by
   have hp64:(18446744073709551616:Nat)=2^n*2^(64-n):=by rw[←Nat.pow_add,show n+(64-n)=64 by omega]
   rw[hp64,Nat.mod_mul_right_mod]
  rw[e]at this
  constructor
  ·intro h;exact this.1 (by omega)
  ·intro h;have:=this.2 h;omega
theorem c_MulShift {h:Heap} {a b n:Int} (ha:I64 a) (hb:I64 b) (hn:I64 n):FCall prog zgj #[.int .i64 a,.int .i64 b,.int .i64 n] h fun r h'=>r=.int .i64 (zf9 a b n)∧h'=h:=by
  apply zol
  unfold ziz
  simp only[go_sem]
  have hm:=prod_lt ha hb
  unfold zf9
  refine zac (fun h0=>?_) (fun h0=>?_)
  · rw[if_pos (by omega)];exact⟨rfl,trivial⟩
  rw[if_neg (by omega)]
  have hnn:max 0 n=((n.toNat:Nat):Int):=by omega
  rw[hnn]at h0 ⊢
  obtain⟨k,hk⟩:∃k,k=n.toNat:=⟨_,rfl⟩
  rw[←hk]at h0 ⊢
  refine(c_product ha hb).mono fun v1 h1 ⟨e1,w1⟩=>?_
  subst e1 w1
  obtain⟨m,hme⟩:∃m,m=a.natAbs*b.natAbs:=⟨_,rfl⟩
  obtain⟨bl,hbl⟩:∃bl,bl=diffS a b:=⟨_,rfl⟩
  rw[←hme]at hm ⊢
  rw[←hbl]
  simp only[go_sem]
  unfold shiftN
  refine zac (fun h1=>?_) (fun h1=>?_)
  · rw[if_pos (by omega)]
    exact zmK (by omega)
  rw[if_neg (by omega)]
  refine(zpQ (m:=m) (n:=k) (by omega) (by omega)).mono fun v h2 ⟨e,w⟩=>?_
  subst e w
  simp only[go_sem]
  rw[w64 (n:=(k:Int)-1) (by omega) (by omega),show(k:Int)-1=((k-1:Nat):Int)by omega]
  refine(zpQ (m:=m) (n:=k-1) (by omega) (by omega)).mono fun v h3 ⟨e,w⟩=>?_
  subst e w
  simp only[go_sem]
  have hqk:m/2^k≤85070591730234615865843651857942052864:=zrb hm
  rw[and_one_u64 (Nat.mod_lt _ (by omega)),zaa,show m/2^(k-1)%18446744073709551616%2=m/2^(k-1)%2 by omega]
  have fin1:FCall prog za9 #[.int .u64 ((m/2^k/18446744073709551616:Nat):Int),.int .u64 ((m/2^k%18446744073709551616:Nat):Int),.bool bl] h3 fun v35 h36=>v35=.int .i64 (holdZ (m/2^k+0) bl)∧h36=h3:=zmK (by omega)
  have fin2:FCall prog zbK #[.int .u64 ((m/2^k%18446744073709551616:Nat):Int),.int .u64 1,.int .u64 0] h3 fun v31 h32=>
        vK (extV v31 0) fun v33=>vK (extV v31 1) fun v34=>vK (binV .i .add (.int .u64 ((m/2^k/18446744073709551616:Nat):Int)) v34) fun v38=>
        FCall prog za9 #[v38,v33,.bool bl] h32 fun v35 h36=>v35=.int .i64 (holdZ (m/2^k+1) bl)∧h36=h3:=by
    refine(c_Add64 (x:=m/2^k%18446744073709551616) (y:=1) (c:=0) (by omega)).mono fun v h4 ⟨e,w⟩=>?_
    subst e w
    simp only[go_sem]
    generalize m/2^k=M at*
    have e1:(M%18446744073709551616+1+0)%18446744073709551616=(M+1)%18446744073709551616:=by omega
    have e2:((M/18446744073709551616:Nat):Int)+(((M%18446744073709551616+1+0)/18446744073709551616:Nat):Int)=(((M+1)/18446744073709551616:Nat):Int):=by omega
    rw[e1,e2,zb7 (by omega)]
    exact zmK (by omega)
  by_cases hh:m/2^(k-1)%2=0
  · have q:(((m/2^(k-1)%2:Nat):Int)=0)=True:=eq_true (by omega)
    simp only[go_sem,q]
    rw[if_neg (fun h=>by omega)]
    exact fin1
  · have q:(((m/2^(k-1)%2:Nat):Int)=0)=False:=eq_false (by omega)
    simp only[go_sem,q]
    have hh1:m/2^(k-1)%2=1:=by omega
    cases hb2:bl
    · rw[hb2]at fin2
      simp only[go_sem]
      rw[if_pos ⟨hh1,by simp⟩]
      exact fin2
    · rw[hb2]at fin1 fin2
      simp only[go_sem]
      rw[w64 (n:=(k:Int)-1) (by omega) (by omega),show(k:Int)-1=((k-1:Nat):Int)by omega]
      refine(c_exact (m:=m) (n:=k-1) (by omega) (by omega)).mono fun v h4 ⟨e,w⟩=>?_
      subst e w
      try simp only[go_sem]
      refine zac (fun h5=>?_) (fun h5=>?_)
      · rw[if_neg (fun h=>h.2 ⟨trivial,h5⟩)]
        exact fin1
      · rw[if_pos ⟨hh1,fun h=>h5 h.2⟩]
        exact fin2
theorem shl_i64 {a:Int}{n:Nat}(k':IntKind)(hn:n≤64):binV .i .shl (.int .i64 a) (.int k' (n:Int))=some (.int .i64 (IntKind.i64.wrap (a*2^n))):=by
 show(if(n:Int)<0 then none else some (Value.int .i64 (IntKind.i64.wrap (a*(2^(min (n:Int).toNat 64))))))=_
 rw[if_neg (by omega),Int.toNat_natCast,Nat.min_eq_left hn]
theorem shl_40 {a:Int}(k':IntKind):binV .i .shl (.int .i64 a) (.int k' 40)=some (.int .i64 (IntKind.i64.wrap (a*1099511627776))):=shl_i64 (n:=40) k' (by omega)
theorem shl_31 {a:Int}(k':IntKind):binV .i .shl (.int .i64 a) (.int k' 31)=some (.int .i64 (IntKind.i64.wrap (a*2147483648))):=shl_i64 (n:=31) k' (by omega)
theorem c_Mod {h:Heap}{a b:Int}(ha:I64 a)(hb:I64 b)(h0:0<b):FCall prog zgu #[.int .i64 a,.int .i64 b] h fun r h'=>r=.int .i64 (a%b)∧h'=h:=by
 apply ok_fixed_Mod
 unfold zn4
 have q1:(b=0)=False:=eq_false (by omega)
 have q2:(b= -1)=False:=eq_false (by omega)
 have q3:(b<0)=False:=eq_false (by omega)
 simp only[go_sem,q1,q2]
 rw[zbd _ _ _ _ (by omega),zaa]
 simp only[go_sem,q3]
 have e:= @Int.emod_eq_tmod a b
 have hl:=Int.emod_nonneg a (show b≠0 by omega)
 have hl2:=Int.emod_lt_of_pos a h0
 unfold I64 at ha hb
 by_cases hc:a.tmod b=0
 ·simp only[go_sem,hc]
  refine⟨?_,trivial⟩
  rw[hc]at e
  split at e
  ·rw[e];rfl
  ·rename_i hn
   exact absurd (Or.inr (Int.dvd_of_tmod_eq_zero hc)) hn
 ·simp only[go_sem,hc]
  by_cases hs:a.tmod b<0
  ·simp only[go_sem,hs]
   split at e
   ·omega
   ·rw[w64 (by omega) (by omega)]
    refine⟨?_,trivial⟩
    congr 1;omega
  ·simp only[go_sem,hs]
   refine⟨?_,trivial⟩
   congr 1
   split at e<;>omega
theorem c_Clamp {h:Heap}{x l u:Int}:FCall prog zfD #[.int .i64 x,.int .i64 l,.int .i64 u] h fun r h'=>r=.int .i64 (max l (min x u))∧h'=h:=by
 apply zqy
 unfold zkK
 simp only[go_sem]
 exact⟨by simp,by simp⟩
theorem zrm {h:Heap}{a b:Int}(ha:I64 a)(hb:I64 b):FCall prog ziu #[.int .i64 a,.int .i64 b] h fun r h'=>r=.int .i64 (addZ a b)∧h'=h:=by
 apply ok_fixed_Add
 unfold zn5
 simp only[go_sem,zdh]
 unfold addZ I64 at*
 refine zac (fun h0=>?_) (fun h0=>?_)
 ·exact⟨by congr 1;omega,trivial⟩
 refine zac (fun h1=>?_) (fun h1=>?_)
 ·exact⟨by congr 1;omega,trivial⟩
 ·exact⟨by congr 1;omega,trivial⟩
theorem c_fixedMul {h:Heap}{a b:Int}(ha:I64 a)(hb:I64 b):FCall prog zlp #[.int .i64 a,.int .i64 b] h fun r h'=>r=.int .i64 (mulZ a b)∧h'=h:=by
 apply ok_fixed_Mul
 unfold zn3
 refine(zek ha).mono fun v1 h1 ⟨e1,w1⟩=>?_
 subst e1 w1
 refine(zek hb).mono fun v2 h2 ⟨e2,w2⟩=>?_
 subst e2 w2
 refine(c_Mul64 (zcT ha) (zcT hb)).mono fun v3 h3 ⟨e3,w3⟩=>?_
 subst e3 w3
 simp only[go_sem]
 unfold mulZ
 have hm:=prod_lt ha hb
 generalize a.natAbs*b.natAbs=m at*
 refine zac (fun h0=>?_) (fun h0=>?_)
 ·refine(zgf (m:=18446744073709551615) (b:=diffS a b) (by omega)).mono fun v h' ⟨e,w⟩=>⟨?_,w⟩
  rw[e,holdZ_sat (n:=m) (by omega) (by omega)]
 ·rw[show m%18446744073709551616=m by omega]
  exact zgf (by omega)
theorem c_Exp {h:Heap}{t:Int}(ht:I64 t):FCall prog znG #[.int .i64 t] h fun r h'=>r=.int .i64 (expZ t)∧h'=h:=by
 apply ok_expo_Exp
 unfold zoY
 simp only[go_sem]
 unfold expZ
 have ht1:0≤max 0 t∧max 0 t≤9223372036854775807:=by unfold I64 at ht;omega
 generalize max 0 t=T at*
 rw[zez _ _ _ _ (by omega),zaa,zbd _ _ _ _ (by omega),zaa,Int.tdiv_eq_ediv_of_nonneg ht1.1,Int.tmod_eq_emod_of_nonneg ht1.1,w64 (by omega) (by omega)]
 have hr:0≤T%762123384786∧T%762123384786<762123384786:=by omega
 generalize hrr:T%762123384786=r at*
 refine zeh (fun i=>[.int .i64 (zbP r i).1,.int .i64 (zbP r i).2,.int .i64 (i:Int)]) 16 0 rfl (by omega) fun i again ρj _ hi H=>?_
 simp only[go_sem]
 obtain⟨s1,s2⟩:=zlc r i
 refine zac (fun h0=>?_) (fun h0=>?_)
 ·have H:=H (by omega)
  simp only[zbP]at H
  rw[w64 (n:=(i:Int)+1) (by omega) (by omega),shl_40,zaa,w64 (by omega) (by omega)]
  refine(zfw s2 (by unfold I64;omega) (by unfold I64;omega)).mono fun v1 h1 ⟨e1,w1⟩=>?_
  subst e1 w1
  rw[zbd _ _ _ _ (by omega),zaa,Int.tmod_eq_emod_of_nonneg (by omega)]
  simp only[go_sem]
  refine zac (fun h2=>?_) (fun h2=>?_)
  ·rw[if_pos (by omega)]at H
   rw[show((i+1:Nat):Int)=(i:Int)+1 by omega]at H
   exact H
  ·rw[if_neg (by omega)]at H
   rw[show((i+1:Nat):Int)=(i:Int)+1 by omega]at H
   exact H
 ·have:i=16:=by omega
  subst this
  exact zsR s1 (by unfold I64;omega)
theorem c_Ratio {h:Heap}{d s:Int}(hd:I64 d)(hs:I64 s):FCall prog zjM #[.int .i64 d,.int .i64 s] h fun r h'=>r=.int .i64 (zo3 d s)∧h'=h:=by
 apply zsm
 unfold zl3
 simp only[go_sem]
 unfold zo3
 refine zac (fun h0=>?_) (fun h0=>?_)
 ·rw[if_pos (by omega)];exact⟨rfl,trivial⟩
 ·rw[if_neg (by omega),shl_31,zaa]
  have h1:=sq_le (d:=d) (B:=16384) (by omega) (by omega)
  have h2:=sq_le (d:=s) (B:=4194304) (by omega) (by omega)
  rw[w64 (n:=d*d) (by omega) (by omega),w64 (n:=d*d*2147483648) (by omega) (by omega),w64 (n:=s*s) (by omega) (by omega)]
  exact zfw (by unfold I64;omega) (by unfold I64;omega) (by unfold I64;omega)
theorem c_Gauss {h:Heap}{d s:Int}(hd:I64 d)(hs:I64 s):FCall prog zjN #[.int .i64 d,.int .i64 s] h fun r h'=>r=.int .i64 (zoa d s)∧h'=h:=by
 apply zsn
 unfold zl4
 refine(c_Ratio hd hs).mono fun v1 h1 ⟨e1,w1⟩=>?_
 subst e1 w1
 refine(c_Exp (zqV _ _)).mono fun v1 h1 ⟨e1,w1⟩=>?_
 subst e1 w1
 exact zsR (zsM _) (by unfold I64;omega)
theorem znv {h:Heap}{p:Int}(hp:I64 p)(h0:p≠ -9223372036854775808):FCall prog zid #[.int .i64 p] h fun r h'=>r=.int .i64 (max p (-p))∧h'=h:=by
 apply ok_sinc_size
 unfold znO
 unfold I64 at hp
 simp only[go_sem]
 rw[w64 (by omega) (by omega)]
 exact⟨by rw[Int.zero_sub],trivial⟩
theorem c_May {h:Heap}{p q:Int}(hp:I64 p)(hq:I64 q):FCall prog znD #[.int .i64 p,.int .i64 q] h fun r h'=>r=.bool (decide (mayZ p q))∧h'=h:=by
 apply ok_sinc_May
 unfold zoR
 simp only[go_sem]
 refine⟨?_,trivial⟩
 congr 1
 rw[decide_eq_decide]
 unfold mayZ I64 at*
 by_cases h1:1≤q∧q≤1048576
 ·rw[w64 (n:= -4*q) (by omega) (by omega),w64 (n:=4*q) (by omega) (by omega)]
  omega
 ·omega
theorem twice_sq (x:Int):2*x*(2*x+1)=4*(x*x)+2*x:=by
 have e:2*x*(2*x)=4*(x*x):=by rw[Int.mul_assoc 2 x (2*x),Int.mul_left_comm x 2 x];omega
 rw[Int.mul_add,Int.mul_one,e]
theorem c_series {h:Heap}{p q:Int}(hp:I64 p)(h0:p≠ -9223372036854775808)(hq:I64 q):FCall prog zfx #[.int .i64 p,.int .i64 q] h fun r h'=>r=.int .i64 (zkW p q)∧h'=h:=by
 apply zqa
 unfold zkm
 unfold zkW
 refine(znv hp h0).mono fun v1 h1 ⟨e1,w1⟩=>?_
 subst e1 w1
 have hm:I64 (max p (-p)):=by unfold I64 at*;omega
 refine(zfw (by unfold I64;omega) hm hq).mono fun v1 h1 ⟨e1,w1⟩=>?_
 subst e1 w1
 refine(zfw (zbO _ _ _) hm hq).mono fun v1 h1 ⟨e1,w1⟩=>?_
 subst e1 w1
 have hu:=zbO (zaQ 10851744800547 (max p (-p)) q) (max p (-p)) q
 generalize zaQ (zaQ 10851744800547 (max p (-p)) q) (max p (-p)) q=u at*
 refine zeh (fun i=>[.int .i64 (zaE u i).1,.int .i64 (zaE u i).2,.int .i64 (if i%2=0 then 1 else-1),.int .i64 ((i:Int)+1)]) 30 0 rfl (by omega) fun i again ρj _ hi H=>?_
 simp only[go_sem]
 obtain⟨s1,s2⟩:=ziX u i
 refine zac (fun h0=>?_) (fun h0=>?_)
 ·have H:=H (by omega)
  simp only[zaE]at H
  have hsq:=sq_le (d:=(i:Int)+1) (B:=30) (by omega) (by omega)
  have he:=twice_sq ((i:Int)+1)
  rw[w64 (n:=2*((i:Int)+1)) (by omega) (by omega),w64 (n:=2*((i:Int)+1)+1) (by omega) (by omega),w64 (n:=2*((i:Int)+1)*(2*((i:Int)+1)+1)) (by omega) (by omega),shl_40,zaa,w64 (by omega) (by omega)]
  refine(zfw s2 hu (by unfold I64;omega)).mono fun v1 h1 ⟨e1,w1⟩=>?_
  subst e1 w1
  rw[w64 (n:=(i:Int)+1+1) (by omega) (by omega)]
  have ht:=zbO (zaE u i).2 u (2*((i:Int)+1)*(2*((i:Int)+1)+1)*1099511627776)
  simp only[go_sem]
  by_cases h2:i%2=0
  ·rw[if_pos h2,if_neg (by omega)]at H
   rw[if_pos h2]
   have e1:IntKind.i64.wrap ((zaE u i).1+IntKind.i64.wrap (IntKind.i64.wrap (0-1)*zaQ (zaE u i).2 u (2*((i:Int)+1)*(2*((i:Int)+1)+1)*1099511627776)))=IntKind.i64.wrap ((zaE u i).1-zaQ (zaE u i).2 u (2*((i:Int)+1)*(2*((i:Int)+1)+1)*1099511627776)):=by
    rw[zfG,w64 (n:=0-1) (by omega) (by omega)];congr 1;omega
   rw[e1]
   exact H
  ·rw[if_neg h2,if_pos (by omega)]at H
   rw[if_neg h2]
   have e1:IntKind.i64.wrap ((zaE u i).1+IntKind.i64.wrap (IntKind.i64.wrap (0- -1)*zaQ (zaE u i).2 u (2*((i:Int)+1)*(2*((i:Int)+1)+1)*1099511627776)))=IntKind.i64.wrap ((zaE u i).1+zaQ (zaE u i).2 u (2*((i:Int)+1)*(2*((i:Int)+1)+1)*1099511627776)):=by
    rw[zfG,w64 (n:=0- -1) (by omega) (by omega)];congr 1;omega
   rw[e1]
   exact H
 ·have:i=30:=by omega
  subst this
  exact⟨rfl,trivial⟩
theorem c_Lanczos {h:Heap}{p q:Int}(hp:I64 p)(hq:I64 q):FCall prog zhe #[.int .i64 p,.int .i64 q] h fun r h'=>r=.int .i64 (zh3 p q)∧h'=h:=by
 apply zpg
 unfold zi4
 unfold zh3
 refine(c_May hp hq).mono fun v1 h1 ⟨e1,w1⟩=>?_
 subst e1 w1
 by_cases hm:mayZ p q
 ·have hm':=hm
  unfold mayZ at hm'
  by_cases h0:3*q≤max p (-p)
  ·rw[if_pos (.inr h0)]
   simp only[go_sem,hm]
   refine(znv hp (by omega)).mono fun v1 h1 ⟨e1,w1⟩=>?_
   subst e1 w1
   rw[w64 (n:=3*q) (by omega) (by omega)]
   simp only[go_sem,h0]
   exact⟨by simp,by simp⟩
  ·rw[if_neg (by rintro(h2|h2);exact h2 hm;omega)]
   simp only[go_sem,hm]
   refine(znv hp (by omega)).mono fun v1 h1 ⟨e1,w1⟩=>?_
   subst e1 w1
   rw[w64 (n:=3*q) (by omega) (by omega)]
   simp only[go_sem,h0]
   refine(c_series hp (by omega) hq).mono fun v1 h1 ⟨e1,w1⟩=>?_
   subst e1 w1
   refine(c_series hp (by omega) (by unfold I64;omega)).mono fun v1 h1 ⟨e1,w1⟩=>?_
   subst e1 w1
   refine(c_MulShift (zhV _ _) (zhV _ _) (by unfold I64;omega)).mono fun v1 h1 ⟨e1,w1⟩=>?_
   subst e1 w1
   exact zsR (zh0 _ _ _) (by unfold I64;omega)
 ·rw[if_pos (.inl hm)]
  simp only[go_sem,hm]
  exact⟨by simp,by simp⟩
end Go.Proofs.YtcoimlclclnlkaaGreatDoor
namespace Go.Crisp
open Go
theorem zjS (a b:Int):IntKind.i64.wrap (IntKind.i64.wrap a*b)=IntKind.i64.wrap (a*b):=by
 obtain⟨k,hk⟩:∃k,IntKind.i64.wrap a=a+18446744073709551616*k:=⟨(IntKind.i64.wrap a-a)/18446744073709551616,by rw[zdh];omega⟩
 rw[hk,Int.add_mul,Int.mul_assoc,zdh,zdh]
 generalize k*b=c
 omega
theorem zmS (a b:Int):IntKind.i64.wrap (a*IntKind.i64.wrap b)=IntKind.i64.wrap (a*b):=by
 rw[Int.mul_comm,zjS,Int.mul_comm]
theorem zfK {a b:Int}(ha:I64 a)(hb:0<b):zq8 a b=a/b:=by
 unfold zq8 zpJ diffS holdZ
 rw[if_neg (by omega)]
 unfold I64 at ha
 have e1:(b<0)=False:=eq_false (by omega)
 simp only[e1,decide_false]
 obtain⟨B,rfl⟩:∃B:Nat,b=(B:Int):=⟨b.toNat,by omega⟩
 simp only[Int.natAbs_natCast]
 by_cases h:a<0
 ·simp only[h,decide_true]
  obtain⟨A,rfl⟩:∃A:Nat,a= -(A:Int):=⟨(-a).toNat,by omega⟩
  have e2:(-(A:Int)).natAbs=A:=by omega
  rw[e2]
  have hB:0<B:=by omega
  have hd:=Nat.div_add_mod A B
  have hm:=Nat.mod_lt A hB
  have hle:A/B≤A:=Nat.div_le_self _ _
  simp only[Bool.not_eq_true',beq_eq_false_iff_ne,ne_eq,Bool.true_eq_false,not_false_eq_true,true_and,if_true]
  by_cases hr:A%B=0
  ·rw[if_neg (show¬ ¬A%B=0 from fun h=>h hr),Nat.add_zero]
   have e3: -(A:Int)=(B:Int)* -((A/B:Nat):Int):=by
    have:(A:Int)=(B:Int)*((A/B:Nat):Int):=by exact_mod_cast (by omega:A=B*(A/B))
    rw[Int.mul_neg,←this]
   rw[e3,Int.mul_ediv_cancel_left _ (by omega)]
   split<;>omega
  ·rw[if_pos hr]
   have hB2:2≤B:=by omega
   have h2:=Nat.mul_le_mul_right (A/B) hB2
   have e3: -(A:Int)=((B:Int)-((A%B:Nat):Int))+(B:Int)* -((A/B+1:Nat):Int):=by
    have h3:(A:Int)=(B:Int)*((A/B:Nat):Int)+((A%B:Nat):Int):=by exact_mod_cast hd.symm
    rw[Int.mul_neg,show((A/B+1:Nat):Int)=((A/B:Nat):Int)+1 from rfl,Int.mul_add,Int.mul_one];omega
   rw[e3,Int.add_mul_ediv_left _ _ (by omega),Int.ediv_eq_zero_of_lt (by omega) (by omega)]
   split<;>omega
 ·simp only[h,decide_false]
  obtain⟨A,rfl⟩:∃A:Nat,a=(A:Int):=⟨a.toNat,by omega⟩
  simp only[Int.natAbs_natCast]
  have hbb:(!(false==false))=false:=rfl
  rw[hbb]
  simp only[Bool.false_eq_true,false_and,if_false,Nat.add_zero]
  have hle:A/B≤A:=Nat.div_le_self _ _
  rw[if_neg (by omega)]
  rfl
def mayR (f n m i:Int):Prop:=0≤f∧f<3∧1≤n∧n≤65536∧1≤m∧m≤65536∧0≤i∧i<m
instance (f n m i:Int):Decidable (mayR f n m i):=by unfold mayR;infer_instance
def ceilD (a b:Int):Int:= -(-a/b)
def zaZ (f:Int):Int:=if f=0 then 0 else if f=1 then 2 else 3
def lowW (f n m i:Int):Int:=if f=0 then i*n/m else((2*i+1)*n-m-zaZ f*2*max n m)/(2*m)+1
def highW (f n m i:Int):Int:=if f=0 then ceilD ((i+1)*n) m else ceilD ((2*i+1)*n-m+zaZ f*2*max n m) (2*m)
def cubicZ (p q:Int):Int:=if p≥q then 4*(q*q*q)+5*(p*p*q)-p*p*p-8*(p*q*q)else 3*(p*p*p)-5*(p*p*q)+2*(q*q*q)
def keysZ (p q:Int):Int:=if q<1∨262144<q∨2*q≤p∨p≤ -2*q then 0 else zaQ (IntKind.i64.wrap (cubicZ (max p (-p)) q)) 1073741824 (IntKind.i64.wrap (2*(q*q*q)))
theorem keysZ_I64 (p q:Int):I64 (keysZ p q):=by
 unfold keysZ
 split
 ·unfold I64;omega
 ·exact zbO _ _ _
def zlr (f n m i j:Int):Int:=
 if f=0 then zaQ (min ((i+1)*n) ((j+1)*m)-max (i*n) (j*m)) 1073741824 n
 else if f=1 then keysZ (2*m*j-(2*i+1)*n+m) (2*max n m)
 else zh3 (2*m*j-(2*i+1)*n+m) (2*max n m)
theorem weighZ_I64 (f n m i j:Int):I64 (zlr f n m i j):=by
 unfold zlr
 split
 ·exact zbO _ _ _
 split
 ·exact keysZ_I64 _ _
 ·exact lanczosZ_I64 _ _
def rowW (f n m i:Int):List Int:=(List.range (highW f n m i-lowW f n m i).toNat).map fun k:Nat=>zlr f n m i (lowW f n m i+k)
theorem zf8 {a A b B:Int}(h0:0≤a)(h1:a≤A)(h2:0≤b)(h3:b≤B):0≤a*b∧a*b≤A*B:=
 ⟨Int.mul_nonneg h0 h2,Int.mul_le_mul h1 h3 h2 (by omega)⟩
theorem zsr {a A b B:Int}(h0: -A≤a)(h1:a≤A)(h2:0≤b)(h3:b≤B): -(A*B)≤a*b∧a*b≤A*B:=by
 have hA:0≤A:=by omega
 rcases Int.le_total 0 a with h|h
 ·have:=zf8 h h1 h2 h3
  have h4:0≤A*B:=Int.mul_nonneg hA (by omega)
  omega
 ·have:=zf8 (a:= -a) (A:=A) (by omega) (by omega) h2 h3
  rw[Int.neg_mul]at this
  have h4:0≤A*B:=Int.mul_nonneg hA (by omega)
  omega
theorem zgX {a b L U:Int}(hb:1≤b)(h1: -L≤a)(h2:a≤U)(hL:0≤L)(hU:0≤U): -L≤a/b∧a/b≤U:=by
 constructor
 ·rw[Int.le_ediv_iff_mul_le (by omega)]
  have: -L*b≤ -L*1:=Int.mul_le_mul_of_nonpos_left (by omega) hb
  omega
 ·apply Int.le_of_lt_add_one
  rw[Int.ediv_lt_iff_lt_mul (by omega)]
  have:(U+1)*1≤(U+1)*b:=Int.mul_le_mul_of_nonneg_left hb (by omega)
  omega
structure MayB (f n m i:Int):Prop where
 inb:0≤i*n∧i*n≤4294967296
 in1:(i+1)*n=i*n+n
 tin:(2*i+1)*n=2*(i*n)+n
 rr:zaZ f*2*max n m=2*(zaZ f*max n m)
 rb:0≤zaZ f*max n m∧zaZ f*max n m≤196608
theorem mayB {f n m i:Int}(h:mayR f n m i):MayB f n m i:=by
 obtain⟨f0,f1,n0,n1,m0,m1,i0,i1⟩:=h
 have:=zf8 (a:=i) (A:=65536) (b:=n) (B:=65536) (by omega) (by omega) (by omega) (by omega)
 have hr:0≤zaZ f∧zaZ f≤3:=by unfold zaZ;split;omega;split<;>omega
 have:=zf8 (a:=zaZ f) (A:=3) (b:=max n m) (B:=65536) hr.1 hr.2 (by omega) (by omega)
 exact⟨by omega,by rw[Int.add_mul,Int.one_mul],by rw[Int.add_mul,Int.one_mul,Int.mul_assoc],by rw[Int.mul_right_comm,Int.mul_comm],by omega⟩
theorem low_bd {f n m i:Int}(h:mayR f n m i): -1048576*65536≤lowW f n m i∧lowW f n m i≤1048576*65536∧ -1048576*65536≤highW f n m i∧highW f n m i≤1048576*65536:=by
 have hb:=mayB h
 obtain⟨b1,b2,b3,b4,b5⟩:=hb
 obtain⟨f0,f1,n0,n1,m0,m1,i0,i1⟩:=h
 unfold lowW highW ceilD
 split
 ·have h1:=zgX (a:=i*n) (b:=m) (L:=0) (U:=4294967296) (by omega) (by omega) (by omega) (by omega) (by omega)
  have h2:=zgX (a:= -((i+1)*n)) (b:=m) (L:=4295032832) (U:=0) (by omega) (by omega) (by omega) (by omega) (by omega)
  omega
 ·rw[b3,b4]
  have h1:=zgX (a:=2*(i*n)+n-m-2*(zaZ f*max n m)) (b:=2*m) (L:=8591000000) (U:=8591000000) (by omega) (by omega) (by omega) (by omega) (by omega)
  have h2:=zgX (a:= -(2*(i*n)+n-m+2*(zaZ f*max n m))) (b:=2*m) (L:=8591000000) (U:=8591000000) (by omega) (by omega) (by omega) (by omega) (by omega)
  omega
def New {α:Type}(e:Rp α)(h h':Heap)(v:Value)(l:List α):Prop:=Rp.Ow e (fun _=>False) h' v l∧Ext h h'∧∀b,blk v b→h.size≤b
theorem New.nil {α:Type}{e:Rp α}{h h':Heap}(k:Ext h h'):New e h h' (.slice none 0 0) []:=⟨Rp.Ow.nil,k,fun b hb=>hb.elim⟩
theorem New.ext {α:Type}{e:Rp α}{h h' h2:Heap}{v:Value}{l:List α}(H:New e h h' v l)(k:Ext h' h2):New e h h2 v l:=⟨H.1.ext k,H.2.1.trans k,H.2.2⟩
theorem New.before {α:Type}{e:Rp α}{h0 h h':Heap}{v:Value}{l:List α}(H:New e h h' v l)(k:Ext h0 h):New e h0 h' v l:=⟨H.1,k.trans H.2.1,fun b hb=>Nat.le_trans k.1 (H.2.2 b hb)⟩
theorem New.sl {α:Type}{e:Rp α}{h h':Heap}{v:Value}{l:List α}(H:New e h h' v l):Rp.Sl e (blk v) h' v l:=H.1.sl.mono fun b _ hb=>hb.elim False.elim id
theorem New.isSl {α:Type}{e:Rp α}{h h':Heap}{v:Value}{l:List α}(H:New e h h' v l):∃a cap,v=.slice a l.length cap:=H.1.isSl
theorem New.push {α:Type}{e:Rp α}{z z' c:Value}{t t':TypeId}{bytes:Nat}{h h1:Heap}{v:Value}{l:List α}{x:α}{K:Value→Heap→Prop}(hw:e.w=1)(H:New e h h1 v l)
  (hx:e.R (fun _=>False) h1 [c] x) (hz:z.cells.size=1) (hb:(l.length+1)*bytes≤140737488355328) (hn:l.length+1≤9223372036854775807)
  (HK:∀s' h',New e h h' s' (l++[x])→K s' h'):rowK #[z'] t 1 [(0,1,c)] h1 fun v2 h3=>appK z t' 1 bytes v v2 h3 K:=by
 refine Rp.push_ow1 hw H.1 hx hz hb hn (fun b hb=>hb.elim) fun s' h' o' f' n'=>HK s' h' ⟨o',H.2.1.then_fr f' H.2.2,fun b hb=>?_⟩
 rcases n' b hb with h1|h1
 ·exact H.2.2 b h1
 ·exact Nat.le_trans H.2.1.1 h1
theorem New.push_int {k:IntKind}{z z':Value}{t t':TypeId}{bytes:Nat}{h h1:Heap}{v:Value}{l:List Int}{x:Int}{K:Value→Heap→Prop}(H:New (Rp.int k) h h1 v l)
  (hz:z.cells.size=1) (hb:(l.length+1)*bytes≤140737488355328) (hn:l.length+1≤9223372036854775807)
  (HK:∀s' h',New (Rp.int k) h h' s' (l++[x])→K s' h'):rowK #[z'] t 1 [(0,1,.int k x)] h1 fun v2 h3=>appK z t' 1 bytes v v2 h3 K:=
 H.push rfl rfl hz hb hn HK
theorem Rp.Sl.int_at {k:IntKind}{Z:Nat→Prop}{h:Heap}{v:Value}{l:List Int}(H:Rp.Sl (Rp.int k) Z h v l){k':IntKind}{i:Nat}(hi:i<l.length):∃p,idxV 1 v (.int k' (i:Int))=some p∧ldV h p=some (.int k l[i]):=by
 obtain⟨p,c,h1,h2,h3⟩:=H.at1 rfl (k:=k') hi
 have h3:[c]=[Value.int k l[i]]:=h3
 cases h3
 exact⟨p,h1,h2⟩
theorem znA (k:IntKind)(i d most:Nat)(h:i≤most):bdV (some (.int k (i:Int))) d most=some i:=by
 show(if 0≤(i:Int)∧(i:Int)≤(most:Int)then some (i:Int).toNat else none)=_
 rw[if_pos (by omega),Int.toNat_natCast]
theorem SlC.part {w:Nat}{h:Heap}{v:Value}{n:Nat}{cs:List Value}(H:SlC w h v n cs){lo hi:Nat}(h1:lo≤hi)(h2:hi≤n){a:Option Addr}{cap:Nat}(hv:v=.slice a n cap)(hc:n≤cap):
  SlC w h (.slice (if cap=lo then a else a.map (·.add (lo*w))) (hi-lo) (cap-lo)) (hi-lo) ((cs.drop (lo*w)).take ((hi-lo)*w)):=by
 subst hv
 obtain⟨hl,a',cap',e,H⟩:=H
 cases e
 have hm:lo*w+(hi-lo)*w=hi*w:=by rw[←Nat.add_mul];congr 1;omega
 have hm2:hi*w≤n*w:=Nat.mul_le_mul_right w h2
 refine⟨by rw[List.length_take,List.length_drop];omega,_,_,rfl,?_⟩
 by_cases he:(cs.drop (lo*w)).take ((hi-lo)*w)=[]
 ·exact .inl he
 ·refine .inr ?_
  rcases H with rfl|⟨b,o,rfl,H⟩
  ·exact absurd (by simp) he
  ·have hne:cap≠lo:=by
    intro e
    have h0:(hi-lo)*w=0:=by rw[show hi-lo=0 by omega,Nat.zero_mul]
    exact he (by rw[h0];rfl)
   rw[if_neg hne]
   refine⟨b,o+lo*w,by rw[Option.map_some,zgg],fun j hj=>?_⟩
   rw[List.length_take,List.length_drop]at hj
   have:=H (lo*w+j) (by omega)
   rw[←Nat.add_assoc]at this
   rw[this,List.getElem_take,List.getElem_drop]
theorem slc_front {h:Heap}{v:Value}{n:Nat}{cs:List Value}(w:Nat)(H:Own w h v n cs){k:IntKind}{hi:Nat}(h2:hi≤n):∃v',slcV w v none (some (.int k (hi:Int)))=some v'∧SlC w h v' hi (cs.take (hi*w))∧∀b,blk v' b→blk v b:=by
 have hc:∃a cap,v=.slice a n cap∧n≤cap:=by
  rcases H with⟨rfl,rfl,_⟩|⟨b,cap,r,e,rfl,hc,_⟩
  ·exact⟨none,0,rfl,Nat.le_refl _⟩
  ·exact⟨_,cap,rfl,hc⟩
 obtain⟨a,cap,e,hc⟩:=hc
 have:=H.sl.part (Nat.zero_le hi) h2 e hc
 subst e
 refine⟨_,?_,by simpa using this,fun b hb=>?_⟩
 ·simp only[slcV,znA k hi n cap (show hi≤cap by omega)]
  simp only[bdV,Nat.zero_mul,Nat.sub_zero]
 ·cases a with
  |none=>simp at hb;exact hb
  | some a=>
   split at hb
   ·exact hb
   ·simp only[Option.map_some]at hb
    have e:(a.add 0).block=a.block:=by unfold Addr.add;split<;>rfl
    rw[show b=(a.add 0).block from hb,e];rfl
theorem cpy_tail {h:Heap}{v s:Value}{n m k:Nat}{cs ds:List Value}(H:Own 1 h v n cs)(hm:m<n)(hs:SlC 1 h s k ds)(ho:∀x∈ds,zam x=true){kk:IntKind}:
  ∃d,slcV 1 v (some (.int kk (m:Int))) none=some d∧∀K:Value→Heap→Prop,(∀h',Own 1 h' v n (cs.take m++ds.take (n-m)++cs.drop (m+k))→Fr (blk v) h h'→K (.int .i64 (Nat.min k (n-m):Nat)) h')→cpyK 1 d s h K:=by
 have hxl:=hs.load_some (k:=Nat.min k (n-m)) (Nat.min_le_left ..)
 obtain⟨hdl,a',cap',rfl,hx'⟩:=hs
 rcases H with⟨rfl,rfl,rfl⟩|⟨b,cap,r,e,rfl,hc,hl,hr,hb⟩
 ·omega
 ·refine⟨.slice (some ⟨b,m,none⟩) (n-m) (cap-m),?_,fun K HK=>?_⟩
  ·simp only[slcV,znA kk m 0 cap (show m≤cap by omega)]
   have hne:¬cap=m:=by omega
   have e0:bdV (some (Value.int kk (m:Int))) 0 n=some m:=znA kk m 0 n (by omega)
   simp only[bdV,e0,if_neg hne,Option.map_some,zgg,Nat.zero_add,Nat.mul_one]
   rw[if_pos (by omega)]
   simp
   exact fun hh=>absurd hh hne
  ·unfold cpyK
   simp only[lenN]
   rw[hxl]
   have hte:ds.take (Nat.min k (n-m)*1)=ds.take (n-m):=by
    rw[Nat.mul_one]
    rcases Nat.le_total k (n-m)with h1|h1
    ·rw[show Nat.min k (n-m)=k from Nat.min_eq_left h1,List.take_of_length_le (by omega),List.take_of_length_le (by omega)]
    ·rw[show Nat.min k (n-m)=n-m from Nat.min_eq_right h1]
   rw[hte]
   have hle:(ds.take (n-m)).length≤n-m:=by rw[List.length_take];omega
   have hst:=zfJ (o:=m) (ds.take (n-m)) 0 h _ hb (by simp;omega) (fun v hv=>ho v (List.mem_of_mem_take hv))
   simp only[hst]
   have hsp:cs++r=cs.take m++(cs.drop m++r):=by rw[←List.append_assoc,List.take_append_drop]
   have lt:(cs.take m).length=m:=by rw[List.length_take];omega
   have hw:=zry (ds.take (n-m)) (cs.take m) (cs.drop m++r) (by rw[List.length_append,List.length_drop];omega)
   rw[←hsp,lt]at hw
   rw[Nat.add_zero,hw]
   refine HK _ (.inr ⟨b,cap,r,e,rfl,hc,?_,?_,?_⟩) Upd.set.fr
   ·simp only[List.length_append,List.length_take,List.length_drop];omega
   ·simp only[List.length_append,List.length_take,List.length_drop]at hr ⊢;omega
   ·rw[zf2 hb]
    congr 3
    rw[List.append_assoc,List.append_assoc,List.append_assoc]
    congr 2
    rw[List.length_take,List.drop_append]
    rcases Nat.le_total k (n-m)with h1|h1
    ·rw[List.drop_drop,show min (n-m) ds.length=k by omega,List.length_drop,show k-(cs.length-m)=0 by omega,List.drop_zero]
    ·rw[List.drop_drop,show min (n-m) ds.length=n-m by omega,List.length_drop,show n-m-(cs.length-m)=0 by omega,List.drop_zero,List.drop_eq_nil_of_le (show cs.length≤m+(n-m)by omega),List.drop_eq_nil_of_le (show cs.length≤m+k by omega)]
theorem Rp.Sl.part {α:Type}{e:Rp α}{Z:Nat→Prop}{h:Heap}{v:Value}{l:List α}(H:Rp.Sl e Z h v l){lo hi:Nat}(h1:lo≤hi)(h2:hi≤l.length){a:Option Addr}{n cap:Nat}(hv:v=.slice a n cap)(hc:n≤cap){k k':IntKind}:
  ∃v',slcV e.w v (some (.int k (lo:Int))) (some (.int k' (hi:Int)))=some v'∧Rp.Sl e Z h v' ((l.drop lo).take (hi-lo)):=by
 obtain⟨ds,hs,hz,he⟩:=H
 obtain⟨a',cap',e'⟩:=hs.isSl
 rw[e']at hv
 cases hv
 have hP:=hs.part h1 h2 e' hc
 subst e'
 have hlen:((l.drop lo).take (hi-lo)).length=hi-lo:=by rw[List.length_take,List.length_drop];omega
 refine⟨_,?_,(ds.drop (lo*e.w)).take ((hi-lo)*e.w),by rw[hlen];exact hP,fun hne b hb=>?_,fun i hi'=>?_⟩
 ·simp only[slcV,znA k' hi _ cap (show hi≤cap by omega),znA k lo 0 hi h1]
 ·have hds:ds≠[]:=fun h0=>hne (by rw[h0];simp)
  refine hz hds b ?_
  cases a with
  |none=>simp only[Option.map_none,ite_self]at hb;exact hb
  | some a=>
   split at hb
   ·exact hb
   ·simp only[Option.map_some]at hb
    have ea:(a.add (lo*e.w)).block=a.block:=by unfold Addr.add;split<;>rfl
    rw[show b=(a.add (lo*e.w)).block from hb,ea];rfl
 ·have hi'':lo+i<l.length:=by rw[hlen]at hi';omega
  have:=he (lo+i) hi''
  rw[List.getElem_take,List.getElem_drop]
  have e2:Rp.el e.w ((ds.drop (lo*e.w)).take ((hi-lo)*e.w)) i=Rp.el e.w ds (lo+i):=by
   show(((ds.drop (lo*e.w)).take ((hi-lo)*e.w)).drop (i*e.w)).take e.w=(ds.drop ((lo+i)*e.w)).take e.w
   have hm:i*e.w+e.w≤(hi-lo)*e.w:=by rw[←Nat.succ_mul];exact Nat.mul_le_mul_right _ (by rw[hlen]at hi';exact hi')
   rw[List.drop_take,List.drop_drop,List.take_take,Nat.min_eq_left (by omega),←Nat.add_mul]
  rw[e2]
  exact this
def S (l:List UInt8):Value:=.string ⟨⟨l⟩⟩
theorem S_lit (l:List UInt8):Value.string ⟨l.toArray⟩=S l:=rfl
theorem S_nil:Value.string ⟨#[]⟩=S []:=rfl
theorem one_S (l:List UInt8):zam (S l)=true:=rfl
theorem zsY (a b:List UInt8):binV .s .eql (S a) (S b)=some (.bool (decide (a=b))):=by
 show some (Value.bool ((ByteArray.mk (Array.mk a)).toList==(ByteArray.mk (Array.mk b)).toList))=_
 rw[ByteArray.toList_eq,ByteArray.toList_eq]
 congr 2
 by_cases h:a=b
 ·subst h;simp
 ·rw[decide_eq_false h];simpa using h
theorem zsX (a b:List UInt8):binV .s .neq (S a) (S b)=some (.bool (!decide (a=b))):=by
 show some (Value.bool (!((ByteArray.mk (Array.mk a)).toList==(ByteArray.mk (Array.mk b)).toList)))=_
 rw[ByteArray.toList_eq,ByteArray.toList_eq]
 congr 3
 by_cases h:a=b
 ·subst h;simp
 ·rw[decide_eq_false h];simpa using h
theorem lenS (l:List UInt8):zq1 (S l)=some (.int .i64 l.length):=rfl
namespace Rp
def bs:Rp (List UInt8) where
 w:=1
 R:=fun _ _ cs n=>cs=[S n]
 len:=by rintro _ _ _ _ rfl;rfl
 one:=by rintro _ _ _ _ rfl;simp[one_S]
 fr:=fun H _ _=>H
 mono:=fun H _=>H
end Rp
attribute [go_sem] S_lit zsY zsX lenS
end Go.Crisp
namespace Go.Proofs.YtcoimlclclnlkaaGreatDoor
open Go Go.Crisp
attribute [local irreducible] FCall rowK newK stK iteK vK qK drawK gK joinK loopK mkK appK cpyK
open _root_.Go.Proofs.Tryz
def bName (b:Int):List UInt8:=if b=0 then[99,108,97,109,112]else if b=1 then[109,105,114,114,111,114]else if b=2 then[119,114,97,112]else[]
def fName (b:Int):List UInt8:=if b=0 then[98,111,120]else if b=1 then[99,117,98,105,99]else if b=2 then[108,97,110,99,122,111,115]else[]
theorem zof {h:Heap}(G:GlobB h){b:Int}:
  FCall prog zfF #[.int .i64 b] h fun r h'=>r=S (bName b)∧h'=h:=by
 apply zqC
 unfold zkO
 obtain⟨v,hv,H⟩:=G.names
 obtain⟨a,cap,rfl⟩:=H.isSl
 simp only[go_sem,hv]
 refine zac (fun h1=>?_) (fun h1=>?_)
 ·refine⟨?_,trivial⟩
  unfold bName
  rw[if_neg (by omega),if_neg (by omega),if_neg (by omega)]
 ·obtain⟨n,rfl⟩:∃n:Nat,b=(n:Int):=⟨b.toNat,by omega⟩
  obtain⟨p,hp,hl⟩:=H.at1 (k:=.i64) (i:=n) (by omega)
  simp only[go_sem,hp,hl]
  refine⟨?_,trivial⟩
  have hn:n<3:=by omega
  have key:∀(i:Nat) (hi:i< [Value.string (zc4 0),Value.string (zc4 1),Value.string (zc4 2)].length),[Value.string (zc4 0),Value.string (zc4 1),Value.string (zc4 2)][i]=S (bName (i:Int)):=fun i hi=>by
   match i,hi with
   |0,_=>rfl
   |1,_=>rfl
   |2,_=>rfl
  exact key n _
theorem c_rawName {h:Heap}(G:GlobB h){b:Int}:
  FCall prog zj6 #[.int .i64 b] h fun r h'=>r=S (fName b)∧h'=h:=by
 apply ok_raw_Name
 unfold zoV
 simp only[go_sem]
 refine zac (fun h1=>?_) (fun h1=>?_)
 ·refine⟨?_,trivial⟩
  unfold fName
  rw[if_neg (by omega),if_neg (by omega),if_neg (by omega)]
 ·obtain⟨n,rfl⟩:∃n:Nat,b=(n:Int):=⟨b.toNat,by omega⟩
  have hn:n<3:=by omega
  have hk:=(G.kinds n hn).1
  have e:idxaV 3 2 (.pointer (some ⟨zbw,0,none⟩)) (.int .i64 (n:Int))=some (.pointer (some ⟨zbw,2*n,none⟩)):=by
   show(if 0≤(n:Int)∧(n:Int)<((3:Nat):Int)then some (Value.pointer (some ((⟨zbw,0,none⟩:Addr).add ((n:Int).toNat*2))))else none)=_
   rw[if_pos (by omega),zgg,Int.toNat_natCast,Nat.zero_add,Nat.mul_comm]
  simp only[go_sem,e,Nat.add_zero,hk]
  refine⟨?_,trivial⟩
  clear h1 hk e
  match n,hn with
  |0,_=>rfl
  |1,_=>rfl
  |2,_=>rfl
end Go.Proofs.YtcoimlclclnlkaaGreatDoor
namespace Go.Proofs.YtcoimlclclnlkaaGreatDoor
open Go Go.Crisp
attribute [local irreducible] FCall rowK newK stK iteK vK qK drawK gK joinK loopK mkK appK cpyK zoB zmd bsK
open _root_.Go.Proofs.Tryz
theorem c_rawMay {h:Heap}{f n m i:Int}:FCall prog zp4 #[.int .i64 f,.int .i64 n,.int .i64 m,.int .i64 i] h fun r h'=>r=.bool (decide (mayR f n m i))∧h'=h:=by
 apply ok_raw_may
 unfold zqL
 try simp only[go_sem]
 refine⟨?_,trivial⟩
 congr 1
 rw[decide_eq_decide]
 unfold mayR
 omega
theorem c_ceil {h:Heap}{a b:Int}(ha: -9223372036854775807≤a∧a≤9223372036854775807)(hb:0<b)(hb2:I64 b):FCall prog zj5 #[.int .i64 a,.int .i64 b] h fun r h'=>r=.int .i64 (ceilD a b)∧h'=h:=by
 apply ok_raw_ceil
 unfold zoU
 try simp only[go_sem]
 rw[w64 (by omega) (by omega),Int.zero_sub]
 have hi:I64 (-a):=by unfold I64;omega
 refine(zsT hi hb2).mono fun v1 h1 ⟨e1,w1⟩=>?_
 subst e1 w1
 try simp only[go_sem]
 rw[zfK hi hb]
 have:=zgX (a:= -a) (b:=b) (L:=9223372036854775807) (U:=9223372036854775807) (by omega) (by omega) (by omega) (by omega) (by omega)
 rw[w64 (by omega) (by omega),Int.zero_sub]
 exact⟨rfl,trivial⟩
theorem reach_cell {h:Heap}(G:GlobB h){f:Int}(f0:0≤f)(f1:f<3):∃p,idxaV 3 2 (.pointer (some ⟨zbw,0,none⟩)) (.int .i64 f)=some (.pointer (some ⟨zbw,p,none⟩))∧zah h ⟨zbw,p+1,none⟩=some (.int .i64 (zaZ f)):=by
 obtain⟨n,rfl⟩:∃n:Nat,f=(n:Int):=⟨f.toNat,by omega⟩
 have hn:n<3:=by omega
 refine⟨2*n,?_,?_⟩
 ·show(if 0≤(n:Int)∧(n:Int)<((3:Nat):Int)then some (Value.pointer (some ((⟨zbw,0,none⟩:Addr).add ((n:Int).toNat*2))))else none)=_
  rw[if_pos (by omega),zgg,Int.toNat_natCast,Nat.zero_add,Nat.mul_comm]
 ·rw[(G.kinds n hn).2]
  match n,hn with
  |0,_=>rfl
  |1,_=>rfl
  |2,_=>rfl
def winV (f n m i:Int):Value:=if mayR f n m i then .tuple #[.int .i64 (lowW f n m i),.int .i64 (highW f n m i-lowW f n m i)]else .tuple #[.int .i64 0,.int .i64 0]
theorem c_Window {h:Heap}(G:GlobB h){f n m i:Int}:FCall prog zjH #[.int .i64 f,.int .i64 n,.int .i64 m,.int .i64 i] h fun r h'=>r=winV f n m i∧h'=h:=by
 apply zsd
 unfold zlT winV
 refine c_rawMay.mono fun v1 h1 ⟨e1,w1⟩=>?_
 subst e1 w1
 try simp only[go_sem]
 refine zac (fun h0=>?_) (fun h0=>?_)
 ·rw[if_neg h0];exact⟨rfl,trivial⟩
 have hm:mayR f n m i:=Decidable.of_not_not h0
 rw[if_pos hm]
 have hlb:=low_bd hm
 have hb:=mayB hm
 obtain⟨b1,b2,b3,b4,b5⟩:=hb
 obtain⟨f0,f1,n0,n1,m0,m1,i0,i1⟩:=hm
 have hm64:I64 m:=by unfold I64;omega
 rw[w64 (n:=i*n) (by omega) (by omega)]
 refine(zsT (by unfold I64;omega) hm64).mono fun v1 h1 ⟨e1,w1⟩=>?_
 subst e1 w1
 rw[zfK (by unfold I64;omega) (by omega)]
 try simp only[go_sem]
 rw[w64 (n:=i+1) (by omega) (by omega),w64 (n:=(i+1)*n) (by omega) (by omega)]
 refine(c_ceil (by omega) (by omega) hm64).mono fun v1 h1 ⟨e1,w1⟩=>?_
 subst e1 w1
 try simp only[go_sem]
 unfold lowW highW at hlb ⊢
 refine zac (fun hf=>?_) (fun hf=>?_)
 ·have hf:f≠0:=hf
  rw[if_neg hf,if_neg hf]at*
  obtain⟨p,hp1,hp2⟩:=reach_cell G f0 f1
  simp only[go_sem,hp1,hp2]
  have hr:0≤zaZ f∧zaZ f≤3:=by unfold zaZ;split;omega;split<;>omega
  rw[w64 (n:=2*i) (by omega) (by omega),w64 (n:=2*i+1) (by omega) (by omega),w64 (n:=(2*i+1)*n) (by omega) (by omega),w64 (n:=(2*i+1)*n-m) (by omega) (by omega),w64 (n:=zaZ f*2) (by omega) (by omega),
   w64 (n:=zaZ f*2*max n m) (by omega) (by omega),w64 (n:=(2*i+1)*n-m-zaZ f*2*max n m) (by omega) (by omega),w64 (n:=2*m) (by omega) (by omega)]
  refine(zsT (by unfold I64;omega) (by unfold I64;omega)).mono fun v1 h1 ⟨e1,w1⟩=>?_
  subst e1 w1
  rw[zfK (by unfold I64;omega) (by omega)]
  try simp only[go_sem]
  rw[w64 (n:=((2*i+1)*n-m-zaZ f*2*max n m)/(2*m)+1) (by omega) (by omega),w64 (n:=(2*i+1)*n-m+zaZ f*2*max n m) (by omega) (by omega)]
  refine(c_ceil (by omega) (by omega) (by unfold I64;omega)).mono fun v1 h1 ⟨e1,w1⟩=>?_
  subst e1 w1
  try simp only[go_sem]
  rw[w64 (by omega) (by omega)]
  exact⟨rfl,trivial⟩
 ·have hf:f=0:=Decidable.of_not_not hf
  rw[if_pos hf,if_pos hf]at*
  rw[w64 (by omega) (by omega)]
  exact⟨rfl,trivial⟩
theorem c_Keys {h:Heap}{p q:Int}(hp: -4611686018427387904≤p∧p≤4611686018427387904)(hq:I64 q):FCall prog zhO #[.int .i64 p,.int .i64 q] h fun r h'=>r=.int .i64 (keysZ p q)∧h'=h:=by
 apply ok_raw_Keys
 unfold zoW
 try simp only[go_sem]
 unfold keysZ
 have e0:(((q<1∨262144<q)∨IntKind.i64.wrap (2*q)≤p)∨p≤IntKind.i64.wrap (-2*q))↔(q<1∨262144<q∨2*q≤p∨p≤ -2*q):=by
  unfold I64 at hq
  by_cases hc:q<1∨262144<q
  ·omega
  ·rw[w64 (n:=2*q) (by omega) (by omega),w64 (n:= -2*q) (by omega) (by omega)];omega
 refine zac (fun h0=>?_) (fun h0=>?_)
 ·rw[if_pos (e0.1 h0)];exact⟨rfl,trivial⟩
 rw[if_neg fun hh=>h0 (e0.2 hh)]
 have e1:IntKind.i64.wrap (0-p)= -p:=by rw[w64 (by omega) (by omega)];omega
 rw[e1]
 generalize max p (-p)=a
 simp only[zjS,zmS,zhk,zfG,zjR,zmR]
 have e2:2*q*q*q=2*(q*q*q):=by grind
 rw[e2]
 unfold cubicZ
 refine zac (fun h1=>?_) (fun h1=>?_)
 ·rw[if_pos h1]
  have e3:(0-a)*a*a+5*a*a*q-8*a*q*q+4*q*q*q=4*(q*q*q)+5*(a*a*q)-a*a*a-8*(a*q*q):=by grind
  rw[e3]
  exact zfw (zdn _) (by unfold I64;omega) (zdn _)
 ·rw[if_neg h1]
  have e3:3*a*a*a-5*a*a*q+2*(q*q*q)=3*(a*a*a)-5*(a*a*q)+2*(q*q*q):=by grind
  rw[e3]
  exact zfw (zdn _) (by unfold I64;omega) (zdn _)
theorem c_weigh {h:Heap}{f n m i j:Int}(hm:mayR f n m i)(hj: -1048576*65536≤j∧j≤1048576*65536):FCall prog zlm #[.int .i64 f,.int .i64 n,.int .i64 m,.int .i64 i,.int .i64 j] h fun r h'=>r=.int .i64 (zlr f n m i j)∧h'=h:=by
 apply ok_raw_weigh
 unfold znW
 try simp only[go_sem]
 have hb:=mayB hm
 obtain⟨b1,b2,b3,b4,b5⟩:=hb
 obtain⟨f0,f1,n0,n1,m0,m1,i0,i1⟩:=hm
 unfold zlr
 have hjm:=zsr (a:=j) (A:=1048576*65536) (b:=m) (B:=65536) (by omega) (by omega) (by omega) (by omega)
 have hj1:(j+1)*m=j*m+m:=by rw[Int.add_mul,Int.one_mul]
 have hj2:2*m*j=2*(j*m):=by rw[Int.mul_assoc,Int.mul_comm m j]
 refine zac (fun hf=>?_) (fun hf=>?_)
 ·rw[if_pos hf]
  rw[w64 (n:=i+1) (by omega) (by omega),w64 (n:=(i+1)*n) (by omega) (by omega),w64 (n:=j+1) (by omega) (by omega),w64 (n:=(j+1)*m) (by omega) (by omega),w64 (n:=i*n) (by omega) (by omega),w64 (n:=j*m) (by omega) (by omega),w64 (by omega) (by omega)]
  exact zfw (by unfold I64;omega) (by unfold I64;omega) (by unfold I64;omega)
 rw[if_neg hf,w64 (n:=2*m) (by omega) (by omega),w64 (n:=2*m*j) (by omega) (by omega),w64 (n:=2*i) (by omega) (by omega),w64 (n:=2*i+1) (by omega) (by omega),w64 (n:=(2*i+1)*n) (by omega) (by omega),
  w64 (n:=2*m*j-(2*i+1)*n) (by omega) (by omega),w64 (n:=2*m*j-(2*i+1)*n+m) (by omega) (by omega),w64 (n:=2*max n m) (by omega) (by omega)]
 refine zac (fun hf1=>?_) (fun hf1=>?_)
 ·rw[if_pos hf1]
  exact c_Keys (by omega) (by unfold I64;omega)
 ·rw[if_neg hf1]
  exact c_Lanczos (by unfold I64;omega) (by unfold I64;omega)
def zbD (f n m i:Int):Int:=if mayR f n m i then lowW f n m i else 0
def zbb (f n m i:Int):List Int:=if mayR f n m i then rowW f n m i else[]
theorem zey {β:Type}(g:Nat→β)(n k:Nat)(h:k<n):((List.range n).map g).take (k+1)=((List.range n).map g).take k++[g k]:=by
 rw[List.take_succ_eq_append_getElem (by simpa using h)]
 simp
theorem c_rawRow {h:Heap}(G:GlobB h){f n m i:Int}:FCall prog zmQ #[.int .i64 f,.int .i64 n,.int .i64 m,.int .i64 i] h fun r h'=>
  ∃v,r=.tuple #[.int .i64 (zbD f n m i),v]∧New (Rp.int .i64) h h' v (zbb f n m i):=by
 apply ok_raw_Row
 unfold zqM
 refine(c_Window G).mono fun v1 h1 ⟨e1,w1⟩=>?_
 subst e1 w1
 unfold zbD zbb winV
 by_cases hm:mayR f n m i
 ·rw[if_pos hm,if_pos hm,if_pos hm]
  try simp only[go_sem]
  have hlb:=low_bd hm
  obtain⟨N,hN⟩:∃N,N=(highW f n m i-lowW f n m i).toNat:=⟨_,rfl⟩
  refine zaF N 0 (fun k v=>[v,.int .i64 (k:Int)]) (fun k v h'=>New (Rp.int .i64) h1 h' v ((rowW f n m i).take k)) (.slice none 0 0) rfl (Nat.zero_le _) (New.nil (Ext.refl _)) fun k v h2 again ρj _ hk hI H=>?_
  try simp only[go_sem]
  have hl:(rowW f n m i).length=N:=by unfold rowW;rw[List.length_map,List.length_range,hN]
  refine zac (fun h0=>?_) (fun h0=>?_)
  ·rw[w64 (n:=lowW f n m i+(k:Int)) (by omega) (by omega)]
   refine(c_weigh hm (by omega)).mono fun v2 h3 ⟨e2,w2⟩=>?_
   subst e2 w2
   have hlen:((rowW f n m i).take k).length=k:=by rw[List.length_take];omega
   refine hI.push_int rfl (by rw[hlen];omega) (by rw[hlen];omega) fun s' h' H'=>?_
   try simp only[go_sem]
   rw[w64 (by omega) (by omega)]
   have:=H s' h' (by omega) (by
    have e:=zey (fun k:Nat=>zlr f n m i (lowW f n m i+k)) (highW f n m i-lowW f n m i).toNat k (by omega)
    unfold rowW at H' ⊢
    rw[e]
    exact H')
   exact this
  ·rw[List.take_of_length_le (by omega)]at hI
   exact⟨v,rfl,hI⟩
 ·rw[if_neg hm,if_neg hm,if_neg hm]
  try simp only[go_sem]
  refine zeh (fun k=>[.slice none 0 0,.int .i64 (k:Int)]) 0 0 rfl (Nat.le_refl _) fun k again ρj _ hk _=>?_
  have:k=0:=by omega
  subst this
  try simp only[go_sem]
  refine zac (fun h0=>absurd h0 (by omega)) (fun h0=>?_)
  exact⟨_,rfl,New.nil (Ext.refl _)⟩
end Go.Proofs.YtcoimlclclnlkaaGreatDoor
namespace Go.Crisp
def lead (r:Nat→Int)(i j:Nat):Prop:=r j<r i∨(r i=r j∧i<j)
instance (r:Nat→Int)(i j:Nat):Decidable (lead r i j):=by unfold lead;exact inferInstance
theorem zpB (r:Nat→Int)(i:Nat):¬lead r i i:=by unfold lead;omega
theorem zdE {r:Nat→Int}{i j k:Nat}(h1:lead r i j)(h2:lead r j k):lead r i k:=by unfold lead at*;omega
theorem zdF (r:Nat→Int){i j:Nat}(h:i≠j):lead r i j∨lead r j i:=by unfold lead;omega
theorem zq2 {r:Nat→Int}{i j:Nat}(h1:lead r i j):¬lead r j i:=by unfold lead at*;omega
def rank (r:Nat→Int)(n i:Nat):Nat:=(List.range n).countP fun j=>decide (lead r j i)
theorem countP_all {l:List Nat}{p:Nat→Bool}(h:∀x∈l,p x=true):l.countP p=l.length:=by
 rw[List.countP_eq_length];exact h
theorem countP_none {l:List Nat}{p:Nat→Bool}(h:∀x∈l,p x=false):l.countP p=0:=by
 rw[List.countP_eq_zero];intro x hx;rw[h x hx];simp
theorem zo4 {r:Nat→Int}{n:Nat}{l:List Nat}(hp:l.Perm (List.range n))(hs:l.Pairwise (lead r)){k:Nat}(hk:k<l.length):rank r n l[k]=k:=by
 unfold rank
 rw[←hp.countP_eq]
 have hx:∀(x:Nat),x=l[k]→((l.take k).countP fun j=>decide (lead r j x))+((l.drop k).countP fun j=>decide (lead r j x))=k:=by
  rintro x rfl
  have h1:((l.take k).countP fun j=>decide (lead r j l[k]))=(l.take k).length:=countP_all fun x hx=>by
   obtain⟨i,hi,rfl⟩:=List.mem_iff_getElem.1 hx
   rw[List.getElem_take]
   rw[List.length_take]at hi
   exact decide_eq_true (List.pairwise_iff_getElem.1 hs i k (by omega) hk (by omega))
  have h2:((l.drop k).countP fun j=>decide (lead r j l[k]))=0:=countP_none fun x hx=>by
   obtain⟨i,hi,rfl⟩:=List.mem_iff_getElem.1 hx
   rw[List.getElem_drop]
   rw[List.length_drop]at hi
   rcases Nat.eq_zero_or_pos i with h0|h0
   ·subst h0;exact decide_eq_false (zpB _ _)
   ·exact decide_eq_false (zq2 (List.pairwise_iff_getElem.1 hs k (k+i) hk (by omega) (by omega)))
  rw[h1,h2,List.length_take];omega
 have e:∀p:Nat→Bool,l.countP p=(l.take k).countP p+(l.drop k).countP p:=fun p=>by rw[←List.countP_append,List.take_append_drop]
 rw[e]
 exact hx _ rfl
theorem rank_lt {r:Nat→Int}{n i j:Nat}(hi:i<n)(h:lead r i j):rank r n i<rank r n j:=by
 unfold rank
 have hsub:∀l:List Nat,(l.countP fun k=>decide (lead r k i))≤l.countP fun k=>decide (lead r k j):=fun l=>
  List.countP_mono_left fun x _ hx=>decide_eq_true (zdE (of_decide_eq_true hx) h)
 obtain⟨a,b,hab⟩:=List.append_of_mem (List.mem_range.2 hi)
 rw[hab,List.countP_append,List.countP_append,List.countP_cons,List.countP_cons]
 have h1:=hsub a
 have h2:=hsub b
 rw[if_neg (by simpa using zpB r i),if_pos (decide_eq_true h)]
 omega
theorem zoA {r:Nat→Int}{n i j:Nat}(hi:i<n)(hj:j<n)(h:rank r n i=rank r n j):i=j:=by
 by_cases he:i=j
 ·exact he
 ·rcases zdF r he with h1|h1
  ·have:=rank_lt hi h1;omega
  ·have:=rank_lt hj h1;omega
theorem lead_of_rank {r:Nat→Int}{n i j:Nat}(hi:i<n)(hj:j<n)(h:rank r n i<rank r n j):lead r i j:=by
 have he:i≠j:=fun e=>by rw[e]at h;omega
 rcases zdF r he with h1|h1
 ·exact h1
 ·have:=rank_lt hj h1;omega
theorem rank_some (r:Nat→Int)(n:Nat):∀k,k<n→∃i,i<n∧rank r n i=k:=by
 let le:Nat→Nat→Bool:=fun i j=>decide (lead r i j)||decide (i=j)
 have ht:∀a b c:Nat,le a b=true→le b c=true→le a c=true:=fun a b c h1 h2=>by
  simp only[le,Bool.or_eq_true,decide_eq_true_eq]at*
  rcases h1 with h1|rfl
  ·rcases h2 with h2|rfl
   ·exact .inl (zdE h1 h2)
   ·exact .inl h1
  ·exact h2
 have htot:∀a b:Nat,(le a b||le b a)=true:=fun a b=>by
  simp only[le,Bool.or_eq_true,decide_eq_true_eq]
  by_cases he:a=b
  ·exact .inl (.inr he)
  ·rcases zdF r he with h|h
   ·exact .inl (.inl h)
   ·exact .inr (.inl h)
 let l:=(List.range n).mergeSort le
 have hp:l.Perm (List.range n):=List.mergeSort_perm _ _
 have hs:l.Pairwise (fun a b=>le a b=true):=List.pairwise_mergeSort (le:=le) ht htot _
 have hn:l.Nodup:=hp.nodup_iff.2 List.nodup_range
 have hs2:l.Pairwise (lead r):=by
  unfold List.Nodup at hn
  refine(hs.and hn).imp fun{a b} ⟨h1,h2⟩=>?_
  simp only[le,Bool.or_eq_true,decide_eq_true_eq]at h1
  rcases h1 with h1|h1
  ·exact h1
  ·exact absurd h1 h2
 intro k hk
 have hl:l.length=n:=by rw[hp.length_eq];simp
 refine⟨l[k]'(by omega),?_,zo4 hp hs2 _⟩
 have:=hp.mem_iff.1 (List.getElem_mem (l:=l) (n:=k) (by omega))
 simpa using this
def zdP (r:Nat→Int)(n k:Nat)(i:Nat):Int:=if rank r n i<k then-1 else r i
theorem picked_zero (r:Nat→Int)(n:Nat):zdP r n 0=r:=by funext i;unfold zdP;rw[if_neg (by omega)]
theorem best_rank {r:Nat→Int}{n k:Nat}(hr:∀i,i<n→0≤r i)(hk:k<n){b:Nat}(hb:b<n)
  (h1:∀i,i<n→zdP r n k i≤zdP r n k b) (h2:∀i,i<b→zdP r n k i<zdP r n k b):rank r n b=k:=by
 obtain⟨m,hm,hmk⟩:=rank_some r n k hk
 have pm:zdP r n k m=r m:=by unfold zdP;rw[if_neg (by omega)]
 have hm0:=hr m hm
 have hbm:=h1 m hm
 rw[pm]at hbm
 have pb:zdP r n k b=r b∧¬rank r n b<k:=by
  unfold zdP at hbm ⊢
  split at hbm
  ·omega
  ·rename_i h
   rw[if_neg h];exact⟨rfl,h⟩
 rw[pb.1]at hbm
 by_cases he:b=m
 ·rw[he];exact hmk
 ·have hne:rank r n b≠k:=fun e=>he (zoA hb hm (e.trans hmk.symm))
  have hl:lead r m b:=lead_of_rank hm hb (by have:=pb.2;omega)
  unfold lead at hl
  rcases hl with hl|⟨e,hl⟩
  ·omega
  ·have:=h2 m hl
   rw[pm,pb.1]at this
   omega
theorem picked_succ {r:Nat→Int}{n k b:Nat}(hb:b<n)(hr:rank r n b=k){i:Nat}(hi:i<n):zdP r n (k+1) i=if i=b then-1 else zdP r n k i:=by
 unfold zdP
 by_cases he:i=b
 ·subst he;rw[if_pos (by omega),if_pos rfl]
 ·have:rank r n i≠k:=fun e=>he (zoA hi hb (e.trans hr.symm))
  rw[if_neg he]
  by_cases h:rank r n i<k
  ·rw[if_pos h,if_pos (by omega)]
  ·rw[if_neg h,if_neg (by omega)]
end Go.Crisp
namespace Go.Crisp
open Go
def sumZ (l:List Int):Int:=l.foldl addZ 0
def sizeZ (x:Int):Int:=max x (mulZ x (-1))
def zfP (l:List Int):Int:=l.foldl (fun s x=>addZ s (sizeZ x)) 0
theorem zoz {x:Int}(h:I64 x):sizeZ x=min (x.natAbs:Int) 9223372036854775807:=by
 unfold sizeZ mulZ holdZ diffS
 unfold I64 at h
 have e:(-1:Int).natAbs=1:=rfl
 rw[e,Nat.mul_one]
 have e2:decide ((-1:Int)<0)=true:=rfl
 rw[e2]
 by_cases hx:x<0
 ·rw[decide_eq_true hx]
  have:(!(true==true))=false:=rfl
  rw[this]
  simp only[Bool.false_eq_true,if_false]
  split<;>omega
 ·rw[decide_eq_false hx]
  have:(!(false==true))=true:=rfl
  rw[this]
  simp only[if_true]
  split<;>omega
theorem zge {f:Int→Int→Int}(hf:∀a b,I64 (f a b)):∀(l:List Int) (s:Int),I64 s→I64 (l.foldl f s)
 | [],s,h=>h
 |x::l,s,_=>zge hf l _ (hf _ _)
theorem zj3:I64 0:=by unfold I64;omega
theorem sumZ_I64 (l:List Int):I64 (sumZ l):=zge zj2 l 0 zj3
theorem zqK (l:List Int):I64 (zfP l):=zge (fun a b=>zj2 a (sizeZ b)) l 0 zj3
theorem sizeZ_I64 {x:Int}(h:I64 x):I64 (sizeZ x):=by rw[zoz h];unfold I64;omega
def badW (l:List Int):Prop:=l.length=0∨1048576<l.length∨∃x∈l,1099511627776<sizeZ x
instance (l:List Int):Decidable (badW l):=by unfold badW;infer_instance
def za0 (l:List Int):Int:=if badW l then 7 else if sumZ l<268435456 then 8 else 0
def baseT (l:List Int)(i:Nat):Int:=l.getD i 0*16384/sumZ l
def restT (l:List Int)(i:Nat):Int:=l.getD i 0*16384%sumZ l
def leftK (l:List Int):Nat→Int
 |0=>16384
 |k+1=>leftK l k-baseT l k
def leftT (l:List Int):Int:=leftK l l.length
def zfN (l:List Int):List Int:=(List.range l.length).map fun i=>baseT l i+(if(rank (restT l) l.length i:Int)<leftT l then 1 else 0)
def zaG (l:List Int):List Int:=if za0 l=0 then zfN l else[]
structure GoodW (l:List Int):Prop where
 pos:0<l.length
 len:l.length≤1048576
 small:∀i, -1099511627776≤l.getD i 0∧l.getD i 0≤1099511627776
 sum:268435456≤sumZ l
theorem zpO {l:List Int}:za0 l=0↔ ¬badW l∧268435456≤sumZ l:=by
 unfold za0
 split
 ·rename_i h;simp[h]
 ·rename_i h
  split
  ·rename_i h2;simp[h];omega
  ·rename_i h2;simp[h];omega
theorem goodW {l:List Int}(h64:∀x∈l,I64 x)(h:za0 l=0):GoodW l:=by
 obtain⟨h1,h2⟩:=zpO.1 h
 unfold badW at h1
 refine⟨by omega,by omega,fun i=>?_,h2⟩
 by_cases hi:i<l.length
 ·have e:l.getD i 0=l[i]:=by simp[List.getD_eq_getElem?_getD,hi]
  rw[e]
  have hm:=List.getElem_mem hi
  have h3:¬1099511627776<sizeZ l[i]:=fun h3=>h1 (.inr (.inr ⟨_,hm,h3⟩))
  rw[zoz (h64 _ hm)]at h3
  omega
 ·have e:l.getD i 0=0:=by simp[List.getD_eq_getElem?_getD,Nat.le_of_not_lt hi]
  rw[e];omega
def psum (l:List Int):Nat→Int
 |0=>0
 |k+1=>psum l k+l.getD k 0
theorem psum_bd {l:List Int}(G:GoodW l):∀k:Nat, -(k*1099511627776:Int)≤psum l k∧psum l k≤k*1099511627776
 |0=>by simp[psum]
 |k+1=>by
  have:=psum_bd G k
  have h2:=G.small k
  simp only[psum]
  omega
theorem sum_psum {l:List Int}(G:GoodW l):∀k,k≤l.length→sumZ (l.take k)=psum l k
 |0,_=>by simp[sumZ,psum]
 |k+1,h=>by
  have ih:=sum_psum G k (by omega)
  have hb:=psum_bd G k
  have h2:=G.small k
  have e:l.getD k 0=l[k]:=by simp[List.getD_eq_getElem?_getD,show k<l.length by omega]
  have:=G.len
  unfold sumZ at*
  rw[List.take_succ_eq_append_getElem (by omega),List.foldl_append,ih]
  simp only[List.foldl_cons,List.foldl_nil,psum]
  unfold addZ
  rw[←e]
  omega
theorem sumZ_psum {l:List Int}(G:GoodW l):sumZ l=psum l l.length:=by
 have:=sum_psum G l.length (Nat.le_refl _)
 rwa [List.take_of_length_le (Nat.le_refl _)]at this
def rsum (l:List Int):Nat→Int
 |0=>0
 |k+1=>rsum l k+restT l k
theorem zrL {l:List Int}(G:GoodW l)(i:Nat):0≤restT l i∧restT l i<sumZ l:=by
 have:=G.sum
 exact⟨Int.emod_nonneg _ (by omega),Int.emod_lt_of_pos _ (by omega)⟩
theorem zj0 {l:List Int}(G:GoodW l)(i:Nat): -67108864≤baseT l i∧baseT l i≤67108864:=by
 have h1:=G.sum
 have h2:=G.small i
 unfold baseT
 constructor
 ·rw[Int.le_ediv_iff_mul_le (by omega)];omega
 ·apply Int.le_of_lt_add_one
  rw[Int.ediv_lt_iff_lt_mul (by omega)];omega
theorem zsC {l:List Int}(G:GoodW l):∀k:Nat,16384-(k*67108864:Int)≤leftK l k∧leftK l k≤16384+k*67108864
 |0=>by simp[leftK]
 |k+1=>by
  have:=zsC G k
  have h2:=zj0 G k
  simp only[leftK]
  omega
theorem rsum_bd {l:List Int}(G:GoodW l):∀k:Nat,0≤rsum l k∧rsum l k+k≤k*sumZ l
 |0=>by simp[rsum]
 |k+1=>by
  have:=rsum_bd G k
  have h2:=zrL G k
  simp only[rsum]
  rw[show((k+1:Nat):Int)=(k:Int)+1 from rfl,Int.add_mul,Int.one_mul]
  omega
theorem left_sum {l:List Int}(G:GoodW l):∀k,leftK l k*sumZ l+psum l k*16384=16384*sumZ l+rsum l k
 |0=>by simp[leftK,psum,rsum]
 |k+1=>by
  have ih:=left_sum G k
  have hd:sumZ l*baseT l k+restT l k=l.getD k 0*16384:=Int.mul_ediv_add_emod _ _
  simp only[leftK,psum,rsum]
  rw[Int.sub_mul,Int.add_mul,Int.mul_comm (baseT l k)]
  omega
theorem left_bd {l:List Int}(G:GoodW l):0≤leftT l∧leftT l<l.length:=by
 have h:=left_sum G l.length
 rw[←sumZ_psum G]at h
 have hr:=rsum_bd G l.length
 have hs:=G.sum
 have hp:=G.pos
 have e:leftT l*sumZ l=rsum l l.length:=by unfold leftT;omega
 constructor
 ·rcases Int.lt_or_le (leftT l) 0 with h1|h1
  ·have:leftT l*sumZ l≤(-1)*sumZ l:=Int.mul_le_mul_of_nonneg_right (by omega) (by omega)
   omega
  ·exact h1
 ·rcases Int.lt_or_le (leftT l) l.length with h1|h1
  ·exact h1
  ·have:(l.length:Int)*sumZ l≤leftT l*sumZ l:=Int.mul_le_mul_of_nonneg_right h1 (by omega)
   omega
theorem zfI (l:List Int):(zfN l).length=l.length:=by simp[zfN]
theorem tapsOf_bd {l:List Int}(G:GoodW l):∀x∈zfN l, -67108864≤x∧x≤67108865:=by
 intro x hx
 unfold zfN at hx
 obtain⟨i,_,rfl⟩:=List.mem_map.1 hx
 have:=zj0 G i
 split<;>omega
theorem zl7 {β:Type}(g:Nat→β)(n i:Nat)(x:β)(h:i<n):((List.range n).map g).set i x=(List.range n).map fun j=>if j=i then x else g j:=by
 apply List.ext_getElem
 ·simp
 ·intro k h1 h2
  simp at h1 h2
  rw[List.getElem_set]
  simp
  by_cases hk:i=k
  ·subst hk;simp
  ·rw[if_neg hk,if_neg (Ne.symm hk)]
theorem zax {β:Type}{g f:Nat→β}{n:Nat}(h:∀i,i<n→g i=f i):(List.range n).map g=(List.range n).map f:=by
 apply List.map_congr_left
 intro i hi
 exact h i (List.mem_range.1 hi)
end Go.Crisp
namespace Go.Proofs.YtcoimlclclnlkaaGreatDoor
open Go Go.Crisp
attribute [local irreducible] FCall rowK newK stK iteK vK qK drawK gK joinK loopK mkK appK cpyK zoB zmd bsK clK
open _root_.Go.Proofs.Tryz
abbrev SlI (Z:Nat→Prop)(h:Heap)(v:Value)(l:List Int):Prop:=Rp.Sl (Rp.int .i64) Z h v l
theorem zls {f:Int→Int→Int}{l:List Int}{i:Nat}(h:i<l.length)(s:Int):(l.take (i+1)).foldl f s=f ((l.take i).foldl f s) l[i]:=by
 rw[List.take_succ_eq_append_getElem h,List.foldl_append];rfl
theorem zrc {h:Heap}{x:Int}(hx:I64 x):FCall prog zib #[.int .i64 x] h fun r h'=>r=.int .i64 (sizeZ x)∧h'=h:=by
 apply ok_taps_size
 unfold znK
 refine(c_fixedMul hx (by unfold I64;omega)).mono fun v1 h1 ⟨e1,w1⟩=>?_
 subst e1 w1
 simp only[go_sem]
 exact⟨rfl,trivial⟩
theorem c_tapsSum {Z:Nat→Prop}{h:Heap}{v:Value}{l:List Int}(H:SlI Z h v l)(h64:∀x∈l,I64 x)(hl:l.length<4611686018427387904):FCall prog zj4 #[v] h fun r h'=>r=.int .i64 (sumZ l)∧h'=h:=by
 apply ok_taps_Sum
 unfold zoQ
 obtain⟨a,cap,e⟩:=H.isSl
 have e2:zaf v=some (.int .i64 (l.length:Int)):=by rw[e];rfl
 rw[e2,zaa]
 refine zeh (fun i=>[.int .i64 ((l.take i).foldl addZ 0),.int .i64 (i:Int)]) l.length 0 rfl (Nat.zero_le _) fun i again ρj _ hi Hag=>?_
 simp only[go_sem]
 refine zac (fun h0=>?_) (fun h0=>?_)
 ·have hi':i<l.length:=by omega
  obtain⟨p,e3,e4⟩:=H.int_at (k':=.i64) hi'
  simp only[go_sem,e3,e4]
  refine(zrm (zge zj2 _ _ zj3) (h64 _ (List.getElem_mem _))).mono fun v1 h1 ⟨e1,w1⟩=>?_
  subst e1 w1
  rw[w64 (by omega) (by omega)]
  have:=Hag hi'
  rw[zls hi']at this
  exact this
 ·rw[List.take_of_length_le (by omega)]
  exact⟨rfl,trivial⟩
theorem zpR {Z:Nat→Prop}{h:Heap}{v:Value}{l:List Int}(H:SlI Z h v l)(h64:∀x∈l,I64 x)(hl:l.length<4611686018427387904):FCall prog zic #[v] h fun r h'=>r=.int .i64 (zfP l)∧h'=h:=by
 apply ok_taps_Size
 unfold znM
 obtain⟨a,cap,e⟩:=H.isSl
 have e2:zaf v=some (.int .i64 (l.length:Int)):=by rw[e];rfl
 rw[e2,zaa]
 refine zeh (fun i=>[.int .i64 ((l.take i).foldl (fun s x=>addZ s (sizeZ x)) 0),.int .i64 (i:Int)]) l.length 0 rfl (Nat.zero_le _) fun i again ρj _ hi Hag=>?_
 simp only[go_sem]
 refine zac (fun h0=>?_) (fun h0=>?_)
 ·have hi':i<l.length:=by omega
  obtain⟨p,e3,e4⟩:=H.int_at (k':=.i64) hi'
  simp only[go_sem,e3,e4]
  have hx:=h64 _ (List.getElem_mem hi')
  refine(zrc hx).mono fun v1 h1 ⟨e1,w1⟩=>?_
  subst e1 w1
  refine(zrm (zge (fun a b=>zj2 a (sizeZ b)) _ _ zj3) (sizeZ_I64 hx)).mono fun v1 h1 ⟨e1,w1⟩=>?_
  subst e1 w1
  try simp only[go_sem]
  rw[w64 (by omega) (by omega)]
  have:=Hag hi'
  rw[zls hi']at this
  exact this
 ·rw[List.take_of_length_le (by omega)]
  exact⟨rfl,trivial⟩
theorem c_check1 {h:Heap}{x:Int}(hx:I64 x):FCall prog zdV #[.int .i64 x] h fun r h'=>r=.bool (decide (1099511627776<sizeZ x))∧h'=h:=by
 apply zom
 unfold ziA
 refine(zrc hx).mono fun v1 h1 ⟨e1,w1⟩=>?_
 subst e1 w1
 simp only[go_sem]
 exact⟨by simp,by simp⟩
section
attribute [local semireducible] clK
theorem clK_0 {f:FuncId}{a:Value}{h:Heap}{K:Value→Heap→Prop}:clK prog (.func (.func f) #[] #[]) #[a] h K=FCall prog f #[a] h K:=rfl
theorem clK_2 {f:FuncId}{a b c:Value}{h:Heap}{K:Value→Heap→Prop}:clK prog (.func (.func f) #[] #[c]) #[a,b] h K=FCall prog f #[a,b,c] h K:=rfl
end
theorem c_containsFn {Z:Nat→Prop}{h:Heap}{v:Value}{l:List Int}(H:SlI Z h v l)(h64:∀x∈l,I64 x)(hl:l.length<4611686018427387904):
  FCall prog zaW #[v,.func (.func zdV) #[] #[]] h fun r h'=>r=.bool (decide (∃x∈l,1099511627776<sizeZ x))∧h'=h:=by
 apply zde
 unfold zbB
 refine FCall.mono (K:=fun r h'=>(∃n:Int,r=.int .i64 n∧(0≤n↔ ∃x∈l,1099511627776<sizeZ x))∧h'=h) ?_ ?_
 ·apply zdK
  unfold zbX
  obtain⟨a,cap,e⟩:=H.isSl
  have e2:zaf v=some (.int .i64 (l.length:Int)):=by rw[e];rfl
  rw[e2,zaa]
  refine zaF l.length 0 (fun i (_:Unit)=>[.int .i64 (i:Int)]) (fun i _ h'=>h'=h∧∀x∈l.take i,¬1099511627776<sizeZ x) () rfl (Nat.zero_le _) ⟨rfl,by simp⟩ fun i _ h1 again ρj _ hi ⟨hh,hI⟩ Hag=>?_
  subst hh
  simp only[go_sem]
  refine zac (fun h0=>?_) (fun h0=>?_)
  ·have hi':i<l.length:=by omega
   obtain⟨p,e3,e4⟩:=H.int_at (k':=.i64) hi'
   simp only[go_sem,e3,e4]
   rw[clK_0]
   refine(c_check1 (h64 _ (List.getElem_mem hi'))).mono fun v1 h2 ⟨e1,w1⟩=>?_
   subst e1 w1
   refine zac (fun h3=>?_) (fun h3=>?_)
   ·exact⟨⟨i,rfl,fun _=>⟨_,List.getElem_mem hi',h3⟩,fun _=>by omega⟩,rfl⟩
   ·rw[w64 (by omega) (by omega)]
    refine Hag () _ hi' ⟨rfl,fun x hx=>?_⟩
    rw[List.take_succ_eq_append_getElem hi']at hx
    rcases List.mem_append.1 hx with hx|hx
    ·exact hI x hx
    ·rw[List.mem_singleton.1 hx];exact h3
  ·rw[List.take_of_length_le (by omega)]at hI
   exact⟨⟨-1,rfl,fun h=>by omega,fun⟨x,hx,h3⟩=>absurd h3 (hI x hx)⟩,by first|rfl|trivial⟩
 ·rintro r h' ⟨⟨n,rfl,hn⟩,rfl⟩
  simp only[go_sem]
  refine⟨?_,trivial⟩
  congr 1
  rw[decide_eq_decide];exact hn
theorem c_tapsCheck {Z:Nat→Prop}{h:Heap}{v:Value}{l:List Int}(H:SlI Z h v l)(h64:∀x∈l,I64 x)(hl:l.length<4611686018427387904):FCall prog zjC #[v] h fun r h'=>r=.int .i64 (za0 l)∧h'=h:=by
 apply zrV
 unfold zlB
 obtain⟨a,cap,e⟩:=H.isSl
 have e2:zaf v=some (.int .i64 (l.length:Int)):=by rw[e];rfl
 simp only[go_sem,e2]
 unfold za0
 refine gK_f (fun hb=>?_) (fun hb=>?_)
 ·have hb:=of_decide_eq_false hb
  have e3:decide ((l.length:Int)=0∨1048576<(l.length:Int))=false:=decide_eq_false hb
  simp only[go_sem,e3]
  refine(c_containsFn H h64 hl).mono fun v1 h1 ⟨e1,w1⟩=>?_
  subst e1 w1
  simp only[go_sem]
  refine zac (fun h0=>?_) (fun h0=>?_)
  ·have hB:badW l:=.inr (.inr h0)
   rw[if_pos hB];exact⟨by simp,by simp⟩
  ·have hB:¬badW l:=by unfold badW;rintro(h2|h2|h2);omega;omega;exact h0 h2
   rw[if_neg hB]
   refine(c_tapsSum H h64 hl).mono fun v1 h1 ⟨e1,w1⟩=>?_
   subst e1 w1
   simp only[go_sem]
   refine zac (fun h3=>?_) (fun h3=>?_)
   ·rw[if_pos h3];exact⟨by simp,by simp⟩
   ·rw[if_neg h3];exact⟨by simp,by simp⟩
 ·have hb2:=of_decide_eq_true hb
  have hB:badW l:=by unfold badW;rcases hb2 with h2|h2;exact .inl (by omega);exact .inr (.inl (by omega))
  simp only[go_sem,hb]
  rw[if_pos hB]
  exact⟨by simp,by simp⟩
def zds (l:List Int):Prop:=l.length%2=0∨1024<l.length∨zfP l<1∨1048576<zfP l
instance (l:List Int):Decidable (zds l):=by unfold zds;infer_instance
def userC (l:List Int):Int:=if zds l then 7 else 0
def userW (l:List Int):List Int:=if zds l then[]else l.map fun x=>zaQ x 1073741824 (zfP l)
theorem zmB {α β:Type}(g:α→β)(l:List α){k:Nat}(h:k<l.length):(l.map g).take (k+1)=(l.map g).take k++[g l[k]]:=by
 rw[List.take_succ_eq_append_getElem (by simpa using h)]
 simp
theorem znu {Z:Nat→Prop}{h:Heap}{v:Value}{l:List Int}(H:SlI Z h v l)(h64:∀x∈l,I64 x)(hl:l.length<4611686018427387904):
  FCall prog zgk #[v] h fun r h'=>∃u,r=.tuple #[u,.int .i64 (userC l)]∧New (Rp.int .i64) h h' u (userW l):=by
 apply ok_taps_User
 unfold znL
 refine(zpR H h64 hl).mono fun v1 h1 ⟨e1,w1⟩=>?_
 subst e1 w1
 obtain⟨a,cap,e⟩:=H.isSl
 have e2:zaf v=some (.int .i64 (l.length:Int)):=by rw[e];rfl
 simp only[go_sem,e2]
 rw[zbd _ _ _ _ (by omega),zaa,Int.tmod_eq_emod_of_nonneg (by omega)]
 simp only[go_sem,e2]
 unfold userC userW
 have hs:=zqK l
 refine zac (fun h0=>?_) (fun h0=>?_)
 ·have:zds l:=by unfold zds;omega
  rw[if_pos this,if_pos this]
  exact⟨_,rfl,New.nil (Ext.refl _)⟩
 ·have hn:¬zds l:=by unfold zds;omega
  rw[if_neg hn,if_neg hn]
  refine zaF l.length 0 (fun k u=>[u,.int .i64 (k:Int)]) (fun k u h'=>New (Rp.int .i64) h1 h' u ((l.map fun x=>zaQ x 1073741824 (zfP l)).take k)) (.slice none 0 0) rfl (Nat.zero_le _) (New.nil (Ext.refl _)) fun k u h2 again ρj _ hk hI Hag=>?_
  simp only[go_sem]
  refine zac (fun h0=>?_) (fun h0=>?_)
  ·have hk':k<l.length:=by omega
   obtain⟨p,e3,e4⟩:=(H.ext hI.2.1).int_at (k':=.i64) hk'
   simp only[go_sem,e3,e4]
   refine(zfw (h64 _ (List.getElem_mem _)) (by unfold I64;omega) hs).mono fun v2 h3 ⟨e5,w5⟩=>?_
   subst e5 w5
   have hlen:((l.map fun x=>zaQ x 1073741824 (zfP l)).take k).length=k:=by rw[List.length_take,List.length_map];omega
   unfold zds at hn
   refine hI.push_int rfl (by rw[hlen];omega) (by rw[hlen];omega) fun s' h' H'=>?_
   try rw[za6,zaa]
   rw[w64 (by omega) (by omega)]
   have:=Hag s' h' hk' (by rw[zmB _ _ hk'];exact H')
   exact this
  ·rw[List.take_of_length_le (by rw[List.length_map];omega)]at hI
   exact⟨u,rfl,hI⟩
theorem zoO (l:List Int):∀x∈userW l,I64 x:=by
 unfold userW
 split
 ·simp
 ·intro x hx
  obtain⟨y,_,rfl⟩:=List.mem_map.1 hx
  exact zbO _ _ _
def zfu (s:Int):Prop:=s<1∨4194304<s
instance (s:Int):Decidable (zfu s):=by unfold zfu;infer_instance
def zcw (s:Int):Int:=(3*s+65535)/65536
def zpI (s:Int):Int:=if zfu s then 7 else 0
def zhJ (s:Int):List Int:=if zfu s then[]else(List.range (2*zcw s+1).toNat).map fun k:Nat=>zoa ((k:Int)-zcw s) s
theorem zq7 (s:Int):∀x∈zhJ s,I64 x:=by
 unfold zhJ
 split
 ·simp
 ·intro x hx
  obtain⟨y,_,rfl⟩:=List.mem_map.1 hx
  exact gaussZ_I64 _ _
theorem zro {h:Heap}{s:Int}(hs:I64 s):FCall prog zdW #[.int .i64 s] h fun r h'=>∃u,r=.tuple #[u,.int .i64 (zpI s)]∧New (Rp.int .i64) h h' u (zhJ s):=by
 apply zon
 unfold ziB
 simp only[go_sem]
 unfold zpI zhJ
 refine zac (fun h0=>?_) (fun h0=>?_)
 ·have:zfu s:=h0
  rw[if_pos this,if_pos this]
  exact⟨_,rfl,New.nil (Ext.refl _)⟩
 ·have hn:¬zfu s:=h0
  rw[if_neg hn,if_neg hn]
  rw[w64 (n:=3*s) (by omega) (by omega),w64 (n:=3*s+65536) (by omega) (by omega),w64 (n:=3*s+65536-1) (by omega) (by omega)]
  have e1:binV .i .shr (.int .i64 (3*s+65536-1)) (.int .u64 16)=some (.int .i64 (zcw s)):=by
   show(if(16:Int)<0 then none else some (Value.int .i64 ((3*s+65536-1).fdiv (2^(min (16:Int).toNat 64)))))=_
   rw[if_neg (by omega),Int.fdiv_eq_ediv_of_nonneg _ (by decide)]
   unfold zcw
   congr 2
   rw[show 3*s+65536-1=3*s+65535 by omega];rfl
  rw[e1,zaa]
  have hr:0≤zcw s∧zcw s≤193:=by unfold zcw;omega
  generalize zcw s=q at*
  simp only[go_sem]
  rw[w64 (n:=0-q) (by omega) (by omega)]
  obtain⟨N,hN⟩:∃N,N=(2*q+1).toNat:=⟨_,rfl⟩
  rw[←hN]
  refine zaF N 0 (fun k u=>[u,.int .i64 ((k:Int)-q)]) (fun k u h'=>New (Rp.int .i64) h h' u (((List.range N).map fun k:Nat=>zoa ((k:Int)-q) s).take k)) (.slice none 0 0) rfl (Nat.zero_le _) (New.nil (Ext.refl _)) fun k u h2 again ρj _ hk hI Hag=>?_
  simp only[go_sem]
  refine zac (fun h3=>?_) (fun h3=>?_)
  ·have hk':k<N:=by omega
   refine(c_Gauss (by unfold I64;omega) hs).mono fun v2 h3 ⟨e5,w5⟩=>?_
   subst e5 w5
   have hlen:(((List.range N).map fun k:Nat=>zoa ((k:Int)-q) s).take k).length=k:=by rw[List.length_take,List.length_map,List.length_range];omega
   refine hI.push_int rfl (by rw[hlen];omega) (by rw[hlen];omega) fun s' h' H'=>?_
   try rw[za6,zaa]
   rw[w64 (by omega) (by omega)]
   have:=Hag s' h' hk' (by rw[zey _ _ _ hk'];exact H')
   rw[show((k+1:Nat):Int)-q=(k:Int)-q+1 by omega]at this
   exact this
  ·rw[List.take_of_length_le (by rw[List.length_map,List.length_range];omega)]at hI
   exact⟨u,rfl,hI⟩
end Go.Proofs.YtcoimlclclnlkaaGreatDoor
namespace Go.Crisp
section
section
variable {α:Type}{lt:α→α→Prop}
theorem zlv (tr:∀{a b c},lt a b→lt b c→lt a c){L:List α}(h:L.Pairwise lt){x:α}{i j:Nat}(hij:i≤j)(hj:j<L.length)(hx:lt L[j] x):lt (L[i]'(by omega)) x:=by
 rcases Nat.lt_or_ge i j with h1|h1
 ·exact tr (List.pairwise_iff_getElem.1 h i j (by omega) hj h1) hx
 ·have:i=j:=by omega
  subst this;exact hx
theorem zlw (tr:∀{a b c},lt a b→lt b c→lt a c){L:List α}(h:L.Pairwise lt){x:α}{i j:Nat}(hij:i≤j)(hj:j<L.length)(hx:lt x (L[i]'(by omega))):lt x L[j]:=by
 rcases Nat.lt_or_ge i j with h1|h1
 ·exact tr hx (List.pairwise_iff_getElem.1 h i j (by omega) hj h1)
 ·have:i=j:=by omega
  subst this;exact hx
theorem cross (tr:∀{a b c},lt a b→lt b c→lt a c){L R:List α}(hL:L.Pairwise lt)(hR:R.Pairwise lt){i j:Nat}(hi:i≤L.length)(hj:j≤R.length)
  (h1:∀(a:0<i) (b:j<R.length),lt (L[i-1]'(by omega)) R[j]) (h2:∀(a:0<j) (b:i<L.length),lt (R[j-1]'(by omega)) L[i]):
  ∀x∈L.take i++R.take j,∀y∈L.drop i++R.drop j,lt x y:=by
 intro x hx y hy
 rcases List.mem_append.1 hx with hx|hx<;>rcases List.mem_append.1 hy with hy|hy<;>
  obtain⟨p,hp,rfl⟩:=List.mem_iff_getElem.1 hx<;>obtain⟨q,hq,rfl⟩:=List.mem_iff_getElem.1 hy<;>
  rw[List.length_take]at hp<;>rw[List.length_drop]at hq<;>rw[List.getElem_take,List.getElem_drop]
 ·exact List.pairwise_iff_getElem.1 hL p (i+q) (by omega) (by omega) (by omega)
 ·exact zlv (lt:=lt) tr (L:=L) hL (i:=p) (j:=i-1) (by omega) (by omega) (zlw (lt:=lt) tr (x:=L[i-1]) (L:=R) hR (i:=j) (j:=j+q) (by omega) (by omega) (h1 (by omega) (by omega)))
 ·exact zlv (lt:=lt) tr (L:=R) hR (i:=p) (j:=j-1) (by omega) (by omega) (zlw (lt:=lt) tr (x:=R[j-1]) (L:=L) hL (i:=i) (j:=i+q) (by omega) (by omega) (h2 (by omega) (by omega)))
 ·exact List.pairwise_iff_getElem.1 hR p (j+q) (by omega) (by omega) (by omega)
theorem merged {L R S1 S2:List α}{i j:Nat}(hc:∀x∈L.take i++R.take j,∀y∈L.drop i++R.drop j,lt x y)
  (p1:S1.Perm (L.take i++R.take j)) (p2:S2.Perm (L.drop i++R.drop j)) (s1:S1.Pairwise lt) (s2:S2.Pairwise lt):(S1++S2).Perm (L++R)∧(S1++S2).Pairwise lt:=by
 refine⟨?_,List.pairwise_append.2 ⟨s1,s2,fun x hx y hy=>hc x (p1.mem_iff.1 hx) y (p2.mem_iff.1 hy)⟩⟩
 refine(p1.append p2).trans ?_
 have e:(L.take i++R.take j++(L.drop i++R.drop j)).Perm ((L.take i++L.drop i)++(R.take j++R.drop j)):=by
  rw[List.append_assoc,List.append_assoc]
  refine List.Perm.append_left _ ?_
  rw[←List.append_assoc,←List.append_assoc]
  exact List.Perm.append_right _ List.perm_append_comm
 rwa [List.take_append_drop,List.take_append_drop]at e
end
end
end Go.Crisp
namespace Go.Proofs.YtcoimlclclnlkaaGreatDoor
open Go Go.Crisp
attribute [local irreducible] FCall rowK newK stK iteK vK qK drawK gK joinK loopK mkK appK cpyK zoB zmd bsK clK
open _root_.Go.Proofs.Tryz
section
abbrev iv (i:Nat):Value:=.int .i64 (i:Int)
structure CmpOK (v f:Value)(P:Heap→Prop)(r:Nat→Int)(n:Nat):Prop where
 call:∀{h:Heap} {a b:Nat} {K:Value→Heap→Prop},P h→a<n→b<n→(∀c:Int,(c<0↔r b<r a)→K (.int .i64 c) h)→clK prog f #[iv a,iv b] h K
 fr:∀{h h':Heap},P h→Fr (blk v) h h'→P h'
structure IxRow (v:Value)(P:Heap→Prop)(n:Nat)(h:Heap)(l:List Nat):Prop where
 own:Own 1 h v l.length (l.map iv)
 ok:P h
 small:l.length<4611686018427387904
 below:∀x∈l,x<n
section
variable {v f:Value}{P:Heap→Prop}{r:Nat→Int}{n:Nat}
theorem IxRow.at {h:Heap}{l:List Nat}(H:IxRow v P n h l){i:Nat}(hi:i<l.length):∃p,idxV 1 v (iv i)=some p∧ldV h p=some (iv l[i]):=by
 obtain⟨p,h1,h2,_⟩:=H.own.at1 (k:=.i64) hi
 exact⟨p,h1,by rw[h2,List.getElem_map]⟩
theorem IxRow.swap (C:CmpOK v f P r n){h:Heap}{A B D:List Nat}{x y:Nat}(H:IxRow v P n h (A++x::(B++y::D))){i j:Nat}(hi:i=A.length)(hj:j=A.length+1+B.length):
  ∃ p q,idxV 1 v (iv i)=some p∧idxV 1 v (iv j)=some q∧ldV h p=some (iv x)∧ldV h q=some (iv y)∧∀K:Value→Heap→Prop,
   (∀h',IxRow v P n h' (A++y::(B++x::D))→Fr (blk v) h h'→K undef h')→
    (stK 1 p (iv y) h fun _ h2=>stK 1 q (iv x) h2 K)∧(stK 1 q (iv x) h fun _ h2=>stK 1 p (iv y) h2 K):=by
 subst hi hj
 have l1:A.length<(A++x::(B++y::D)).length:=by simp
 have l2:A.length+1+B.length<(A++x::(B++y::D)).length:=by simp;omega
 obtain⟨p,h1,h2,h3⟩:=H.own.at1 (k:=.i64) l1
 obtain⟨q,g1,g2,g3⟩:=H.own.at1 (k:=.i64) l2
 have e1:(A++x::(B++y::D))[A.length]=x:=by simp
 have e2:(A++x::(B++y::D))[A.length+1+B.length]=y:=by
  apply Option.some.inj
  rw[←List.getElem?_eq_getElem,List.getElem?_append_right (by omega),show A.length+1+B.length-A.length=B.length+1 by omega,List.getElem?_cons_succ,List.getElem?_append_right (by omega)]
  simp
 rw[List.getElem_map,e1]at h2
 rw[List.getElem_map,e2]at g2
 have fin:∀h',Own 1 h' v (A++x::(B++y::D)).length ((A++y::(B++x::D)).map iv)→Fr (blk v) h h'→IxRow v P n h' (A++y::(B++x::D)):=fun h' o f'=>
  ⟨by rw[show(A++y::(B++x::D)).length=(A++x::(B++y::D)).length by simp];exact o,C.fr H.ok f',by have:=H.small;simpa using this,fun z hz=>H.below z (by
   simp only[List.mem_append,List.mem_cons]at hz ⊢
   rcases hz with h|h|h|h|h<;>simp[h])⟩
 have s1:((A++x::(B++y::D)).map iv).set A.length (iv y)=(A++y::(B++y::D)).map iv:=by simp
 have s2:((A++y::(B++y::D)).map iv).set (A.length+1+B.length) (iv x)=(A++y::(B++x::D)).map iv:=by
  rw[←List.map_set]
  congr 1
  rw[List.set_append_right _ _ (by omega),show A.length+1+B.length-A.length=B.length+1 by omega,List.set_cons_succ,List.set_append_right _ _ (by omega)]
  simp
 have s3:((A++x::(B++y::D)).map iv).set (A.length+1+B.length) (iv x)=(A++x::(B++x::D)).map iv:=by
  rw[←List.map_set]
  congr 1
  rw[List.set_append_right _ _ (by omega),show A.length+1+B.length-A.length=B.length+1 by omega,List.set_cons_succ,List.set_append_right _ _ (by omega)]
  simp
 have s4:((A++x::(B++x::D)).map iv).set A.length (iv y)=(A++y::(B++x::D)).map iv:=by simp
 refine⟨p,q,h1,g1,h2,g2,fun K HK=>⟨?_,?_⟩⟩
 ·refine h3 _ _ rfl fun h2 o2 f2 z2=>?_
  rw[s1]at o2
  obtain⟨q',g1',_,g3'⟩:=o2.at1 (k:=.i64) l2
  rw[g1]at g1'
  cases g1'
  refine g3' _ _ rfl fun h3 o3 f3 z3=>?_
  rw[s2]at o3
  exact HK h3 (fin h3 o3 (f2.trans f3)) (f2.trans f3)
 ·refine g3 _ _ rfl fun h2 o2 f2 z2=>?_
  rw[s3]at o2
  obtain⟨p',h1',_,h3'⟩:=o2.at1 (k:=.i64) l1
  rw[h1]at h1'
  cases h1'
  refine h3' _ _ rfl fun h3 o3 f3 z3=>?_
  rw[s4]at o3
  exact HK h3 (fin h3 o3 (f2.trans f3)) (f2.trans f3)
theorem zhZ (a b:Nat)(h:a+b≤9223372036854775807):IntKind.i64.wrap ((a:Int)+(b:Int))=((a+b:Nat):Int):=by rw[w64 (by omega) (by omega)];omega
theorem zeg (a b:Nat)(h:b≤a)(h2:a≤9223372036854775807):IntKind.i64.wrap ((a:Int)-(b:Int))=((a-b:Nat):Int):=by rw[w64 (by omega) (by omega)];omega
theorem zgT (a:Nat)(h:a+1≤9223372036854775807):IntKind.i64.wrap ((a:Int)+1)=((a+1:Nat):Int):=by rw[w64 (by omega) (by omega)];omega
theorem zoC (a:Nat)(h:1≤a)(h2:a≤9223372036854775807):IntKind.i64.wrap ((a:Int)-1)=((a-1:Nat):Int):=by rw[w64 (by omega) (by omega)];omega
theorem zle (C:CmpOK v f P r n){h:Heap}{A U M V D:List Nat}(H:IxRow v P n h (A++U++M++V++D)){a b k:Nat}(ha:a=A.length)(hb:b=A.length+U.length+M.length)(hU:U.length=k)(hV:V.length=k):
  FCall prog zaI #[v,iv a,iv b,iv k,f] h fun _ h'=>IxRow v P n h' (A++V++M++U++D)∧Fr (blk v) h h':=by
 apply zeS
 unfold zco
 have hsm:=H.small
 simp only[List.length_append]at hsm
 refine zaF k 0 (fun i (_:Unit)=>[iv i]) (fun i _ h'=>IxRow v P n h' (A++V.take i++(U.drop i++M++U.take i++(V.drop i++D)))∧Fr (blk v) h h') () rfl (Nat.zero_le _) ⟨by simpa using H,Fr.refl _ _⟩ fun i _ h1 again ρj _ hi ⟨H1,F1⟩ Hag=>?_
 try simp only[go_sem]
 refine zac (fun h0=>?_) (fun h0=>?_)
 ·have hi':i<k:=by omega
  have dU:U.drop i=U[i]::U.drop (i+1):=List.drop_eq_getElem_cons (by omega)
  have dV:V.drop i=V[i]::V.drop (i+1):=List.drop_eq_getElem_cons (by omega)
  have tU:U.take (i+1)=U.take i++[U[i]]:=List.take_succ_eq_append_getElem (by omega)
  have tV:V.take (i+1)=V.take i++[V[i]]:=List.take_succ_eq_append_getElem (by omega)
  have H2:IxRow v P n h1 ((A++V.take i)++U[i]::((U.drop (i+1)++M++U.take i)++V[i]::(V.drop (i+1)++D))):=by
   rw[dU,dV]at H1
   simpa only[List.append_assoc,List.cons_append,List.nil_append]using H1
  obtain⟨p,q,e1,e2,e3,e4,st⟩:=H2.swap C (i:=a+i) (j:=b+i) (by rw[List.length_append,List.length_take];omega) (by simp only[List.length_append,List.length_take,List.length_drop];omega)
  refine zaj (fun h'=>h'=h1) rfl ?_
  rw[zhZ a i (by omega),zhZ b i (by omega)]
  simp only[go_sem,e1,e2]
  refine zae (iv V[i]) (fun h' e=>by rw[e];exact e4) ?_
  refine zae (iv U[i]) (fun h' e=>by rw[e];exact e3) ?_
  refine(st _ fun h3 H3 F3=>?_).1
  rw[zgT i (by omega)]
  refine Hag () h3 hi' ⟨?_,F1.trans F3⟩
  rw[tU,tV]
  simpa only[List.append_assoc,List.cons_append,List.nil_append]using H3
 ·have:i=k:=by omega
  subst this
  rw[List.take_of_length_le (by omega),List.take_of_length_le (by omega),List.drop_eq_nil_of_le (by omega),List.drop_eq_nil_of_le (by omega)]at H1
  exact⟨by simpa using H1,F1⟩
theorem c_rotate (C:CmpOK v f P r n){h:Heap}{A U V D:List Nat}(H:IxRow v P n h (A++U++V++D)){a m b:Nat}(ha:a=A.length)(hm:m=A.length+U.length)(hb:b=A.length+U.length+V.length)(hU:0<U.length)(hV:0<V.length):
  FCall prog zb0 #[v,iv a,iv m,iv b,f] h fun _ h'=>IxRow v P n h' (A++V++U++D)∧Fr (blk v) h h':=by
 apply zf5
 unfold zcO
 have hsm:=H.small
 simp only[List.length_append]at hsm
 simp only[zcx,zaa]
 rw[zeg m a (by omega) (by omega),zeg b m (by omega) (by omega)]
 refine za1 (fun d xs h'=>∃(P1 U1 V1 Q1:List Nat),d=U1.length+V1.length∧xs=[iv U1.length,iv V1.length]∧0<U1.length∧0<V1.length∧IxRow v P n h' (P1++U1++V1++Q1)∧Fr (blk v) h h'∧m=P1.length+U1.length∧P1++V1++U1++Q1=A++V++U++D)
  (U.length+V.length) ⟨A,U,V,D,rfl,by rw[show m-a=U.length by omega,show b-m=V.length by omega],hU,hV,H,Fr.refl _ _,hm,rfl⟩ ?_
 rintro d xs ρj h1 again ⟨P1,U1,V1,Q1,rfl,rfl,u0,v0,H1,F1,hm1,hg⟩ Hag
 have hsm1:=H1.small
 simp only[List.length_append]at hsm1
 simp only[ix_0,ix_1,zh8,zaa]
 by_cases hne:U1.length=V1.length
 ·have e:((U1.length:Int)=(V1.length:Int))=True:=eq_true (by omega)
  simp only[go_sem,e]
  rw[zeg m U1.length (by omega) (by omega)]
  refine(zle C (A:=P1) (U:=U1) (M:=[]) (V:=V1) (D:=Q1) (k:=U1.length) (by simpa using H1) (by omega) (by simp;omega) rfl hne.symm).mono fun w h2 ⟨H2,F2⟩=>?_
  refine⟨?_,F1.trans F2⟩
  rw[←hg]
  simpa using H2
 ·have e:((U1.length:Int)=(V1.length:Int))=False:=eq_false (by omega)
  simp only[go_sem,e]
  refine zac (fun h0=>?_) (fun h0=>?_)
  ·rw[zeg m U1.length (by omega) (by omega)]
   have hsp:U1=U1.take V1.length++U1.drop V1.length:=(List.take_append_drop _ _).symm
   have l1:(U1.take V1.length).length=V1.length:=by rw[List.length_take];omega
   have l2:(U1.drop V1.length).length=U1.length-V1.length:=by rw[List.length_drop]
   refine(zle C (A:=P1) (U:=U1.take V1.length) (M:=U1.drop V1.length) (V:=V1) (D:=Q1) (k:=V1.length) (by rw[List.append_assoc P1,←hsp];exact H1) (by omega) (by omega) l1 rfl).mono fun w h2 ⟨H2,F2⟩=>?_
   try simp only[go_sem]
   rw[zeg U1.length V1.length (by omega) (by omega)]
   refine Hag _ _ (U1.length-V1.length+V1.length) (by omega) ⟨P1++V1,U1.drop V1.length,U1.take V1.length,Q1,by rw[l1,l2],by rw[l1,l2],by omega,by omega,by simpa using H2,F1.trans F2,by rw[List.length_append];omega,?_⟩
   rw[←hg]
   simp only[List.append_assoc]
   rw[←List.append_assoc (U1.take _),←hsp]
  ·rw[zeg m U1.length (by omega) (by omega),zhZ m V1.length (by omega),zeg (m+V1.length) U1.length (by omega) (by omega)]
   have hsp:V1=V1.take (V1.length-U1.length)++V1.drop (V1.length-U1.length):=(List.take_append_drop _ _).symm
   have l1:(V1.take (V1.length-U1.length)).length=V1.length-U1.length:=by rw[List.length_take];omega
   have l2:(V1.drop (V1.length-U1.length)).length=U1.length:=by rw[List.length_drop];omega
   refine(zle C (A:=P1) (U:=U1) (M:=V1.take (V1.length-U1.length)) (V:=V1.drop (V1.length-U1.length)) (D:=Q1) (k:=U1.length) (by
    have e:P1++U1++V1.take (V1.length-U1.length)++V1.drop (V1.length-U1.length)++Q1=P1++U1++V1++Q1:=by
     conv=>rhs;rw[hsp]
     simp only[List.append_assoc]
    rw[e];exact H1) (by omega) (by omega) rfl l2).mono fun w h2 ⟨H2,F2⟩=>?_
   try simp only[go_sem]
   rw[zeg V1.length U1.length (by omega) (by omega)]
   refine Hag _ _ (U1.length+(V1.length-U1.length)) (by omega) ⟨P1,V1.drop (V1.length-U1.length),V1.take (V1.length-U1.length),U1++Q1,by rw[l1,l2],by rw[l1,l2],by omega,by omega,by simpa using H2,F1.trans F2,by omega,?_⟩
   rw[←hg]
   simp only[List.append_assoc]
   rw[←List.append_assoc (V1.take _),←hsp]
end
end
section
theorem zoH {i j:Nat}{K:Value→Prop}(h:i+j<9223372036854775808):(vK (binV .i .add (iv i) (iv j)) fun v8=>vK (cviV .u64 v8) fun v9=>vK (binV .i .shr v9 (.int .u64 1)) fun v10=>vK (cviV .i64 v10) K)=K (iv ((i+j)/2)):=by
 rw[za6,zaa,zhZ i j (by omega),zoI,zaa,zb7 (by omega),show(1:Int)=((1:Nat):Int)from rfl,ze3 _ (by omega),zaa,zoI,zaa,w64 (by omega) (by omega)]
section
variable {v f:Value}{P:Heap→Prop}{r:Nat→Int}{n:Nat}
theorem zgU {x y:Nat}(h:x<y):lead r y x↔r x<r y:=by unfold lead;omega
theorem put_in {S1 S2:List Nat}{x:Nat}(hs:(S1++S2).Pairwise (lead r))(h1:∀y∈S1,lead r y x)(h2:∀y∈S2,lead r x y):(S1++x::S2).Pairwise (lead r):=by
 rw[List.pairwise_append]at hs ⊢
 refine⟨hs.1,List.pairwise_cons.2 ⟨h2,hs.2.1⟩,fun y hy z hz=>?_⟩
 rcases List.mem_cons.1 hz with rfl|hz
 ·exact h1 y hy
 ·exact hs.2.2 y hy z hz
theorem last_lead {S1:List Nat}{y x:Nat}(hs:(S1++[y]).Pairwise (lead r))(h:lead r y x):∀z∈S1++[y],lead r z x:=by
 rw[List.pairwise_append]at hs
 intro z hz
 rcases List.mem_append.1 hz with hz|hz
 ·exact zdE (hs.2.2 z hz y (by simp)) h
 ·rw[List.mem_singleton.1 hz];exact h
theorem zpV (C:CmpOK v f P r n){h:Heap}{A M D:List Nat}(H:IxRow v P n h (A++M++D)){a b:Nat}(ha:a=A.length)(hb:b=A.length+M.length)(asc:M.Pairwise (· < ·)):
  FCall prog zaL #[v,iv a,iv b,f] h fun _ h'=>∃M':List Nat,M'.Perm M∧M'.Pairwise (lead r)∧IxRow v P n h' (A++M'++D)∧Fr (blk v) h h':=by
 apply zdJ
 unfold zbW
 have hsm:=H.small
 simp only[List.length_append]at hsm
 rw[za6,zaa,zgT a (by omega)]
 refine zaF (M.length-1) 0 (fun k (_:Unit)=>[iv (a+1+k)]) (fun k _ h'=>∃S:List Nat,S.Perm (M.take (k+1))∧S.Pairwise (lead r)∧IxRow v P n h' (A++S++M.drop (k+1)++D)∧Fr (blk v) h h') () rfl (Nat.zero_le _)
  ⟨M.take 1,List.Perm.refl _,?_,by rw[List.append_assoc A,List.take_append_drop];exact H,Fr.refl _ _⟩ fun k _ h1 again ρj _ hk ⟨S,hp,hs,H1,F1⟩ Hag=>?_
 ·cases M with
  |nil=>simp
  |cons x M=>simp
 simp only[ix_0,zbp,zaa]
 refine zac (fun h0=>?_) (fun h0=>?_)
 ·have hk1:k+1<M.length:=by omega
  have dM:M.drop (k+1)=M[k+1]::M.drop (k+1+1):=List.drop_eq_getElem_cons hk1
  have tM:M.take (k+1+1)=M.take (k+1)++[M[k+1]]:=List.take_succ_eq_append_getElem hk1
  have hSl:S.length=k+1:=by rw[hp.length_eq,List.length_take];omega
  have hlt:∀y∈S,y<M[k+1]:=fun y hy=>by
   have:=hp.mem_iff.1 hy
   obtain⟨i,hi,rfl⟩:=List.mem_iff_getElem.1 this
   rw[List.length_take]at hi
   rw[List.getElem_take]
   exact List.pairwise_iff_getElem.1 asc i (k+1) (by omega) hk1 (by omega)
  generalize M[k+1]=x at*
  refine za1 (fun d xs h'=>∃S1 S2:List Nat,d=S1.length∧xs=[iv (a+S1.length)]∧S=S1++S2∧(∀y∈S2,lead r x y)∧IxRow v P n h' (A++S1++x::(S2++M.drop (k+1+1)++D))∧Fr (blk v) h h') S.length
   ⟨S,[],rfl,by rw[hSl];congr 2;omega,by simp,by simp,by rw[dM]at H1;simpa only[List.append_assoc,List.cons_append,List.nil_append]using H1,F1⟩ ?_
  rintro d xs ρj2 h2 again2 ⟨S1,S2,rfl,rfl,rfl,hx,H2,F2⟩ Hag2
  simp only[ix_0,zjZ,zaa]
  have Done:(∀y∈S1,lead r y x)→IxRow v P n h2 (A++S1++x::(S2++M.drop (k+1+1)++D))→Fr (blk v) h h2→again [.int .i64 (IntKind.i64.wrap (((a+1+k:Nat):Int)+1))] h2:=by
   intro g1 g2 g3
   rw[zgT (a+1+k) (by omega),show a+1+k+1=a+1+(k+1)by omega]
   refine Hag () h2 (by omega) ⟨S1++x::S2,?_,put_in hs g1 hx,by simpa only[List.append_assoc,List.cons_append,List.nil_append]using g2,g3⟩
   rw[tM]
   exact List.perm_middle.trans ((List.Perm.cons _ hp).trans (List.perm_append_comm (l₁:=[x])))
  refine zaj (fun h'=>h'=h2) rfl ?_
  rcases List.eq_nil_or_concat S1 with rfl|⟨S1,y,rfl⟩
  ·have e:((a:Int)<((a+([]:List Nat).length:Nat):Int))=False:=eq_false (by simp)
   simp only[go_sem,e]
   refine zae undef (fun _ _=>rfl) ?_
   refine zae undef (fun _ _=>rfl) ?_
   try simp only[go_sem]
   exact Done (by simp) H2 F2
  ·have hyl:(S1.concat y).length=S1.length+1:=by simp
   have hyx:y<x:=hlt y (by simp)
   have hsm2:=H2.small
   simp only[List.length_append,List.length_cons,hyl]at hsm2
   have H3:IxRow v P n h2 ((A++S1)++y::([]++x::(S2++M.drop (k+1+1)++D))):=by
    simpa only[List.concat_eq_append,List.append_assoc,List.cons_append,List.nil_append]using H2
   obtain⟨p,q,e1,e2,e3,e4,st⟩:=H3.swap C (i:=a+S1.length) (j:=a+(S1.length+1)) (by rw[List.length_append];omega) (by rw[List.length_append,List.length_nil];omega)
   have e:((a:Int)<((a+(S1.length+1):Nat):Int))=True:=eq_true (by omega)
   have es:IntKind.i64.wrap (((a+(S1.length+1):Nat):Int)-1)=((a+S1.length:Nat):Int):=by rw[zoC _ (by omega) (by omega)];congr 1
   simp only[go_sem,e,hyl,es,e1,e2]
   refine zae (iv x) (fun h' e=>by rw[e];exact e4) ?_
   refine zae (iv y) (fun h' e=>by rw[e];exact e3) ?_
   refine C.call H2.ok (H2.below x (by simp)) (H2.below y (by simp)) fun c hc=>?_
   simp only[go_sem]
   have hsS:(S1++[y]).Pairwise (lead r):=by
    have:=(List.pairwise_append.1 hs).1
    simpa only[List.concat_eq_append]using this
   refine zac (fun hcl=>?_) (fun hcl=>?_)
   ·refine zaj (fun h'=>h'=h2) rfl ?_
    try simp only[go_sem,e1,e2]
    refine zae (iv y) (fun h' e=>by rw[e];exact e3) ?_
    refine zae (iv x) (fun h' e=>by rw[e];exact e4) ?_
    refine(st _ fun h3 H4 F3=>?_).2
    refine Hag2 _ h3 S1.length (by omega) ⟨S1,y::S2,rfl,rfl,by simp[List.concat_eq_append],fun z hz=>?_,by simpa only[List.append_assoc,List.cons_append,List.nil_append]using H4,F2.trans F3⟩
    rcases List.mem_cons.1 hz with rfl|hz
    ·exact(zgU hyx).2 (hc.1 hcl)
    ·exact hx z hz
   ·refine Done ?_ H2 F2
    have hl:lead r y x:=by
     have:¬lead r x y:=fun g=>hcl (hc.2 ((zgU hyx).1 g))
     exact(zdF r (show y≠x by omega)).resolve_right this
    have:=last_lead hsS hl
    simpa only[List.concat_eq_append]using this
 ·have hle:M.length≤k+1:=by omega
  refine⟨S,?_,hs,?_,F1⟩
  ·rw[List.take_of_length_le hle]at hp;exact hp
  ·rw[List.drop_eq_nil_of_le hle]at H1;simpa using H1
theorem zre (C:CmpOK v f P r n):∀(N:Nat) {h:Heap} {A L R D:List Nat} (H:IxRow v P n h (A++L++R++D)) {a m b:Nat} (ha:a=A.length) (hm:m=A.length+L.length) (hb:b=A.length+L.length+R.length)
  (hL:0<L.length) (hR:0<R.length) (sL:L.Pairwise (lead r)) (sR:R.Pairwise (lead r)) (hlt:∀x∈L,∀y∈R,x<y) (hN:L.length+R.length≤N),
  FCall prog zay #[v,iv a,iv m,iv b,f] h fun _ h'=>∃S:List Nat,S.Perm (L++R)∧S.Pairwise (lead r)∧IxRow v P n h' (A++S++D)∧Fr (blk v) h h':=by
 intro N
 induction N with
 |zero=>intro h A L R D H a m b ha hm hb hL hR sL sR hlt hN;omega
 |succ N ih=>
 intro h A L R D H a m b ha hm hb hL hR sL sR hlt hN
 apply ze6
 unfold zcA
 have hsm:=H.small
 simp only[List.length_append]at hsm
 -- elements of the two parts
 have hAt:∀{h':Heap},IxRow v P n h' (A++L++R++D)→∀k (hk:k<L.length),∃p,idxV 1 v (iv (a+k))=some p∧ldV h' p=some (iv L[k])∧L[k]<n:=fun H' k hk=>by
  obtain⟨p,e1,e2⟩:=H'.at (i:=a+k) (by simp only[List.length_append];omega)
  have e:(A++L++R++D)[a+k]'(by simp only[List.length_append];omega)=L[k]:=by
   apply Option.some.inj
   rw[←List.getElem?_eq_getElem,List.append_assoc,List.append_assoc,List.getElem?_append_right (by omega),show a+k-A.length=k by omega,List.getElem?_append_left hk,List.getElem?_eq_getElem hk]
  exact⟨p,e1,by rw[e2,e],H'.below _ (by simp[List.getElem_mem])⟩
 have hAtR:∀{h':Heap},IxRow v P n h' (A++L++R++D)→∀k (hk:k<R.length),∃p,idxV 1 v (iv (m+k))=some p∧ldV h' p=some (iv R[k])∧R[k]<n:=fun H' k hk=>by
  obtain⟨p,e1,e2⟩:=H'.at (i:=m+k) (by simp only[List.length_append];omega)
  have e:(A++L++R++D)[m+k]'(by simp only[List.length_append];omega)=R[k]:=by
   apply Option.some.inj
   rw[←List.getElem?_eq_getElem,List.append_assoc,List.getElem?_append_right (by simp only[List.length_append];omega),List.length_append,show m+k-(A.length+L.length)=k by omega,List.getElem?_append_left hk,List.getElem?_eq_getElem hk]
  exact⟨p,e1,by rw[e2,e],H'.below _ (by simp[List.getElem_mem])⟩
 simp only[zcx,zeB,zaa]
 rw[zeg m a (by omega) (by omega),zeg b m (by omega) (by omega)]
 refine zac (fun h1=>?_) (fun h1=>?_)
 ·-- one on the left
  have hL1:L.length=1:=by omega
  obtain⟨x,rfl⟩:=List.length_eq_one_iff.1 hL1
  refine za1 (fun d xs h'=>h'=h∧∃i j:Nat,d=j-i∧xs=[iv (m+i),iv (m+j)]∧i≤j∧j≤R.length∧(∀h0:0<i,∀hi:i-1<R.length,lead r R[i-1] x)∧(∀hj:j<R.length,¬lead r R[j] x)) R.length
   ⟨rfl,0,R.length,rfl,by rw[show b=m+R.length by omega];rfl,by omega,Nat.le_refl _,by omega,by omega⟩ ?_
  rintro d xs ρj h' again ⟨hh,i,j,rfl,rfl,hij,hj,c1,c2⟩ Hag
  subst hh
  simp only[ix_0,ix_1,zbp,zaa]
  refine zac (fun h2=>?_) (fun h2=>?_)
  ·rw[zoH (by omega),show(m+i+(m+j))/2=m+(i+j)/2 by omega]
   have hk:(i+j)/2<R.length:=by omega
   obtain⟨p,e1,e2,b1⟩:=hAtR H ((i+j)/2) hk
   obtain⟨q,g1,g2,b2⟩:=hAt H 0 (by omega)
   simp only[Nat.add_zero,List.getElem_cons_zero]at g1 g2 b2
   refine zaj (fun h2=>h2=h') rfl ?_
   simp only[e1,g1,zaa]
   refine zae _ (fun h2 e=>by rw[e];exact e2) ?_
   refine zae _ (fun h2 e=>by rw[e];exact g2) ?_
   refine C.call H.ok b1 b2 fun c hc=>?_
   have hxy:x<R[(i+j)/2]:=hlt x (by simp) _ (List.getElem_mem _)
   try simp only[go_sem]
   refine zac (fun h3=>?_) (fun h3=>?_)
   ·rw[zgT _ (by omega)]
    refine Hag _ _ (j-((i+j)/2+1)) (by omega) ⟨rfl,(i+j)/2+1,j,rfl,rfl,by omega,hj,fun _ _=>?_,c2⟩
    exact(zgU hxy).2 (hc.1 h3)
   ·refine Hag _ _ ((i+j)/2-i) (by omega) ⟨rfl,i,(i+j)/2,rfl,rfl,by omega,by omega,c1,fun _ g=>h3 (hc.2 ((zgU hxy).1 g))⟩
  ·have hij2:i=j:=by omega
   subst hij2
   -- it goes to its place
   refine zaF i 0 (fun c (_:Unit)=>[iv (a+c)]) (fun c _ h2=>IxRow v P n h2 (A++R.take c++x::(R.drop c++D))∧Fr (blk v) h' h2) () rfl (Nat.zero_le _) ⟨by simpa using H,Fr.refl _ _⟩ fun c _ h2 again2 ρj2 _ hc ⟨H2,F2⟩ Hag2=>?_
   simp only[ix_0,zcx,zbp,zaa]
   rw[zoC _ (by omega) (by omega)]
   have lA:A.length+[x].length=A.length+1:=rfl
   refine zac (fun h3=>?_) (fun h3=>?_)
   ·have hci:c<i:=by omega
    have dR:R.drop c=R[c]::R.drop (c+1):=List.drop_eq_getElem_cons (by omega)
    have tR:R.take (c+1)=R.take c++[R[c]]:=List.take_succ_eq_append_getElem (by omega)
    have H3:IxRow v P n h2 ((A++R.take c)++x::([]++R[c]::(R.drop (c+1)++D))):=by
     rw[dR]at H2
     simpa only[List.append_assoc,List.cons_append,List.nil_append]using H2
    obtain⟨p,q,e1,e2,e3,e4,st⟩:=H3.swap C (i:=a+c) (j:=a+c+1) (by rw[List.length_append,List.length_take];omega) (by rw[List.length_append,List.length_take,List.length_nil];omega)
    refine zaj (fun h3=>h3=h2) rfl ?_
    rw[za6,zaa,zgT _ (by omega)]
    simp only[go_sem,e1,e2]
    refine zae _ (fun h3 e=>by rw[e];exact e4) ?_
    refine zae _ (fun h3 e=>by rw[e];exact e3) ?_
    refine(st _ fun h3 H4 F3=>?_).1
    try rw[zgT _ (by omega)]
    refine Hag2 () h3 hci ⟨?_,F2.trans F3⟩
    rw[tR]
    simpa only[List.append_assoc,List.cons_append,List.nil_append]using H4
   ·have:c=i:=by omega
    subst this
    refine⟨R.take c++x::R.drop c,?_,?_,by simpa only[List.append_assoc,List.cons_append,List.nil_append]using H2,F2⟩
    ·refine List.perm_middle.trans ?_
     rw[List.take_append_drop]
     exact List.Perm.refl _
    ·refine put_in (by rw[List.take_append_drop];exact sR) (fun y hy=>?_) (fun y hy=>?_)
     ·obtain⟨k,hk,rfl⟩:=List.mem_iff_getElem.1 hy
      rw[List.length_take]at hk
      rw[List.getElem_take]
      exact zlv (lt:=lead r) zdE sR (i:=k) (j:=c-1) (by omega) (by omega) (c1 (by omega) (by omega))
     ·obtain⟨k,hk,rfl⟩:=List.mem_iff_getElem.1 hy
      rw[List.length_drop]at hk
      rw[List.getElem_drop]
      have hx:lead r x R[c]:=(zdF r (show x≠R[c]by have:=hlt x (by simp) _ (List.getElem_mem (l:=R) (n:=c) (by omega));omega)).resolve_right (c2 (by omega))
      exact zlw (lt:=lead r) zdE sR (i:=c) (j:=c+k) (by omega) (by omega) hx
 refine zac (fun h2=>?_) (fun h2=>?_)
 ·-- one on the right
  have hR1:R.length=1:=by omega
  obtain⟨y,rfl⟩:=List.length_eq_one_iff.1 hR1
  refine za1 (fun d xs h'=>h'=h∧∃i j:Nat,d=j-i∧xs=[iv (a+i),iv (a+j)]∧i≤j∧j≤L.length∧(∀h0:0<i,∀hi:i-1<L.length,lead r L[i-1] y)∧(∀hj:j<L.length,¬lead r L[j] y)) L.length
   ⟨rfl,0,L.length,rfl,by rw[show m=a+L.length by omega];rfl,by omega,Nat.le_refl _,by omega,by omega⟩ ?_
  rintro d xs ρj h' again ⟨hh,i,j,rfl,rfl,hij,hj,c1,c2⟩ Hag
  subst hh
  simp only[ix_0,ix_1,zbp,zaa]
  refine zac (fun h3=>?_) (fun h3=>?_)
  ·rw[zoH (by omega),show(a+i+(a+j))/2=a+(i+j)/2 by omega]
   have hk:(i+j)/2<L.length:=by omega
   obtain⟨p,e1,e2,b1⟩:=hAt H ((i+j)/2) hk
   obtain⟨q,g1,g2,b2⟩:=hAtR H 0 (by simp)
   simp only[Nat.add_zero,List.getElem_cons_zero]at g1 g2 b2
   refine zaj (fun h2=>h2=h') rfl ?_
   simp only[e1,g1,zaa]
   refine zae _ (fun h2 e=>by rw[e];exact g2) ?_
   refine zae _ (fun h2 e=>by rw[e];exact e2) ?_
   refine C.call H.ok b2 b1 fun c hc=>?_
   have hxy:L[(i+j)/2]<y:=hlt _ (List.getElem_mem _) y (by simp)
   simp only[go_sem]
   refine zac (fun h4=>?_) (fun h4=>?_)
   ·rw[zgT _ (by omega)]
    refine Hag _ _ (j-((i+j)/2+1)) (by omega) ⟨rfl,(i+j)/2+1,j,rfl,rfl,by omega,hj,fun _ _=>?_,c2⟩
    have e:(i+j)/2+1-1=(i+j)/2:=by omega
    simp only[e]
    exact(zdF r (by omega)).resolve_right fun g=>h4 (hc.2 ((zgU hxy).1 g))
   ·refine Hag _ _ ((i+j)/2-i) (by omega) ⟨rfl,i,(i+j)/2,rfl,rfl,by omega,by omega,c1,fun _ g=>?_⟩
    exact zq2 g ((zgU hxy).2 (hc.1 (Decidable.of_not_not h4)))
  ·have hij2:i=j:=by omega
   subst hij2
   refine za1 (fun d xs h2=>∃c:Nat,d=c∧xs=[iv (a+c)]∧i≤c∧c≤L.length∧IxRow v P n h2 (A++L.take c++y::(L.drop c++D))∧Fr (blk v) h' h2) L.length
    ⟨L.length,rfl,by rw[show m=a+L.length by omega],hj,Nat.le_refl _,by rw[List.take_of_length_le (Nat.le_refl _),List.drop_eq_nil_of_le (Nat.le_refl _)];simpa using H,Fr.refl _ _⟩ ?_
   rintro d xs ρj2 h2 again2 ⟨c,hdc,rfl,hic,hcL,H2,F2⟩ Hag2
   have hdc:=hdc.symm
   subst hdc
   simp only[ix_0,zjZ,zaa]
   refine zac (fun h4=>?_) (fun h4=>?_)
   ·obtain⟨c,rfl⟩:∃e,c=e+1:=⟨c-1,by omega⟩
    have dL:L.drop c=L[c]::L.drop (c+1):=List.drop_eq_getElem_cons (by omega)
    have tL:L.take (c+1)=L.take c++[L[c]]:=List.take_succ_eq_append_getElem (by omega)
    have H3:IxRow v P n h2 ((A++L.take c)++L[c]::([]++y::(L.drop (c+1)++D))):=by
     rw[tL]at H2
     simpa only[List.append_assoc,List.cons_append,List.nil_append]using H2
    obtain⟨p,q,e1,e2,e3,e4,st⟩:=H3.swap C (i:=a+c) (j:=a+(c+1)) (by rw[List.length_append,List.length_take];omega) (by rw[List.length_append,List.length_take,List.length_nil];omega)
    have es:IntKind.i64.wrap (((a+(c+1):Nat):Int)-1)=((a+c:Nat):Int):=by rw[zoC _ (by omega) (by omega)];congr 1
    refine zaj (fun h3=>h3=h2) rfl ?_
    simp only[go_sem,es,e1,e2]
    refine zae _ (fun h3 e=>by rw[e];exact e3) ?_
    refine zae _ (fun h3 e=>by rw[e];exact e4) ?_
    refine(st _ fun h3 H4 F3=>?_).2
    refine Hag2 _ h3 c (by omega) ⟨c,rfl,rfl,by omega,by omega,?_,F2.trans F3⟩
    rw[dL]
    simpa only[List.append_assoc,List.cons_append,List.nil_append]using H4
   ·have:c=i:=by omega
    subst this
    refine⟨L.take c++y::L.drop c,?_,?_,by simpa only[List.append_assoc,List.cons_append,List.nil_append]using H2,F2⟩
    ·refine List.perm_middle.trans ?_
     rw[List.take_append_drop]
     exact List.perm_append_comm (l₁:=[y])
    ·refine put_in (by rw[List.take_append_drop];exact sL) (fun z hz=>?_) (fun z hz=>?_)
     ·obtain⟨k,hk,rfl⟩:=List.mem_iff_getElem.1 hz
      rw[List.length_take]at hk
      rw[List.getElem_take]
      exact zlv (lt:=lead r) zdE sL (i:=k) (j:=c-1) (by omega) (by omega) (c1 (by omega) (by omega))
     ·obtain⟨k,hk,rfl⟩:=List.mem_iff_getElem.1 hz
      rw[List.length_drop]at hk
      rw[List.getElem_drop]
      have hx:lead r y L[c]:=(zdF r (show y≠L[c]by have:=hlt _ (List.getElem_mem (l:=L) (n:=c) (by omega)) y (by simp);omega)).resolve_right (c2 (by omega))
      exact zlw (lt:=lead r) zdE sL (i:=c) (j:=c+k) (by omega) (by omega) hx
 -- cut in the middle
 rw[zoH (by omega)]
 obtain⟨mid,hmid⟩:∃mid,mid=(a+b)/2:=⟨_,rfl⟩
 rw[←hmid,za6,zaa,zhZ mid m (by omega)]
 obtain⟨s0,hs0⟩:∃s0,s0=if mid<m then mid+m-b else a:=⟨_,rfl⟩
 obtain⟨r0,hr0⟩:∃r0,r0=if mid<m then mid else m:=⟨_,rfl⟩
 have hs0':(mid<m→s0=mid+m-b)∧(¬mid<m→s0=a):=⟨fun h=>by rw[hs0,if_pos h],fun h=>by rw[hs0,if_neg h]⟩
 have hr0':(mid<m→r0=mid)∧(¬mid<m→r0=m):=⟨fun h=>by rw[hr0,if_pos h],fun h=>by rw[hr0,if_neg h]⟩
 clear hs0 hr0
 refine zar (fun xs h'=>h'=h∧xs=[iv s0,iv r0]) ?_ ?_
 ·rw[zjZ,zaa]
  refine zac (fun h3=>?_) (fun h3=>?_)
  ·rw[zcx,zaa,zeg (mid+m) b (by omega) (by omega)]
   exact⟨rfl,by rw[hs0'.1 (by omega),hr0'.1 (by omega)]⟩
  ·exact⟨rfl,by rw[hs0'.2 (by omega),hr0'.2 (by omega)]⟩
 rintro xs ρj h' ⟨hh,rfl⟩
 subst hh
 simp only[ix_0,ix_1]
 rw[zcx,zaa,zoC (mid+m) (by omega) (by omega)]
 have hb0:a≤s0∧s0≤r0∧r0≤m∧r0≤mid∧mid+m-b≤s0:=by
  by_cases h3:mid<m
  ·have e1:=hs0'.1 h3
   have e2:=hr0'.1 h3
   omega
  ·have e1:=hs0'.2 h3
   have e2:=hr0'.2 h3
   omega
 -- which ones come ahead
 have cmpAt:∀c:Nat,s0≤c→c<r0→∃(h1:c-a<L.length) (h2:mid-1-c<R.length),∃p q,idxV 1 v (iv c)=some p∧ldV h' p=some (iv L[c-a])∧idxV 1 v (iv (mid+m-1-c))=some q∧ldV h' q=some (iv R[mid-1-c])∧L[c-a]<n∧R[mid-1-c]<n:=by
  intro c h1 h2
  have l1:c-a<L.length:=by omega
  have l2:mid-1-c<R.length:=by omega
  obtain⟨p,e1,e2,b1⟩:=hAt H (c-a) l1
  obtain⟨q,g1,g2,b2⟩:=hAtR H (mid-1-c) l2
  rw[show a+(c-a)=c by omega]at e1
  rw[show m+(mid-1-c)=mid+m-1-c by omega]at g1
  exact⟨l1,l2,p,q,e1,e2,g1,g2,b1,b2⟩
 refine za1 (fun d xs h2=>h2=h'∧∃i j:Nat,d=j-i∧xs=[iv i,iv j]∧s0≤i∧i≤j∧j≤r0∧(∀h0:s0<i,∀(g1:i-1-a<L.length) (g2:mid-i<R.length),lead r L[i-1-a] R[mid-i])∧(j<r0→∀(g1:j-a<L.length) (g2:mid-1-j<R.length),lead r R[mid-1-j] L[j-a])) (r0-s0)
  ⟨rfl,s0,r0,rfl,rfl,Nat.le_refl _,hb0.2.1,Nat.le_refl _,by omega,by omega⟩ ?_
 rintro d xs ρj2 h2 again ⟨hh,i,j,rfl,rfl,hsi,hij,hjr,c1,c2⟩ Hag
 subst hh
 simp only[ix_0,ix_1,zbp,zaa]
 refine zac (fun h3=>?_) (fun h3=>?_)
 ·rw[zoH (by omega)]
  obtain⟨l1,l2,p,q,e1,e2,g1,g2,b1,b2⟩:=cmpAt ((i+j)/2) (by omega) (by omega)
  obtain⟨c,hc⟩:∃c,c=(i+j)/2:=⟨_,rfl⟩
  simp only[←hc]at l1 l2 e1 e2 g1 g2 b1 b2 ⊢
  have hxy:L[c-a]<R[mid-1-c]:=hlt _ (List.getElem_mem _) _ (List.getElem_mem _)
  refine zaj (fun h4=>h4=h2) rfl ?_
  simp only[zcx,zaa]
  rw[zeg (mid+m-1) c (by omega) (by omega)]
  simp only[e1,g1,zaa]
  refine zae _ (fun h3 e=>by rw[e];exact g2) ?_
  refine zae _ (fun h3 e=>by rw[e];exact e2) ?_
  refine C.call H.ok b2 b1 fun w hw=>?_
  simp only[go_sem]
  refine zac (fun h4=>?_) (fun h4=>?_)
  ·rw[zgT _ (by omega)]
   refine Hag _ _ (j-(c+1)) (by omega) ⟨rfl,c+1,j,rfl,rfl,by omega,by omega,hjr,fun _ _ _=>?_,c2⟩
   have:lead r L[c-a] R[mid-1-c]:=(zdF r (by omega)).resolve_right fun g=>h4 (hw.2 ((zgU hxy).1 g))
   have e:mid-(c+1)=mid-1-c:=by omega
   simp only[e,Nat.add_sub_cancel]
   exact this
  ·refine Hag _ _ (c-i) (by omega) ⟨rfl,i,c,rfl,rfl,hsi,by omega,by omega,c1,fun _ _ _=>(zgU hxy).2 (hw.1 (Decidable.of_not_not h4))⟩
 -- turned round
 have hij2:i=j:=by omega
 subst hij2
 obtain⟨p,hp⟩:∃p,p=i-a:=⟨_,rfl⟩
 obtain⟨q,hq⟩:∃q,q=mid-i:=⟨_,rfl⟩
 have hpL:p≤L.length:=by omega
 have hqR:q≤R.length:=by omega
 have x1:∀(g1:0<p) (g2:q<R.length),lead r (L[p-1]'(by omega)) R[q]:=fun g1 g2=>by
  have hs:s0<i:=by
   by_cases h4:mid<m
   ·have:=hs0'.1 h4;omega
   ·have:=hs0'.2 h4;omega
  have:=c1 hs (by omega) (by omega)
  have e1:i-1-a=p-1:=by omega
  simp only[e1,←hq]at this
  exact this
 have x2:∀(g1:0<q) (g2:p<L.length),lead r (R[q-1]'(by omega)) L[p]:=fun g1 g2=>by
  have hs:i<r0:=by
   by_cases h4:mid<m
   ·have:=hr0'.1 h4;omega
   ·have:=hr0'.2 h4;omega
  have:=c2 hs (by omega) (by omega)
  have e1:mid-1-i=q-1:=by omega
  simp only[e1,←hp]at this
  exact this
 have hcr:=cross (lt:=lead r) zdE sL sR hpL hqR x1 x2
 have lp:(L.take p).length=p:=by rw[List.length_take];omega
 have lq:(R.take q).length=q:=by rw[List.length_take];omega
 have ld:(L.drop p).length=L.length-p:=by rw[List.length_drop]
 have lr:(R.drop q).length=R.length-q:=by rw[List.length_drop]
 have eL:L=L.take p++L.drop p:=(List.take_append_drop _ _).symm
 have eR:R=R.take q++R.drop q:=(List.take_append_drop _ _).symm
 have H0:IxRow v P n h2 ((A++L.take p)++L.drop p++R.take q++(R.drop q++D)):=by
  have e:(A++L.take p)++L.drop p++R.take q++(R.drop q++D)=A++L++R++D:=by
   conv=>rhs;rw[eL,eR]
   simp only[List.append_assoc]
  rw[e];exact H
 rw[zcx,zaa,zeg (mid+m) i (by omega) (by omega)]
 refine zar (fun _ h3=>IxRow v P n h3 (A++L.take p++R.take q++(L.drop p++R.drop q++D))∧Fr (blk v) h2 h3) ?_ ?_
 ·simp only[go_sem]
  refine zac (fun h4=>?_) (fun h4=>?_)
  ·refine(c_rotate C H0 (a:=i) (m:=m) (b:=mid+m-i) (by rw[List.length_append];omega) (by rw[List.length_append];omega) (by rw[List.length_append];omega) (by omega) (by omega)).mono fun w h3 ⟨H3,F3⟩=>?_
   exact⟨by simpa only[List.append_assoc]using H3,F3⟩
  ·refine⟨?_,Fr.refl _ _⟩
   by_cases h5:p=L.length
   ·rw[List.drop_eq_nil_of_le (show L.length≤p by omega)]at H0 ⊢
    simpa only[List.append_assoc,List.append_nil,List.nil_append]using H0
   ·have:q=0:=by omega
    subst this
    simpa only[List.append_assoc,List.take_zero,List.append_nil,List.nil_append]using H0
 rintro xs ρj3 h3 ⟨H3,F3⟩
 -- the two halves
 have hlt1:∀x∈L.take p,∀y∈R.take q,x<y:=fun x hx y hy=>hlt x (List.mem_of_mem_take hx) y (List.mem_of_mem_take hy)
 have hlt2:∀x∈L.drop p,∀y∈R.drop q,x<y:=fun x hx y hy=>hlt x (List.mem_of_mem_drop hx) y (List.mem_of_mem_drop hy)
 have sLt:=sL.sublist (List.take_sublist p L)
 have sLd:=sL.sublist (List.drop_sublist p L)
 have sRt:=sR.sublist (List.take_sublist q R)
 have sRd:=sR.sublist (List.drop_sublist q R)
 have second:∀(S1:List Nat) (h4:Heap),S1.Perm (L.take p++R.take q)→S1.Pairwise (lead r)→IxRow v P n h4 (A++S1++(L.drop p++R.drop q++D))→Fr (blk v) h2 h4→
   vK (binV .i .lss (iv mid) (iv (mid+m-i))) fun v127=>vK (gV v127 true (some (iv (mid+m-i)))) fun v128=>vK (gV v127 true (some (iv b))) fun v129=>vK (gV v127 true (binV .i .lss v128 v129)) fun v130=>vK (pickV v127 v130 (.bool false)) fun v131=>
    iteK v131 (FCall prog zay #[v,iv mid,iv (mid+m-i),iv b,f] h4 fun v132 h133=>∃S:List Nat,S.Perm (L++R)∧S.Pairwise (lead r)∧IxRow v P n h133 (A++S++D)∧Fr (blk v) h2 h133)
     (∃S:List Nat,S.Perm (L++R)∧S.Pairwise (lead r)∧IxRow v P n h4 (A++S++D)∧Fr (blk v) h2 h4):=by
  intro S1 h4 hp1 hs1 H4 F4
  have hS1:S1.length=p+q:=by rw[hp1.length_eq,List.length_append];omega
  have fin:∀(S2:List Nat) (h5:Heap),S2.Perm (L.drop p++R.drop q)→S2.Pairwise (lead r)→IxRow v P n h5 (A++S1++S2++D)→Fr (blk v) h2 h5→∃S:List Nat,S.Perm (L++R)∧S.Pairwise (lead r)∧IxRow v P n h5 (A++S++D)∧Fr (blk v) h2 h5:=by
   intro S2 h5 hp2 hs2 H5 F5
   obtain⟨m1,m2⟩:=merged (lt:=lead r) hcr hp1 hp2 hs1 hs2
   exact⟨S1++S2,m1,m2,by simpa only[List.append_assoc]using H5,F5⟩
  simp only[go_sem]
  refine zac (fun h6=>?_) (fun h6=>?_)
  ·refine(ih (A:=A++S1) (L:=L.drop p) (R:=R.drop q) (D:=D) (by simpa only[List.append_assoc]using H4) (by rw[List.length_append];omega) (by rw[List.length_append];omega) (by rw[List.length_append];omega) (by omega) (by omega) sLd sRd hlt2 (by omega)).mono fun w h5 ⟨S2,g1,g2,g3,g4⟩=>?_
   exact fin S2 h5 g1 g2 g3 (F4.trans g4)
  ·by_cases h7:L.length≤p
   ·rw[List.drop_eq_nil_of_le h7]at H4 fin
    exact fin (R.drop q) h4 (by simp) sRd (by simpa only[List.append_assoc,List.nil_append]using H4) F4
   ·have h8:R.length≤q:=by omega
    rw[List.drop_eq_nil_of_le h8]at H4 fin
    exact fin (L.drop p) h4 (by simp) sLd (by simpa only[List.append_assoc,List.append_nil,List.nil_append]using H4) F4
 simp only[zbp,zaa]
 by_cases h4:a<i∧i<mid
 ·have e1:((a:Int)<(i:Int))=True:=eq_true (by omega)
  have e2:((i:Int)<(mid:Int))=True:=eq_true (by omega)
  simp only[go_sem,e1,e2]
  refine(ih (A:=A) (L:=L.take p) (R:=R.take q) (D:=L.drop p++R.drop q++D) H3 (by omega) (by omega) (by omega) (by omega) (by omega) sLt sRt hlt1 (by omega)).mono fun w h5 ⟨S1,g1,g2,g3,g4⟩=>?_
  have:=second S1 h5 g1 g2 g3 (F3.trans g4)
  simp only[go_sem]at this ⊢
  exact this
 ·have e1:((a:Int)<(i:Int)∧(i:Int)<(mid:Int))=False:=eq_false (by omega)
  simp only[go_sem,e1]
  by_cases h5:p=0
  ·subst h5
   have:=second (R.take q) h3 (by simp) sRt (by simpa only[List.append_assoc,List.take_zero,List.append_nil,List.nil_append]using H3) F3
   simp only[go_sem]at this ⊢
   exact this
  ·have hq0:q=0:=by omega
   have hq0':=hq0
   have:=second (L.take p) h3 (by rw[hq0];simp) sLt (by rw[hq0]at H3 ⊢;simpa only[List.append_assoc,List.take_zero,List.append_nil,List.nil_append]using H3) F3
   simp only[go_sem]at this ⊢
   exact this
end
end
section
def Srt (r:Nat→Int)(lo:Nat)(S:List Nat):Prop:=S.Perm (List.range' lo S.length)∧S.Pairwise (lead r)
theorem Srt.mem {r:Nat→Int}{lo:Nat}{S:List Nat}(H:Srt r lo S){x:Nat}(hx:x∈S):lo≤x∧x<lo+S.length:=by
 have:=H.1.mem_iff.1 hx
 simpa using this
theorem Srt.join {r:Nat→Int}{lo:Nat}{S1 S2 S:List Nat}(h1:Srt r lo S1)(h2:Srt r (lo+S1.length) S2)(hp:S.Perm (S1++S2))(hs:S.Pairwise (lead r)):Srt r lo S:=by
 refine⟨?_,hs⟩
 have hl:S.length=S1.length+S2.length:=by rw[hp.length_eq,List.length_append]
 refine hp.trans ((h1.1.append h2.1).trans ?_)
 rw[hl,List.range'_append_1]
inductive BS (r:Nat→Int)(B:Nat):Nat→List Nat→Prop
 |nil (lo:Nat):BS r B lo []
 |last (lo:Nat) (S:List Nat):0<S.length→S.length≤B→Srt r lo S→BS r B lo S
 |cons (lo:Nat) (S T:List Nat):S.length=B→Srt r lo S→BS r B (lo+B) T→BS r B lo (S++T)
theorem BS.one {r:Nat→Int}{B lo:Nat}{Y:List Nat}(hB:0<B)(H:BS r B lo Y)(hl:B≤Y.length):∃S T,Y=S++T∧S.length=B∧Srt r lo S∧BS r B (lo+B) T:=by
 cases H
 ·simp at hl;omega
 ·rename_i h0 h1 h2;exact⟨Y,[],by simp,by omega,h2,.nil _⟩
 ·rename_i S T h0 h1 h2;exact⟨S,T,rfl,h0,h1,h2⟩
theorem BS.short {r:Nat→Int}{B lo:Nat}{Y:List Nat}(hB:0<B)(H:BS r B lo Y)(hl:Y.length≤B)(h0:0<Y.length):Srt r lo Y:=by
 cases H
 ·simp at h0
 ·rename_i h0 h1 h2;exact h2
 ·rename_i S T h3 h1 h2
  have:T=[]:=List.eq_nil_of_length_eq_zero (by simp at hl;omega)
  subst this
  simpa using h1
section
variable {v f:Value}{P:Heap→Prop}{r:Nat→Int}{n:Nat}
theorem c_stable (C:CmpOK v f P r n){h:Heap}{N:Nat}(H:IxRow v P n h (List.range' 0 N))(hN:N≤1048576):
  FCall prog zbZ #[v,iv N,f] h fun _ h'=>∃S:List Nat,S.Perm (List.range N)∧S.Pairwise (lead r)∧IxRow v P n h' S∧Fr (blk v) h h':=by
 apply zf4
 unfold zcN
 refine za1 (fun d xs h'=>∃(X:List Nat),d=N-X.length∧xs=[iv X.length,iv (X.length+20)]∧X.length≤N∧(∀T,BS r 20 X.length T→BS r 20 0 (X++T))∧IxRow v P n h' (X++List.range' X.length (N-X.length))∧Fr (blk v) h h') N
  ⟨[],rfl,rfl,Nat.zero_le _,fun T h=>h,by simpa using H,Fr.refl _ _⟩ ?_
 rintro d xs ρj h1 again ⟨X,rfl,rfl,hX,hT,H1,F1⟩ Hag
 simp only[ix_0,ix_1,zsV,zaa]
 refine zac (fun h0=>?_) (fun h0=>?_)
 ·have er:List.range' X.length (N-X.length)=List.range' X.length 20++List.range' (X.length+20) (N-(X.length+20)):=by
   rw[List.range'_append_1];congr 1;omega
  have H2:IxRow v P n h1 (X++List.range' X.length 20++List.range' (X.length+20) (N-(X.length+20))):=by rw[er]at H1;simpa only[List.append_assoc]using H1
  refine(zpV C H2 (a:=X.length) (b:=X.length+20) rfl (by simp) List.pairwise_lt_range').mono fun w h2 ⟨M',hp,hs,H3,F2⟩=>?_
  have hM:M'.length=20:=by rw[hp.length_eq];simp
  have hl:(X++M').length=X.length+20:=by rw[List.length_append,hM]
  rw[za6,zaa,show(20:Int)=((20:Nat):Int)from rfl,zhZ _ _ (by omega)]
  refine Hag _ h2 (N-(X++M').length) (by omega) ⟨X++M',rfl,by rw[hl],by omega,fun T hBT=>?_,by rw[hl];exact H3,F1.trans F2⟩
  rw[hl]at hBT
  rw[List.append_assoc]
  exact hT _ (.cons _ M' T hM ⟨by rw[hM];exact hp,hs⟩ hBT)
 ·refine(zpV C (A:=X) (M:=List.range' X.length (N-X.length)) (D:=[]) (by simpa using H1) (a:=X.length) (b:=N) rfl (by simp;omega) List.pairwise_lt_range').mono fun w h2 ⟨M',hp,hs,H3,F2⟩=>?_
  have hM:M'.length=N-X.length:=by rw[hp.length_eq];simp
  rw[List.append_nil]at H3
  have hBS:BS r 20 0 (X++M'):=by
   refine hT _ ?_
   rcases Nat.eq_zero_or_pos M'.length with h3|h3
   ·rw[List.eq_nil_of_length_eq_zero h3];exact .nil _
   ·exact .last _ _ h3 (by omega) ⟨by rw[hM];exact hp,hs⟩
  have hlen:(X++M').length=N:=by rw[List.length_append];omega
  generalize X++M'=Y0 at*
  -- blocks that grow
  refine za1 (fun d xs h'=>∃(B:Nat) (Y:List Nat),d=N-B∧xs=[iv B]∧0<B∧B≤2097152∧Y.length=N∧BS r B 0 Y∧IxRow v P n h' Y∧Fr (blk v) h h') (N-20)
   ⟨20,Y0,rfl,rfl,by omega,by omega,hlen,hBS,H3,F1.trans F2⟩ ?_
  rintro d xs ρj2 h3 again2 ⟨B,Y,rfl,rfl,hB,hB2,hYN,hY,H4,F3⟩ Hag2
  simp only[ix_0,zbp,zaa]
  refine zac (fun h4=>?_) (fun h4=>?_)
  ·rw [zeA,zaa,show(2:Int)*(B:Int)=((2*B:Nat):Int)by omega,w64 (n:=((2*B:Nat):Int)) (by omega) (by omega)]
   refine za1 (fun d xs h'=>∃(X Z:List Nat),d=Z.length∧xs=[iv X.length,iv (X.length+2*B)]∧X.length+Z.length=N∧(∀T,BS r (2*B) X.length T→BS r (2*B) 0 (X++T))∧BS r B X.length Z∧IxRow v P n h' (X++Z)∧Fr (blk v) h h') N
    ⟨[],Y,hYN.symm,by simp,by simpa using hYN,fun T h=>h,hY,H4,F3⟩ ?_
   rintro d xs ρj3 h5 again3 ⟨X,Z,rfl,rfl,hXZ,hT2,hZ,H5,F5⟩ Hag3
   simp only[ix_0,ix_1,zsV,zaa]
   refine zac (fun h6=>?_) (fun h6=>?_)
   ·obtain⟨S1,T1,rfl,l1,s1,b1⟩:=hZ.one hB (by omega)
    rw[List.length_append]at hXZ
    obtain⟨S2,T2,rfl,l2,s2,b2⟩:=b1.one hB (by omega)
    rw[List.length_append]at hXZ
    rw[za6,zaa,zhZ _ _ (by omega)]
    refine(zre C (S1.length+S2.length) (A:=X) (L:=S1) (R:=S2) (D:=T2) (by simpa only[List.append_assoc]using H5) (a:=X.length) (m:=X.length+B) (b:=X.length+2*B) rfl (by omega) (by omega) (by omega) (by omega) s1.2 s2.2 (fun x hx y hy=>by
     have:=s1.mem hx;have:=s2.mem hy;omega) (Nat.le_refl _)).mono fun w h7 ⟨S,hp2,hs2,H7,F7⟩=>?_
    have hS:S.length=2*B:=by rw[hp2.length_eq,List.length_append];omega
    have hl:(X++S).length=X.length+2*B:=by rw[List.length_append,hS]
    rw[za6,zaa,zhZ _ _ (by omega)]
    refine Hag3 _ h7 T2.length (by simp;omega) ⟨X++S,T2,rfl,by rw[hl],by rw[hl];omega,fun T hBT=>?_,by rw[hl,show X.length+2*B=X.length+B+B by omega];exact b2,H7,F5.trans F7⟩
    rw[hl]at hBT
    rw[List.append_assoc]
    exact hT2 _ (.cons _ S T hS (Srt.join s1 (by rw[l1];exact s2) hp2 hs2) hBT)
   ·rw[za6,zaa,zhZ _ _ (by omega),zbp,zaa]
    have go:∀(Y':List Nat) (h8:Heap),Y'.length=N→BS r (2*B) 0 Y'→IxRow v P n h8 Y'→Fr (blk v) h h8→vK (binV .i .mul (iv B) (.int .i64 2)) fun v31=>again2 [v31] h8:=by
     intro Y' h8 g1 g2 g3 g4
     rw[zeA,zaa,show(B:Int)*2=((2*B:Nat):Int)by omega,w64 (n:=((2*B:Nat):Int)) (by omega) (by omega)]
     exact Hag2 _ h8 (N-2*B) (by omega) ⟨2*B,Y',rfl,rfl,by omega,by omega,g1,g2,g3,g4⟩
    refine zac (fun h8=>?_) (fun h8=>?_)
    ·obtain⟨S1,T1,rfl,l1,s1,b1⟩:=hZ.one hB (by omega)
     rw[List.length_append]at hXZ
     have s2:=b1.short hB (by omega) (by omega)
     refine(zre C (S1.length+T1.length) (A:=X) (L:=S1) (R:=T1) (D:=[]) (by simpa only[List.append_assoc,List.append_nil]using H5) (a:=X.length) (m:=X.length+B) (b:=N) rfl (by omega) (by omega) (by omega) (by omega) s1.2 s2.2 (fun x hx y hy=>by
      have:=s1.mem hx;have:=s2.mem hy;omega) (Nat.le_refl _)).mono fun w h9 ⟨S,hp2,hs2,H7,F7⟩=>?_
     have hS:S.length=S1.length+T1.length:=by rw[hp2.length_eq,List.length_append]
     rw[List.append_nil]at H7
     exact go (X++S) h9 (by rw[List.length_append];omega) (hT2 _ (.last _ S (by omega) (by omega) (Srt.join s1 (by rw[l1];exact s2) hp2 hs2))) H7 (F5.trans F7)
    ·refine go (X++Z) h5 (by rw[List.length_append];omega) (hT2 _ ?_) H5 F5
     rcases Nat.eq_zero_or_pos Z.length with h9|h9
     ·rw[List.eq_nil_of_length_eq_zero h9];exact .nil _
     ·exact .last _ _ h9 (by omega) (hZ.short hB (by omega) h9)
  ·have:Srt r 0 Y:=by
    rcases Nat.eq_zero_or_pos Y.length with h9|h9
    ·have:Y=[]:=List.eq_nil_of_length_eq_zero h9
     subst this
     exact⟨by simp,List.Pairwise.nil⟩
    ·exact hY.short hB (by omega) h9
   refine⟨Y,?_,this.2,H4,F3⟩
   have hp:=this.1
   rw[hYN]at hp
   rw[List.range_eq_range']
   exact hp
theorem c_sortStable (C:CmpOK v f P r n){h:Heap}{N:Nat}(H:IxRow v P n h (List.range' 0 N))(hN:N≤1048576):
  FCall prog za7 #[v,f] h fun _ h'=>∃S:List Nat,S.Perm (List.range N)∧S.Pairwise (lead r)∧IxRow v P n h' S∧Fr (blk v) h h':=by
 apply zdt
 unfold zbL
 have ho:=H.own
 rw[List.length_range']at ho
 obtain⟨a,cap,e⟩:=ho.isSl
 have e2:zaf v=some (iv N):=by rw[e];rfl
 rw[e2,zaa]
 exact c_stable C H hN
end
end
end Go.Proofs.YtcoimlclclnlkaaGreatDoor
