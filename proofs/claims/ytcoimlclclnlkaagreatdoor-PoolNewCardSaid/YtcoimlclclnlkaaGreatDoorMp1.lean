/- Several texts of this session, one behind the other, without what this claim does not need (put together by its program pack.py). Conditions: none. -/
import Derived.Test.YtcoimlclclnlkaaGreatDoorMp0
set_option linter.unusedVariables false
set_option linter.unusedSimpArgs false
set_option maxRecDepth 100000
namespace Go.Proofs.YtcoimlclclnlkaaGreatDoor
open Go Go.Crisp
open _root_.Go.Proofs.Tryz
section
variable {a0 a1 a2 a3 a4 a5 a6:Value}{h:Heap}{R:Value→Heap→Prop}
def zfW (a0 a1:Value)(h:Heap)(R:Value→Heap→Prop):Prop:=
 vK (nilV a0) fun b=>
 vK (fldV 2 b) fun c=>
 vK (ldV h c) fun d=>
 iteK d (
 R (.int .i64 2) h) (
 FCall prog zb4 #[a0] h fun e a=>
 vK (unV .not e) fun f=>
 iteK f (
 R (.int .i64 1) a) (
 vK (nilV a0) fun g=>
 vK (fldV 1 g) fun i=>
 vK (ldV a i) fun j=>
 rowK #[(.int .i64 0)] 3 1 [(0,1,a1)] a fun k l=>
 appK (.int .i64 0) 3 1 8 j k l fun m n=>
 vK (nilV a0) fun o=>
 vK (fldV 1 o) fun p=>
 stK 1 p m n fun r q=>
 R (.int .i64 0) q))
theorem zk4 (H:zfW a0 a1 h R):FCall prog zd0 #[a0,a1] h R:=fk f27 (.s .z (.s (.s .z (.s (.s .z .z) (.s .z (.s (.s .z .z) .z)))) (.s .z (.s .z .z)))) H
def zfm (a0:Value)(h:Heap)(R:Value→Heap→Prop):Prop:=
 vK (nilV a0) fun a=>
 vK (fldV 2 a) fun b=>
 vK (ldV h b) fun c=>
 vK (nilV a0) fun d=>
 vK (fldV 2 d) fun e=>
 stK 1 e (.bool true) h fun i f=>
 vK (unV .not c) fun g=>
 R g f
theorem zke (H:zfm a0 h R):FCall prog zcz #[a0] h R:=fk f28 (.s .z (.s .z (.s .z (.s .z .z)))) H
def zdk (a0 a1:Value)(h:Heap)(R:Value→Heap→Prop):Prop:=
 vK (nilV a0) fun b=>
 vK (fldV 0 b) fun c=>
 vK (ldV h c) fun a=>
 vK (binV .i .eql a (.int .i64 0)) fun d=>
 iteK d (
 FCall prog zcm #[a1] h fun e f=>
 R e f) (
 vK (binV .i .eql a (.int .i64 1)) fun g=>
 iteK g (
 R (.bool true) h) (
 R (.bool false) h))
theorem zg8 (H:zdk a0 a1 h R):FCall prog za2 #[a0,a1] h R:=fk f30 (.s .z (.s (.s .z (.s .z (.s (.s .z .z) (.s .z (.s (.s .z .z) .z))))) (.s .z .z))) H
def zeL (a0 a1 a2:Value)(h:Heap)(R:Value→Heap→Prop):Prop:=
 newK #[(.int .i64 0),(.int .i64 0),(.int .i64 0),(.int .i64 0)] 99 h fun b c=>
 vK (nilV a0) fun p=>
 vK (fldV 0 p) fun q=>
 vK (ldV c q) fun e=>
 vK (binV .i .eql e (.int .i64 1)) fun r=>
 iteK r (
 vK (nilV a0) fun s=>
 vK (fldV 2 s) fun t=>
 vK (ldV c t) fun u=>
 FCall prog zbI #[u] c fun v w=>
 newK #[(.int .i64 0),(.int .i64 0)] 97 w fun f x=>
 stK 2 f v x fun a7 y=>
 FCall prog zaU #[a0] y fun a8 a=>
 drawK a fun S=>
 vK (nilV a0) fun z=>
 vK (fldV 1 z) fun aa=>
 qK S (fun a=>ldV a aa) fun ab=>
 vK (nilV a0) fun ac=>
 vK (fldV 1 ac) fun ad=>
 qK S (fun a=>ldV a ad) fun ae=>
 qK S (fun a=>zaf ae) fun af=>
 vK (binV .i .sub af (.int .i64 1)) fun ag=>
 vK (idxV 1 ab ag) fun ah=>
 qK S (fun a=>ldV a ah) fun ai=>
 qK S (fun a=>ldsV 2 a f) fun aj=>
 vK ((fillL #[(.int .i64 0),(.int .i64 0),(.int .i64 0),(.int .i64 0)] [(0,1,(.int .i64 2)),(1,1,ai),(2,2,aj)]).map .agg) fun ak=>
 stK 4 b ak a fun a9 g=>
 vK (ldsV 4 g b) fun al=>
 R al g) (
 vK (binV .i .eql e (.int .i64 2)) fun am=>
 iteK am (
 vK ((fillL #[(.int .i64 0),(.int .i64 0),(.int .i64 0),(.int .i64 0)] []).map .agg) fun an=>
 stK 4 b an c fun ba j=>
 vK (ldsV 4 j b) fun ao=>
 R ao j) (
 FCall prog zc0 #[a1] c fun k d=>
 vK (extV k 0) fun ap=>
 vK (extV k 1) fun l=>
 vK (binV .i .eql l (.int .i64 0)) fun aq=>
 iteK aq (
 FCall prog zdf #[a0,ap,a2] d fun ar au=>
 stK 4 b ar au fun bb m=>
 vK (ldsV 4 m b) fun av=>
 R av m) (
 vK (binV .i .eql l (.int .i64 2)) fun aw=>
 iteK aw (
 vK (nilV a0) fun ax=>
 vK (fldV 0 ax) fun ay=>
 stK 1 ay (.int .i64 2) d fun bc az=>
 vK ((fillL #[(.int .i64 0),(.int .i64 0),(.int .i64 0),(.int .i64 0)] [(0,1,(.int .i64 3))]).map .agg) fun a3=>
 stK 4 b a3 az fun bd n=>
 vK (ldsV 4 n b) fun a4=>
 R a4 n) (
 vK ((fillL #[(.int .i64 0),(.int .i64 0),(.int .i64 0),(.int .i64 0)] []).map .agg) fun a5=>
 stK 4 b a5 d fun be o=>
 vK (ldsV 4 o b) fun a6=>
 R a6 o))))
theorem zjm (H:zeL a0 a1 a2 h R):FCall prog zaD #[a0,a1,a2] h R:=fk f31 (.s .z (.s (.s .z (.s .z (.s (.s .z (.s .z (.s (.d (.op 0 .r (.op 1 .r (.op 2 .r (.op 3 .r (.op 4 .r (.op 5 .r (.op 6 .r (.op 7 .r (.op 8 .r (.op 9 .r (.op 10 .r (.op 11 .r (.op 12 .r (.op 13 .r (.op 14 .n .nil)))))))))))))))) .z))) (.s .z (.s (.s .z .z) .z))))) (.s .z (.s (.s .z (.s .z (.s (.s .z .z) (.s .z (.s (.s .z (.s .z .z)) .z))))) (.s .z .z))))) H
def zd5 (a0:Value)(h:Heap)(R:Value→Heap→Prop):Prop:=
 vK (nilV a0) fun a=>
 vK (fldV 0 a) fun b=>
 vK (ldV h b) fun c=>
 R c h
theorem ziP (H:zd5 a0 h R):FCall prog zcY #[a0] h R:=fk f33 (.s .z (.s .z .z)) H
def zkx (h:Heap)(R:Value→Heap→Prop):Prop:=
 rowK #[(.int .u16 0)] 22 1 [(0,1,(.int .u16 9))] h fun ae af=>
 FCall prog zgp #[(.int .i64 1),(.int .i64 1),(.int .i64 1),(.int .i64 255),ae] af fun o ag=>
 vK (extV o 0) fun ah=>
 vK (extV o 1) fun ai=>
 vK ((fillL #[(.int .i64 0),(.int .i64 0),(.int .i64 0),(.int .i64 0),(.slice none 0 0),(.slice none 0 0),(.int .i64 0),(.int .i64 0),(.int .i64 0)] [(0,1,(.int .i64 1))]).map .agg) fun aj=>
 FCall prog ze2 #[aj,(.int .i64 1),(.int .i64 1)] ag fun q ak=>
 vK (extV q 0) fun al=>
 vK (extV q 1) fun am=>
 newK #[(.pointer none),(.pointer none),(.int .i64 0)] 46 ak fun r an=>
 stK 3 r al an fun bx ao=>
 FCall prog zil #[] ao fun ap s=>
 vK (unV .not ap) fun f=>
 gK f false (fun aq=>FCall prog zik #[] s aq) s fun ar g=>
 vK (gV f false (unV .not ar)) fun au=>
 vK (pickV f (.bool true) au) fun j=>
 vK (gV j false (some ai)) fun av=>
 vK (gV j false (binV .i .neq av (.int .i64 0))) fun aw=>
 vK (pickV j (.bool true) aw) fun k=>
 vK (gV k false (some am)) fun ax=>
 vK (gV k false (binV .i .neq ax (.int .i64 0))) fun ay=>
 vK (pickV k (.bool true) ay) fun az=>
 iteK az (
 R (.bool false) g) (
 vK (ldsV 3 g r) fun a0=>
 FCall prog zeu #[ah,a0,(.int .i64 1),(.int .i64 1),(.int .i64 1),(.int .i64 1)] g fun t u=>
 vK (extV t 0) fun b=>
 vK (extV t 1) fun a1=>
 vK (binV .i .neq a1 (.int .i64 0)) fun l=>
 vK (gV l false (some b)) fun a2=>
 vK (gV l false (binV .p .eql a2 (.pointer none))) fun a3=>
 vK (pickV l (.bool true) a3) fun c=>
 vK (gV c false (some b)) fun a4=>
 gK c false (fun a5=>FCall prog zes #[a4] u a5) u fun a6 v=>
 vK (gV c false (binV .i .neq a6 (.int .i64 7))) fun a7=>
 vK (pickV c (.bool true) a7) fun d=>
 vK (gV d false (some b)) fun a8=>
 gK d false (fun a9=>FCall prog zb5 #[a8] v a9) v fun ba w=>
 vK (gV d false (binV .i .neq ba (.int .i64 2))) fun bb=>
 vK (pickV d (.bool true) bb) fun bc=>
 iteK bc (
 R (.bool false) w) (
 loopK [(.int .i64 0)] w fun x bz y bd=>
 vK (binV .i .lss (ix x 0) (.int .i64 7)) fun be=>
 iteK be (
 FCall prog zce #[b] y fun z m=>
 vK (zaf z) fun bf=>
 vK (binV .i .eql bf (.int .i64 0)) fun a=>
 vK (gV a false (some b)) fun bg=>
 vK (gV a false (some z)) fun bh=>
 vK (gV a false (idxV 1 bh (.int .i64 0))) fun bi=>
 vK (gV a false (ldV m bi)) fun bj=>
 gK a false (fun bk=>FCall prog zdr #[bg,bj] m bk) m fun bl aa=>
 vK (gV a false (unV .not bl)) fun bm=>
 vK (pickV a (.bool true) bm) fun bn=>
 iteK bn (
 R (.bool false) aa) (
 vK (binV .i .add (ix x 0) (.int .i64 1)) fun bo=>
 bd [bo] aa)) (
 FCall prog zd1 #[b] y fun ab ac=>
 vK (extV ab 0) fun ad=>
 vK (extV ab 1) fun n=>
 vK (gV n true (some ad)) fun bp=>
 vK (gV n true (binV .p .neq bp (.pointer none))) fun bq=>
 vK (pickV n bq (.bool false)) fun e=>
 vK (gV e true (some ad)) fun br=>
 gK e true (fun bs=>FCall prog zbJ #[br,(.int .i64 0),(.int .i64 0),(.int .i64 0)] ac bs) ac fun bt bu=>
 vK (gV e true (binV .i .eql bt (.int .u16 9))) fun bv=>
 vK (pickV e bv (.bool false)) fun bw=>
 R bw bu)))
theorem zql (H:zkx h R):FCall prog zij #[] h R:=fk f34 (.s .z (.s .z (.s .z (.s (.s .z (.s (.s .z .z) .z)) (.s .z (.s (.s .z (.s (.s .z .z) .z)) (.s (.s .z (.l 4722294425275607285889 [56] (.s .z (.s (.s .z .z) (.s (.s .z (.s .z (.s (.s .z .z) .z))) .z))))) (.s .z (.s .z .z))))))))) H
def zfX (a0:Value)(h:Heap)(R:Value→Heap→Prop):Prop:=
 vK (nilV a0) fun a=>
 vK (fldV 12 a) fun b=>
 vK (ldV h b) fun c=>
 vK (unV .not c) fun d=>
 iteK d (
 R (.tuple #[(.pointer none),(.bool false)]) h) (
 vK (nilV a0) fun e=>
 vK (fldV 1 e) fun f=>
 vK (ldV h f) fun g=>
 FCall prog zdx #[g] h fun i j=>
 R (.tuple #[i,(.bool true)]) j)
theorem zk5 (H:zfX a0 h R):FCall prog zd1 #[a0] h R:=fk f38 (.s .z (.s (.s .z (.s (.s .z .z) .z)) (.s .z .z))) H
def zgI (a0:Value)(h:Heap)(R:Value→Heap→Prop):Prop:=
 drawK h fun S=>
 vK (nilV a0) fun j=>
 vK (fldV 2 j) fun k=>
 qK S (fun h=>ldV h k) fun l=>
 vK (nilV a0) fun m=>
 vK (fldV 6 m) fun n=>
 qK S (fun h=>ldV h n) fun o=>
 qK S (fun h=>zaf o) fun p=>
 FCall prog za4 #[l] h fun q c=>
 S c∧(vK (binV .i .mul (.int .i64 2) q) fun r=>
 vK (binV .i .add r p) fun s=>
 vK (binV .i .add s (.int .i64 2)) fun t=>
 vK (nilV a0) fun u=>
 vK (fldV 2 u) fun v=>
 vK (ldV c v) fun w=>
 FCall prog zgr #[w] c fun e x=>
 vK (zaf e) fun y=>
 loopK [t,(.int .i64 0)] x fun b an d z=>
 vK (binV .i .lss (ix b 1) y) fun aa=>
 iteK aa (
 vK (idxV 10 e (ix b 1)) fun ab=>
 vK (ldsV 10 d ab) fun ac=>
 newK #[(.int .i64 0),(.int .i64 0),(.int .i64 0),(.int .i64 0),(.int .i64 0),(.int .i64 0),(.int .i64 0),(.int .i64 0),(.int .i64 0),(.int .i64 0)] 65 d fun f ad=>
 stK 10 f ac ad fun ao a=>
 drawK a fun S=>
 vK (nilV a0) fun ae=>
 vK (fldV 2 ae) fun af=>
 qK S (fun a=>ldV a af) fun ag=>
 qK S (fun a=>ldsV 10 a f) fun ah=>
 FCall prog zcn #[ag] a fun ai g=>
 S g∧(FCall prog zhd #[ai,ah] g fun aj ak=>
 vK (binV .i .add (ix b 0) aj) fun al=>
 vK (binV .i .add (ix b 1) (.int .i64 1)) fun am=>
 z [al,am] ak)) (
 R (ix b 0) d))
theorem zmt (H:zgI a0 h R):FCall prog zes #[a0] h R:=fk f39 (.s .z (.s (.d (.op 0 .r (.op 1 .r (.op 2 .r (.op 3 .r (.op 6 .r (.op 7 .r (.op 8 .r (.op 9 .r (.op 10 .r (.op 4 .e (.op 5 .r (.op 11 .r (.op 12 .r (.op 13 .r .nil))))))))))))))) (.s (.s .z (.l 549722259496 [3,25] (.s .z (.s (.s .z .z) (.s (.s .z (.d (.op 0 .r (.op 1 .r (.op 2 .r (.op 3 .r (.op 4 .r (.op 6 .r (.op 5 .e (.op 7 .n (.op 8 .r (.op 9 .r .nil)))))))))))) .z))))) (.s .z .z)))) H
def zgJ (a0:Value)(h:Heap)(R:Value→Heap→Prop):Prop:=
 vK (nilV a0) fun a=>
 vK (fldV 13 a) fun b=>
 vK (ldV h b) fun c=>
 R c h
theorem zmu (H:zgJ a0 h R):FCall prog zet #[a0] h R:=fk f41 (.s .z (.s .z .z)) H
def zeP (a0:Value)(h:Heap)(R:Value→Heap→Prop):Prop:=
 FCall prog zb5 #[a0] h fun e f=>
 loopK [(.slice none 0 0),(.int .i64 0)] f fun a q b c=>
 vK (binV .i .lss (ix a 1) e) fun g=>
 iteK g (
 FCall prog zdq #[a0,(ix a 1)] b fun j d=>
 iteK j (
 rowK #[(.int .i64 0)] 3 1 [(0,1,(ix a 1))] d fun k l=>
 appK (.int .i64 0) 3 1 8 (ix a 0) k l fun m n=>
 vK (binV .i .add (ix a 1) (.int .i64 1)) fun o=>
 c [m,o] n) (
 vK (binV .i .add (ix a 1) (.int .i64 1)) fun p=>
 c [(ix a 0),p] d)) (
 R (ix a 0) b)
theorem zjq (H:zeP a0 h R):FCall prog zce #[a0] h R:=fk f42 (.s .z (.s .z (.s (.s .z (.l 262040 [3,7] (.s .z (.s (.s .z .z) (.s (.s .z (.s .z (.s .z .z))) .z))))) (.s .z .z)))) H
def zhT (a0 a1 a2 a3 a4 a5:Value)(h:Heap)(R:Value→Heap→Prop):Prop:=
 newK (Value.cells a1) 46 h fun f j=>
 vK (binV .p .eql a0 (.pointer none)) fun b=>
 vK (gV b false (some a0)) fun ak=>
 vK (gV b false (ldsV 3 j f)) fun al=>
 gK b false (fun am=>FCall prog zbg #[ak,al] j am) j fun an a=>
 vK (gV b false (unV .not an)) fun ao=>
 vK (pickV b (.bool true) ao) fun ap=>
 iteK ap (
 R (.tuple #[(.pointer none),(.int .i64 6)]) a) (
 drawK a fun S=>
 vK (fldV 0 f) fun aq=>
 qK S (fun a=>ldV a aq) fun ar=>
 vK (fldV 1 f) fun au=>
 qK S (fun a=>ldV a au) fun av=>
 FCall prog zas #[ar] a fun aw r=>
 S r∧(FCall prog zas #[av] r fun ax ay=>
 FCall prog zak #[a0] ay fun az a6=>
 FCall prog zaO #[a0] a6 fun a7 a8=>
 FCall prog zct #[aw,ax,az,a7] a8 fun s k=>
 vK (extV s 0) fun g=>
 vK (extV s 1) fun t=>
 vK (binV .i .neq t (.int .i64 0)) fun a9=>
 iteK a9 (
 R (.tuple #[(.pointer none),t]) k) (
 vK (ldsV 3 k f) fun ba=>
 FCall prog zj7 #[ba,a2,a3] k fun u c=>
 vK (extV u 0) fun l=>
 vK (extV u 1) fun v=>
 vK (binV .i .neq v (.int .i64 0)) fun bb=>
 iteK bb (
 R (.tuple #[(.pointer none),v]) c) (
 vK (binV .i .lss a4 (.int .i64 1)) fun m=>
 vK (gV m false (some a4)) fun bc=>
 vK (gV m false (binV .i .gtr bc (.int .i64 256))) fun bd=>
 vK (pickV m (.bool true) bd) fun be=>
 iteK be (
 R (.tuple #[(.pointer none),(.int .i64 10)]) c) (
 joinK (fun n=>
 drawK c fun S=>
 vK (binV .i .add a4 (.int .i64 1)) fun o=>
 (FCall prog zeq #[a5] c fun w q=>
 S q∧((FCall prog zew #[o] q fun bf x=>
 S x∧(mkK (.int .i64 0) 3 1 8 a4 a4 x fun bg y=>
 S y∧(vK ((fillL #[(.pointer none),(.pointer none),(.pointer none),(.pointer none),(.pointer none),(.slice none 0 0),(.slice none 0 0),(.slice none 0 0),(.int .i64 0),(.slice none 0 0),(.slice none 0 0),(.slice none 0 0),(.bool false),(.int .i64 0)] [(0,1,a0),(1,1,g),(2,1,l),(3,1,w),(4,1,bf),(7,1,bg)]).map .agg) fun bh=>
 newK (Value.cells bh) 197 y fun bi z=>
 S z∧(n [bi] z))))∧(mkK (.int .i64 0) 3 1 8 a4 a4 q fun bj aa=>
 S aa∧(FCall prog zew #[o] aa fun bk ab=>
 S ab∧(vK ((fillL #[(.pointer none),(.pointer none),(.pointer none),(.pointer none),(.pointer none),(.slice none 0 0),(.slice none 0 0),(.slice none 0 0),(.int .i64 0),(.slice none 0 0),(.slice none 0 0),(.slice none 0 0),(.bool false),(.int .i64 0)] [(0,1,a0),(1,1,g),(2,1,l),(3,1,w),(4,1,bk),(7,1,bj)]).map .agg) fun bl=>
 newK (Value.cells bl) 197 ab fun bm ac=>
 S ac∧(n [bm] ac))))))∧(mkK (.int .i64 0) 3 1 8 a4 a4 c fun bn ad=>
 S ad∧(FCall prog zeq #[a5] ad fun bo ae=>
 S ae∧(FCall prog zew #[o] ae fun bp af=>
 S af∧(vK ((fillL #[(.pointer none),(.pointer none),(.pointer none),(.pointer none),(.pointer none),(.slice none 0 0),(.slice none 0 0),(.slice none 0 0),(.int .i64 0),(.slice none 0 0),(.slice none 0 0),(.slice none 0 0),(.bool false),(.int .i64 0)] [(0,1,a0),(1,1,g),(2,1,l),(3,1,bo),(4,1,bp),(7,1,bn)]).map .agg) fun bq=>
 newK (Value.cells bq) 197 af fun br ag=>
 S ag∧(n [br] ag))))))
 fun d cd bs=>
 loopK [(.int .i64 0)] bs fun ah ce e bt=>
 vK (binV .i .lss (ix ah 0) a4) fun bu=>
 iteK bu (
 drawK e fun S=>
 vK (nilV (ix d 0)) fun bv=>
 vK (fldV 6 bv) fun bw=>
 qK S (fun e=>ldV e bw) fun bx=>
 FCall prog zeX #[] e fun bz ai=>
 S ai∧(rowK #[(.pointer none)] 77 1 [(0,1,bz)] ai fun b0 aj=>
 S aj∧(appK (.pointer none) 77 1 8 bx b0 aj fun b1 b2=>
 vK (nilV (ix d 0)) fun b3=>
 vK (fldV 6 b3) fun b4=>
 stK 1 b4 b1 b2 fun cf b5=>
 vK (binV .i .add (ix ah 0) (.int .i64 1)) fun b6=>
 bt [b6] b5))) (
 FCall prog zgq #[a0] e fun b7 b8=>
 FCall prog zaX #[(ix d 0),(.int .i64 0),(.int .i64 0),(.int .i64 0),b7,(.bool true)] b8 fun cg b9=>
 FCall prog zgq #[g] b9 fun ca cb=>
 FCall prog zaX #[(ix d 0),(.int .i64 0),(.int .i64 1),(.int .i64 0),ca,(.bool true)] cb fun ch cc=>
 R (.tuple #[(ix d 0),(.int .i64 0)]) cc))))))
theorem zk7 (H:zhT a0 a1 a2 a3 a4 a5 h R):FCall prog zeu #[a0,a1,a2,a3,a4,a5] h R:=fk f45 (.s .z (.s (.s .z (.s (.s .z .z) .z)) (.s (.d (.op 0 .r (.op 1 .r (.op 3 .r (.op 4 .r (.op 6 .r (.op 8 .r (.op 2 .e (.op 5 .n (.op 7 .n (.op 9 .n (.op 10 .n (.op 11 .r (.op 12 .r (.op 13 .r (.op 14 .r (.op 15 .r .nil))))))))))))))))) (.s (.s .z (.s (.s .z .z) .z)) (.s .z (.s (.s .z (.s (.s .z .z) (.s .z (.s (.s .z .z) .z)))) (.j 9442427122730076864512 [17] (.d (.op 0 .r (.op 1 .r (.op 2 .r (.op 3 .r (.op 5 .r (.op 6 .r (.op 8 .r (.alt (.op 4 .e (.alt (.op 7 .e (.op 9 .e (.op 10 .r (.op 11 .e (.op 12 .r .nil))))) (.op 9 .e (.op 7 .e (.op 10 .r (.op 11 .e (.op 12 .r .nil))))))) (.op 9 .e (.op 4 .e (.op 7 .e (.op 10 .r (.op 11 .e (.op 12 .r .nil))))))))))))))) (.s (.s .z (.l 154723615444741055781535744 [74] (.s .z (.s (.s .z .z) (.s (.d (.op 0 .r (.op 1 .r (.op 2 .r (.op 3 .r (.op 4 .r (.op 5 .e (.op 6 .e (.op 7 .n (.op 8 .r (.op 9 .r (.op 10 .n .nil)))))))))))) .z))))) (.s .z (.s .z (.s .z .z))))))))))) H
def zfY (a0:Value)(h:Heap)(R:Value→Heap→Prop):Prop:=
 vK (nilV a0) fun a=>
 vK (fldV 6 a) fun b=>
 vK (ldV h b) fun c=>
 vK (zaf c) fun d=>
 vK (binV .i .add d (.int .i64 1)) fun e=>
 R e h
theorem zk6 (H:zfY a0 h R):FCall prog zb5 #[a0] h R:=fk f46 (.s .z (.s .z .z)) H
def zeQ (a0:Value)(h:Heap)(R:Value→Heap→Prop):Prop:=
 vK (nilV a0) fun a=>
 vK (fldV 12 a) fun b=>
 vK (ldV h b) fun c=>
 R c h
theorem zjr (H:zeQ a0 h R):FCall prog zdg #[a0] h R:=fk f47 (.s .z (.s .z .z)) H
def zhD (a0 a1:Value)(h:Heap)(R:Value→Heap→Prop):Prop:=
 FCall prog zdq #[a0,a1] h fun c a=>
 vK (unV .not c) fun d=>
 iteK d (
 R (.bool false) a) (
 vK (nilV a0) fun e=>
 vK (fldV 13 e) fun f=>
 vK (ldV a f) fun g=>
 vK (binV .i .add g (.int .i64 1)) fun j=>
 vK (nilV a0) fun k=>
 vK (fldV 13 k) fun l=>
 stK 1 l j a fun p b=>
 vK (binV .i .eql a1 (.int .i64 0)) fun m=>
 iteK m (
 FCall prog zfe #[a0] b fun q n=>
 R (.bool true) n) (
 FCall prog zfc #[a0,a1] b fun r o=>
 R (.bool true) o))
theorem zng (H:zhD a0 a1 h R):FCall prog zdr #[a0,a1] h R:=fk f48 (.s .z (.s (.s .z (.s (.s .z .z) .z)) (.s .z (.s (.s .z (.s .z .z)) (.s .z .z))))) H
def zeN (a0:Value)(h:Heap)(R:Value→Heap→Prop):Prop:=
 vK (nilV a0) fun a=>
 vK (fldV 0 a) fun b=>
 vK (ldV h b) fun c=>
 R c h
theorem zjo (H:zeN a0 h R):FCall prog zau #[a0] h R:=fk f59 (.s .z (.s .z .z)) H
def zd6 (a0:Value)(h:Heap)(R:Value→Heap→Prop):Prop:=
 vK (nilV a0) fun a=>
 vK (fldV 1 a) fun b=>
 vK (ldV h b) fun c=>
 R c h
theorem ziQ (H:zd6 a0 h R):FCall prog zaw #[a0] h R:=fk f60 (.s .z (.s .z .z)) H
def zkA (h:Heap)(R:Value→Heap→Prop):Prop:=
 FCall prog zct #[(.int .i64 3),(.int .i64 1),(.int .i64 1),(.int .i64 255)] h fun l w=>
 vK (extV l 0) fun x=>
 vK (extV l 1) fun y=>
 vK ((fillL #[(.int .i64 0),(.int .i64 0),(.int .i64 0),(.int .i64 0),(.slice none 0 0),(.slice none 0 0),(.int .i64 0),(.int .i64 0),(.int .i64 0)] [(0,1,(.int .i64 1)),(3,1,(.int .i64 1))]).map .agg) fun z=>
 FCall prog ze2 #[z,(.int .i64 3),(.int .i64 1)] w fun m aa=>
 vK (extV m 0) fun ab=>
 vK (extV m 1) fun ac=>
 newK #[(.pointer none),(.pointer none),(.int .i64 0)] 46 aa fun n ad=>
 stK 3 n ab ad fun bh ae=>
 FCall prog zct #[(.int .i64 3),(.int .i64 1),(.int .i64 1),(.int .i64 255)] ae fun o af=>
 vK (extV o 0) fun ag=>
 vK (extV o 1) fun ah=>
 FCall prog zio #[] af fun ai q=>
 vK (unV .not ai) fun c=>
 gK c false (fun aj=>FCall prog zin #[] q aj) q fun ak d=>
 vK (gV c false (unV .not ak)) fun al=>
 vK (pickV c (.bool true) al) fun e=>
 vK (gV e false (some y)) fun am=>
 vK (gV e false (binV .i .neq am (.int .i64 0))) fun an=>
 vK (pickV e (.bool true) an) fun f=>
 vK (gV f false (some ac)) fun ao=>
 vK (gV f false (binV .i .neq ao (.int .i64 0))) fun ap=>
 vK (pickV f (.bool true) ap) fun g=>
 vK (gV g false (some ah)) fun aq=>
 vK (gV g false (binV .i .neq aq (.int .i64 0))) fun ar=>
 vK (pickV g (.bool true) ar) fun au=>
 iteK au (
 R (.bool false) d) (
 vK (ldsV 3 d n) fun av=>
 vK ((fillL #[(.int .i64 0),(.int .i64 0),(.int .i64 0),(.int .i64 0)] [(2,1,(.int .i64 3)),(3,1,(.int .i64 1))]).map .agg) fun aw=>
 vK ((fillL #[(.int .i64 0),(.int .i64 0),(.int .i64 0),(.int .i64 0),(.int .i64 0),(.int .i64 0),(.int .i64 0),(.int .i64 0),(.int .i64 0),(.int .i64 0)] [(1,4,aw)]).map .agg) fun ax=>
 FCall prog zeY #[x,ag,av,ax] d fun r s=>
 vK (extV r 0) fun b=>
 vK (extV r 1) fun ay=>
 vK (binV .i .neq ay (.int .i64 0)) fun j=>
 vK (gV j false (some b)) fun az=>
 vK (gV j false (binV .p .eql az (.pointer none))) fun a0=>
 vK (pickV j (.bool true) a0) fun a1=>
 iteK a1 (
 R (.bool false) s) (
 loopK [(.int .i64 (-1))] s fun k bi t a2=>
 vK (binV .i .lss (ix k 0) (.int .i64 2)) fun a3=>
 iteK a3 (
 FCall prog zbI #[b] t fun a4 u=>
 vK ((fillL #[(.int .i64 0),(.int .i64 0)] [(0,1,(.int .i64 1)),(1,1,(ix k 0))]).map .agg) fun a5=>
 vK (binV (.st [(0,1,.i),(1,1,.i)]) .neq a4 a5) fun a6=>
 iteK a6 (
 R (.bool false) u) (
 vK (binV .i .add (ix k 0) (.int .i64 1)) fun a7=>
 a2 [a7] u)) (
 FCall prog zbI #[b] t fun a8 v=>
 vK ((fillL #[(.int .i64 0),(.int .i64 0)] [(0,1,(.int .i64 2))]).map .agg) fun a9=>
 vK (binV (.st [(0,1,.i),(1,1,.i)]) .eql a8 a9) fun a=>
 vK (gV a true (some b)) fun ba=>
 gK a true (fun bb=>FCall prog zbI #[ba] v bb) v fun bc bd=>
 vK (gV a true ((fillL #[(.int .i64 0),(.int .i64 0)] []).map .agg)) fun be=>
 vK (gV a true (binV (.st [(0,1,.i),(1,1,.i)]) .eql bc be)) fun bf=>
 vK (pickV a bf (.bool false)) fun bg=>
 R bg bd)))
theorem zqo (H:zkA h R):FCall prog zim #[] h R:=fk f62 (.s .z (.s .z (.s .z (.s .z (.s (.s .z (.s (.s .z .z) .z)) (.s .z (.s (.s .z (.s (.s .z .z) .z)) (.s (.s .z (.l 36821430553381175809 [9] (.s (.s .z (.s .z .z)) (.s (.s .z (.s (.s .z .z) .z)) .z)))) (.s .z .z))))))))) H
def zlZ (a0 a1 a2 a3 a4:Value)(h:Heap)(R:Value→Heap→Prop):Prop:=
 vK (binV .i .rem a0 (.int .u16 20)) fun n=>
 vK (cviV .i64 n) fun o=>
 vK (binV .i .add (.int .i64 1) o) fun d=>
 vK (binV .i .rem a1 (.int .u16 20)) fun p=>
 vK (cviV .i64 p) fun q=>
 vK (binV .i .add (.int .i64 1) q) fun e=>
 vK (binV .i .rem a2 (.int .u16 2)) fun r=>
 vK (cviV .i64 r) fun s=>
 vK (binV .i .mul (.int .i64 2) s) fun t=>
 vK (binV .i .add (.int .i64 1) t) fun f=>
 vK (cviV .i64 a3) fun u=>
 vK (binV .i .rem u (.int .i64 65535)) fun v=>
 vK (binV .i .add (.int .i64 1) v) fun g=>
 vK (binV .i .mul d e) fun w=>
 vK (binV .i .mul w f) fun j=>
 mkK (.int .u16 0) 22 1 2 j j h fun c x=>
 vK (zaf c) fun y=>
 loopK [(.int .i64 0)] x fun b aw a k=>
 vK (binV .i .lss (ix b 0) y) fun z=>
 iteK z (
 vK (zaf a4) fun aa=>
 vK (binV .i .gtr aa (.int .i64 0)) fun ab=>
 iteK ab (
 drawK a fun S=>
 qK S (fun a=>zaf a4) fun ac=>
 vK (binV .i .rem (ix b 0) ac) fun ad=>
 vK (idxV 1 a4 ad) fun ae=>
 qK S (fun a=>ldV a ae) fun af=>
 vK (cviV .i64 af) fun ag=>
 qK S (fun a=>zaf a4) fun ah=>
 vK (binV .i .quo (ix b 0) ah) fun ai=>
 vK (binV .i .add ag ai) fun aj=>
 vK (binV .i .add g (.int .i64 1)) fun ak=>
 vK (binV .i .rem aj ak) fun al=>
 vK (cviV .u16 al) fun am=>
 vK (idxV 1 c (ix b 0)) fun an=>
 stK 1 an am a fun ax ao=>
 vK (binV .i .add (ix b 0) (.int .i64 1)) fun ap=>
 k [ap] ao) (
 vK (binV .i .add (ix b 0) (.int .i64 1)) fun aq=>
 k [aq] a)) (
 FCall prog zgp #[d,e,f,g,c] a fun l m=>
 vK (extV l 0) fun ar=>
 vK (extV l 1) fun au=>
 vK (binV .i .neq au (.int .i64 0)) fun av=>
 iteK av (
 R (.pointer none) m) (
 R ar m))
theorem zsj (H:zlZ a0 a1 a2 a3 a4 h R):FCall prog zjL #[a0,a1,a2,a3,a4] h R:=fk f63 (.s .z (.s .z (.s .z (.s .z (.s (.s .z (.l 2361183223842636627968 [44] (.s .z (.s (.s .z .z) (.s (.s .z (.s .z (.s (.d (.op 0 .r (.op 1 .r (.op 2 .r (.op 3 .r (.op 4 .r (.op 5 .r (.op 6 .r (.op 7 .r (.op 8 .r (.op 9 .r (.op 10 .r (.op 11 .r (.op 12 .r (.op 13 .r (.op 14 .r (.op 15 .r (.op 16 .r (.op 17 .r (.op 18 .r (.op 19 .r (.op 20 .n .nil)))))))))))))))))))))) .z))) .z))))) (.s .z (.s (.s .z (.s (.s .z .z) .z)) (.s .z .z)))))))) H
def zjd (a0 a1:Value)(h:Heap)(R:Value→Heap→Prop):Prop:=
 vK (zaf a0) fun p=>
 loopK [(.int .i64 0)] h fun n bc o q=>
 vK (binV .i .lss (ix n 0) p) fun r=>
 iteK r (
 vK (idxV 9 a0 (ix n 0)) fun s=>
 vK (ldsV 9 o s) fun t=>
 newK #[(.int .i64 0),(.int .i64 0),(.int .i64 0),(.int .i64 0),(.slice none 0 0),(.slice none 0 0),(.int .i64 0),(.int .i64 0),(.int .i64 0)] 31 o fun b u=>
 stK 9 b t u fun bd a=>
 vK (fldV 4 b) fun v=>
 vK (ldV a v) fun w=>
 vK (zaf w) fun x=>
 vK (binV .i .gtr x (.int .i64 40)) fun g=>
 vK (gV g false (fldV 5 b)) fun y=>
 vK (gV g false (ldV a y)) fun z=>
 vK (gV g false (zaf z)) fun aa=>
 vK (gV g false (binV .i .gtr aa (.int .i64 40))) fun ab=>
 vK (pickV g (.bool true) ab) fun e=>
 vK (gV e false (fldV 2 b)) fun ac=>
 vK (gV e false (ldV a ac)) fun ad=>
 vK (gV e false (binV .i .gtr ad (.int .i64 262144))) fun ae=>
 vK (gV e false (some ae)) fun j=>
 vK (gV j true (fldV 2 b)) fun af=>
 vK (gV j true (ldV a af)) fun ag=>
 vK (gV j true (binV .i .leq ag (.int .i64 4194304))) fun ah=>
 vK (gV e false (pickV j ah (.bool false))) fun ai=>
 vK (pickV e (.bool true) ai) fun f=>
 vK (gV f false (fldV 3 b)) fun aj=>
 vK (gV f false (ldV a aj)) fun ak=>
 vK (gV f false (binV .i .gtr ak (.int .i64 20))) fun al=>
 vK (gV f false (some al)) fun k=>
 vK (gV k true (fldV 3 b)) fun am=>
 vK (gV k true (ldV a am)) fun an=>
 vK (gV k true (binV .i .lss an (.int .i64 512))) fun ao=>
 vK (gV f false (pickV k ao (.bool false))) fun ap=>
 vK (pickV f (.bool true) ap) fun c=>
 vK (gV c false (fldV 7 b)) fun aq=>
 vK (gV c false (ldV a aq)) fun ar=>
 vK (gV c false (some a1)) fun au=>
 vK (gV c false (binV .i .gtr ar au)) fun av=>
 vK (gV c false (some av)) fun l=>
 vK (gV l true (fldV 7 b)) fun aw=>
 vK (gV l true (ldV a aw)) fun ax=>
 vK (gV l true (binV .i .leq ax (.int .i64 65536))) fun ay=>
 vK (gV c false (pickV l ay (.bool false))) fun az=>
 vK (pickV c (.bool true) az) fun d=>
 vK (gV d false (fldV 8 b)) fun a2=>
 vK (gV d false (ldV a a2)) fun a3=>
 vK (gV d false (some a1)) fun a4=>
 vK (gV d false (binV .i .gtr a3 a4)) fun a5=>
 vK (gV d false (some a5)) fun m=>
 vK (gV m true (fldV 8 b)) fun a6=>
 vK (gV m true (ldV a a6)) fun a7=>
 vK (gV m true (binV .i .leq a7 (.int .i64 65536))) fun a8=>
 vK (gV d false (pickV m a8 (.bool false))) fun a9=>
 vK (pickV d (.bool true) a9) fun ba=>
 iteK ba (
 R (.bool false) a) (
 vK (binV .i .add (ix n 0) (.int .i64 1)) fun bb=>
 q [bb] a)) (
 R (.bool true) o)
theorem zpp (H:zjd a0 a1 h R):FCall prog zhi #[a0,a1] h R:=fk f64 (.s .z (.s (.s .z (.l 73786976294838206032 [9] (.s .z (.s (.s .z .z) (.s (.s .z (.s .z (.s (.s .z .z) .z))) .z))))) (.s .z .z))) H
def sh_op_All (a0 a1 a2 a3:Value)(h:Heap)(R:Value→Heap→Prop):Prop:=
 vK (zaf a0) fun p=>
 vK (binV .i .gtr p (.int .i64 16)) fun q=>
 iteK q (
 R (.tuple #[(.slice none 0 0),(.int .i64 6)]) h) (
 FCall prog zdZ #[a1,a2,a3] h fun r f=>
 vK (unV .not r) fun s=>
 iteK s (
 R (.tuple #[(.slice none 0 0),(.int .i64 5)]) f) (
 vK (zaf a0) fun t=>
 loopK [a1,a2,(.slice none 0 0),(.int .i64 0)] f fun a ao b u=>
 vK (binV .i .lss (ix a 3) t) fun v=>
 iteK v (
 vK (idxV 9 a0 (ix a 3)) fun w=>
 vK (ldsV 9 b w) fun x=>
 newK #[(.int .i64 0),(.int .i64 0),(.int .i64 0),(.int .i64 0),(.slice none 0 0),(.slice none 0 0),(.int .i64 0),(.int .i64 0),(.int .i64 0)] 31 b fun c y=>
 stK 9 c x y fun ap g=>
 vK (ldsV 9 g c) fun z=>
 FCall prog ze2 #[z,(ix a 0),(ix a 1)] g fun j aa=>
 vK (extV j 0) fun ab=>
 vK (extV j 1) fun k=>
 newK #[(.pointer none),(.pointer none),(.int .i64 0)] 46 aa fun l ac=>
 stK 3 l ab ac fun aq d=>
 vK (binV .i .neq k (.int .i64 0)) fun ad=>
 iteK ad (
 R (.tuple #[(.slice none 0 0),k]) d) (
 vK (ldsV 9 d c) fun ae=>
 FCall prog zp5 #[ae,(ix a 0),(ix a 1)] d fun m af=>
 vK (extV m 0) fun n=>
 vK (extV m 1) fun o=>
 FCall prog zdZ #[n,o,a3] af fun ag e=>
 vK (unV .not ag) fun ah=>
 iteK ah (
 R (.tuple #[(.slice none 0 0),(.int .i64 5)]) e) (
 vK (ldsV 3 e l) fun ai=>
 rowK #[(.pointer none),(.pointer none),(.int .i64 0)] 46 1 [(0,3,ai)] e fun aj ak=>
 appK (.agg #[.pointer none,.pointer none,.int .i64 0]) 46 3 24 (ix a 2) aj ak fun al am=>
 vK (binV .i .add (ix a 3) (.int .i64 1)) fun an=>
 u [n,o,al,an] am))) (
 R (.tuple #[(ix a 2),(.int .i64 0)]) b)))
theorem ok_op_All (H:sh_op_All a0 a1 a2 a3 h R):FCall prog zs0 #[a0,a1,a2,a3] h R:=fk f65 (.s .z (.s (.s .z (.s (.s .z .z) (.s .z (.s (.s .z .z) .z)))) (.s .z (.s (.s .z (.l 288230376017524486 [1,2,10,27] (.s .z (.s (.s .z .z) (.s (.s .z (.s .z (.s (.s .z (.s (.s .z .z) .z)) (.s (.s .z (.s .z (.s (.s .z .z) .z))) .z)))) .z))))) (.s .z .z))))) H
def znP (a0 a1 a2 a3:Value)(h:Heap)(R:Value→Heap→Prop):Prop:=
 vK (zaf a0) fun p=>
 vK (binV .i .gtr p (.int .i64 16)) fun q=>
 iteK q (
 R (.tuple #[(.slice none 0 0),(.int .i64 6)]) h) (
 FCall prog zg1 #[a1,a2,a3] h fun r f=>
 vK (unV .not r) fun s=>
 iteK s (
 R (.tuple #[(.slice none 0 0),(.int .i64 5)]) f) (
 vK (zaf a0) fun t=>
 loopK [a1,a2,(.slice none 0 0),(.int .i64 0)] f fun a ao b u=>
 vK (binV .i .lss (ix a 3) t) fun v=>
 iteK v (
 vK (idxV 9 a0 (ix a 3)) fun w=>
 vK (ldsV 9 b w) fun x=>
 newK #[(.int .i64 0),(.int .i64 0),(.int .i64 0),(.int .i64 0),(.slice none 0 0),(.slice none 0 0),(.int .i64 0),(.int .i64 0),(.int .i64 0)] 230 b fun c y=>
 stK 9 c x y fun ap g=>
 vK (ldsV 9 g c) fun z=>
 FCall prog zjE #[z,(ix a 0),(ix a 1)] g fun j aa=>
 vK (extV j 0) fun ab=>
 vK (extV j 1) fun k=>
 newK #[(.slice none 0 0),(.slice none 0 0),(.int .i64 0),(.int .i64 0),(.int .i64 0)] 56 aa fun l ac=>
 stK 5 l ab ac fun aq d=>
 vK (binV .i .neq k (.int .i64 0)) fun ad=>
 iteK ad (
 R (.tuple #[(.slice none 0 0),k]) d) (
 vK (ldsV 9 d c) fun ae=>
 FCall prog zjD #[ae,(ix a 0),(ix a 1)] d fun m af=>
 vK (extV m 0) fun n=>
 vK (extV m 1) fun o=>
 FCall prog zg1 #[n,o,a3] af fun ag e=>
 vK (unV .not ag) fun ah=>
 iteK ah (
 R (.tuple #[(.slice none 0 0),(.int .i64 5)]) e) (
 vK (ldsV 5 e l) fun ai=>
 rowK #[(.slice none 0 0),(.slice none 0 0),(.int .i64 0),(.int .i64 0),(.int .i64 0)] 56 1 [(0,5,ai)] e fun aj ak=>
 appK (.agg #[.slice none 0 0,.slice none 0 0,.int .i64 0,.int .i64 0,.int .i64 0]) 56 5 72 (ix a 2) aj ak fun al am=>
 vK (binV .i .add (ix a 3) (.int .i64 1)) fun an=>
 u [n,o,al,an] am))) (
 R (.tuple #[(ix a 2),(.int .i64 0)]) b)))
theorem ok_ref12_All (H:znP a0 a1 a2 a3 h R):FCall prog zlh #[a0,a1,a2,a3] h R:=fk f66 (.s .z (.s (.s .z (.s (.s .z .z) .z)) (.s (.s .z (.s (.s .z .z) .z)) (.s .z (.s (.s .z (.l 72057594004403974 [1,2,10,25] (.s .z (.s (.s .z .z) (.s (.s .z (.s .z (.s (.s .z (.s (.s .z .z) .z)) (.s .z (.s (.s .z (.s (.s .z .z) .z)) .z))))) .z))))) (.s .z .z)))))) H
def zlY (a0:Value)(h:Heap)(R:Value→Heap→Prop):Prop:=
 vK (zaf a0) fun e=>
 loopK [(.slice none 0 0),(.int .i64 0)] h fun a u b f=>
 vK (binV .i .lss (ix a 1) e) fun g=>
 iteK g (
 vK (idxV 9 a0 (ix a 1)) fun j=>
 vK (ldsV 9 b j) fun k=>
 newK #[(.int .i64 0),(.int .i64 0),(.int .i64 0),(.int .i64 0),(.slice none 0 0),(.slice none 0 0),(.int .i64 0),(.int .i64 0),(.int .i64 0)] 31 b fun c l=>
 stK 9 c k l fun v d=>
 vK (ldsV 9 d c) fun m=>
 FCall prog zlo #[m] d fun n o=>
 rowK #[(.int .i64 0),(.int .i64 0),(.int .i64 0),(.int .i64 0),(.slice none 0 0),(.slice none 0 0),(.int .i64 0),(.int .i64 0),(.int .i64 0)] 230 1 [(0,9,n)] o fun p q=>
 appK (.agg #[.int .i64 0,.int .i64 0,.int .i64 0,.int .i64 0,.slice none 0 0,.slice none 0 0,.int .i64 0,.int .i64 0,.int .i64 0]) 230 9 104 (ix a 0) p q fun r s=>
 vK (binV .i .add (ix a 1) (.int .i64 1)) fun t=>
 f [r,t] s) (
 R (ix a 0) b)
theorem zsi (H:zlY a0 h R):FCall prog zjK #[a0] h R:=fk f67 (.s .z (.s .z (.s (.s .z (.l 261928 [3,8] (.s .z (.s (.s .z .z) (.s (.s .z .z) .z))))) (.s .z .z)))) H
def zkv (a0 a1 a2:Value)(h:Heap)(R:Value→Heap→Prop):Prop:=
 vK (binV .i .geq a0 (.int .i64 1)) fun c=>
 vK (gV c true (some a0)) fun g=>
 vK (gV c true (binV .i .leq g (.int .i64 65536))) fun j=>
 vK (pickV c j (.bool false)) fun d=>
 vK (gV d true (some a1)) fun k=>
 vK (gV d true (binV .i .geq k (.int .i64 1))) fun l=>
 vK (pickV d l (.bool false)) fun e=>
 vK (gV e true (some a1)) fun m=>
 vK (gV e true (binV .i .leq m (.int .i64 65536))) fun n=>
 vK (pickV e n (.bool false)) fun b=>
 vK (gV b true (some a2)) fun o=>
 vK (gV b true (binV .i .eql o (.int .i64 1))) fun p=>
 vK (gV b true (some p)) fun f=>
 vK (gV f false (some a2)) fun q=>
 vK (gV f false (binV .i .eql q (.int .i64 3))) fun r=>
 vK (gV b true (pickV f (.bool true) r)) fun s=>
 vK (pickV b s (.bool false)) fun a=>
 vK (gV a true (some a0)) fun t=>
 vK (gV a true (some a1)) fun u=>
 vK (gV a true (binV .i .mul t u)) fun v=>
 vK (gV a true (some a2)) fun w=>
 vK (gV a true (binV .i .mul v w)) fun x=>
 vK (gV a true (binV .i .leq x (.int .i64 268435456))) fun y=>
 vK (pickV a y (.bool false)) fun z=>
 R z h
theorem zqj (H:zkv a0 a1 a2 h R):FCall prog zdZ #[a0,a1,a2] h R:=fk f68 (.s .z (.s .z .z)) H
def zn0 (a0:Value)(h:Heap)(R:Value→Heap→Prop):Prop:=
 vK (binV .i .geq a0 (.int .i64 1)) fun a=>
 vK (gV a true (some a0)) fun b=>
 vK (gV a true (binV .i .leq b (.int .i64 4096))) fun c=>
 vK (pickV a c (.bool false)) fun d=>
 R d h
theorem ok_plan_side (H:zn0 a0 h R):FCall prog zii #[a0] h R:=fk f69 (.s .z (.s .z .z)) H
def zgL (a0:Value)(h:Heap)(R:Value→Heap→Prop):Prop:=
 drawK h fun S=>
 vK (nilV a0) fun c=>
 vK (fldV 0 c) fun d=>
 vK (fldV 1 d) fun e=>
 qK S (fun h=>ldV h e) fun f=>
 vK (nilV a0) fun g=>
 vK (fldV 4 g) fun j=>
 qK S (fun h=>ldV h j) fun k=>
 FCall prog zbU #[a0] h fun l a=>
 S a∧(FCall prog zas #[f] a fun m b=>
 S b∧(FCall prog zg6 #[m,k] b fun n o=>
 vK (binV .i .mul l n) fun p=>
 R p o))
theorem zmw (H:zgL a0 h R):FCall prog za4 #[a0] h R:=fk f73 (.s .z (.s (.d (.op 0 .r (.op 2 .r (.op 3 .r (.op 4 .r (.op 5 .r (.op 6 .r (.op 8 .r (.op 9 .r (.op 10 .r (.op 11 .r (.op 1 .e (.op 7 .e (.op 12 .n (.op 13 .r (.op 14 .r .nil)))))))))))))))) .z)) H
def ziH (a0 a1:Value)(h:Heap)(R:Value→Heap→Prop):Prop:=
 newK #[(.int .i64 0),(.int .i64 0),(.int .i64 0),(.int .i64 0)] 63 h fun e b=>
 drawK b fun S=>
 vK (nilV a0) fun l=>
 vK (fldV 3 l) fun m=>
 qK S (fun b=>ldV b m) fun n=>
 vK (nilV a0) fun o=>
 vK (fldV 4 o) fun p=>
 qK S (fun b=>ldV b p) fun q=>
 FCall prog zbU #[a0] b fun r f=>
 S f∧(vK (binV .i .rem a1 r) fun s=>
 vK (binV .i .mul s n) fun g=>
 FCall prog zbU #[a0] f fun t a=>
 S a∧(vK (binV .i .quo a1 t) fun u=>
 vK (binV .i .mul u q) fun j=>
 drawK a fun S=>
 vK (nilV a0) fun v=>
 vK (fldV 3 v) fun w=>
 qK S (fun a=>ldV a w) fun x=>
 vK (nilV a0) fun y=>
 vK (fldV 0 y) fun z=>
 vK (fldV 0 z) fun aa=>
 qK S (fun a=>ldV a aa) fun ab=>
 vK (nilV a0) fun ac=>
 vK (fldV 4 ac) fun ad=>
 qK S (fun a=>ldV a ad) fun ae=>
 vK (nilV a0) fun af=>
 vK (fldV 0 af) fun ag=>
 vK (fldV 1 ag) fun ah=>
 qK S (fun a=>ldV a ah) fun ai=>
 FCall prog zas #[ab] a fun aj c=>
 S c∧(vK (binV .i .sub aj g) fun ak=>
 qK S (fun c=>minV x ak) fun al=>
 FCall prog zas #[ai] c fun am d=>
 S d∧(vK (binV .i .sub am j) fun an=>
 qK S (fun d=>minV ae an) fun ao=>
 vK ((fillL #[(.int .i64 0),(.int .i64 0),(.int .i64 0),(.int .i64 0)] [(0,1,g),(1,1,j),(2,1,al),(3,1,ao)]).map .agg) fun ap=>
 stK 4 e ap d fun ar k=>
 vK (ldsV 4 k e) fun aq=>
 R aq k))))
theorem zot (H:ziH a0 a1 h R):FCall prog zd2 #[a0,a1] h R:=fk f74 (.s .z (.s (.d (.op 0 .r (.op 1 .r (.op 4 .r (.op 5 .r (.op 6 .r (.op 7 .r (.op 9 .r (.op 10 .r (.op 13 .r (.op 14 .r (.op 15 .r (.op 16 .r (.op 2 .e (.op 3 .r (.op 8 .r (.op 11 .e (.op 12 .r (.op 17 .r (.op 18 .r (.op 19 .r .nil))))))))))))))))))))) (.s (.d (.op 0 .r (.op 1 .r (.op 2 .r (.op 3 .r (.op 4 .r (.op 5 .r (.op 6 .r (.op 7 .r (.op 8 .r (.op 9 .r (.op 10 .r (.op 12 .r (.op 15 .r (.op 16 .r (.op 17 .r (.op 18 .r (.op 19 .r (.op 20 .r (.op 21 .r (.op 22 .r (.op 23 .r (.op 25 .r (.op 11 .e (.op 13 .r (.op 14 .r (.op 24 .e (.op 26 .r (.op 27 .r (.op 28 .r (.op 29 .n .nil))))))))))))))))))))))))))))))) .z))) H
def zfS (a0:Value)(h:Heap)(R:Value→Heap→Prop):Prop:=
 vK (nilV a0) fun a=>
 vK (fldV 2 a) fun b=>
 vK (ldV h b) fun c=>
 R c h
theorem zk0 (H:zfS a0 h R):FCall prog zbq #[a0] h R:=fk f75 (.s .z (.s .z .z)) H
def zfj (a0 a1 a2:Value)(h:Heap)(R:Value→Heap→Prop):Prop:=
 vK (maxV a1 (.int .i64 0)) fun d=>
 vK (nilV a0) fun k=>
 vK (fldV 1 k) fun l=>
 vK (ldV h l) fun m=>
 vK (zaf m) fun n=>
 vK (minV a2 n) fun f=>
 vK (binV .i .geq d f) fun o=>
 iteK o (
 R (.tuple #[(.int .i64 0),(.int .i64 0)]) h) (
 vK (nilV a0) fun p=>
 vK (fldV 1 p) fun q=>
 vK (ldV h q) fun r=>
 vK (idxV 2 r d) fun s=>
 vK (fldV 0 s) fun t=>
 vK (ldV h t) fun g=>
 vK (nilV a0) fun u=>
 vK (fldV 1 u) fun v=>
 vK (ldV h v) fun w=>
 vK (slcV 2 w (some d) (some f)) fun j=>
 vK (zaf j) fun x=>
 loopK [g,g,(.int .i64 0)] h fun a ap e y=>
 vK (binV .i .lss (ix a 2) x) fun z=>
 iteK z (
 vK (idxV 2 j (ix a 2)) fun aa=>
 vK (ldsV 2 e aa) fun ab=>
 newK #[(.int .i64 0),(.slice none 0 0)] 235 e fun b ac=>
 stK 2 b ab ac fun aq c=>
 vK (fldV 0 b) fun ad=>
 vK (ldV c ad) fun ae=>
 vK (minV (ix a 0) ae) fun af=>
 vK (fldV 0 b) fun ag=>
 vK (ldV c ag) fun ah=>
 vK (fldV 1 b) fun ai=>
 vK (ldV c ai) fun aj=>
 vK (zaf aj) fun ak=>
 vK (binV .i .add ah ak) fun al=>
 vK (maxV (ix a 1) al) fun am=>
 vK (binV .i .add (ix a 2) (.int .i64 1)) fun an=>
 y [af,am,an] c) (
 vK (binV .i .sub (ix a 1) (ix a 0)) fun ao=>
 R (.tuple #[(ix a 0),ao]) e))
theorem zkb (H:zfj a0 a1 a2 h R):FCall prog zbR #[a0,a1,a2] h R:=fk f76 (.s .z (.s .z (.s (.s .z (.s (.s .z .z) .z)) (.s .z (.s .z (.s (.s .z (.l 144114088564229440 [6,8,40] (.s .z (.s (.s .z .z) (.s (.s .z (.s .z .z)) .z))))) (.s .z .z))))))) H
def ziZ (a0 a1 a2:Value)(h:Heap)(R:Value→Heap→Prop):Prop:=
 newK (Value.cells a2) 46 h fun l a=>
 drawK a fun S=>
 vK (binV .p .neq a0 (.pointer none)) fun m=>
 vK (gV m true (some a1)) fun u=>
 vK (gV m true (binV .p .neq u (.pointer none))) fun v=>
 vK (pickV m v (.bool false)) fun j=>
 vK (gV j true (some a0)) fun w=>
 vK (gV j true (some a1)) fun x=>
 qK S (fun a=>gV j true (peV a .neq w x)) fun y=>
 vK (pickV j y (.bool false)) fun k=>
 vK (gV k true (some a0)) fun z=>
 qK S (fun a=>gV k true (ldsV 3 a l)) fun aa=>
 gK k true (fun ab=>FCall prog zbg #[z,aa] a ab) a fun ac f=>
 drawK f fun S=>
 vK (pickV k ac (.bool false)) fun b=>
 vK (gV b true (some a1)) fun ad=>
 vK (gV b true (fldV 0 l)) fun ae=>
 qK S (fun f=>gV b true (ldV f ae)) fun af=>
 gK b true (fun ag=>FCall prog zau #[ad] f ag) f fun ah n=>
 S n∧(gK b true (fun ai=>FCall prog zas #[af] n ai) n fun aj g=>
 drawK g fun S=>
 vK (gV b true (binV .i .eql ah aj)) fun ak=>
 vK (pickV b ak (.bool false)) fun c=>
 vK (gV c true (some a1)) fun al=>
 vK (gV c true (fldV 1 l)) fun am=>
 qK S (fun g=>gV c true (ldV g am)) fun an=>
 gK c true (fun ao=>FCall prog zaw #[al] g ao) g fun ap o=>
 S o∧(gK c true (fun aq=>FCall prog zas #[an] o aq) o fun ar q=>
 vK (gV c true (binV .i .eql ap ar)) fun au=>
 vK (pickV c au (.bool false)) fun d=>
 vK (gV d true (some a1)) fun av=>
 vK (gV d true (some a0)) fun aw=>
 gK d true (fun ax=>FCall prog zak #[av] q ax) q fun ay r=>
 gK d true (fun az=>FCall prog zak #[aw] r az) r fun a3 s=>
 vK (gV d true (binV .i .eql ay a3)) fun a4=>
 vK (pickV d a4 (.bool false)) fun e=>
 vK (gV e true (some a1)) fun a5=>
 vK (gV e true (some a0)) fun a6=>
 gK e true (fun a7=>FCall prog zaO #[a5] s a7) s fun a8 t=>
 gK e true (fun a9=>FCall prog zaO #[a6] t a9) t fun ba bb=>
 vK (gV e true (binV .i .eql a8 ba)) fun bc=>
 vK (pickV e bc (.bool false)) fun bd=>
 R bd bb))
theorem zpb (H:ziZ a0 a1 a2 h R):FCall prog zhc #[a0,a1,a2] h R:=fk f77 (.s .z (.s (.d (.op 0 .r (.op 1 .r (.op 2 .r (.op 3 .r (.op 4 .r (.op 5 .r (.op 6 .r (.op 7 .r (.op 8 .r (.op 9 .r (.op 10 .r (.op 11 .r (.op 12 .r (.op 13 .r (.op 14 .f (.op 15 .r (.op 16 .r (.op 17 .r (.op 19 .r (.op 20 .r (.op 18 .e (.op 21 .f (.op 22 .r (.op 23 .r (.op 24 .r (.op 25 .r (.op 27 .r (.op 28 .r (.op 26 .e (.op 29 .n (.op 30 .r (.op 31 .r (.op 32 .r (.op 33 .r (.op 35 .r (.op 34 .n (.op 36 .n (.op 37 .r (.op 38 .r (.op 39 .r (.op 40 .r (.op 42 .r (.op 41 .n (.op 43 .n (.op 44 .r (.op 45 .r (.op 46 .r .nil)))))))))))))))))))))))))))))))))))))))))))))))) .z)) H
def ziy (a0 a1:Value)(h:Heap)(R:Value→Heap→Prop):Prop:=
 newK (Value.cells a0) 46 h fun l t=>
 newK (Value.cells a1) 63 t fun b a=>
 drawK a fun S=>
 vK (fldV 0 l) fun u=>
 qK S (fun a=>ldV a u) fun v=>
 vK (binV .p .neq v (.pointer none)) fun m=>
 vK (gV m true (fldV 1 l)) fun w=>
 qK S (fun a=>gV m true (ldV a w)) fun x=>
 vK (gV m true (binV .p .neq x (.pointer none))) fun y=>
 vK (pickV m y (.bool false)) fun n=>
 vK (gV n true (fldV 2 b)) fun z=>
 qK S (fun a=>gV n true (ldV a z)) fun aa=>
 vK (gV n true (binV .i .geq aa (.int .i64 1))) fun ab=>
 vK (pickV n ab (.bool false)) fun o=>
 vK (gV o true (fldV 3 b)) fun ac=>
 qK S (fun a=>gV o true (ldV a ac)) fun ad=>
 vK (gV o true (binV .i .geq ad (.int .i64 1))) fun ae=>
 vK (pickV o ae (.bool false)) fun q=>
 vK (gV q true (fldV 0 b)) fun af=>
 qK S (fun a=>gV q true (ldV a af)) fun ag=>
 vK (gV q true (binV .i .geq ag (.int .i64 0))) fun ah=>
 vK (pickV q ah (.bool false)) fun r=>
 vK (gV r true (fldV 1 b)) fun ai=>
 qK S (fun a=>gV r true (ldV a ai)) fun aj=>
 vK (gV r true (binV .i .geq aj (.int .i64 0))) fun ak=>
 vK (pickV r ak (.bool false)) fun g=>
 vK (gV g true (fldV 0 b)) fun al=>
 qK S (fun a=>gV g true (ldV a al)) fun am=>
 vK (gV g true (fldV 0 l)) fun an=>
 qK S (fun a=>gV g true (ldV a an)) fun ao=>
 gK g true (fun ap=>FCall prog zas #[ao] a ap) a fun aq j=>
 S j∧(vK (gV g true (binV .i .lss am aq)) fun ar=>
 vK (pickV g ar (.bool false)) fun k=>
 vK (gV k true (fldV 1 b)) fun au=>
 qK S (fun j=>gV k true (ldV j au)) fun av=>
 vK (gV k true (fldV 1 l)) fun aw=>
 qK S (fun j=>gV k true (ldV j aw)) fun ax=>
 gK k true (fun ay=>FCall prog zas #[ax] j ay) j fun az e=>
 S e∧(vK (gV k true (binV .i .lss av az)) fun a2=>
 vK (pickV k a2 (.bool false)) fun c=>
 vK (gV c true (fldV 2 b)) fun a3=>
 qK S (fun e=>gV c true (ldV e a3)) fun a4=>
 vK (gV c true (fldV 0 l)) fun a5=>
 qK S (fun e=>gV c true (ldV e a5)) fun a6=>
 vK (gV c true (fldV 0 b)) fun a7=>
 qK S (fun e=>gV c true (ldV e a7)) fun a8=>
 gK c true (fun a9=>FCall prog zas #[a6] e a9) e fun ba f=>
 S f∧(vK (gV c true (binV .i .sub ba a8)) fun bb=>
 vK (gV c true (binV .i .leq a4 bb)) fun bc=>
 vK (pickV c bc (.bool false)) fun d=>
 vK (gV d true (fldV 3 b)) fun bd=>
 qK S (fun f=>gV d true (ldV f bd)) fun be=>
 vK (gV d true (fldV 1 l)) fun bf=>
 qK S (fun f=>gV d true (ldV f bf)) fun bg=>
 vK (gV d true (fldV 1 b)) fun bh=>
 qK S (fun f=>gV d true (ldV f bh)) fun bi=>
 gK d true (fun bj=>FCall prog zas #[bg] f bj) f fun bk s=>
 S s∧(vK (gV d true (binV .i .sub bk bi)) fun bl=>
 vK (gV d true (binV .i .leq be bl)) fun bm=>
 vK (pickV d bm (.bool false)) fun bn=>
 R bn s))))
theorem zok (H:ziy a0 a1 h R):FCall prog zdT #[a0,a1] h R:=fk f78 (.s .z (.s (.d (.op 0 .r (.op 1 .r (.op 2 .r (.op 3 .r (.op 4 .r (.op 5 .r (.op 6 .r (.op 7 .r (.op 8 .r (.op 9 .r (.op 10 .r (.op 11 .r (.op 12 .r (.op 13 .r (.op 14 .r (.op 15 .r (.op 16 .r (.op 17 .r (.op 18 .r (.op 19 .r (.op 20 .r (.op 21 .r (.op 22 .r (.op 23 .r (.op 24 .r (.op 25 .r (.op 26 .r (.op 27 .r (.op 28 .r (.op 29 .r (.op 30 .r (.op 31 .r (.op 32 .r (.op 33 .e (.op 34 .r (.op 35 .r (.op 36 .r (.op 37 .r (.op 38 .r (.op 39 .r (.op 40 .r (.op 41 .e (.op 42 .r (.op 43 .r (.op 44 .r (.op 45 .r (.op 46 .r (.op 47 .r (.op 48 .r (.op 50 .r (.op 51 .r (.op 49 .e (.op 52 .r (.op 53 .r (.op 54 .r (.op 55 .r (.op 56 .r (.op 57 .r (.op 58 .r (.op 59 .r (.op 61 .r (.op 62 .r (.op 60 .e (.op 63 .r (.op 64 .r (.op 65 .r (.op 66 .r .nil)))))))))))))))))))))))))))))))))))))))))))))))))))))))))))))))))))) .z)) H
def zoS (a0 a1:Value)(h:Heap)(R:Value→Heap→Prop):Prop:=
 vK (maxV (.int .i64 1) a0) fun a=>
 vK (minV a (.int .i64 65536)) fun b=>
 vK (maxV (.int .i64 0) a1) fun c=>
 vK (minV c (.int .i64 262144)) fun d=>
 newmK h fun e f=>
 vK ((fillL #[(.int .i64 0),(.int .i64 0),(.map none),(.slice none 0 0)] [(0,1,b),(1,1,d),(2,1,e)]).map .agg) fun g=>
 newK (Value.cells g) 239 f fun i j=>
 R i j
theorem ok_ring_New (H:zoS a0 a1 h R):FCall prog znE #[a0,a1] h R:=fk f79 (.s .z (.s .z .z)) H
def zd8 (a0:Value)(h:Heap)(R:Value→Heap→Prop):Prop:=
 vK (nilV a0) fun b=>
 vK (fldV 2 b) fun c=>
 vK (ldV h c) fun a=>
 vK (gV a false (some a0)) fun d=>
 vK (gV a false (nilV d)) fun e=>
 vK (gV a false (fldV 1 e)) fun f=>
 vK (gV a false (ldV h f)) fun g=>
 vK (gV a false (zaf g)) fun j=>
 vK (gV a false (some a0)) fun k=>
 vK (gV a false (nilV k)) fun l=>
 vK (gV a false (fldV 0 l)) fun m=>
 vK (gV a false (ldV h m)) fun n=>
 vK (gV a false (binV .i .lss j n)) fun o=>
 vK (pickV a (.bool true) o) fun p=>
 R p h
theorem ziS (H:zd8 a0 h R):FCall prog zb4 #[a0] h R:=fk f80 (.s .z (.s .z .z)) H
def zdl (a0:Value)(h:Heap)(R:Value→Heap→Prop):Prop:=
 vK (nilV a0) fun b=>
 vK (fldV 2 b) fun c=>
 vK (ldV h c) fun a=>
 vK (gV a false (some a0)) fun d=>
 vK (gV a false (nilV d)) fun e=>
 vK (gV a false (fldV 1 e)) fun f=>
 vK (gV a false (ldV h f)) fun g=>
 vK (gV a false (zaf g)) fun j=>
 vK (gV a false (binV .i .gtr j (.int .i64 0))) fun k=>
 vK (pickV a (.bool true) k) fun l=>
 R l h
theorem zg9 (H:zdl a0 h R):FCall prog zcm #[a0] h R:=fk f82 (.s .z (.s .z .z)) H
def zgy (a0:Value)(h:Heap)(R:Value→Heap→Prop):Prop:=
 newK #[(.int .i64 0),(.int .i64 0)] 97 h fun a l=>
 FCall prog zck #[a0] l fun m n=>
 newK #[(.int .i64 0),(.int .i64 0)] 97 n fun b o=>
 stK 2 b m o fun aa c=>
 vK (fldV 0 b) fun p=>
 vK (ldV c p) fun d=>
 vK (binV .i .eql d (.int .i64 1)) fun q=>
 iteK q (
 vK (fldV 1 b) fun r=>
 vK (ldV c r) fun s=>
 FCall prog zdu #[a0,s] c fun ab e=>
 vK (ldsV 2 e b) fun t=>
 stK 2 a t e fun ac f=>
 vK (ldsV 2 f a) fun u=>
 R u f) (
 vK (binV .i .eql d (.int .i64 2)) fun v=>
 iteK v (
 FCall prog zdU #[a0] c fun ad g=>
 vK (ldsV 2 g b) fun w=>
 stK 2 a w g fun ae j=>
 vK (ldsV 2 j a) fun x=>
 R x j) (
 vK (ldsV 2 c b) fun y=>
 stK 2 a y c fun af k=>
 vK (ldsV 2 k a) fun z=>
 R z k))
theorem zmj (H:zgy a0 h R):FCall prog zbI #[a0] h R:=fk f83 (.s .z (.s .z (.s (.s .z (.s .z (.s .z (.s .z (.s .z .z))))) (.s .z .z)))) H
def zdM (a0:Value)(h:Heap)(R:Value→Heap→Prop):Prop:=
 vK (nilV a0) fun d=>
 vK (fldV 0 d) fun e=>
 stK 1 e (.int .i64 1) h fun aa b=>
 vK (nilV a0) fun f=>
 vK (fldV 2 f) fun g=>
 vK (ldV b g) fun j=>
 vK (binV .p .eql j (.pointer none)) fun a=>
 vK (gV a false (some a0)) fun k=>
 vK (gV a false (nilV k)) fun l=>
 vK (gV a false (fldV 2 l)) fun m=>
 vK (gV a false (ldV b m)) fun n=>
 gK a false (fun o=>FCall prog zck #[n] b o) b fun q c=>
 vK (gV a false (partV false 1 0 q)) fun r=>
 vK (gV a false (binV .i .eql r (.int .i64 0))) fun s=>
 vK (pickV a (.bool true) s) fun t=>
 iteK t (
 vK (nilV a0) fun u=>
 vK (fldV 0 u) fun v=>
 stK 1 v (.int .i64 0) c fun ab w=>
 vK (nilV a0) fun x=>
 vK (fldV 2 x) fun y=>
 stK 1 y (.pointer none) w fun ac z=>
 R (.tuple #[]) z) (
 R (.tuple #[]) c)
theorem zhX (H:zdM a0 h R):FCall prog zaU #[a0] h R:=fk f84 (.s .z (.s .z (.s .z .z))) H
def zd7 (a0:Value)(h:Heap)(R:Value→Heap→Prop):Prop:=
 vK (nilV a0) fun a=>
 vK (fldV 1 a) fun b=>
 vK (ldV h b) fun c=>
 vK (zaf c) fun d=>
 vK (binV .i .gtr d (.int .i64 0)) fun e=>
 iteK e (
 vK (nilV a0) fun f=>
 vK (fldV 1 f) fun g=>
 vK (ldV h g) fun j=>
 vK (idxV 1 j (.int .i64 0)) fun k=>
 vK (ldV h k) fun l=>
 vK (nilV a0) fun m=>
 vK (fldV 1 m) fun n=>
 vK (ldV h n) fun o=>
 FCall prog zdd #[o,(.int .i64 0),(.int .i64 1)] h fun p q=>
 vK (nilV a0) fun r=>
 vK (fldV 1 r) fun s=>
 stK 1 s p q fun x t=>
 R (.tuple #[l,(.int .i64 0)]) t) (
 vK (nilV a0) fun u=>
 vK (fldV 2 u) fun v=>
 vK (ldV h v) fun w=>
 iteK w (
 R (.tuple #[(.int .i64 0),(.int .i64 2)]) h) (
 R (.tuple #[(.int .i64 0),(.int .i64 1)]) h))
theorem ziR (H:zd7 a0 h R):FCall prog zc0 #[a0] h R:=fk f85 (.s .z (.s (.s .z (.s (.s .z (.s .z (.s .z .z))) (.s .z (.s (.s .z .z) .z)))) (.s .z .z))) H
def zeK (a0 a1 a2:Value)(h:Heap)(R:Value→Heap→Prop):Prop:=
 newK #[(.int .i64 0),(.int .i64 0),(.int .i64 0),(.int .i64 0)] 99 h fun b d=>
 vK (nilV a0) fun k=>
 vK (fldV 1 k) fun l=>
 vK (ldV d l) fun m=>
 rowK #[(.int .i64 0)] 3 1 [(0,1,a1)] d fun n o=>
 appK (.int .i64 0) 3 1 8 m n o fun q r=>
 vK (nilV a0) fun s=>
 vK (fldV 1 s) fun t=>
 stK 1 t q r fun ax e=>
 joinK (fun g=>
 vK (binV .f .neq a2 .nilFunc) fun u=>
 iteK u (
 clK prog a2 #[a1] e fun v w=>
 vK (nilV a0) fun x=>
 vK (fldV 2 x) fun y=>
 stK 1 y v w fun ay z=>
 g [] z) (
 g [] e))
 fun az a3 a=>
 vK (nilV a0) fun aa=>
 vK (fldV 2 aa) fun ab=>
 vK (ldV a ab) fun ac=>
 vK (binV .p .neq ac (.pointer none)) fun ad=>
 iteK ad (
 drawK a fun S=>
 vK (nilV a0) fun ae=>
 vK (fldV 3 ae) fun af=>
 qK S (fun a=>ldV a af) fun ag=>
 vK (nilV a0) fun ah=>
 vK (fldV 2 ah) fun ai=>
 qK S (fun a=>ldV a ai) fun aj=>
 FCall prog zcL #[aj] a fun ak c=>
 S c∧(qK S (fun c=>maxV ag ak) fun al=>
 vK (nilV a0) fun am=>
 vK (fldV 3 am) fun an=>
 stK 1 an al c fun a4 ao=>
 FCall prog zaU #[a0] ao fun a5 ap=>
 vK ((fillL #[(.int .i64 0),(.int .i64 0),(.int .i64 0),(.int .i64 0)] [(0,1,(.int .i64 1)),(1,1,a1)]).map .agg) fun aq=>
 stK 4 b aq ap fun a6 i=>
 vK (ldsV 4 i b) fun ar=>
 R ar i)) (
 FCall prog zaU #[a0] a fun a7 au=>
 vK ((fillL #[(.int .i64 0),(.int .i64 0),(.int .i64 0),(.int .i64 0)] [(0,1,(.int .i64 1)),(1,1,a1)]).map .agg) fun av=>
 stK 4 b av au fun a8 j=>
 vK (ldsV 4 j b) fun aw=>
 R aw j)
theorem zjl (H:zeK a0 a1 a2 h R):FCall prog zdf #[a0,a1,a2] h R:=fk f86 (.s .z (.s .z (.j 33423360 [] (.s .z (.s .z .z)) (.s (.s .z (.s (.d (.op 0 .r (.op 1 .r (.op 2 .r (.op 3 .r (.op 4 .r (.op 5 .r (.op 6 .r (.op 7 .r (.op 8 .r (.op 9 .e (.op 10 .r (.op 11 .r (.op 12 .r (.op 13 .n .nil))))))))))))))) .z)) (.s .z (.s .z .z)))))) H
end
section
variable {a0 a1 a2 a3 a4 a5 a6:Value}{h:Heap}{R:Value→Heap→Prop}
def znX (a0 a1 a2 a3 a4:Value)(h:Heap)(R:Value→Heap→Prop):Prop:=
 FCall prog zct #[a0,a1,a2,a3] h fun d a=>
 vK (extV d 0) fun b=>
 vK (extV d 1) fun e=>
 vK (binV .i .neq e (.int .i64 0)) fun f=>
 iteK f (
 R (.tuple #[(.pointer none),e]) a) (
 vK (zaf a4) fun g=>
 vK (nilV b) fun j=>
 vK (fldV 4 j) fun k=>
 vK (ldV a k) fun l=>
 vK (zaf l) fun m=>
 vK (binV .i .neq g m) fun n=>
 iteK n (
 R (.tuple #[(.pointer none),(.int .i64 2)]) a) (
 FCall prog zby #[a4] a fun o c=>
 vK (cviV .i64 o) fun p=>
 vK (binV .i .gtr p a3) fun q=>
 iteK q (
 R (.tuple #[(.pointer none),(.int .i64 4)]) c) (
 vK (nilV b) fun r=>
 vK (fldV 4 r) fun s=>
 vK (ldV c s) fun t=>
 cpyK 1 t a4 c fun v u=>
 R (.tuple #[b,(.int .i64 0)]) u)))
theorem ok_raster_Of (H:znX a0 a1 a2 a3 a4 h R):FCall prog zgp #[a0,a1,a2,a3,a4] h R:=fk f88 (.s .z (.s .z (.s (.s .z (.s (.s .z .z) (.s .z (.s (.s .z .z) (.s .z (.s (.s .z .z) .z)))))) (.s .z (.s .z .z))))) H
def zqP (a0 a1 a2:Value)(h:Heap)(R:Value→Heap→Prop):Prop:=
 newK (Value.cells a0) 31 h fun d q=>
 newK #[(.pointer none),(.pointer none),(.int .i64 0)] 46 q fun a j=>
 vK (ldsV 9 j d) fun r=>
 FCall prog zsZ #[r] j fun s k=>
 vK (unV .not s) fun b=>
 vK (gV b false (some a1)) fun t=>
 gK b false (fun u=>FCall prog zhP #[t] k u) k fun v l=>
 vK (gV b false (unV .not v)) fun w=>
 vK (pickV b (.bool true) w) fun c=>
 vK (gV c false (some a2)) fun x=>
 gK c false (fun y=>FCall prog zhP #[x] l y) l fun z e=>
 vK (gV c false (unV .not z)) fun aa=>
 vK (pickV c (.bool true) aa) fun ab=>
 iteK ab (
 vK ((fillL #[(.pointer none),(.pointer none),(.int .i64 0)] []).map .agg) fun ac=>
 stK 3 a ac e fun ao m=>
 vK (ldsV 3 m a) fun ad=>
 R (.tuple #[ad,(.int .i64 6)]) m) (
 vK (ldsV 9 e d) fun ae=>
 FCall prog zln #[ae,a1,a2] e fun f g=>
 vK (extV f 0) fun af=>
 vK (extV f 1) fun ag=>
 vK (extV f 2) fun n=>
 vK (binV .i .neq n (.int .i64 0)) fun ah=>
 iteK ah (
 vK ((fillL #[(.pointer none),(.pointer none),(.int .i64 0)] []).map .agg) fun ai=>
 stK 3 a ai g fun ap o=>
 vK (ldsV 3 o a) fun aj=>
 R (.tuple #[aj,n]) o) (
 vK (fldV 1 d) fun ak=>
 vK (ldV g ak) fun al=>
 vK ((fillL #[(.pointer none),(.pointer none),(.int .i64 0)] [(0,1,af),(1,1,ag),(2,1,al)]).map .agg) fun am=>
 stK 3 a am g fun aq p=>
 vK (ldsV 3 p a) fun an=>
 R (.tuple #[an,(.int .i64 0)]) p))
theorem ok_op_Make (H:zqP a0 a1 a2 h R):FCall prog ze2 #[a0,a1,a2] h R:=fk f89 (.s .z (.s (.s .z (.s (.s .z .z) .z)) (.s .z (.s (.s .z (.s (.s .z .z) .z)) (.s .z .z))))) H
def zkz (h:Heap)(R:Value→Heap→Prop):Prop:=
 rowK #[(.int .i64 0),(.int .i64 0)] 3 2 [(0,1,(.int .i64 1)),(1,1,(.int .i64 0))] h fun f g=>
 vK ((fillL #[(.int .i64 0),(.slice none 0 0),(.int .i64 0),(.int .i64 0),(.int .i64 0),(.bool false)] [(1,1,f),(3,1,(.int .i64 3)),(4,1,(.int .i64 4)),(5,1,(.bool true))]).map .agg) fun i=>
 newK #[(.int .i64 0),(.slice none 0 0),(.int .i64 0),(.int .i64 0),(.int .i64 0),(.bool false)] 211 g fun c j=>
 stK 6 c i j fun x k=>
 rowK #[(.int .i64 0),(.int .i64 0)] 3 2 [(0,1,(.int .i64 0)),(1,1,(.int .i64 1))] k fun l m=>
 vK ((fillL #[(.int .i64 0),(.slice none 0 0),(.int .i64 0),(.int .i64 0),(.int .i64 0),(.bool false)] [(0,1,(.int .i64 1)),(1,1,l),(3,1,(.int .i64 2)),(4,1,(.int .i64 9)),(5,1,(.bool true))]).map .agg) fun n=>
 newK #[(.int .i64 0),(.slice none 0 0),(.int .i64 0),(.int .i64 0),(.int .i64 0),(.bool false)] 211 m fun d o=>
 stK 6 d n o fun y e=>
 vK (ldsV 6 e c) fun p=>
 vK (ldsV 6 e d) fun q=>
 FCall prog zfB #[p,q] e fun a b=>
 vK (gV a true (ldsV 6 b d)) fun r=>
 vK (gV a true (ldsV 6 b c)) fun s=>
 gK a true (fun t=>FCall prog zfB #[r,s] b t) b fun u v=>
 vK (pickV a u (.bool false)) fun w=>
 R w v
theorem zqn (H:zkz h R):FCall prog zil #[] h R:=fk f90 (.s .z (.s .z (.s .z (.s .z .z)))) H
def zgG (a0 a1 a2 a3:Value)(h:Heap)(R:Value→Heap→Prop):Prop:=
 FCall prog zcc #[a0,a1,a2,a3] h fun b a=>
 vK (binV .i .geq b (.int .i64 0)) fun c=>
 iteK c (
 vK (nilV a0) fun d=>
 vK (fldV 4 d) fun e=>
 vK (ldV a e) fun f=>
 vK (idxV 1 f b) fun g=>
 vK (ldV a g) fun j=>
 R j a) (
 R (.int .u16 0) a)
theorem zmr (H:zgG a0 a1 a2 a3 h R):FCall prog zbJ #[a0,a1,a2,a3] h R:=fk f91 (.s .z (.s (.s .z (.s .z (.s (.s .z .z) .z))) (.s .z .z))) H
def zdN (a0:Value)(h:Heap)(R:Value→Heap→Prop):Prop:=
 vK (nilV a0) fun a=>
 vK (fldV 4 a) fun b=>
 vK (ldV h b) fun c=>
 FCall prog zaR #[c] h fun d e=>
 R d e
theorem zhY (H:zdN a0 h R):FCall prog zcG #[a0] h R:=fk f93 (.s .z (.s .z .z)) H
def zfl (a0:Value)(h:Heap)(R:Value→Heap→Prop):Prop:=
 drawK h fun S=>
 vK (nilV a0) fun b=>
 vK (fldV 0 b) fun c=>
 qK S (fun h=>ldV h c) fun d=>
 vK (nilV a0) fun e=>
 vK (fldV 1 e) fun f=>
 qK S (fun h=>ldV h f) fun g=>
 vK (nilV a0) fun i=>
 vK (fldV 2 i) fun j=>
 qK S (fun h=>ldV h j) fun k=>
 vK (nilV a0) fun l=>
 vK (fldV 3 l) fun m=>
 qK S (fun h=>ldV h m) fun n=>
 vK (nilV a0) fun o=>
 vK (fldV 4 o) fun p=>
 qK S (fun h=>ldV h p) fun q=>
 FCall prog zaR #[q] h fun r a=>
 S a∧(vK ((fillL #[(.int .i64 0),(.int .i64 0),(.int .i64 0),(.int .i64 0),(.slice none 0 0)] [(0,1,d),(1,1,g),(2,1,k),(3,1,n),(4,1,r)]).map .agg) fun s=>
 newK (Value.cells s) 151 a fun t u=>
 R t u)
theorem zkd (H:zfl a0 h R):FCall prog zdx #[a0] h R:=fk f94 (.s .z (.s (.d (.op 0 .r (.op 1 .r (.op 2 .r (.op 3 .r (.op 4 .r (.op 5 .r (.op 6 .r (.op 7 .r (.op 8 .r (.op 9 .r (.op 10 .r (.op 11 .r (.op 12 .r (.op 13 .r (.op 14 .r (.op 15 .r (.op 16 .r (.op 17 .r (.op 18 .r (.op 19 .r (.op 20 .e (.op 21 .r (.op 22 .n (.op 23 .r .nil))))))))))))))))))))))))) .z)) H
def ziI (a0:Value)(h:Heap)(R:Value→Heap→Prop):Prop:=
 FCall prog za4 #[a0] h fun f g=>
 loopK [(.slice none 0 0),(.int .i64 0)] g fun a u b j=>
 vK (binV .i .lss (ix a 1) f) fun k=>
 iteK k (
 FCall prog zbz #[a0,(ix a 1)] b fun c l=>
 vK (extV c 0) fun m=>
 vK (extV c 1) fun v=>
 newK #[(.int .i64 0),(.int .i64 0),(.int .i64 0),(.int .i64 0),(.int .i64 0),(.int .i64 0),(.int .i64 0),(.int .i64 0),(.int .i64 0),(.int .i64 0)] 65 l fun d n=>
 stK 10 d m n fun w e=>
 vK (ldsV 10 e d) fun o=>
 rowK #[(.int .i64 0),(.int .i64 0),(.int .i64 0),(.int .i64 0),(.int .i64 0),(.int .i64 0),(.int .i64 0),(.int .i64 0),(.int .i64 0),(.int .i64 0)] 65 1 [(0,10,o)] e fun p q=>
 appK (.agg #[.int .i64 0,.int .i64 0,.int .i64 0,.int .i64 0,.int .i64 0,.int .i64 0,.int .i64 0,.int .i64 0,.int .i64 0,.int .i64 0]) 65 10 80 (ix a 0) p q fun r s=>
 vK (binV .i .add (ix a 1) (.int .i64 1)) fun t=>
 j [r,t] s) (
 R (ix a 0) b)
theorem zou (H:ziI a0 h R):FCall prog zgr #[a0] h R:=fk f95 (.s .z (.s .z (.s (.s .z (.l 8388216 [3,9] (.s .z (.s (.s .z .z) (.s (.s .z (.s .z .z)) .z))))) (.s .z .z)))) H
def zi0 (a0 a1:Value)(h:Heap)(R:Value→Heap→Prop):Prop:=
 newK (Value.cells a0) 46 h fun g m=>
 newK (Value.cells a1) 65 m fun b j=>
 vK (ldsV 3 j g) fun n=>
 vK (fldV 1 b) fun o=>
 vK (ldsV 4 j o) fun p=>
 FCall prog zdT #[n,p] j fun q c=>
 vK (unV .not q) fun r=>
 iteK r (
 R (.int .i64 0) c) (
 vK (fldV 1 b) fun s=>
 vK (fldV 3 s) fun t=>
 vK (ldV c t) fun u=>
 vK (fldV 1 g) fun v=>
 vK (ldV c v) fun w=>
 vK (fldV 1 b) fun x=>
 vK (fldV 1 x) fun y=>
 vK (ldV c y) fun z=>
 FCall prog zai #[w,z] c fun aa k=>
 vK (partV false 1 0 aa) fun ab=>
 vK (fldV 1 b) fun ac=>
 vK (fldV 3 ac) fun ad=>
 vK (ldV k ad) fun ae=>
 loopK [u,ab,(.int .i64 0)] k fun a a7 d af=>
 vK (binV .i .lss (ix a 2) ae) fun ag=>
 iteK ag (
 vK (fldV 1 g) fun ah=>
 vK (ldV d ah) fun ai=>
 vK (fldV 1 b) fun aj=>
 vK (fldV 1 aj) fun ak=>
 vK (ldV d ak) fun al=>
 vK (binV .i .add al (ix a 2)) fun am=>
 FCall prog zai #[ai,am] d fun an ao=>
 newK #[(.int .i64 0),(.slice none 0 0)] 235 ao fun e ap=>
 stK 2 e an ap fun a8 f=>
 vK (fldV 0 e) fun aq=>
 vK (ldV f aq) fun ar=>
 vK (fldV 1 e) fun au=>
 vK (ldV f au) fun av=>
 vK (zaf av) fun aw=>
 vK (binV .i .add ar aw) fun l=>
 vK (fldV 0 e) fun ax=>
 vK (ldV f ax) fun ay=>
 vK (maxV (ix a 1) ay) fun az=>
 vK (binV .i .sub l az) fun a2=>
 vK (maxV (.int .i64 0) a2) fun a3=>
 vK (binV .i .add (ix a 0) a3) fun a4=>
 vK (maxV (ix a 1) l) fun a5=>
 vK (binV .i .add (ix a 2) (.int .i64 1)) fun a6=>
 af [a4,a5,a6] f) (
 R (ix a 0) d))
theorem zpc (H:zi0 a0 a1 h R):FCall prog zhd #[a0,a1] h R:=fk f96 (.s .z (.s (.s .z (.s (.s .z .z) .z)) (.s .z (.s .z (.s (.s .z (.l 288230375883277280 [5,6,28] (.s .z (.s (.s .z .z) (.s (.s .z (.s .z (.s .z (.s .z .z)))) .z))))) (.s .z .z)))))) H
def zgK (a0:Value)(h:Heap)(R:Value→Heap→Prop):Prop:=
 newK #[(.pointer none),(.pointer none),(.int .i64 0)] 46 h fun a b=>
 vK (nilV a0) fun d=>
 vK (fldV 0 d) fun e=>
 vK (ldsV 3 b e) fun f=>
 stK 3 a f b fun i c=>
 vK (ldsV 3 c a) fun g=>
 R g c
theorem zmv (H:zgK a0 h R):FCall prog zcn #[a0] h R:=fk f97 (.s .z (.s .z .z)) H
def zhy (a0 a1:Value)(h:Heap)(R:Value→Heap→Prop):Prop:=
 vK (binV .i .lss a1 (.int .i64 0)) fun a=>
 vK (gV a false (some a1)) fun e=>
 vK (gV a false (some a0)) fun f=>
 vK (gV a false (nilV f)) fun g=>
 vK (gV a false (fldV 6 g)) fun j=>
 vK (gV a false (ldV h j)) fun k=>
 vK (gV a false (zaf k)) fun l=>
 vK (gV a false (binV .i .gtr e l)) fun m=>
 vK (pickV a (.bool true) m) fun n=>
 iteK n (
 R (.bool false) h) (
 vK (binV .i .gtr a1 (.int .i64 0)) fun o=>
 iteK o (
 drawK h fun S=>
 vK (nilV a0) fun p=>
 vK (fldV 6 p) fun q=>
 qK S (fun h=>ldV h q) fun r=>
 vK (binV .i .sub a1 (.int .i64 1)) fun s=>
 vK (idxV 1 r s) fun t=>
 qK S (fun h=>ldV h t) fun u=>
 vK (nilV a0) fun v=>
 vK (fldV 3 v) fun w=>
 qK S (fun h=>ldV h w) fun x=>
 FCall prog za2 #[u,x] h fun y z=>
 R y z) (
 vK (nilV a0) fun aa=>
 vK (fldV 12 aa) fun ab=>
 vK (ldV h ab) fun ac=>
 iteK ac (
 R (.bool false) h) (
 drawK h fun S=>
 vK (nilV a0) fun ad=>
 vK (fldV 8 ad) fun ae=>
 qK S (fun h=>ldV h ae) fun af=>
 vK (nilV a0) fun ag=>
 vK (fldV 2 ag) fun ah=>
 qK S (fun h=>ldV h ah) fun ai=>
 FCall prog za4 #[ai] h fun aj b=>
 S b∧(vK (binV .i .lss af aj) fun ak=>
 iteK ak (
 vK (nilV a0) fun al=>
 vK (fldV 3 al) fun am=>
 vK (ldV b am) fun an=>
 FCall prog zb4 #[an] b fun ao ap=>
 R ao ap) (
 vK (nilV a0) fun aq=>
 vK (fldV 3 aq) fun ar=>
 vK (ldV b ar) fun au=>
 FCall prog zcd #[au] b fun av d=>
 vK (unV .not av) fun c=>
 vK (gV c false (some a0)) fun aw=>
 gK c false (fun ax=>FCall prog zff #[aw] d ax) d fun ay az=>
 vK (pickV c (.bool true) ay) fun a2=>
 R a2 az)))))
theorem znb (H:zhy a0 a1 h R):FCall prog zdq #[a0,a1] h R:=fk f98 (.s .z (.s (.s .z (.s (.s .z .z) (.s .z (.s (.s (.d (.op 0 .r (.op 1 .r (.op 2 .r (.op 3 .r (.op 4 .r (.op 5 .r (.op 6 .r (.op 7 .r (.op 8 .r (.op 9 .r (.op 10 .r (.op 11 .r (.op 12 .n (.op 13 .r .nil))))))))))))))) .z) (.s .z (.s (.s .z .z) (.s (.d (.op 0 .r (.op 1 .r (.op 2 .r (.op 3 .r (.op 4 .r (.op 5 .r (.op 6 .r (.op 7 .r (.op 8 .e (.op 9 .r (.op 10 .r .nil)))))))))))) (.s (.s .z .z) .z)))))))) (.s .z .z))) H
def zfZ (a0 a1:Value)(h:Heap)(R:Value→Heap→Prop):Prop:=
 newK (Value.cells a1) 46 h fun c d=>
 vK (fldV 0 c) fun m=>
 vK (ldV d m) fun n=>
 vK (binV .p .neq n (.pointer none)) fun f=>
 vK (gV f true (fldV 1 c)) fun o=>
 vK (gV f true (ldV d o)) fun q=>
 vK (gV f true (binV .p .neq q (.pointer none))) fun r=>
 vK (pickV f r (.bool false)) fun a=>
 vK (gV a true (fldV 0 c)) fun t=>
 vK (gV a true (ldV d t)) fun u=>
 gK a true (fun v=>FCall prog zbr #[u] d v) d fun w k=>
 vK (gV a true (some a0)) fun x=>
 gK a true (fun y=>FCall prog zau #[x] k y) k fun z g=>
 vK (gV a true (binV .i .eql w z)) fun aa=>
 vK (pickV a aa (.bool false)) fun b=>
 vK (gV b true (fldV 1 c)) fun ab=>
 vK (gV b true (ldV g ab)) fun ac=>
 gK b true (fun ad=>FCall prog zbr #[ac] g ad) g fun ae l=>
 vK (gV b true (some a0)) fun af=>
 gK b true (fun ag=>FCall prog zaw #[af] l ag) l fun ah j=>
 vK (gV b true (binV .i .eql ae ah)) fun ai=>
 vK (pickV b ai (.bool false)) fun e=>
 vK (gV e true (fldV 2 c)) fun aj=>
 vK (gV e true (ldV j aj)) fun ak=>
 gK e true (fun al=>FCall prog zfF #[ak] j al) j fun am an=>
 vK (gV e true (binV .s .neq am (.string ⟨#[]⟩))) fun ao=>
 vK (pickV e ao (.bool false)) fun ap=>
 R ap an
theorem zjt (H:zfZ a0 a1 h R):FCall prog zbg #[a0,a1] h R:=fk f102 (.s .z (.s .z .z)) H
def zn6 (a0:Value)(h:Heap)(R:Value→Heap→Prop):Prop:=
 vK (maxV (.int .i64 1) a0) fun j=>
 vK (minV j (.int .i64 512)) fun c=>
 mkK (.slice none 0 0) 195 1 24 c c h fun k l=>
 vK ((fillL #[(.slice none 0 0)] [(0,1,k)]).map .agg) fun m=>
 newK (Value.cells m) 256 l fun d f=>
 vK (nilV d) fun n=>
 vK (fldV 0 n) fun o=>
 vK (ldV f o) fun p=>
 vK (zaf p) fun q=>
 loopK [(.int .i64 0)] f fun a ag b r=>
 vK (binV .i .lss (ix a 0) q) fun s=>
 iteK s (
 drawK b fun S=>
 vK (nilV d) fun t=>
 vK (fldV 0 t) fun u=>
 qK S (fun b=>ldV b u) fun v=>
 mkK (.int .i64 0) 3 1 8 c c b fun w g=>
 S g∧(vK (idxV 1 v (ix a 0)) fun x=>
 stK 1 x w g fun ah e=>
 vK (nilV d) fun y=>
 vK (fldV 0 y) fun z=>
 vK (ldV e z) fun aa=>
 vK (idxV 1 aa (ix a 0)) fun ab=>
 vK (ldV e ab) fun ac=>
 vK (idxV 1 ac (ix a 0)) fun ad=>
 stK 1 ad (.int .i64 1) e fun ai ae=>
 vK (binV .i .add (ix a 0) (.int .i64 1)) fun af=>
 r [af] ae)) (
 R d b)
theorem ok_clock_New (H:zn6 a0 h R):FCall prog zew #[a0] h R:=fk f103 (.s .z (.s .z (.s .z (.s (.s .z (.l 274877775888 [17] (.s .z (.s (.s .z .z) (.s (.s .z (.s (.d (.op 0 .r (.op 1 .r (.op 2 .r (.op 3 .r (.op 4 .r (.op 5 .r (.op 6 .e (.op 7 .r (.op 8 .n .nil)))))))))) .z)) .z))))) (.s .z .z))))) H
def zhA (a0 a1 a2 a3 a4 a5:Value)(h:Heap)(R:Value→Heap→Prop):Prop:=
 drawK h fun S=>
 vK (nilV a0) fun a=>
 vK (fldV 5 a) fun b=>
 vK (nilV a0) fun c=>
 vK (fldV 4 c) fun d=>
 qK S (fun h=>ldV h d) fun e=>
 vK (binV .i .add a3 a4) fun f=>
 FCall prog zdb #[e,a1] h fun g j=>
 vK ((fillL #[(.int .i64 0),(.slice none 0 0),(.int .i64 0),(.int .i64 0),(.int .i64 0),(.bool false)] [(0,1,a1),(1,1,g),(2,1,a2),(3,1,a3),(4,1,f),(5,1,a5)]).map .agg) fun k=>
 FCall prog zdy #[b,k] j fun m l=>
 R (.tuple #[]) l
theorem znd (H:zhA a0 a1 a2 a3 a4 a5 h R):FCall prog zaX #[a0,a1,a2,a3,a4,a5] h R:=fk f104 (.d (.op 0 .r (.op 1 .r (.op 2 .r (.op 3 .r (.op 4 .r (.op 5 .r (.op 6 .r (.op 7 .r (.op 8 .r (.op 10 .r (.op 11 .r (.op 12 .r (.op 13 .r (.op 14 .r (.op 15 .r (.op 9 .n (.op 16 .r (.op 17 .n .nil))))))))))))))))))) H
def znZ (a0:Value)(h:Heap)(R:Value→Heap→Prop):Prop:=
 FCall prog zau #[a0] h fun a b=>
 FCall prog zaw #[a0] b fun c d=>
 vK (binV .i .mul a c) fun e=>
 FCall prog zak #[a0] d fun f g=>
 vK (binV .i .mul e f) fun j=>
 R j g
theorem ok_pool_size (H:znZ a0 h R):FCall prog zgq #[a0] h R:=fk f105 (.s .z (.s .z .z)) H
def zhB (a0:Value)(h:Heap)(R:Value→Heap→Prop):Prop:=
 drawK h fun S=>
 vK (nilV a0) fun m=>
 vK (fldV 8 m) fun n=>
 qK S (fun h=>ldV h n) fun o=>
 vK (nilV a0) fun p=>
 vK (fldV 2 p) fun q=>
 qK S (fun h=>ldV h q) fun r=>
 FCall prog za4 #[r] h fun s a=>
 S a∧(vK (binV .i .lss o s) fun t=>
 iteK t (
 drawK a fun S=>
 vK (nilV a0) fun u=>
 vK (fldV 3 u) fun v=>
 qK S (fun a=>ldV a v) fun w=>
 vK (nilV a0) fun x=>
 vK (fldV 8 x) fun y=>
 qK S (fun a=>ldV a y) fun z=>
 FCall prog zd0 #[w,z] a fun bx b=>
 drawK b fun S=>
 vK (nilV a0) fun aa=>
 vK (fldV 9 aa) fun ab=>
 qK S (fun b=>ldV b ab) fun ac=>
 vK (nilV a0) fun ad=>
 vK (fldV 4 ad) fun ae=>
 qK S (fun b=>ldV b ae) fun af=>
 FCall prog zb6 #[af,(.int .i64 0)] b fun ag f=>
 S f∧(rowK #[(.slice none 0 0)] 195 1 [(0,1,ag)] f fun ah g=>
 S g∧(appK (.slice none 0 0) 195 1 24 ac ah g fun ai aj=>
 vK (nilV a0) fun ak=>
 vK (fldV 9 ak) fun al=>
 stK 1 al ai aj fun bz j=>
 vK (nilV a0) fun am=>
 vK (fldV 8 am) fun an=>
 vK (ldV j an) fun ao=>
 vK (binV .i .add ao (.int .i64 1)) fun ap=>
 vK (nilV a0) fun aq=>
 vK (fldV 8 aq) fun ar=>
 stK 1 ar ap j fun b0 au=>
 R (.tuple #[]) au))) (
 vK (nilV a0) fun av=>
 vK (fldV 3 av) fun aw=>
 vK (ldV a aw) fun ax=>
 FCall prog zcd #[ax] a fun ay d=>
 vK (unV .not ay) fun az=>
 iteK az (
 vK (nilV a0) fun a1=>
 vK (fldV 3 a1) fun a2=>
 vK (ldV d a2) fun a3=>
 FCall prog zcz #[a3] d fun b1 k=>
 vK (nilV a0) fun a4=>
 vK (fldV 4 a4) fun a5=>
 vK (ldV k a5) fun a6=>
 FCall prog zb6 #[a6,(.int .i64 0)] k fun a7 a8=>
 vK (nilV a0) fun a9=>
 vK (fldV 10 a9) fun ba=>
 stK 1 ba a7 a8 fun b2 bb=>
 R (.tuple #[]) bb) (
 vK (nilV a0) fun bc=>
 vK (fldV 11 bc) fun bd=>
 vK (ldV d bd) fun l=>
 vK (zaf l) fun be=>
 loopK [(.int .i64 0)] d fun e b3 c bf=>
 vK (binV .i .lss (ix e 0) be) fun bg=>
 iteK bg (
 vK (idxV 1 l (ix e 0)) fun bh=>
 vK (ldV c bh) fun bi=>
 vK (nilV a0) fun bj=>
 vK (fldV 4 bj) fun bk=>
 vK (ldV c bk) fun bl=>
 FCall prog zbt #[bl,(.int .i64 0),bi] c fun b4 bm=>
 vK (binV .i .add (ix e 0) (.int .i64 1)) fun bn=>
 bf [bn] bm) (
 vK (nilV a0) fun bo=>
 vK (fldV 1 bo) fun bp=>
 vK (ldV c bp) fun bq=>
 FCall prog zgq #[bq] c fun br bs=>
 FCall prog zaX #[a0,(.int .i64 0),(.int .i64 1),(.int .i64 0),br,(.bool false)] bs fun b5 bt=>
 vK (nilV a0) fun bu=>
 vK (fldV 12 bu) fun bv=>
 stK 1 bv (.bool true) bt fun b6 bw=>
 R (.tuple #[]) bw))))
theorem zne (H:zhB a0 h R):FCall prog zfe #[a0] h R:=fk f106 (.s (.d (.op 0 .r (.op 1 .r (.op 2 .r (.op 3 .r (.op 4 .r (.op 5 .r (.op 6 .r (.op 7 .r (.op 8 .e (.op 9 .r (.op 10 .r .nil)))))))))))) (.s (.s (.d (.op 0 .r (.op 1 .r (.op 2 .r (.op 3 .r (.op 4 .r (.op 5 .r (.op 6 .r (.op 7 .r (.op 8 .n .nil)))))))))) (.s (.d (.op 0 .r (.op 1 .r (.op 2 .r (.op 3 .r (.op 4 .r (.op 5 .r (.op 6 .r (.op 7 .r (.op 8 .r (.op 9 .e (.op 10 .e (.op 11 .n (.op 12 .r (.op 13 .r (.op 14 .n .nil)))))))))))))))) .z)) (.s .z (.s (.s .z .z) (.s (.s .z (.l 1048072 [9] (.s .z (.s (.s .z .z) (.s (.s .z .z) .z))))) (.s .z .z)))))) H
def zhx (a0 a1:Value)(h:Heap)(R:Value→Heap→Prop):Prop:=
 newK (Value.cells a0) 105 h fun d x=>
 newK (Value.cells a1) 3 x fun e b=>
 joinK (fun j=>
 drawK b fun S=>
 qK S (fun b=>ldV b d) fun y=>
 vK (nilV y) fun z=>
 vK (fldV 6 z) fun aa=>
 qK S (fun b=>ldV b aa) fun ab=>
 qK S (fun b=>ldV b e) fun ac=>
 vK (binV .i .sub ac (.int .i64 1)) fun ad=>
 vK (idxV 1 ab ad) fun ae=>
 qK S (fun b=>ldV b ae) fun k=>
 qK S (fun b=>ldV b d) fun af=>
 vK (nilV af) fun ag=>
 vK (fldV 3 ag) fun ah=>
 qK S (fun b=>ldV b ah) fun l=>
 (FCall prog zaD #[k,l,(.func (.func zbT) #[] #[d,e])] b fun ai m=>
 S m∧(newK #[(.int .i64 0),(.int .i64 0),(.int .i64 0),(.int .i64 0)] 99 m fun n o=>
 S o∧(stK 4 n ai o fun b0 p=>
 S p∧(j [n] p))))∧(newK #[(.int .i64 0),(.int .i64 0),(.int .i64 0),(.int .i64 0)] 99 b fun q r=>
 S r∧(FCall prog zaD #[k,l,(.func (.func zbT) #[] #[d,e])] r fun aj s=>
 S s∧(stK 4 q aj s fun b1 t=>
 S t∧(j [q] t)))))
 fun f b2 a=>
 vK (fldV 0 (ix f 0)) fun ak=>
 vK (ldV a ak) fun g=>
 vK (binV .i .eql g (.int .i64 1)) fun al=>
 iteK al (
 drawK a fun S=>
 qK S (fun a=>ldV a d) fun am=>
 vK (nilV am) fun an=>
 vK (fldV 4 an) fun ao=>
 qK S (fun a=>ldV a ao) fun ap=>
 qK S (fun a=>ldV a e) fun aq=>
 qK S (fun a=>ldV a d) fun ar=>
 vK (nilV ar) fun au=>
 vK (fldV 9 au) fun av=>
 qK S (fun a=>ldV a av) fun aw=>
 vK (fldV 1 (ix f 0)) fun ax=>
 qK S (fun a=>ldV a ax) fun ay=>
 vK (idxV 1 aw ay) fun az=>
 qK S (fun a=>ldV a az) fun a2=>
 FCall prog zbt #[ap,aq,a2] a fun b3 a3=>
 R (.tuple #[]) a3) (
 vK (binV .i .eql g (.int .i64 2)) fun a4=>
 iteK a4 (
 vK (ldV a d) fun a5=>
 vK (ldV a e) fun a6=>
 vK (ldsV 4 a (ix f 0)) fun a7=>
 FCall prog zer #[a5,a6,a7] a fun b4 a8=>
 R (.tuple #[]) a8) (
 vK (binV .i .eql g (.int .i64 3)) fun a9=>
 iteK a9 (
 drawK a fun S=>
 qK S (fun a=>ldV a d) fun ba=>
 vK (nilV ba) fun bb=>
 vK (fldV 4 bb) fun bc=>
 qK S (fun a=>ldV a bc) fun bd=>
 qK S (fun a=>ldV a e) fun be=>
 qK S (fun a=>ldV a d) fun bf=>
 vK (nilV bf) fun bg=>
 vK (fldV 10 bg) fun bh=>
 qK S (fun a=>ldV a bh) fun bi=>
 FCall prog zbt #[bd,be,bi] a fun b5 c=>
 drawK c fun S=>
 qK S (fun c=>ldV c d) fun bj=>
 qK S (fun c=>ldV c d) fun bk=>
 vK (nilV bk) fun bl=>
 vK (fldV 11 bl) fun bm=>
 qK S (fun c=>ldV c bm) fun bn=>
 qK S (fun c=>ldV c d) fun bo=>
 vK (nilV bo) fun bp=>
 vK (fldV 4 bp) fun bq=>
 qK S (fun c=>ldV c bq) fun br=>
 qK S (fun c=>ldV c e) fun bs=>
 FCall prog zb6 #[br,bs] c fun bt u=>
 S u∧(rowK #[(.slice none 0 0)] 195 1 [(0,1,bt)] u fun bu v=>
 S v∧(appK (.slice none 0 0) 195 1 24 bn bu v fun bv w=>
 S w∧(vK (nilV bj) fun bw=>
 vK (fldV 11 bw) fun bx=>
 stK 1 bx bv w fun b6 bz=>
 R (.tuple #[]) bz)))) (
 R (.tuple #[]) a)))
theorem zna (H:zhx a0 a1 h R):FCall prog zfc #[a0,a1] h R:=fk f107 (.s .z (.j 524272 [4] (.d (.op 0 .r (.op 1 .r (.op 2 .r (.op 3 .r (.op 4 .r (.op 5 .r (.op 6 .r (.op 7 .r (.op 8 .r (.op 9 .r (.op 10 .r (.op 11 .r (.op 12 .r (.alt (.op 13 .e (.op 14 .e (.op 15 .e .nil))) (.op 14 .e (.op 13 .e (.op 15 .e .nil)))))))))))))))))) (.s .z (.s .z (.s (.d (.op 0 .r (.op 1 .r (.op 2 .r (.op 3 .r (.op 4 .r (.op 5 .r (.op 6 .r (.op 7 .r (.op 8 .r (.op 9 .r (.op 10 .r (.op 11 .r (.op 12 .r (.op 13 .n .nil))))))))))))))) (.s .z (.s .z (.s .z (.s (.s (.d (.op 0 .r (.op 1 .r (.op 2 .r (.op 3 .r (.op 4 .r (.op 5 .r (.op 6 .r (.op 7 .r (.op 8 .r (.op 9 .n .nil))))))))))) (.d (.op 0 .r (.op 1 .r (.op 2 .r (.op 3 .r (.op 4 .r (.op 5 .r (.op 6 .r (.op 7 .r (.op 8 .r (.op 9 .r (.op 10 .e (.op 11 .e (.op 12 .e (.op 13 .r (.op 14 .r (.op 15 .n .nil)))))))))))))))))) .z))))))))) H
def zkw (a0 a1:Value)(h:Heap)(R:Value→Heap→Prop):Prop:=
 newK (Value.cells a0) 211 h fun d m=>
 newK (Value.cells a1) 211 m fun e a=>
 vK (fldV 0 d) fun n=>
 vK (ldV a n) fun o=>
 vK (fldV 0 e) fun p=>
 vK (ldV a p) fun q=>
 vK (binV .i .neq o q) fun f=>
 vK (gV f true (fldV 5 d)) fun r=>
 vK (gV f true (ldV a r)) fun s=>
 vK (gV f true (some s)) fun l=>
 vK (gV l false (fldV 5 e)) fun t=>
 vK (gV l false (ldV a t)) fun u=>
 vK (gV f true (pickV l (.bool true) u)) fun v=>
 vK (pickV f v (.bool false)) fun g=>
 vK (gV g true (ldsV 6 a d)) fun w=>
 vK (gV g true (ldsV 6 a e)) fun x=>
 gK g true (fun y=>FCall prog zhg #[w,x] a y) a fun z j=>
 vK (pickV g z (.bool false)) fun b=>
 vK (gV b true (fldV 1 d)) fun aa=>
 vK (gV b true (ldV j aa)) fun ab=>
 vK (gV b true (fldV 1 e)) fun ac=>
 vK (gV b true (ldV j ac)) fun ad=>
 gK b true (fun ae=>FCall prog zfE #[ab,ad] j ae) j fun af k=>
 vK (gV b true (unV .not af)) fun ag=>
 vK (pickV b ag (.bool false)) fun c=>
 vK (gV c true (fldV 1 e)) fun ah=>
 vK (gV c true (ldV k ah)) fun ai=>
 vK (gV c true (fldV 1 d)) fun aj=>
 vK (gV c true (ldV k aj)) fun ak=>
 gK c true (fun al=>FCall prog zfE #[ai,ak] k al) k fun am an=>
 vK (gV c true (unV .not am)) fun ao=>
 vK (pickV c ao (.bool false)) fun ap=>
 R ap an
theorem zqk (H:zkw a0 a1 h R):FCall prog zfB #[a0,a1] h R:=fk f115 (.s .z (.s .z .z)) H
def zkC (h:Heap)(R:Value→Heap→Prop):Prop:=
 vK ((fillL #[(.int .i64 0),(.int .i64 0),(.int .i64 0),(.int .i64 0),(.slice none 0 0),(.slice none 0 0),(.int .i64 0),(.int .i64 0),(.int .i64 0)] [(0,1,(.int .i64 3)),(7,1,(.int .i64 5)),(8,1,(.int .i64 3)),(6,1,(.int .i64 0))]).map .agg) fun q=>
 FCall prog ze2 #[q,(.int .i64 9),(.int .i64 9)] h fun f r=>
 vK (extV f 0) fun s=>
 vK (extV f 1) fun t=>
 newK #[(.pointer none),(.pointer none),(.int .i64 0)] 46 r fun g u=>
 stK 3 g s u fun ar v=>
 FCall prog zfC #[] v fun w b=>
 vK (unV .not w) fun c=>
 vK (gV c false (some t)) fun x=>
 vK (gV c false (binV .i .neq x (.int .i64 0))) fun y=>
 vK (pickV c (.bool true) y) fun z=>
 iteK z (
 R (.bool false) b) (
 vK (ldsV 3 b g) fun aa=>
 FCall prog zj7 #[aa,(.int .i64 2),(.int .i64 2)] b fun j k=>
 vK (extV j 0) fun d=>
 vK (extV j 1) fun ab=>
 vK (binV .i .neq ab (.int .i64 0)) fun e=>
 vK (gV e false (some d)) fun ac=>
 vK (gV e false (binV .p .eql ac (.pointer none))) fun ad=>
 vK (pickV e (.bool true) ad) fun ae=>
 iteK ae (
 R (.bool false) k) (
 FCall prog zbz #[d,(.int .i64 5)] k fun l af=>
 vK (extV l 0) fun ag=>
 vK (extV l 1) fun ah=>
 newK #[(.int .i64 0),(.int .i64 0),(.int .i64 0),(.int .i64 0),(.int .i64 0),(.int .i64 0),(.int .i64 0),(.int .i64 0),(.int .i64 0),(.int .i64 0)] 65 af fun m ai=>
 stK 10 m ag ai fun au aj=>
 FCall prog za4 #[d] aj fun ak n=>
 vK (binV .i .eql ak (.int .i64 6)) fun o=>
 vK (gV o true (some ah)) fun al=>
 vK (pickV o al (.bool false)) fun a=>
 vK (gV a true (fldV 1 m)) fun am=>
 vK (gV a true (ldsV 4 n am)) fun an=>
 vK (gV a true ((fillL #[(.int .i64 0),(.int .i64 0),(.int .i64 0),(.int .i64 0)] [(0,1,(.int .i64 4)),(1,1,(.int .i64 2)),(2,1,(.int .i64 1)),(3,1,(.int .i64 1))]).map .agg)) fun ao=>
 vK (gV a true (binV (.st [(0,1,.i),(1,1,.i),(2,1,.i),(3,1,.i)]) .eql an ao)) fun ap=>
 vK (pickV a ap (.bool false)) fun aq=>
 R aq n))
theorem zqq (H:zkC h R):FCall prog zio #[] h R:=fk f118 (.s .z (.s .z (.s (.s .z (.s (.s .z .z) .z)) (.s .z (.s (.s .z (.s (.s .z .z) .z)) (.s .z (.s .z .z))))))) H
def zkB (h:Heap)(R:Value→Heap→Prop):Prop:=
 rowK #[(.int .u16 0)] 22 1 [(0,1,(.int .u16 7))] h fun s t=>
 FCall prog zgp #[(.int .i64 1),(.int .i64 1),(.int .i64 1),(.int .i64 255),s] t fun j u=>
 vK (extV j 0) fun k=>
 vK (extV j 1) fun v=>
 vK ((fillL #[(.int .i64 0),(.int .i64 0),(.int .i64 0),(.int .i64 0),(.slice none 0 0),(.slice none 0 0),(.int .i64 0),(.int .i64 0),(.int .i64 0)] [(0,1,(.int .i64 1)),(3,1,(.int .i64 2))]).map .agg) fun w=>
 FCall prog ze2 #[w,(.int .i64 1),(.int .i64 1)] u fun l x=>
 vK (extV l 0) fun y=>
 vK (extV l 1) fun z=>
 newK #[(.pointer none),(.pointer none),(.int .i64 0)] 46 x fun m aa=>
 stK 3 m y aa fun az ab=>
 FCall prog ziq #[] ab fun ac n=>
 vK (unV .not ac) fun b=>
 gK b false (fun ad=>FCall prog zfC #[] n ad) n fun ae c=>
 vK (gV b false (unV .not ae)) fun af=>
 vK (pickV b (.bool true) af) fun d=>
 vK (gV d false (some v)) fun ag=>
 vK (gV d false (binV .i .neq ag (.int .i64 0))) fun ah=>
 vK (pickV d (.bool true) ah) fun e=>
 vK (gV e false (some z)) fun ai=>
 vK (gV e false (binV .i .neq ai (.int .i64 0))) fun aj=>
 vK (pickV e (.bool true) aj) fun f=>
 vK (gV f false (some k)) fun ak=>
 vK (gV f false (binV .p .eql ak (.pointer none))) fun al=>
 vK (pickV f (.bool true) al) fun am=>
 iteK am (
 R (.bool false) c) (
 vK (ldsV 3 c m) fun an=>
 FCall prog zhj #[k,an] c fun o q=>
 vK (extV o 0) fun r=>
 vK (extV o 1) fun ao=>
 vK (binV .i .eql ao (.int .i64 0)) fun g=>
 vK (gV g true (some r)) fun ap=>
 vK (gV g true (binV .p .neq ap (.pointer none))) fun aq=>
 vK (pickV g aq (.bool false)) fun a=>
 vK (gV a true (some r)) fun ar=>
 gK a true (fun au=>FCall prog zbJ #[ar,(.int .i64 0),(.int .i64 0),(.int .i64 0)] q au) q fun av aw=>
 vK (gV a true (binV .i .eql av (.int .u16 7))) fun ax=>
 vK (pickV a ax (.bool false)) fun ay=>
 R ay aw)
theorem zqp (H:zkB h R):FCall prog zin #[] h R:=fk f119 (.s .z (.s .z (.s .z (.s (.s .z (.s (.s .z .z) .z)) (.s .z (.s .z .z)))))) H
def zqO (a0 a1 a2:Value)(h:Heap)(R:Value→Heap→Prop):Prop:=
 newK (Value.cells a0) 31 h fun b a=>
 vK (fldV 0 b) fun c=>
 vK (ldV a c) fun d=>
 vK (binV .i .eql d (.int .i64 3)) fun e=>
 iteK e (
 vK (fldV 7 b) fun f=>
 vK (ldV a f) fun g=>
 vK (fldV 8 b) fun j=>
 vK (ldV a j) fun k=>
 R (.tuple #[g,k]) a) (
 R (.tuple #[a1,a2]) a)
theorem ok_op_Size (H:zqO a0 a1 a2 h R):FCall prog zp5 #[a0,a1,a2] h R:=fk f120 (.s .z (.s (.s .z (.s (.s .z .z) .z)) (.s .z .z))) H
def zlG (a0 a1 a2:Value)(h:Heap)(R:Value→Heap→Prop):Prop:=
 vK (binV .i .lss a0 (.int .i64 1)) fun a=>
 vK (gV a false (some a0)) fun e=>
 vK (gV a false (binV .i .gtr e (.int .i64 65536))) fun f=>
 vK (pickV a (.bool true) f) fun b=>
 vK (gV b false (some a1)) fun g=>
 vK (gV b false (binV .i .lss g (.int .i64 1))) fun j=>
 vK (pickV b (.bool true) j) fun c=>
 vK (gV c false (some a1)) fun k=>
 vK (gV c false (binV .i .gtr k (.int .i64 65536))) fun l=>
 vK (pickV c (.bool true) l) fun m=>
 iteK m (
 R (.bool false) h) (
 vK (binV .i .neq a2 (.int .i64 1)) fun d=>
 vK (gV d true (some a2)) fun n=>
 vK (gV d true (binV .i .neq n (.int .i64 3))) fun o=>
 vK (pickV d o (.bool false)) fun p=>
 iteK p (
 R (.bool false) h) (
 vK (binV .i .mul a0 a1) fun q=>
 vK (binV .i .quo (.int .i64 268435456) a2) fun r=>
 vK (binV .i .leq q r) fun s=>
 R s h))
theorem zr0 (H:zlG a0 a1 a2 h R):FCall prog zg1 #[a0,a1,a2] h R:=fk f121 (.s .z (.s (.s .z (.s (.s .z .z) .z)) (.s (.s .z (.s (.s .z .z) .z)) (.s .z .z)))) H
def zlF (a0 a1 a2:Value)(h:Heap)(R:Value→Heap→Prop):Prop:=
 newK (Value.cells a0) 230 h fun a a8=>
 newK #[(.slice none 0 0),(.slice none 0 0),(.int .i64 0),(.int .i64 0),(.int .i64 0)] 56 a8 fun b e=>
 vK (fldV 0 a) fun a9=>
 vK (ldV e a9) fun ba=>
 vK (binV .i .lss ba (.int .i64 0)) fun k=>
 vK (gV k false (fldV 0 a)) fun bb=>
 vK (gV k false (ldV e bb)) fun bc=>
 vK (gV k false (binV .i .gtr bc (.int .i64 3))) fun bd=>
 vK (pickV k (.bool true) bd) fun l=>
 vK (gV l false (fldV 1 a)) fun be=>
 vK (gV l false (ldV e be)) fun bf=>
 vK (gV l false (binV .i .lss bf (.int .i64 0))) fun bg=>
 vK (pickV l (.bool true) bg) fun m=>
 vK (gV m false (fldV 1 a)) fun bh=>
 vK (gV m false (ldV e bh)) fun bi=>
 vK (gV m false (binV .i .gtr bi (.int .i64 2))) fun bj=>
 vK (pickV m (.bool true) bj) fun n=>
 vK (gV n false (some a1)) fun bk=>
 gK n false (fun bl=>FCall prog zdH #[bk] e bl) e fun bm y=>
 vK (gV n false (unV .not bm)) fun bn=>
 vK (pickV n (.bool true) bn) fun o=>
 vK (gV o false (some a2)) fun bo=>
 gK o false (fun bp=>FCall prog zdH #[bo] y bp) y fun bq t=>
 vK (gV o false (unV .not bq)) fun br=>
 vK (pickV o (.bool true) br) fun bs=>
 iteK bs (
 vK ((fillL #[(.slice none 0 0),(.slice none 0 0),(.int .i64 0),(.int .i64 0),(.int .i64 0)] []).map .agg) fun bt=>
 stK 5 b bt t fun d6 z=>
 vK (ldsV 5 z b) fun bu=>
 R (.tuple #[bu,(.int .i64 6)]) z) (
 vK (fldV 1 a) fun bv=>
 vK (ldV t bv) fun bw=>
 vK ((fillL #[(.slice none 0 0),(.slice none 0 0),(.int .i64 0),(.int .i64 0),(.int .i64 0)] [(2,1,a1),(3,1,a2),(4,1,bw)]).map .agg) fun bx=>
 newK #[(.slice none 0 0),(.slice none 0 0),(.int .i64 0),(.int .i64 0),(.int .i64 0)] 56 t fun d bz=>
 stK 5 d bx bz fun d7 c=>
 vK (fldV 0 a) fun b0=>
 vK (ldV c b0) fun b1=>
 vK (binV .i .eql b1 (.int .i64 3)) fun b2=>
 iteK b2 (
 vK (fldV 7 a) fun b3=>
 vK (ldV c b3) fun b4=>
 FCall prog zdH #[b4] c fun b5 u=>
 vK (unV .not b5) fun g=>
 vK (gV g false (fldV 8 a)) fun b6=>
 vK (gV g false (ldV u b6)) fun b7=>
 gK g false (fun b8=>FCall prog zdH #[b7] u b8) u fun b9 f=>
 vK (gV g false (unV .not b9)) fun ca=>
 vK (pickV g (.bool true) ca) fun p=>
 vK (gV p false (fldV 6 a)) fun cb=>
 vK (gV p false (ldV f cb)) fun cc=>
 vK (gV p false (binV .i .lss cc (.int .i64 0))) fun cd=>
 vK (pickV p (.bool true) cd) fun q=>
 vK (gV q false (fldV 6 a)) fun ce=>
 vK (gV q false (ldV f ce)) fun cf=>
 vK (gV q false (binV .i .gtr cf (.int .i64 2))) fun cg=>
 vK (pickV q (.bool true) cg) fun ch=>
 iteK ch (
 vK ((fillL #[(.slice none 0 0),(.slice none 0 0),(.int .i64 0),(.int .i64 0),(.int .i64 0)] []).map .agg) fun ci=>
 stK 5 b ci f fun d8 aa=>
 vK (ldsV 5 aa b) fun cj=>
 R (.tuple #[cj,(.int .i64 6)]) aa) (
 vK (fldV 6 a) fun ck=>
 vK (ldV f ck) fun cl=>
 vK (fldV 7 a) fun cm=>
 vK (ldV f cm) fun cn=>
 FCall prog zeF #[cl,a1,cn] f fun ab co=>
 vK (extV ab 0) fun cp=>
 vK (extV ab 1) fun ac=>
 vK (fldV 0 d) fun cq=>
 stK 1 cq cp co fun d9 r=>
 vK (binV .i .neq ac (.int .i64 0)) fun cr=>
 iteK cr (
 vK ((fillL #[(.slice none 0 0),(.slice none 0 0),(.int .i64 0),(.int .i64 0),(.int .i64 0)] []).map .agg) fun cs=>
 stK 5 b cs r fun ea ad=>
 vK (ldsV 5 ad b) fun ct=>
 R (.tuple #[ct,ac]) ad) (
 vK (fldV 6 a) fun cu=>
 vK (ldV r cu) fun cv=>
 vK (fldV 8 a) fun cw=>
 vK (ldV r cw) fun cx=>
 FCall prog zeF #[cv,a2,cx] r fun ae cy=>
 vK (extV ae 0) fun cz=>
 vK (extV ae 1) fun af=>
 vK (fldV 1 d) fun c0=>
 stK 1 c0 cz cy fun eb v=>
 vK (binV .i .neq af (.int .i64 0)) fun c1=>
 iteK c1 (
 vK ((fillL #[(.slice none 0 0),(.slice none 0 0),(.int .i64 0),(.int .i64 0),(.int .i64 0)] []).map .agg) fun c2=>
 stK 5 b c2 v fun ec ag=>
 vK (ldsV 5 ag b) fun c3=>
 R (.tuple #[c3,af]) ag) (
 vK (ldsV 5 v d) fun c4=>
 stK 5 b c4 v fun ed ah=>
 vK (ldsV 5 ah b) fun c5=>
 R (.tuple #[c5,(.int .i64 0)]) ah)))) (
 vK (fldV 0 a) fun c6=>
 vK (ldV c c6) fun w=>
 joinK (fun j=>
 vK (binV .i .eql w (.int .i64 0)) fun c7=>
 iteK c7 (
 vK (fldV 2 a) fun c8=>
 vK (ldV c c8) fun c9=>
 FCall prog zfa #[c9] c fun ai da=>
 vK (extV ai 0) fun aj=>
 vK (extV ai 1) fun db=>
 j [db,aj,aj] da) (
 vK (binV .i .eql w (.int .i64 1)) fun dc=>
 iteK dc (
 vK (fldV 3 a) fun dd=>
 vK (ldV c dd) fun de=>
 FCall prog zjF #[de] c fun ak df=>
 vK (extV ak 0) fun al=>
 vK (extV ak 1) fun dg=>
 j [dg,al,al] df) (
 vK (binV .i .eql w (.int .i64 2)) fun dh=>
 iteK dh (
 vK (fldV 4 a) fun di=>
 vK (ldV c di) fun dj=>
 FCall prog ze1 #[dj] c fun am an=>
 vK (extV am 0) fun ao=>
 vK (extV am 1) fun ap=>
 vK (fldV 5 a) fun dk=>
 vK (ldV an dk) fun dl=>
 FCall prog ze1 #[dl] an fun aq ar=>
 vK (extV aq 0) fun au=>
 vK (extV aq 1) fun dm=>
 vK (binV .i .eql ap (.int .i64 0)) fun dn=>
 iteK dn (
 j [dm,ao,au] ar) (
 j [ap,ao,au] ar)) (
 j [(.int .i64 0),(.slice none 0 0),(.slice none 0 0)] c))))
 fun s ee av=>
 vK (binV .i .neq (ix s 0) (.int .i64 0)) fun dp=>
 iteK dp (
 vK ((fillL #[(.slice none 0 0),(.slice none 0 0),(.int .i64 0),(.int .i64 0),(.int .i64 0)] []).map .agg) fun dq=>
 stK 5 b dq av fun ef aw=>
 vK (ldsV 5 aw b) fun dr=>
 R (.tuple #[dr,(ix s 0)]) aw) (
 FCall prog zeG #[(ix s 1),a1] av fun ax ds=>
 vK (extV ax 0) fun dt=>
 vK (extV ax 1) fun ay=>
 vK (fldV 0 d) fun du=>
 stK 1 du dt ds fun eg az=>
 vK (binV .i .neq ay (.int .i64 0)) fun dv=>
 iteK dv (
 vK ((fillL #[(.slice none 0 0),(.slice none 0 0),(.int .i64 0),(.int .i64 0),(.int .i64 0)] []).map .agg) fun dw=>
 stK 5 b dw az fun eh a3=>
 vK (ldsV 5 a3 b) fun dx=>
 R (.tuple #[dx,ay]) a3) (
 FCall prog zeG #[(ix s 2),a2] az fun a4 dy=>
 vK (extV a4 0) fun dz=>
 vK (extV a4 1) fun a5=>
 vK (fldV 1 d) fun d0=>
 stK 1 d0 dz dy fun ei x=>
 vK (binV .i .neq a5 (.int .i64 0)) fun d1=>
 iteK d1 (
 vK ((fillL #[(.slice none 0 0),(.slice none 0 0),(.int .i64 0),(.int .i64 0),(.int .i64 0)] []).map .agg) fun d2=>
 stK 5 b d2 x fun ej a6=>
 vK (ldsV 5 a6 b) fun d3=>
 R (.tuple #[d3,a5]) a6) (
 vK (ldsV 5 x d) fun d4=>
 stK 5 b d4 x fun ek a7=>
 vK (ldsV 5 a7 b) fun d5=>
 R (.tuple #[d5,(.int .i64 0)]) a7)))))
theorem zrZ (H:zlF a0 a1 a2 h R):FCall prog zjE #[a0,a1,a2] h R:=fk f122 (.s .z (.s (.s .z (.s (.s .z .z) .z)) (.s .z (.s .z (.s (.s .z (.s (.s (.s .z (.s (.s .z .z) .z)) (.s .z (.s (.s .z (.s (.s .z .z) .z)) (.s .z (.s (.s .z (.s (.s .z .z) .z)) (.s .z .z)))))) .z)) (.s .z (.s .z (.s (.s .z (.m 174224571858449890892334881399078511451648 [9,10,11] (.s .z (.s (.s .z .z) (.s .z (.s (.s .z .z) (.s .z (.s (.s .z (.s .z (.s .z (.s .z (.s .z .z))))) .z)))))))) (.s (.s .z (.s (.s .z .z) .z)) (.s .z (.s (.s .z (.s (.s .z .z) .z)) (.s .z (.s (.s .z (.s (.s .z .z) .z)) (.s .z .z)))))))))))))) H
end
section
variable {a0 a1 a2 a3 a4 a5 a6:Value}{h:Heap}{R:Value→Heap→Prop}
def zlE (a0 a1 a2:Value)(h:Heap)(R:Value→Heap→Prop):Prop:=
 newK (Value.cells a0) 230 h fun b a=>
 vK (fldV 0 b) fun c=>
 vK (ldV a c) fun d=>
 vK (binV .i .eql d (.int .i64 3)) fun e=>
 iteK e (
 vK (fldV 7 b) fun f=>
 vK (ldV a f) fun g=>
 vK (fldV 8 b) fun j=>
 vK (ldV a j) fun k=>
 R (.tuple #[g,k]) a) (
 R (.tuple #[a1,a2]) a)
theorem zrY (H:zlE a0 a1 a2 h R):FCall prog zjD #[a0,a1,a2] h R:=fk f123 (.s .z (.s (.s .z (.s (.s .z .z) .z)) (.s .z .z))) H
def zn2 (a0:Value)(h:Heap)(R:Value→Heap→Prop):Prop:=
 newK (Value.cells a0) 31 h fun b e=>
 newK #[(.int .i64 0),(.int .i64 0),(.int .i64 0),(.int .i64 0),(.slice none 0 0),(.slice none 0 0),(.int .i64 0),(.int .i64 0),(.int .i64 0)] 230 e fun c a=>
 vK (fldV 0 b) fun f=>
 vK (ldV a f) fun g=>
 vK (fldV 1 b) fun i=>
 vK (ldV a i) fun j=>
 vK (fldV 2 b) fun k=>
 vK (ldV a k) fun l=>
 vK (fldV 3 b) fun m=>
 vK (ldV a m) fun n=>
 vK (fldV 4 b) fun o=>
 vK (ldV a o) fun p=>
 vK (fldV 5 b) fun q=>
 vK (ldV a q) fun r=>
 vK (fldV 6 b) fun s=>
 vK (ldV a s) fun t=>
 vK (fldV 7 b) fun u=>
 vK (ldV a u) fun v=>
 vK (fldV 8 b) fun w=>
 vK (ldV a w) fun x=>
 vK ((fillL #[(.int .i64 0),(.int .i64 0),(.int .i64 0),(.int .i64 0),(.slice none 0 0),(.slice none 0 0),(.int .i64 0),(.int .i64 0),(.int .i64 0)] [(0,1,g),(1,1,j),(2,1,l),(3,1,n),(4,1,p),(5,1,r),(6,1,t),(7,1,v),(8,1,x)]).map .agg) fun y=>
 stK 9 c y a fun aa d=>
 vK (ldsV 9 d c) fun z=>
 R z d
theorem ok_law12_Ref (H:zn2 a0 h R):FCall prog zlo #[a0] h R:=fk f124 (.s .z (.s .z .z)) H
def zfo (a0:Value)(h:Heap)(R:Value→Heap→Prop):Prop:=
 drawK h fun S=>
 vK (nilV a0) fun b=>
 vK (fldV 0 b) fun c=>
 vK (fldV 0 c) fun d=>
 qK S (fun h=>ldV h d) fun e=>
 vK (nilV a0) fun f=>
 vK (fldV 3 f) fun g=>
 qK S (fun h=>ldV h g) fun i=>
 FCall prog zas #[e] h fun j a=>
 S a∧(FCall prog zg6 #[j,i] a fun k l=>
 R k l)
theorem zkg (H:zfo a0 h R):FCall prog zbU #[a0] h R:=fk f125 (.s .z (.s (.d (.op 0 .r (.op 1 .r (.op 2 .r (.op 3 .r (.op 4 .r (.op 6 .r (.op 7 .r (.op 8 .r (.op 9 .r (.op 5 .e (.op 10 .n (.op 11 .r .nil))))))))))))) .z)) H
def zlV (a0 a1:Value)(h:Heap)(R:Value→Heap→Prop):Prop:=
 vK (binV .i .add a0 a1) fun a=>
 vK (binV .i .sub a (.int .i64 1)) fun b=>
 vK (binV .i .quo b a1) fun c=>
 R c h
theorem zsf (H:zlV a0 a1 h R):FCall prog zg6 #[a0,a1] h R:=fk f126 (.s .z (.s .z .z)) H
def zgz (a0:Value)(h:Heap)(R:Value→Heap→Prop):Prop:=
 newK #[(.int .i64 0),(.int .i64 0)] 97 h fun b l=>
 FCall prog zel #[a0] l fun m e=>
 iteK m (
 vK ((fillL #[(.int .i64 0),(.int .i64 0)] []).map .agg) fun n=>
 stK 2 b n e fun am f=>
 vK (ldsV 2 f b) fun o=>
 R o f) (
 FCall prog zc5 #[a0] e fun p q=>
 newK #[(.int .i64 0),(.slice none 0 0)] 235 q fun c r=>
 stK 2 c p r fun an a=>
 drawK a fun S=>
 vK (nilV a0) fun s=>
 vK (fldV 15 s) fun t=>
 qK S (fun a=>ldV a t) fun u=>
 vK (fldV 0 c) fun v=>
 qK S (fun a=>ldV a v) fun w=>
 vK (fldV 0 c) fun x=>
 qK S (fun a=>ldV a x) fun y=>
 vK (fldV 1 c) fun z=>
 qK S (fun a=>ldV a z) fun aa=>
 qK S (fun a=>zaf aa) fun ab=>
 vK (binV .i .add y ab) fun ac=>
 FCall prog ze9 #[u,w,ac] a fun g d=>
 vK (extV g 0) fun ad=>
 vK (extV g 1) fun ae=>
 iteK ae (
 vK ((fillL #[(.int .i64 0),(.int .i64 0)] [(0,1,(.int .i64 1)),(1,1,ad)]).map .agg) fun af=>
 stK 2 b af d fun ao j=>
 vK (ldsV 2 j b) fun ag=>
 R ag j) (
 vK (nilV a0) fun ah=>
 vK (fldV 16 ah) fun ai=>
 vK (ldV d ai) fun aj=>
 vK ((fillL #[(.int .i64 0),(.int .i64 0)] [(0,1,(.int .i64 2)),(1,1,aj)]).map .agg) fun ak=>
 stK 2 b ak d fun ap k=>
 vK (ldsV 2 k b) fun al=>
 R al k))
theorem zmk (H:zgz a0 h R):FCall prog zck #[a0] h R:=fk f127 (.s .z (.s (.s .z (.s (.s .z .z) .z)) (.s .z (.s (.s (.d (.op 0 .r (.op 1 .r (.op 2 .r (.op 3 .r (.op 4 .r (.op 5 .r (.op 6 .r (.op 7 .r (.op 8 .r (.op 9 .r (.op 10 .r (.op 11 .r (.op 12 .n (.op 13 .r (.op 14 .r (.op 15 .r (.op 16 .r (.op 17 .r .nil))))))))))))))))))) (.s .z (.s (.s .z .z) .z))) (.s .z .z))))) H
def zfg (a0 a1:Value)(h:Heap)(R:Value→Heap→Prop):Prop:=
 drawK h fun S=>
 vK (nilV a0) fun e=>
 vK (fldV 2 e) fun f=>
 vK (fldV 2 f) fun g=>
 qK S (fun h=>ldV h g) fun j=>
 vK (nilV a0) fun k=>
 vK (fldV 0 k) fun l=>
 qK S (fun h=>ldV h l) fun m=>
 FCall prog zaw #[m] h fun n c=>
 S c∧(FCall prog zdA #[j,a1,n] c fun o d=>
 vK (nilV a0) fun p=>
 vK (fldV 5 p) fun q=>
 vK (fldV 1 q) fun r=>
 vK (fldV 2 r) fun s=>
 vK (ldV d s) fun t=>
 loopK [(.slice none 0 0),(.int .i64 0)] d fun a aj b u=>
 vK (binV .i .lss (ix a 1) t) fun v=>
 iteK v (
 vK (nilV a0) fun w=>
 vK (fldV 5 w) fun x=>
 vK (fldV 1 x) fun y=>
 vK (fldV 0 y) fun z=>
 vK (ldV b z) fun aa=>
 vK (binV .i .add aa (ix a 1)) fun ab=>
 FCall prog zdv #[a0,ab,o,(ix a 0)] b fun ac ad=>
 vK (binV .i .add (ix a 1) (.int .i64 1)) fun ae=>
 u [ac,ae] ad) (
 vK (nilV a0) fun af=>
 vK (fldV 15 af) fun ag=>
 vK (ldV b ag) fun ah=>
 FCall prog zgm #[ah,a1,(ix a 0)] b fun ak ai=>
 R (.tuple #[]) ai))
theorem zj8 (H:zfg a0 a1 h R):FCall prog zdu #[a0,a1] h R:=fk f128 (.s (.d (.op 0 .r (.op 1 .r (.op 2 .r (.op 3 .r (.op 4 .r (.op 5 .r (.op 6 .r (.op 7 .r (.op 8 .r (.op 9 .r (.op 10 .e (.op 11 .n (.op 12 .r .nil)))))))))))))) (.s .z (.s (.s .z (.l 2198989701216 [5,25] (.s .z (.s (.s .z .z) (.s (.s .z .z) .z))))) .z))) H
def zfQ (a0:Value)(h:Heap)(R:Value→Heap→Prop):Prop:=
 FCall prog zc5 #[a0] h fun t u=>
 newK #[(.int .i64 0),(.slice none 0 0)] 235 u fun j v=>
 stK 2 j t v fun b5 k=>
 vK (nilV a0) fun w=>
 vK (fldV 15 w) fun x=>
 vK (ldV k x) fun y=>
 FCall prog zeo #[y] k fun l z=>
 mkK (.int .i64 0) 2 1 8 l l z fun e m=>
 vK (fldV 1 j) fun aa=>
 vK (ldV m aa) fun n=>
 vK (zaf n) fun ab=>
 loopK [(.int .i64 0)] m fun f b6 b ac=>
 vK (binV .i .lss (ix f 0) ab) fun ad=>
 iteK ad (
 vK (idxV 1 n (ix f 0)) fun ae=>
 vK (ldV b ae) fun af=>
 drawK b fun S=>
 vK (nilV a0) fun ag=>
 vK (fldV 15 ag) fun ah=>
 qK S (fun b=>ldV b ah) fun ai=>
 vK (fldV 0 j) fun aj=>
 qK S (fun b=>ldV b aj) fun ak=>
 vK (binV .i .add ak (ix f 0)) fun al=>
 FCall prog zgl #[ai,al] b fun o am=>
 vK (extV o 0) fun p=>
 vK (extV o 1) fun b7=>
 vK (zaf p) fun an=>
 loopK [(.int .i64 0)] am fun c b8 g ao=>
 vK (binV .i .lss (ix c 0) an) fun ap=>
 iteK ap (
 vK (idxV 1 p (ix c 0)) fun aq=>
 vK (ldV g aq) fun ar=>
 vK (idxV 1 e (ix c 0)) fun au=>
 vK (ldV g au) fun av=>
 vK (binV .i .mul af ar) fun aw=>
 vK (binV .i .add av aw) fun ax=>
 vK (idxV 1 e (ix c 0)) fun ay=>
 stK 1 ay ax g fun b9 az=>
 vK (binV .i .add (ix c 0) (.int .i64 1)) fun a1=>
 ao [a1] az) (
 vK (binV .i .add (ix f 0) (.int .i64 1)) fun a2=>
 ac [a2] g)) (
 vK (nilV a0) fun a3=>
 vK (fldV 1 a3) fun a4=>
 vK (ldV b a4) fun a5=>
 FCall prog zak #[a5] b fun q a6=>
 vK (zaf e) fun a7=>
 loopK [(.int .i64 0)] a6 fun d ca a a8=>
 vK (binV .i .lss (ix d 0) a7) fun a9=>
 iteK a9 (
 vK (idxV 1 e (ix d 0)) fun ba=>
 vK (ldV a ba) fun bb=>
 drawK a fun S=>
 vK (nilV a0) fun bc=>
 vK (fldV 1 bc) fun bd=>
 qK S (fun a=>ldV a bd) fun be=>
 vK (nilV a0) fun bf=>
 vK (fldV 5 bf) fun bg=>
 vK (fldV 1 bg) fun bh=>
 vK (fldV 0 bh) fun bi=>
 qK S (fun a=>ldV a bi) fun bj=>
 vK (binV .i .quo (ix d 0) q) fun bk=>
 vK (binV .i .add bj bk) fun bl=>
 vK (nilV a0) fun bm=>
 vK (fldV 16 bm) fun bn=>
 qK S (fun a=>ldV a bn) fun bo=>
 vK (binV .i .rem (ix d 0) q) fun bp=>
 vK (nilV a0) fun bq=>
 vK (fldV 1 bq) fun br=>
 qK S (fun a=>ldV a br) fun bs=>
 FCall prog zaO #[bs] a fun bt r=>
 S r∧(FCall prog zeJ #[bb,bt] r fun bu s=>
 S s∧(FCall prog zbs #[be,bl,bo,bp,bu] s fun cb bv=>
 vK (binV .i .add (ix d 0) (.int .i64 1)) fun bw=>
 a8 [bw] bv))) (
 vK (nilV a0) fun bx=>
 vK (fldV 16 bx) fun bz=>
 vK (ldV a bz) fun b0=>
 vK (binV .i .add b0 (.int .i64 1)) fun b1=>
 vK (nilV a0) fun b2=>
 vK (fldV 16 b2) fun b3=>
 stK 1 b3 b1 a fun cc b4=>
 R (.tuple #[]) b4))
theorem zkY (H:zfQ a0 h R):FCall prog zdU #[a0] h R:=fk f129 (.s .z (.s .z (.s (.s .z (.l 576460752286647280 [24] (.s .z (.s (.s .z .z) (.s (.s .z (.s (.d (.op 0 .r (.op 1 .r (.op 2 .r (.op 3 .r (.op 4 .r (.op 5 .r (.op 6 .r (.op 7 .r (.op 8 .n (.op 9 .r (.op 10 .r (.op 11 .r (.op 12 .r (.op 13 .r .nil))))))))))))))) (.s .z (.l 288221580058690304 [43] (.s .z (.s (.s .z .z) (.s (.s .z .z) .z))))))) .z))))) (.s .z (.s (.s .z (.l 2535301200382671826698568210432 [66] (.s .z (.s (.s .z .z) (.s (.s .z (.d (.op 0 .r (.op 1 .r (.op 2 .r (.op 3 .r (.op 4 .r (.op 5 .r (.op 6 .r (.op 7 .r (.op 8 .r (.op 9 .r (.op 10 .r (.op 11 .r (.op 12 .r (.op 13 .r (.op 14 .r (.op 15 .r (.op 16 .r (.op 17 .r (.op 18 .r (.op 19 .r (.op 20 .r (.op 21 .r (.op 22 .r (.op 23 .r (.op 24 .r (.op 25 .r (.op 26 .e (.op 27 .e (.op 28 .n .nil))))))))))))))))))))))))))))))) .z))))) .z))))) H
def zfR (a0:Value)(h:Heap)(R:Value→Heap→Prop):Prop:=
 vK (nilV a0) fun a=>
 vK (fldV 15 a) fun b=>
 vK (ldV h b) fun c=>
 FCall prog zen #[c] h fun d e=>
 R d e
theorem zkZ (H:zfR a0 h R):FCall prog zcL #[a0] h R:=fk f131 (.s .z (.s .z .z)) H
def zcp (a0:Value)(h:Heap)(R:Value→Heap→Prop):Prop:=
 joinK (fun c=>
 vK (zaf a0) fun e=>
 vK (binV .i .lss e (.int .i64 1)) fun f=>
 iteK f (
 failK h fun s g=>
 c [] g) (
 c [] h))
 fun t u d=>
 vK (idxV 1 a0 (.int .i64 0)) fun j=>
 vK (ldV d j) fun k=>
 loopK [k,(.int .i64 1)] d fun a v b l=>
 vK (zaf a0) fun m=>
 vK (binV .i .lss (ix a 1) m) fun n=>
 iteK n (
 vK (idxV 1 a0 (ix a 1)) fun o=>
 vK (ldV b o) fun p=>
 vK (maxV (ix a 0) p) fun q=>
 vK (binV .i .add (ix a 1) (.int .i64 1)) fun r=>
 l [q,r] b) (
 R (ix a 0) b)
theorem zeT (H:zcp a0 h R):FCall prog zby #[a0] h R:=fk f132 (.s .z (.j 480 [] (.s .z (.s .z .z)) (.s .z (.s (.s .z (.l 16773144 [3,4] (.s (.s .z (.s .z .z)) (.s .z .z)))) (.s .z .z))))) H
def sh_op_may (a0:Value)(h:Heap)(R:Value→Heap→Prop):Prop:=
 newK (Value.cells a0) 31 h fun b c=>
 vK (fldV 0 b) fun m=>
 vK (ldV c m) fun n=>
 vK (binV .i .lss n (.int .i64 0)) fun g=>
 vK (gV g false (fldV 0 b)) fun o=>
 vK (gV g false (ldV c o)) fun p=>
 vK (gV g false (binV .i .geq p (.int .i64 4))) fun q=>
 vK (pickV g (.bool true) q) fun d=>
 vK (gV d false (fldV 1 b)) fun r=>
 vK (gV d false (ldV c r)) fun t=>
 gK d false (fun u=>FCall prog zfF #[t] c u) c fun v e=>
 vK (gV d false (binV .s .eql v (.string ⟨#[]⟩))) fun w=>
 vK (pickV d (.bool true) w) fun x=>
 iteK x (
 R (.bool false) e) (
 vK (fldV 0 b) fun y=>
 vK (ldV e y) fun z=>
 vK (binV .i .neq z (.int .i64 3)) fun a=>
 vK (gV a false (fldV 7 b)) fun aa=>
 vK (gV a false (ldV e aa)) fun ab=>
 gK a false (fun ac=>FCall prog zhP #[ab] e ac) e fun ad k=>
 vK (gV a false (some ad)) fun j=>
 vK (gV j true (fldV 8 b)) fun ae=>
 vK (gV j true (ldV k ae)) fun af=>
 gK j true (fun ag=>FCall prog zhP #[af] k ag) k fun ah l=>
 vK (gV a false (pickV j ah (.bool false))) fun ai=>
 vK (gV a false (some ai)) fun f=>
 vK (gV f true (fldV 6 b)) fun aj=>
 vK (gV f true (ldV l aj)) fun ak=>
 gK f true (fun al=>FCall prog zj6 #[ak] l al) l fun am an=>
 vK (gV f true (binV .s .neq am (.string ⟨#[]⟩))) fun ao=>
 vK (gV a false (pickV f ao (.bool false))) fun ap=>
 vK (pickV a (.bool true) ap) fun aq=>
 R aq an)
theorem ok_op_may (H:sh_op_may a0 h R):FCall prog zsZ #[a0] h R:=fk f133 (.s .z (.s (.s .z (.s (.s .z .z) .z)) (.s .z .z))) H
def zqN (a0:Value)(h:Heap)(R:Value→Heap→Prop):Prop:=
 vK (binV .i .geq a0 (.int .i64 1)) fun a=>
 vK (gV a true (some a0)) fun b=>
 vK (gV a true (binV .i .leq b (.int .i64 65536))) fun c=>
 vK (pickV a c (.bool false)) fun d=>
 R d h
theorem ok_op_side (H:zqN a0 h R):FCall prog zhP #[a0] h R:=fk f134 (.s .z (.s .z .z)) H
def zn1 (a0 a1 a2:Value)(h:Heap)(R:Value→Heap→Prop):Prop:=
 newK (Value.cells a0) 31 h fun a b=>
 vK (fldV 0 a) fun r=>
 vK (ldV b r) fun s=>
 vK (binV .i .eql s (.int .i64 3)) fun t=>
 iteK t (
 vK (fldV 6 a) fun u=>
 vK (ldV b u) fun v=>
 vK (fldV 7 a) fun w=>
 vK (ldV b w) fun x=>
 FCall prog zdm #[v,a1,x] b fun e c=>
 vK (extV e 0) fun f=>
 vK (extV e 1) fun g=>
 vK (binV .i .eql g (.int .i64 0)) fun y=>
 iteK y (
 vK (fldV 6 a) fun z=>
 vK (ldV c z) fun aa=>
 vK (fldV 8 a) fun ab=>
 vK (ldV c ab) fun ac=>
 FCall prog zdm #[aa,a2,ac] c fun j ad=>
 vK (extV j 0) fun ae=>
 vK (extV j 1) fun af=>
 R (.tuple #[f,ae,af]) ad) (
 R (.tuple #[f,(.pointer none),g]) c)) (
 vK (ldsV 9 b a) fun ag=>
 FCall prog zjI #[ag] b fun d k=>
 vK (extV d 0) fun ah=>
 vK (extV d 1) fun ai=>
 vK (extV d 2) fun l=>
 vK (binV .i .neq l (.int .i64 0)) fun aj=>
 iteK aj (
 R (.tuple #[(.pointer none),(.pointer none),l]) k) (
 FCall prog zeE #[ah,a1] k fun m n=>
 vK (extV m 0) fun o=>
 vK (extV m 1) fun p=>
 vK (binV .i .eql p (.int .i64 0)) fun ak=>
 iteK ak (
 FCall prog zeE #[ai,a2] n fun q al=>
 vK (extV q 0) fun am=>
 vK (extV q 1) fun an=>
 R (.tuple #[o,am,an]) al) (
 R (.tuple #[o,(.pointer none),p]) n)))
theorem ok_op_tables (H:zn1 a0 a1 a2 h R):FCall prog zln #[a0,a1,a2] h R:=fk f135 (.s .z (.s (.s .z (.s (.s (.s .z (.s .z (.s .z .z))) (.s .z .z)) .z)) (.s .z (.s (.s .z (.s (.s .z .z) .z)) (.s (.s .z (.s .z (.s .z .z))) (.s .z .z)))))) H
def zeM (a0 a1 a2 a3:Value)(h:Heap)(R:Value→Heap→Prop):Prop:=
 vK (binV .i .lss a1 (.int .i64 0)) fun a=>
 vK (gV a false (some a1)) fun f=>
 vK (gV a false (some a0)) fun g=>
 vK (gV a false (nilV g)) fun j=>
 vK (gV a false (fldV 0 j)) fun k=>
 vK (gV a false (ldV h k)) fun l=>
 vK (gV a false (binV .i .geq f l)) fun m=>
 vK (pickV a (.bool true) m) fun d=>
 vK (gV d false (some a2)) fun n=>
 vK (gV d false (binV .i .lss n (.int .i64 0))) fun o=>
 vK (pickV d (.bool true) o) fun b=>
 vK (gV b false (some a2)) fun p=>
 vK (gV b false (some a0)) fun q=>
 vK (gV b false (nilV q)) fun r=>
 vK (gV b false (fldV 1 r)) fun s=>
 vK (gV b false (ldV h s)) fun t=>
 vK (gV b false (binV .i .geq p t)) fun u=>
 vK (pickV b (.bool true) u) fun e=>
 vK (gV e false (some a3)) fun v=>
 vK (gV e false (binV .i .lss v (.int .i64 0))) fun w=>
 vK (pickV e (.bool true) w) fun c=>
 vK (gV c false (some a3)) fun x=>
 vK (gV c false (some a0)) fun y=>
 vK (gV c false (nilV y)) fun z=>
 vK (gV c false (fldV 2 z)) fun aa=>
 vK (gV c false (ldV h aa)) fun ab=>
 vK (gV c false (binV .i .geq x ab)) fun ac=>
 vK (pickV c (.bool true) ac) fun ad=>
 iteK ad (
 R (.int .i64 (-1)) h) (
 vK (nilV a0) fun ae=>
 vK (fldV 0 ae) fun af=>
 vK (ldV h af) fun ag=>
 vK (binV .i .mul a2 ag) fun ah=>
 vK (binV .i .add ah a1) fun ai=>
 vK (nilV a0) fun aj=>
 vK (fldV 2 aj) fun ak=>
 vK (ldV h ak) fun al=>
 vK (binV .i .mul ai al) fun am=>
 vK (binV .i .add am a3) fun an=>
 R an h)
theorem zjn (H:zeM a0 a1 a2 a3 h R):FCall prog zcc #[a0,a1,a2,a3] h R:=fk f136 (.s .z (.s (.s .z (.s (.s .z .z) .z)) (.s .z .z))) H
def zca (a0:Value)(h:Heap)(R:Value→Heap→Prop):Prop:=
 vK (binV .sl .eql a0 (.slice none 0 0)) fun a=>
 iteK a (
 R (.slice none 0 0) h) (
 rowK #[] 22 0 [] h fun b c=>
 appK (.int .u16 0) 22 1 2 b a0 c fun d e=>
 R d e)
theorem zd3 (H:zca a0 h R):FCall prog zaR #[a0] h R:=fk f139 (.s .z (.s (.s .z (.s (.s .z .z) .z)) (.s .z .z))) H
def zfT (a0 a1:Value)(h:Heap)(R:Value→Heap→Prop):Prop:=
 newK #[(.int .i64 0),(.slice none 0 0)] 235 h fun c a=>
 vK (binV .i .lss a1 (.int .i64 0)) fun b=>
 vK (gV b false (some a1)) fun g=>
 vK (gV b false (some a0)) fun j=>
 vK (gV b false (nilV j)) fun k=>
 vK (gV b false (fldV 1 k)) fun l=>
 vK (gV b false (ldV a l)) fun m=>
 vK (gV b false (zaf m)) fun n=>
 vK (gV b false (binV .i .geq g n)) fun o=>
 vK (pickV b (.bool true) o) fun p=>
 iteK p (
 vK ((fillL #[(.int .i64 0),(.slice none 0 0)] []).map .agg) fun q=>
 stK 2 c q a fun ah d=>
 vK (ldsV 2 d c) fun r=>
 R r d) (
 drawK a fun S=>
 vK (nilV a0) fun s=>
 vK (fldV 1 s) fun t=>
 qK S (fun a=>ldV a t) fun u=>
 vK (idxV 2 u a1) fun v=>
 vK (fldV 0 v) fun w=>
 qK S (fun a=>ldV a w) fun x=>
 vK (nilV a0) fun y=>
 vK (fldV 1 y) fun z=>
 qK S (fun a=>ldV a z) fun aa=>
 vK (idxV 2 aa a1) fun ab=>
 vK (fldV 1 ab) fun ac=>
 qK S (fun a=>ldV a ac) fun ad=>
 FCall prog zaJ #[ad] a fun ae e=>
 S e∧(vK ((fillL #[(.int .i64 0),(.slice none 0 0)] [(0,1,x),(1,1,ae)]).map .agg) fun af=>
 stK 2 c af e fun ai f=>
 vK (ldsV 2 f c) fun ag=>
 R ag f))
theorem zk1 (H:zfT a0 a1 h R):FCall prog zai #[a0,a1] h R:=fk f140 (.s .z (.s (.s .z (.s (.s .z .z) .z)) (.s (.d (.op 0 .r (.op 1 .r (.op 2 .r (.op 3 .r (.op 4 .r (.op 5 .r (.op 6 .r (.op 7 .r (.op 8 .r (.op 9 .r (.op 10 .r (.op 11 .r (.op 12 .r (.op 13 .r (.op 14 .r (.op 15 .r (.op 16 .e (.op 17 .r (.op 18 .n .nil)))))))))))))))))))) .z))) H
def zeO (a0:Value)(h:Heap)(R:Value→Heap→Prop):Prop:=
 vK (nilV a0) fun a=>
 vK (fldV 2 a) fun b=>
 vK (ldV h b) fun c=>
 R c h
theorem zjp (H:zeO a0 h R):FCall prog zcd #[a0] h R:=fk f141 (.s .z (.s .z .z)) H
def zhC (a0:Value)(h:Heap)(R:Value→Heap→Prop):Prop:=
 vK (nilV a0) fun a=>
 vK (fldV 11 a) fun b=>
 vK (ldV h b) fun c=>
 vK (zaf c) fun d=>
 vK (nilV a0) fun e=>
 vK (fldV 6 e) fun f=>
 vK (ldV h f) fun g=>
 vK (zaf g) fun j=>
 vK (binV .i .eql d j) fun k=>
 R k h
theorem znf (H:zhC a0 h R):FCall prog zff #[a0] h R:=fk f142 (.s .z (.s .z .z)) H
def zks (a0 a1:Value)(h:Heap)(R:Value→Heap→Prop):Prop:=
 vK (binV .i .lss a1 (.int .i64 1)) fun w=>
 iteK w (
 R a0 h) (
 vK (binV .i .gtr a1 (.int .i64 64)) fun x=>
 iteK x (
 R (.int .i64 0) h) (
 vK ((fillL #[(.int .u64 0),(.int .u64 0)] [(0,1,(.int .u64 0)),(1,1,(.int .u64 1))]).map .agg) fun y=>
 newK #[(.int .u64 0),(.int .u64 0)] 293 h fun c z=>
 stK 2 c y z fun cf aa=>
 vK (binV .i .sub a1 (.int .i64 1)) fun ab=>
 loopK [(.int .i64 0)] aa fun p cg n ac=>
 vK (binV .i .lss (ix p 0) ab) fun ad=>
 iteK ad (
 vK (ldsV 2 n c) fun ae=>
 FCall prog zbf #[ae,(.int .u64 0)] n fun af ag=>
 stK 2 c af ag fun ch ah=>
 vK (binV .i .add (ix p 0) (.int .i64 1)) fun ai=>
 ac [ai] ah) (
 FCall prog zbG #[a0] n fun aj ak=>
 vK ((fillL #[(.int .u64 0),(.int .u64 0)] [(0,1,(.int .u64 0)),(1,1,aj)]).map .agg) fun al=>
 newK #[(.int .u64 0),(.int .u64 0)] 293 ak fun j am=>
 stK 2 j al am fun ci an=>
 vK ((fillL #[(.int .u64 0),(.int .u64 0)] []).map .agg) fun ao=>
 newK #[(.int .u64 0),(.int .u64 0)] 293 an fun b ap=>
 stK 2 b ao ap fun cj aq=>
 loopK [(.int .i64 127)] aq fun o ck a ar=>
 vK (binV .i .geq (ix o 0) a1) fun au=>
 iteK au (
 drawK a fun S=>
 qK S (fun a=>ldsV 2 a b) fun av=>
 qK S (fun a=>ldsV 2 a j) fun aw=>
 FCall prog zcy #[aw,(ix o 0)] a fun ax q=>
 S q∧(FCall prog zbf #[av,ax] q fun ay az=>
 stK 2 b ay az fun cl a2=>
 vK (binV .i .sub (ix o 0) (.int .i64 1)) fun a3=>
 ar [a3] a2)) (
 vK (ldsV 2 a j) fun a4=>
 newK #[(.int .u64 0),(.int .u64 0)] 293 a fun d a5=>
 stK 2 d a4 a5 fun cm a6=>
 loopK [a1] a6 fun e cn f r=>
 vK (binV .i .lss (ix e 0) (.int .i64 128)) fun a7=>
 iteK a7 (
 vK (ldsV 2 f j) fun a8=>
 FCall prog zcy #[a8,(ix e 0)] f fun a9 s=>
 vK (binV .i .eql a9 (.int .u64 1)) fun ba=>
 iteK ba (
 vK ((fillL #[(.int .u64 0),(.int .u64 0)] [(0,1,(.int .u64 0)),(1,1,(.int .u64 1))]).map .agg) fun bb=>
 newK #[(.int .u64 0),(.int .u64 0)] 293 s fun k bc=>
 stK 2 k bb bc fun co bd=>
 loopK [(.int .i64 0)] bd fun t cp g be=>
 vK (binV .i .lss (ix t 0) (ix e 0)) fun bf=>
 iteK bf (
 vK (ldsV 2 g k) fun bg=>
 FCall prog zbf #[bg,(.int .u64 0)] g fun bh bi=>
 stK 2 k bh bi fun cq bj=>
 vK (binV .i .add (ix t 0) (.int .i64 1)) fun bk=>
 be [bk] bj) (
 vK (ldsV 2 g d) fun bl=>
 vK (ldsV 2 g k) fun bm=>
 FCall prog zfz #[bl,bm] g fun bn bo=>
 stK 2 d bn bo fun cr bp=>
 vK (binV .i .add (ix e 0) (.int .i64 1)) fun bq=>
 r [bq] bp)) (
 vK (binV .i .add (ix e 0) (.int .i64 1)) fun br=>
 r [br] s)) (
 vK (ldsV 2 f d) fun bs=>
 vK (ldsV 2 f c) fun bt=>
 FCall prog zcZ #[bs,bt] f fun bu l=>
 vK (unV .not bu) fun bv=>
 joinK (fun u=>
 vK (binV .i .lss a0 (.int .i64 0)) fun bw=>
 iteK bw (
 vK (ldsV 2 l c) fun bx=>
 vK (ldsV 2 l d) fun bz=>
 FCall prog zcZ #[bx,bz] l fun b0 b1=>
 u [b0] b1) (
 u [bv] l))
 fun b2 cs m=>
 iteK (ix b2 0) (
 vK (ldsV 2 m b) fun b3=>
 vK ((fillL #[(.int .u64 0),(.int .u64 0)] [(0,1,(.int .u64 0)),(1,1,(.int .u64 1))]).map .agg) fun b4=>
 FCall prog zcs #[b3,b4] m fun b5 b6=>
 stK 2 b b5 b6 fun ct v=>
 vK (ldsV 2 v b) fun b7=>
 vK (binV .i .lss a0 (.int .i64 0)) fun b8=>
 FCall prog za3 #[b7,b8] v fun b9 ca=>
 R b9 ca) (
 vK (ldsV 2 m b) fun cb=>
 vK (binV .i .lss a0 (.int .i64 0)) fun cc=>
 FCall prog za3 #[cb,cc] m fun cd ce=>
 R cd ce))))))
theorem zqg (H:zks a0 a1 h R):FCall prog zdY #[a0,a1] h R:=fk f143 (.s .z (.s (.s .z (.s (.s .z .z) .z)) (.s (.s .z (.s (.s .z .z) .z)) (.s .z (.s (.s .z (.l 65011712 [21] (.s .z (.s (.s .z .z) (.s .z .z))))) (.s .z (.s .z (.s (.s .z (.l 1098437886208 [8] (.s (.s .z (.s .z .z)) (.s (.d (.op 0 .r (.op 1 .r (.op 2 .r (.op 3 .e (.op 4 .n (.op 5 .n .nil))))))) .z)))) (.s .z (.s (.s .z (.l 1152917106560338944 [10] (.s (.s .z (.s .z .z)) (.s (.s .z (.s (.s .z (.s (.s .z (.l 139611588448485376 [52] (.s .z (.s (.s .z .z) (.s .z .z))))) .z)) .z)) .z)))) (.s .z (.j 571849066284996104192 [12] (.s .z (.s .z .z)) (.s (.s .z (.s .z .z)) (.s .z .z)))))))))))))) H
def zfU (a0:Value)(h:Heap)(R:Value→Heap→Prop):Prop:=
 vK (nilV a0) fun a=>
 vK (fldV 0 a) fun b=>
 vK (ldV h b) fun c=>
 R c h
theorem zk2 (H:zfU a0 h R):FCall prog zbr #[a0] h R:=fk f146 (.s .z (.s .z .z)) H
def zkO (a0:Value)(h:Heap)(R:Value→Heap→Prop):Prop:=
 vK (binV .i .lss a0 (.int .i64 0)) fun a=>
 vK (gV a false (some a0)) fun b=>
 vK (gV a false (ldV h (.pointer (some ⟨zeC,0,none⟩)))) fun c=>
 vK (gV a false (zaf c)) fun d=>
 vK (gV a false (binV .i .geq b d)) fun e=>
 vK (pickV a (.bool true) e) fun f=>
 iteK f (
 R (.string ⟨#[]⟩) h) (
 vK (ldV h (.pointer (some ⟨zeC,0,none⟩))) fun g=>
 vK (idxV 1 g a0) fun j=>
 vK (ldV h j) fun k=>
 R k h)
theorem zqC (H:zkO a0 h R):FCall prog zfF #[a0] h R:=fk f147 (.s .z (.s (.s .z (.s (.s .z .z) .z)) (.s .z .z))) H
def zfp (a0 a1:Value)(h:Heap)(R:Value→Heap→Prop):Prop:=
 newK (Value.cells a1) 211 h fun b c=>
 vK (ldsV 6 c b) fun g=>
 FCall prog zjJ #[g] c fun i a=>
 vK (unV .not i) fun j=>
 iteK j (
 R (.bool false) a) (
 drawK a fun S=>
 vK (nilV a0) fun k=>
 vK (fldV 0 k) fun l=>
 qK S (fun a=>ldV a l) fun m=>
 qK S (fun a=>ldsV 6 a b) fun n=>
 FCall prog zhh #[n] a fun o d=>
 S d∧(rowK #[(.int .i64 0),(.slice none 0 0),(.int .i64 0),(.int .i64 0),(.int .i64 0),(.bool false)] 211 1 [(0,6,o)] d fun p e=>
 S e∧(appK (.agg #[.int .i64 0,.slice none 0 0,.int .i64 0,.int .i64 0,.int .i64 0,.bool false]) 211 6 64 m p e fun q f=>
 S f∧(vK (nilV a0) fun r=>
 vK (fldV 0 r) fun s=>
 stK 1 s q f fun u t=>
 R (.bool true) t))))
theorem zkh (H:zfp a0 a1 h R):FCall prog zdy #[a0,a1] h R:=fk f148 (.s .z (.s (.s .z (.s (.s .z .z) .z)) (.s (.d (.op 0 .r (.op 1 .r (.op 2 .r (.op 3 .r (.op 4 .r (.op 5 .r (.op 6 .e (.op 7 .e (.op 8 .e (.op 9 .r (.op 10 .r (.op 11 .n .nil))))))))))))) (.s .z .z)))) H
def zgO (a0 a1:Value)(h:Heap)(R:Value→Heap→Prop):Prop:=
 FCall prog zcE #[a0,a1] h fun b a=>
 vK (unV .not b) fun c=>
 iteK c (
 R (.slice none 0 0) a) (
 vK (nilV a0) fun d=>
 vK (fldV 0 d) fun e=>
 vK (ldV a e) fun f=>
 vK (idxV 1 f a1) fun g=>
 vK (ldV a g) fun i=>
 FCall prog zaT #[i] a fun j k=>
 R j k)
theorem zmz (H:zgO a0 a1 h R):FCall prog zdb #[a0,a1] h R:=fk f149 (.s .z (.s (.s .z (.s (.s .z .z) .z)) (.s .z .z))) H
def zf0 (a0 a1:Value)(h:Heap)(R:Value→Heap→Prop):Prop:=
 FCall prog zdb #[a0,a1] h fun b d=>
 FCall prog zcE #[a0,a1] d fun e a=>
 iteK e (
 vK (nilV a0) fun f=>
 vK (fldV 0 f) fun g=>
 vK (ldV a g) fun j=>
 vK (idxV 1 j a1) fun k=>
 vK (ldV a k) fun c=>
 vK (idxV 1 c a1) fun l=>
 vK (ldV a l) fun m=>
 vK (binV .i .add m (.int .i64 1)) fun n=>
 vK (idxV 1 c a1) fun o=>
 stK 1 o n a fun q p=>
 R b p) (
 R b a)
theorem zk8 (H:zf0 a0 a1 h R):FCall prog zb6 #[a0,a1] h R:=fk f150 (.s .z (.s .z (.s (.s .z (.s .z .z)) (.s .z .z)))) H
def zf1 (a0 a1 a2:Value)(h:Heap)(R:Value→Heap→Prop):Prop:=
 FCall prog zcE #[a0,a1] h fun f d=>
 vK (unV .not f) fun a=>
 vK (gV a false (some a2)) fun g=>
 vK (gV a false (zaf g)) fun j=>
 vK (gV a false (some a0)) fun k=>
 vK (gV a false (nilV k)) fun l=>
 vK (gV a false (fldV 0 l)) fun m=>
 vK (gV a false (ldV d m)) fun n=>
 vK (gV a false (zaf n)) fun o=>
 vK (gV a false (binV .i .neq j o)) fun p=>
 vK (pickV a (.bool true) p) fun c=>
 vK (gV c false (some a2)) fun q=>
 gK c false (fun r=>FCall prog zbF #[q] d r) d fun s b=>
 vK (gV c false (binV .i .lss s (.int .i64 0))) fun t=>
 vK (pickV c (.bool true) t) fun u=>
 iteK u (
 R (.bool false) b) (
 drawK b fun S=>
 vK (nilV a0) fun v=>
 vK (fldV 0 v) fun w=>
 qK S (fun b=>ldV b w) fun x=>
 vK (nilV a0) fun y=>
 vK (fldV 0 y) fun z=>
 qK S (fun b=>ldV b z) fun aa=>
 vK (idxV 1 aa a1) fun ab=>
 qK S (fun b=>ldV b ab) fun ac=>
 FCall prog zjP #[ac,a2] b fun ad e=>
 S e∧(vK (idxV 1 x a1) fun ae=>
 stK 1 ae ad e fun ag af=>
 R (.bool true) af))
theorem zk9 (H:zf1 a0 a1 a2 h R):FCall prog zbt #[a0,a1,a2] h R:=fk f151 (.s .z (.s (.s .z (.s (.s .z .z) .z)) (.s (.d (.op 0 .r (.op 1 .r (.op 2 .r (.op 3 .r (.op 4 .r (.op 5 .r (.op 6 .r (.op 7 .r (.op 8 .r (.op 9 .r (.op 10 .r (.op 11 .r (.op 12 .r (.op 13 .e (.op 14 .r (.op 15 .n .nil))))))))))))))))) (.s .z .z)))) H
def zfn (a0 a1 a2:Value)(h:Heap)(R:Value→Heap→Prop):Prop:=
 vK (ldV h a1) fun d=>
 FCall prog zfd #[d,a0] h fun b a=>
 vK (binV .p .neq b (.pointer none)) fun e=>
 iteK e (
 drawK a fun S=>
 qK S (fun a=>ldV a a1) fun f=>
 vK (nilV f) fun g=>
 vK (fldV 7 g) fun j=>
 qK S (fun a=>ldV a j) fun k=>
 qK S (fun a=>ldV a a2) fun l=>
 vK (binV .i .sub l (.int .i64 1)) fun m=>
 FCall prog zcL #[b] a fun n c=>
 S c∧(vK (idxV 1 k m) fun o=>
 stK 1 o n c fun r q=>
 R b q)) (
 R b a)
theorem zkf (H:zfn a0 a1 a2 h R):FCall prog zbT #[a0,a1,a2] h R:=fk f152 (.s .z (.s .z (.s (.s .z (.s (.d (.op 0 .r (.op 1 .r (.op 2 .r (.op 3 .r (.op 4 .r (.op 5 .r (.op 6 .r (.op 7 .e (.op 8 .r (.op 9 .n .nil))))))))))) .z)) (.s .z .z)))) H
def zhz (a0 a1:Value)(h:Heap)(R:Value→Heap→Prop):Prop:=
 vK (nilV a0) fun g=>
 vK (fldV 2 g) fun j=>
 vK (ldV h j) fun k=>
 FCall prog zbz #[k,a1] h fun b l=>
 vK (extV b 0) fun m=>
 vK (extV b 1) fun ac=>
 newK #[(.int .i64 0),(.int .i64 0),(.int .i64 0),(.int .i64 0),(.int .i64 0),(.int .i64 0),(.int .i64 0),(.int .i64 0),(.int .i64 0),(.int .i64 0)] 65 l fun c n=>
 stK 10 c m n fun ad a=>
 drawK a fun S=>
 vK (nilV a0) fun o=>
 vK (fldV 0 o) fun p=>
 qK S (fun a=>ldV a p) fun q=>
 vK (nilV a0) fun r=>
 vK (fldV 1 r) fun s=>
 qK S (fun a=>ldV a s) fun t=>
 vK (nilV a0) fun u=>
 vK (fldV 2 u) fun v=>
 qK S (fun a=>ldV a v) fun w=>
 qK S (fun a=>ldsV 10 a c) fun x=>
 FCall prog zcn #[w] a fun y d=>
 S d∧(FCall prog zeY #[q,t,y,x] d fun e f=>
 vK (extV e 0) fun z=>
 vK (extV e 1) fun aa=>
 vK (binV .i .neq aa (.int .i64 0)) fun ab=>
 iteK ab (
 R (.pointer none) f) (
 R z f))
theorem znc (H:zhz a0 a1 h R):FCall prog zfd #[a0,a1] h R:=fk f153 (.s .z (.s .z (.s (.d (.op 0 .r (.op 1 .r (.op 2 .r (.op 3 .r (.op 4 .r (.op 5 .r (.op 6 .r (.op 7 .r (.op 8 .r (.op 9 .r (.op 10 .r (.op 11 .r (.op 13 .r (.op 12 .e (.op 14 .n (.op 15 .r (.op 16 .r (.op 17 .r (.op 18 .r (.op 19 .r .nil))))))))))))))))))))) (.s (.s .z (.s (.s .z .z) .z)) (.s .z .z))))) H
def zgH (a0 a1 a2:Value)(h:Heap)(R:Value→Heap→Prop):Prop:=
 newK (Value.cells a2) 99 h fun e d=>
 joinK (fun f=>
 drawK d fun S=>
 vK (nilV a0) fun ac=>
 vK (fldV 2 ac) fun ad=>
 qK S (fun d=>ldV d ad) fun g=>
 vK (fldV 1 e) fun ae=>
 qK S (fun d=>ldV d ae) fun j=>
 (FCall prog zbz #[g,j] d fun k l=>
 S l∧(vK (extV k 0) fun af=>
 vK (extV k 1) fun b9=>
 newK #[(.int .i64 0),(.int .i64 0),(.int .i64 0),(.int .i64 0),(.int .i64 0),(.int .i64 0),(.int .i64 0),(.int .i64 0),(.int .i64 0),(.int .i64 0)] 65 l fun m n=>
 S n∧(stK 10 m af n fun ca o=>
 S o∧(f [m] o))))∧(newK #[(.int .i64 0),(.int .i64 0),(.int .i64 0),(.int .i64 0),(.int .i64 0),(.int .i64 0),(.int .i64 0),(.int .i64 0),(.int .i64 0),(.int .i64 0)] 65 d fun p q=>
 S q∧(FCall prog zbz #[g,j] q fun r s=>
 S s∧(vK (extV r 0) fun ag=>
 vK (extV r 1) fun cb=>
 stK 10 p ag s fun cc t=>
 S t∧(f [p] t)))))
 fun u cd a=>
 vK (nilV a0) fun ah=>
 vK (fldV 7 ah) fun ai=>
 vK (ldV a ai) fun aj=>
 vK (binV .i .sub a1 (.int .i64 1)) fun ak=>
 vK (idxV 1 aj ak) fun al=>
 vK (ldV a al) fun v=>
 vK (fldV 2 e) fun am=>
 vK (fldV 0 am) fun an=>
 vK (ldV a an) fun ao=>
 vK (binV .i .eql ao (.int .i64 1)) fun ap=>
 iteK ap (
 drawK a fun S=>
 vK (nilV a0) fun aq=>
 vK (fldV 0 aq) fun ar=>
 qK S (fun a=>ldV a ar) fun au=>
 vK (nilV a0) fun av=>
 vK (fldV 0 av) fun aw=>
 qK S (fun a=>ldV a aw) fun ax=>
 FCall prog zau #[au] a fun ay w=>
 S w∧(FCall prog zak #[ax] w fun az c=>
 vK (binV .i .mul ay az) fun x=>
 drawK c fun S=>
 vK (nilV a0) fun a3=>
 vK (fldV 2 a3) fun a4=>
 qK S (fun c=>ldV c a4) fun a5=>
 vK (fldV 2 e) fun a6=>
 vK (fldV 1 a6) fun a7=>
 qK S (fun c=>ldV c a7) fun a8=>
 vK (nilV a0) fun a9=>
 vK (fldV 0 a9) fun ba=>
 qK S (fun c=>ldV c ba) fun bb=>
 FCall prog zcn #[a5] c fun bc y=>
 S y∧(vK (partV false 1 2 bc) fun bd=>
 FCall prog zaw #[bb] y fun be z=>
 S z∧(FCall prog zdA #[bd,a8,be] z fun bf bg=>
 vK (binV .i .mul bf x) fun bh=>
 FCall prog zaX #[a0,a1,(.int .i64 0),bh,x,(.bool false)] bg fun ce bi=>
 vK (binV .i .add (.int .i64 1) a1) fun bj=>
 FCall prog zaX #[a0,a1,bj,(.int .i64 0),v,(.bool true)] bi fun cf bk=>
 R (.tuple #[]) bk)))) (
 vK (nilV a0) fun bl=>
 vK (fldV 1 bl) fun bm=>
 vK (ldV a bm) fun bn=>
 FCall prog zak #[bn] a fun aa bo=>
 vK (binV .i .add (.int .i64 1) a1) fun bp=>
 FCall prog zaX #[a0,a1,bp,(.int .i64 0),v,(.bool false)] bo fun cg b=>
 drawK b fun S=>
 vK (fldV 2 e) fun bq=>
 vK (fldV 1 bq) fun br=>
 qK S (fun b=>ldV b br) fun bs=>
 vK (nilV a0) fun bt=>
 vK (fldV 1 bt) fun bu=>
 qK S (fun b=>ldV b bu) fun bv=>
 vK (fldV 1 (ix u 0)) fun bw=>
 vK (fldV 0 bw) fun bx=>
 qK S (fun b=>ldV b bx) fun bz=>
 vK (fldV 1 (ix u 0)) fun b0=>
 vK (fldV 2 b0) fun b1=>
 qK S (fun b=>ldV b b1) fun b2=>
 vK (binV .i .mul b2 aa) fun b3=>
 FCall prog zau #[bv] b fun b4 ab=>
 S ab∧(vK (binV .i .mul bs b4) fun b5=>
 vK (binV .i .add b5 bz) fun b6=>
 vK (binV .i .mul b6 aa) fun b7=>
 FCall prog zaX #[a0,a1,(.int .i64 1),b7,b3,(.bool true)] ab fun ch b8=>
 R (.tuple #[]) b8))
theorem zms (H:zgH a0 a1 a2 h R):FCall prog zer #[a0,a1,a2] h R:=fk f154 (.s .z (.j 4190400 [6] (.d (.op 0 .r (.op 1 .r (.op 2 .r (.op 3 .r (.op 4 .r (.op 5 .r (.alt (.op 6 .e (.op 7 .r (.op 8 .r (.op 9 .r (.op 10 .e (.op 11 .e (.op 12 .r .nil))))))) (.op 10 .e (.op 6 .e (.op 7 .r (.op 8 .r (.op 9 .r (.op 11 .e (.op 12 .r .nil))))))))))))))) (.s .z (.s (.s .z (.s (.s (.d (.op 0 .r (.op 1 .r (.op 2 .r (.op 3 .r (.op 5 .r (.op 6 .r (.op 7 .r (.op 8 .r (.op 4 .e (.op 9 .n (.op 10 .r (.op 11 .r .nil))))))))))))) (.s (.d (.op 0 .r (.op 1 .r (.op 2 .r (.op 3 .r (.op 6 .r (.op 7 .r (.op 8 .r (.op 9 .r (.op 10 .r (.op 11 .r (.op 12 .r (.op 4 .e (.op 5 .r (.op 13 .e (.op 14 .n (.op 15 .r .nil))))))))))))))))) (.s .z (.s .z .z)))) .z)) (.s .z (.s .z (.d (.op 0 .r (.op 1 .r (.op 2 .r (.op 3 .r (.op 4 .r (.op 5 .r (.op 6 .r (.op 7 .r (.op 8 .r (.op 11 .r (.op 12 .r (.op 13 .r (.op 15 .r (.op 17 .r (.op 18 .r (.op 19 .r (.op 20 .r (.op 21 .r (.op 9 .e (.op 10 .r (.op 14 .r (.op 16 .r (.op 22 .n .nil)))))))))))))))))))))))))))))) H
def zjb (a0:Value)(h:Heap)(R:Value→Heap→Prop):Prop:=
 newK (Value.cells a0) 211 h fun a f=>
 newK #[(.int .i64 0),(.slice none 0 0),(.int .i64 0),(.int .i64 0),(.int .i64 0),(.bool false)] 211 f fun b c=>
 vK (fldV 1 a) fun g=>
 vK (ldV c g) fun i=>
 FCall prog zaT #[i] c fun j k=>
 vK (fldV 1 a) fun l=>
 stK 1 l j k fun o d=>
 vK (ldsV 6 d a) fun m=>
 stK 6 b m d fun p e=>
 vK (ldsV 6 e b) fun n=>
 R n e
theorem zpn (H:zjb a0 h R):FCall prog zhh #[a0] h R:=fk f155 (.s .z (.s .z (.s .z .z))) H
def zja (a0 a1:Value)(h:Heap)(R:Value→Heap→Prop):Prop:=
 newK (Value.cells a0) 211 h fun c e=>
 newK (Value.cells a1) 211 e fun d b=>
 vK (fldV 2 c) fun f=>
 vK (ldV b f) fun g=>
 vK (fldV 2 d) fun j=>
 vK (ldV b j) fun k=>
 vK (binV .i .eql g k) fun a=>
 vK (gV a true (fldV 3 c)) fun l=>
 vK (gV a true (ldV b l)) fun m=>
 vK (gV a true (fldV 3 d)) fun n=>
 vK (gV a true (ldV b n)) fun o=>
 vK (gV a true (maxV m o)) fun p=>
 vK (gV a true (fldV 4 c)) fun q=>
 vK (gV a true (ldV b q)) fun r=>
 vK (gV a true (fldV 4 d)) fun s=>
 vK (gV a true (ldV b s)) fun t=>
 vK (gV a true (minV r t)) fun u=>
 vK (gV a true (binV .i .lss p u)) fun v=>
 vK (pickV a v (.bool false)) fun w=>
 R w b
theorem zpm (H:zja a0 a1 h R):FCall prog zhg #[a0,a1] h R:=fk f158 (.s .z (.s .z .z)) H
def zkN (a0 a1:Value)(h:Heap)(R:Value→Heap→Prop):Prop:=
 FCall prog ziv #[a0,a1] h fun a b=>
 vK (gV a true (some a0)) fun c=>
 vK (gV a true (some a1)) fun d=>
 gK a true (fun e=>FCall prog ziw #[c,d] b e) b fun f g=>
 vK (gV a true (unV .not f)) fun i=>
 vK (pickV a i (.bool false)) fun j=>
 R j g
theorem zqB (H:zkN a0 a1 h R):FCall prog zfE #[a0,a1] h R:=fk f159 (.s .z (.s .z .z)) H
def zkD (h:Heap)(R:Value→Heap→Prop):Prop:=
 vK ((fillL #[(.int .i64 0),(.int .i64 0),(.int .i64 0),(.int .i64 0),(.slice none 0 0),(.slice none 0 0),(.int .i64 0),(.int .i64 0),(.int .i64 0)] [(0,1,(.int .i64 3)),(7,1,(.int .i64 2)),(8,1,(.int .i64 1)),(6,1,(.int .i64 0))]).map .agg) fun q=>
 FCall prog ze2 #[q,(.int .i64 4),(.int .i64 3)] h fun o r=>
 vK (extV o 0) fun s=>
 vK (extV o 1) fun t=>
 newK #[(.pointer none),(.pointer none),(.int .i64 0)] 46 r fun a u=>
 stK 3 a s u fun a2 v=>
 FCall prog zir #[] v fun k b=>
 vK (gV k true (some t)) fun w=>
 vK (gV k true (binV .i .eql w (.int .i64 0))) fun x=>
 vK (pickV k x (.bool false)) fun g=>
 vK (gV g true (fldV 0 a)) fun y=>
 vK (gV g true (ldV b y)) fun z=>
 vK (gV g true (binV .p .neq z (.pointer none))) fun aa=>
 vK (pickV g aa (.bool false)) fun j=>
 vK (gV j true (fldV 1 a)) fun ab=>
 vK (gV j true (ldV b ab)) fun ac=>
 vK (gV j true (binV .p .neq ac (.pointer none))) fun ad=>
 vK (pickV j ad (.bool false)) fun c=>
 vK (gV c true (fldV 0 a)) fun ae=>
 vK (gV c true (ldV b ae)) fun af=>
 gK c true (fun ag=>FCall prog zbr #[af] b ag) b fun ah l=>
 vK (gV c true (binV .i .eql ah (.int .i64 4))) fun ai=>
 vK (pickV c ai (.bool false)) fun d=>
 vK (gV d true (fldV 0 a)) fun aj=>
 vK (gV d true (ldV l aj)) fun ak=>
 gK d true (fun al=>FCall prog zas #[ak] l al) l fun am m=>
 vK (gV d true (binV .i .eql am (.int .i64 2))) fun an=>
 vK (pickV d an (.bool false)) fun e=>
 vK (gV e true (fldV 1 a)) fun ao=>
 vK (gV e true (ldV m ao)) fun ap=>
 gK e true (fun aq=>FCall prog zbr #[ap] m aq) m fun ar n=>
 vK (gV e true (binV .i .eql ar (.int .i64 3))) fun au=>
 vK (pickV e au (.bool false)) fun f=>
 vK (gV f true (fldV 1 a)) fun av=>
 vK (gV f true (ldV n av)) fun aw=>
 gK f true (fun ax=>FCall prog zas #[aw] n ax) n fun ay az=>
 vK (gV f true (binV .i .eql ay (.int .i64 1))) fun a0=>
 vK (pickV f a0 (.bool false)) fun a1=>
 R a1 az
theorem zqr (H:zkD h R):FCall prog zfC #[] h R:=fk f163 (.s .z (.s .z (.s .z .z))) H
def zkE (h:Heap)(R:Value→Heap→Prop):Prop:=
 FCall prog zct #[(.int .i64 2),(.int .i64 1),(.int .i64 3),(.int .i64 255)] h fun f g=>
 vK (extV f 0) fun b=>
 vK (extV f 1) fun l=>
 vK (binV .i .eql l (.int .i64 0)) fun d=>
 vK (gV d true (some b)) fun m=>
 vK (gV d true (binV .p .neq m (.pointer none))) fun n=>
 vK (pickV d n (.bool false)) fun a=>
 vK (gV a true (some b)) fun o=>
 gK a true (fun q=>FCall prog zcG #[o] g q) g fun r j=>
 vK (gV a true (zaf r)) fun s=>
 vK (gV a true (binV .i .eql s (.int .i64 6))) fun t=>
 vK (pickV a t (.bool false)) fun c=>
 vK (gV c true (some b)) fun u=>
 gK c true (fun v=>FCall prog zbs #[u,(.int .i64 1),(.int .i64 0),(.int .i64 2),(.int .u16 256)] j v) j fun w k=>
 vK (gV c true (unV .not w)) fun x=>
 vK (pickV c x (.bool false)) fun e=>
 vK (gV e true (some b)) fun y=>
 gK e true (fun z=>FCall prog zbs #[y,(.int .i64 1),(.int .i64 0),(.int .i64 2),(.int .u16 255)] k z) k fun aa ab=>
 vK (pickV e aa (.bool false)) fun ac=>
 R ac ab
theorem zqs (H:zkE h R):FCall prog ziq #[] h R:=fk f164 (.s .z (.s .z (.s .z .z))) H
def zjf (a0 a1:Value)(h:Heap)(R:Value→Heap→Prop):Prop:=
 newK (Value.cells a1) 46 h fun c j=>
 vK (ldsV 3 j c) fun q=>
 FCall prog zbg #[a0,q] j fun r a=>
 vK (unV .not r) fun s=>
 iteK s (
 R (.tuple #[(.pointer none),(.int .i64 6)]) a) (
 drawK a fun S=>
 vK (fldV 0 c) fun t=>
 qK S (fun a=>ldV a t) fun u=>
 vK (fldV 1 c) fun v=>
 qK S (fun a=>ldV a v) fun w=>
 FCall prog zas #[u] a fun x k=>
 S k∧(FCall prog zas #[w] k fun y z=>
 FCall prog zak #[a0] z fun aa ab=>
 FCall prog zaO #[a0] ab fun ac ad=>
 FCall prog zct #[x,y,aa,ac] ad fun l m=>
 vK (extV l 0) fun b=>
 vK (extV l 1) fun n=>
 vK (binV .i .neq n (.int .i64 0)) fun ae=>
 iteK ae (
 R (.tuple #[(.pointer none),n]) m) (
 FCall prog zaw #[b] m fun af ag=>
 loopK [(.int .i64 0)] ag fun d a6 o ah=>
 vK (binV .i .lss (ix d 0) af) fun ai=>
 iteK ai (
 FCall prog zau #[b] o fun aj ak=>
 loopK [(.int .i64 0)] ak fun e a7 p al=>
 vK (binV .i .lss (ix e 0) aj) fun am=>
 iteK am (
 FCall prog zak #[b] p fun an ao=>
 loopK [(.int .i64 0)] ao fun f a8 g ap=>
 vK (binV .i .lss (ix f 0) an) fun aq=>
 iteK aq (
 vK (ldsV 3 g c) fun ar=>
 FCall prog zjO #[a0,ar,(ix e 0),(ix d 0),(ix f 0)] g fun au av=>
 FCall prog zaO #[a0] av fun aw ax=>
 FCall prog zeJ #[au,aw] ax fun ay az=>
 FCall prog zbs #[b,(ix e 0),(ix d 0),(ix f 0),ay] az fun a9 a2=>
 vK (binV .i .add (ix f 0) (.int .i64 1)) fun a3=>
 ap [a3] a2) (
 vK (binV .i .add (ix e 0) (.int .i64 1)) fun a4=>
 al [a4] g)) (
 vK (binV .i .add (ix d 0) (.int .i64 1)) fun a5=>
 ah [a5] p)) (
 R (.tuple #[b,(.int .i64 0)]) o))))
theorem zpr (H:zjf a0 a1 h R):FCall prog zhj #[a0,a1] h R:=fk f165 (.s .z (.s (.s .z (.s (.s .z .z) .z)) (.s (.d (.op 0 .r (.op 1 .r (.op 3 .r (.op 4 .r (.op 6 .r (.op 8 .r (.op 2 .e (.op 5 .n (.op 7 .n (.op 9 .n (.op 10 .n (.op 11 .r (.op 12 .r (.op 13 .r (.op 14 .r (.op 15 .r .nil))))))))))))))))) (.s (.s .z (.s (.s .z .z) .z)) (.s (.s .z (.l 18446744056529684224 [34] (.s .z (.s (.s .z .z) (.s (.s .z (.s .z (.l 9223371487098963456 [39] (.s .z (.s (.s .z .z) (.s (.s .z (.s .z (.l 4611668426241344512 [44] (.s .z (.s (.s .z .z) (.s (.s .z .z) .z)))))) .z)))))) .z))))) (.s .z .z)))))) H
def zlD (a0:Value)(h:Heap)(R:Value→Heap→Prop):Prop:=
 vK (binV .i .geq a0 (.int .i64 1)) fun a=>
 vK (gV a true (some a0)) fun b=>
 vK (gV a true (binV .i .leq b (.int .i64 65536))) fun c=>
 vK (pickV a c (.bool false)) fun d=>
 R d h
theorem zrX (H:zlD a0 h R):FCall prog zdH #[a0] h R:=fk f166 (.s .z (.s .z .z)) H
def zi5 (a0 a1 a2:Value)(h:Heap)(R:Value→Heap→Prop):Prop:=
 vK (binV .i .lss a0 (.int .i64 0)) fun d=>
 vK (gV d false (some a0)) fun n=>
 vK (gV d false (binV .i .gtr n (.int .i64 2))) fun o=>
 vK (pickV d (.bool true) o) fun b=>
 vK (gV b false (some a1)) fun p=>
 gK b false (fun q=>FCall prog ze0 #[p] h q) h fun r e=>
 vK (gV b false (unV .not r)) fun s=>
 vK (pickV b (.bool true) s) fun c=>
 vK (gV c false (some a2)) fun t=>
 gK c false (fun u=>FCall prog ze0 #[t] e u) e fun v f=>
 vK (gV c false (unV .not v)) fun w=>
 vK (pickV c (.bool true) w) fun x=>
 iteK x (
 R (.tuple #[(.slice none 0 0),(.int .i64 6)]) f) (
 loopK [(.slice none 0 0),(.int .i64 0)] f fun a al g y=>
 vK (binV .i .lss (ix a 1) a2) fun z=>
 iteK z (
 FCall prog zif #[a0,a1,a2,(ix a 1)] g fun j aa=>
 vK (extV j 0) fun ab=>
 vK (extV j 1) fun ac=>
 FCall prog zcl #[ac] aa fun k l=>
 vK (extV k 0) fun ad=>
 vK (extV k 1) fun m=>
 vK (binV .i .neq m (.int .i64 0)) fun ae=>
 iteK ae (
 R (.tuple #[(.slice none 0 0),m]) l) (
 vK ((fillL #[(.int .i64 0),(.slice none 0 0)] [(0,1,ab),(1,1,ad)]).map .agg) fun af=>
 rowK #[(.int .i64 0),(.slice none 0 0)] 161 1 [(0,2,af)] l fun ag ah=>
 appK (.agg #[.int .i64 0,.slice none 0 0]) 161 2 32 (ix a 0) ag ah fun ai aj=>
 vK (binV .i .add (ix a 1) (.int .i64 1)) fun ak=>
 y [ai,ak] aj)) (
 R (.tuple #[(ix a 0),(.int .i64 0)]) g))
theorem zph (H:zi5 a0 a1 a2 h R):FCall prog zeF #[a0,a1,a2] h R:=fk f167 (.s .z (.s (.s .z (.s (.s .z .z) .z)) (.s .z (.s (.s .z (.l 144115185928388544 [8,31] (.s .z (.s (.s .z .z) (.s (.s .z (.s .z (.s .z (.s (.s .z (.s (.s .z .z) .z)) .z)))) .z))))) (.s .z .z))))) H
def zhu (a0:Value)(h:Heap)(R:Value→Heap→Prop):Prop:=
 vK (binV .i .lss a0 (.int .i64 1)) fun c=>
 vK (gV c false (some a0)) fun f=>
 vK (gV c false (binV .i .gtr f (.int .i64 4194304))) fun g=>
 vK (pickV c (.bool true) g) fun j=>
 iteK j (
 R (.tuple #[(.slice none 0 0),(.int .i64 7)]) h) (
 loopK [(.int .i64 0)] h fun b z d k=>
 vK (binV .i .mul (ix b 0) (.int .i64 65536)) fun l=>
 vK (binV .i .mul (.int .i64 3) a0) fun m=>
 vK (binV .i .lss l m) fun n=>
 iteK n (
 vK (binV .i .add (ix b 0) (.int .i64 1)) fun o=>
 k [o] d) (
 vK (unV .neg (ix b 0)) fun p=>
 loopK [(.slice none 0 0),p] d fun a aa e q=>
 vK (binV .i .leq (ix a 1) (ix b 0)) fun r=>
 iteK r (
 FCall prog zih #[(ix a 1),a0] e fun s t=>
 rowK #[(.int .i64 0)] 2 1 [(0,1,s)] t fun u v=>
 appK (.int .i64 0) 2 1 8 (ix a 0) u v fun w x=>
 vK (binV .i .add (ix a 1) (.int .i64 1)) fun y=>
 q [w,y] x) (
 R (.tuple #[(ix a 0),(.int .i64 0)]) e)))
theorem zm7 (H:zhu a0 h R):FCall prog zfa #[a0] h R:=fk f168 (.s .z (.s (.s .z (.s (.s .z .z) .z)) (.s .z (.s (.l 1040400 [4] (.s (.s .z (.s .z .z)) .z)) (.s .z (.s (.s .z (.l 8585740384 [5,6] (.s (.s .z (.s .z .z)) (.s .z .z)))) (.s .z .z))))))) H
def zlM (a0:Value)(h:Heap)(R:Value→Heap→Prop):Prop:=
 vK (binV .i .lss a0 (.int .i64 0)) fun b=>
 vK (gV b false (some a0)) fun e=>
 vK (gV b false (binV .i .gtr e (.int .i64 511))) fun f=>
 vK (pickV b (.bool true) f) fun g=>
 iteK g (
 R (.tuple #[(.slice none 0 0),(.int .i64 7)]) h) (
 vK (binV .i .mul (.int .i64 2) a0) fun j=>
 vK (binV .i .add j (.int .i64 1)) fun k=>
 loopK [(.slice none 0 0),(.int .i64 0)] h fun a v c l=>
 vK (binV .i .lss (ix a 1) k) fun m=>
 iteK m (
 rowK #[(.int .i64 0)] 2 1 [(0,1,(.int .i64 1))] c fun n o=>
 appK (.int .i64 0) 2 1 8 (ix a 0) n o fun p q=>
 vK (binV .i .add (ix a 1) (.int .i64 1)) fun r=>
 l [p,r] q) (
 FCall prog ze1 #[(ix a 0)] c fun d s=>
 vK (extV d 0) fun t=>
 vK (extV d 1) fun u=>
 R (.tuple #[t,u]) s))
theorem zr6 (H:zlM a0 h R):FCall prog zjF #[a0] h R:=fk f169 (.s .z (.s (.s .z (.s (.s .z .z) .z)) (.s .z (.s (.s .z (.l 1032208 [4,14] (.s .z (.s (.s .z .z) (.s .z .z))))) (.s .z .z))))) H
def zlJ (a0:Value)(h:Heap)(R:Value→Heap→Prop):Prop:=
 FCall prog zie #[a0] h fun c g=>
 vK (zaf a0) fun j=>
 vK (binV .i .rem j (.int .i64 2)) fun k=>
 vK (binV .i .eql k (.int .i64 0)) fun b=>
 vK (gV b false (some a0)) fun l=>
 vK (gV b false (zaf l)) fun m=>
 vK (gV b false (binV .i .gtr m (.int .i64 1024))) fun n=>
 vK (pickV b (.bool true) n) fun d=>
 vK (gV d false (some c)) fun o=>
 vK (gV d false (binV .i .eql o (.int .i64 0))) fun p=>
 vK (pickV d (.bool true) p) fun e=>
 vK (gV e false (some c)) fun q=>
 vK (gV e false (binV .i .gtr q (.int .i64 1048576))) fun r=>
 vK (pickV e (.bool true) r) fun s=>
 iteK s (
 R (.tuple #[(.slice none 0 0),(.int .i64 7)]) g) (
 vK (zaf a0) fun t=>
 loopK [(.slice none 0 0),(.int .i64 0)] g fun a af f u=>
 vK (binV .i .lss (ix a 1) t) fun v=>
 iteK v (
 vK (idxV 1 a0 (ix a 1)) fun w=>
 vK (ldV f w) fun x=>
 FCall prog zaP #[x,(.int .i64 1073741824),c] f fun y z=>
 rowK #[(.int .i64 0)] 2 1 [(0,1,y)] z fun aa ab=>
 appK (.int .i64 0) 2 1 8 (ix a 0) aa ab fun ac ad=>
 vK (binV .i .add (ix a 1) (.int .i64 1)) fun ae=>
 u [ac,ae] ad) (
 R (.tuple #[(ix a 0),(.int .i64 0)]) f))
theorem zr3 (H:zlJ a0 h R):FCall prog ze1 #[a0] h R:=fk f170 (.s .z (.s .z (.s (.s .z (.s (.s .z .z) .z)) (.s .z (.s (.s .z (.l 1098974757024 [5,29] (.s .z (.s (.s .z .z) (.s (.s .z .z) .z))))) (.s .z .z)))))) H
def zi6 (a0 a1:Value)(h:Heap)(R:Value→Heap→Prop):Prop:=
 FCall prog ze0 #[a1] h fun g b=>
 vK (unV .not g) fun j=>
 iteK j (
 R (.tuple #[(.slice none 0 0),(.int .i64 6)]) b) (
 vK (zaf a0) fun k=>
 vK (binV .i .rem k (.int .i64 2)) fun l=>
 vK (binV .i .eql l (.int .i64 0)) fun m=>
 iteK m (
 R (.tuple #[(.slice none 0 0),(.int .i64 7)]) b) (
 FCall prog zcl #[a0] b fun c d=>
 vK (extV c 0) fun n=>
 vK (extV c 1) fun e=>
 vK (binV .i .neq e (.int .i64 0)) fun o=>
 iteK o (
 R (.tuple #[(.slice none 0 0),e]) d) (
 loopK [(.slice none 0 0),(.int .i64 0)] d fun a aa f p=>
 vK (binV .i .lss (ix a 1) a1) fun q=>
 iteK q (
 vK (zaf a0) fun r=>
 vK (binV .i .quo r (.int .i64 2)) fun s=>
 vK (binV .i .sub (ix a 1) s) fun t=>
 vK ((fillL #[(.int .i64 0),(.slice none 0 0)] [(0,1,t),(1,1,n)]).map .agg) fun u=>
 rowK #[(.int .i64 0),(.slice none 0 0)] 161 1 [(0,2,u)] f fun v w=>
 appK (.agg #[.int .i64 0,.slice none 0 0]) 161 2 32 (ix a 0) v w fun x y=>
 vK (binV .i .add (ix a 1) (.int .i64 1)) fun z=>
 p [x,z] y) (
 R (.tuple #[(ix a 0),(.int .i64 0)]) f))))
theorem zpi (H:zi6 a0 a1 h R):FCall prog zeG #[a0,a1] h R:=fk f171 (.s .z (.s (.s .z (.s (.s .z .z) .z)) (.s (.s .z (.s (.s .z .z) .z)) (.s .z (.s (.s .z (.s (.s .z .z) .z)) (.s .z (.s (.s .z (.l 1099444519680 [8,26] (.s .z (.s (.s .z .z) (.s (.s .z .z) .z))))) (.s .z .z)))))))) H
def zgw (a0:Value)(h:Heap)(R:Value→Heap→Prop):Prop:=
 vK (nilV a0) fun a=>
 vK (fldV 16 a) fun b=>
 vK (ldV h b) fun c=>
 vK (nilV a0) fun d=>
 vK (fldV 5 d) fun e=>
 vK (fldV 1 e) fun f=>
 vK (fldV 1 f) fun g=>
 vK (ldV h g) fun j=>
 vK (nilV a0) fun k=>
 vK (fldV 5 k) fun l=>
 vK (fldV 1 l) fun m=>
 vK (fldV 3 m) fun n=>
 vK (ldV h n) fun o=>
 vK (binV .i .add j o) fun p=>
 vK (binV .i .geq c p) fun q=>
 R q h
theorem zmh (H:zgw a0 h R):FCall prog zel #[a0] h R:=fk f172 (.s .z (.s .z .z)) H
def zgx (a0:Value)(h:Heap)(R:Value→Heap→Prop):Prop:=
 newK #[(.int .i64 0),(.slice none 0 0)] 235 h fun b a=>
 drawK a fun S=>
 vK (nilV a0) fun d=>
 vK (fldV 2 d) fun e=>
 vK (fldV 1 e) fun f=>
 qK S (fun a=>ldV a f) fun g=>
 vK (nilV a0) fun i=>
 vK (fldV 16 i) fun j=>
 qK S (fun a=>ldV a j) fun k=>
 FCall prog zai #[g,k] a fun l m=>
 stK 2 b l m fun o c=>
 vK (ldsV 2 c b) fun n=>
 R n c
theorem zmi (H:zgx a0 h R):FCall prog zc5 #[a0] h R:=fk f173 (.s .z (.s (.d (.op 0 .r (.op 1 .r (.op 2 .r (.op 3 .r (.op 4 .r (.op 5 .r (.op 6 .r (.op 7 .r (.op 8 .r (.op 9 .n (.op 10 .n .nil)))))))))))) .z)) H
def zht (a0 a1 a2:Value)(h:Heap)(R:Value→Heap→Prop):Prop:=
 loopK [a1] h fun a k b d=>
 vK (binV .i .lss (ix a 0) a2) fun e=>
 iteK e (
 FCall prog zdX #[a0,(ix a 0)] b fun f c=>
 vK (unV .not f) fun g=>
 iteK g (
 R (.tuple #[(ix a 0),(.bool true)]) c) (
 vK (binV .i .add (ix a 0) (.int .i64 1)) fun j=>
 d [j] c)) (
 R (.tuple #[(.int .i64 0),(.bool false)]) b)
theorem zm6 (H:zht a0 a1 a2 h R):FCall prog ze9 #[a0,a1,a2] h R:=fk f174 (.s .z (.s (.s .z (.l 1048000 [8] (.s (.s .z (.s .z .z)) (.s (.s .z (.s (.s .z .z) .z)) .z)))) (.s .z .z))) H
def zn7 (a0 a1 a2:Value)(h:Heap)(R:Value→Heap→Prop):Prop:=
 vK (binV .i .lss a2 (.int .i64 1)) fun a=>
 vK (gV a false (some a2)) fun c=>
 vK (gV a false (binV .i .gtr c (.int .i64 65536))) fun d=>
 vK (pickV a (.bool true) d) fun e=>
 iteK e (
 R (.int .i64 0) h) (
 vK (binV .i .eql a0 (.int .i64 0)) fun f=>
 iteK f (
 vK (binV .i .sub a2 (.int .i64 1)) fun g=>
 FCall prog zfD #[a1,(.int .i64 0),g] h fun j k=>
 R j k) (
 vK (binV .i .eql a0 (.int .i64 1)) fun l=>
 iteK l (
 vK (binV .i .mul (.int .i64 2) a2) fun m=>
 FCall prog zgu #[a1,m] h fun b n=>
 vK (binV .i .mul (.int .i64 2) a2) fun o=>
 vK (binV .i .sub o (.int .i64 1)) fun p=>
 vK (binV .i .sub p b) fun q=>
 vK (minV b q) fun r=>
 R r n) (
 vK (binV .i .eql a0 (.int .i64 2)) fun s=>
 iteK s (
 FCall prog zgu #[a1,a2] h fun t u=>
 R t u) (
 R (.int .i64 0) h))))
theorem ok_border_At (H:zn7 a0 a1 a2 h R):FCall prog zdA #[a0,a1,a2] h R:=fk f175 (.s .z (.s (.s .z (.s (.s .z .z) .z)) (.s (.s .z (.s .z (.s (.s .z .z) (.s .z (.s (.s .z (.s .z .z)) (.s .z (.s (.s .z .z) .z))))))) (.s .z .z)))) H
def zfh (a0 a1 a2 a3:Value)(h:Heap)(R:Value→Heap→Prop):Prop:=
 vK (nilV a0) fun l=>
 vK (fldV 2 l) fun m=>
 vK (fldV 0 m) fun n=>
 vK (ldV h n) fun o=>
 FCall prog zai #[o,a1] h fun p q=>
 newK #[(.int .i64 0),(.slice none 0 0)] 235 q fun d r=>
 stK 2 d p r fun bb f=>
 vK (nilV a0) fun s=>
 vK (fldV 0 s) fun t=>
 vK (ldV f t) fun u=>
 FCall prog zak #[u] f fun v w=>
 loopK [a3,(.int .i64 0)] w fun c bc e x=>
 vK (binV .i .lss (ix c 1) v) fun y=>
 iteK y (
 vK (fldV 1 d) fun z=>
 vK (ldV e z) fun g=>
 vK (zaf g) fun aa=>
 loopK [(.int .i64 0),(.int .i64 0)] e fun b bd a ab=>
 vK (binV .i .lss (ix b 1) aa) fun ac=>
 iteK ac (
 vK (idxV 1 g (ix b 1)) fun ad=>
 vK (ldV a ad) fun ae=>
 drawK a fun S=>
 vK (nilV a0) fun af=>
 vK (fldV 2 af) fun ag=>
 vK (fldV 2 ag) fun ah=>
 qK S (fun a=>ldV a ah) fun ai=>
 vK (fldV 0 d) fun aj=>
 qK S (fun a=>ldV a aj) fun ak=>
 vK (binV .i .add ak (ix b 1)) fun al=>
 vK (nilV a0) fun am=>
 vK (fldV 0 am) fun an=>
 qK S (fun a=>ldV a an) fun ao=>
 FCall prog zau #[ao] a fun ap j=>
 S j∧(FCall prog zdA #[ai,al,ap] j fun aq k=>
 vK (nilV a0) fun ar=>
 vK (fldV 0 ar) fun au=>
 vK (ldV k au) fun av=>
 FCall prog zbJ #[av,aq,a2,(ix c 1)] k fun aw ax=>
 vK (cviV .i64 aw) fun ay=>
 vK (binV .i .mul ae ay) fun az=>
 vK (binV .i .add (ix b 0) az) fun a4=>
 vK (binV .i .add (ix b 1) (.int .i64 1)) fun a5=>
 ab [a4,a5] ax)) (
 rowK #[(.int .i64 0)] 2 1 [(0,1,(ix b 0))] a fun a6 a7=>
 appK (.int .i64 0) 2 1 8 (ix c 0) a6 a7 fun a8 a9=>
 vK (binV .i .add (ix c 1) (.int .i64 1)) fun ba=>
 x [a8,ba] a9)) (
 R (ix c 0) e)
theorem zj9 (H:zfh a0 a1 a2 a3 h R):FCall prog zdv #[a0,a1,a2,a3] h R:=fk f176 (.s .z (.s .z (.s (.s .z (.l 4722366482869511027720 [3,27] (.s .z (.s (.s .z .z) (.s (.s .z (.s .z (.s (.s .z (.l 147573952581086509056 [11,33] (.s .z (.s (.s .z .z) (.s (.s .z (.s (.d (.op 0 .r (.op 1 .r (.op 2 .r (.op 3 .r (.op 4 .r (.op 5 .r (.op 6 .r (.op 7 .r (.op 8 .r (.op 9 .r (.op 10 .r (.op 11 .r (.op 12 .r (.op 13 .e (.op 14 .n (.op 15 .r .nil))))))))))))))))) .z)) .z))))) .z))) .z))))) (.s .z .z)))) H
def ziD (a0 a1 a2:Value)(h:Heap)(R:Value→Heap→Prop):Prop:=
 vK (zaf a2) fun k=>
 vK (nilV a0) fun l=>
 vK (fldV 1 l) fun m=>
 vK (ldV h m) fun n=>
 vK (binV .i .neq k n) fun b=>
 vK (gV b false (some a0)) fun o=>
 vK (gV b false (some a1)) fun p=>
 gK b false (fun q=>FCall prog zdX #[o,p] h q) h fun r c=>
 vK (pickV b (.bool true) r) fun s=>
 iteK s (
 R (.bool false) c) (
 joinK (fun d=>
 FCall prog zep #[a0] c fun e a=>
 vK (extV e 0) fun f=>
 vK (extV e 1) fun aj=>
 vK (nilV a0) fun t=>
 vK (fldV 2 t) fun u=>
 vK (ldV a u) fun v=>
 vK (lenmV a v) fun w=>
 vK (nilV a0) fun x=>
 vK (fldV 0 x) fun y=>
 vK (ldV a y) fun z=>
 vK (binV .i .geq w z) fun aa=>
 iteK aa (
 vK (binV .i .lss a1 f) fun ab=>
 iteK ab (
 R (.bool false) a) (
 FCall prog ze8 #[a0,f] a fun ak ac=>
 d [] ac)) (
 d [] a))
 fun al am ad=>
 FCall prog zem #[a0] ad fun g ae=>
 cpyK 1 g a2 ae fun an j=>
 vK (nilV a0) fun af=>
 vK (fldV 2 af) fun ag=>
 vK (ldV j ag) fun ah=>
 zh1 (.int .i64) ah a1 g j fun ao ai=>
 R (.bool true) ai)
theorem zop (H:ziD a0 a1 a2 h R):FCall prog zgm #[a0,a1,a2] h R:=fk f177 (.s .z (.s (.s .z (.s (.s .z .z) .z)) (.j 8796088828352 [] (.s .z (.s .z (.s (.s (.s .z (.s (.s .z .z) .z)) .z) .z))) (.s .z (.s .z (.s .z (.s .z .z))))))) H
def zgD (a0:Value)(h:Heap)(R:Value→Heap→Prop):Prop:=
 vK (nilV a0) fun a=>
 vK (fldV 1 a) fun b=>
 vK (ldV h b) fun c=>
 R c h
theorem zmo (H:zgD a0 h R):FCall prog zeo #[a0] h R:=fk f178 (.s .z (.s .z .z)) H
def ziC (a0 a1:Value)(h:Heap)(R:Value→Heap→Prop):Prop:=
 vK (nilV a0) fun b=>
 vK (fldV 2 b) fun c=>
 vK (ldV h c) fun d=>
 vK (lookV (.int .i64) (.slice none 0 0) true h d a1) fun a=>
 vK (extV a 0) fun e=>
 vK (extV a 1) fun f=>
 FCall prog zaJ #[e] h fun g i=>
 R (.tuple #[g,f]) i
theorem zoo (H:ziC a0 a1 h R):FCall prog zgl #[a0,a1] h R:=fk f179 (.s .z (.s .z (.s .z .z))) H
def zfV (a0 a1 a2 a3 a4:Value)(h:Heap)(R:Value→Heap→Prop):Prop:=
 FCall prog zcc #[a0,a1,a2,a3] h fun c b=>
 vK (binV .i .lss c (.int .i64 0)) fun a=>
 vK (gV a false (some a4)) fun d=>
 vK (gV a false (cviV .i64 d)) fun e=>
 vK (gV a false (some a0)) fun f=>
 vK (gV a false (nilV f)) fun g=>
 vK (gV a false (fldV 3 g)) fun j=>
 vK (gV a false (ldV b j)) fun k=>
 vK (gV a false (binV .i .gtr e k)) fun l=>
 vK (pickV a (.bool true) l) fun m=>
 iteK m (
 R (.bool false) b) (
 vK (nilV a0) fun n=>
 vK (fldV 4 n) fun o=>
 vK (ldV b o) fun p=>
 vK (idxV 1 p c) fun q=>
 stK 1 q a4 b fun s r=>
 R (.bool true) r)
theorem zk3 (H:zfV a0 a1 a2 a3 a4 h R):FCall prog zbs #[a0,a1,a2,a3,a4] h R:=fk f180 (.s .z (.s .z (.s (.s .z (.s (.s .z .z) .z)) (.s .z (.s .z .z))))) H
def zje (a0 a1:Value)(h:Heap)(R:Value→Heap→Prop):Prop:=
 FCall prog zc8 #[a0,(.int .i64 28)] h fun a b=>
 vK (minV a1 (.int .i64 65535)) fun c=>
 vK (maxV (.int .i64 0) c) fun d=>
 FCall prog zfD #[a,(.int .i64 0),d] b fun e f=>
 vK (cviV .u16 e) fun g=>
 R g f
theorem zpq (H:zje a0 a1 h R):FCall prog zeJ #[a0,a1] h R:=fk f181 (.s .z (.s .z .z)) H
def zgC (a0:Value)(h:Heap)(R:Value→Heap→Prop):Prop:=
 vK (nilV a0) fun a=>
 vK (fldV 0 a) fun b=>
 vK (ldV h b) fun c=>
 vK (nilV a0) fun d=>
 vK (fldV 1 d) fun e=>
 vK (ldV h e) fun f=>
 vK (binV .i .mul c f) fun g=>
 R g h
theorem zmn (H:zgC a0 h R):FCall prog zen #[a0] h R:=fk f182 (.s .z (.s .z .z)) H
def zoV (a0:Value)(h:Heap)(R:Value→Heap→Prop):Prop:=
 vK (binV .i .lss a0 (.int .i64 0)) fun a=>
 vK (gV a false (some a0)) fun b=>
 vK (gV a false (binV .i .geq b (.int .i64 3))) fun c=>
 vK (pickV a (.bool true) c) fun d=>
 iteK d (
 R (.string ⟨#[]⟩) h) (
 vK (idxaV 3 2 (.pointer (some ⟨zbw,0,none⟩)) a0) fun e=>
 vK (fldV 0 e) fun f=>
 vK (ldV h f) fun g=>
 R g h)
theorem ok_raw_Name (H:zoV a0 h R):FCall prog zj6 #[a0] h R:=fk f183 (.s .z (.s (.s .z (.s (.s .z .z) .z)) (.s .z .z))) H
def zi2 (a0 a1 a2:Value)(h:Heap)(R:Value→Heap→Prop):Prop:=
 FCall prog zj6 #[a0] h fun o d=>
 vK (binV .s .eql o (.string ⟨#[]⟩)) fun a=>
 vK (gV a false (some a1)) fun p=>
 gK a false (fun q=>FCall prog zeZ #[p] d q) d fun r e=>
 vK (gV a false (unV .not r)) fun t=>
 vK (pickV a (.bool true) t) fun b=>
 vK (gV b false (some a2)) fun u=>
 gK b false (fun v=>FCall prog zeZ #[u] e v) e fun w f=>
 vK (gV b false (unV .not w)) fun x=>
 vK (pickV b (.bool true) x) fun y=>
 iteK y (
 R (.tuple #[(.pointer none),(.int .i64 6)]) f) (
 vK ((fillL #[(.int .i64 0),(.slice none 0 0),(.int .i64 0),(.int .i64 0)] [(0,1,a1)]).map .agg) fun z=>
 newK (Value.cells z) 154 f fun g aa=>
 loopK [(.int .i64 0)] aa fun c ak j ab=>
 vK (binV .i .lss (ix c 0) a2) fun ac=>
 iteK ac (
 FCall prog zmQ #[a0,a1,a2,(ix c 0)] j fun k ad=>
 vK (extV k 0) fun ae=>
 vK (extV k 1) fun af=>
 FCall prog zcD #[af] ad fun l m=>
 vK (extV l 0) fun ag=>
 vK (extV l 1) fun n=>
 vK (binV .i .neq n (.int .i64 0)) fun ah=>
 iteK ah (
 R (.tuple #[(.pointer none),n]) m) (
 FCall prog zc6 #[g,ae,ag] m fun al ai=>
 vK (binV .i .add (ix c 0) (.int .i64 1)) fun aj=>
 ab [aj] ai)) (
 R (.tuple #[g,(.int .i64 0)]) j))
theorem zpe (H:zi2 a0 a1 a2 h R):FCall prog zdm #[a0,a1,a2] h R:=fk f184 (.s .z (.s (.s .z (.s (.s .z .z) .z)) (.s .z (.s (.s .z (.l 36028794871496384 [31] (.s .z (.s (.s .z .z) (.s (.s .z (.s .z (.s .z (.s (.s .z (.s (.s .z .z) .z)) .z)))) .z))))) (.s .z .z))))) H
def zlW (a0:Value)(h:Heap)(R:Value→Heap→Prop):Prop:=
 newK (Value.cells a0) 31 h fun b a=>
 vK (fldV 0 b) fun n=>
 vK (ldV a n) fun d=>
 vK (binV .i .eql d (.int .i64 0)) fun o=>
 iteK o (
 vK (fldV 2 b) fun p=>
 vK (ldV a p) fun q=>
 FCall prog zdW #[q] a fun e r=>
 vK (extV e 0) fun f=>
 vK (extV e 1) fun s=>
 R (.tuple #[f,f,s]) r) (
 vK (binV .i .eql d (.int .i64 1)) fun t=>
 iteK t (
 vK (fldV 3 b) fun u=>
 vK (ldV a u) fun v=>
 FCall prog zlg #[v] a fun g w=>
 vK (extV g 0) fun j=>
 vK (extV g 1) fun x=>
 R (.tuple #[j,j,x]) w) (
 vK (fldV 4 b) fun y=>
 vK (ldV a y) fun z=>
 FCall prog zgk #[z] a fun k c=>
 vK (extV k 0) fun aa=>
 vK (extV k 1) fun l=>
 vK (binV .i .neq l (.int .i64 0)) fun ab=>
 iteK ab (
 R (.tuple #[(.slice none 0 0),(.slice none 0 0),l]) c) (
 vK (fldV 5 b) fun ac=>
 vK (ldV c ac) fun ad=>
 FCall prog zgk #[ad] c fun m ae=>
 vK (extV m 0) fun af=>
 vK (extV m 1) fun ag=>
 R (.tuple #[aa,af,ag]) ae)))
theorem zsg (H:zlW a0 h R):FCall prog zjI #[a0] h R:=fk f185 (.s .z (.s (.s .z (.s .z (.s (.s .z (.s .z .z)) (.s .z (.s (.s .z (.s .z .z)) .z))))) (.s (.s .z (.s .z (.s (.s .z .z) .z))) (.s .z (.s .z .z))))) H
def zi3 (a0 a1:Value)(h:Heap)(R:Value→Heap→Prop):Prop:=
 FCall prog zeZ #[a1] h fun k a=>
 vK (unV .not k) fun l=>
 iteK l (
 R (.tuple #[(.pointer none),(.int .i64 6)]) a) (
 vK (zaf a0) fun m=>
 vK (binV .i .rem m (.int .i64 2)) fun n=>
 vK (binV .i .eql n (.int .i64 0)) fun o=>
 iteK o (
 R (.tuple #[(.pointer none),(.int .i64 7)]) a) (
 FCall prog zcD #[a0] a fun c d=>
 vK (extV c 0) fun e=>
 vK (extV c 1) fun f=>
 vK (binV .i .neq f (.int .i64 0)) fun p=>
 iteK p (
 R (.tuple #[(.pointer none),f]) d) (
 vK ((fillL #[(.int .i64 0),(.slice none 0 0),(.int .i64 0),(.int .i64 0)] [(0,1,a1)]).map .agg) fun q=>
 newK (Value.cells q) 154 d fun g r=>
 loopK [(.int .i64 0)] r fun b z j s=>
 vK (binV .i .lss (ix b 0) a1) fun t=>
 iteK t (
 vK (zaf e) fun u=>
 vK (binV .i .quo u (.int .i64 2)) fun v=>
 vK (binV .i .sub (ix b 0) v) fun w=>
 FCall prog zc6 #[g,w,e] j fun aa x=>
 vK (binV .i .add (ix b 0) (.int .i64 1)) fun y=>
 s [y] x) (
 R (.tuple #[g,(.int .i64 0)]) j))))
theorem zpf (H:zi3 a0 a1 h R):FCall prog zeE #[a0,a1] h R:=fk f186 (.s .z (.s (.s .z (.s (.s .z .z) (.s .z (.s (.s .z .z) .z)))) (.s .z (.s (.s .z (.s (.s .z .z) .z)) (.s .z (.s (.s .z (.l 8793945539072 [31] (.s .z (.s (.s .z .z) (.s (.s .z .z) .z))))) (.s .z .z))))))) H
def zbi (a0:Value)(h:Heap)(R:Value→Heap→Prop):Prop:=
 vK (binV .sl .eql a0 (.slice none 0 0)) fun a=>
 iteK a (
 R (.slice none 0 0) h) (
 rowK #[] 2 0 [] h fun b c=>
 appK (.int .i64 0) 2 1 8 b a0 c fun d e=>
 R d e)
theorem zcq (H:zbi a0 h R):FCall prog zaJ #[a0] h R:=fk f187 (.s .z (.s (.s .z (.s (.s .z .z) .z)) (.s .z .z))) H
def zkq (a0 a1:Value)(h:Heap)(R:Value→Heap→Prop):Prop:=
 newK (Value.cells a0) 293 h fun b e=>
 newK #[(.int .u64 0),(.int .u64 0)] 293 e fun c a=>
 vK (fldV 0 b) fun f=>
 vK (ldV a f) fun g=>
 vK (binV .i .shl g (.int .u64 1)) fun j=>
 vK (fldV 1 b) fun k=>
 vK (ldV a k) fun l=>
 vK (binV .i .shr l (.int .u64 63)) fun m=>
 vK (binV .i .add j m) fun n=>
 vK (fldV 1 b) fun o=>
 vK (ldV a o) fun p=>
 vK (binV .i .shl p (.int .u64 1)) fun q=>
 vK (binV .i .add q a1) fun r=>
 vK ((fillL #[(.int .u64 0),(.int .u64 0)] [(0,1,n),(1,1,r)]).map .agg) fun s=>
 stK 2 c s a fun u d=>
 vK (ldsV 2 d c) fun t=>
 R t d
theorem zqe (H:zkq a0 a1 h R):FCall prog zbf #[a0,a1] h R:=fk f188 (.s .z (.s .z .z)) H
def zlO (a0:Value)(h:Heap)(R:Value→Heap→Prop):Prop:=
 vK (binV .i .lss a0 (.int .i64 0)) fun a=>
 iteK a (
 vK (binV .i .add a0 (.int .i64 1)) fun b=>
 vK (unV .neg b) fun c=>
 vK (cviV .u64 c) fun d=>
 vK (binV .i .add d (.int .u64 1)) fun e=>
 R e h) (
 vK (cviV .u64 a0) fun f=>
 R f h)
theorem zr8 (H:zlO a0 h R):FCall prog zbG #[a0] h R:=fk f189 (.s .z (.s (.s .z (.s (.s .z .z) .z)) (.s .z .z))) H
def znV (a0 a1:Value)(h:Heap)(R:Value→Heap→Prop):Prop:=
 newK (Value.cells a0) 293 h fun b a=>
 vK (binV .i .geq a1 (.int .i64 64)) fun c=>
 iteK c (
 vK (fldV 0 b) fun d=>
 vK (ldV a d) fun e=>
 vK (binV .i .sub a1 (.int .i64 64)) fun f=>
 vK (binV .i .shr e f) fun g=>
 vK (binV .i .and g (.int .u64 1)) fun j=>
 R j a) (
 vK (fldV 1 b) fun k=>
 vK (ldV a k) fun l=>
 vK (binV .i .shr l a1) fun m=>
 vK (binV .i .and m (.int .u64 1)) fun n=>
 R n a)
theorem ok_ref01_Bit (H:znV a0 a1 h R):FCall prog zcy #[a0,a1] h R:=fk f190 (.s .z (.s (.s .z (.s (.s .z .z) .z)) (.s .z .z))) H
def zkt (a0 a1:Value)(h:Heap)(R:Value→Heap→Prop):Prop:=
 newK (Value.cells a0) 293 h fun e l=>
 newK (Value.cells a1) 293 l fun f m=>
 newK #[(.int .u64 0),(.int .u64 0)] 293 m fun d b=>
 vK (fldV 0 e) fun n=>
 vK (ldV b n) fun o=>
 vK (fldV 0 f) fun p=>
 vK (ldV b p) fun q=>
 vK (binV .i .sub o q) fun r=>
 vK (fldV 1 e) fun s=>
 vK (ldV b s) fun t=>
 vK (fldV 1 f) fun u=>
 vK (ldV b u) fun v=>
 vK (binV .i .sub t v) fun w=>
 vK ((fillL #[(.int .u64 0),(.int .u64 0)] [(0,1,r),(1,1,w)]).map .agg) fun x=>
 newK #[(.int .u64 0),(.int .u64 0)] 293 b fun c y=>
 stK 2 c x y fun am a=>
 vK (fldV 1 e) fun z=>
 vK (ldV a z) fun aa=>
 vK (fldV 1 f) fun ab=>
 vK (ldV a ab) fun ac=>
 vK (binV .i .lss aa ac) fun ad=>
 iteK ad (
 vK (fldV 0 c) fun ae=>
 vK (ldV a ae) fun af=>
 vK (binV .i .sub af (.int .u64 1)) fun ag=>
 vK (fldV 0 c) fun ah=>
 stK 1 ah ag a fun an g=>
 vK (ldsV 2 g c) fun ai=>
 stK 2 d ai g fun ao j=>
 vK (ldsV 2 j d) fun aj=>
 R aj j) (
 vK (ldsV 2 a c) fun ak=>
 stK 2 d ak a fun ap k=>
 vK (ldsV 2 k d) fun al=>
 R al k)
theorem zqh (H:zkt a0 a1 h R):FCall prog zfz #[a0,a1] h R:=fk f191 (.s .z (.s .z (.s (.s .z (.s .z .z)) (.s .z .z)))) H
def zlR (a0 a1:Value)(h:Heap)(R:Value→Heap→Prop):Prop:=
 newK (Value.cells a0) 293 h fun b d=>
 newK (Value.cells a1) 293 d fun c a=>
 vK (fldV 0 b) fun e=>
 vK (ldV a e) fun f=>
 vK (fldV 0 c) fun g=>
 vK (ldV a g) fun j=>
 vK (binV .i .neq f j) fun k=>
 iteK k (
 vK (fldV 0 b) fun l=>
 vK (ldV a l) fun m=>
 vK (fldV 0 c) fun n=>
 vK (ldV a n) fun o=>
 vK (binV .i .lss m o) fun p=>
 R p a) (
 vK (fldV 1 b) fun q=>
 vK (ldV a q) fun r=>
 vK (fldV 1 c) fun s=>
 vK (ldV a s) fun t=>
 vK (binV .i .lss r t) fun u=>
 R u a)
theorem zsb (H:zlR a0 a1 h R):FCall prog zcZ #[a0,a1] h R:=fk f192 (.s .z (.s (.s .z (.s (.s .z .z) .z)) (.s .z .z))) H
def zlP (a0 a1:Value)(h:Heap)(R:Value→Heap→Prop):Prop:=
 newK (Value.cells a0) 293 h fun e l=>
 newK (Value.cells a1) 293 l fun f m=>
 newK #[(.int .u64 0),(.int .u64 0)] 293 m fun d c=>
 vK (fldV 0 e) fun n=>
 vK (ldV c n) fun o=>
 vK (fldV 0 f) fun p=>
 vK (ldV c p) fun q=>
 vK (binV .i .add o q) fun r=>
 vK (fldV 1 e) fun s=>
 vK (ldV c s) fun t=>
 vK (fldV 1 f) fun u=>
 vK (ldV c u) fun v=>
 vK (binV .i .add t v) fun w=>
 vK ((fillL #[(.int .u64 0),(.int .u64 0)] [(0,1,r),(1,1,w)]).map .agg) fun x=>
 newK #[(.int .u64 0),(.int .u64 0)] 293 c fun a y=>
 stK 2 a x y fun am b=>
 vK (fldV 1 a) fun z=>
 vK (ldV b z) fun aa=>
 vK (fldV 1 e) fun ab=>
 vK (ldV b ab) fun ac=>
 vK (binV .i .lss aa ac) fun ad=>
 iteK ad (
 vK (fldV 0 a) fun ae=>
 vK (ldV b ae) fun af=>
 vK (binV .i .add af (.int .u64 1)) fun ag=>
 vK (fldV 0 a) fun ah=>
 stK 1 ah ag b fun an g=>
 vK (ldsV 2 g a) fun ai=>
 stK 2 d ai g fun ao j=>
 vK (ldsV 2 j d) fun aj=>
 R aj j) (
 vK (ldsV 2 b a) fun ak=>
 stK 2 d ak b fun ap k=>
 vK (ldsV 2 k d) fun al=>
 R al k)
theorem zr9 (H:zlP a0 a1 h R):FCall prog zcs #[a0,a1] h R:=fk f193 (.s .z (.s .z (.s (.s .z (.s .z .z)) (.s .z .z)))) H
def zlS (a0 a1:Value)(h:Heap)(R:Value→Heap→Prop):Prop:=
 newK (Value.cells a0) 293 h fun b a=>
 iteK a1 (
 vK (fldV 0 b) fun e=>
 vK (ldV a e) fun f=>
 vK (binV .i .gtr f (.int .u64 0)) fun c=>
 vK (gV c false (fldV 1 b)) fun g=>
 vK (gV c false (ldV a g)) fun j=>
 vK (gV c false (binV .i .gtr j (.int .u64 9223372036854775807))) fun k=>
 vK (pickV c (.bool true) k) fun l=>
 iteK l (
 R (.int .i64 (-9223372036854775808)) a) (
 vK (fldV 1 b) fun m=>
 vK (ldV a m) fun n=>
 vK (cviV .i64 n) fun o=>
 vK (unV .neg o) fun p=>
 R p a)) (
 vK (fldV 0 b) fun q=>
 vK (ldV a q) fun r=>
 vK (binV .i .gtr r (.int .u64 0)) fun d=>
 vK (gV d false (fldV 1 b)) fun s=>
 vK (gV d false (ldV a s)) fun t=>
 vK (gV d false (binV .i .gtr t (.int .u64 9223372036854775807))) fun u=>
 vK (pickV d (.bool true) u) fun v=>
 iteK v (
 R (.int .i64 9223372036854775807) a) (
 vK (fldV 1 b) fun w=>
 vK (ldV a w) fun x=>
 vK (cviV .i64 x) fun y=>
 R y a))
theorem zsc (H:zlS a0 a1 h R):FCall prog za3 #[a0,a1] h R:=fk f194 (.s .z (.s (.s .z (.s (.s (.s .z (.s (.s .z .z) .z)) (.s .z .z)) .z)) (.s (.s .z (.s (.s .z .z) .z)) (.s .z .z)))) H
def zlX (a0:Value)(h:Heap)(R:Value→Heap→Prop):Prop:=
 newK (Value.cells a0) 211 h fun c a=>
 vK (fldV 0 c) fun f=>
 vK (ldV a f) fun g=>
 vK (binV .i .geq g (.int .i64 0)) fun d=>
 vK (gV d true (fldV 2 c)) fun j=>
 vK (gV d true (ldV a j)) fun k=>
 vK (gV d true (binV .i .geq k (.int .i64 0))) fun l=>
 vK (pickV d l (.bool false)) fun e=>
 vK (gV e true (fldV 3 c)) fun m=>
 vK (gV e true (ldV a m)) fun n=>
 vK (gV e true (binV .i .geq n (.int .i64 0))) fun o=>
 vK (pickV e o (.bool false)) fun b=>
 vK (gV b true (fldV 3 c)) fun p=>
 vK (gV b true (ldV a p)) fun q=>
 vK (gV b true (fldV 4 c)) fun r=>
 vK (gV b true (ldV a r)) fun s=>
 vK (gV b true (binV .i .lss q s)) fun t=>
 vK (pickV b t (.bool false)) fun u=>
 R u a
theorem zsh (H:zlX a0 h R):FCall prog zjJ #[a0] h R:=fk f196 (.s .z (.s .z .z)) H
def zhF (a0 a1:Value)(h:Heap)(R:Value→Heap→Prop):Prop:=
 vK (binV .i .geq a1 (.int .i64 0)) fun a=>
 vK (gV a true (some a1)) fun b=>
 vK (gV a true (some a0)) fun c=>
 vK (gV a true (nilV c)) fun d=>
 vK (gV a true (fldV 0 d)) fun e=>
 vK (gV a true (ldV h e)) fun f=>
 vK (gV a true (zaf f)) fun g=>
 vK (gV a true (binV .i .lss b g)) fun j=>
 vK (pickV a j (.bool false)) fun k=>
 R k h
theorem zni (H:zhF a0 a1 h R):FCall prog zcE #[a0,a1] h R:=fk f197 (.s .z (.s .z .z)) H
def zci (a0:Value)(h:Heap)(R:Value→Heap→Prop):Prop:=
 vK (binV .sl .eql a0 (.slice none 0 0)) fun a=>
 iteK a (
 R (.slice none 0 0) h) (
 rowK #[] 3 0 [] h fun b c=>
 appK (.int .i64 0) 3 1 8 b a0 c fun d e=>
 R d e)
theorem zef (H:zci a0 h R):FCall prog zaT #[a0] h R:=fk f198 (.s .z (.s (.s .z (.s (.s .z .z) .z)) (.s .z .z))) H
def zcB (a0:Value)(h:Heap)(R:Value→Heap→Prop):Prop:=
 joinK (fun c=>
 vK (zaf a0) fun e=>
 vK (binV .i .lss e (.int .i64 1)) fun f=>
 iteK f (
 failK h fun s g=>
 c [] g) (
 c [] h))
 fun t u d=>
 vK (idxV 1 a0 (.int .i64 0)) fun j=>
 vK (ldV d j) fun k=>
 loopK [k,(.int .i64 1)] d fun a v b l=>
 vK (zaf a0) fun m=>
 vK (binV .i .lss (ix a 1) m) fun n=>
 iteK n (
 vK (idxV 1 a0 (ix a 1)) fun o=>
 vK (ldV b o) fun p=>
 vK (minV (ix a 0) p) fun q=>
 vK (binV .i .add (ix a 1) (.int .i64 1)) fun r=>
 l [q,r] b) (
 R (ix a 0) b)
theorem ze7 (H:zcB a0 h R):FCall prog zbF #[a0] h R:=fk f199 (.s .z (.j 480 [] (.s .z (.s .z .z)) (.s .z (.s (.s .z (.l 16773144 [3,4] (.s (.s .z (.s .z .z)) (.s .z .z)))) (.s .z .z))))) H
def zl6 (a0 a1:Value)(h:Heap)(R:Value→Heap→Prop):Prop:=
 vK (zaf a0) fun k=>
 vK (zaf a1) fun l=>
 vK (maxV k l) fun f=>
 mkK (.int .i64 0) 3 1 8 f f h fun b m=>
 cpyK 1 b a0 m fun an n=>
 vK (zaf a1) fun o=>
 loopK [(.int .i64 0)] n fun a ao c g=>
 vK (binV .i .lss (ix a 0) o) fun p=>
 iteK p (
 vK (idxV 1 a1 (ix a 0)) fun q=>
 vK (ldV c q) fun j=>
 vK (zaf a0) fun r=>
 vK (binV .i .geq (ix a 0) r) fun s=>
 iteK s (
 vK (maxV (.int .i64 0) j) fun t=>
 vK (idxV 1 b (ix a 0)) fun u=>
 stK 1 u t c fun ap v=>
 vK (binV .i .add (ix a 0) (.int .i64 1)) fun w=>
 g [w] v) (
 vK (idxV 1 b (ix a 0)) fun x=>
 vK (ldV c x) fun y=>
 vK (maxV y j) fun z=>
 vK (idxV 1 b (ix a 0)) fun aa=>
 stK 1 aa z c fun aq ab=>
 vK (binV .i .add (ix a 0) (.int .i64 1)) fun ac=>
 g [ac] ab)) (
 vK (zaf a1) fun ad=>
 loopK [ad] c fun d ar e ae=>
 vK (zaf a0) fun af=>
 vK (binV .i .lss (ix d 0) af) fun ag=>
 iteK ag (
 vK (idxV 1 b (ix d 0)) fun ah=>
 vK (ldV e ah) fun ai=>
 vK (maxV (.int .i64 0) ai) fun aj=>
 vK (idxV 1 b (ix d 0)) fun ak=>
 stK 1 ak aj e fun au al=>
 vK (binV .i .add (ix d 0) (.int .i64 1)) fun am=>
 ae [am] al) (
 R b e))
theorem zsp (H:zl6 a0 a1 h R):FCall prog zjP #[a0,a1] h R:=fk f200 (.s .z (.s .z (.s .z (.s (.s .z (.l 17592184996032 [20] (.s .z (.s (.s .z .z) (.s (.s .z (.s .z (.s .z .z))) .z))))) (.s (.s .z (.l 1152851135862669568 [8] (.s (.s .z (.s .z .z)) (.s .z .z)))) (.s .z .z)))))) H
end
section
variable {a0 a1 a2 a3 a4 a5 a6:Value}{h:Heap}{R:Value→Heap→Prop}
def zkL (a0 a1:Value)(h:Heap)(R:Value→Heap→Prop):Prop:=
 vK (zaf a0) fun c=>
 vK (zaf a1) fun d=>
 vK (binV .i .neq c d) fun e=>
 iteK e (
 R (.bool false) h) (
 vK (zaf a0) fun f=>
 loopK [(.int .i64 0)] h fun b q a g=>
 vK (binV .i .lss (ix b 0) f) fun j=>
 iteK j (
 vK (idxV 1 a0 (ix b 0)) fun k=>
 vK (ldV a k) fun l=>
 vK (idxV 1 a1 (ix b 0)) fun m=>
 vK (ldV a m) fun n=>
 vK (binV .i .gtr l n) fun o=>
 iteK o (
 R (.bool false) a) (
 vK (binV .i .add (ix b 0) (.int .i64 1)) fun p=>
 g [p] a)) (
 R (.bool true) a))
theorem zqz (H:zkL a0 a1 h R):FCall prog ziv #[a0,a1] h R:=fk f203 (.s .z (.s (.s .z (.s (.s .z .z) .z)) (.s (.s .z (.l 67100720 [13] (.s .z (.s (.s .z .z) (.s (.s .z (.s .z (.s (.s .z .z) .z))) .z))))) (.s .z .z)))) H
def zkM (a0 a1:Value)(h:Heap)(R:Value→Heap→Prop):Prop:=
 FCall prog zbk #[a0,a1] h fun a b=>
 R a b
theorem zqA (H:zkM a0 a1 h R):FCall prog ziw #[a0,a1] h R:=fk f204 (.s .z (.s .z .z)) H
def zkF (h:Heap)(R:Value→Heap→Prop):Prop:=
 FCall prog zit #[] h fun s l=>
 vK (unV .not s) fun e=>
 gK e false (fun t=>FCall prog zis #[] l t) l fun u m=>
 vK (gV e false (unV .not u)) fun v=>
 vK (pickV e (.bool true) v) fun w=>
 iteK w (
 R (.bool false) m) (
 FCall prog zdm #[(.int .i64 0),(.int .i64 4),(.int .i64 2)] m fun n o=>
 vK (extV n 0) fun b=>
 vK (extV n 1) fun x=>
 vK (binV .i .neq x (.int .i64 0)) fun f=>
 vK (gV f false (some b)) fun y=>
 vK (gV f false (binV .p .eql y (.pointer none))) fun z=>
 vK (pickV f (.bool true) z) fun aa=>
 iteK aa (
 R (.bool false) o) (
 FCall prog zai #[b,(.int .i64 1)] o fun ab ac=>
 newK #[(.int .i64 0),(.slice none 0 0)] 235 ac fun g ad=>
 stK 2 g ab ad fun a1 ae=>
 FCall prog zbR #[b,(.int .i64 0),(.int .i64 2)] ae fun q af=>
 vK (extV q 0) fun ag=>
 vK (extV q 1) fun ah=>
 FCall prog zai #[b,(.int .i64 0)] af fun ai c=>
 vK (partV false 1 0 ai) fun aj=>
 vK (binV .i .eql aj (.int .i64 0)) fun d=>
 vK (gV d true (fldV 0 g)) fun ak=>
 vK (gV d true (ldV c ak)) fun al=>
 vK (gV d true (binV .i .eql al (.int .i64 2))) fun am=>
 vK (pickV d am (.bool false)) fun a=>
 vK (gV a true (fldV 1 g)) fun an=>
 vK (gV a true (ldV c an)) fun ao=>
 gK a true (fun ap=>rowK #[(.int .i64 0),(.int .i64 0)] 2 2 [(0,1,(.int .i64 8192)),(1,1,(.int .i64 8192))] c ap) c fun aq r=>
 gK a true (fun ar=>FCall prog zg4 #[ao,aq] r ar) r fun au av=>
 vK (pickV a au (.bool false)) fun j=>
 vK (gV j true (some ag)) fun aw=>
 vK (gV j true (binV .i .eql aw (.int .i64 0))) fun ax=>
 vK (pickV j ax (.bool false)) fun k=>
 vK (gV k true (some ah)) fun ay=>
 vK (gV k true (binV .i .eql ay (.int .i64 4))) fun az=>
 vK (pickV k az (.bool false)) fun a0=>
 R a0 av))
theorem zqt (H:zkF h R):FCall prog zir #[] h R:=fk f208 (.s .z (.s (.s .z (.s (.s .z .z) .z)) (.s .z (.s (.s .z (.s (.s .z .z) .z)) (.s .z (.s .z (.s .z .z))))))) H
def zl5 (a0 a1 a2 a3 a4:Value)(h:Heap)(R:Value→Heap→Prop):Prop:=
 newK (Value.cells a1) 46 h fun m ab=>
 vK (ldsV 3 ab m) fun cm=>
 FCall prog zbg #[a0,cm] ab fun cn ac=>
 vK (unV .not cn) fun t=>
 vK (gV t false (some a4)) fun co=>
 vK (gV t false (binV .i .lss co (.int .i64 0))) fun cp=>
 vK (pickV t (.bool true) cp) fun n=>
 vK (gV n false (some a4)) fun cq=>
 vK (gV n false (some a0)) fun cr=>
 gK n false (fun cs=>FCall prog zak #[cr] ac cs) ac fun ct c=>
 vK (gV n false (binV .i .geq cq ct)) fun cu=>
 vK (pickV n (.bool true) cu) fun cv=>
 iteK cv (
 R (.int .i64 0) c) (
 joinK (fun a=>
 drawK c fun S=>
 vK (fldV 0 m) fun cw=>
 qK S (fun c=>ldV c cw) fun o=>
 vK (fldV 1 m) fun cx=>
 qK S (fun c=>ldV c cx) fun b=>
 (FCall prog zai #[o,a2] c fun f p=>
 S p∧((FCall prog zai #[b,a3] p fun ad u=>
 S u∧((newK #[(.int .i64 0),(.slice none 0 0)] 235 u fun ae af=>
 S af∧(newK #[(.int .i64 0),(.slice none 0 0)] 235 af fun ag ah=>
 S ah∧(stK 2 ae f ah fun ea ai=>
 S ai∧(stK 2 ag ad ai fun eb aj=>
 S aj∧(a [ae,ag] aj)))))∧(newK #[(.int .i64 0),(.slice none 0 0)] 235 u fun ak al=>
 S al∧(newK #[(.int .i64 0),(.slice none 0 0)] 235 al fun am an=>
 S an∧(stK 2 am f an fun ec ao=>
 S ao∧(stK 2 ak ad ao fun ed ap=>
 S ap∧(a [am,ak] ap)))))))∧((newK #[(.int .i64 0),(.slice none 0 0)] 235 p fun q v=>
 S v∧((FCall prog zai #[b,a3] v fun cy aq=>
 S aq∧(newK #[(.int .i64 0),(.slice none 0 0)] 235 aq fun ar au=>
 S au∧(stK 2 q f au fun ee av=>
 S av∧(stK 2 ar cy av fun ef aw=>
 S aw∧(a [q,ar] aw)))))∧(newK #[(.int .i64 0),(.slice none 0 0)] 235 v fun ax ay=>
 S ay∧(FCall prog zai #[b,a3] ay fun cz az=>
 S az∧(stK 2 q f az fun eg a5=>
 S a5∧(stK 2 ax cz a5 fun eh a6=>
 S a6∧(a [q,ax] a6)))))))∧(newK #[(.int .i64 0),(.slice none 0 0)] 235 p fun r w=>
 S w∧((FCall prog zai #[b,a3] w fun c0 a7=>
 S a7∧(newK #[(.int .i64 0),(.slice none 0 0)] 235 a7 fun a8 a9=>
 S a9∧(stK 2 a8 f a9 fun ei ba=>
 S ba∧(stK 2 r c0 ba fun ej bb=>
 S bb∧(a [a8,r] bb)))))∧(newK #[(.int .i64 0),(.slice none 0 0)] 235 w fun bc bd=>
 S bd∧(FCall prog zai #[b,a3] bd fun c1 be=>
 S be∧(stK 2 bc f be fun ek bf=>
 S bf∧(stK 2 r c1 bf fun el bg=>
 S bg∧(a [bc,r] bg))))))))))∧((newK #[(.int .i64 0),(.slice none 0 0)] 235 c fun g x=>
 S x∧((FCall prog zai #[o,a2] x fun bh y=>
 S y∧((FCall prog zai #[b,a3] y fun c2 bi=>
 S bi∧(newK #[(.int .i64 0),(.slice none 0 0)] 235 bi fun bj bk=>
 S bk∧(stK 2 g bh bk fun em bl=>
 S bl∧(stK 2 bj c2 bl fun en bm=>
 S bm∧(a [g,bj] bm)))))∧(newK #[(.int .i64 0),(.slice none 0 0)] 235 y fun bn bo=>
 S bo∧(FCall prog zai #[b,a3] bo fun c3 bp=>
 S bp∧(stK 2 g bh bp fun eo bq=>
 S bq∧(stK 2 bn c3 bq fun ep br=>
 S br∧(a [g,bn] br)))))))∧(newK #[(.int .i64 0),(.slice none 0 0)] 235 x fun bs bt=>
 S bt∧(FCall prog zai #[o,a2] bt fun c4 bu=>
 S bu∧(FCall prog zai #[b,a3] bu fun c5 bv=>
 S bv∧(stK 2 g c4 bv fun eq bw=>
 S bw∧(stK 2 bs c5 bw fun er bx=>
 S bx∧(a [g,bs] bx))))))))∧(newK #[(.int .i64 0),(.slice none 0 0)] 235 c fun j z=>
 S z∧((FCall prog zai #[o,a2] z fun bz aa=>
 S aa∧((FCall prog zai #[b,a3] aa fun c6 b0=>
 S b0∧(newK #[(.int .i64 0),(.slice none 0 0)] 235 b0 fun b1 b2=>
 S b2∧(stK 2 b1 bz b2 fun es b3=>
 S b3∧(stK 2 j c6 b3 fun et b4=>
 S b4∧(a [b1,j] b4)))))∧(newK #[(.int .i64 0),(.slice none 0 0)] 235 aa fun b5 b6=>
 S b6∧(FCall prog zai #[b,a3] b6 fun c7 b7=>
 S b7∧(stK 2 b5 bz b7 fun eu b8=>
 S b8∧(stK 2 j c7 b8 fun ev b9=>
 S b9∧(a [b5,j] b9)))))))∧(newK #[(.int .i64 0),(.slice none 0 0)] 235 z fun ca cb=>
 S cb∧(FCall prog zai #[o,a2] cb fun c8 cc=>
 S cc∧(FCall prog zai #[b,a3] cc fun c9 cd=>
 S cd∧(stK 2 ca c8 cd fun ew ce=>
 S ce∧(stK 2 j c9 ce fun ex cf=>
 S cf∧(a [ca,j] cf))))))))))
 fun s ey cg=>
 vK (fldV 1 (ix s 1)) fun da=>
 vK (ldV cg da) fun ch=>
 vK (zaf ch) fun db=>
 loopK [(.int .i64 0),(.int .i64 0)] cg fun k ez d dc=>
 vK (binV .i .lss (ix k 1) db) fun dd=>
 iteK dd (
 vK (idxV 1 ch (ix k 1)) fun de=>
 vK (ldV d de) fun df=>
 drawK d fun S=>
 vK (fldV 2 m) fun dg=>
 qK S (fun d=>ldV d dg) fun dh=>
 vK (fldV 0 (ix s 1)) fun di=>
 qK S (fun d=>ldV d di) fun dj=>
 vK (binV .i .add dj (ix k 1)) fun dk=>
 FCall prog zaw #[a0] d fun dl ci=>
 S ci∧(FCall prog zdA #[dh,dk,dl] ci fun dm cj=>
 vK (fldV 1 (ix s 0)) fun dn=>
 vK (ldV cj dn) fun ck=>
 vK (zaf ck) fun dp=>
 loopK [(ix k 0),(.int .i64 0)] cj fun l e0 e dq=>
 vK (binV .i .lss (ix l 1) dp) fun dr=>
 iteK dr (
 vK (idxV 1 ck (ix l 1)) fun ds=>
 vK (ldV e ds) fun dt=>
 drawK e fun S=>
 vK (fldV 2 m) fun du=>
 qK S (fun e=>ldV e du) fun dv=>
 vK (fldV 0 (ix s 0)) fun dw=>
 qK S (fun e=>ldV e dw) fun dx=>
 vK (binV .i .add dx (ix l 1)) fun dy=>
 FCall prog zau #[a0] e fun dz cl=>
 S cl∧(FCall prog zdA #[dv,dy,dz] cl fun d0 d1=>
 vK (binV .i .mul dt df) fun d2=>
 FCall prog zbJ #[a0,d0,dm,a4] d1 fun d3 d4=>
 vK (cviV .i64 d3) fun d5=>
 vK (binV .i .mul d2 d5) fun d6=>
 vK (binV .i .add (ix l 0) d6) fun d7=>
 vK (binV .i .add (ix l 1) (.int .i64 1)) fun d8=>
 dq [d7,d8] d4)) (
 vK (binV .i .add (ix k 1) (.int .i64 1)) fun d9=>
 dc [(ix l 0),d9] e))) (
 R (ix k 0) d))
theorem zso (H:zl5 a0 a1 a2 a3 a4 h R):FCall prog zjO #[a0,a1,a2,a3,a4] h R:=fk f209 (.s .z (.s (.s .z (.s (.s .z .z) .z)) (.j 4380866648064 [11,12] (.d (.op 0 .r (.op 1 .r (.op 2 .r (.op 4 .r (.op 5 .r (.op 6 .r (.alt (.op 3 .e (.alt (.op 7 .e (.alt (.op 8 .e (.op 9 .e (.op 10 .e (.op 11 .e .nil)))) (.op 9 .e (.op 8 .e (.op 10 .e (.op 11 .e .nil)))))) (.alt (.op 8 .e (.alt (.op 7 .e (.op 9 .e (.op 10 .e (.op 11 .e .nil)))) (.op 9 .e (.op 7 .e (.op 10 .e (.op 11 .e .nil)))))) (.op 9 .e (.alt (.op 7 .e (.op 8 .e (.op 10 .e (.op 11 .e .nil)))) (.op 8 .e (.op 7 .e (.op 10 .e (.op 11 .e .nil))))))))) (.alt (.op 8 .e (.alt (.op 3 .e (.alt (.op 7 .e (.op 9 .e (.op 10 .e (.op 11 .e .nil)))) (.op 9 .e (.op 7 .e (.op 10 .e (.op 11 .e .nil)))))) (.op 9 .e (.op 3 .e (.op 7 .e (.op 10 .e (.op 11 .e .nil))))))) (.op 9 .e (.alt (.op 3 .e (.alt (.op 7 .e (.op 8 .e (.op 10 .e (.op 11 .e .nil)))) (.op 8 .e (.op 7 .e (.op 10 .e (.op 11 .e .nil)))))) (.op 8 .e (.op 3 .e (.op 7 .e (.op 10 .e (.op 11 .e .nil)))))))))))))))) (.s .z (.s (.s .z (.l 1237940039285345090528075776 [13,45] (.s .z (.s (.s .z .z) (.s (.s .z (.s (.d (.op 0 .r (.op 1 .r (.op 2 .r (.op 3 .r (.op 4 .r (.op 5 .r (.op 6 .r (.op 7 .e (.op 8 .n (.op 9 .r .nil))))))))))) (.s .z (.l 618970015031004119023099904 [13,62] (.s .z (.s (.s .z .z) (.s (.s .z (.s (.d (.op 0 .r (.op 1 .r (.op 2 .r (.op 3 .r (.op 4 .r (.op 5 .r (.op 6 .r (.op 7 .e (.op 8 .n (.op 9 .r .nil))))))))))) .z)) .z))))))) .z))))) (.s .z .z)))))) H
def zlH (a0:Value)(h:Heap)(R:Value→Heap→Prop):Prop:=
 vK (binV .i .geq a0 (.int .i64 1)) fun a=>
 vK (gV a true (some a0)) fun b=>
 vK (gV a true (binV .i .leq b (.int .i64 65536))) fun c=>
 vK (pickV a c (.bool false)) fun d=>
 R d h
theorem zr1 (H:zlH a0 h R):FCall prog ze0 #[a0] h R:=fk f210 (.s .z (.s .z .z)) H
def znR (a0 a1 a2 a3:Value)(h:Heap)(R:Value→Heap→Prop):Prop:=
 FCall prog zlj #[a0,a1,a2,a3] h fun j d=>
 vK (unV .not j) fun k=>
 iteK k (
 R (.tuple #[(.int .i64 0),(.slice none 0 0)]) d) (
 vK (binV .i .mul a3 a1) fun l=>
 vK (binV .i .quo l a2) fun m=>
 loopK [m] d fun c ah n o=>
 vK (binV .i .sub (ix c 0) (.int .i64 1)) fun p=>
 FCall prog zfM #[a0,a1,a2,a3,p] n fun q e=>
 iteK q (
 vK (binV .i .sub (ix c 0) (.int .i64 1)) fun r=>
 o [r] e) (
 loopK [(ix c 0)] e fun b ai s t=>
 FCall prog zfM #[a0,a1,a2,a3,(ix b 0)] s fun u f=>
 vK (unV .not u) fun v=>
 iteK v (
 vK (binV .i .add (ix b 0) (.int .i64 1)) fun w=>
 t [w] f) (
 loopK [(ix b 0),(.slice none 0 0)] f fun a aj x y=>
 FCall prog zfM #[a0,a1,a2,a3,(ix a 0)] x fun z g=>
 iteK z (
 FCall prog zhf #[a0,a1,a2,a3,(ix a 0)] g fun aa ab=>
 rowK #[(.int .i64 0)] 2 1 [(0,1,aa)] ab fun ac ad=>
 appK (.int .i64 0) 2 1 8 (ix a 1) ac ad fun ae af=>
 vK (binV .i .add (ix a 0) (.int .i64 1)) fun ag=>
 y [ag,ae] af) (
 R (.tuple #[(ix b 0),(ix a 1)]) g))))
theorem ok_ref05_Row (H:znR a0 a1 a2 a3 h R):FCall prog zif #[a0,a1,a2,a3] h R:=fk f211 (.s .z (.s (.s .z (.s (.s .z .z) .z)) (.s .z (.s (.l 8573158400 [10] (.s (.s .z (.s .z .z)) .z)) (.s (.l 4389456577536 [10] (.s (.s .z (.s .z .z)) .z)) (.s .z (.s .z (.s (.l 1152912708513829888 [10,12] (.s (.s .z (.s .z .z)) (.s .z .z))) (.s .z .z))))))))) H
def zgF (a0:Value)(h:Heap)(R:Value→Heap→Prop):Prop:=
 vK (zaf a0) fun r=>
 vK (binV .i .lss r (.int .i64 1)) fun d=>
 vK (gV d false (some a0)) fun s=>
 vK (gV d false (zaf s)) fun t=>
 vK (gV d false (binV .i .gtr t (.int .i64 1048576))) fun u=>
 vK (pickV d (.bool true) u) fun v=>
 iteK v (
 R (.tuple #[(.slice none 0 0),(.int .i64 7)]) h) (
 vK (zaf a0) fun w=>
 loopK [(.int .i64 0)] h fun e bk f x=>
 vK (binV .i .lss (ix e 0) w) fun y=>
 iteK y (
 vK (idxV 1 a0 (ix e 0)) fun z=>
 vK (ldV f z) fun aa=>
 FCall prog zg3 #[aa] f fun ab l=>
 vK (binV .i .gtr ab (.int .i64 1099511627776)) fun ac=>
 iteK ac (
 R (.tuple #[(.slice none 0 0),(.int .i64 7)]) l) (
 vK (binV .i .add (ix e 0) (.int .i64 1)) fun ad=>
 x [ad] l)) (
 FCall prog zli #[a0] f fun g m=>
 vK (binV .i .lss g (.int .i64 268435456)) fun ae=>
 iteK ae (
 R (.tuple #[(.slice none 0 0),(.int .i64 8)]) m) (
 vK (zaf a0) fun af=>
 loopK [(.slice none 0 0),(.slice none 0 0),(.int .i64 16384),(.int .i64 0)] m fun a bl j ag=>
 vK (binV .i .lss (ix a 3) af) fun ah=>
 iteK ah (
 vK (idxV 1 a0 (ix a 3)) fun ai=>
 vK (ldV j ai) fun n=>
 vK (binV .i .mul n (.int .i64 16384)) fun aj=>
 FCall prog zfA #[aj,g] j fun k ak=>
 rowK #[(.int .i64 0)] 2 1 [(0,1,k)] ak fun al am=>
 appK (.int .i64 0) 2 1 8 (ix a 0) al am fun an ao=>
 vK (binV .i .mul n (.int .i64 16384)) fun ap=>
 vK (binV .i .mul k g) fun aq=>
 vK (binV .i .sub ap aq) fun ar=>
 rowK #[(.int .i64 0)] 2 1 [(0,1,ar)] ao fun au av=>
 appK (.int .i64 0) 2 1 8 (ix a 1) au av fun aw ax=>
 vK (binV .i .sub (ix a 2) k) fun ay=>
 vK (binV .i .add (ix a 3) (.int .i64 1)) fun az=>
 ag [an,aw,ay,az] ax) (
 loopK [(ix a 2)] j fun o bm p a1=>
 vK (binV .i .gtr (ix o 0) (.int .i64 0)) fun a2=>
 iteK a2 (
 vK (zaf (ix a 1)) fun a3=>
 loopK [(.int .i64 0),(.int .i64 0)] p fun b bn c q=>
 vK (binV .i .lss (ix b 1) a3) fun a4=>
 iteK a4 (
 vK (idxV 1 (ix a 1) (ix b 1)) fun a5=>
 vK (ldV c a5) fun a6=>
 vK (idxV 1 (ix a 1) (ix b 0)) fun a7=>
 vK (ldV c a7) fun a8=>
 vK (binV .i .gtr a6 a8) fun a9=>
 iteK a9 (
 vK (binV .i .add (ix b 1) (.int .i64 1)) fun ba=>
 q [(ix b 1),ba] c) (
 vK (binV .i .add (ix b 1) (.int .i64 1)) fun bb=>
 q [(ix b 0),bb] c)) (
 vK (idxV 1 (ix a 0) (ix b 0)) fun bc=>
 vK (ldV c bc) fun bd=>
 vK (binV .i .add bd (.int .i64 1)) fun be=>
 vK (idxV 1 (ix a 0) (ix b 0)) fun bf=>
 stK 1 bf be c fun bo bg=>
 vK (idxV 1 (ix a 1) (ix b 0)) fun bh=>
 stK 1 bh (.int .i64 (-1)) bg fun bp bi=>
 vK (binV .i .sub (ix o 0) (.int .i64 1)) fun bj=>
 a1 [bj] bi)) (
 R (.tuple #[(ix a 0),(.int .i64 0)]) p)))))
theorem zmq (H:zgF a0 h R):FCall prog zcl #[a0] h R:=fk f212 (.s .z (.s (.s .z (.s (.s .z .z) .z)) (.s (.s .z (.l 8556380204 [25] (.s .z (.s (.s .z .z) (.s (.s .z (.s .z (.s (.s .z .z) .z))) .z))))) (.s .z (.s (.s .z (.s (.s .z .z) .z)) (.s .z (.s .z (.s .z (.s (.s .z (.l 18446743523953744768 [7,8,9,39] (.s .z (.s (.s .z .z) (.s (.s .z (.s .z (.s .z (.s .z .z)))) .z))))) (.s (.l 9903520295836298125483467264 [9] (.s (.s .z (.s .z .z)) (.s .z (.s (.s .z (.l 4835408130553337346023424 [13,68] (.s .z (.s (.s .z .z) (.s (.s .z (.s .z (.s .z .z))) .z))))) (.s .z (.s .z .z)))))) (.s .z .z))))))))))) H
def zkp (a0 a1:Value)(h:Heap)(R:Value→Heap→Prop):Prop:=
 FCall prog zig #[a0,a1] h fun a b=>
 FCall prog zll #[a] b fun c d=>
 FCall prog zdY #[c,(.int .i64 10)] d fun e f=>
 R e f
theorem zqd (H:zkp a0 a1 h R):FCall prog zih #[a0,a1] h R:=fk f213 (.s .z (.s .z .z)) H
def zkn (a0:Value)(h:Heap)(R:Value→Heap→Prop):Prop:=
 vK (zaf a0) fun c=>
 loopK [(.int .i64 0),(.int .i64 0)] h fun a o b d=>
 vK (binV .i .lss (ix a 1) c) fun e=>
 iteK e (
 vK (idxV 1 a0 (ix a 1)) fun f=>
 vK (ldV b f) fun g=>
 FCall prog zg3 #[g] b fun j k=>
 FCall prog zg2 #[(ix a 0),j] k fun l m=>
 vK (binV .i .add (ix a 1) (.int .i64 1)) fun n=>
 d [l,n] m) (
 R (ix a 0) b)
theorem zqb (H:zkn a0 h R):FCall prog zie #[a0] h R:=fk f214 (.s .z (.s .z (.s (.s .z (.l 130856 [3,8] (.s .z (.s (.s .z .z) (.s (.s .z .z) .z))))) (.s .z .z)))) H
def zi9 (a0 a1 a2:Value)(h:Heap)(R:Value→Heap→Prop):Prop:=
 vK (binV .i .eql a2 (.int .i64 0)) fun e=>
 iteK e (
 R (.int .i64 0) h) (
 FCall prog zbG #[a0] h fun f g=>
 FCall prog zbG #[a1] g fun j k=>
 FCall prog zfy #[f,j] k fun l m=>
 newK #[(.int .u64 0),(.int .u64 0)] 293 m fun c n=>
 stK 2 c l n fun x a=>
 vK (binV .i .lss a0 (.int .i64 0)) fun o=>
 vK (binV .i .lss a1 (.int .i64 0)) fun p=>
 vK (binV .b .neq o p) fun q=>
 drawK a fun S=>
 qK S (fun a=>ldsV 2 a c) fun r=>
 vK (binV .i .lss a2 (.int .i64 0)) fun s=>
 vK (binV .b .neq q s) fun t=>
 FCall prog zbG #[a2] a fun u d=>
 S d∧(FCall prog zgo #[r,u,t] d fun v w=>
 R v w))
theorem zpl (H:zi9 a0 a1 a2 h R):FCall prog zaP #[a0,a1,a2] h R:=fk f215 (.s .z (.s (.s .z (.s (.s .z .z) .z)) (.s .z (.s .z (.s (.d (.op 0 .r (.op 1 .r (.op 3 .r (.op 4 .r (.op 5 .r (.op 6 .r (.op 2 .e (.op 7 .n (.op 8 .r .nil)))))))))) .z))))) H
def ziE (a0 a1:Value)(h:Heap)(R:Value→Heap→Prop):Prop:=
 vK (nilV a0) fun b=>
 vK (fldV 2 b) fun c=>
 vK (ldV h c) fun d=>
 vK (lookV (.int .i64) (.slice none 0 0) true h d a1) fun a=>
 vK (extV a 0) fun f=>
 vK (extV a 1) fun e=>
 R e h
theorem zoq (H:ziE a0 a1 h R):FCall prog zdX #[a0,a1] h R:=fk f216 (.s .z (.s .z (.s .z .z))) H
def zkK (a0 a1 a2:Value)(h:Heap)(R:Value→Heap→Prop):Prop:=
 vK (minV a0 a2) fun a=>
 vK (maxV a1 a) fun b=>
 R b h
theorem zqy (H:zkK a0 a1 a2 h R):FCall prog zfD #[a0,a1,a2] h R:=fk f217 (.s .z (.s .z .z)) H
def zn4 (a0 a1:Value)(h:Heap)(R:Value→Heap→Prop):Prop:=
 vK (binV .i .eql a1 (.int .i64 0)) fun d=>
 vK (gV d false (some a1)) fun e=>
 vK (gV d false (binV .i .eql e (.int .i64 (-1)))) fun f=>
 vK (pickV d (.bool true) f) fun g=>
 iteK g (
 R (.int .i64 0) h) (
 vK (binV .i .rem a0 a1) fun c=>
 vK (binV .i .neq c (.int .i64 0)) fun a=>
 vK (gV a true (some c)) fun j=>
 vK (gV a true (binV .i .lss j (.int .i64 0))) fun k=>
 vK (gV a true (some a1)) fun l=>
 vK (gV a true (binV .i .lss l (.int .i64 0))) fun m=>
 vK (gV a true (binV .b .neq k m)) fun n=>
 vK (pickV a n (.bool false)) fun o=>
 iteK o (
 vK (binV .i .add c a1) fun p=>
 R p h) (
 R c h))
theorem ok_fixed_Mod (H:zn4 a0 a1 h R):FCall prog zgu #[a0,a1] h R:=fk f218 (.s .z (.s (.s .z (.s (.s .z .z) .z)) (.s .z (.s (.s .z (.s .z .z)) (.s .z .z))))) H
def zgE (a0:Value)(h:Heap)(R:Value→Heap→Prop):Prop:=
 vK (nilV a0) fun a=>
 vK (fldV 2 a) fun b=>
 vK (ldV h b) fun c=>
 vK (lenmV h c) fun d=>
 vK (binV .i .eql d (.int .i64 0)) fun e=>
 iteK e (
 R (.tuple #[(.int .i64 0),(.bool false)]) h) (
 vK (nilV a0) fun f=>
 vK (fldV 2 f) fun g=>
 vK (ldV h g) fun j=>
 FCall prog za5 #[j] h fun k l=>
 FCall prog zd9 #[k] l fun m n=>
 FCall prog zbS #[m] n fun o p=>
 R (.tuple #[o,(.bool true)]) p)
theorem zmp (H:zgE a0 h R):FCall prog zep #[a0] h R:=fk f219 (.s .z (.s (.s .z (.s (.s .z .z) .z)) (.s .z .z))) H
def zhs (a0 a1:Value)(h:Heap)(R:Value→Heap→Prop):Prop:=
 drawK h fun S=>
 vK (nilV a0) fun d=>
 vK (fldV 3 d) fun e=>
 qK S (fun h=>ldV h e) fun f=>
 vK (nilV a0) fun g=>
 vK (fldV 2 g) fun i=>
 qK S (fun h=>ldV h i) fun j=>
 qK S (fun h=>lookV (.int .i64) (.slice none 0 0) false h j a1) fun k=>
 rowK #[(.slice none 0 0)] 28 1 [(0,1,k)] h fun l a=>
 S a∧(appK (.slice none 0 0) 28 1 24 f l a fun m b=>
 S b∧(vK (nilV a0) fun n=>
 vK (fldV 3 n) fun o=>
 stK 1 o m b fun t c=>
 vK (nilV a0) fun p=>
 vK (fldV 2 p) fun q=>
 vK (ldV c q) fun r=>
 zgb (.int .i64) r a1 c fun u s=>
 R (.tuple #[]) s))
theorem zm5 (H:zhs a0 a1 h R):FCall prog ze8 #[a0,a1] h R:=fk f220 (.s (.d (.op 0 .r (.op 1 .r (.op 2 .r (.op 3 .r (.op 4 .r (.op 5 .r (.op 6 .r (.op 7 .r (.op 8 .r (.op 9 .r (.op 10 .r (.op 11 .e (.op 12 .e (.op 13 .r (.op 14 .r (.op 15 .n .nil))))))))))))))))) .z) H
def zgB (a0:Value)(h:Heap)(R:Value→Heap→Prop):Prop:=
 vK (nilV a0) fun c=>
 vK (fldV 3 c) fun d=>
 vK (ldV h d) fun e=>
 vK (zaf e) fun a=>
 vK (binV .i .gtr a (.int .i64 0)) fun f=>
 iteK f (
 vK (nilV a0) fun g=>
 vK (fldV 3 g) fun j=>
 vK (ldV h j) fun k=>
 vK (binV .i .sub a (.int .i64 1)) fun l=>
 vK (idxV 1 k l) fun m=>
 vK (ldV h m) fun n=>
 vK (nilV a0) fun o=>
 vK (fldV 3 o) fun p=>
 vK (ldV h p) fun q=>
 vK (binV .i .sub a (.int .i64 1)) fun r=>
 vK (slcV 1 q none (some r)) fun s=>
 vK (nilV a0) fun t=>
 vK (fldV 3 t) fun u=>
 stK 1 u s h fun aa v=>
 R n v) (
 vK (nilV a0) fun w=>
 vK (fldV 1 w) fun x=>
 vK (ldV h x) fun b=>
 mkK (.int .i64 0) 2 1 8 b b h fun y z=>
 R y z)
theorem zmm (H:zgB a0 h R):FCall prog zem #[a0] h R:=fk f221 (.s .z (.s (.s .z (.s .z (.s (.s .z (.s .z (.s .z .z))) .z))) (.s .z .z))) H
def zkI (a0 a1:Value)(h:Heap)(R:Value→Heap→Prop):Prop:=
 vK (binV .i .leq a1 (.int .i64 0)) fun a=>
 iteK a (
 R a0 h) (
 vK (binV .i .geq a1 (.int .i64 64)) fun b=>
 iteK b (
 R (.int .i64 0) h) (
 vK (binV .i .shr a0 a1) fun c=>
 vK (binV .i .sub a1 (.int .i64 1)) fun d=>
 vK (binV .i .shr a0 d) fun e=>
 vK (binV .i .and e (.int .i64 1)) fun f=>
 vK (binV .i .add c f) fun g=>
 R g h))
theorem zqw (H:zkI a0 a1 h R):FCall prog zc8 #[a0,a1] h R:=fk f222 (.s .z (.s (.s .z (.s (.s .z .z) .z)) (.s (.s .z (.s (.s .z .z) .z)) (.s .z .z)))) H
def zlC (a0:Value)(h:Heap)(R:Value→Heap→Prop):Prop:=
 vK (binV .i .geq a0 (.int .i64 1)) fun a=>
 vK (gV a true (some a0)) fun b=>
 vK (gV a true (binV .i .leq b (.int .i64 65536))) fun c=>
 vK (pickV a c (.bool false)) fun d=>
 R d h
theorem zrW (H:zlC a0 h R):FCall prog zeZ #[a0] h R:=fk f223 (.s .z (.s .z .z)) H
def zqM (a0 a1 a2 a3:Value)(h:Heap)(R:Value→Heap→Prop):Prop:=
 FCall prog zjH #[a0,a1,a2,a3] h fun b e=>
 vK (extV b 0) fun c=>
 vK (extV b 1) fun f=>
 loopK [(.slice none 0 0),(.int .i64 0)] e fun a s d g=>
 vK (binV .i .lss (ix a 1) f) fun j=>
 iteK j (
 vK (binV .i .add c (ix a 1)) fun k=>
 FCall prog zlm #[a0,a1,a2,a3,k] d fun l m=>
 rowK #[(.int .i64 0)] 2 1 [(0,1,l)] m fun n o=>
 appK (.int .i64 0) 2 1 8 (ix a 0) n o fun p q=>
 vK (binV .i .add (ix a 1) (.int .i64 1)) fun r=>
 g [p,r] q) (
 R (.tuple #[c,(ix a 0)]) d)
theorem ok_raw_Row (H:zqM a0 a1 a2 a3 h R):FCall prog zmQ #[a0,a1,a2,a3] h R:=fk f224 (.s .z (.s .z (.s (.s .z (.l 68717382144 [9,21] (.s .z (.s (.s .z .z) (.s (.s .z .z) .z))))) (.s .z .z)))) H
def zhq (a0:Value)(h:Heap)(R:Value→Heap→Prop):Prop:=
 FCall prog zjC #[a0] h fun aj ak=>
 vK (binV .i .neq aj (.int .i64 0)) fun di=>
 iteK di (
 R (.tuple #[(.slice none 0 0),aj]) ak) (
 FCall prog zj4 #[a0] ak fun al j=>
 joinK (fun d=>
 drawK j fun S=>
 qK S (fun j=>zaf a0) fun a=>
 qK S (fun j=>zaf a0) fun b=>
 qK S (fun j=>zaf a0) fun c=>
 (mkK (.int .i64 0) 2 1 8 a a j fun k o=>
 S o∧((mkK (.int .i64 0) 3 1 8 b b o fun am w=>
 S w∧((mkK (.int .i64 0) 2 1 8 c c w fun dj an=>
 S an∧(newK #[(.slice none 0 0)] 28 an fun ao ap=>
 S ap∧(stK 1 ao dj ap fun fd aq=>
 S aq∧(d [k,am,ao] aq))))∧(newK #[(.slice none 0 0)] 28 w fun ar au=>
 S au∧(mkK (.int .i64 0) 2 1 8 c c au fun dk av=>
 S av∧(stK 1 ar dk av fun fe aw=>
 S aw∧(d [k,am,ar] aw))))))∧((mkK (.int .i64 0) 2 1 8 c c o fun ax x=>
 S x∧((mkK (.int .i64 0) 3 1 8 b b x fun dl ay=>
 S ay∧(newK #[(.slice none 0 0)] 28 ay fun az a1=>
 S a1∧(stK 1 az ax a1 fun ff a2=>
 S a2∧(d [k,dl,az] a2))))∧(newK #[(.slice none 0 0)] 28 x fun a3 a4=>
 S a4∧(mkK (.int .i64 0) 3 1 8 b b a4 fun dm a5=>
 S a5∧(stK 1 a3 ax a5 fun fg a6=>
 S a6∧(d [k,dm,a3] a6))))))∧(newK #[(.slice none 0 0)] 28 o fun p y=>
 S y∧((mkK (.int .i64 0) 3 1 8 b b y fun dn a7=>
 S a7∧(mkK (.int .i64 0) 2 1 8 c c a7 fun dp a8=>
 S a8∧(stK 1 p dp a8 fun fh a9=>
 S a9∧(d [k,dn,p] a9))))∧(mkK (.int .i64 0) 2 1 8 c c y fun dq ba=>
 S ba∧(mkK (.int .i64 0) 3 1 8 b b ba fun dr bb=>
 S bb∧(stK 1 p dq bb fun fi bc=>
 S bc∧(d [k,dr,p] bc)))))))))∧((mkK (.int .i64 0) 3 1 8 b b j fun l q=>
 S q∧((mkK (.int .i64 0) 2 1 8 a a q fun bd z=>
 S z∧((mkK (.int .i64 0) 2 1 8 c c z fun ds be=>
 S be∧(newK #[(.slice none 0 0)] 28 be fun bf bg=>
 S bg∧(stK 1 bf ds bg fun fj bh=>
 S bh∧(d [bd,l,bf] bh))))∧(newK #[(.slice none 0 0)] 28 z fun bi bj=>
 S bj∧(mkK (.int .i64 0) 2 1 8 c c bj fun dt bk=>
 S bk∧(stK 1 bi dt bk fun fk bl=>
 S bl∧(d [bd,l,bi] bl))))))∧((mkK (.int .i64 0) 2 1 8 c c q fun bm aa=>
 S aa∧((mkK (.int .i64 0) 2 1 8 a a aa fun du bn=>
 S bn∧(newK #[(.slice none 0 0)] 28 bn fun bo bp=>
 S bp∧(stK 1 bo bm bp fun fl bq=>
 S bq∧(d [du,l,bo] bq))))∧(newK #[(.slice none 0 0)] 28 aa fun br bs=>
 S bs∧(mkK (.int .i64 0) 2 1 8 a a bs fun dv bt=>
 S bt∧(stK 1 br bm bt fun fm bu=>
 S bu∧(d [dv,l,br] bu))))))∧(newK #[(.slice none 0 0)] 28 q fun r ab=>
 S ab∧((mkK (.int .i64 0) 2 1 8 a a ab fun dw bv=>
 S bv∧(mkK (.int .i64 0) 2 1 8 c c bv fun dx bw=>
 S bw∧(stK 1 r dx bw fun fn bx=>
 S bx∧(d [dw,l,r] bx))))∧(mkK (.int .i64 0) 2 1 8 c c ab fun dy bz=>
 S bz∧(mkK (.int .i64 0) 2 1 8 a a bz fun dz b0=>
 S b0∧(stK 1 r dy b0 fun fo b1=>
 S b1∧(d [dz,l,r] b1)))))))))∧((mkK (.int .i64 0) 2 1 8 c c j fun m s=>
 S s∧((mkK (.int .i64 0) 2 1 8 a a s fun b2 ac=>
 S ac∧((mkK (.int .i64 0) 3 1 8 b b ac fun d0 b3=>
 S b3∧(newK #[(.slice none 0 0)] 28 b3 fun b4 b5=>
 S b5∧(stK 1 b4 m b5 fun fp b6=>
 S b6∧(d [b2,d0,b4] b6))))∧(newK #[(.slice none 0 0)] 28 ac fun b7 b8=>
 S b8∧(mkK (.int .i64 0) 3 1 8 b b b8 fun d1 b9=>
 S b9∧(stK 1 b7 m b9 fun fq ca=>
 S ca∧(d [b2,d1,b7] ca))))))∧((mkK (.int .i64 0) 3 1 8 b b s fun cb ad=>
 S ad∧((mkK (.int .i64 0) 2 1 8 a a ad fun d2 cc=>
 S cc∧(newK #[(.slice none 0 0)] 28 cc fun cd ce=>
 S ce∧(stK 1 cd m ce fun fr cf=>
 S cf∧(d [d2,cb,cd] cf))))∧(newK #[(.slice none 0 0)] 28 ad fun cg ch=>
 S ch∧(mkK (.int .i64 0) 2 1 8 a a ch fun d3 ci=>
 S ci∧(stK 1 cg m ci fun fs cj=>
 S cj∧(d [d3,cb,cg] cj))))))∧(newK #[(.slice none 0 0)] 28 s fun t ae=>
 S ae∧((mkK (.int .i64 0) 2 1 8 a a ae fun d4 ck=>
 S ck∧(mkK (.int .i64 0) 3 1 8 b b ck fun d5 cl=>
 S cl∧(stK 1 t m cl fun ft cm=>
 S cm∧(d [d4,d5,t] cm))))∧(mkK (.int .i64 0) 3 1 8 b b ae fun d6 cn=>
 S cn∧(mkK (.int .i64 0) 2 1 8 a a cn fun d7 co=>
 S co∧(stK 1 t m co fun fu cp=>
 S cp∧(d [d7,d6,t] cp)))))))))∧(newK #[(.slice none 0 0)] 28 j fun e u=>
 S u∧((mkK (.int .i64 0) 2 1 8 a a u fun cq af=>
 S af∧((mkK (.int .i64 0) 3 1 8 b b af fun d8 cr=>
 S cr∧(mkK (.int .i64 0) 2 1 8 c c cr fun d9 cs=>
 S cs∧(stK 1 e d9 cs fun fv ct=>
 S ct∧(d [cq,d8,e] ct))))∧(mkK (.int .i64 0) 2 1 8 c c af fun ea cu=>
 S cu∧(mkK (.int .i64 0) 3 1 8 b b cu fun eb cv=>
 S cv∧(stK 1 e ea cv fun fw cw=>
 S cw∧(d [cq,eb,e] cw))))))∧((mkK (.int .i64 0) 3 1 8 b b u fun cx ag=>
 S ag∧((mkK (.int .i64 0) 2 1 8 a a ag fun ec cy=>
 S cy∧(mkK (.int .i64 0) 2 1 8 c c cy fun ed cz=>
 S cz∧(stK 1 e ed cz fun fx c0=>
 S c0∧(d [ec,cx,e] c0))))∧(mkK (.int .i64 0) 2 1 8 c c ag fun ee c1=>
 S c1∧(mkK (.int .i64 0) 2 1 8 a a c1 fun ef c2=>
 S c2∧(stK 1 e ee c2 fun fy c3=>
 S c3∧(d [ef,cx,e] c3))))))∧(mkK (.int .i64 0) 2 1 8 c c u fun c4 ah=>
 S ah∧((mkK (.int .i64 0) 2 1 8 a a ah fun eg c5=>
 S c5∧(mkK (.int .i64 0) 3 1 8 b b c5 fun eh c6=>
 S c6∧(stK 1 e c4 c6 fun fz c7=>
 S c7∧(d [eg,eh,e] c7))))∧(mkK (.int .i64 0) 3 1 8 b b ah fun ei c8=>
 S c8∧(mkK (.int .i64 0) 2 1 8 a a c8 fun ej c9=>
 S c9∧(stK 1 e c4 c9 fun f0 da=>
 S da∧(d [ej,ei,e] da))))))))))))
 fun f f1 ek=>
 vK (zaf a0) fun el=>
 loopK [(.int .i64 16384),(.int .i64 0)] ek fun g f2 n em=>
 vK (binV .i .lss (ix g 1) el) fun en=>
 iteK en (
 vK (idxV 1 a0 (ix g 1)) fun eo=>
 vK (ldV n eo) fun db=>
 drawK n fun S=>
 qK S (fun n=>ldV n (ix f 2)) fun ep=>
 vK (binV .i .mul db (.int .i64 16384)) fun eq=>
 vK (binV .i .mul db (.int .i64 16384)) fun er=>
 FCall prog zc9 #[eq,al] n fun es dc=>
 S dc∧(FCall prog zgu #[er,al] dc fun et dd=>
 S dd∧(vK (idxV 1 (ix f 0) (ix g 1)) fun eu=>
 stK 1 eu es dd fun f3 de=>
 S de∧(vK (idxV 1 ep (ix g 1)) fun ev=>
 stK 1 ev et de fun f4 ew=>
 vK (idxV 1 (ix f 1) (ix g 1)) fun ex=>
 stK 1 ex (ix g 1) ew fun f5 df=>
 vK (idxV 1 (ix f 0) (ix g 1)) fun ey=>
 vK (ldV df ey) fun ez=>
 vK (binV .i .sub (ix g 0) ez) fun e0=>
 vK (binV .i .add (ix g 1) (.int .i64 1)) fun e1=>
 em [e0,e1] df)))) (
 FCall prog za7 #[(ix f 1),(.func (.func zdw) #[] #[(ix f 2)])] n fun f6 e2=>
 vK (slcV 1 (ix f 1) none (some (ix g 0))) fun dg=>
 vK (zaf dg) fun e3=>
 loopK [(.int .i64 0)] e2 fun ai f7 v e4=>
 vK (binV .i .lss (ix ai 0) e3) fun e5=>
 iteK e5 (
 vK (idxV 1 dg (ix ai 0)) fun e6=>
 vK (ldV v e6) fun dh=>
 vK (idxV 1 (ix f 0) dh) fun e7=>
 vK (ldV v e7) fun e8=>
 vK (binV .i .add e8 (.int .i64 1)) fun e9=>
 vK (idxV 1 (ix f 0) dh) fun fa=>
 stK 1 fa e9 v fun f8 fb=>
 vK (binV .i .add (ix ai 0) (.int .i64 1)) fun fc=>
 e4 [fc] fb) (
 R (.tuple #[(ix f 0),(.int .i64 0)]) v)))
theorem zm3 (H:zhq a0 h R):FCall prog zcD #[a0] h R:=fk f225 (.s .z (.s (.s .z (.s .z (.s (.s .z .z) .z))) (.s .z (.j 1071645568 [7,8,9] (.d (.op 0 .r (.op 1 .r (.op 3 .r (.op 4 .r (.op 6 .r (.op 7 .r (.alt (.op 2 .e (.alt (.op 5 .e (.alt (.op 8 .e (.op 9 .e (.op 10 .r (.op 11 .r (.op 12 .e .nil))))) (.op 9 .e (.op 10 .r (.op 11 .r (.op 8 .e (.op 12 .e .nil))))))) (.alt (.op 8 .e (.alt (.op 5 .e (.op 9 .e (.op 10 .r (.op 11 .r (.op 12 .e .nil))))) (.op 9 .e (.op 10 .r (.op 5 .e (.op 11 .r (.op 12 .e .nil))))))) (.op 9 .e (.op 10 .r (.alt (.op 5 .e (.op 11 .r (.op 8 .e (.op 12 .e .nil)))) (.op 8 .e (.op 5 .e (.op 11 .r (.op 12 .e .nil)))))))))) (.alt (.op 5 .e (.alt (.op 2 .e (.alt (.op 8 .e (.op 9 .e (.op 10 .r (.op 11 .r (.op 12 .e .nil))))) (.op 9 .e (.op 10 .r (.op 11 .r (.op 8 .e (.op 12 .e .nil))))))) (.alt (.op 8 .e (.alt (.op 2 .e (.op 9 .e (.op 10 .r (.op 11 .r (.op 12 .e .nil))))) (.op 9 .e (.op 2 .e (.op 10 .r (.op 11 .r (.op 12 .e .nil))))))) (.op 9 .e (.alt (.op 2 .e (.op 10 .r (.op 11 .r (.op 8 .e (.op 12 .e .nil))))) (.op 8 .e (.op 2 .e (.op 10 .r (.op 11 .r (.op 12 .e .nil)))))))))) (.alt (.op 8 .e (.alt (.op 2 .e (.alt (.op 5 .e (.op 9 .e (.op 10 .r (.op 11 .r (.op 12 .e .nil))))) (.op 9 .e (.op 10 .r (.op 5 .e (.op 11 .r (.op 12 .e .nil))))))) (.alt (.op 5 .e (.alt (.op 2 .e (.op 9 .e (.op 10 .r (.op 11 .r (.op 12 .e .nil))))) (.op 9 .e (.op 2 .e (.op 10 .r (.op 11 .r (.op 12 .e .nil))))))) (.op 9 .e (.alt (.op 2 .e (.op 10 .r (.op 5 .e (.op 11 .r (.op 12 .e .nil))))) (.op 5 .e (.op 2 .e (.op 10 .r (.op 11 .r (.op 12 .e .nil)))))))))) (.op 9 .e (.alt (.op 2 .e (.op 10 .r (.alt (.op 5 .e (.op 11 .r (.op 8 .e (.op 12 .e .nil)))) (.op 8 .e (.op 5 .e (.op 11 .r (.op 12 .e .nil))))))) (.alt (.op 5 .e (.alt (.op 2 .e (.op 10 .r (.op 11 .r (.op 8 .e (.op 12 .e .nil))))) (.op 8 .e (.op 2 .e (.op 10 .r (.op 11 .r (.op 12 .e .nil))))))) (.op 8 .e (.alt (.op 2 .e (.op 10 .r (.op 5 .e (.op 11 .r (.op 12 .e .nil))))) (.op 5 .e (.op 2 .e (.op 10 .r (.op 11 .r (.op 12 .e .nil)))))))))))))))))))) (.s (.s .z (.l 4611686014132423744 [6,32] (.s .z (.s (.s .z .z) (.s (.s .z (.s (.d (.op 0 .r (.op 1 .r (.op 2 .r (.op 3 .r (.op 4 .r (.op 5 .r (.op 6 .r (.op 7 .r (.op 8 .r (.op 10 .r (.op 11 .r (.op 12 .r (.op 14 .r (.op 9 .e (.op 13 .e (.op 15 .r (.op 16 .e (.op 17 .r (.op 18 .n (.op 19 .r (.op 20 .n .nil)))))))))))))))))))))) .z)) .z))))) (.s .z (.s (.s .z (.l 1208335523804270469062656 [69] (.s .z (.s (.s .z .z) (.s (.s .z .z) .z))))) (.s .z .z)))))))) H
def zgA (a0 a1 a2:Value)(h:Heap)(R:Value→Heap→Prop):Prop:=
 vK (nilV a0) fun d=>
 vK (fldV 1 d) fun e=>
 vK (ldV h e) fun f=>
 vK ((fillL #[(.int .i64 0),(.slice none 0 0)] [(0,1,a1),(1,1,a2)]).map .agg) fun g=>
 rowK #[(.int .i64 0),(.slice none 0 0)] 235 1 [(0,2,g)] h fun i j=>
 appK (.agg #[.int .i64 0,.slice none 0 0]) 235 2 32 f i j fun k l=>
 vK (nilV a0) fun m=>
 vK (fldV 1 m) fun n=>
 stK 1 n k l fun ad c=>
 vK (nilV a0) fun o=>
 vK (fldV 2 o) fun p=>
 vK (ldV c p) fun q=>
 vK (zaf a2) fun r=>
 vK (maxV q r) fun s=>
 vK (nilV a0) fun t=>
 vK (fldV 2 t) fun u=>
 stK 1 u s c fun ae a=>
 drawK a fun S=>
 vK (nilV a0) fun v=>
 vK (fldV 3 v) fun w=>
 qK S (fun a=>ldV a w) fun x=>
 FCall prog zic #[a2] a fun y b=>
 S b∧(qK S (fun b=>maxV x y) fun z=>
 vK (nilV a0) fun aa=>
 vK (fldV 3 aa) fun ab=>
 stK 1 ab z b fun af ac=>
 R (.tuple #[]) ac)
theorem zml (H:zgA a0 a1 a2 h R):FCall prog zc6 #[a0,a1,a2] h R:=fk f226 (.s .z (.s .z (.d (.op 0 .r (.op 1 .r (.op 2 .r (.op 3 .r (.op 4 .r (.op 5 .r (.op 6 .e (.op 7 .r (.op 8 .r (.op 9 .r (.op 10 .n .nil)))))))))))))) H
def ziB (a0:Value)(h:Heap)(R:Value→Heap→Prop):Prop:=
 vK (binV .i .lss a0 (.int .i64 1)) fun b=>
 vK (gV b false (some a0)) fun e=>
 vK (gV b false (binV .i .gtr e (.int .i64 4194304))) fun f=>
 vK (pickV b (.bool true) f) fun g=>
 iteK g (
 R (.tuple #[(.slice none 0 0),(.int .i64 7)]) h) (
 vK (binV .i .mul (.int .i64 3) a0) fun j=>
 vK (binV .i .add j (.int .i64 65536)) fun k=>
 vK (binV .i .sub k (.int .i64 1)) fun l=>
 vK (binV .i .shr l (.int .u64 16)) fun c=>
 vK (unV .neg c) fun m=>
 loopK [(.slice none 0 0),m] h fun a w d n=>
 vK (binV .i .leq (ix a 1) c) fun o=>
 iteK o (
 FCall prog zjN #[(ix a 1),a0] d fun p q=>
 rowK #[(.int .i64 0)] 2 1 [(0,1,p)] q fun r s=>
 appK (.int .i64 0) 2 1 8 (ix a 0) r s fun t u=>
 vK (binV .i .add (ix a 1) (.int .i64 1)) fun v=>
 n [t,v] u) (
 R (.tuple #[(ix a 0),(.int .i64 0)]) d))
theorem zon (H:ziB a0 h R):FCall prog zdW #[a0] h R:=fk f227 (.s .z (.s (.s .z (.s (.s .z .z) .z)) (.s .z (.s .z (.s (.s .z (.l 2146435168 [5,6] (.s (.s .z (.s .z .z)) (.s .z .z)))) (.s .z .z)))))) H
def znN (a0:Value)(h:Heap)(R:Value→Heap→Prop):Prop:=
 vK (binV .i .lss a0 (.int .i64 0)) fun a=>
 vK (gV a false (some a0)) fun c=>
 vK (gV a false (binV .i .gtr c (.int .i64 511))) fun d=>
 vK (pickV a (.bool true) d) fun e=>
 iteK e (
 R (.tuple #[(.slice none 0 0),(.int .i64 7)]) h) (
 rowK #[(.int .i64 0)] 2 1 [(0,1,(.int .i64 1))] h fun f g=>
 vK (binV .i .mul (.int .i64 2) a0) fun j=>
 vK (binV .i .add j (.int .i64 1)) fun k=>
 FCall prog zbj #[f,k] g fun l m=>
 FCall prog zgk #[l] m fun b n=>
 vK (extV b 0) fun o=>
 vK (extV b 1) fun p=>
 R (.tuple #[o,p]) n)
theorem ok_taps_Blur (H:znN a0 h R):FCall prog zlg #[a0] h R:=fk f228 (.s .z (.s (.s .z (.s (.s .z .z) .z)) (.s .z .z))) H
def znL (a0:Value)(h:Heap)(R:Value→Heap→Prop):Prop:=
 FCall prog zic #[a0] h fun c g=>
 vK (zaf a0) fun j=>
 vK (binV .i .rem j (.int .i64 2)) fun k=>
 vK (binV .i .eql k (.int .i64 0)) fun b=>
 vK (gV b false (some a0)) fun l=>
 vK (gV b false (zaf l)) fun m=>
 vK (gV b false (binV .i .gtr m (.int .i64 1024))) fun n=>
 vK (pickV b (.bool true) n) fun d=>
 vK (gV d false (some c)) fun o=>
 vK (gV d false (binV .i .lss o (.int .i64 1))) fun p=>
 vK (pickV d (.bool true) p) fun e=>
 vK (gV e false (some c)) fun q=>
 vK (gV e false (binV .i .gtr q (.int .i64 1048576))) fun r=>
 vK (pickV e (.bool true) r) fun s=>
 iteK s (
 R (.tuple #[(.slice none 0 0),(.int .i64 7)]) g) (
 vK (zaf a0) fun t=>
 loopK [(.slice none 0 0),(.int .i64 0)] g fun a af f u=>
 vK (binV .i .lss (ix a 1) t) fun v=>
 iteK v (
 vK (idxV 1 a0 (ix a 1)) fun w=>
 vK (ldV f w) fun x=>
 FCall prog zba #[x,(.int .i64 1073741824),c] f fun y z=>
 rowK #[(.int .i64 0)] 2 1 [(0,1,y)] z fun aa ab=>
 appK (.int .i64 0) 2 1 8 (ix a 0) aa ab fun ac ad=>
 vK (binV .i .add (ix a 1) (.int .i64 1)) fun ae=>
 u [ac,ae] ad) (
 R (.tuple #[(ix a 0),(.int .i64 0)]) f))
theorem ok_taps_User (H:znL a0 h R):FCall prog zgk #[a0] h R:=fk f229 (.s .z (.s .z (.s (.s .z (.s (.s .z .z) .z)) (.s .z (.s (.s .z (.l 1098974757024 [5,29] (.s .z (.s (.s .z .z) (.s (.s .z .z) .z))))) (.s .z .z)))))) H
def zch (a0 a1:Value)(h:Heap)(R:Value→Heap→Prop):Prop:=
 vK (zaf a0) fun c=>
 vK (zaf a1) fun d=>
 vK (binV .i .neq c d) fun e=>
 iteK e (
 R (.bool false) h) (
 vK (zaf a0) fun f=>
 loopK [(.int .i64 0)] h fun b q a g=>
 vK (binV .i .lss (ix b 0) f) fun j=>
 iteK j (
 vK (idxV 1 a0 (ix b 0)) fun k=>
 vK (ldV a k) fun l=>
 vK (idxV 1 a1 (ix b 0)) fun m=>
 vK (ldV a m) fun n=>
 vK (binV .i .neq l n) fun o=>
 iteK o (
 R (.bool false) a) (
 vK (binV .i .add (ix b 0) (.int .i64 1)) fun p=>
 g [p] a)) (
 R (.bool true) a))
theorem zee (H:zch a0 a1 h R):FCall prog zbk #[a0,a1] h R:=fk f231 (.s .z (.s (.s .z (.s (.s .z .z) .z)) (.s (.s .z (.l 67100720 [13] (.s .z (.s (.s .z .z) (.s (.s .z (.s .z (.s (.s .z .z) .z))) .z))))) (.s .z .z)))) H
def zkH (h:Heap)(R:Value→Heap→Prop):Prop:=
 FCall prog zmQ #[(.int .i64 0),(.int .i64 4),(.int .i64 2),(.int .i64 1)] h fun j c=>
 vK (extV j 0) fun l=>
 vK (extV j 1) fun e=>
 vK (binV .i .eql l (.int .i64 2)) fun d=>
 vK (gV d true (some e)) fun m=>
 vK (gV d true (zaf m)) fun n=>
 vK (gV d true (binV .i .eql n (.int .i64 2))) fun o=>
 vK (pickV d o (.bool false)) fun a=>
 vK (gV a true (some e)) fun p=>
 vK (gV a true (idxV 1 p (.int .i64 0))) fun q=>
 vK (gV a true (ldV c q)) fun r=>
 vK (gV a true (binV .i .eql r (.int .i64 536870912))) fun s=>
 vK (pickV a s (.bool false)) fun b=>
 vK (gV b true (some e)) fun t=>
 vK (gV b true (idxV 1 t (.int .i64 1))) fun u=>
 vK (gV b true (ldV c u)) fun v=>
 vK (gV b true (binV .i .eql v (.int .i64 536870912))) fun w=>
 vK (pickV b w (.bool false)) fun f=>
 gK f true (fun x=>FCall prog zhO #[(.int .i64 0),(.int .i64 1)] c x) c fun y k=>
 vK (gV f true (binV .i .eql y (.int .i64 1073741824))) fun z=>
 vK (pickV f z (.bool false)) fun g=>
 gK g true (fun aa=>FCall prog zhO #[(.int .i64 1),(.int .i64 2)] k aa) k fun ab ac=>
 vK (gV g true (binV .i .eql ab (.int .i64 603979776))) fun ad=>
 vK (pickV g ad (.bool false)) fun ae=>
 R ae ac
theorem zqv (H:zkH h R):FCall prog zit #[] h R:=fk f243 (.s .z (.s .z (.s .z .z))) H
def zkG (h:Heap)(R:Value→Heap→Prop):Prop:=
 rowK #[(.int .i64 0),(.int .i64 0),(.int .i64 0)] 2 3 [(0,1,(.int .i64 536870912)),(1,1,(.int .i64 536870912)),(2,1,(.int .i64 536870912))] h fun j k=>
 FCall prog zcD #[j] k fun d l=>
 vK (extV d 0) fun m=>
 vK (extV d 1) fun n=>
 FCall prog zdW #[(.int .i64 65536)] l fun e f=>
 vK (extV e 0) fun o=>
 vK (extV e 1) fun p=>
 vK (binV .i .eql n (.int .i64 0)) fun a=>
 vK (gV a true (some m)) fun q=>
 gK a true (fun r=>rowK #[(.int .i64 0),(.int .i64 0),(.int .i64 0)] 2 3 [(0,1,(.int .i64 5462)),(1,1,(.int .i64 5461)),(2,1,(.int .i64 5461))] f r) f fun s g=>
 gK a true (fun t=>FCall prog zg4 #[q,s] g t) g fun u v=>
 vK (pickV a u (.bool false)) fun c=>
 vK (gV c true (some p)) fun w=>
 vK (gV c true (binV .i .eql w (.int .i64 0))) fun x=>
 vK (pickV c x (.bool false)) fun b=>
 vK (gV b true (some o)) fun y=>
 vK (gV b true (zaf y)) fun z=>
 vK (gV b true (binV .i .eql z (.int .i64 7))) fun aa=>
 vK (pickV b aa (.bool false)) fun ab=>
 R ab v
theorem zqu (H:zkG h R):FCall prog zis #[] h R:=fk f244 (.s .z (.s .z (.s .z (.s .z .z)))) H
def zlL (a0 a1:Value)(h:Heap)(R:Value→Heap→Prop):Prop:=
 vK (zaf a0) fun c=>
 vK (zaf a1) fun d=>
 vK (binV .i .neq c d) fun e=>
 iteK e (
 R (.bool false) h) (
 vK (zaf a0) fun f=>
 loopK [(.int .i64 0)] h fun b q a g=>
 vK (binV .i .lss (ix b 0) f) fun j=>
 iteK j (
 vK (idxV 1 a0 (ix b 0)) fun k=>
 vK (ldV a k) fun l=>
 vK (idxV 1 a1 (ix b 0)) fun m=>
 vK (ldV a m) fun n=>
 vK (binV .i .neq l n) fun o=>
 iteK o (
 R (.bool false) a) (
 vK (binV .i .add (ix b 0) (.int .i64 1)) fun p=>
 g [p] a)) (
 R (.bool true) a))
theorem zr5 (H:zlL a0 a1 h R):FCall prog zg4 #[a0,a1] h R:=fk f245 (.s .z (.s (.s .z (.s (.s .z .z) .z)) (.s (.s .z (.l 67100720 [13] (.s .z (.s (.s .z .z) (.s (.s .z (.s .z (.s (.s .z .z) .z))) .z))))) (.s .z .z)))) H
def znS (a0 a1 a2 a3:Value)(h:Heap)(R:Value→Heap→Prop):Prop:=
 vK (binV .i .geq a0 (.int .i64 0)) fun b=>
 vK (gV b true (some a0)) fun j=>
 vK (gV b true (binV .i .leq j (.int .i64 2))) fun k=>
 vK (pickV b k (.bool false)) fun c=>
 vK (gV c true (some a1)) fun l=>
 vK (gV c true (binV .i .geq l (.int .i64 1))) fun m=>
 vK (pickV c m (.bool false)) fun d=>
 vK (gV d true (some a1)) fun n=>
 vK (gV d true (binV .i .leq n (.int .i64 65536))) fun o=>
 vK (pickV d o (.bool false)) fun e=>
 vK (gV e true (some a2)) fun p=>
 vK (gV e true (binV .i .geq p (.int .i64 1))) fun q=>
 vK (pickV e q (.bool false)) fun f=>
 vK (gV f true (some a2)) fun r=>
 vK (gV f true (binV .i .leq r (.int .i64 65536))) fun s=>
 vK (pickV f s (.bool false)) fun g=>
 vK (gV g true (some a3)) fun t=>
 vK (gV g true (binV .i .geq t (.int .i64 0))) fun u=>
 vK (pickV g u (.bool false)) fun a=>
 vK (gV a true (some a3)) fun v=>
 vK (gV a true (some a2)) fun w=>
 vK (gV a true (binV .i .lss v w)) fun x=>
 vK (pickV a x (.bool false)) fun y=>
 R y h
theorem ok_ref05_May (H:znS a0 a1 a2 a3 h R):FCall prog zlj #[a0,a1,a2,a3] h R:=fk f246 (.s .z (.s .z .z)) H
def zoT (a0 a1 a2 a3 a4:Value)(h:Heap)(R:Value→Heap→Prop):Prop:=
 vK (binV .i .eql a0 (.int .i64 0)) fun l=>
 iteK l (
 vK (binV .i .add a4 (.int .i64 1)) fun m=>
 vK (binV .i .mul m a2) fun n=>
 vK (binV .i .mul a3 a1) fun o=>
 vK (binV .i .gtr n o) fun a=>
 vK (gV a true (some a4)) fun p=>
 vK (gV a true (some a2)) fun q=>
 vK (gV a true (binV .i .mul p q)) fun r=>
 vK (gV a true (some a3)) fun s=>
 vK (gV a true (binV .i .add s (.int .i64 1))) fun t=>
 vK (gV a true (some a1)) fun u=>
 vK (gV a true (binV .i .mul t u)) fun v=>
 vK (gV a true (binV .i .lss r v)) fun w=>
 vK (pickV a w (.bool false)) fun x=>
 R x h) (
 FCall prog zdp #[a1,a2,a3,a4] h fun e f=>
 vK (extV e 0) fun d=>
 vK (extV e 1) fun g=>
 vK (binV .i .mul (.int .i64 2) g) fun j=>
 vK (binV .i .eql a0 (.int .i64 2)) fun y=>
 iteK y (
 vK (binV .i .mul (.int .i64 3) g) fun k=>
 vK (binV .i .lss d k) fun b=>
 vK (gV b true (some d)) fun z=>
 vK (gV b true (some k)) fun aa=>
 vK (gV b true (unV .neg aa)) fun ab=>
 vK (gV b true (binV .i .gtr z ab)) fun ac=>
 vK (pickV b ac (.bool false)) fun ad=>
 R ad f) (
 vK (binV .i .lss d j) fun c=>
 vK (gV c true (some d)) fun ae=>
 vK (gV c true (some j)) fun af=>
 vK (gV c true (unV .neg af)) fun ag=>
 vK (gV c true (binV .i .gtr ae ag)) fun ah=>
 vK (pickV c ah (.bool false)) fun ai=>
 R ai f))
theorem ok_ref05_In (H:zoT a0 a1 a2 a3 a4 h R):FCall prog zfM #[a0,a1,a2,a3,a4] h R:=fk f247 (.s .z (.s (.s .z (.s (.s .z .z) .z)) (.s .z (.s .z (.s (.s .z (.s .z .z)) (.s .z .z)))))) H
def zi7 (a0 a1 a2 a3 a4:Value)(h:Heap)(R:Value→Heap→Prop):Prop:=
 vK (binV .i .eql a0 (.int .i64 0)) fun l=>
 iteK l (
 vK (binV .i .mul a3 a1) fun a=>
 joinK (fun b=>
 vK (binV .i .mul a4 a2) fun m=>
 vK (binV .i .gtr m a) fun n=>
 iteK n (
 vK (binV .i .mul a4 a2) fun o=>
 b [o] h) (
 b [a] h))
 fun c ag d=>
 vK (binV .i .add a3 (.int .i64 1)) fun p=>
 vK (binV .i .mul p a1) fun e=>
 vK (binV .i .add a4 (.int .i64 1)) fun q=>
 vK (binV .i .mul q a2) fun r=>
 vK (binV .i .lss r e) fun s=>
 iteK s (
 vK (binV .i .add a4 (.int .i64 1)) fun t=>
 vK (binV .i .mul t a2) fun u=>
 vK (binV .i .sub u (ix c 0)) fun v=>
 FCall prog zaP #[v,(.int .i64 1073741824),a1] d fun w x=>
 R w x) (
 vK (binV .i .sub e (ix c 0)) fun y=>
 FCall prog zaP #[y,(.int .i64 1073741824),a1] d fun z aa=>
 R z aa)) (
 FCall prog zdp #[a1,a2,a3,a4] h fun f g=>
 vK (extV f 0) fun j=>
 vK (extV f 1) fun k=>
 vK (binV .i .eql a0 (.int .i64 1)) fun ab=>
 iteK ab (
 FCall prog zjG #[j,k] g fun ac ad=>
 R ac ad) (
 FCall prog zgn #[j,k] g fun ae af=>
 R ae af))
theorem zpj (H:zi7 a0 a1 a2 a3 a4 h R):FCall prog zhf #[a0,a1,a2,a3,a4] h R:=fk f248 (.s .z (.s (.s .z (.s (.s .z (.j 267388928 [11] (.s .z (.s .z .z)) (.s .z (.s (.s .z (.s .z .z)) (.s .z .z))))) .z)) (.s .z (.s (.s .z (.s (.s .z .z) .z)) (.s .z .z))))) H
def zlK (a0:Value)(h:Heap)(R:Value→Heap→Prop):Prop:=
 vK (binV .i .geq a0 (.int .i64 0)) fun a=>
 iteK a (
 R a0 h) (
 vK (binV .i .lss a0 (.int .i64 (-9223372036854775807))) fun b=>
 iteK b (
 R (.int .i64 9223372036854775807) h) (
 vK (unV .neg a0) fun c=>
 R c h))
theorem zr4 (H:zlK a0 h R):FCall prog zg3 #[a0] h R:=fk f249 (.s .z (.s (.s .z (.s (.s .z .z) .z)) (.s (.s .z (.s (.s .z .z) .z)) (.s .z .z)))) H
def znQ (a0:Value)(h:Heap)(R:Value→Heap→Prop):Prop:=
 vK (zaf a0) fun c=>
 loopK [(.int .i64 0),(.int .i64 0)] h fun a m b d=>
 vK (binV .i .lss (ix a 1) c) fun e=>
 iteK e (
 vK (idxV 1 a0 (ix a 1)) fun f=>
 vK (ldV b f) fun g=>
 FCall prog zg2 #[(ix a 0),g] b fun j k=>
 vK (binV .i .add (ix a 1) (.int .i64 1)) fun l=>
 d [j,l] k) (
 R (ix a 0) b)
theorem ok_ref06_Sum (H:znQ a0 h R):FCall prog zli #[a0] h R:=fk f250 (.s .z (.s .z (.s (.s .z (.l 65320 [3,8] (.s .z (.s (.s .z .z) (.s (.s .z .z) .z))))) (.s .z .z)))) H
def zku (a0 a1:Value)(h:Heap)(R:Value→Heap→Prop):Prop:=
 vK (binV .i .eql a1 (.int .i64 0)) fun g=>
 iteK g (
 R (.int .i64 0) h) (
 FCall prog zbG #[a0] h fun j k=>
 vK ((fillL #[(.int .u64 0),(.int .u64 0)] [(0,1,(.int .u64 0)),(1,1,j)]).map .agg) fun l=>
 FCall prog zbG #[a1] k fun m n=>
 FCall prog zg5 #[l,m] n fun e o=>
 vK (extV e 0) fun p=>
 vK (extV e 1) fun q=>
 newK #[(.int .u64 0),(.int .u64 0)] 293 o fun a r=>
 stK 2 a p r fun ah d=>
 vK (binV .i .lss a0 (.int .i64 0)) fun s=>
 vK (binV .i .lss a1 (.int .i64 0)) fun t=>
 vK (binV .b .neq s t) fun c=>
 vK (gV c true (some q)) fun u=>
 vK (gV c true (binV .i .gtr u (.int .u64 0))) fun v=>
 vK (pickV c v (.bool false)) fun w=>
 iteK w (
 vK (ldsV 2 d a) fun x=>
 vK ((fillL #[(.int .u64 0),(.int .u64 0)] [(0,1,(.int .u64 0)),(1,1,(.int .u64 1))]).map .agg) fun y=>
 FCall prog zcs #[x,y] d fun z aa=>
 stK 2 a z aa fun ai f=>
 vK (ldsV 2 f a) fun ab=>
 FCall prog za3 #[ab,c] f fun ac ad=>
 R ac ad) (
 vK (ldsV 2 d a) fun ae=>
 FCall prog za3 #[ae,c] d fun af ag=>
 R af ag))
theorem zqi (H:zku a0 a1 h R):FCall prog zfA #[a0,a1] h R:=fk f251 (.s .z (.s (.s .z (.s (.s .z .z) .z)) (.s .z (.s .z (.s (.s .z (.s .z .z)) (.s .z .z)))))) H
def znU (a0:Value)(h:Heap)(R:Value→Heap→Prop):Prop:=
 joinK (fun c=>
 vK (binV .i .lss a0 (.int .i64 0)) fun k=>
 iteK k (
 c [(.int .i64 0)] h) (
 c [a0] h))
 fun d aa l=>
 FCall prog zfA #[(ix d 0),(.int .i64 762123384786)] l fun e m=>
 vK (binV .i .mul e (.int .i64 762123384786)) fun n=>
 vK (binV .i .sub (ix d 0) n) fun o=>
 loopK [(.int .i64 1099511627776),(.int .i64 0),(.int .i64 1099511627776),(.int .i64 1)] m fun a ab f g=>
 vK (binV .i .leq (ix a 3) (.int .i64 16)) fun p=>
 iteK p (
 vK (binV .i .mul (ix a 3) (.int .i64 1099511627776)) fun q=>
 FCall prog zaP #[(ix a 2),o,q] f fun b j=>
 vK (binV .i .rem (ix a 3) (.int .i64 2)) fun r=>
 vK (binV .i .eql r (.int .i64 1)) fun s=>
 iteK s (
 vK (binV .i .add (ix a 1) b) fun t=>
 vK (binV .i .add (ix a 3) (.int .i64 1)) fun u=>
 g [(ix a 0),t,b,u] j) (
 vK (binV .i .add (ix a 0) b) fun v=>
 vK (binV .i .add (ix a 3) (.int .i64 1)) fun w=>
 g [v,(ix a 1),b,w] j)) (
 vK (binV .i .sub (ix a 0) (ix a 1)) fun x=>
 FCall prog zdY #[x,e] f fun y z=>
 R y z)
theorem ok_ref03_Exp (H:znU a0 h R):FCall prog zll #[a0] h R:=fk f252 (.s .z (.j 1537 [0] (.s .z (.s .z .z)) (.s .z (.s .z (.s .z (.s .z (.s .z (.s (.s .z (.l 34359607776 [5,6,7,8] (.s (.s .z (.s .z .z)) (.s (.s .z (.s .z (.s .z .z))) .z)))) (.s .z .z))))))))) H
def zko (a0 a1:Value)(h:Heap)(R:Value→Heap→Prop):Prop:=
 vK (binV .i .lss a1 (.int .i64 1)) fun a=>
 vK (gV a false (some a1)) fun d=>
 vK (gV a false (binV .i .gtr d (.int .i64 4194304))) fun e=>
 vK (pickV a (.bool true) e) fun b=>
 vK (gV b false (some a0)) fun f=>
 vK (gV b false (binV .i .lss f (.int .i64 (-16384)))) fun g=>
 vK (pickV b (.bool true) g) fun c=>
 vK (gV c false (some a0)) fun j=>
 vK (gV c false (binV .i .gtr j (.int .i64 16384))) fun k=>
 vK (pickV c (.bool true) k) fun l=>
 iteK l (
 R (.int .i64 9223372036854775807) h) (
 vK (binV .i .mul a0 a0) fun m=>
 vK (binV .i .mul m (.int .i64 2147483648)) fun n=>
 vK (binV .i .mul a1 a1) fun o=>
 FCall prog zaP #[n,(.int .i64 1099511627776),o] h fun p q=>
 R p q)
theorem zqc (H:zko a0 a1 h R):FCall prog zig #[a0,a1] h R:=fk f253 (.s .z (.s (.s .z (.s (.s .z .z) .z)) (.s .z .z))) H
def zlI (a0 a1:Value)(h:Heap)(R:Value→Heap→Prop):Prop:=
 vK (binV .i .gtr a1 (.int .i64 0)) fun a=>
 vK (gV a true (some a0)) fun c=>
 vK (gV a true (some a1)) fun d=>
 vK (gV a true (binV .i .sub (.int .i64 9223372036854775807) d)) fun e=>
 vK (gV a true (binV .i .gtr c e)) fun f=>
 vK (pickV a f (.bool false)) fun g=>
 iteK g (
 R (.int .i64 9223372036854775807) h) (
 vK (binV .i .lss a1 (.int .i64 0)) fun b=>
 vK (gV b true (some a0)) fun j=>
 vK (gV b true (some a1)) fun k=>
 vK (gV b true (binV .i .sub (.int .i64 (-9223372036854775808)) k)) fun l=>
 vK (gV b true (binV .i .lss j l)) fun m=>
 vK (pickV b m (.bool false)) fun n=>
 iteK n (
 R (.int .i64 (-9223372036854775808)) h) (
 vK (binV .i .add a0 a1) fun o=>
 R o h))
theorem zr2 (H:zlI a0 a1 h R):FCall prog zg2 #[a0,a1] h R:=fk f254 (.s .z (.s (.s .z (.s (.s .z .z) .z)) (.s (.s .z (.s (.s .z .z) .z)) (.s .z .z)))) H
end
end Go.Proofs.YtcoimlclclnlkaaGreatDoor
