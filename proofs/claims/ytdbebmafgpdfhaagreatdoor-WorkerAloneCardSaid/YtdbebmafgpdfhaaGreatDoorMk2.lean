/- Several texts of this session, one behind the other, without what this claim does not need (put together by its program pack.py). Conditions: none. -/
import Derived.Test.YtdbebmafgpdfhaaGreatDoorMk1
import Derived.Lib.ItoaNum
import Derived.Lib.LaidTab
import Derived.LaidLaws
import Derived.LaidHandle
import Derived.LaidMore
import Derived.MakeChecks
import Derived.Handed
import Derived.Stop.Joined
import Derived.Test.YtdbebmafgpdfhaaGreatDoorRows
import Derived.Test.YtdbebmafgpdfhaaGreatDoorProg
import Derived.Shelf.Bits.Mul64
import Derived.Shelf.Spec.BitsCarry
import Derived.Shelf.Strconv.Itoa0
set_option linter.unusedVariables false
set_option linter.unusedSimpArgs false
set_option maxRecDepth 100000
namespace Go.Proofs.YtdbebmafgpdfhaaGreatDoor
open Go Go.Crisp
open _root_.Go.Proofs.Tryz
section
variable {a0 a1 a2 a3 a4 a5 : Value} {h : Heap} {R : Value → Heap → Prop}
def znI (a0 a1 a2 a3 a4 : Value) (h : Heap) (R : Value → Heap → Prop) : Prop :=
 vK (binV .i .eql a0 (.int .i64 0)) fun v1 =>
 iteK v1 (
 vK (binV .i .add a4 (.int .i64 1)) fun v2 =>
 vK (binV .i .mul v2 a2) fun v3 =>
 vK (binV .i .mul a3 a1) fun v4 =>
 vK (binV .i .gtr v3 v4) fun v5 =>
 vK (gV v5 true (some a4)) fun v6 =>
 vK (gV v5 true (some a2)) fun v7 =>
 vK (gV v5 true (binV .i .mul v6 v7)) fun v8 =>
 vK (gV v5 true (some a3)) fun v9 =>
 vK (gV v5 true (binV .i .add v9 (.int .i64 1))) fun v10 =>
 vK (gV v5 true (some a1)) fun v11 =>
 vK (gV v5 true (binV .i .mul v10 v11)) fun v12 =>
 vK (gV v5 true (binV .i .lss v8 v12)) fun v13 =>
 vK (pickV v5 v13 (.bool false)) fun v14 =>
 R v14 h) (
 FCall prog zdf #[a1, a2, a3, a4] h fun v15 h16 =>
 vK (extV v15 0) fun v17 =>
 vK (extV v15 1) fun v18 =>
 vK (binV .i .mul (.int .i64 2) v18) fun v19 =>
 vK (binV .i .eql a0 (.int .i64 2)) fun v20 =>
 iteK v20 (
 vK (binV .i .mul (.int .i64 3) v18) fun v21 =>
 vK (binV .i .lss v17 v21) fun v22 =>
 vK (gV v22 true (some v17)) fun v23 =>
 vK (gV v22 true (some v21)) fun v24 =>
 vK (gV v22 true (unV .neg v24)) fun v25 =>
 vK (gV v22 true (binV .i .gtr v23 v25)) fun v26 =>
 vK (pickV v22 v26 (.bool false)) fun v27 =>
 R v27 h16) (
 vK (binV .i .lss v17 v19) fun v28 =>
 vK (gV v28 true (some v17)) fun v29 =>
 vK (gV v28 true (some v19)) fun v30 =>
 vK (gV v28 true (unV .neg v30)) fun v31 =>
 vK (gV v28 true (binV .i .gtr v29 v31)) fun v32 =>
 vK (pickV v28 v32 (.bool false)) fun v33 =>
 R v33 h16))
theorem ok_ref05_In (H : znI a0 a1 a2 a3 a4 h R) : FCall prog zfi #[a0, a1, a2, a3, a4] h R := fk f165 (.s .z (.s (.s .z (.s (.s .z .z) .z)) (.s .z (.s .z (.s (.s .z (.s .z .z)) (.s .z .z)))))) H
def zih (a0 a1 a2 a3 a4 : Value) (h : Heap) (R : Value → Heap → Prop) : Prop :=
 vK (binV .i .eql a0 (.int .i64 0)) fun v1 =>
 iteK v1 (
 vK (binV .i .mul a3 a1) fun v2 =>
 joinK (fun J3 =>
 vK (binV .i .mul a4 a2) fun v7 =>
 vK (binV .i .gtr v7 v2) fun v8 =>
 iteK v8 (
 vK (binV .i .mul a4 a2) fun v9 =>
 J3 [v9] h) (
 J3 [v2] h))
 fun x4 j5 h6 =>
 vK (binV .i .add a3 (.int .i64 1)) fun v10 =>
 vK (binV .i .mul v10 a1) fun v11 =>
 vK (binV .i .add a4 (.int .i64 1)) fun v12 =>
 vK (binV .i .mul v12 a2) fun v13 =>
 vK (binV .i .lss v13 v11) fun v14 =>
 iteK v14 (
 vK (binV .i .add a4 (.int .i64 1)) fun v15 =>
 vK (binV .i .mul v15 a2) fun v16 =>
 vK (binV .i .sub v16 (ix x4 0)) fun v17 =>
 FCall prog zaR #[v17, (.int .i64 1073741824), a1] h6 fun v18 h19 =>
 R v18 h19) (
 vK (binV .i .sub v11 (ix x4 0)) fun v20 =>
 FCall prog zaR #[v20, (.int .i64 1073741824), a1] h6 fun v21 h22 =>
 R v21 h22)) (
 FCall prog zdf #[a1, a2, a3, a4] h fun v23 h24 =>
 vK (extV v23 0) fun v25 =>
 vK (extV v23 1) fun v26 =>
 vK (binV .i .eql a0 (.int .i64 1)) fun v27 =>
 iteK v27 (
 FCall prog ziL #[v25, v26] h24 fun v28 h29 =>
 R v28 h29) (
 FCall prog zfR #[v25, v26] h24 fun v30 h31 =>
 R v30 h31))
theorem zn8 (H : zih a0 a1 a2 a3 a4 h R) : FCall prog zgD #[a0, a1, a2, a3, a4] h R := fk f166 (.s .z (.s (.s .z (.s (.s .z (.j 267388928 [11] (.s .z (.s .z .z)) (.s .z (.s (.s .z (.s .z .z)) (.s .z .z))))) .z)) (.s .z (.s (.s .z (.s (.s .z .z) .z)) (.s .z .z))))) H
def zkL (a0 : Value) (h : Heap) (R : Value → Heap → Prop) : Prop :=
 vK (binV .i .geq a0 (.int .i64 0)) fun v1 =>
 iteK v1 (
 R a0 h) (
 vK (binV .i .lss a0 (.int .i64 (-9223372036854775807))) fun v2 =>
 iteK v2 (
 R (.int .i64 9223372036854775807) h) (
 vK (unV .neg a0) fun v3 =>
 R v3 h))
theorem zqM (H : zkL a0 h R) : FCall prog zgq #[a0] h R := fk f167 (.s .z (.s (.s .z (.s (.s .z .z) .z)) (.s (.s .z (.s (.s .z .z) .z)) (.s .z .z)))) H
def zmy (a0 : Value) (h : Heap) (R : Value → Heap → Prop) : Prop :=
 vK (zag a0) fun v1 =>
 loopK [(.int .i64 0), (.int .i64 0)] h fun x2 j3 h4 again5 =>
 vK (binV .i .lss (ix x2 1) v1) fun v6 =>
 iteK v6 (
 vK (idxV 1 a0 (ix x2 1)) fun v7 =>
 vK (ldV h4 v7) fun v8 =>
 FCall prog zgp #[(ix x2 0), v8] h4 fun v9 h10 =>
 vK (binV .i .add (ix x2 1) (.int .i64 1)) fun v11 =>
 again5 [v9, v11] h10) (
 R (ix x2 0) h4)
theorem ok_ref06_Sum (H : zmy a0 h R) : FCall prog zki #[a0] h R := fk f168 (.s .z (.s .z (.s (.s .z (.l 65320 [3, 8] (.s .z (.s (.s .z .z) (.s (.s .z .z) .z))))) (.s .z .z)))) H
def zjA (a0 a1 : Value) (h : Heap) (R : Value → Heap → Prop) : Prop :=
 vK (binV .i .eql a1 (.int .i64 0)) fun v1 =>
 iteK v1 (
 R (.int .i64 0) h) (
 FCall prog zbA #[a0] h fun v2 h3 =>
 vK ((fillL #[(.int .u64 0), (.int .u64 0)] [(0, 1, (.int .u64 0)), (1, 1, v2)]).map .agg) fun v4 =>
 FCall prog zbA #[a1] h3 fun v5 h6 =>
 FCall prog zgs #[v4, v5] h6 fun v7 h8 =>
 vK (extV v7 0) fun v9 =>
 vK (extV v7 1) fun v10 =>
 newK #[(.int .u64 0), (.int .u64 0)] 214 h8 fun v11 h12 =>
 stK 2 v11 v9 h12 fun v13 h14 =>
 vK (binV .i .lss a0 (.int .i64 0)) fun v15 =>
 vK (binV .i .lss a1 (.int .i64 0)) fun v16 =>
 vK (binV .b .neq v15 v16) fun v17 =>
 vK (gV v17 true (some v10)) fun v18 =>
 vK (gV v17 true (binV .i .gtr v18 (.int .u64 0))) fun v19 =>
 vK (pickV v17 v19 (.bool false)) fun v20 =>
 iteK v20 (
 vK (ldsV 2 h14 v11) fun v21 =>
 vK ((fillL #[(.int .u64 0), (.int .u64 0)] [(0, 1, (.int .u64 0)), (1, 1, (.int .u64 1))]).map .agg) fun v22 =>
 FCall prog zcl #[v21, v22] h14 fun v23 h24 =>
 stK 2 v11 v23 h24 fun v25 h26 =>
 vK (ldsV 2 h26 v11) fun v27 =>
 FCall prog za2 #[v27, v17] h26 fun v28 h29 =>
 R v28 h29) (
 vK (ldsV 2 h14 v11) fun v30 =>
 FCall prog za2 #[v30, v17] h14 fun v31 h32 =>
 R v31 h32))
theorem zo7 (H : zjA a0 a1 h R) : FCall prog ze7 #[a0, a1] h R := fk f169 (.s .z (.s (.s .z (.s (.s .z .z) .z)) (.s .z (.s .z (.s (.s .z (.s .z .z)) (.s .z .z)))))) H
def zmC (a0 : Value) (h : Heap) (R : Value → Heap → Prop) : Prop :=
 joinK (fun J1 =>
 vK (binV .i .lss a0 (.int .i64 0)) fun v5 =>
 iteK v5 (
 J1 [(.int .i64 0)] h) (
 J1 [a0] h))
 fun x2 j3 h4 =>
 FCall prog ze7 #[(ix x2 0), (.int .i64 762123384786)] h4 fun v6 h7 =>
 vK (binV .i .mul v6 (.int .i64 762123384786)) fun v8 =>
 vK (binV .i .sub (ix x2 0) v8) fun v9 =>
 loopK [(.int .i64 1099511627776), (.int .i64 0), (.int .i64 1099511627776), (.int .i64 1)] h7 fun x10 j11 h12 again13 =>
 vK (binV .i .leq (ix x10 3) (.int .i64 16)) fun v14 =>
 iteK v14 (
 vK (binV .i .mul (ix x10 3) (.int .i64 1099511627776)) fun v15 =>
 FCall prog zaR #[(ix x10 2), v9, v15] h12 fun v16 h17 =>
 vK (binV .i .rem (ix x10 3) (.int .i64 2)) fun v18 =>
 vK (binV .i .eql v18 (.int .i64 1)) fun v19 =>
 iteK v19 (
 vK (binV .i .add (ix x10 1) v16) fun v20 =>
 vK (binV .i .add (ix x10 3) (.int .i64 1)) fun v21 =>
 again13 [(ix x10 0), v20, v16, v21] h17) (
 vK (binV .i .add (ix x10 0) v16) fun v22 =>
 vK (binV .i .add (ix x10 3) (.int .i64 1)) fun v23 =>
 again13 [v22, (ix x10 1), v16, v23] h17)) (
 vK (binV .i .sub (ix x10 0) (ix x10 1)) fun v24 =>
 FCall prog zcT #[v24, v6] h12 fun v25 h26 =>
 R v25 h26)
theorem ok_ref03_Exp (H : zmC a0 h R) : FCall prog zkl #[a0] h R := fk f170 (.s .z (.j 1537 [0] (.s .z (.s .z .z)) (.s .z (.s .z (.s .z (.s .z (.s .z (.s (.s .z (.l 34359607776 [5, 6, 7, 8] (.s (.s .z (.s .z .z)) (.s (.s .z (.s .z (.s .z .z))) .z)))) (.s .z .z))))))))) H
def zju (a0 a1 : Value) (h : Heap) (R : Value → Heap → Prop) : Prop :=
 vK (binV .i .lss a1 (.int .i64 1)) fun v1 =>
 vK (gV v1 false (some a1)) fun v2 =>
 vK (gV v1 false (binV .i .gtr v2 (.int .i64 4194304))) fun v3 =>
 vK (pickV v1 (.bool true) v3) fun v4 =>
 vK (gV v4 false (some a0)) fun v5 =>
 vK (gV v4 false (binV .i .lss v5 (.int .i64 (-16384)))) fun v6 =>
 vK (pickV v4 (.bool true) v6) fun v7 =>
 vK (gV v7 false (some a0)) fun v8 =>
 vK (gV v7 false (binV .i .gtr v8 (.int .i64 16384))) fun v9 =>
 vK (pickV v7 (.bool true) v9) fun v10 =>
 iteK v10 (
 R (.int .i64 9223372036854775807) h) (
 vK (binV .i .mul a0 a0) fun v11 =>
 vK (binV .i .mul v11 (.int .i64 2147483648)) fun v12 =>
 vK (binV .i .mul a1 a1) fun v13 =>
 FCall prog zaR #[v12, (.int .i64 1099511627776), v13] h fun v14 h15 =>
 R v14 h15)
theorem zo1 (H : zju a0 a1 h R) : FCall prog zhr #[a0, a1] h R := fk f171 (.s .z (.s (.s .z (.s (.s .z .z) .z)) (.s .z .z))) H
def zkJ (a0 a1 : Value) (h : Heap) (R : Value → Heap → Prop) : Prop :=
 vK (binV .i .gtr a1 (.int .i64 0)) fun v1 =>
 vK (gV v1 true (some a0)) fun v2 =>
 vK (gV v1 true (some a1)) fun v3 =>
 vK (gV v1 true (binV .i .sub (.int .i64 9223372036854775807) v3)) fun v4 =>
 vK (gV v1 true (binV .i .gtr v2 v4)) fun v5 =>
 vK (pickV v1 v5 (.bool false)) fun v6 =>
 iteK v6 (
 R (.int .i64 9223372036854775807) h) (
 vK (binV .i .lss a1 (.int .i64 0)) fun v7 =>
 vK (gV v7 true (some a0)) fun v8 =>
 vK (gV v7 true (some a1)) fun v9 =>
 vK (gV v7 true (binV .i .sub (.int .i64 (-9223372036854775808)) v9)) fun v10 =>
 vK (gV v7 true (binV .i .lss v8 v10)) fun v11 =>
 vK (pickV v7 v11 (.bool false)) fun v12 =>
 iteK v12 (
 R (.int .i64 (-9223372036854775808)) h) (
 vK (binV .i .add a0 a1) fun v13 =>
 R v13 h))
theorem zqK (H : zkJ a0 a1 h R) : FCall prog zgp #[a0, a1] h R := fk f172 (.s .z (.s (.s .z (.s (.s .z .z) .z)) (.s (.s .z (.s (.s .z .z) .z)) (.s .z .z)))) H
def zjx (a0 a1 : Value) (h : Heap) (R : Value → Heap → Prop) : Prop :=
 newK #[(.int .u64 0), (.int .u64 0)] 214 h fun v1 h2 =>
 vK ((fillL #[(.int .u64 0), (.int .u64 0)] []).map .agg) fun v3 =>
 newK #[(.int .u64 0), (.int .u64 0)] 214 h2 fun v4 h5 =>
 stK 2 v4 v3 h5 fun v6 h7 =>
 loopK [(.int .i64 63)] h7 fun x8 j9 h10 again11 =>
 vK (binV .i .geq (ix x8 0) (.int .i64 0)) fun v12 =>
 iteK v12 (
 vK (ldsV 2 h10 v4) fun v13 =>
 FCall prog zbj #[v13, (.int .u64 0)] h10 fun v14 h15 =>
 stK 2 v4 v14 h15 fun v16 h17 =>
 vK (binV .i .shr a1 (ix x8 0)) fun v18 =>
 vK (binV .i .and v18 (.int .u64 1)) fun v19 =>
 vK (binV .i .eql v19 (.int .u64 1)) fun v20 =>
 iteK v20 (
 vK (ldsV 2 h17 v4) fun v21 =>
 vK ((fillL #[(.int .u64 0), (.int .u64 0)] [(0, 1, (.int .u64 0)), (1, 1, a0)]).map .agg) fun v22 =>
 FCall prog zcl #[v21, v22] h17 fun v23 h24 =>
 stK 2 v4 v23 h24 fun v25 h26 =>
 vK (binV .i .sub (ix x8 0) (.int .i64 1)) fun v27 =>
 again11 [v27] h26) (
 vK (binV .i .sub (ix x8 0) (.int .i64 1)) fun v28 =>
 again11 [v28] h17)) (
 vK (ldsV 2 h10 v4) fun v29 =>
 stK 2 v1 v29 h10 fun v30 h31 =>
 vK (ldsV 2 h31 v1) fun v32 =>
 R v32 h31)
theorem zo4 (H : zjx a0 a1 h R) : FCall prog ze5 #[a0, a1] h R := fk f173 (.s .z (.s .z (.s (.s .z (.l 8388416 [6] (.s (.s .z (.s .z .z)) (.s (.s .z (.s .z (.s .z .z))) .z)))) (.s .z .z)))) H
def zhO (a0 a1 a2 : Value) (h : Heap) (R : Value → Heap → Prop) : Prop :=
 newK (Value.cells a0) 214 h fun v1 h2 =>
 vK (ldsV 2 h2 v1) fun v3 =>
 FCall prog zgs #[v3, a1] h2 fun v4 h5 =>
 vK (extV v4 0) fun v6 =>
 vK (extV v4 1) fun v7 =>
 newK #[(.int .u64 0), (.int .u64 0)] 214 h5 fun v8 h9 =>
 stK 2 v8 v6 h9 fun v10 h11 =>
 vK ((fillL #[(.int .u64 0), (.int .u64 0)] [(0, 1, (.int .u64 0)), (1, 1, v7)]).map .agg) fun v12 =>
 FCall prog zbj #[v12, (.int .u64 0)] h11 fun v13 h14 =>
 newK #[(.int .u64 0), (.int .u64 0)] 214 h14 fun v15 h16 =>
 stK 2 v15 v13 h16 fun v17 h18 =>
 vK (ldsV 2 h18 v15) fun v19 =>
 vK ((fillL #[(.int .u64 0), (.int .u64 0)] [(0, 1, (.int .u64 0)), (1, 1, a1)]).map .agg) fun v20 =>
 FCall prog zcJ #[v19, v20] h18 fun v21 h22 =>
 vK (unV .not v21) fun v23 =>
 joinK (fun J24 =>
 iteK a2 (
 vK ((fillL #[(.int .u64 0), (.int .u64 0)] [(0, 1, (.int .u64 0)), (1, 1, a1)]).map .agg) fun v28 =>
 vK (ldsV 2 h22 v15) fun v29 =>
 FCall prog zcJ #[v28, v29] h22 fun v30 h31 =>
 J24 [v30] h31) (
 J24 [v23] h22))
 fun x25 j26 h27 =>
 iteK (ix x25 0) (
 vK (ldsV 2 h27 v8) fun v32 =>
 vK ((fillL #[(.int .u64 0), (.int .u64 0)] [(0, 1, (.int .u64 0)), (1, 1, (.int .u64 1))]).map .agg) fun v33 =>
 FCall prog zcl #[v32, v33] h27 fun v34 h35 =>
 stK 2 v8 v34 h35 fun v36 h37 =>
 vK (ldsV 2 h37 v8) fun v38 =>
 FCall prog za2 #[v38, a2] h37 fun v39 h40 =>
 R v39 h40) (
 vK (ldsV 2 h27 v8) fun v41 =>
 FCall prog za2 #[v41, a2] h27 fun v42 h43 =>
 R v42 h43)
theorem zm8 (H : zhO a0 a1 a2 h R) : FCall prog zfS #[a0, a1, a2] h R := fk f174 (.s .z (.s .z (.s .z (.s .z (.j 1040188416 [10] (.s .z (.s .z .z)) (.s (.s .z (.s .z .z)) (.s .z .z))))))) H
def zkU (a0 a1 a2 a3 : Value) (h : Heap) (R : Value → Heap → Prop) : Prop :=
 FCall prog zoR #[a0, a1, a2, a3] h fun v1 h2 =>
 vK (unV .not v1) fun v3 =>
 iteK v3 (
 R (.tuple #[(.int .i64 0), (.int .i64 0)]) h2) (
 vK (binV .i .mul a3 a1) fun v4 =>
 FCall prog zcX #[v4, a2] h2 fun v5 h6 =>
 vK (binV .i .add a3 (.int .i64 1)) fun v7 =>
 vK (binV .i .mul v7 a1) fun v8 =>
 FCall prog zjb #[v8, a2] h6 fun v9 h10 =>
 vK (binV .i .neq a0 (.int .i64 0)) fun v11 =>
 iteK v11 (
 vK (binV .i .mul (.int .i64 2) a3) fun v12 =>
 vK (binV .i .add v12 (.int .i64 1)) fun v13 =>
 vK (binV .i .mul v13 a1) fun v14 =>
 vK (binV .i .sub v14 a2) fun v15 =>
 vK (idxaV 3 2 (.pointer (some ⟨zbt, 0, none⟩)) a0) fun v16 =>
 vK (fldV 1 v16) fun v17 =>
 vK (ldV h10 v17) fun v18 =>
 vK (binV .i .mul v18 (.int .i64 2)) fun v19 =>
 vK (maxV a1 a2) fun v20 =>
 vK (binV .i .mul v19 v20) fun v21 =>
 vK (binV .i .sub v15 v21) fun v22 =>
 vK (binV .i .mul (.int .i64 2) a2) fun v23 =>
 FCall prog zcX #[v22, v23] h10 fun v24 h25 =>
 vK (binV .i .add v24 (.int .i64 1)) fun v26 =>
 vK (binV .i .add v15 v21) fun v27 =>
 vK (binV .i .mul (.int .i64 2) a2) fun v28 =>
 FCall prog zjb #[v27, v28] h25 fun v29 h30 =>
 vK (binV .i .sub v29 v26) fun v31 =>
 R (.tuple #[v26, v31]) h30) (
 vK (binV .i .sub v9 v5) fun v32 =>
 R (.tuple #[v5, v32]) h10))
theorem zqV (H : zkU a0 a1 a2 a3 h R) : FCall prog ziM #[a0, a1, a2, a3] h R := fk f175 (.s .z (.s (.s .z (.s (.s .z .z) .z)) (.s .z (.s (.s .z (.s (.s .z .z) .z)) (.s .z .z))))) H
def zmE (a0 a1 a2 a3 a4 : Value) (h : Heap) (R : Value → Heap → Prop) : Prop :=
 vK (binV .i .eql a0 (.int .i64 0)) fun v1 =>
 iteK v1 (
 vK (binV .i .add a3 (.int .i64 1)) fun v2 =>
 vK (binV .i .mul v2 a1) fun v3 =>
 vK (binV .i .add a4 (.int .i64 1)) fun v4 =>
 vK (binV .i .mul v4 a2) fun v5 =>
 vK (minV v3 v5) fun v6 =>
 vK (binV .i .mul a3 a1) fun v7 =>
 vK (binV .i .mul a4 a2) fun v8 =>
 vK (maxV v7 v8) fun v9 =>
 vK (binV .i .sub v6 v9) fun v10 =>
 FCall prog zba #[v10, (.int .i64 1073741824), a1] h fun v11 h12 =>
 R v11 h12) (
 vK (binV .i .mul (.int .i64 2) a2) fun v13 =>
 vK (binV .i .mul v13 a4) fun v14 =>
 vK (binV .i .mul (.int .i64 2) a3) fun v15 =>
 vK (binV .i .add v15 (.int .i64 1)) fun v16 =>
 vK (binV .i .mul v16 a1) fun v17 =>
 vK (binV .i .sub v14 v17) fun v18 =>
 vK (binV .i .add v18 a2) fun v19 =>
 vK (maxV a1 a2) fun v20 =>
 vK (binV .i .mul (.int .i64 2) v20) fun v21 =>
 vK (binV .i .eql a0 (.int .i64 1)) fun v22 =>
 iteK v22 (
 FCall prog zgY #[v19, v21] h fun v23 h24 =>
 R v23 h24) (
 FCall prog zgC #[v19, v21] h fun v25 h26 =>
 R v25 h26))
theorem ok_raw_weigh (H : zmE a0 a1 a2 a3 a4 h R) : FCall prog zkm #[a0, a1, a2, a3, a4] h R := fk f176 (.s .z (.s (.s .z (.s (.s .z (.s .z .z)) .z)) (.s .z (.s (.s .z (.s (.s .z .z) .z)) (.s .z .z))))) H
def zkB (a0 : Value) (h : Heap) (R : Value → Heap → Prop) : Prop :=
 vK (zag a0) fun v1 =>
 vK (binV .i .eql v1 (.int .i64 0)) fun v2 =>
 vK (gV v2 false (some a0)) fun v3 =>
 vK (gV v2 false (zag v3)) fun v4 =>
 vK (gV v2 false (binV .i .gtr v4 (.int .i64 1048576))) fun v5 =>
 vK (pickV v2 (.bool true) v5) fun v6 =>
 vK (gV v6 false (some a0)) fun v7 =>
 gK v6 false (fun k14 => FCall prog zaX #[v7, (.func (.func zdO) #[] #[])] h k14) h fun v8 h9 =>
 vK (pickV v6 (.bool true) v8) fun v10 =>
 iteK v10 (
 R (.int .i64 7) h9) (
 FCall prog zi9 #[a0] h9 fun v11 h12 =>
 vK (binV .i .lss v11 (.int .i64 268435456)) fun v13 =>
 iteK v13 (
 R (.int .i64 8) h12) (
 R (.int .i64 0) h12))
theorem zqC (H : zkB a0 h R) : FCall prog ziG #[a0] h R := fk f177 (.s .z (.s (.s .z (.s (.s .z .z) .z)) (.s (.s .z (.s (.s .z .z) .z)) (.s .z .z)))) H
def znC (a0 : Value) (h : Heap) (R : Value → Heap → Prop) : Prop :=
 vK (zag a0) fun v1 =>
 loopK [(.int .i64 0), (.int .i64 0)] h fun x2 j3 h4 again5 =>
 vK (binV .i .lss (ix x2 1) v1) fun v6 =>
 iteK v6 (
 vK (idxV 1 a0 (ix x2 1)) fun v7 =>
 vK (ldV h4 v7) fun v8 =>
 FCall prog zhE #[(ix x2 0), v8] h4 fun v9 h10 =>
 vK (binV .i .add (ix x2 1) (.int .i64 1)) fun v11 =>
 again5 [v9, v11] h10) (
 R (ix x2 0) h4)
theorem ok_taps_Sum (H : znC a0 h R) : FCall prog zi9 #[a0] h R := fk f178 (.s .z (.s .z (.s (.s .z (.l 65320 [3, 8] (.s .z (.s (.s .z .z) (.s (.s .z .z) .z))))) (.s .z .z)))) H
def zjN (a0 a1 : Value) (h : Heap) (R : Value → Heap → Prop) : Prop :=
 vK (binV .i .eql a1 (.int .i64 0)) fun v1 =>
 iteK v1 (
 R (.int .i64 0) h) (
 drawK h fun S =>
 FCall prog zcm #[a0] h fun v2 h3 =>
 FCall prog zcm #[a1] h3 fun v4 h5 =>
 vK (binV .i .quo v2 v4) fun v6 =>
 FCall prog zcm #[a0] h5 fun v7 h8 =>
 FCall prog zcm #[a1] h8 fun v9 h10 =>
 vK (binV .i .rem v7 v9) fun v11 =>
 vK (binV .i .lss a0 (.int .i64 0)) fun v12 =>
 vK (binV .i .lss a1 (.int .i64 0)) fun v13 =>
 vK (binV .b .neq v12 v13) fun v14 =>
 vK (gV v14 true (some v11)) fun v15 =>
 vK (gV v14 true (binV .i .neq v15 (.int .u64 0))) fun v16 =>
 vK (pickV v14 v16 (.bool false)) fun v17 =>
 iteK v17 (
 vK (binV .i .add v6 (.int .u64 1)) fun v18 =>
 FCall prog zdw #[v18, v14] h10 fun v19 h20 =>
 R v19 h20) (
 FCall prog zdw #[v6, v14] h10 fun v21 h22 =>
 R v21 h22))
theorem zpk (H : zjN a0 a1 h R) : FCall prog zcX #[a0, a1] h R := fk f179 (.s .z (.s (.s .z (.s (.s .z .z) .z)) (.s (.d (.op 0 .r (.op 2 .r (.op 5 .r (.op 7 .r (.op 1 .n (.op 3 .n (.op 4 .r (.op 6 .n (.op 8 .n (.op 9 .r (.op 10 .r (.op 11 .r .nil))))))))))))) (.s .z (.s (.s .z (.s .z .z)) (.s .z .z)))))) H
def zbD (a0 a1 : Value) (h : Heap) (R : Value → Heap → Prop) : Prop :=
 vK (zag a0) fun v1 =>
 FCall prog zbS #[a0, v1, a1] h fun v2 h3 =>
 R (.tuple #[]) h3
theorem zdh (H : zbD a0 a1 h R) : FCall prog za5 #[a0, a1] h R := fk f180 .z H
def zeR (a0 a1 a2 : Value) (h : Heap) (R : Value → Heap → Prop) : Prop :=
 drawK h fun S =>
 qK S (fun h => ldV h a2) fun v1 =>
 vK (idxV 1 v1 a1) fun v2 =>
 qK S (fun h => ldV h v2) fun v3 =>
 qK S (fun h => ldV h a2) fun v4 =>
 vK (idxV 1 v4 a0) fun v5 =>
 qK S (fun h => ldV h v5) fun v6 =>
 FCall prog zdn #[v3, v6] h fun v7 h8 =>
 R v7 h8
theorem zjf (H : zeR a0 a1 a2 h R) : FCall prog zdl #[a0, a1, a2] h R := fk f181 (.s .z (.s (.d (.op 0 .r (.op 1 .r (.op 2 .r (.op 3 .r (.op 4 .r (.op 5 .r (.op 6 .r (.op 7 .r (.op 8 .n (.op 9 .r .nil))))))))))) .z)) H
def zeY (a0 a1 : Value) (h : Heap) (R : Value → Heap → Prop) : Prop :=
 FCall prog zcY #[a0] h fun v1 h2 =>
 FCall prog zcY #[a1] h2 fun v3 h4 =>
 iteK v1 (
 iteK v3 (
 R (.int .i64 0) h4) (
 R (.int .i64 (-1)) h4)) (
 iteK v3 (
 R (.int .i64 1) h4) (
 vK (binV .i .lss a0 a1) fun v5 =>
 iteK v5 (
 R (.int .i64 (-1)) h4) (
 vK (binV .i .gtr a0 a1) fun v6 =>
 iteK v6 (
 R (.int .i64 1) h4) (
 R (.int .i64 0) h4))))
theorem zjm (H : zeY a0 a1 h R) : FCall prog zdn #[a0, a1] h R := fk f182 (.s .z (.s .z (.s .z (.s (.s .z (.s (.s (.s .z (.s (.s .z .z) .z)) (.s .z .z)) .z)) (.s (.s .z (.s (.s .z .z) .z)) (.s (.s .z (.s (.s .z .z) .z)) (.s (.s .z (.s (.s .z .z) .z)) (.s .z .z)))))))) H
def zmt (a0 : Value) (h : Heap) (R : Value → Heap → Prop) : Prop :=
 vK (zag a0) fun v1 =>
 loopK [(.int .i64 0), (.int .i64 0)] h fun x2 j3 h4 again5 =>
 vK (binV .i .lss (ix x2 1) v1) fun v6 =>
 iteK v6 (
 vK (idxV 1 a0 (ix x2 1)) fun v7 =>
 vK (ldV h4 v7) fun v8 =>
 FCall prog zhk #[v8] h4 fun v9 h10 =>
 FCall prog zhE #[(ix x2 0), v9] h10 fun v11 h12 =>
 vK (binV .i .add (ix x2 1) (.int .i64 1)) fun v13 =>
 again5 [v11, v13] h12) (
 R (ix x2 0) h4)
theorem ok_taps_Size (H : zmt a0 h R) : FCall prog zhl #[a0] h R := fk f183 (.s .z (.s .z (.s (.s .z (.l 130856 [3, 8] (.s .z (.s (.s .z .z) (.s (.s .z .z) .z))))) (.s .z .z)))) H
def zk3 (a0 a1 : Value) (h : Heap) (R : Value → Heap → Prop) : Prop :=
 FCall prog ziQ #[a0, a1] h fun v1 h2 =>
 FCall prog zmn #[v1] h2 fun v3 h4 =>
 FCall prog zcW #[v3, (.int .i64 10)] h4 fun v5 h6 =>
 R v5 h6
theorem zq4 (H : zk3 a0 a1 h R) : FCall prog ziR #[a0, a1] h R := fk f184 (.s .z (.s .z .z)) H
def zca (a0 a1 : Value) (h : Heap) (R : Value → Heap → Prop) : Prop :=
 joinK (fun J1 =>
 vK (binV .i .lss a1 (.int .i64 0)) fun v5 =>
 iteK v5 (
 failK h fun v6 h7 =>
 J1 [] h7) (
 J1 [] h))
 fun x2 j3 h4 =>
 vK (zag a0) fun v8 =>
 vK (cviV .u64 v8) fun v9 =>
 vK (cviV .u64 a1) fun v10 =>
 FCall prog zfV #[v9, v10] h4 fun v11 h12 =>
 vK (extV v11 0) fun v13 =>
 vK (extV v11 1) fun v14 =>
 joinK (fun J15 =>
 vK (binV .i .gtr v13 (.int .u64 0)) fun v19 =>
 vK (gV v19 false (some v14)) fun v20 =>
 vK (gV v19 false (binV .i .gtr v20 (.int .u64 9223372036854775807))) fun v21 =>
 vK (pickV v19 (.bool true) v21) fun v22 =>
 iteK v22 (
 failK h12 fun v23 h24 =>
 J15 [] h24) (
 J15 [] h12))
 fun x16 j17 h18 =>
 vK (cviV .i64 v14) fun v25 =>
 mkK (.int .i64 0) 2 1 8 v25 v25 h18 fun v26 h27 =>
 cpyK 1 v26 a0 h27 fun v28 h29 =>
 loopK [v28] h29 fun x30 j31 h32 again33 =>
 vK (zag v26) fun v34 =>
 vK (binV .i .lss (ix x30 0) v34) fun v35 =>
 iteK v35 (
 drawK h32 fun S =>
 vK (slcV 1 v26 (some (ix x30 0)) none) fun v36 =>
 vK (slcV 1 v26 none (some (ix x30 0))) fun v37 =>
 cpyK 1 v36 v37 h32 fun v38 h39 =>
 vK (binV .i .add (ix x30 0) v38) fun v40 =>
 again33 [v40] h39) (
 R v26 h32)
theorem zd5 (H : zca a0 a1 h R) : FCall prog zbm #[a0, a1] h R := fk f185 (.s .z (.j 3584 [] (.s .z (.s .z .z)) (.s .z (.j 266338304 [] (.s .z (.s .z .z)) (.s .z (.s .z (.s (.l 140720308486400 [8] (.s (.s .z (.s .z .z)) (.d (.op 0 .r (.op 1 .r (.op 2 .r (.op 3 .r (.op 4 .r (.op 5 .r (.op 6 .r (.op 7 .n (.op 8 .r (.op 9 .r .nil))))))))))))) (.s .z .z)))))))) H
def zjp (a0 a1 a2 : Value) (h : Heap) (R : Value → Heap → Prop) : Prop :=
 vK (binV .i .eql a2 (.int .i64 0)) fun v1 =>
 iteK v1 (
 R (.int .i64 0) h) (
 FCall prog zen #[a0, a1] h fun v2 h3 =>
 vK (extV v2 0) fun v4 =>
 vK (extV v2 1) fun v5 =>
 vK (extV v2 2) fun v6 =>
 FCall prog zfM #[a2] h3 fun v7 h8 =>
 vK (binV .i .lss a2 (.int .i64 0)) fun v9 =>
 vK (binV .b .neq v6 v9) fun v10 =>
 vK (binV .i .geq v4 v7) fun v11 =>
 iteK v11 (
 FCall prog za9 #[(.int .u64 1), (.int .u64 0), v10] h8 fun v12 h13 =>
 R v12 h13) (
 FCall prog zef #[v4, v5, v7] h8 fun v14 h15 =>
 vK (extV v14 0) fun v16 =>
 vK (extV v14 1) fun v17 =>
 vK (binV .i .sub v7 v17) fun v18 =>
 vK (gV v10 true (some v17)) fun v19 =>
 vK (gV v10 true (some v18)) fun v20 =>
 vK (gV v10 true (binV .i .gtr v19 v20)) fun v21 =>
 vK (pickV v10 v21 (.bool false)) fun v22 =>
 vK (gV v22 false (some v10)) fun v23 =>
 vK (gV v22 false (unV .not v23)) fun v24 =>
 vK (gV v22 false (some v24)) fun v25 =>
 vK (gV v25 true (some v17)) fun v26 =>
 vK (gV v25 true (some v18)) fun v27 =>
 vK (gV v25 true (binV .i .geq v26 v27)) fun v28 =>
 vK (gV v22 false (pickV v25 v28 (.bool false))) fun v29 =>
 vK (pickV v22 (.bool true) v29) fun v30 =>
 iteK v30 (
 FCall prog zbC #[v16, (.int .u64 1), (.int .u64 0)] h15 fun v31 h32 =>
 vK (extV v31 0) fun v33 =>
 vK (extV v31 1) fun v34 =>
 FCall prog za9 #[v34, v33, v10] h32 fun v35 h36 =>
 R v35 h36) (
 FCall prog zbC #[v16, (.int .u64 0), (.int .u64 0)] h15 fun v37 h38 =>
 vK (extV v37 0) fun v39 =>
 vK (extV v37 1) fun v40 =>
 FCall prog za9 #[v40, v39, v10] h38 fun v41 h42 =>
 R v41 h42)))
theorem zoW (H : zjp a0 a1 a2 h R) : FCall prog zba #[a0, a1, a2] h R := fk f186 (.s .z (.s (.s .z (.s (.s .z .z) .z)) (.s .z (.s .z (.s .z (.s (.s .z (.s (.s .z .z) .z)) (.s .z (.s .z (.s .z (.s (.s .z (.s .z .z)) (.s .z (.s .z .z)))))))))))) H
def znL (a0 a1 : Value) (h : Heap) (R : Value → Heap → Prop) : Prop :=
 vK (binV .i .lss a1 (.int .i64 1)) fun v1 =>
 vK (gV v1 false (some a1)) fun v2 =>
 vK (gV v1 false (binV .i .gtr v2 (.int .i64 262144))) fun v3 =>
 vK (pickV v1 (.bool true) v3) fun v4 =>
 vK (gV v4 false (some a0)) fun v5 =>
 vK (gV v4 false (some a1)) fun v6 =>
 vK (gV v4 false (binV .i .mul (.int .i64 2) v6)) fun v7 =>
 vK (gV v4 false (binV .i .geq v5 v7)) fun v8 =>
 vK (pickV v4 (.bool true) v8) fun v9 =>
 vK (gV v9 false (some a0)) fun v10 =>
 vK (gV v9 false (some a1)) fun v11 =>
 vK (gV v9 false (binV .i .mul (.int .i64 (-2)) v11)) fun v12 =>
 vK (gV v9 false (binV .i .leq v10 v12)) fun v13 =>
 vK (pickV v9 (.bool true) v13) fun v14 =>
 iteK v14 (
 R (.int .i64 0) h) (
 vK (unV .neg a0) fun v15 =>
 vK (maxV a0 v15) fun v16 =>
 vK (binV .i .mul (.int .i64 3) v16) fun v17 =>
 vK (binV .i .mul v17 v16) fun v18 =>
 vK (binV .i .mul v18 v16) fun v19 =>
 vK (binV .i .mul (.int .i64 5) v16) fun v20 =>
 vK (binV .i .mul v20 v16) fun v21 =>
 vK (binV .i .mul v21 a1) fun v22 =>
 vK (binV .i .sub v19 v22) fun v23 =>
 vK (binV .i .mul (.int .i64 2) a1) fun v24 =>
 vK (binV .i .mul v24 a1) fun v25 =>
 vK (binV .i .mul v25 a1) fun v26 =>
 vK (binV .i .add v23 v26) fun v27 =>
 vK (binV .i .geq v16 a1) fun v28 =>
 iteK v28 (
 vK (unV .neg v16) fun v29 =>
 vK (binV .i .mul v29 v16) fun v30 =>
 vK (binV .i .mul v30 v16) fun v31 =>
 vK (binV .i .mul (.int .i64 5) v16) fun v32 =>
 vK (binV .i .mul v32 v16) fun v33 =>
 vK (binV .i .mul v33 a1) fun v34 =>
 vK (binV .i .add v31 v34) fun v35 =>
 vK (binV .i .mul (.int .i64 8) v16) fun v36 =>
 vK (binV .i .mul v36 a1) fun v37 =>
 vK (binV .i .mul v37 a1) fun v38 =>
 vK (binV .i .sub v35 v38) fun v39 =>
 vK (binV .i .mul (.int .i64 4) a1) fun v40 =>
 vK (binV .i .mul v40 a1) fun v41 =>
 vK (binV .i .mul v41 a1) fun v42 =>
 vK (binV .i .add v39 v42) fun v43 =>
 vK (binV .i .mul (.int .i64 2) a1) fun v44 =>
 vK (binV .i .mul v44 a1) fun v45 =>
 vK (binV .i .mul v45 a1) fun v46 =>
 FCall prog zba #[v43, (.int .i64 1073741824), v46] h fun v47 h48 =>
 R v47 h48) (
 vK (binV .i .mul (.int .i64 2) a1) fun v49 =>
 vK (binV .i .mul v49 a1) fun v50 =>
 vK (binV .i .mul v50 a1) fun v51 =>
 FCall prog zba #[v27, (.int .i64 1073741824), v51] h fun v52 h53 =>
 R v52 h53))
theorem ok_raw_Keys (H : znL a0 a1 h R) : FCall prog zgY #[a0, a1] h R := fk f187 (.s .z (.s (.s .z (.s (.s .z .z) .z)) (.s .z (.s .z (.s (.s .z (.s .z .z)) (.s .z .z)))))) H
def zgP (a0 a1 a2 a3 : Value) (h : Heap) (R : Value → Heap → Prop) : Prop :=
 vK (binV .i .mul (.int .i64 2) a0) fun v1 =>
 joinK (fun J2 =>
 vK (binV .i .gtr a1 a0) fun v6 =>
 iteK v6 (
 vK (binV .i .mul (.int .i64 2) a1) fun v7 =>
 J2 [v7] h) (
 J2 [v1] h))
 fun x3 j4 h5 =>
 vK (binV .i .mul (.int .i64 2) a1) fun v8 =>
 vK (binV .i .mul v8 a3) fun v9 =>
 vK (binV .i .mul (.int .i64 2) a2) fun v10 =>
 vK (binV .i .add v10 (.int .i64 1)) fun v11 =>
 vK (binV .i .mul v11 a0) fun v12 =>
 vK (binV .i .sub v9 v12) fun v13 =>
 vK (binV .i .add v13 a1) fun v14 =>
 R (.tuple #[v14, (ix x3 0)]) h5
theorem zlY (H : zgP a0 a1 a2 a3 h R) : FCall prog zdf #[a0, a1, a2, a3] h R := fk f190 (.s .z (.s .z (.j 254976 [10] (.s .z (.s .z .z)) (.s .z .z)))) H
def zkO (a0 a1 : Value) (h : Heap) (R : Value → Heap → Prop) : Prop :=
 vK (binV .i .lss a1 (.int .i64 1)) fun v1 =>
 vK (gV v1 false (some a1)) fun v2 =>
 vK (gV v1 false (binV .i .gtr v2 (.int .i64 262144))) fun v3 =>
 vK (pickV v1 (.bool true) v3) fun v4 =>
 iteK v4 (
 R (.int .i64 0) h) (
 vK (binV .i .mul (.int .i64 2) a1) fun v5 =>
 vK (binV .i .geq a0 v5) fun v6 =>
 vK (gV v6 false (some a0)) fun v7 =>
 vK (gV v6 false (some a1)) fun v8 =>
 vK (gV v6 false (binV .i .mul (.int .i64 (-2)) v8)) fun v9 =>
 vK (gV v6 false (binV .i .leq v7 v9)) fun v10 =>
 vK (pickV v6 (.bool true) v10) fun v11 =>
 iteK v11 (
 R (.int .i64 0) h) (
 joinK (fun J12 =>
 vK (binV .i .lss a0 (.int .i64 0)) fun v16 =>
 iteK v16 (
 vK (unV .neg a0) fun v17 =>
 J12 [v17] h) (
 J12 [a0] h))
 fun x13 j14 h15 =>
 vK (binV .i .mul (ix x13 0) (ix x13 0)) fun v18 =>
 vK (binV .i .mul v18 (ix x13 0)) fun v19 =>
 vK (binV .i .mul a1 a1) fun v20 =>
 vK (binV .i .mul v20 a1) fun v21 =>
 vK (binV .i .lss (ix x13 0) a1) fun v22 =>
 iteK v22 (
 vK (binV .i .mul (.int .i64 3) v19) fun v23 =>
 vK (binV .i .mul (.int .i64 5) v18) fun v24 =>
 vK (binV .i .mul v24 a1) fun v25 =>
 vK (binV .i .sub v23 v25) fun v26 =>
 vK (binV .i .mul (.int .i64 2) v21) fun v27 =>
 vK (binV .i .add v26 v27) fun v28 =>
 vK (binV .i .mul (.int .i64 2) v21) fun v29 =>
 FCall prog zaR #[v28, (.int .i64 1073741824), v29] h15 fun v30 h31 =>
 R v30 h31) (
 vK (binV .i .mul (.int .i64 5) v18) fun v32 =>
 vK (binV .i .mul v32 a1) fun v33 =>
 vK (binV .i .sub v33 v19) fun v34 =>
 vK (binV .i .mul (.int .i64 8) (ix x13 0)) fun v35 =>
 vK (binV .i .mul v35 v20) fun v36 =>
 vK (binV .i .sub v34 v36) fun v37 =>
 vK (binV .i .mul (.int .i64 4) v21) fun v38 =>
 vK (binV .i .add v37 v38) fun v39 =>
 vK (binV .i .mul (.int .i64 2) v21) fun v40 =>
 FCall prog zaR #[v39, (.int .i64 1073741824), v40] h15 fun v41 h42 =>
 R v41 h42)))
theorem zqP (H : zkO a0 a1 h R) : FCall prog ziL #[a0, a1] h R := fk f191 (.s .z (.s (.s .z (.s (.s .z .z) .z)) (.s (.s .z (.s (.s .z .z) .z)) (.j 503316481 [0] (.s .z (.s .z .z)) (.s .z (.s .z (.s .z (.s .z (.s (.s .z (.s (.s .z .z) .z)) (.s .z .z)))))))))) H
def zhN (a0 a1 : Value) (h : Heap) (R : Value → Heap → Prop) : Prop :=
 FCall prog zkk #[a0, a1] h fun v1 h2 =>
 vK (unV .not v1) fun v3 =>
 vK (gV v3 false (some a0)) fun v4 =>
 vK (gV v3 false (some a1)) fun v5 =>
 vK (gV v3 false (binV .i .mul (.int .i64 3) v5)) fun v6 =>
 vK (gV v3 false (binV .i .geq v4 v6)) fun v7 =>
 vK (pickV v3 (.bool true) v7) fun v8 =>
 vK (gV v8 false (some a0)) fun v9 =>
 vK (gV v8 false (some a1)) fun v10 =>
 vK (gV v8 false (binV .i .mul (.int .i64 (-3)) v10)) fun v11 =>
 vK (gV v8 false (binV .i .leq v9 v11)) fun v12 =>
 vK (pickV v8 (.bool true) v12) fun v13 =>
 iteK v13 (
 R (.int .i64 0) h2) (
 FCall prog zer #[a0, a1] h2 fun v14 h15 =>
 vK (binV .i .mul (.int .i64 3) a1) fun v16 =>
 FCall prog zer #[a0, v16] h15 fun v17 h18 =>
 FCall prog zeO #[v14, v17, (.int .i64 40)] h18 fun v19 h20 =>
 FCall prog zcT #[v19, (.int .i64 10)] h20 fun v21 h22 =>
 R v21 h22)
theorem zm7 (H : zhN a0 a1 h R) : FCall prog zfR #[a0, a1] h R := fk f192 (.s .z (.s (.s .z (.s (.s .z .z) .z)) (.s .z (.s .z .z)))) H
def zkR (a0 a1 : Value) (h : Heap) (R : Value → Heap → Prop) : Prop :=
 newK (Value.cells a0) 214 h fun v1 h2 =>
 newK #[(.int .u64 0), (.int .u64 0)] 214 h2 fun v3 h4 =>
 vK ((fillL #[(.int .u64 0), (.int .u64 0)] []).map .agg) fun v5 =>
 newK #[(.int .u64 0), (.int .u64 0)] 214 h4 fun v6 h7 =>
 stK 2 v6 v5 h7 fun v8 h9 =>
 vK ((fillL #[(.int .u64 0), (.int .u64 0)] []).map .agg) fun v10 =>
 newK #[(.int .u64 0), (.int .u64 0)] 214 h9 fun v11 h12 =>
 stK 2 v11 v10 h12 fun v13 h14 =>
 vK (binV .i .eql a1 (.int .u64 0)) fun v15 =>
 iteK v15 (
 vK (ldsV 2 h14 v6) fun v16 =>
 stK 2 v3 v16 h14 fun v17 h18 =>
 vK (ldsV 2 h18 v3) fun v19 =>
 R (.tuple #[v19, (.int .u64 0)]) h18) (
 loopK [(.int .i64 127)] h14 fun x20 j21 h22 again23 =>
 vK (binV .i .geq (ix x20 0) (.int .i64 0)) fun v24 =>
 iteK v24 (
 drawK h22 fun S =>
 qK S (fun h22 => ldsV 2 h22 v11) fun v25 =>
 qK S (fun h22 => ldsV 2 h22 v1) fun v26 =>
 FCall prog zcp #[v26, (ix x20 0)] h22 fun v27 h28 =>
 S h28 ∧ (FCall prog zbj #[v25, v27] h28 fun v29 h30 =>
 stK 2 v11 v29 h30 fun v31 h32 =>
 vK (ldsV 2 h32 v6) fun v33 =>
 FCall prog zbj #[v33, (.int .u64 0)] h32 fun v34 h35 =>
 stK 2 v6 v34 h35 fun v36 h37 =>
 vK (ldsV 2 h37 v11) fun v38 =>
 vK ((fillL #[(.int .u64 0), (.int .u64 0)] [(0, 1, (.int .u64 0)), (1, 1, a1)]).map .agg) fun v39 =>
 FCall prog zcJ #[v38, v39] h37 fun v40 h41 =>
 vK (unV .not v40) fun v42 =>
 iteK v42 (
 vK (ldsV 2 h41 v11) fun v43 =>
 vK ((fillL #[(.int .u64 0), (.int .u64 0)] [(0, 1, (.int .u64 0)), (1, 1, a1)]).map .agg) fun v44 =>
 FCall prog ze6 #[v43, v44] h41 fun v45 h46 =>
 stK 2 v11 v45 h46 fun v47 h48 =>
 vK (fldV 1 v6) fun v49 =>
 vK (ldV h48 v49) fun v50 =>
 vK (binV .i .add v50 (.int .u64 1)) fun v51 =>
 vK (fldV 1 v6) fun v52 =>
 stK 1 v52 v51 h48 fun v53 h54 =>
 vK (binV .i .sub (ix x20 0) (.int .i64 1)) fun v55 =>
 again23 [v55] h54) (
 vK (binV .i .sub (ix x20 0) (.int .i64 1)) fun v56 =>
 again23 [v56] h41))) (
 drawK h22 fun S =>
 qK S (fun h22 => ldsV 2 h22 v6) fun v57 =>
 vK (fldV 1 v11) fun v58 =>
 qK S (fun h22 => ldV h22 v58) fun v59 =>
 stK 2 v3 v57 h22 fun v60 h61 =>
 S h61 ∧ (vK (ldsV 2 h61 v3) fun v62 =>
 R (.tuple #[v62, v59]) h61)))
theorem zqS (H : zkR a0 a1 h R) : FCall prog zgs #[a0, a1] h R := fk f193 (.s .z (.s .z (.s .z (.s (.s .z (.s (.s .z .z) .z)) (.s (.s .z (.l 274877890816 [8] (.s (.s .z (.s .z .z)) (.s (.s (.d (.op 0 .r (.op 1 .r (.op 2 .r (.op 3 .e (.op 4 .n (.op 5 .n .nil))))))) (.s .z (.s .z (.s (.s .z .z) .z)))) .z)))) (.s (.d (.op 0 .r (.op 1 .r (.op 2 .r (.op 3 .e (.op 4 .r .nil)))))) .z)))))) H
def zpw (a0 a1 a2 a3 : Value) (h : Heap) (R : Value → Heap → Prop) : Prop :=
 vK (binV .i .geq a0 (.int .i64 0)) fun v1 =>
 vK (gV v1 true (some a0)) fun v2 =>
 vK (gV v1 true (binV .i .lss v2 (.int .i64 3))) fun v3 =>
 vK (pickV v1 v3 (.bool false)) fun v4 =>
 vK (gV v4 true (some a1)) fun v5 =>
 vK (gV v4 true (binV .i .geq v5 (.int .i64 1))) fun v6 =>
 vK (pickV v4 v6 (.bool false)) fun v7 =>
 vK (gV v7 true (some a1)) fun v8 =>
 vK (gV v7 true (binV .i .leq v8 (.int .i64 65536))) fun v9 =>
 vK (pickV v7 v9 (.bool false)) fun v10 =>
 vK (gV v10 true (some a2)) fun v11 =>
 vK (gV v10 true (binV .i .geq v11 (.int .i64 1))) fun v12 =>
 vK (pickV v10 v12 (.bool false)) fun v13 =>
 vK (gV v13 true (some a2)) fun v14 =>
 vK (gV v13 true (binV .i .leq v14 (.int .i64 65536))) fun v15 =>
 vK (pickV v13 v15 (.bool false)) fun v16 =>
 vK (gV v16 true (some a3)) fun v17 =>
 vK (gV v16 true (binV .i .geq v17 (.int .i64 0))) fun v18 =>
 vK (pickV v16 v18 (.bool false)) fun v19 =>
 vK (gV v19 true (some a3)) fun v20 =>
 vK (gV v19 true (some a2)) fun v21 =>
 vK (gV v19 true (binV .i .lss v20 v21)) fun v22 =>
 vK (pickV v19 v22 (.bool false)) fun v23 =>
 R v23 h
theorem ok_raw_may (H : zpw a0 a1 a2 a3 h R) : FCall prog zoR #[a0, a1, a2, a3] h R := fk f194 (.s .z (.s .z .z)) H
def znJ (a0 a1 : Value) (h : Heap) (R : Value → Heap → Prop) : Prop :=
 vK (unV .neg a0) fun v1 =>
 FCall prog zcX #[v1, a1] h fun v2 h3 =>
 vK (unV .neg v2) fun v4 =>
 R v4 h3
theorem ok_raw_ceil (H : znJ a0 a1 h R) : FCall prog zjb #[a0, a1] h R := fk f195 (.s .z (.s .z .z)) H
def zie (a0 a1 : Value) (h : Heap) (R : Value → Heap → Prop) : Prop :=
 FCall prog zmi #[a0, a1] h fun v1 h2 =>
 vK (unV .not v1) fun v3 =>
 vK (gV v3 false (some a0)) fun v4 =>
 gK v3 false (fun k20 => FCall prog zhm #[v4] h2 k20) h2 fun v5 h6 =>
 vK (gV v3 false (some a1)) fun v7 =>
 vK (gV v3 false (binV .i .mul (.int .i64 3) v7)) fun v8 =>
 vK (gV v3 false (binV .i .geq v5 v8)) fun v9 =>
 vK (pickV v3 (.bool true) v9) fun v10 =>
 iteK v10 (
 R (.int .i64 0) h6) (
 FCall prog ze4 #[a0, a1] h6 fun v11 h12 =>
 vK (binV .i .mul (.int .i64 3) a1) fun v13 =>
 FCall prog ze4 #[a0, v13] h12 fun v14 h15 =>
 FCall prog zfN #[v11, v14, (.int .i64 40)] h15 fun v16 h17 =>
 FCall prog zcW #[v16, (.int .i64 10)] h17 fun v18 h19 =>
 R v18 h19)
theorem zn5 (H : zie a0 a1 h R) : FCall prog zgC #[a0, a1] h R := fk f196 (.s .z (.s (.s .z (.s (.s .z .z) .z)) (.s .z .z))) H
def zbw (a0 a1 : Value) (h : Heap) (R : Value → Heap → Prop) : Prop :=
 FCall prog zbX #[a0, a1] h fun v1 h2 =>
 vK (binV .i .geq v1 (.int .i64 0)) fun v3 =>
 R v3 h2
theorem zc1 (H : zbw a0 a1 h R) : FCall prog zaX #[a0, a1] h R := fk f197 (.s .z (.s .z .z)) H
def zhI (a0 : Value) (h : Heap) (R : Value → Heap → Prop) : Prop :=
 FCall prog zhk #[a0] h fun v1 h2 =>
 vK (binV .i .gtr v1 (.int .i64 1099511627776)) fun v3 =>
 R v3 h2
theorem zm2 (H : zhI a0 h R) : FCall prog zdO #[a0] h R := fk f198 (.s .z (.s .z .z)) H
def zmr (a0 : Value) (h : Heap) (R : Value → Heap → Prop) : Prop :=
 FCall prog zkp #[a0, (.int .i64 (-1))] h fun v1 h2 =>
 vK (maxV a0 v1) fun v3 =>
 R v3 h2
theorem ok_taps_size (H : zmr a0 h R) : FCall prog zhk #[a0] h R := fk f199 (.s .z (.s .z .z)) H
def zmN (a0 a1 : Value) (h : Heap) (R : Value → Heap → Prop) : Prop :=
 vK (binV .i .add a0 a1) fun v1 =>
 vK (binV .i .gtr a1 (.int .i64 0)) fun v2 =>
 vK (gV v2 true (some v1)) fun v3 =>
 vK (gV v2 true (some a0)) fun v4 =>
 vK (gV v2 true (binV .i .lss v3 v4)) fun v5 =>
 vK (pickV v2 v5 (.bool false)) fun v6 =>
 iteK v6 (
 R (.int .i64 9223372036854775807) h) (
 vK (binV .i .lss a1 (.int .i64 0)) fun v7 =>
 vK (gV v7 true (some v1)) fun v8 =>
 vK (gV v7 true (some a0)) fun v9 =>
 vK (gV v7 true (binV .i .gtr v8 v9)) fun v10 =>
 vK (pickV v7 v10 (.bool false)) fun v11 =>
 iteK v11 (
 R (.int .i64 (-9223372036854775808)) h) (
 R v1 h))
theorem ok_fixed_Add (H : zmN a0 a1 h R) : FCall prog zhE #[a0, a1] h R := fk f200 (.s .z (.s .z (.s (.s .z (.s (.s .z .z) (.s .z (.s (.s .z .z) .z)))) (.s .z .z)))) H
def zk0 (a0 : Value) (h : Heap) (R : Value → Heap → Prop) : Prop :=
 vK (binV .i .lss a0 (.int .i64 0)) fun v1 =>
 iteK v1 (
 vK (cviV .u64 a0) fun v2 =>
 vK (unV .neg v2) fun v3 =>
 R v3 h) (
 vK (cviV .u64 a0) fun v4 =>
 R v4 h)
theorem zq1 (H : zk0 a0 h R) : FCall prog zcm #[a0] h R := fk f201 (.s .z (.s (.s .z (.s (.s .z .z) .z)) (.s .z .z))) H
def zk1 (a0 a1 : Value) (h : Heap) (R : Value → Heap → Prop) : Prop :=
 vK (gV a1 true (some a0)) fun v1 =>
 vK (gV a1 true (binV .i .geq v1 (.int .u64 9223372036854775808))) fun v2 =>
 vK (pickV a1 v2 (.bool false)) fun v3 =>
 iteK v3 (
 R (.int .i64 (-9223372036854775808)) h) (
 iteK a1 (
 vK (cviV .i64 a0) fun v4 =>
 vK (unV .neg v4) fun v5 =>
 R v5 h) (
 vK (binV .i .gtr a0 (.int .u64 9223372036854775807)) fun v6 =>
 iteK v6 (
 R (.int .i64 9223372036854775807) h) (
 vK (cviV .i64 a0) fun v7 =>
 R v7 h)))
theorem zq2 (H : zk1 a0 a1 h R) : FCall prog zdw #[a0, a1] h R := fk f202 (.s .z (.s (.s .z (.s (.s .z .z) (.s .z (.s (.s .z .z) (.s .z (.s (.s .z .z) .z)))))) (.s .z .z))) H
def zcA (a0 a1 a2 : Value) (h : Heap) (R : Value → Heap → Prop) : Prop :=
 loopK [(.int .i64 0), (.int .i64 20)] h fun x1 j2 h3 again4 =>
 vK (binV .i .leq (ix x1 1) a1) fun v5 =>
 iteK v5 (
 FCall prog zaN #[a0, (ix x1 0), (ix x1 1), a2] h3 fun v6 h7 =>
 vK (binV .i .add (ix x1 1) (.int .i64 20)) fun v8 =>
 again4 [(ix x1 1), v8] h7) (
 FCall prog zaN #[a0, (ix x1 0), a1, a2] h3 fun v9 h10 =>
 loopK [(.int .i64 20)] h10 fun x11 j12 h13 again14 =>
 vK (binV .i .lss (ix x11 0) a1) fun v15 =>
 iteK v15 (
 vK (binV .i .mul (.int .i64 2) (ix x11 0)) fun v16 =>
 loopK [(.int .i64 0), v16] h13 fun x17 j18 h19 again20 =>
 vK (binV .i .leq (ix x17 1) a1) fun v21 =>
 iteK v21 (
 vK (binV .i .add (ix x17 0) (ix x11 0)) fun v22 =>
 FCall prog zax #[a0, (ix x17 0), v22, (ix x17 1), a2] h19 fun v23 h24 =>
 vK (binV .i .mul (.int .i64 2) (ix x11 0)) fun v25 =>
 vK (binV .i .add (ix x17 1) v25) fun v26 =>
 again20 [(ix x17 1), v26] h24) (
 vK (binV .i .add (ix x17 0) (ix x11 0)) fun v27 =>
 vK (binV .i .lss v27 a1) fun v28 =>
 iteK v28 (
 FCall prog zax #[a0, (ix x17 0), v27, a1, a2] h19 fun v29 h30 =>
 vK (binV .i .mul (ix x11 0) (.int .i64 2)) fun v31 =>
 again14 [v31] h30) (
 vK (binV .i .mul (ix x11 0) (.int .i64 2)) fun v32 =>
 again14 [v32] h19))) (
 R (.tuple #[]) h13))
theorem zfz (H : zcA a0 a1 a2 h R) : FCall prog zbS #[a0, a1, a2] h R := fk f203 (.s .z (.s .z (.s (.l 8386944 [7, 8] (.s (.s .z (.s .z .z)) (.s .z (.s .z .z)))) (.s .z (.l 9223372036586341312 [6] (.s (.s .z (.s .z .z)) (.s .z (.s (.l 562941363487104 [7, 8] (.s (.s .z (.s .z .z)) (.s .z (.s .z .z)))) (.s (.s .z (.s .z (.s .z .z))) .z))))))))) H
def zgc (a0 : Value) (h : Heap) (R : Value → Heap → Prop) : Prop :=
 vK (binV .i .neq a0 a0) fun v1 =>
 R v1 h
theorem zlp (H : zgc a0 h R) : FCall prog zcY #[a0] h R := fk f204 (.s .z (.s .z .z)) H
def znN (a0 : Value) (h : Heap) (R : Value → Heap → Prop) : Prop :=
 vK (maxV (.int .i64 0) a0) fun v1 =>
 vK (binV .i .quo v1 (.int .i64 762123384786)) fun v2 =>
 vK (binV .i .rem v1 (.int .i64 762123384786)) fun v3 =>
 loopK [(.int .i64 1099511627776), (.int .i64 1099511627776), (.int .i64 0)] h fun x4 j5 h6 again7 =>
 vK (binV .i .lss (ix x4 2) (.int .i64 16)) fun v8 =>
 iteK v8 (
 vK (binV .i .add (ix x4 2) (.int .i64 1)) fun v9 =>
 vK (binV .i .shl v9 (.int .u64 40)) fun v10 =>
 FCall prog zba #[(ix x4 1), v3, v10] h6 fun v11 h12 =>
 vK (binV .i .rem (ix x4 2) (.int .i64 2)) fun v13 =>
 vK (binV .i .eql v13 (.int .i64 0)) fun v14 =>
 iteK v14 (
 vK (binV .i .sub (ix x4 0) v11) fun v15 =>
 vK (binV .i .add (ix x4 2) (.int .i64 1)) fun v16 =>
 again7 [v15, v11, v16] h12) (
 vK (binV .i .add (ix x4 0) v11) fun v17 =>
 vK (binV .i .add (ix x4 2) (.int .i64 1)) fun v18 =>
 again7 [v17, v11, v18] h12)) (
 FCall prog zcW #[(ix x4 0), v2] h6 fun v19 h20 =>
 R v19 h20)
theorem ok_expo_Exp (H : znN a0 h R) : FCall prog zmn #[a0] h R := fk f205 (.s .z (.s .z (.s .z (.s .z (.s (.s .z (.l 8589918432 [5, 6, 14] (.s .z (.s (.s .z .z) (.s (.s .z (.s .z (.s .z (.s .z .z)))) .z))))) (.s .z .z)))))) H
def zk2 (a0 a1 : Value) (h : Heap) (R : Value → Heap → Prop) : Prop :=
 vK (binV .i .lss a1 (.int .i64 1)) fun v1 =>
 vK (gV v1 false (some a1)) fun v2 =>
 vK (gV v1 false (binV .i .gtr v2 (.int .i64 4194304))) fun v3 =>
 vK (pickV v1 (.bool true) v3) fun v4 =>
 vK (gV v4 false (some a0)) fun v5 =>
 vK (gV v4 false (binV .i .lss v5 (.int .i64 (-16384)))) fun v6 =>
 vK (pickV v4 (.bool true) v6) fun v7 =>
 vK (gV v7 false (some a0)) fun v8 =>
 vK (gV v7 false (binV .i .gtr v8 (.int .i64 16384))) fun v9 =>
 vK (pickV v7 (.bool true) v9) fun v10 =>
 iteK v10 (
 R (.int .i64 9223372036854775807) h) (
 vK (binV .i .mul a0 a0) fun v11 =>
 vK (binV .i .shl v11 (.int .u64 31)) fun v12 =>
 vK (binV .i .mul a1 a1) fun v13 =>
 FCall prog zba #[v12, (.int .i64 1099511627776), v13] h fun v14 h15 =>
 R v14 h15)
theorem zq3 (H : zk2 a0 a1 h R) : FCall prog ziQ #[a0, a1] h R := fk f206 (.s .z (.s (.s .z (.s (.s .z .z) .z)) (.s .z .z))) H
def zhR (a0 a1 : Value) (h : Heap) (R : Value → Heap → Prop) : Prop :=
 iteK (.bool false) (
 vK (cviV .u32 a0) fun v1 =>
 vK (cviV .u32 a1) fun v2 =>
 FCall prog zmm #[v1, v2] h fun v3 h4 =>
 vK (extV v3 0) fun v5 =>
 vK (extV v3 1) fun v6 =>
 vK (cviV .u64 v5) fun v7 =>
 vK (cviV .u64 v6) fun v8 =>
 R (.tuple #[v7, v8]) h4) (
 FCall prog zcU #[a0, a1] h fun v9 h10 =>
 vK (extV v9 0) fun v11 =>
 vK (extV v9 1) fun v12 =>
 R (.tuple #[v11, v12]) h10)
theorem znb (H : zhR a0 a1 h R) : FCall prog zfV #[a0, a1] h R := fk f207 (.s .z (.s (.s (.s .z (.s .z .z)) .z) (.s .z (.s .z .z)))) H
def zib (a0 a1 : Value) (h : Heap) (R : Value → Heap → Prop) : Prop :=
 FCall prog zfM #[a0] h fun v1 h2 =>
 FCall prog zfM #[a1] h2 fun v3 h4 =>
 FCall prog zcU #[v1, v3] h4 fun v5 h6 =>
 vK (extV v5 0) fun v7 =>
 vK (extV v5 1) fun v8 =>
 vK (binV .i .lss a0 (.int .i64 0)) fun v9 =>
 vK (binV .i .lss a1 (.int .i64 0)) fun v10 =>
 vK (binV .b .neq v9 v10) fun v11 =>
 R (.tuple #[v7, v8, v11]) h6
theorem zn2 (H : zib a0 a1 h R) : FCall prog zen #[a0, a1] h R := fk f208 (.s .z (.s .z (.s .z .z))) H
def zmq (a0 : Value) (h : Heap) (R : Value → Heap → Prop) : Prop :=
 vK (binV .i .lss a0 (.int .i64 0)) fun v1 =>
 iteK v1 (
 vK (cviV .u64 a0) fun v2 =>
 vK (unV .neg v2) fun v3 =>
 R v3 h) (
 vK (cviV .u64 a0) fun v4 =>
 R v4 h)
theorem ok_wide_size (H : zmq a0 h R) : FCall prog zfM #[a0] h R := fk f209 (.s .z (.s (.s .z (.s (.s .z .z) .z)) (.s .z .z))) H
def zjo (a0 a1 a2 : Value) (h : Heap) (R : Value → Heap → Prop) : Prop :=
 vK (gV a2 true (some a0)) fun v1 =>
 vK (gV a2 true (binV .i .gtr v1 (.int .u64 0))) fun v2 =>
 vK (gV a2 true (some v2)) fun v3 =>
 vK (gV v3 false (some a1)) fun v4 =>
 vK (gV v3 false (binV .i .gtr v4 (.int .u64 9223372036854775808))) fun v5 =>
 vK (gV a2 true (pickV v3 (.bool true) v5)) fun v6 =>
 vK (pickV a2 v6 (.bool false)) fun v7 =>
 iteK v7 (
 R (.int .i64 (-9223372036854775808)) h) (
 iteK a2 (
 vK (unV .neg a1) fun v8 =>
 vK (cviV .i64 v8) fun v9 =>
 R v9 h) (
 vK (binV .i .gtr a0 (.int .u64 0)) fun v10 =>
 vK (gV v10 false (some a1)) fun v11 =>
 vK (gV v10 false (binV .i .gtr v11 (.int .u64 9223372036854775807))) fun v12 =>
 vK (pickV v10 (.bool true) v12) fun v13 =>
 iteK v13 (
 R (.int .i64 9223372036854775807) h) (
 vK (cviV .i64 a1) fun v14 =>
 R v14 h)))
theorem zoV (H : zjo a0 a1 a2 h R) : FCall prog za9 #[a0, a1, a2] h R := fk f210 (.s .z (.s (.s .z (.s (.s .z .z) (.s .z (.s (.s .z .z) (.s .z (.s (.s .z .z) .z)))))) (.s .z .z))) H
def zgb (a0 a1 a2 : Value) (h : Heap) (R : Value → Heap → Prop) : Prop :=
 joinK (fun J1 =>
 vK (binV .i .eql a2 (.int .u64 0)) fun v5 =>
 iteK v5 (
 vK (ldV h (.pointer (some ⟨zhj, 0, none⟩))) fun v6 =>
 failK h fun v7 h8 =>
 J1 [] h8) (
 J1 [] h))
 fun x2 j3 h4 =>
 joinK (fun J9 =>
 vK (binV .i .leq a2 a0) fun v13 =>
 iteK v13 (
 vK (ldV h4 (.pointer (some ⟨zgz, 0, none⟩))) fun v14 =>
 failK h4 fun v15 h16 =>
 J9 [] h16) (
 J9 [] h4))
 fun x10 j11 h12 =>
 vK (binV .i .eql a0 (.int .u64 0)) fun v17 =>
 iteK v17 (
 vK (binV .i .quo a1 a2) fun v18 =>
 vK (binV .i .rem a1 a2) fun v19 =>
 R (.tuple #[v18, v19]) h12) (
 FCall prog zbU #[a2] h12 fun v20 h21 =>
 vK (cviV .u64 v20) fun v22 =>
 vK (binV .i .shl a2 v22) fun v23 =>
 vK (binV .i .shr v23 (.int .u64 32)) fun v24 =>
 vK (binV .i .and v23 (.int .u64 4294967295)) fun v25 =>
 vK (binV .i .shl a0 v22) fun v26 =>
 vK (binV .i .sub (.int .u64 64) v22) fun v27 =>
 vK (binV .i .shr a1 v27) fun v28 =>
 vK (binV .i .or v26 v28) fun v29 =>
 vK (binV .i .shl a1 v22) fun v30 =>
 vK (binV .i .shr v30 (.int .u64 32)) fun v31 =>
 vK (binV .i .and v30 (.int .u64 4294967295)) fun v32 =>
 vK (binV .i .quo v29 v24) fun v33 =>
 vK (binV .i .mul v33 v24) fun v34 =>
 vK (binV .i .sub v29 v34) fun v35 =>
 joinK (fun J36 =>
 loopK [v33, v35] h21 fun x40 j41 h42 again43 =>
 vK (binV .i .geq (ix x40 0) (.int .u64 4294967296)) fun v44 =>
 vK (gV v44 false (some (ix x40 0))) fun v45 =>
 vK (gV v44 false (some v25)) fun v46 =>
 vK (gV v44 false (binV .i .mul v45 v46)) fun v47 =>
 vK (gV v44 false (some (ix x40 1))) fun v48 =>
 vK (gV v44 false (binV .i .mul (.int .u64 4294967296) v48)) fun v49 =>
 vK (gV v44 false (some v31)) fun v50 =>
 vK (gV v44 false (binV .i .add v49 v50)) fun v51 =>
 vK (gV v44 false (binV .i .gtr v47 v51)) fun v52 =>
 vK (pickV v44 (.bool true) v52) fun v53 =>
 iteK v53 (
 vK (binV .i .sub (ix x40 0) (.int .u64 1)) fun v54 =>
 vK (binV .i .add (ix x40 1) v24) fun v55 =>
 vK (binV .i .geq v55 (.int .u64 4294967296)) fun v56 =>
 iteK v56 (
 J36 [v54] h42) (
 again43 [v54, v55] h42)) (
 J36 [(ix x40 0)] h42))
 fun x37 j38 h39 =>
 vK (binV .i .mul v29 (.int .u64 4294967296)) fun v57 =>
 vK (binV .i .add v57 v31) fun v58 =>
 vK (binV .i .mul (ix x37 0) v23) fun v59 =>
 vK (binV .i .sub v58 v59) fun v60 =>
 vK (binV .i .quo v60 v24) fun v61 =>
 vK (binV .i .mul v61 v24) fun v62 =>
 vK (binV .i .sub v60 v62) fun v63 =>
 joinK (fun J64 =>
 loopK [v63, v61] h39 fun x68 j69 h70 again71 =>
 vK (binV .i .geq (ix x68 1) (.int .u64 4294967296)) fun v72 =>
 vK (gV v72 false (some (ix x68 1))) fun v73 =>
 vK (gV v72 false (some v25)) fun v74 =>
 vK (gV v72 false (binV .i .mul v73 v74)) fun v75 =>
 vK (gV v72 false (some (ix x68 0))) fun v76 =>
 vK (gV v72 false (binV .i .mul (.int .u64 4294967296) v76)) fun v77 =>
 vK (gV v72 false (some v32)) fun v78 =>
 vK (gV v72 false (binV .i .add v77 v78)) fun v79 =>
 vK (gV v72 false (binV .i .gtr v75 v79)) fun v80 =>
 vK (pickV v72 (.bool true) v80) fun v81 =>
 iteK v81 (
 vK (binV .i .sub (ix x68 1) (.int .u64 1)) fun v82 =>
 vK (binV .i .add (ix x68 0) v24) fun v83 =>
 vK (binV .i .geq v83 (.int .u64 4294967296)) fun v84 =>
 iteK v84 (
 J64 [v82] h70) (
 again71 [v83, v82] h70)) (
 J64 [(ix x68 1)] h70))
 fun x65 j66 h67 =>
 vK (binV .i .mul (ix x37 0) (.int .u64 4294967296)) fun v85 =>
 vK (binV .i .add v85 (ix x65 0)) fun v86 =>
 vK (binV .i .mul v60 (.int .u64 4294967296)) fun v87 =>
 vK (binV .i .add v87 v32) fun v88 =>
 vK (binV .i .mul (ix x65 0) v23) fun v89 =>
 vK (binV .i .sub v88 v89) fun v90 =>
 vK (binV .i .shr v90 v22) fun v91 =>
 R (.tuple #[v86, v91]) h67)
theorem zlo (H : zgb a0 a1 a2 h R) : FCall prog zef #[a0, a1, a2] h R := fk f211 (.s .z (.j 3670016 [] (.s .z (.s .z .z)) (.j 62914560 [] (.s .z (.s .z .z)) (.s (.s .z (.s (.s .z .z) .z)) (.s .z (.s .z (.s .z (.s .z (.s .z (.s .z (.s .z (.s .z (.s .z (.s .z (.s (.m 77371104881383677504880640 [15] (.l 77371104881383677504880640 [15, 16] (.s (.s .z (.s .z .z)) (.s .z (.s .z (.s .z (.s .z .z))))))) (.s .z (.s .z (.s .z (.s (.m 2658450920967430832890008133748195328 [18] (.l 2658450920967430832890008133748195328 [16, 18] (.s (.s .z (.s .z .z)) (.s .z (.s .z (.s .z (.s .z .z))))))) (.s .z .z)))))))))))))))))))) H
def zmB (a0 a1 : Value) (h : Heap) (R : Value → Heap → Prop) : Prop :=
 vK (binV .i .lss a1 (.int .i64 1)) fun v1 =>
 vK (gV v1 false (some a1)) fun v2 =>
 vK (gV v1 false (binV .i .gtr v2 (.int .i64 1048576))) fun v3 =>
 vK (pickV v1 (.bool true) v3) fun v4 =>
 iteK v4 (
 R (.bool false) h) (
 vK (binV .i .mul (.int .i64 4) a1) fun v5 =>
 vK (binV .i .leq a0 v5) fun v6 =>
 vK (gV v6 true (some a0)) fun v7 =>
 vK (gV v6 true (some a1)) fun v8 =>
 vK (gV v6 true (binV .i .mul (.int .i64 (-4)) v8)) fun v9 =>
 vK (gV v6 true (binV .i .geq v7 v9)) fun v10 =>
 vK (pickV v6 v10 (.bool false)) fun v11 =>
 R v11 h)
theorem ok_ref04_May (H : zmB a0 a1 h R) : FCall prog zkk #[a0, a1] h R := fk f213 (.s .z (.s (.s .z (.s (.s .z .z) .z)) (.s .z .z))) H
def zgQ (a0 a1 a2 : Value) (h : Heap) (R : Value → Heap → Prop) : Prop :=
 joinK (fun J1 =>
 vK (binV .i .lss a2 (.int .i64 0)) fun v5 =>
 iteK v5 (
 J1 [(.int .i64 0)] h) (
 J1 [a2] h))
 fun x2 j3 h4 =>
 vK (binV .i .gtr (ix x2 0) (.int .i64 127)) fun v6 =>
 iteK v6 (
 R (.int .i64 0) h4) (
 vK (binV .i .lss a0 (.int .i64 0)) fun v7 =>
 vK (binV .i .lss a1 (.int .i64 0)) fun v8 =>
 vK (binV .b .neq v7 v8) fun v9 =>
 FCall prog zbA #[a0] h4 fun v10 h11 =>
 FCall prog zbA #[a1] h11 fun v12 h13 =>
 FCall prog ze5 #[v10, v12] h13 fun v14 h15 =>
 newK #[(.int .u64 0), (.int .u64 0)] 214 h15 fun v16 h17 =>
 stK 2 v16 v14 h17 fun v18 h19 =>
 vK (binV .i .eql (ix x2 0) (.int .i64 0)) fun v20 =>
 iteK v20 (
 vK (ldsV 2 h19 v16) fun v21 =>
 FCall prog za2 #[v21, v9] h19 fun v22 h23 =>
 R v22 h23) (
 vK ((fillL #[(.int .u64 0), (.int .u64 0)] []).map .agg) fun v24 =>
 newK #[(.int .u64 0), (.int .u64 0)] 214 h19 fun v25 h26 =>
 stK 2 v25 v24 h26 fun v27 h28 =>
 loopK [(.int .i64 127)] h28 fun x29 j30 h31 again32 =>
 vK (binV .i .geq (ix x29 0) (ix x2 0)) fun v33 =>
 iteK v33 (
 drawK h31 fun S =>
 qK S (fun h31 => ldsV 2 h31 v25) fun v34 =>
 qK S (fun h31 => ldsV 2 h31 v16) fun v35 =>
 FCall prog zcp #[v35, (ix x29 0)] h31 fun v36 h37 =>
 S h37 ∧ (FCall prog zbj #[v34, v36] h37 fun v38 h39 =>
 stK 2 v25 v38 h39 fun v40 h41 =>
 vK (binV .i .sub (ix x29 0) (.int .i64 1)) fun v42 =>
 again32 [v42] h41)) (
 vK (binV .i .sub (ix x2 0) (.int .i64 1)) fun v43 =>
 loopK [(.bool false), (.int .i64 0)] h31 fun x44 j45 h46 again47 =>
 vK (binV .i .lss (ix x44 1) v43) fun v48 =>
 iteK v48 (
 vK (gV (ix x44 0) false (ldsV 2 h46 v16)) fun v49 =>
 vK (gV (ix x44 0) false (some (ix x44 1))) fun v50 =>
 gK (ix x44 0) false (fun k56 => FCall prog zcp #[v49, v50] h46 k56) h46 fun v51 h52 =>
 vK (gV (ix x44 0) false (binV .i .eql v51 (.int .u64 1))) fun v53 =>
 vK (pickV (ix x44 0) (.bool true) v53) fun v54 =>
 vK (binV .i .add (ix x44 1) (.int .i64 1)) fun v55 =>
 again47 [v54, v55] h52) (
 vK (ldsV 2 h46 v16) fun v57 =>
 vK (binV .i .sub (ix x2 0) (.int .i64 1)) fun v58 =>
 FCall prog zcp #[v57, v58] h46 fun v59 h60 =>
 vK (binV .i .eql v59 (.int .u64 1)) fun v61 =>
 vK (gV v61 true (some (ix x44 0))) fun v62 =>
 vK (gV v61 true (some v62)) fun v63 =>
 vK (gV v63 false (some v9)) fun v64 =>
 vK (gV v63 false (unV .not v64)) fun v65 =>
 vK (gV v61 true (pickV v63 (.bool true) v65)) fun v66 =>
 vK (pickV v61 v66 (.bool false)) fun v67 =>
 iteK v67 (
 vK (ldsV 2 h60 v25) fun v68 =>
 vK ((fillL #[(.int .u64 0), (.int .u64 0)] [(1, 1, (.int .u64 1))]).map .agg) fun v69 =>
 FCall prog zcl #[v68, v69] h60 fun v70 h71 =>
 stK 2 v25 v70 h71 fun v72 h73 =>
 vK (ldsV 2 h73 v25) fun v74 =>
 FCall prog za2 #[v74, v9] h73 fun v75 h76 =>
 R v75 h76) (
 vK (ldsV 2 h60 v25) fun v77 =>
 FCall prog za2 #[v77, v9] h60 fun v78 h79 =>
 R v78 h79)))))
theorem zlZ (H : zgQ a0 a1 a2 h R) : FCall prog zeO #[a0, a1, a2] h R := fk f214 (.s .z (.j 24580 [2] (.s .z (.s .z .z)) (.s (.s .z (.s (.s .z .z) .z)) (.s .z (.s .z (.s (.s .z (.s (.s .z .z) .z)) (.s .z (.s (.s .z (.l 8787503088640 [10] (.s (.s .z (.s .z .z)) (.s (.d (.op 0 .r (.op 1 .r (.op 2 .r (.op 3 .e (.op 4 .n (.op 5 .n .nil))))))) .z)))) (.s .z (.s (.s .z (.l 72022409665845248 [11, 45] (.s .z (.s (.s .z .z) (.s (.s .z .z) .z))))) (.s (.s .z (.s .z .z)) (.s .z .z)))))))))))) H
def zii (a0 a1 : Value) (h : Heap) (R : Value → Heap → Prop) : Prop :=
 joinK (fun J1 =>
 vK (binV .i .lss a0 (.int .i64 0)) fun v5 =>
 iteK v5 (
 vK (unV .neg a0) fun v6 =>
 J1 [v6] h) (
 J1 [a0] h))
 fun x2 j3 h4 =>
 FCall prog zaR #[(.int .i64 10851744800547), (ix x2 0), a1] h4 fun v7 h8 =>
 FCall prog zaR #[v7, (ix x2 0), a1] h8 fun v9 h10 =>
 loopK [(.int .i64 1099511627776), (.int .i64 0), (.int .i64 1099511627776), (.int .i64 1)] h10 fun x11 j12 h13 again14 =>
 vK (binV .i .leq (ix x11 3) (.int .i64 30)) fun v15 =>
 iteK v15 (
 vK (binV .i .mul (.int .i64 2) (ix x11 3)) fun v16 =>
 vK (binV .i .mul (.int .i64 2) (ix x11 3)) fun v17 =>
 vK (binV .i .add v17 (.int .i64 1)) fun v18 =>
 vK (binV .i .mul v16 v18) fun v19 =>
 vK (binV .i .mul v19 (.int .i64 1099511627776)) fun v20 =>
 FCall prog zaR #[(ix x11 2), v9, v20] h13 fun v21 h22 =>
 vK (binV .i .rem (ix x11 3) (.int .i64 2)) fun v23 =>
 vK (binV .i .eql v23 (.int .i64 1)) fun v24 =>
 iteK v24 (
 vK (binV .i .add (ix x11 1) v21) fun v25 =>
 vK (binV .i .add (ix x11 3) (.int .i64 1)) fun v26 =>
 again14 [(ix x11 0), v25, v21, v26] h22) (
 vK (binV .i .add (ix x11 0) v21) fun v27 =>
 vK (binV .i .add (ix x11 3) (.int .i64 1)) fun v28 =>
 again14 [v27, (ix x11 1), v21, v28] h22)) (
 vK (binV .i .sub (ix x11 0) (ix x11 1)) fun v29 =>
 R v29 h13)
theorem zn9 (H : zii a0 a1 h R) : FCall prog zer #[a0, a1] h R := fk f215 (.s .z (.j 61441 [0] (.s .z (.s .z .z)) (.s .z (.s .z (.s .z (.s .z (.s .z (.s (.s .z (.l 140737479970688 [7, 8, 9, 10] (.s (.s .z (.s .z .z)) (.s (.s .z (.s .z (.s .z (.s .z .z)))) .z)))) (.s .z .z))))))))) H
def znD (a0 a1 : Value) (h : Heap) (R : Value → Heap → Prop) : Prop :=
 vK (binV .i .geq a1 (.int .i64 1)) fun v1 =>
 vK (gV v1 true (some a1)) fun v2 =>
 vK (gV v1 true (binV .i .leq v2 (.int .i64 1048576))) fun v3 =>
 vK (pickV v1 v3 (.bool false)) fun v4 =>
 vK (gV v4 true (some a0)) fun v5 =>
 vK (gV v4 true (some a1)) fun v6 =>
 vK (gV v4 true (binV .i .mul (.int .i64 (-4)) v6)) fun v7 =>
 vK (gV v4 true (binV .i .geq v5 v7)) fun v8 =>
 vK (pickV v4 v8 (.bool false)) fun v9 =>
 vK (gV v9 true (some a0)) fun v10 =>
 vK (gV v9 true (some a1)) fun v11 =>
 vK (gV v9 true (binV .i .mul (.int .i64 4) v11)) fun v12 =>
 vK (gV v9 true (binV .i .leq v10 v12)) fun v13 =>
 vK (pickV v9 v13 (.bool false)) fun v14 =>
 R v14 h
theorem ok_sinc_May (H : znD a0 a1 h R) : FCall prog zmi #[a0, a1] h R := fk f216 (.s .z (.s .z .z)) H
def zmv (a0 : Value) (h : Heap) (R : Value → Heap → Prop) : Prop :=
 vK (unV .neg a0) fun v1 =>
 vK (maxV a0 v1) fun v2 =>
 R v2 h
theorem ok_sinc_size (H : zmv a0 h R) : FCall prog zhm #[a0] h R := fk f217 (.s .z (.s .z .z)) H
def zhH (a0 a1 a2 : Value) (h : Heap) (R : Value → Heap → Prop) : Prop :=
 vK (maxV (.int .i64 0) a2) fun v1 =>
 vK (binV .i .geq v1 (.int .i64 128)) fun v2 =>
 iteK v2 (
 R (.int .i64 0) h) (
 FCall prog zen #[a0, a1] h fun v3 h4 =>
 vK (extV v3 0) fun v5 =>
 vK (extV v3 1) fun v6 =>
 vK (extV v3 2) fun v7 =>
 vK (binV .i .eql v1 (.int .i64 0)) fun v8 =>
 iteK v8 (
 FCall prog za9 #[v5, v6, v7] h4 fun v9 h10 =>
 R v9 h10) (
 FCall prog zgn #[v5, v6, v1] h4 fun v11 h12 =>
 vK (extV v11 0) fun v13 =>
 vK (extV v11 1) fun v14 =>
 vK (binV .i .sub v1 (.int .i64 1)) fun v15 =>
 FCall prog zgn #[v5, v6, v15] h12 fun v16 h17 =>
 vK (extV v16 0) fun v18 =>
 vK (extV v16 1) fun v19 =>
 vK (binV .i .and v19 (.int .u64 1)) fun v20 =>
 vK (binV .i .eql v20 (.int .u64 0)) fun v21 =>
 vK (gV v21 false (some v7)) fun v22 =>
 vK (gV v21 false (some v22)) fun v23 =>
 vK (gV v23 true (some v5)) fun v24 =>
 vK (gV v23 true (some v6)) fun v25 =>
 vK (gV v23 true (some v1)) fun v26 =>
 vK (gV v23 true (binV .i .sub v26 (.int .i64 1))) fun v27 =>
 gK v23 true (fun k41 => FCall prog ziF #[v24, v25, v27] h17 k41) h17 fun v28 h29 =>
 vK (gV v21 false (pickV v23 v28 (.bool false))) fun v30 =>
 vK (pickV v21 (.bool true) v30) fun v31 =>
 iteK v31 (
 FCall prog za9 #[v13, v14, v7] h29 fun v32 h33 =>
 R v32 h33) (
 FCall prog zbC #[v14, (.int .u64 1), (.int .u64 0)] h29 fun v34 h35 =>
 vK (extV v34 0) fun v36 =>
 vK (extV v34 1) fun v37 =>
 vK (binV .i .add v13 v37) fun v38 =>
 FCall prog za9 #[v38, v36, v7] h35 fun v39 h40 =>
 R v39 h40)))
theorem zm1 (H : zhH a0 a1 a2 h R) : FCall prog zfN #[a0, a1, a2] h R := fk f218 (.s .z (.s .z (.s (.s .z (.s (.s .z .z) .z)) (.s .z (.s (.s .z (.s (.s .z .z) .z)) (.s .z (.s .z (.s (.s .z (.s (.s .z .z) .z)) (.s .z (.s .z .z)))))))))) H
def zjq (a0 a1 : Value) (h : Heap) (R : Value → Heap → Prop) : Prop :=
 FCall prog zhm #[a0] h fun v1 h2 =>
 FCall prog zba #[(.int .i64 10851744800547), v1, a1] h2 fun v3 h4 =>
 FCall prog zba #[v3, v1, a1] h4 fun v5 h6 =>
 loopK [(.int .i64 1099511627776), (.int .i64 1099511627776), (.int .i64 1), (.int .i64 1)] h6 fun x7 j8 h9 again10 =>
 vK (binV .i .leq (ix x7 3) (.int .i64 30)) fun v11 =>
 iteK v11 (
 vK (unV .neg (ix x7 2)) fun v12 =>
 vK (binV .i .mul (.int .i64 2) (ix x7 3)) fun v13 =>
 vK (binV .i .mul (.int .i64 2) (ix x7 3)) fun v14 =>
 vK (binV .i .add v14 (.int .i64 1)) fun v15 =>
 vK (binV .i .mul v13 v15) fun v16 =>
 vK (binV .i .shl v16 (.int .u64 40)) fun v17 =>
 FCall prog zba #[(ix x7 1), v5, v17] h9 fun v18 h19 =>
 vK (binV .i .mul v12 v18) fun v20 =>
 vK (binV .i .add (ix x7 0) v20) fun v21 =>
 vK (binV .i .add (ix x7 3) (.int .i64 1)) fun v22 =>
 again10 [v21, v18, v12, v22] h19) (
 R (ix x7 0) h9)
theorem zoX (H : zjq a0 a1 h R) : FCall prog ze4 #[a0, a1] h R := fk f219 (.s .z (.s .z (.s .z (.s .z (.s (.s .z (.l 549755552704 [6, 7, 8, 9] (.s (.s .z (.s .z .z)) (.s (.s .z (.s .z .z)) .z)))) (.s .z .z)))))) H
def zbR (a0 a1 : Value) (h : Heap) (R : Value → Heap → Prop) : Prop :=
 vK (zag a0) fun v1 =>
 loopK [(.int .i64 0)] h fun x2 j3 h4 again5 =>
 vK (binV .i .lss (ix x2 0) v1) fun v6 =>
 iteK v6 (
 vK (idxV 1 a0 (ix x2 0)) fun v7 =>
 vK (ldV h4 v7) fun v8 =>
 clK prog a1 #[v8] h4 fun v9 h10 =>
 iteK v9 (
 R (ix x2 0) h10) (
 vK (binV .i .add (ix x2 0) (.int .i64 1)) fun v11 =>
 again5 [v11] h10)) (
 R (.int .i64 (-1)) h4)
theorem zdy (H : zbR a0 a1 h R) : FCall prog zbX #[a0, a1] h R := fk f220 (.s .z (.s (.s .z (.l 524080 [8] (.s .z (.s (.s .z .z) (.s (.s .z (.s .z (.s (.s .z .z) .z))) .z))))) (.s .z .z))) H
def zmL (a0 a1 : Value) (h : Heap) (R : Value → Heap → Prop) : Prop :=
 FCall prog zcm #[a0] h fun v1 h2 =>
 FCall prog zcm #[a1] h2 fun v3 h4 =>
 FCall prog zcU #[v1, v3] h4 fun v5 h6 =>
 vK (extV v5 0) fun v7 =>
 vK (extV v5 1) fun v8 =>
 vK (binV .i .neq v7 (.int .u64 0)) fun v9 =>
 iteK v9 (
 vK (binV .i .lss a0 (.int .i64 0)) fun v10 =>
 vK (binV .i .lss a1 (.int .i64 0)) fun v11 =>
 vK (binV .b .neq v10 v11) fun v12 =>
 FCall prog zdw #[(.int .u64 18446744073709551615), v12] h6 fun v13 h14 =>
 R v13 h14) (
 vK (binV .i .lss a0 (.int .i64 0)) fun v15 =>
 vK (binV .i .lss a1 (.int .i64 0)) fun v16 =>
 vK (binV .b .neq v15 v16) fun v17 =>
 FCall prog zdw #[v8, v17] h6 fun v18 h19 =>
 R v18 h19)
theorem ok_fixed_Mul (H : zmL a0 a1 h R) : FCall prog zkp #[a0, a1] h R := fk f221 (.s .z (.s .z (.s (.s .z (.s .z .z)) (.s .z .z)))) H
def zbQ (a0 a1 a2 a3 : Value) (h : Heap) (R : Value → Heap → Prop) : Prop :=
 vK (binV .i .add a1 (.int .i64 1)) fun v1 =>
 loopK [v1] h fun x2 j3 h4 again5 =>
 vK (binV .i .lss (ix x2 0) a2) fun v6 =>
 iteK v6 (
 loopK [(ix x2 0)] h4 fun x7 j8 h9 again10 =>
 drawK h9 fun S =>
 vK (binV .i .gtr (ix x7 0) a1) fun v11 =>
 vK (gV v11 true (some a3)) fun v12 =>
 vK (gV v11 true (some a0)) fun v13 =>
 vK (gV v11 true (some (ix x7 0))) fun v14 =>
 vK (gV v11 true (idxV 1 v13 v14)) fun v15 =>
 qK S (fun h9 => gV v11 true (ldV h9 v15)) fun v16 =>
 vK (gV v11 true (some a0)) fun v17 =>
 vK (gV v11 true (some (ix x7 0))) fun v18 =>
 vK (gV v11 true (binV .i .sub v18 (.int .i64 1))) fun v19 =>
 vK (gV v11 true (idxV 1 v17 v19)) fun v20 =>
 qK S (fun h9 => gV v11 true (ldV h9 v20)) fun v21 =>
 gK v11 true (fun k40 => clK prog v12 #[v16, v21] h9 k40) h9 fun v22 h23 =>
 vK (gV v11 true (binV .i .lss v22 (.int .i64 0))) fun v24 =>
 vK (pickV v11 v24 (.bool false)) fun v25 =>
 iteK v25 (
 drawK h23 fun S =>
 vK (binV .i .sub (ix x7 0) (.int .i64 1)) fun v26 =>
 vK (binV .i .sub (ix x7 0) (.int .i64 1)) fun v27 =>
 vK (idxV 1 a0 v27) fun v28 =>
 qK S (fun h23 => ldV h23 v28) fun v29 =>
 vK (idxV 1 a0 (ix x7 0)) fun v30 =>
 qK S (fun h23 => ldV h23 v30) fun v31 =>
 vK (idxV 1 a0 (ix x7 0)) fun v32 =>
 stK 1 v32 v29 h23 fun v33 h34 =>
 vK (idxV 1 a0 v26) fun v35 =>
 stK 1 v35 v31 h34 fun v36 h37 =>
 vK (binV .i .sub (ix x7 0) (.int .i64 1)) fun v38 =>
 again10 [v38] h37) (
 vK (binV .i .add (ix x2 0) (.int .i64 1)) fun v39 =>
 again5 [v39] h23)) (
 R (.tuple #[]) h4)
theorem zdx (H : zbQ a0 a1 a2 a3 h R) : FCall prog zaN #[a0, a1, a2, a3] h R := fk f222 (.s .z (.l 9007199254737664 [8] (.s (.s .z (.s .z .z)) (.s (.s .z (.l 9007199254479360 [9] (.s (.s (.d (.op 0 .r (.op 1 .r (.op 2 .r (.op 3 .r (.op 4 .r (.op 5 .r (.op 6 .r (.op 7 .r (.op 8 .r (.op 9 .r (.op 10 .r (.op 11 .r (.op 12 .r (.op 13 .r (.op 14 .n (.op 15 .r (.op 16 .r .nil)))))))))))))))))) (.s .z .z)) (.s (.d (.op 0 .r (.op 1 .r (.op 2 .r (.op 3 .r (.op 4 .r (.op 5 .r (.op 6 .r (.op 7 .r (.op 8 .r (.op 9 .r (.op 10 .r (.op 11 .r (.op 12 .r (.op 13 .r (.op 14 .r (.op 15 .n (.op 16 .r (.op 17 .n .nil))))))))))))))))))) .z)))) .z)))) H
def zcr (a0 a1 a2 a3 a4 : Value) (h : Heap) (R : Value → Heap → Prop) : Prop :=
 vK (binV .i .sub a2 a1) fun v1 =>
 vK (binV .i .eql v1 (.int .i64 1)) fun v2 =>
 iteK v2 (
 loopK [a2, a3] h fun x3 j4 h5 again6 =>
 vK (binV .i .lss (ix x3 0) (ix x3 1)) fun v7 =>
 iteK v7 (
 vK (binV .i .add (ix x3 0) (ix x3 1)) fun v8 =>
 vK (cviV .u64 v8) fun v9 =>
 vK (binV .i .shr v9 (.int .u64 1)) fun v10 =>
 vK (cviV .i64 v10) fun v11 =>
 drawK h5 fun S =>
 vK (idxV 1 a0 v11) fun v12 =>
 qK S (fun h5 => ldV h5 v12) fun v13 =>
 vK (idxV 1 a0 a1) fun v14 =>
 qK S (fun h5 => ldV h5 v14) fun v15 =>
 clK prog a4 #[v13, v15] h5 fun v16 h17 =>
 vK (binV .i .lss v16 (.int .i64 0)) fun v18 =>
 iteK v18 (
 vK (binV .i .add v11 (.int .i64 1)) fun v19 =>
 again6 [v19, (ix x3 1)] h17) (
 again6 [(ix x3 0), v11] h17)) (
 loopK [a1] h5 fun x20 j21 h22 again23 =>
 vK (binV .i .sub (ix x3 0) (.int .i64 1)) fun v24 =>
 vK (binV .i .lss (ix x20 0) v24) fun v25 =>
 iteK v25 (
 drawK h22 fun S =>
 vK (binV .i .add (ix x20 0) (.int .i64 1)) fun v26 =>
 vK (binV .i .add (ix x20 0) (.int .i64 1)) fun v27 =>
 vK (idxV 1 a0 v27) fun v28 =>
 qK S (fun h22 => ldV h22 v28) fun v29 =>
 vK (idxV 1 a0 (ix x20 0)) fun v30 =>
 qK S (fun h22 => ldV h22 v30) fun v31 =>
 vK (idxV 1 a0 (ix x20 0)) fun v32 =>
 stK 1 v32 v29 h22 fun v33 h34 =>
 vK (idxV 1 a0 v26) fun v35 =>
 stK 1 v35 v31 h34 fun v36 h37 =>
 vK (binV .i .add (ix x20 0) (.int .i64 1)) fun v38 =>
 again23 [v38] h37) (
 R (.tuple #[]) h22))) (
 vK (binV .i .sub a3 a2) fun v39 =>
 vK (binV .i .eql v39 (.int .i64 1)) fun v40 =>
 iteK v40 (
 loopK [a1, a2] h fun x41 j42 h43 again44 =>
 vK (binV .i .lss (ix x41 0) (ix x41 1)) fun v45 =>
 iteK v45 (
 vK (binV .i .add (ix x41 0) (ix x41 1)) fun v46 =>
 vK (cviV .u64 v46) fun v47 =>
 vK (binV .i .shr v47 (.int .u64 1)) fun v48 =>
 vK (cviV .i64 v48) fun v49 =>
 drawK h43 fun S =>
 vK (idxV 1 a0 a2) fun v50 =>
 qK S (fun h43 => ldV h43 v50) fun v51 =>
 vK (idxV 1 a0 v49) fun v52 =>
 qK S (fun h43 => ldV h43 v52) fun v53 =>
 clK prog a4 #[v51, v53] h43 fun v54 h55 =>
 vK (binV .i .lss v54 (.int .i64 0)) fun v56 =>
 vK (unV .not v56) fun v57 =>
 iteK v57 (
 vK (binV .i .add v49 (.int .i64 1)) fun v58 =>
 again44 [v58, (ix x41 1)] h55) (
 again44 [(ix x41 0), v49] h55)) (
 loopK [a2] h43 fun x59 j60 h61 again62 =>
 vK (binV .i .gtr (ix x59 0) (ix x41 0)) fun v63 =>
 iteK v63 (
 drawK h61 fun S =>
 vK (binV .i .sub (ix x59 0) (.int .i64 1)) fun v64 =>
 vK (binV .i .sub (ix x59 0) (.int .i64 1)) fun v65 =>
 vK (idxV 1 a0 v65) fun v66 =>
 qK S (fun h61 => ldV h61 v66) fun v67 =>
 vK (idxV 1 a0 (ix x59 0)) fun v68 =>
 qK S (fun h61 => ldV h61 v68) fun v69 =>
 vK (idxV 1 a0 (ix x59 0)) fun v70 =>
 stK 1 v70 v67 h61 fun v71 h72 =>
 vK (idxV 1 a0 v64) fun v73 =>
 stK 1 v73 v69 h72 fun v74 h75 =>
 vK (binV .i .sub (ix x59 0) (.int .i64 1)) fun v76 =>
 again62 [v76] h75) (
 R (.tuple #[]) h61))) (
 vK (binV .i .add a1 a3) fun v77 =>
 vK (cviV .u64 v77) fun v78 =>
 vK (binV .i .shr v78 (.int .u64 1)) fun v79 =>
 vK (cviV .i64 v79) fun v80 =>
 vK (binV .i .add v80 a2) fun v81 =>
 joinK (fun J82 =>
 vK (binV .i .gtr a2 v80) fun v86 =>
 iteK v86 (
 vK (binV .i .sub v81 a3) fun v87 =>
 J82 [v87, v80] h) (
 J82 [a1, a2] h))
 fun x83 j84 h85 =>
 vK (binV .i .sub v81 (.int .i64 1)) fun v88 =>
 loopK [(ix x83 0), (ix x83 1)] h85 fun x89 j90 h91 again92 =>
 vK (binV .i .lss (ix x89 0) (ix x89 1)) fun v93 =>
 iteK v93 (
 vK (binV .i .add (ix x89 0) (ix x89 1)) fun v94 =>
 vK (cviV .u64 v94) fun v95 =>
 vK (binV .i .shr v95 (.int .u64 1)) fun v96 =>
 vK (cviV .i64 v96) fun v97 =>
 drawK h91 fun S =>
 vK (binV .i .sub v88 v97) fun v98 =>
 vK (idxV 1 a0 v98) fun v99 =>
 qK S (fun h91 => ldV h91 v99) fun v100 =>
 vK (idxV 1 a0 v97) fun v101 =>
 qK S (fun h91 => ldV h91 v101) fun v102 =>
 clK prog a4 #[v100, v102] h91 fun v103 h104 =>
 vK (binV .i .lss v103 (.int .i64 0)) fun v105 =>
 vK (unV .not v105) fun v106 =>
 iteK v106 (
 vK (binV .i .add v97 (.int .i64 1)) fun v107 =>
 again92 [v107, (ix x89 1)] h104) (
 again92 [(ix x89 0), v97] h104)) (
 vK (binV .i .sub v81 (ix x89 0)) fun v108 =>
 joinK (fun J109 =>
 vK (binV .i .lss (ix x89 0) a2) fun v113 =>
 vK (gV v113 true (some a2)) fun v114 =>
 vK (gV v113 true (some v108)) fun v115 =>
 vK (gV v113 true (binV .i .lss v114 v115)) fun v116 =>
 vK (pickV v113 v116 (.bool false)) fun v117 =>
 iteK v117 (
 FCall prog zbT #[a0, (ix x89 0), a2, v108, a4] h91 fun v118 h119 =>
 J109 [] h119) (
 J109 [] h91))
 fun x110 j111 h112 =>
 vK (binV .i .lss a1 (ix x89 0)) fun v120 =>
 vK (gV v120 true (some (ix x89 0))) fun v121 =>
 vK (gV v120 true (some v80)) fun v122 =>
 vK (gV v120 true (binV .i .lss v121 v122)) fun v123 =>
 vK (pickV v120 v123 (.bool false)) fun v124 =>
 iteK v124 (
 FCall prog zax #[a0, a1, (ix x89 0), v80, a4] h112 fun v125 h126 =>
 vK (binV .i .lss v80 v108) fun v127 =>
 vK (gV v127 true (some v108)) fun v128 =>
 vK (gV v127 true (some a3)) fun v129 =>
 vK (gV v127 true (binV .i .lss v128 v129)) fun v130 =>
 vK (pickV v127 v130 (.bool false)) fun v131 =>
 iteK v131 (
 FCall prog zax #[a0, v80, v108, a3, a4] h126 fun v132 h133 =>
 R (.tuple #[]) h133) (
 R (.tuple #[]) h126)) (
 vK (binV .i .lss v80 v108) fun v134 =>
 vK (gV v134 true (some v108)) fun v135 =>
 vK (gV v134 true (some a3)) fun v136 =>
 vK (gV v134 true (binV .i .lss v135 v136)) fun v137 =>
 vK (pickV v134 v137 (.bool false)) fun v138 =>
 iteK v138 (
 FCall prog zax #[a0, v80, v108, a3, a4] h112 fun v139 h140 =>
 R (.tuple #[]) h140) (
 R (.tuple #[]) h112)))))
theorem zeJ (H : zcr a0 a1 a2 a3 a4 h R) : FCall prog zax #[a0, a1, a2, a3, a4] h R := fk f223 (.s (.s .z (.s (.s .z (.s .z (.s (.l 18014396362005504 [10, 11] (.s (.s .z (.s .z .z)) (.s .z (.s (.d (.op 0 .r (.op 1 .r (.op 2 .r (.op 3 .r (.op 4 .r (.op 5 .r (.op 6 .r (.op 7 .r (.op 8 .r (.op 9 .n (.op 10 .r .nil)))))))))))) (.s .z .z))))) (.s (.s .z (.l 151115691423031627882496 [13] (.s (.s .z (.s .z .z)) (.s (.d (.op 0 .r (.op 1 .r (.op 2 .r (.op 3 .r (.op 4 .r (.op 5 .r (.op 6 .r (.op 7 .r (.op 8 .r (.op 9 .r (.op 10 .r (.op 11 .r (.op 12 .r (.op 13 .r (.op 14 .r (.op 15 .n (.op 16 .r (.op 17 .n .nil))))))))))))))))))) .z)))) .z)))) .z)) (.s (.s .z (.s (.s .z (.s .z (.s (.l 162259267157806806474544612753408 [14, 15] (.s (.s .z (.s .z .z)) (.s .z (.s (.d (.op 0 .r (.op 1 .r (.op 2 .r (.op 3 .r (.op 4 .r (.op 5 .r (.op 6 .r (.op 7 .r (.op 8 .r (.op 9 .n (.op 10 .r (.op 11 .r .nil))))))))))))) (.s .z .z))))) (.s (.s .z (.l 680564409323323268500022431707515977728 [17] (.s (.s .z (.s .z .z)) (.s (.d (.op 0 .r (.op 1 .r (.op 2 .r (.op 3 .r (.op 4 .r (.op 5 .r (.op 6 .r (.op 7 .r (.op 8 .r (.op 9 .r (.op 10 .r (.op 11 .r (.op 12 .r (.op 13 .r (.op 14 .r (.op 15 .n (.op 16 .r (.op 17 .n .nil))))))))))))))))))) .z)))) .z)))) .z)) (.s .z (.s .z (.s .z (.j 178057512444517944145699250583176761402458112 [20, 21] (.s .z (.s (.s .z .z) (.s .z .z))) (.s .z (.s (.l 47890484938435180470718404069304177263338029388398592 [20, 21] (.s (.s .z (.s .z .z)) (.s .z (.s (.d (.op 0 .r (.op 1 .r (.op 2 .r (.op 3 .r (.op 4 .r (.op 5 .r (.op 6 .r (.op 7 .r (.op 8 .r (.op 9 .r (.op 10 .r (.op 11 .n (.op 12 .r (.op 13 .r .nil))))))))))))))) (.s .z .z))))) (.s .z (.j 6276718611501464291621199836450878838806450759683488612352 [] (.s .z (.s .z .z)) (.s (.s .z (.s .z .z)) (.s .z (.s .z .z))))))))))))) H
def zcC (a0 : Value) (h : Heap) (R : Value → Heap → Prop) : Prop :=
 FCall prog zg0 #[a0] h fun v1 h2 =>
 vK (binV .i .sub (.int .i64 64) v1) fun v3 =>
 R v3 h2
theorem zfB (H : zcC a0 h R) : FCall prog zbU #[a0] h R := fk f226 (.s .z (.s .z .z)) H
def zkz (a0 a1 a2 : Value) (h : Heap) (R : Value → Heap → Prop) : Prop :=
 vK (binV .i .geq a2 (.int .i64 64)) fun v1 =>
 iteK v1 (
 vK (binV .i .sub a2 (.int .i64 64)) fun v2 =>
 vK (binV .i .shr a0 v2) fun v3 =>
 R (.tuple #[(.int .u64 0), v3]) h) (
 vK (binV .i .shr a0 a2) fun v4 =>
 vK (binV .i .shr a1 a2) fun v5 =>
 vK (binV .i .sub (.int .i64 64) a2) fun v6 =>
 vK (binV .i .shl a0 v6) fun v7 =>
 vK (binV .i .or v5 v7) fun v8 =>
 R (.tuple #[v4, v8]) h)
theorem zqA (H : zkz a0 a1 a2 h R) : FCall prog zgn #[a0, a1, a2] h R := fk f227 (.s .z (.s (.s .z (.s (.s .z .z) .z)) (.s .z .z))) H
def zkA (a0 a1 a2 : Value) (h : Heap) (R : Value → Heap → Prop) : Prop :=
 vK (binV .i .geq a2 (.int .i64 64)) fun v1 =>
 iteK v1 (
 vK (binV .i .eql a1 (.int .u64 0)) fun v2 =>
 vK (gV v2 true (some a0)) fun v3 =>
 vK (gV v2 true (some a2)) fun v4 =>
 vK (gV v2 true (binV .i .sub (.int .i64 128) v4)) fun v5 =>
 vK (gV v2 true (binV .i .shl v3 v5)) fun v6 =>
 vK (gV v2 true (binV .i .eql v6 (.int .u64 0))) fun v7 =>
 vK (pickV v2 v7 (.bool false)) fun v8 =>
 R v8 h) (
 vK (binV .i .sub (.int .i64 64) a2) fun v9 =>
 vK (binV .i .shl a1 v9) fun v10 =>
 vK (binV .i .eql v10 (.int .u64 0)) fun v11 =>
 R v11 h)
theorem zqB (H : zkA a0 a1 a2 h R) : FCall prog ziF #[a0, a1, a2] h R := fk f228 (.s .z (.s (.s .z (.s (.s .z .z) .z)) (.s .z .z))) H
def zcB (a0 a1 a2 a3 a4 : Value) (h : Heap) (R : Value → Heap → Prop) : Prop :=
 vK (binV .i .sub a2 a1) fun v1 =>
 vK (binV .i .sub a3 a2) fun v2 =>
 loopK [v1, v2] h fun x3 j4 h5 again6 =>
 vK (binV .i .neq (ix x3 0) (ix x3 1)) fun v7 =>
 iteK v7 (
 vK (binV .i .gtr (ix x3 0) (ix x3 1)) fun v8 =>
 iteK v8 (
 vK (binV .i .sub a2 (ix x3 0)) fun v9 =>
 FCall prog zaK #[a0, v9, a2, (ix x3 1), a4] h5 fun v10 h11 =>
 vK (binV .i .sub (ix x3 0) (ix x3 1)) fun v12 =>
 again6 [v12, (ix x3 1)] h11) (
 vK (binV .i .sub a2 (ix x3 0)) fun v13 =>
 vK (binV .i .add a2 (ix x3 1)) fun v14 =>
 vK (binV .i .sub v14 (ix x3 0)) fun v15 =>
 FCall prog zaK #[a0, v13, v15, (ix x3 0), a4] h5 fun v16 h17 =>
 vK (binV .i .sub (ix x3 1) (ix x3 0)) fun v18 =>
 again6 [(ix x3 0), v18] h17)) (
 vK (binV .i .sub a2 (ix x3 0)) fun v19 =>
 FCall prog zaK #[a0, v19, a2, (ix x3 0), a4] h5 fun v20 h21 =>
 R (.tuple #[]) h21)
theorem zfA (H : zcB a0 a1 a2 a3 a4 h R) : FCall prog zbT #[a0, a1, a2, a3, a4] h R := fk f229 (.s .z (.s .z (.s (.l 1125899906583552 [10, 11] (.s (.s .z (.s .z .z)) (.s .z (.s (.s .z .z) (.s .z .z))))) .z))) H
def zci (a0 a1 a2 a3 a4 : Value) (h : Heap) (R : Value → Heap → Prop) : Prop :=
 loopK [(.int .i64 0)] h fun x1 j2 h3 again4 =>
 vK (binV .i .lss (ix x1 0) a3) fun v5 =>
 iteK v5 (
 drawK h3 fun S =>
 vK (binV .i .add a1 (ix x1 0)) fun v6 =>
 vK (binV .i .add a2 (ix x1 0)) fun v7 =>
 vK (binV .i .add a2 (ix x1 0)) fun v8 =>
 vK (idxV 1 a0 v8) fun v9 =>
 qK S (fun h3 => ldV h3 v9) fun v10 =>
 vK (binV .i .add a1 (ix x1 0)) fun v11 =>
 vK (idxV 1 a0 v11) fun v12 =>
 qK S (fun h3 => ldV h3 v12) fun v13 =>
 vK (idxV 1 a0 v6) fun v14 =>
 stK 1 v14 v10 h3 fun v15 h16 =>
 vK (idxV 1 a0 v7) fun v17 =>
 stK 1 v17 v13 h16 fun v18 h19 =>
 vK (binV .i .add (ix x1 0) (.int .i64 1)) fun v20 =>
 again4 [v20] h19) (
 R (.tuple #[]) h3)
theorem zey (H : zci a0 a1 a2 a3 a4 h R) : FCall prog zaK #[a0, a1, a2, a3, a4] h R := fk f231 (.s .z (.l 274877905920 [10] (.s (.s .z (.s .z .z)) (.s (.d (.op 0 .r (.op 1 .r (.op 2 .r (.op 3 .r (.op 4 .r (.op 5 .r (.op 6 .r (.op 7 .r (.op 8 .r (.op 9 .r (.op 10 .r (.op 11 .r (.op 12 .r (.op 13 .r (.op 14 .r (.op 15 .r (.op 16 .r (.op 17 .r (.op 18 .r (.op 19 .r (.op 20 .r (.op 21 .n (.op 22 .r (.op 23 .n .nil))))))))))))))))))))))))) .z)))) H
end
def zcQ : Nat → ByteArray
 | 0 => ⟨#[99, 108, 97, 109, 112]⟩
 | 1 => ⟨#[109, 105, 114, 114, 111, 114]⟩
 | 2 => ⟨#[119, 114, 97, 112]⟩
 | _ => ⟨#[]⟩
def filterName : Nat → ByteArray
 | 0 => ⟨#[98, 111, 120]⟩
 | 1 => ⟨#[99, 117, 98, 105, 99]⟩
 | 2 => ⟨#[108, 97, 110, 99, 122, 111, 115]⟩
 | _ => ⟨#[]⟩
def filterReach : Nat → Int
 | 0 => 0
 | 1 => 2
 | _ => 3
def TabH (h : Heap) (name : String) (k : IntKind) (zs : List Int) : Prop := ∃ g t f, prog.globalNamed name = some g ∧ h[g]? = some (.cells (zs.map fun z => Value.int k z).toArray t f)
theorem TabH.is {h : Heap} {name : String} {k : IntKind} {zs : List Int} (H : TabH h name k zs) (w : World) (hw : w.heap = h) : Lib.TabIs prog w name k zs := by
 obtain ⟨g, t, f, h1, h2⟩ := H
 subst hw
 unfold Lib.TabIs World.var?
 rw [h1, Option.bind_some, h2]
structure GlobB (h : Heap) : Prop where
 names : ∃ v, zah h ⟨zem, 0, none⟩ = some v ∧ SlC 1 h v 3 [.string (zcQ 0), .string (zcQ 1), .string (zcQ 2)]
 kinds : ∀ i, i < 3 → zah h ⟨zbt, 2 * i, none⟩ = some (.string (filterName i)) ∧ zah h ⟨zbt, 2 * i + 1, none⟩ = some (.int .i64 (filterReach i))
theorem GlobB.ext {h h' : Heap} (H : GlobB h) (e : Ext h h') : GlobB h' := by
 obtain ⟨⟨v, h1, h2⟩, h3⟩ := H
 exact ⟨⟨v, e.cell h1, h2.ext e⟩, fun i hi => ⟨e.cell (h3 i hi).1, e.cell (h3 i hi).2⟩⟩
end Go.Proofs.YtdbebmafgpdfhaaGreatDoor
namespace Go.Crisp
open Go Go.ChangeShapes Go.WideShapes Go.ChangeAt Go.RowKit
def zjU (P : Program) (L : List (String × DataW Unit)) (h : Heap) : Prop := ∀ w : World, w.heap = h → laidMetH P L w
theorem row_laid {H : Type} {enc : TypeId × Value → H} {C : Checked} {os : Os} {f : FuncId} {fn : Func} {s : ChangeSpec} {conds : List PathCond} {rt : TypeId} {ts : List TS} {L : List (String × DataW Unit)}
  (hok : zgg C.prog f = true) (own : ownKnob C.prog.godebug = none) (started : os.Started) (noInit : C.prog.inits.idxOf? f = none) (hfn : C.prog.funcs[f]? = some fn)
  (laid : laidOutB C.prog = true) (hvars : s.vars = []) (hp : okAll C.prog ts fn.params.toList = true) (hread : fn.params.toList.all (fun t => C.prog.readableRec t && decide (t < C.prog.types.size)) = true)
  (hres : fn.resultTypes = #[rt]) (hrt : C.prog.underlying rt = some .bool)
  (hspec : ∀ ds : List (DataW H), ds.length = ts.length → s.fn H ds = { results := [.lit (.bool true)], args := ds })
  (witness : ∃ (w : World) (tape : Tape) (i : Input), w.os = os ∧ (w.forCall tape i).Shaped C.prog ∧ i.vars = [] ∧ Input.okWide C.prog (w.forCall tape i) .any w.heap.size f i ∧
   ((s.pre enc C.prog fn conds false (w.forCall tape i).memory i.args ∧ laidMetH C.prog L (w.forCall tape i).memory) ∧ sizedMet enc C.prog fn (OpenSpec.ofChange s) false (w.forCall tape i).memory i.args) ∧ Assume.holds {} C.prog (lone (Frame.enter C.prog f i.args .normal) [] (w.forCall tape i)))
  (contract : ∀ (h : Heap) (args : Array Value), zjU C.prog L h → zfX ts h args.toList → FCall C.prog f args h fun r h' => r = .bool true ∧ Ext h h') :
  ReturnsInHanded {} C os f .any (fun w args => (s.pre enc C.prog fn conds false w args ∧ laidMetH C.prog L w) ∧ sizedMet enc C.prog fn (OpenSpec.ofChange s) false w args) (s.post enc C.prog fn false true false false) := by
 refine returnsInHanded_of_change_and (X := fun w _ => laidMetH C.prog L w) (fun _ _ _ hh h => h.of_heap hh) own started noInit hfn witness ?_
 intro W base args ds gs before hval hW _ hsz hL _
 have hW' := hW
 obtain ⟨p, q, hA, hV, rfl, _, _⟩ := hW
 rw [hvars] at hV
 obtain ⟨rfl, rfl⟩ := trodVars_none hV
 have hvt : s.plain.varTypes C.prog = [] := by simp [DataSpec.varTypes, ChangeSpec.plain, hvars]
 rw [hvt, List.append_nil, List.append_nil] at hsz
 have hw : light (DataW.weightsEach C.prog fn.params.toList ds) := fun n hn => by
  have := List.all_eq_true.1 hsz n hn
  exact of_decide_eq_true this
 have hAR : zfX ts W.heap args.toList := args_rd hp (fun j t v ht hv => hval j t v (by simpa using ht) (by simpa using hv)) hA hw
 have hlen : ds.length = ts.length := by
  have l1 : ∀ {ids : List TypeId} {vs : List Value} {ds : List (DataW H)} {ps : List MemPlace}, DataW.TrodAll enc C.prog W 0 (fun _ => true) true ids vs ds ps → ds.length = ids.length := by
   intro ids
   induction ids with
   | nil => intro vs ds ps h; obtain ⟨rfl, rfl, rfl⟩ := trodAll_nil h; rfl
   | cons t ids ih => intro vs ds ps h; obtain ⟨v, vs', d, ds', p, q, rfl, rfl, rfl, h1, h2⟩ := trodAll_cons h; simp [ih h2]
  have l2 : ∀ (ts : List TS) (ids : List TypeId), okAll C.prog ts ids = true → ids.length = ts.length := by
   intro ts
   induction ts with
   | nil => intro ids h; cases ids <;> simp_all [okAll]
   | cons t ts ih => intro ids h; cases ids <;> simp [okAll] at h; simp [ih _ h.2]
  rw [l1 hA, l2 _ _ hp]
 refine ((contract W.heap args (fun w hw => hL.of_heap hw.symm) hAR).calls hok W rfl).mono fun e W' ⟨v, he, hs, hv, hx⟩ => ?_
 subst he hv
 have bel : Below W.heap.size W W' := ⟨hs.1, hs.2.1, hs.2.2, hx.1, fun k hk => hx.2 k hk⟩
 refine ⟨_, rfl, ds, [], _, [], p, [], hW', ?_, ?_, ?_, bel.frame _, fun h => by cases h⟩
 ·rw [List.append_nil, hspec ds hlen, hres]
  exact trodAll_mk1 (shut_bool hrt _)
 ·rw [List.append_nil, hspec ds hlen]
  exact carry_all laid bel hread hA
 ·rw [List.append_nil, hspec ds hlen, hvars]
  rfl
theorem zoq {P : Program} {w : World} : ∀ {L : List (String × DataW Unit)} {ps : List MemPlace}, DataW.LaidVars P w L ps → ∀ {n : String} {d : DataW Unit}, (n, d) ∈ L →
  ∃ g t cs fuel p, P.globalNamed n = some g ∧ (P.globals[g]?).map (·.type) = some t ∧ w.var? P n = some cs ∧ DataW.trod (fun _ => ()) P w 0 (fun _ => true) false fuel t cs.toList = some (d, p)
 | [], _, _, n, d, hm => absurd hm (by simp)
 | (n', d') :: r, _, h, n, d, hm => by
  obtain ⟨g, t, cs, fuel, p, q, h1, h2, h3, h4, h5, _⟩ := h
  rcases List.mem_cons.1 hm with e | e
  ·cases e; exact ⟨g, t, cs, fuel, p, h1, h2, h3, h4⟩
  ·exact zoq h5 e
theorem zjU.at {P : Program} {L : List (String × DataW Unit)} {h : Heap} (H : zjU P L h) (hn : (L.all fun x => x.2.handleName?.isNone) = true) {n : String} {d : DataW Unit} (hm : (n, d) ∈ L) (w : World) (hw : w.heap = h) :
  ∃ g t cs fuel p, P.globalNamed n = some g ∧ (P.globals[g]?).map (·.type) = some t ∧ w.var? P n = some cs ∧ DataW.trod (fun _ => ()) P w 0 (fun _ => true) false fuel t cs.toList = some (d, p) := by
 have := H w hw
 rw [MakeChecks.laidMetH_plain _ _ _ hn] at this
 obtain ⟨ps, hl, _⟩ := this
 exact zoq hl hm
def varIs (P : Program) (n : String) (g : Nat) (k : Program → TypeId → Bool) : Bool :=
 decide (P.globalNamed n = some g) && (match (P.globals[g]?).map (·.type) with | some t => k P t | none => false)
def isInt (k : IntKind) (P : Program) (t : TypeId) : Bool := match P.underlying t with | some (.int k') => decide (k = k') && P.cellsOf t == 1 | _ => false
def isStr (P : Program) (t : TypeId) : Bool := match P.underlying t with | some .string => P.cellsOf t == 1 | _ => false
def isSlice (e : Program → TypeId → Bool) (P : Program) (t : TypeId) : Bool := match P.underlying t with | some (.slice u) => e P u | _ => false
def isArr (n : Nat) (e : Program → TypeId → Bool) (P : Program) (t : TypeId) : Bool := match P.underlying t with | some (.array n' u) => n == n' && P.cellsOf t == n * P.cellsOf u && e P u | _ => false
def isPair (a b : Program → TypeId → Bool) (P : Program) (t : TypeId) : Bool := match P.underlying t with | some (.struct ⟨[x, y]⟩) => x.offset == 0 && y.offset == 1 && a P x.type && b P y.type && P.cellsOf t == 2 | _ => false
theorem zjU.kind {P : Program} {L : List (String × DataW Unit)} {h : Heap} (H : zjU P L h) (hn : (L.all fun x => x.2.handleName?.isNone) = true) {n : String} {d : DataW Unit} (hm : (n, d) ∈ L) (w : World) (hw : w.heap = h)
  {g : Nat} {k : Program → TypeId → Bool} (hk : varIs P n g k = true) :
  ∃ t cs fuel p, P.globalNamed n = some g ∧ k P t = true ∧ w.var? P n = some cs ∧ (∀ i, zah h ⟨g, i, none⟩ = cs[i]?) ∧ DataW.trod (fun _ => ()) P w 0 (fun _ => true) false fuel t cs.toList = some (d, p) := by
 obtain ⟨g', t, cs, fuel, p, h1, h2, h3, h4⟩ := H.at hn hm w hw
 unfold varIs at hk
 rw [Bool.and_eq_true, decide_eq_true_eq] at hk
 obtain ⟨k1, k2⟩ := hk
 obtain rfl : g' = g := Option.some.inj (h1.symm.trans k1)
 rw [h2] at k2
 refine ⟨t, cs, fuel, p, h1, k2, h3, fun i => ?_, h4⟩
 subst hw
 exact World.var?_cell h1 h3 i
theorem trod_int' {k : IntKind} {P : Program} {w : World} {fuel : Nat} {t : TypeId} {cs : List Value} {z : Int} {p : List MemPlace} (ht : isInt k P t = true) (h : DataW.trod (fun _ => ()) P w 0 (fun _ => true) false fuel t cs = some (.lit (.int k z), p)) : cs = [.int k z] ∧ P.cellsOf t = 1 := by
 unfold isInt at ht
 split at ht
 ·rename_i k' hu
  rw [Bool.and_eq_true, decide_eq_true_eq] at ht
  obtain ⟨rfl, hc⟩ := ht
  obtain ⟨n, rfl, he, _⟩ := DataW.trod_int hu h
  cases he
  exact ⟨rfl, by simpa using hc⟩
 ·cases ht
theorem trod_str' {P : Program} {w : World} {fuel : Nat} {t : TypeId} {cs : List Value} {z : List UInt8} {p : List MemPlace} (ht : isStr P t = true) (h : DataW.trod (fun _ => ()) P w 0 (fun _ => true) false fuel t cs = some (.lit (.string z), p)) : cs = [.string ⟨⟨z⟩⟩] ∧ P.cellsOf t = 1 := by
 unfold isStr at ht
 split at ht
 ·rename_i hu
  obtain ⟨s, rfl, he, _⟩ := DataW.trod_string hu h
  cases he
  exact ⟨rfl, by simpa using ht⟩
 ·cases ht
theorem zlx {cs : List Value} {i : Nat} {v : Value} (h : (cs.drop i).take 1 = [v]) : cs[i]? = some v := by
 have := congrArg (fun l => l[0]?) h
 simpa using this
theorem trod_strs {P : Program} {w : World} {h : Heap} (hw : w.heap = h) {fuel : Nat} {t : TypeId} {cs : List Value} {zs : List (List UInt8)} {p : List MemPlace} (hz : zs ≠ []) (ht : isSlice isStr P t = true)
  (H : DataW.trod (fun _ => ()) P w 0 (fun _ => true) false fuel t cs = some (.slice (zs.map fun z => .lit (.string z)) [], p)) :
  ∃ b o cap, cs = [.slice (some ⟨b, o, none⟩) zs.length cap] ∧ ∀ i (hi : i < zs.length), zah h ⟨b, o + i, none⟩ = some (.string ⟨⟨zs[i]⟩⟩) := by
 unfold isSlice at ht
 split at ht
 ·rename_i u hu
  have c1 : P.cellsOf u = 1 := by
   unfold isStr at ht
   split at ht
   ·simpa using ht
   ·cases ht
  rcases DataW.trod_slice hu H with ⟨_, he⟩ | ⟨a, len, cap, elems, rest, m, rfl, rfl, he, _, _, _, hlen, hat, _⟩
  ·cases he
  ·have hxe : elems.map (·.1) = zs.map fun z => DataW.lit (.string z) := by
    have := congrArg (fun x => x.1) he
    simp only [DataW.slice.injEq] at this
    exact this.1.symm
   have hl : elems.length = zs.length := by simpa using congrArg List.length hxe
   have hlz : len = zs.length := by omega
   subst hlz
   have ha : ∃ b o, a = ⟨b, o, none⟩ := by
    have h0 : 0 < zs.length := List.length_pos_iff.2 hz
    have := hat 0 h0
    rw [List.getElem?_eq_getElem (by omega)] at this
    cases hc : w.cells? 0 (a.add (0 * P.cellsOf u)) (P.cellsOf u) with
    | none => rw [hc] at this; cases this
    | some l =>
     obtain ⟨b, o, s⟩ := a
     cases s with
     | none => exact ⟨b, o, rfl⟩
     | some x =>
      exfalso
      obtain ⟨h3, h2⟩ := zma hc
      rw [c1] at h3
      have h2 := h2 0 (by omega)
      unfold zah at h2
      split at h2
      ·rw [if_pos (by unfold Addr.add; split <;> simp_all)] at h2; cases h2
      ·cases h2
   obtain ⟨b, o, rfl⟩ := ha
   refine ⟨b, o, cap, rfl, fun i hi => ?_⟩
   have h1 := hat i hi
   have hxi : elems[i]? = some (elems[i]'(by omega)) := List.getElem?_eq_getElem (by omega)
   rw [hxi, c1, Nat.mul_one] at h1
   have h2 : (elems[i]'(by omega)).1 = .lit (.string zs[i]) := by
    have := congrArg (fun l => l[i]?) hxe
    simpa [hi, hl] using this
   obtain ⟨x, y, hxy⟩ : ∃ x y, elems[i]'(by omega) = (x, y) := ⟨_, _, rfl⟩
   rw [hxy] at h1 h2
   simp only at h2
   rw [h2, Option.bind_eq_some_iff] at h1
   obtain ⟨l, hl1, hl2⟩ := h1
   have h3 := (trod_str' ht hl2).1
   subst h3
   have h4 := (zma hl1).2 0 (by simp)
   rw [znx, znx, hw] at h4
   simpa using h4
 ·cases ht
theorem trod_pairs {k : IntKind} {P : Program} {w : World} {fuel : Nat} {t : TypeId} {cs : List Value} {zs : List (List UInt8 × Int)} {p : List MemPlace} (ht : isArr zs.length (isPair isStr (isInt k)) P t = true)
  (h : DataW.trod (fun _ => ()) P w 0 (fun _ => true) false fuel t cs = some (.agg (zs.map fun z => .agg [.lit (.string z.1), .lit (.int k z.2)]), p)) :
  ∀ i (hi : i < zs.length), cs[2 * i]? = some (.string ⟨⟨zs[i].1⟩⟩) ∧ cs[2 * i + 1]? = some (.int k zs[i].2) := by
 unfold isArr at ht
 split at ht
 ·rename_i n u hu
  rw [Bool.and_eq_true, Bool.and_eq_true] at ht
  obtain ⟨⟨hn, hc⟩, hi⟩ := ht
  obtain ⟨xs, m, rfl, he, hl, hx, hat⟩ := DataW.trod_array hu h
  have hn : zs.length = n := by simpa using hn
  subst hn
  unfold isPair at hi
  split at hi
  ·rename_i f1 f2 hs
   simp only [Bool.and_eq_true, beq_iff_eq] at hi
   obtain ⟨⟨⟨⟨o1, o2⟩, t1⟩, t2⟩, c2⟩ := hi
   have hxe : xs.map (·.1) = zs.map fun z => DataW.agg [.lit (.string z.1), .lit (.int k z.2)] := by
    have := congrArg (fun x => x.1) he
    simpa using this.symm
   intro i hi'
   have h1 := hat i hi'
   have hxi : xs[i]? = some (xs[i]'(by omega)) := List.getElem?_eq_getElem (by omega)
   rw [hxi, c2] at h1
   have h2 : (xs[i]'(by omega)).1 = .agg [.lit (.string zs[i].1), .lit (.int k zs[i].2)] := by
    have := congrArg (fun l => l[i]?) hxe
    simpa [hi', hx] using this
   obtain ⟨a, b, hab⟩ : ∃ a b, xs[i]'(by omega) = (a, b) := ⟨_, _, rfl⟩
   rw [hab] at h1 h2
   simp only at h2
   rw [h2] at h1
   obtain ⟨ys, m', rfl, he', hl', hy, hat'⟩ := DataW.trod_struct hs h1
   have hy2 : ys.length = 2 := hy
   match ys, hy2, he', hat' with
   | [y1, y2], _, he', hat' =>
    have he' := congrArg (fun x => x.1) he'
    simp only [List.map_cons, List.map_nil, DataW.agg.injEq, List.cons.injEq, and_true] at he'
    have a1 := hat' 0 f1 rfl
    have a2 := hat' 1 f2 rfl
    rw [o1] at a1
    rw [o2] at a2
    obtain ⟨a, b⟩ := y1
    obtain ⟨a', b'⟩ := y2
    simp only at he'
    obtain ⟨rfl, rfl⟩ := he'
    have b1 := trod_str' t1 a1
    have b2 := trod_int' t2 a2
    rw [b1.2] at b1
    rw [b2.2] at b2
    have b1 := zlx b1.1
    have b2 := zlx b2.1
    rw [List.getElem?_take_of_lt (by omega), List.getElem?_drop] at b1 b2
    refine ⟨?_, ?_⟩
    ·rw [Nat.mul_comm]; simpa using b1
    ·rw [Nat.mul_comm]; simpa using b2
  ·cases hi
 ·cases ht
end Go.Crisp
namespace Go.Proofs.YtdbebmafgpdfhaaGreatDoor
open Go Go.Crisp
open _root_.Go.Proofs.Tryz
theorem globB_of {L : List (String × DataW Unit)} {h : Heap} (H : zjU prog L h) (hn : (L.all fun x => x.2.handleName?.isNone) = true)
  (m1 : ("smalto/border.names", Rows.laid_smalto_border_names) ∈ L) (m2 : ("smalto/raw.kinds", Rows.laid_smalto_raw_kinds) ∈ L) : GlobB h := by
 let w : World := ⟨h, fun _ _ => 0, 0, default, #[]⟩
 refine ⟨?_, ?_⟩
 ·obtain ⟨t, cs, fuel, p, _, hk, _, hc, ht⟩ := H.kind hn m1 w rfl (g := zem) (k := isSlice isStr) (by kernel_rfl)
  obtain ⟨b, o, cap, he, hx⟩ := trod_strs (h := h) rfl (zs := [[99, 108, 97, 109, 112], [109, 105, 114, 114, 111, 114], [119, 114, 97, 112]]) (by simp) hk ht
  have h0 := hc 0
  obtain ⟨l⟩ := cs
  rw [show l = _ from he] at h0
  refine ⟨_, h0, by simp, some ⟨b, o, none⟩, cap, rfl, .inr ⟨b, o, rfl, fun j hj => ?_⟩⟩
  have := hx j hj
  rw [this]
  match j, hj with
  | 0, _ => rfl
  | 1, _ => rfl
  | 2, _ => rfl
 ·obtain ⟨t, cs, fuel, p, _, hk, _, hc, ht⟩ := H.kind hn m2 w rfl (g := zbt) (k := isArr 3 (isPair isStr (isInt .i64))) (by kernel_rfl)
  have := trod_pairs (zs := [([98, 111, 120], 0), ([99, 117, 98, 105, 99], 2), ([108, 97, 110, 99, 122, 111, 115], 3)]) hk ht
  intro i hi
  have h1 := this i hi
  rw [hc, hc]
  rw [Array.getElem?_toList, Array.getElem?_toList] at h1
  rw [h1.1, h1.2]
  match i, hi with
  | 0, _ => exact ⟨rfl, rfl⟩
  | 1, _ => exact ⟨rfl, rfl⟩
  | 2, _ => exact ⟨rfl, rfl⟩
end Go.Proofs.YtdbebmafgpdfhaaGreatDoor
namespace Go.Crisp
open Go
theorem zcN (n : Int) : I64 (IntKind.i64.wrap n) := by rw [zc4]; unfold I64; omega
theorem zgG (a b : Int) : IntKind.i64.wrap (IntKind.i64.wrap a + b) = IntKind.i64.wrap (a + b) := by rw [zc4, zc4, zc4]; omega
theorem zfb (a b : Int) : IntKind.i64.wrap (a + IntKind.i64.wrap b) = IntKind.i64.wrap (a + b) := by rw [zc4, zc4, zc4]; omega
theorem ziT (a b : Int) : IntKind.i64.wrap (IntKind.i64.wrap a - b) = IntKind.i64.wrap (a - b) := by rw [zc4, zc4, zc4]; omega
theorem zlJ (a b : Int) : IntKind.i64.wrap (a - IntKind.i64.wrap b) = IntKind.i64.wrap (a - b) := by rw [zc4, zc4, zc4]; omega
def zfo (x n : Int) : Int := if n ≤ 0 then x else if 64 ≤ n then 0 else x / 2 ^ n.toNat + x / 2 ^ (n.toNat - 1) % 2
theorem half_le {x : Int} {k : Nat} (hx : I64 x) : -9223372036854775808 ≤ x / 2 ^ k ∧ x / 2 ^ k ≤ 9223372036854775807 := by
 obtain ⟨b1, b2⟩ := hx
 have hp1 : (0 : Int) < 2 ^ k := Int.pow_pos (by omega)
 constructor
 ·rw [Int.le_ediv_iff_mul_le hp1]
  have : -9223372036854775808 * (2 : Int) ^ k ≤ -9223372036854775808 * 1 := Int.mul_le_mul_of_nonpos_left (by omega) (by omega)
  omega
 ·apply Int.le_of_lt_add_one
  rw [Int.ediv_lt_iff_lt_mul hp1]
  have : (9223372036854775807 + 1) * 1 ≤ (9223372036854775807 + 1) * (2 : Int) ^ k := Int.mul_le_mul_of_nonneg_left (by omega) (by omega)
  omega
theorem zlM {x n : Int} (hx : I64 x) : I64 (zfo x n) := by
 unfold zfo
 split
 ·exact hx
 split
 ·unfold I64; omega
 ·have hp : (2 : Int) ^ n.toNat = 2 ^ (n.toNat - 1) * 2 := by
   obtain ⟨j, hj⟩ : ∃ j, n.toNat = j + 1 := ⟨n.toNat - 1, by omega⟩
   rw [hj, Nat.add_sub_cancel, Int.pow_succ]
  have hp1 : (0 : Int) < 2 ^ (n.toNat - 1) := Int.pow_pos (by omega)
  have h2 : x / 2 ^ n.toNat = x / 2 ^ (n.toNat - 1) / 2 := by rw [hp, Int.ediv_ediv, if_neg (by omega), Int.sub_zero]
  have := half_le (k := n.toNat - 1) hx
  unfold I64
  rw [h2]
  omega
def zbI (r : Int) : Nat → Int × Int
 | 0 => (1099511627776, 1099511627776)
 | i + 1 => (IntKind.i64.wrap (if i % 2 = 0 then (zbI r i).1 - zaS (zbI r i).2 r (((i : Int) + 1) * 1099511627776) else (zbI r i).1 + zaS (zbI r i).2 r (((i : Int) + 1) * 1099511627776)),
   zaS (zbI r i).2 r (((i : Int) + 1) * 1099511627776))
def expZ (t : Int) : Int := zfo (zbI (max 0 t % 762123384786) 16).1 (max 0 t / 762123384786)
def znS (d sigma : Int) : Int := if sigma < 1 ∨ 4194304 < sigma ∨ d < -16384 ∨ 16384 < d then 9223372036854775807 else zaS (d * d * 2147483648) 1099511627776 (sigma * sigma)
def zmT (d sigma : Int) : Int := zfo (expZ (znS d sigma)) 10
theorem zbH (a b d : Int) : I64 (zaS a b d) := by
 unfold zaS
 split
 ·unfold I64; omega
 ·exact holdZ_i64 _ _
theorem zj8 (r : Int) : ∀ i, I64 (zbI r i).1 ∧ I64 (zbI r i).2
 | 0 => ⟨by unfold I64 zbI; omega, by unfold I64 zbI; omega⟩
 | i + 1 => by simp only [zbI]; exact ⟨zcN _, zbH _ _ _⟩
theorem zrn (t : Int) : I64 (expZ t) := zlM (zj8 _ _).1
theorem zpF (d s : Int) : I64 (znS d s) := by
 unfold znS
 split
 ·unfold I64; omega
 ·exact zbH _ _ _
theorem gaussZ_I64 (d s : Int) : I64 (zmT d s) := zlM (zrn _)
theorem sq_le {d B : Int} (h1 : -B ≤ d) (h2 : d ≤ B) : 0 ≤ d * d ∧ d * d ≤ B * B := by
 refine ⟨by rcases Int.le_total 0 d with h | h; exact Int.mul_nonneg h h; exact Int.mul_nonneg_of_nonpos_of_nonpos h h, ?_⟩
 rcases Int.le_total 0 d with h | h
 ·exact Int.mul_le_mul h2 h2 h (by omega)
 ·have : -d * -d ≤ B * B := Int.mul_le_mul (by omega) (by omega) (by omega) (by omega)
  rwa [Int.neg_mul_neg] at this
def mayZ (p q : Int) : Prop := 1 ≤ q ∧ q ≤ 1048576 ∧ -4 * q ≤ p ∧ p ≤ 4 * q
instance (p q : Int) : Decidable (mayZ p q) := by unfold mayZ; infer_instance
def zaH (u : Int) : Nat → Int × Int
 | 0 => (1099511627776, 1099511627776)
 | i + 1 => (IntKind.i64.wrap (if i % 2 = 0 then (zaH u i).1 - zaS (zaH u i).2 u (2 * ((i : Int) + 1) * (2 * ((i : Int) + 1) + 1) * 1099511627776) else (zaH u i).1 + zaS (zaH u i).2 u (2 * ((i : Int) + 1) * (2 * ((i : Int) + 1) + 1) * 1099511627776)),
   zaS (zaH u i).2 u (2 * ((i : Int) + 1) * (2 * ((i : Int) + 1) + 1) * 1099511627776))
def zjX (p q : Int) : Int := (zaH (zaS (zaS 10851744800547 (max p (-p)) q) (max p (-p)) q) 30).1
theorem zh7 (r : Int) : ∀ i, I64 (zaH r i).1 ∧ I64 (zaH r i).2
 | 0 => ⟨by unfold I64 zaH; omega, by unfold I64 zaH; omega⟩
 | i + 1 => by simp only [zaH]; exact ⟨zcN _, zbH _ _ _⟩
theorem zg3 (p q : Int) : I64 (zjX p q) := (zh7 _ _).1
def shiftN (m n : Nat) (below : Bool) : Nat := if n = 0 then m else m / 2 ^ n + (if m / 2 ^ (n - 1) % 2 = 1 ∧ ¬ (below = true ∧ m % 2 ^ (n - 1) = 0) then 1 else 0)
def zfD (a b n : Int) : Int := if 128 ≤ n then 0 else holdZ (shiftN (a.natAbs * b.natAbs) n.toNat (diffS a b)) (diffS a b)
theorem zhb (a b n : Int) : I64 (zfD a b n) := by
 unfold zfD
 split
 ·unfold I64; omega
 ·exact holdZ_i64 _ _
def zhd (p q : Int) : Int := if ¬ mayZ p q ∨ 3 * q ≤ max p (-p) then 0 else zfo (zfD (zjX p q) (zjX p (3 * q)) 40) 10
theorem lanczosZ_I64 (p q : Int) : I64 (zhd p q) := by
 unfold zhd
 split
 ·unfold I64; omega
 ·exact zlM (zhb _ _ _)
def gD (b w : Bool) (v : Value) : Value := bif b == w then v else undef
theorem gD_tt (v : Value) : gD true true v = v := Eq.trans rfl rfl
theorem gD_ff (v : Value) : gD false false v = v := Eq.trans rfl rfl
theorem gD_tf (v : Value) : gD true false v = undef := Eq.trans rfl rfl
theorem gD_ft (v : Value) : gD false true v = undef := Eq.trans rfl rfl
theorem gD_gD (b w : Bool) (v : Value) : gD b w (gD b w v) = gD b w v := by cases b <;> cases w <;> rfl
theorem gV_gD (b w : Bool) (v : Value) : gV (.bool b) w (some v) = some (gD b w v) := by cases b <;> cases w <;> rfl
theorem gV_un (b w : Bool) (o : UnOp) (v : Value) : gV (.bool b) w (unV o (gD b w v)) = gV (.bool b) w (unV o v) := by cases b <;> cases w <;> rfl
theorem gV_binl (b w : Bool) (e : EK) (o : BinOp) (v u : Value) : gV (.bool b) w (binV e o (gD b w v) u) = gV (.bool b) w (binV e o v u) := by cases b <;> cases w <;> rfl
theorem gV_binr (b w : Bool) (e : EK) (o : BinOp) (v u : Value) : gV (.bool b) w (binV e o u (gD b w v)) = gV (.bool b) w (binV e o u v) := by cases b <;> cases w <;> rfl
theorem gV_cvi (b w : Bool) (k : IntKind) (v : Value) : gV (.bool b) w (cviV k (gD b w v)) = gV (.bool b) w (cviV k v) := by cases b <;> cases w <;> rfl
theorem gV_fld (b w : Bool) (n : Nat) (v : Value) : gV (.bool b) w (fldV n (gD b w v)) = gV (.bool b) w (fldV n v) := by cases b <;> cases w <;> rfl
theorem gV_ld (b w : Bool) (h : Heap) (v : Value) : gV (.bool b) w (ldV h (gD b w v)) = gV (.bool b) w (ldV h v) := by cases b <;> cases w <;> rfl
theorem gV_lds (b w : Bool) (n : Nat) (h : Heap) (v : Value) : gV (.bool b) w (ldsV n h (gD b w v)) = gV (.bool b) w (ldsV n h v) := by cases b <;> cases w <;> rfl
theorem gV_idxl (b w : Bool) (n : Nat) (v u : Value) : gV (.bool b) w (idxV n (gD b w v) u) = gV (.bool b) w (idxV n v u) := by cases b <;> cases w <;> rfl
theorem gV_idxr (b w : Bool) (n : Nat) (v u : Value) : gV (.bool b) w (idxV n u (gD b w v)) = gV (.bool b) w (idxV n u v) := by cases b <;> cases w <;> rfl
theorem gV_lensl (b w : Bool) (v : Value) : gV (.bool b) w (zag (gD b w v)) = gV (.bool b) w (zag v) := by cases b <;> cases w <;> rfl
theorem gV_lenst (b w : Bool) (v : Value) : gV (.bool b) w (zpL (gD b w v)) = gV (.bool b) w (zpL v) := by cases b <;> cases w <;> rfl
theorem gV_ext (b w : Bool) (n : Nat) (v : Value) : gV (.bool b) w (extV (gD b w v) n) = gV (.bool b) w (extV v n) := by cases b <;> cases w <;> rfl
theorem gV_nil (b w : Bool) (v : Value) : gV (.bool b) w (nilV (gD b w v)) = gV (.bool b) w (nilV v) := by cases b <;> cases w <;> rfl
theorem gV_maxl (b w : Bool) (v u : Value) : gV (.bool b) w (maxV (gD b w v) u) = gV (.bool b) w (maxV v u) := by cases b <;> cases w <;> rfl
theorem gV_maxr (b w : Bool) (v u : Value) : gV (.bool b) w (maxV u (gD b w v)) = gV (.bool b) w (maxV u v) := by cases b <;> cases w <;> rfl
theorem gV_minl (b w : Bool) (v u : Value) : gV (.bool b) w (minV (gD b w v) u) = gV (.bool b) w (minV v u) := by cases b <;> cases w <;> rfl
theorem gV_minr (b w : Bool) (v u : Value) : gV (.bool b) w (minV u (gD b w v)) = gV (.bool b) w (minV u v) := by cases b <;> cases w <;> rfl
theorem gV_part (b w a : Bool) (n o : Nat) (v : Value) : gV (.bool b) w (partV a n o (gD b w v)) = gV (.bool b) w (partV a n o v) := by cases b <;> cases w <;> rfl
theorem gV_pick0 (b w : Bool) (v u x : Value) : gV (.bool b) w (pickV (gD b w v) u x) = gV (.bool b) w (pickV v u x) := by cases b <;> cases w <;> rfl
theorem gV_pick1 (b w : Bool) (v u x : Value) : gV (.bool b) w (pickV v (gD b w u) x) = gV (.bool b) w (pickV v u x) := by cases b <;> cases w <;> rfl
theorem gV_pick2 (b w : Bool) (v u x : Value) : gV (.bool b) w (pickV v u (gD b w x)) = gV (.bool b) w (pickV v u x) := by cases b <;> cases w <;> rfl
theorem pick_and (b c : Bool) : pickV (.bool b) (gD b true (.bool c)) (.bool false) = some (.bool (b && c)) := by cases b <;> rfl
theorem pick_or (b c : Bool) : pickV (.bool b) (.bool true) (gD b false (.bool c)) = some (.bool (b || c)) := by cases b <;> rfl
theorem gV_guard (b w c w2 : Bool) (r : Option Value) : gV (gD b w (.bool c)) w2 r = gV (.bool ((b == w) && (c == w2))) true r := by cases b <;> cases w <;> cases c <;> cases w2 <;> rfl
theorem gK_guard (b w c w2 : Bool) (m : (Value → Heap → Prop) → Prop) (h : Heap) (K : Value → Heap → Prop) : gK (gD b w (.bool c)) w2 m h K = gK (.bool ((b == w) && (c == w2))) true m h K := by cases b <;> cases w <;> cases c <;> cases w2 <;> rfl
theorem gV_and_t (b c d : Bool) : gV (.bool b) true (pickV (.bool c) (gD (b && c) true (.bool d)) (.bool false)) = some (gD b true (.bool (c && d))) := by cases b <;> cases c <;> rfl
theorem gV_and_f (b c d : Bool) : gV (.bool b) false (pickV (.bool c) (gD (!b && c) true (.bool d)) (.bool false)) = some (gD b false (.bool (c && d))) := by cases b <;> cases c <;> rfl
theorem gV_or_t (b c d : Bool) : gV (.bool b) true (pickV (.bool c) (.bool true) (gD (b && !c) true (.bool d))) = some (gD b true (.bool (c || d))) := by cases b <;> cases c <;> rfl
theorem gV_or_f (b c d : Bool) : gV (.bool b) false (pickV (.bool c) (.bool true) (gD (!b && !c) true (.bool d))) = some (gD b false (.bool (c || d))) := by cases b <;> cases c <;> rfl
theorem gV_and_td (p q : Prop) [Decidable p] [Decidable q] (d : Bool) : gV (.bool (decide p)) true (pickV (.bool (decide q)) (gD (decide (p ∧ q)) true (.bool d)) (.bool false)) = some (gD (decide p) true (.bool (decide q && d))) := by rw [Bool.decide_and]; exact gV_and_t _ _ _
theorem gV_and_fd (p q : Prop) [Decidable p] [Decidable q] (d : Bool) : gV (.bool (decide p)) false (pickV (.bool (decide q)) (gD (decide (¬ p ∧ q)) true (.bool d)) (.bool false)) = some (gD (decide p) false (.bool (decide q && d))) := by rw [Bool.decide_and, decide_not]; exact gV_and_f _ _ _
theorem gV_or_td (p q : Prop) [Decidable p] [Decidable q] (d : Bool) : gV (.bool (decide p)) true (pickV (.bool (decide q)) (.bool true) (gD (decide (p ∧ ¬ q)) true (.bool d))) = some (gD (decide p) true (.bool (decide q || d))) := by rw [Bool.decide_and, decide_not]; exact gV_or_t _ _ _
theorem gV_or_fd (p q : Prop) [Decidable p] [Decidable q] (d : Bool) : gV (.bool (decide p)) false (pickV (.bool (decide q)) (.bool true) (gD (decide (¬ p ∧ ¬ q)) true (.bool d))) = some (gD (decide p) false (.bool (decide q || d))) := by rw [Bool.decide_and, decide_not, decide_not]; exact gV_or_f _ _ _
theorem beq_t (b : Bool) : (b == true) = b := by cases b <;> rfl
theorem beq_f (b : Bool) : (b == false) = !b := by cases b <;> rfl
theorem dec_and (p q : Prop) [Decidable p] [Decidable q] : (decide p && decide q) = decide (p ∧ q) := (Bool.decide_and p q).symm
theorem dec_or (p q : Prop) [Decidable p] [Decidable q] : (decide p || decide q) = decide (p ∨ q) := (Bool.decide_or p q).symm
theorem dec_not (p : Prop) [Decidable p] : (!decide p) = decide (¬ p) := decide_not.symm
theorem dec_ta (p : Prop) [Decidable p] : decide (True ∧ p) = decide p := by by_cases h : p <;> simp [h]
theorem dec_at (p : Prop) [Decidable p] : decide (p ∧ True) = decide p := by by_cases h : p <;> simp [h]
theorem dec_fa (p : Prop) [Decidable p] : decide (False ∧ p) = false := by simp
theorem dec_af (p : Prop) [Decidable p] : decide (p ∧ False) = false := by simp
theorem gK_f {b : Bool} {m : (Value → Heap → Prop) → Prop} {h : Heap} {K : Value → Heap → Prop} (h1 : b = false → m K) (h2 : b = true → K undef h) : gK (.bool b) false m h K := by
 cases b
 ·exact h1 rfl
 ·exact h2 rfl
theorem zc2 {init : List Value} {h : Heap} {body : List Value → Env → Heap → (List Value → Heap → Prop) → Prop} (st : Nat → List Value) (N i0 : Nat) (hi : init = st i0) (h0 : i0 ≤ N)
  (step : ∀ i again ρj, i0 ≤ i → i ≤ N → (i < N → again (st (i + 1)) h) → body (st i) ρj h again) : loopK init h body := by
 refine zbl (fun d xs h' => ∃ i, d = N - i ∧ i0 ≤ i ∧ i ≤ N ∧ xs = st i ∧ h' = h) (N - i0) ⟨i0, rfl, Nat.le_refl _, h0, hi, rfl⟩ ?_
 rintro d xs ρj h' again ⟨i, rfl, h1, h2, rfl, rfl⟩ H
 exact step i again ρj h1 h2 fun hl => H _ _ (N - (i + 1)) (by omega) ⟨i + 1, rfl, by omega, hl, rfl, rfl⟩
theorem zaD {α : Type} {init : List Value} {h : Heap} {body : List Value → Env → Heap → (List Value → Heap → Prop) → Prop} (N i0 : Nat) (st : Nat → α → List Value) (I : Nat → α → Heap → Prop) (a0 : α) (hi : init = st i0 a0) (h0 : i0 ≤ N) (hI : I i0 a0 h)
  (step : ∀ i a h again ρj, i0 ≤ i → i ≤ N → I i a h → (∀ a' h', i < N → I (i + 1) a' h' → again (st (i + 1) a') h') → body (st i a) ρj h again) : loopK init h body := by
 refine zbl (fun d xs h' => ∃ i a, d = N - i ∧ i0 ≤ i ∧ i ≤ N ∧ xs = st i a ∧ I i a h') (N - i0) ⟨i0, a0, rfl, Nat.le_refl _, h0, hi, hI⟩ ?_
 rintro d xs ρj h' again ⟨i, a, rfl, h1, h2, rfl, hi⟩ H
 exact step i a h' again ρj h1 h2 hi fun a' h' hl hI' => H _ _ (N - (i + 1)) (by omega) ⟨i + 1, a', rfl, by omega, hl, rfl, hI'⟩
attribute [go_sem] gD_gD gD_tt gD_ff gD_tf gD_ft gV_gD gV_un gV_binl gV_binr gV_cvi gV_fld gV_ld gV_lds gV_idxl gV_idxr gV_lensl gV_lenst gV_ext gV_nil gV_maxl gV_maxr gV_minl gV_minr gV_part gV_pick0 gV_pick1 gV_pick2 true_or or_true false_or or_false dec_ta dec_at dec_fa dec_af pick_and pick_or gV_guard gK_guard gV_and_t gV_and_f gV_or_t gV_or_f gV_and_td gV_and_fd gV_or_td gV_or_fd beq_t beq_f dec_and dec_or dec_not
attribute [irreducible] gD
end Go.Crisp
namespace Go.Proofs.YtdbebmafgpdfhaaGreatDoor
open Go Go.Crisp
attribute [local irreducible] FCall rowK newK stK iteK vK qK drawK gK joinK loopK mkK appK cpyK zni zla bsK
open _root_.Go.Proofs.Tryz
theorem zd8 {h : Heap} {x : Int} (hx : I64 x) : FCall prog zcm #[.int .i64 x] h fun r h' => r = .int .u64 (x.natAbs : Int) ∧ h' = h := by
 apply zq1
 unfold zk0
 simp only [go_sem]
 refine zab (fun h0 => ?_) (fun h0 => ?_)
 ·rw [size_neg hx h0]; exact ⟨rfl, trivial⟩
 ·rw [size_pos hx h0]; exact ⟨rfl, trivial⟩
theorem zfK {h : Heap} {m : Nat} {b : Bool} (hm : m < 18446744073709551616) : FCall prog zdw #[.int .u64 (m : Int), .bool b] h fun r h' => r = .int .i64 (holdZ m b) ∧ h' = h := by
 apply zq2
 unfold zk1
 unfold holdZ
 cases b
 ·simp only [go_sem, Bool.false_eq_true, if_false]
  refine zab (fun h0 => ?_) (fun h0 => ?_)
  ·rw [if_pos (by omega)]; exact ⟨rfl, trivial⟩
  ·rw [if_neg (by omega), w64 (by omega) (by omega)]; exact ⟨rfl, trivial⟩
 ·simp only [go_sem, if_true]
  refine zab (fun h0 => ?_) (fun h0 => ?_)
  ·rw [if_pos (by omega)]; exact ⟨rfl, trivial⟩
  ·rw [if_neg (by omega), w64 (n := (m : Int)) (by omega) (by omega), w64 (by omega) (by omega)]
   exact ⟨by congr 1; omega, trivial⟩
theorem zqx {a b : Nat} (hb : 0 < b) (ha : a < 18446744073709551616) : binV .i .quo (.int .u64 (a : Int)) (.int .u64 (b : Int)) = some (.int .u64 ((a / b : Nat) : Int)) := by
 have e : (a : Int).tdiv (b : Int) = ((a / b : Nat) : Int) := (Int.ofNat_tdiv a b).symm
 rw [zek _ _ _ _ (by omega), e, zbZ (Nat.lt_of_le_of_lt (Nat.div_le_self _ _) ha)]
theorem rem_u64 {a b : Nat} (hb : 0 < b) : binV .i .rem (.int .u64 (a : Int)) (.int .u64 (b : Int)) = some (.int .u64 ((a % b : Nat) : Int)) := by
 have e : (a : Int).tmod (b : Int) = ((a % b : Nat) : Int) := (Int.ofNat_tmod a b).symm
 rw [za8 _ _ _ _ (by omega), e]
theorem zcF {x : Int} (h : I64 x) : x.natAbs < 18446744073709551616 := by unfold I64 at h; omega
theorem zfC {x : Int} (h : I64 x) : x.natAbs ≤ 9223372036854775808 := by unfold I64 at h; omega
theorem zry {h : Heap} {a b : Int} (ha : I64 a) (hb : I64 b) : FCall prog zcX #[.int .i64 a, .int .i64 b] h fun r h' => r = .int .i64 (zpS a b) ∧ h' = h := by
 apply zpk
 unfold zjN
 simp only [go_sem]
 unfold zpS
 refine zab (fun h0 => ?_) (fun h0 => ?_)
 ·rw [if_pos h0]; exact ⟨rfl, trivial⟩
 rw [if_neg h0]
 refine zan (fun h' => h' = h) rfl ?_
 refine (zd8 ha).mono fun v1 h1 ⟨e1, w1⟩ => ?_
 subst e1 w1
 try refine ⟨rfl, ?_⟩
 refine (zd8 hb).mono fun v2 h2 ⟨e2, w2⟩ => ?_
 subst e2 w2
 try refine ⟨rfl, ?_⟩
 have hb0 : 0 < b.natAbs := by omega
 have ha1 := zfC ha
 rw [zqx hb0 (zcF ha), zaa]
 refine (zd8 ha).mono fun v3 h3 ⟨e3, w3⟩ => ?_
 subst e3 w3
 try refine ⟨rfl, ?_⟩
 refine (zd8 hb).mono fun v4 h4 ⟨e4, w4⟩ => ?_
 subst e4 w4
 try refine ⟨rfl, ?_⟩
 rw [rem_u64 hb0, zaa]
 simp only [go_sem]
 have hq : a.natAbs / b.natAbs ≤ a.natAbs := Nat.div_le_self _ _
 by_cases hd : diffS a b = true
 ·have hd' : (!(decide (a < 0) == decide (b < 0))) = true := hd
  rw [hd']
  simp only [go_sem]
  by_cases hr : a.natAbs % b.natAbs = 0
  ·have q : (((a.natAbs % b.natAbs : Nat) : Int) = 0) = True := eq_true (by omega)
   simp only [go_sem, q]
   rw [hd]
   unfold zoy
   rw [if_neg (by simp [hr])]
   exact zfK (by omega)
  ·have q : (((a.natAbs % b.natAbs : Nat) : Int) = 0) = False := eq_false (by omega)
   simp only [go_sem, q]
   rw [hd, show ((a.natAbs / b.natAbs : Nat) : Int) + 1 = ((a.natAbs / b.natAbs + 1 : Nat) : Int) from rfl, zbZ (m := a.natAbs / b.natAbs + 1) (by omega)]
   unfold zoy
   rw [if_pos ⟨rfl, hr⟩]
   exact zfK (m := a.natAbs / b.natAbs + 1) (by omega)
 ·have hd : diffS a b = false := by simpa using hd
  have hd' : (!(decide (a < 0) == decide (b < 0))) = false := hd
  rw [hd']
  simp only [go_sem]
  rw [hd]
  unfold zoy
  rw [if_neg (by simp)]
  exact zfK (by omega)
theorem and_one (a : Int) : binV .i .and (.int .i64 a) (.int .i64 1) = some (.int .i64 (a % 2)) := by
 have e : (BitVec.ofInt 64 a &&& BitVec.ofInt 64 1).toNat = (a % 2).toNat := by
  rw [BitVec.toNat_and, BitVec.toNat_ofInt, BitVec.toNat_ofInt]
  have h1 : (1 % ((2 ^ 64 : Nat) : Int)).toNat = 1 := by decide
  rw [h1, Nat.and_one_is_mod]
  omega
 show some (Value.int .i64 (IntKind.i64.wrap (((BitVec.ofInt 64 a &&& BitVec.ofInt 64 1).toNat : Nat) : Int))) = _
 rw [e, w64 (by omega) (by omega)]
 congr 2; omega
theorem shr_i64 (x : Int) (n : Nat) (hn : n ≤ 64) : binV .i .shr (.int .i64 x) (.int .i64 (n : Int)) = some (.int .i64 (x / 2 ^ n)) := by
 show (if (n : Int) < 0 then none else some (Value.int .i64 (x.fdiv (2 ^ (min (n : Int).toNat 64))))) = _
 rw [if_neg (by omega), Int.toNat_natCast, Nat.min_eq_left hn, Int.fdiv_eq_ediv_of_nonneg _ (Int.le_of_lt (Int.pow_pos (by omega)))]
theorem zrw {h : Heap} {x n : Int} (hx : I64 x) (hn : I64 n) : FCall prog zcW #[.int .i64 x, .int .i64 n] h fun r h' => r = .int .i64 (zfo x n) ∧ h' = h := by
 apply zpj
 unfold zjM
 simp only [go_sem]
 unfold zfo
 refine zab (fun h0 => ?_) (fun h0 => ?_)
 ·rw [if_pos h0]; exact ⟨rfl, trivial⟩
 rw [if_neg h0]
 refine zab (fun h1 => ?_) (fun h1 => ?_)
 ·rw [if_pos h1]; exact ⟨rfl, trivial⟩
 rw [if_neg h1]
 obtain ⟨k, rfl⟩ : ∃ k : Nat, n = (k : Int) := ⟨n.toNat, by omega⟩
 rw [w64 (n := (k : Int) - 1) (by omega) (by omega), show (k : Int) - 1 = ((k - 1 : Nat) : Int) by omega, shr_i64 x k (by omega), zaa, shr_i64 x (k - 1) (by omega), zaa, and_one, zaa]
 simp only [go_sem, Int.toNat_natCast]
 refine ⟨?_, trivial⟩
 congr 1
 have hp : (2 : Int) ^ k = 2 * 2 ^ (k - 1) := by
  obtain ⟨j, rfl⟩ : ∃ j, k = j + 1 := ⟨k - 1, by omega⟩
  rw [Nat.add_sub_cancel, Int.pow_succ, Int.mul_comm]
 have hp1 : (0 : Int) < 2 ^ (k - 1) := Int.pow_pos (by omega)
 have h2 : x / 2 ^ k = x / 2 ^ (k - 1) / 2 := by rw [hp, Int.mul_comm, Int.ediv_ediv, if_neg (by omega), Int.sub_zero]
 obtain ⟨b1, b2⟩ := hx
 have b3 : -9223372036854775808 ≤ x / 2 ^ (k - 1) ∧ x / 2 ^ (k - 1) ≤ 9223372036854775807 := by
  constructor
  ·rw [Int.le_ediv_iff_mul_le hp1]
   have : -9223372036854775808 * (2 : Int) ^ (k - 1) ≤ -9223372036854775808 * 1 := Int.mul_le_mul_of_nonpos_left (by omega) (by omega)
   omega
  ·apply Int.le_of_lt_add_one
   rw [Int.ediv_lt_iff_lt_mul hp1]
   have : (9223372036854775807 + 1) * 1 ≤ (9223372036854775807 + 1) * (2 : Int) ^ (k - 1) := Int.mul_le_mul_of_nonneg_left (by omega) (by omega)
   omega
 rw [w64 (by omega) (by omega)]
end Go.Proofs.YtdbebmafgpdfhaaGreatDoor
namespace Go.Proofs.YtdbebmafgpdfhaaGreatDoor
open Go Go.Crisp
open _root_.Go.Proofs.Tryz
def zqu : Go.Shelf.Ren := ⟨fun n => match n with | 264 => 225 | n => n, fun n => match n with | 46 => 239 | 53 => 212 | n => n, fun n => n⟩
theorem lay_Mul64 : Go.Proofs.Lays.n264 prog zqu where
 mixed := by kernel_rfl
 f264 := by kernel_rfl
 t46 := by kernel_rfl
 a46 := fun w => zaE (by kernel_rfl)
 z46 := fun w => zap (by kernel_rfl)
 v46 := fun w => zam (by kernel_rfl)
 t53 := by kernel_rfl
 a53 := fun w => zaE (by kernel_rfl)
 z53 := fun w => zap (by kernel_rfl)
 v53 := fun w => zam (by kernel_rfl)
def zqv : Go.Shelf.Ren := ⟨fun n => match n with | 129 => 230 | n => n, fun n => match n with | 3 => 3 | 4 => 4 | 5 => 5 | 9 => 9 | 46 => 239 | 53 => 212 | n => n, fun n => n⟩
theorem lay_Len64 : Go.Proofs.Lays.n129 prog zqv where
 mixed := by kernel_rfl
 f129 := by kernel_rfl
 t3 := by kernel_rfl
 a3 := fun w => zaE (by kernel_rfl)
 z3 := fun w => zap (by kernel_rfl)
 v3 := fun w => zam (by kernel_rfl)
 t4 := by kernel_rfl
 a4 := fun w => zaE (by kernel_rfl)
 z4 := fun w => zap (by kernel_rfl)
 v4 := fun w => zam (by kernel_rfl)
 t5 := by kernel_rfl
 a5 := fun w => zaE (by kernel_rfl)
 z5 := fun w => zap (by kernel_rfl)
 v5 := fun w => zam (by kernel_rfl)
 t9 := by kernel_rfl
 a9 := fun w => zaE (by kernel_rfl)
 z9 := fun w => zap (by kernel_rfl)
 v9 := fun w => zam (by kernel_rfl)
 t46 := by kernel_rfl
 a46 := fun w => zaE (by kernel_rfl)
 z46 := fun w => zap (by kernel_rfl)
 v46 := fun w => zam (by kernel_rfl)
 t53 := by kernel_rfl
 a53 := fun w => zaE (by kernel_rfl)
 z53 := fun w => zap (by kernel_rfl)
 v53 := fun w => zam (by kernel_rfl)
def zqw : Go.Shelf.Ren := ⟨fun n => match n with | 25 => 212 | n => n, fun n => match n with | 22 => 212 | n => n, fun n => n⟩
theorem lay_Add64 : Go.Proofs.Lays7.n25 prog zqw where
 mixed := by kernel_rfl
 f25 := by kernel_rfl
 t22 := by kernel_rfl
 a22 := fun w => zaE (by kernel_rfl)
 z22 := fun w => zap (by kernel_rfl)
 v22 := fun w => zam (by kernel_rfl)
 i22 := by kernel_rfl
end Go.Proofs.YtdbebmafgpdfhaaGreatDoor
namespace Go.Proofs.YtdbebmafgpdfhaaGreatDoor
open Go Go.Crisp
attribute [local irreducible] FCall rowK newK stK iteK vK qK drawK gK joinK loopK mkK appK cpyK zni zla bsK
open _root_.Go.Proofs.Tryz
theorem zmb {h : Heap} {x : Int} (hx : I64 x) : FCall prog zfM #[.int .i64 x] h fun r h' => r = .int .u64 (x.natAbs : Int) ∧ h' = h := by
 apply ok_wide_size
 unfold zmq
 simp only [go_sem]
 refine zab (fun h0 => ?_) (fun h0 => ?_)
 ·rw [size_neg hx h0]; exact ⟨rfl, trivial⟩
 ·rw [size_pos hx h0]; exact ⟨rfl, trivial⟩
section
attribute [local semireducible] FCall
theorem c_Mul64 {h : Heap} {x y : Nat} (hx : x < 18446744073709551616) (hy : y < 18446744073709551616) :
  FCall prog zcU #[.int .u64 (x : Int), .int .u64 (y : Int)] h fun r h' => r = .tuple #[.int .u64 ((x * y / 18446744073709551616 : Nat) : Int), .int .u64 ((x * y % 18446744073709551616 : Nat) : Int)] ∧ h' = h := by
 refine FCall.ofCalls (by kernel_rfl) fun w hw => ?_
 refine (Any.bits_Mul64 lay_Mul64 x y hx hy w).mono ?_
 rintro e w' ⟨rfl, rfl⟩
 exact ⟨_, rfl, Same.refl _, rfl, hw⟩
end
theorem c_product {h : Heap} {a b : Int} (ha : I64 a) (hb : I64 b) : FCall prog zen #[.int .i64 a, .int .i64 b] h fun r h' =>
  r = .tuple #[.int .u64 ((a.natAbs * b.natAbs / 18446744073709551616 : Nat) : Int), .int .u64 ((a.natAbs * b.natAbs % 18446744073709551616 : Nat) : Int), .bool (diffS a b)] ∧ h' = h := by
 apply zn2
 unfold zib
 refine (zmb ha).mono fun v1 h1 ⟨e1, w1⟩ => ?_
 subst e1 w1
 refine (zmb hb).mono fun v2 h2 ⟨e2, w2⟩ => ?_
 subst e2
 refine (c_Mul64 (zcF ha) (zcF hb)).mono fun v3 h3 ⟨e3, w3⟩ => ?_
 subst e3
 simp only [go_sem]
 exact ⟨rfl, w3.trans w2⟩
section
attribute [local semireducible] FCall
theorem c_Add64 {h : Heap} {x y c : Nat} (hc : c ≤ 1) : FCall prog zbC #[.int .u64 (x : Int), .int .u64 (y : Int), .int .u64 (c : Int)] h fun r h' =>
  r = .tuple #[.int .u64 (((x + y + c) % 18446744073709551616 : Nat) : Int), .int .u64 (((x + y + c) / 18446744073709551616 : Nat) : Int)] ∧ h' = h :=
 FCall.ofRun fun w hw => ⟨_, w, Any7.bits_Add64 lay_Add64 x y c hc w, Same.refl _, rfl, hw⟩
theorem c_Len64 {h : Heap} {x : Nat} (hx : x < 18446744073709551616) : FCall prog zg0 #[.int .u64 (x : Int)] h fun r h' => r = .int .i64 (Lib.bitLen x : Int) ∧ h' = h := by
 refine FCall.ofCalls (by kernel_rfl) fun w hw => ?_
 refine (Any.bits_Len64 lay_Len64 (x : Int) w (by omega) (by omega)).mono ?_
 rintro e w' ⟨rfl, rfl⟩
 exact ⟨_, rfl, Same.refl _, rfl, hw⟩
end
theorem znc {h : Heap} {x : Nat} (hx : x < 18446744073709551616) : FCall prog zbU #[.int .u64 (x : Int)] h fun r h' => r = .int .i64 (64 - (Lib.bitLen x : Int)) ∧ h' = h := by
 apply zfB
 unfold zcC
 refine (c_Len64 hx).mono fun v h1 ⟨e1, w1⟩ => ?_
 subst e1
 have := Lib.bitLen_le x 64 (Nat.le_refl _) hx
 have this : Lib.bitLen x ≤ 64 := this
 simp only [go_sem]
 rw [w64 (by omega) (by omega)]
 exact ⟨rfl, w1⟩
theorem zlz {h : Heap} {m : Nat} {b : Bool} (hm : m < 340282366920938463463374607431768211456) :
  FCall prog za9 #[.int .u64 ((m / 18446744073709551616 : Nat) : Int), .int .u64 ((m % 18446744073709551616 : Nat) : Int), .bool b] h fun r h' => r = .int .i64 (holdZ m b) ∧ h' = h := by
 apply zoV
 unfold zjo
 unfold holdZ
 cases b
 ·simp only [go_sem, Bool.false_eq_true, if_false]
  refine zab (fun h0 => ?_) (fun h0 => ?_)
  ·rw [if_pos (by omega)]; exact ⟨rfl, trivial⟩
  ·rw [if_neg (by omega), w64 (by omega) (by omega)]
   exact ⟨by congr 1; omega, trivial⟩
 ·simp only [go_sem, if_true]
  refine zab (fun h0 => ?_) (fun h0 => ?_)
  ·rw [if_pos (by omega)]; exact ⟨rfl, trivial⟩
  ·have e : IntKind.i64.wrap (IntKind.u64.wrap (0 - ((m % 18446744073709551616 : Nat) : Int))) = -((m % 18446744073709551616 : Nat) : Int) := by
    rw [zby, zc4]; omega
   rw [e]
   refine ⟨?_, trivial⟩
   congr 1
   split <;> omega
end Go.Proofs.YtdbebmafgpdfhaaGreatDoor
namespace Go.Crisp
open Go
section
structure Guess (u d Y yn1 yn0 q r : Nat) : Prop where
 eq : q * yn1 + r = u
 up : (u * 4294967296 + d) / Y ≤ q
section
variable {u d Y yn1 yn0 q r : Nat} (hY : Y = yn1 * 4294967296 + yn0) (h0 : yn0 < 4294967296) (h1 : 2147483648 ≤ yn1) (h1' : yn1 < 4294967296) (hu : u < Y) (hd : d < 4294967296)
theorem guess_mul (hY : Y = yn1 * 4294967296 + yn0) (g : Guess u d Y yn1 yn0 q r) : q * Y + r * 4294967296 = u * 4294967296 + q * yn0 := by
 have := g.eq
 rw [hY, Nat.mul_add, ← Nat.mul_assoc, ← this, Nat.add_mul]; omega
theorem zrq (hu : u < Y) (hd : d < 4294967296) : (u * 4294967296 + d) / Y < 4294967296 := by
 rw [Nat.div_lt_iff_lt_mul (by omega)]
 have : (u + 1) * 4294967296 ≤ Y * 4294967296 := Nat.mul_le_mul_right _ hu
 rw [Nat.add_mul] at this
 rw [Nat.mul_comm 4294967296 Y]
 omega
theorem guess_first (hY : Y = yn1 * 4294967296 + yn0) (h1 : 2147483648 ≤ yn1) (hu : u < Y) (hd : d < 4294967296) : Guess u d Y yn1 yn0 (u / yn1) (u - u / yn1 * yn1) := by
 have hle : u / yn1 * yn1 ≤ u := Nat.div_mul_le_self u yn1
 refine ⟨by omega, ?_⟩
 rw [Nat.le_div_iff_mul_le (by omega)]
 have hq : (u * 4294967296 + d) / Y * Y ≤ u * 4294967296 + d := Nat.div_mul_le_self _ _
 generalize (u * 4294967296 + d) / Y = Q at hq
 rw [hY, Nat.mul_add, ← Nat.mul_assoc] at hq
 generalize Q * yn1 = a at hq ⊢
 omega
theorem zl7 (hY : Y = yn1 * 4294967296 + yn0) (h1 : 2147483648 ≤ yn1) (hu : u < Y) (hd : d < 4294967296) (g : Guess u d Y yn1 yn0 q r) (h : 4294967296 ≤ q ∨ 4294967296 * r + d < q * yn0) : 1 ≤ q ∧ Guess u d Y yn1 yn0 (q - 1) (r + yn1) := by
 have hlt := zrq hu hd
 have hQ : (u * 4294967296 + d) / Y < q := by
  rcases h with h | h
  ·exact Nat.lt_of_lt_of_le hlt h
  ·rw [Nat.div_lt_iff_lt_mul (by omega)]
   have := guess_mul hY g
   clear hY hlt
   generalize q * Y = a at this ⊢
   omega
 have hq1 : 1 ≤ q := Nat.lt_of_le_of_lt (Nat.zero_le _) hQ
 refine ⟨hq1, ⟨?_, Nat.le_sub_one_of_lt hQ⟩⟩
 have := g.eq
 obtain ⟨k, rfl⟩ : ∃ k, q = k + 1 := ⟨q - 1, by omega⟩
 rw [Nat.add_mul] at this
 rw [Nat.add_sub_cancel]
 omega
theorem zpQ (hY : Y = yn1 * 4294967296 + yn0) (h1 : 2147483648 ≤ yn1) (g : Guess u d Y yn1 yn0 q r) (h : q * yn0 ≤ 4294967296 * r + d) : q = (u * 4294967296 + d) / Y := by
 have := guess_mul hY g
 have hup := g.up
 have : q ≤ (u * 4294967296 + d) / Y := by
  rw [Nat.le_div_iff_mul_le (by omega)]
  clear hY hup
  generalize q * Y = a at this ⊢
  omega
 exact Nat.le_antisymm this hup
theorem guess_over (hY : Y = yn1 * 4294967296 + yn0) (h0 : yn0 < 4294967296) (h1 : 2147483648 ≤ yn1) (hu : u < Y) (g : Guess u d Y yn1 yn0 q r) (h : 4294967296 ≤ r) : q = (u * 4294967296 + d) / Y := by
 refine zpQ hY h1 g ?_
 have e := g.eq
 have hq : q < 4294967296 := by
  rcases Nat.lt_or_ge q 4294967296 with h2 | h2
  ·exact h2
  ·have : 4294967296 * yn1 ≤ q * yn1 := Nat.mul_le_mul_right _ h2
   omega
 have : q * yn0 ≤ q * 4294967296 := Nat.mul_le_mul_left _ (by omega)
 omega
theorem guess_le (h1 : 2147483648 ≤ yn1) (hY : Y = yn1 * 4294967296 + yn0) (h0 : yn0 < 4294967296) (hu : u < Y) : u / yn1 < 4294967298 := by
 rw [Nat.div_lt_iff_lt_mul (by omega)]
 omega
end
theorem digits_div {M Y d0 q r : Nat} (hY : 0 < Y) (hq : M / Y = q) (hr : M % Y = r) :
  (M * 4294967296 + d0) / Y = q * 4294967296 + (r * 4294967296 + d0) / Y ∧ (M * 4294967296 + d0) % Y = (r * 4294967296 + d0) % Y := by
 have h := Nat.div_add_mod M Y
 rw [hq, hr] at h
 have e : M * 4294967296 + d0 = (r * 4294967296 + d0) + Y * (q * 4294967296) := by
  rw [← h, Nat.add_mul, Nat.mul_assoc, Nat.add_assoc, Nat.add_comm]
 rw [e]
 exact ⟨by rw [Nat.add_mul_div_left _ _ hY, Nat.add_comm], by rw [Nat.add_mul_mod_self_left]⟩
end
end Go.Crisp
namespace Go.Proofs.YtdbebmafgpdfhaaGreatDoor
open Go Go.Crisp
attribute [local irreducible] FCall rowK newK stK iteK vK qK drawK gK joinK loopK mkK appK cpyK zni zla bsK
open _root_.Go.Proofs.Tryz
theorem zeG {a n : Nat} (k' : IntKind) (hn : n ≤ 64) : binV .i .shr (.int .u64 (a : Int)) (.int k' (n : Int)) = some (.int .u64 ((a / 2 ^ n : Nat) : Int)) := by
 show (if (n : Int) < 0 then none else some (Value.int .u64 ((a : Int).fdiv (2 ^ (min (n : Int).toNat 64))))) = _
 rw [if_neg (by omega), Int.toNat_natCast, Nat.min_eq_left hn, Int.fdiv_eq_ediv_of_nonneg _ (Int.le_of_lt (Int.pow_pos (by omega)))]
 simp
theorem zh8 {a n : Nat} (k' : IntKind) (hn : n ≤ 64) : binV .i .shl (.int .u64 (a : Int)) (.int k' (n : Int)) = some (.int .u64 ((a * 2 ^ n % 18446744073709551616 : Nat) : Int)) := by
 show (if (n : Int) < 0 then none else some (Value.int .u64 (IntKind.u64.wrap ((a : Int) * (2 ^ (min (n : Int).toNat 64)))))) = _
 rw [if_neg (by omega), Int.toNat_natCast, Nat.min_eq_left hn, zby]
 simp
theorem zdz (a : Nat) (h : a < 18446744073709551616) : (BitVec.ofInt 64 (a : Int)).toNat = a := by
 rw [BitVec.toNat_ofInt]; simp only [Nat.reducePow]; omega
theorem or_u64 {a b : Nat} (ha : a < 18446744073709551616) (hb : b < 18446744073709551616) : binV .i .or (.int .u64 (a : Int)) (.int .u64 (b : Int)) = some (.int .u64 ((a ||| b : Nat) : Int)) := by
 show some (Value.int .u64 (IntKind.u64.wrap (((BitVec.ofInt 64 (a : Int) ||| BitVec.ofInt 64 (b : Int)).toNat : Nat) : Int))) = _
 rw [BitVec.toNat_or, zdz a ha, zdz b hb, zbZ]
 exact Nat.or_lt_two_pow (n := 64) ha hb
theorem and_u64 {a b : Nat} (ha : a < 18446744073709551616) (hb : b < 18446744073709551616) : binV .i .and (.int .u64 (a : Int)) (.int .u64 (b : Int)) = some (.int .u64 ((a &&& b : Nat) : Int)) := by
 show some (Value.int .u64 (IntKind.u64.wrap (((BitVec.ofInt 64 (a : Int) &&& BitVec.ofInt 64 (b : Int)).toNat : Nat) : Int))) = _
 rw [BitVec.toNat_and, zdz a ha, zdz b hb, zbZ]
 exact Nat.lt_of_le_of_lt Nat.and_le_left ha
theorem zqd {a : Nat} (ha : a < 18446744073709551616) : binV .i .and (.int .u64 (a : Int)) (.int .u64 4294967295) = some (.int .u64 ((a % 4294967296 : Nat) : Int)) := by
 rw [show (4294967295 : Int) = ((4294967295 : Nat) : Int) from rfl, and_u64 ha (by omega)]
 have := Nat.and_two_pow_sub_one_eq_mod a 32
 simp only [Nat.reducePow, Nat.reduceSub] at this
 rw [this]
theorem and_one_u64 {a : Nat} (ha : a < 18446744073709551616) : binV .i .and (.int .u64 (a : Int)) (.int .u64 1) = some (.int .u64 ((a % 2 : Nat) : Int)) := by
 rw [show (1 : Int) = ((1 : Nat) : Int) from rfl, and_u64 ha (by omega), Nat.and_one_is_mod]
theorem or_shift {a b s : Nat} (hb : b < 2 ^ s) : a * 2 ^ s ||| b = a * 2 ^ s + b := by
 rw [Nat.mul_comm, Nat.two_pow_add_eq_or_of_lt hb]
theorem cvu {n : Nat} (k : IntKind) (h : n < 18446744073709551616) : cviV .u64 (.int k (n : Int)) = some (.int .u64 (n : Int)) := by
 rw [zns, zbZ h]
theorem join_digits {H a b c u : Nat} (h : H = a * 18446744073709551616 + u) (hu : u = b * 4294967296 + c) : H = (a * 4294967296 + b) * 4294967296 + c := by
 rw [h, hu, Nat.add_mul, Nat.mul_assoc]
 simp only [Nat.reduceMul, Nat.add_assoc]
theorem zpP {u d Y yn1 yn0 : Nat} {h : Heap} (hY : Y = yn1 * 4294967296 + yn0) (h0 : yn0 < 4294967296) (h1 : 2147483648 ≤ yn1) (h1' : yn1 < 4294967296) (hu : u < Y) (hd : d < 4294967296)
  {init : List Value} {body : List Value → Env → Heap → (List Value → Heap → Prop) → Prop} (P : Nat → Nat → List Value) (hi : init = P (u / yn1) (u - u / yn1 * yn1))
  (step : ∀ q r again ρj, q < 4294967298 → r < 4294967296 → (∀ q' r', q' = q - 1 → r' = r + yn1 → 1 ≤ q → (4294967296 ≤ q ∨ 4294967296 * r + d < q * yn0) → r' < 4294967296 → again (P q' r') h) →
   ((4294967296 ≤ q ∨ 4294967296 * r + d < q * yn0) → 1 ≤ q → 4294967296 ≤ r + yn1 → q - 1 = (u * 4294967296 + d) / Y) → (¬ (4294967296 ≤ q ∨ 4294967296 * r + d < q * yn0) → q = (u * 4294967296 + d) / Y) → ((4294967296 ≤ q ∨ 4294967296 * r + d < q * yn0) → 1 ≤ q) →
   body (P q r) ρj h again) : loopK init h body := by
 have hle := guess_le h1 hY h0 hu
 refine zbl (fun m xs h' => h' = h ∧ ∃ q r, m = q ∧ xs = P q r ∧ Guess u d Y yn1 yn0 q r ∧ q < 4294967298 ∧ r < 4294967296) (u / yn1) ⟨rfl, u / yn1, u - u / yn1 * yn1, rfl, hi, guess_first hY h1 hu hd, hle, ?_⟩ ?_
 ·have := Nat.div_add_mod u yn1
  have h2 := Nat.mod_lt u (show yn1 > 0 by omega)
  rw [Nat.mul_comm] at this
  omega
 ·rintro m xs ρj h' again ⟨hh, q, r, hm, rfl, g, hq, hr⟩ H
  have hm := hm.symm
  subst hh hm
  refine step q r again ρj hq hr (fun q' r' hq' hr' h1q hc hr2 => ?_) (fun hc h1q hr2 => ?_) (fun hc => ?_) fun hc => (zl7 hY h1 hu hd g hc).1
  ·subst hq' hr'
   refine H _ _ (q - 1) (by omega) ⟨rfl, q - 1, r + yn1, rfl, rfl, (zl7 hY h1 hu hd g hc).2, by omega, hr2⟩
  ·exact guess_over hY h0 h1 hu (zl7 hY h1 hu hd g hc).2 hr2
  ·exact zpQ hY h1 g (by omega)
theorem c_Div64 {h : Heap} {hi lo y : Nat} (hhi : hi < y) (hlo : lo < 18446744073709551616) (hy : y < 18446744073709551616) :
  FCall prog zef #[.int .u64 (hi : Int), .int .u64 (lo : Int), .int .u64 (y : Int)] h fun r h' =>
   r = .tuple #[.int .u64 (((hi * 18446744073709551616 + lo) / y : Nat) : Int), .int .u64 (((hi * 18446744073709551616 + lo) % y : Nat) : Int)] ∧ h' = h := by
 apply zlo
 unfold zgb
 have q1 : ((y : Int) = 0) = False := eq_false (by omega)
 have q2 : ((y : Int) ≤ (hi : Int)) = False := eq_false (by omega)
 simp only [go_sem, q1, q2]
 refine zau (fun xs h' => h' = h) rfl fun xs ρj h' e => ?_
 subst e
 refine zau (fun xs h'' => h'' = h') rfl fun xs ρj h'' e => ?_
 subst e
 refine zab (fun h0 => ?_) (fun h0 => ?_)
 ·have h0 : hi = 0 := by omega
  subst h0
  rw [zqx (by omega) hlo, zaa, rem_u64 (by omega), zaa]
  exact ⟨by simp, rfl⟩
 refine (znc hy).mono fun v1 h1 ⟨e1, w1⟩ => ?_
 subst e1 w1
 obtain ⟨b0, b1, b2⟩ := Lib.bitLenAux_bounds 64 y hy (by omega)
 have b3 := Lib.bitLen_le y 64 (Nat.le_refl _) hy
 have hbl : Lib.bitLen y = Lib.bitLenAux 64 y := rfl
 rw [← hbl] at b0 b1 b2
 generalize hL : Lib.bitLen y = L at b0 b1 b2 b3
 obtain ⟨s, hs⟩ : ∃ s, s = 64 - L := ⟨_, rfl⟩
 rw [show (64 : Int) - (L : Int) = (s : Int) by omega, cvu _ (by omega), zaa, zh8 _ (by omega), zaa]
 have hp : (0 : Nat) < 2 ^ s := Nat.pow_pos (by omega)
 have hps : 2 ^ L * 2 ^ s = 18446744073709551616 := by
  rw [← Nat.pow_add, show L + s = 64 by omega]
 have hps1 : 2 ^ (L - 1) * 2 ^ s = 9223372036854775808 := by
  rw [← Nat.pow_add, show L - 1 + s = 63 by omega]
 have hY1 : y * 2 ^ s < 18446744073709551616 := by rw [← hps]; exact Nat.mul_lt_mul_of_pos_right b2 hp
 have hY2 : 9223372036854775808 ≤ y * 2 ^ s := by rw [← hps1]; exact Nat.mul_le_mul_right _ b1
 have hhs : hi * 2 ^ s < 18446744073709551616 := Nat.lt_trans (Nat.mul_lt_mul_of_pos_right hhi hp) hY1
 rw [Nat.mod_eq_of_lt hY1]
 have hq64 : lo / 2 ^ (64 - s) < 2 ^ s := by
  rw [Nat.div_lt_iff_lt_mul (Nat.pow_pos (by omega)), ← Nat.pow_add, show s + (64 - s) = 64 by omega]
  exact hlo
 have e32 : (32 : Int) = ((32 : Nat) : Int) := rfl
 rw [e32, zeG _ (by omega), zaa, zqd hY1, zaa, zh8 _ (by omega), zaa, Nat.mod_eq_of_lt hhs, zco, zaa,
  wu64 (n := 64 - (s : Int)) (by omega) (by omega), show (64 : Int) - (s : Int) = ((64 - s : Nat) : Int) by omega, zeG _ (by omega), zaa,
  or_u64 hhs (Nat.lt_of_lt_of_le hq64 (by rw [← hps]; exact Nat.le_mul_of_pos_left _ (Nat.pow_pos (by omega)))), zaa, or_shift hq64, zh8 _ (by omega), zaa]
 -- what is divided, shifted
 have hHY : (hi * 18446744073709551616 + lo) * 2 ^ s < y * 2 ^ s * 18446744073709551616 := by
  have : hi * 18446744073709551616 + lo < y * 18446744073709551616 := by omega
  rw [Nat.mul_right_comm]
  exact Nat.mul_lt_mul_of_pos_right this hp
 have hlos : lo * 2 ^ s = lo / 2 ^ (64 - s) * 18446744073709551616 + lo * 2 ^ s % 18446744073709551616 := by
  have e : lo * 2 ^ s / 18446744073709551616 = lo / 2 ^ (64 - s) := by
   rw [show (18446744073709551616 : Nat) = 2 ^ (64 - s) * 2 ^ s by rw [← Nat.pow_add, show 64 - s + s = 64 by omega]]
   exact Nat.mul_div_mul_right _ _ hp
  rw [← e, Nat.mul_comm _ 18446744073709551616]
  exact (Nat.div_add_mod _ _).symm
 have hsplit : (hi * 18446744073709551616 + lo) * 2 ^ s = (hi * 2 ^ s + lo / 2 ^ (64 - s)) * 18446744073709551616 + lo * 2 ^ s % 18446744073709551616 := by
  rw [Nat.add_mul, hlos, Nat.mul_right_comm, Nat.add_mul, Nat.add_assoc]
  congr 2
  rw [← hlos]
 have hquo : (hi * 18446744073709551616 + lo) / y = (hi * 18446744073709551616 + lo) * 2 ^ s / (y * 2 ^ s) := (Nat.mul_div_mul_right _ _ hp).symm
 have hrem : (hi * 18446744073709551616 + lo) % y = (hi * 18446744073709551616 + lo) * 2 ^ s % (y * 2 ^ s) / 2 ^ s := by
  rw [Nat.mul_mod_mul_right, Nat.mul_div_cancel _ hp]
 have hqlt : (hi * 18446744073709551616 + lo) / y < 18446744073709551616 := by
  rw [Nat.div_lt_iff_lt_mul (by omega), Nat.mul_comm]
  have : (hi + 1) * 18446744073709551616 ≤ y * 18446744073709551616 := Nat.mul_le_mul_right _ hhi
  omega
 rw [hquo, hrem]
 rw [hquo] at hqlt
 generalize (hi * 18446744073709551616 + lo) * 2 ^ s = HS at *
 generalize hu32 : hi * 2 ^ s + lo / 2 ^ (64 - s) = un32 at *
 have hun10 : lo * 2 ^ s % 18446744073709551616 < 18446744073709551616 := Nat.mod_lt _ (by omega)
 generalize lo * 2 ^ s % 18446744073709551616 = un10 at *
 generalize hYe : y * 2 ^ s = Y at *
 clear hlos hhs hq64
 have hu : un32 < Y := by omega
 have hu1 : un10 / 4294967296 < 4294967296 := by omega
 have hu0 : un10 % 4294967296 < 4294967296 := by omega
 have e264 : (2 : Nat) ^ 32 = 4294967296 := rfl
 rw [zeG _ (by omega), zaa, zqd hun10, zaa, e264]
 have hYs : Y = Y / 4294967296 * 4294967296 + Y % 4294967296 := by omega
 have hn1 : 2147483648 ≤ Y / 4294967296 := by omega
 have hn1' : Y / 4294967296 < 4294967296 := by omega
 have hn0 : Y % 4294967296 < 4294967296 := by omega
 have hs64 : s ≤ 64 := by omega
 generalize hy1 : Y / 4294967296 = yn1 at *
 generalize hy0 : Y % 4294967296 = yn0 at *
 generalize hd1 : un10 / 4294967296 = un1 at *
 generalize hd0 : un10 % 4294967296 = un0 at *
 have hud : un10 = un1 * 4294967296 + un0 := by omega
 rw [zqx (by omega) (by omega), zaa, zel, zaa]
 have hm1 : un32 / yn1 * yn1 ≤ un32 := Nat.div_mul_le_self _ _
 rw [show ((un32 / yn1 : Nat) : Int) * (yn1 : Int) = ((un32 / yn1 * yn1 : Nat) : Int) from (Int.natCast_mul _ _).symm, zbZ (by omega), zco, zaa,
  show (un32 : Int) - ((un32 / yn1 * yn1 : Nat) : Int) = ((un32 - un32 / yn1 * yn1 : Nat) : Int) by omega, zbZ (by omega)]
 have body : ∀ {u d q r : Nat} {X Y : Prop} (hq : q < 4294967298) (hr : r < 4294967296) (hd : d < 4294967296),
   ((4294967296 ≤ q ∨ 4294967296 * r + d < q * yn0) → X) → (¬ (4294967296 ≤ q ∨ 4294967296 * r + d < q * yn0) → Y) →
   vK (binV .i .geq (.int .u64 (q : Int)) (.int .u64 4294967296)) fun v44 =>
    vK (gV v44 false (some (.int .u64 (q : Int)))) fun v45 => vK (gV v44 false (some (.int .u64 (yn0 : Int)))) fun v46 => vK (gV v44 false (binV .i .mul v45 v46)) fun v47 =>
    vK (gV v44 false (some (.int .u64 (r : Int)))) fun v48 => vK (gV v44 false (binV .i .mul (.int .u64 4294967296) v48)) fun v49 => vK (gV v44 false (some (.int .u64 (d : Int)))) fun v50 =>
    vK (gV v44 false (binV .i .add v49 v50)) fun v51 => vK (gV v44 false (binV .i .gtr v47 v51)) fun v52 => vK (pickV v44 (.bool true) v52) fun v53 => iteK v53 X Y := by
  intro u d q r X Y hq hr hd hX hY
  simp only [go_sem]
  by_cases hc : 4294967296 ≤ q
  ·have e : ((4294967296 : Int) ≤ (q : Int)) = True := eq_true (by omega)
   simp only [go_sem, e]
   exact hX (.inl hc)
  ·have e : ((4294967296 : Int) ≤ (q : Int)) = False := eq_false (by omega)
   simp only [go_sem, e]
   have hqy : q * yn0 ≤ q * 4294967296 := Nat.mul_le_mul_left _ (by omega)
   rw [show (q : Int) * (yn0 : Int) = ((q * yn0 : Nat) : Int) from (Int.natCast_mul _ _).symm, zbZ (m := q * yn0) (by omega),
    show (4294967296 : Int) * (r : Int) = ((4294967296 * r : Nat) : Int) by omega, zbZ (m := 4294967296 * r) (by omega),
    show ((4294967296 * r : Nat) : Int) + (d : Int) = ((4294967296 * r + d : Nat) : Int) by omega, zbZ (m := 4294967296 * r + d) (by omega)]
   refine zab (fun h0 => hX (.inr (by omega))) (fun h0 => hY (by omega))
 refine zau (fun xs h' => xs = [.int .u64 (((un32 * 4294967296 + un1) / Y : Nat) : Int)] ∧ h' = h1) ?_ ?_
 ·refine zpP (d := un1) hYs hn0 hn1 hn1' hu hu1 (fun q r => [.int .u64 (q : Int), .int .u64 (r : Int)]) rfl fun q r again ρj hq hr g1 g2 g3 g4 => ?_
  simp only [ix_0, ix_1]
  refine body (u := 0) hq hr hu1 (fun hc => ?_) (fun hc => ?_)
  ·have h1q := g4 hc
   rw [zco, zaa, show (q : Int) - 1 = ((q - 1 : Nat) : Int) by omega, zbZ (by omega), zbe, zaa, show (r : Int) + (yn1 : Int) = ((r + yn1 : Nat) : Int) by omega, zbZ (by omega)]
   rw [zrA, zaa]
   refine zab (fun h0 => ⟨by rw [g2 hc h1q (by omega)], trivial⟩) (fun h0 => g1 _ _ rfl rfl h1q hc (by omega))
  ·exact ⟨by rw [g3 hc], trivial⟩
 rintro xs ρj h2 ⟨rfl, e2⟩
 subst e2
 simp only [ix_0]
 have hq1 := zrq hu hu1
 have hdm := Nat.div_add_mod (un32 * 4294967296 + un1) Y
 have hun21 : (un32 * 4294967296 + un1) % Y < Y := Nat.mod_lt _ (by omega)
 have hD := digits_div (M := un32 * 4294967296 + un1) (Y := Y) (d0 := un0) (by omega) rfl rfl
 obtain ⟨qq1, hq1e⟩ : ∃ q, q = (un32 * 4294967296 + un1) / Y := ⟨_, rfl⟩
 obtain ⟨un21, hr1e⟩ : ∃ q, q = (un32 * 4294967296 + un1) % Y := ⟨_, rfl⟩
 rw [← hq1e, ← hr1e] at hdm hD
 rw [← hr1e] at hun21
 rw [← hq1e] at hq1 ⊢
 have r21 : IntKind.u64.wrap (IntKind.u64.wrap (IntKind.u64.wrap ((un32 : Int) * 4294967296) + (un1 : Int)) - IntKind.u64.wrap ((qq1 : Int) * (Y : Int))) = (un21 : Int) := by
  rw [show (qq1 : Int) * (Y : Int) = ((Y * qq1 : Nat) : Int) by rw [Nat.mul_comm]; exact (Int.natCast_mul _ _).symm]
  rw [zby, zby, zby, zby]
  clear hD hsplit
  generalize Y * qq1 = P at *
  omega
 rw [zel, zaa, zbe, zaa, zel, zaa, zco, zaa, r21]
 have hm2 : un21 / yn1 * yn1 ≤ un21 := Nat.div_mul_le_self _ _
 rw [zqx (by omega) (by omega), zaa, zel, zaa, show ((un21 / yn1 : Nat) : Int) * (yn1 : Int) = ((un21 / yn1 * yn1 : Nat) : Int) from (Int.natCast_mul _ _).symm, zbZ (by omega), zco, zaa,
  show (un21 : Int) - ((un21 / yn1 * yn1 : Nat) : Int) = ((un21 - un21 / yn1 * yn1 : Nat) : Int) by omega, zbZ (by omega)]
 refine zau (fun xs h' => xs = [.int .u64 (((un21 * 4294967296 + un0) / Y : Nat) : Int)] ∧ h' = h2) ?_ ?_
 ·refine zpP (d := un0) hYs hn0 hn1 hn1' hun21 hu0 (fun q r => [.int .u64 (r : Int), .int .u64 (q : Int)]) rfl fun q r again ρj hq hr g1 g2 g3 g4 => ?_
  simp only [ix_0, ix_1]
  refine body (u := 0) hq hr hu0 (fun hc => ?_) (fun hc => ?_)
  ·have h1q := g4 hc
   rw [zco, zaa, show (q : Int) - 1 = ((q - 1 : Nat) : Int) by omega, zbZ (by omega), zbe, zaa, show (r : Int) + (yn1 : Int) = ((r + yn1 : Nat) : Int) by omega, zbZ (by omega)]
   rw [zrA, zaa]
   refine zab (fun h0 => ⟨by rw [g2 hc h1q (by omega)], trivial⟩) (fun h0 => g1 _ _ rfl rfl h1q hc (by omega))
  ·exact ⟨by rw [g3 hc], trivial⟩
 rintro xs ρj h3 ⟨rfl, e3⟩
 subst e3
 simp only [ix_0]
 have hq0 := zrq hun21 hu0
 have hdm0 := Nat.div_add_mod (un21 * 4294967296 + un0) Y
 have hun : (un21 * 4294967296 + un0) % Y < Y := Nat.mod_lt _ (by omega)
 have hHS : HS = (un32 * 4294967296 + un1) * 4294967296 + un0 := join_digits hsplit hud
 rw [hHS] at hqlt ⊢
 rw [hD.1] at hqlt ⊢
 rw [hD.2]
 obtain ⟨qq0, hq0e⟩ : ∃ q, q = (un21 * 4294967296 + un0) / Y := ⟨_, rfl⟩
 obtain ⟨rr, hr0e⟩ : ∃ q, q = (un21 * 4294967296 + un0) % Y := ⟨_, rfl⟩
 rw [← hq0e, ← hr0e] at hdm0
 rw [← hr0e] at hun
 rw [← hq0e] at hq0 hqlt
 rw [← hq0e, ← hr0e]
 have r00 : IntKind.u64.wrap (IntKind.u64.wrap (IntKind.u64.wrap ((un21 : Int) * 4294967296) + (un0 : Int)) - IntKind.u64.wrap ((qq0 : Int) * (Y : Int))) = (rr : Int) := by
  rw [show (qq0 : Int) * (Y : Int) = ((Y * qq0 : Nat) : Int) by rw [Nat.mul_comm]; exact (Int.natCast_mul _ _).symm]
  rw [zby, zby, zby, zby]
  clear hD hsplit hHS
  generalize Y * qq0 = P at *
  omega
 have rq : IntKind.u64.wrap (IntKind.u64.wrap ((qq1 : Int) * 4294967296) + (qq0 : Int)) = ((qq1 * 4294967296 + qq0 : Nat) : Int) := by
  rw [zby, zby]
  clear hD hsplit hHS hdm hdm0
  omega
 rw [zel, zaa, zbe, zaa, zel, zaa, zbe, zaa, zel, zaa, zco, zaa, r00, rq, zeG _ hs64, zaa]
 exact ⟨rfl, trivial⟩
theorem holdZ_sat {m n : Nat} {b : Bool} (hm : 9223372036854775808 ≤ m) (hn : 9223372036854775808 ≤ n) : holdZ m b = holdZ n b := by
 unfold holdZ
 cases b
 ·simp only [Bool.false_eq_true, if_false]
  rw [if_pos (by omega), if_pos (by omega)]
 ·simp only [if_true]
  rw [if_pos (by omega), if_pos (by omega)]
theorem prod_lt {a b : Int} (ha : I64 a) (hb : I64 b) : a.natAbs * b.natAbs ≤ 85070591730234615865843651857942052864 := by
 have h1 := zfC ha
 have h2 := zfC hb
 exact Nat.le_trans (Nat.mul_le_mul h1 h2) (by decide)
theorem zpV {m n : Nat} (h : m ≤ 85070591730234615865843651857942052864) : m / n ≤ 85070591730234615865843651857942052864 := Nat.le_trans (Nat.div_le_self _ _) h
theorem ze3 {h : Heap} {a b d : Int} (ha : I64 a) (hb : I64 b) (hd : I64 d) : FCall prog zba #[.int .i64 a, .int .i64 b, .int .i64 d] h fun r h' => r = .int .i64 (zaS a b d) ∧ h' = h := by
 apply zoW
 unfold zjp
 simp only [go_sem]
 unfold zaS
 refine zab (fun h0 => ?_) (fun h0 => ?_)
 ·rw [if_pos h0]; exact ⟨rfl, trivial⟩
 rw [if_neg h0]
 have hm := prod_lt ha hb
 refine (c_product ha hb).mono fun v1 h1 ⟨e1, w1⟩ => ?_
 subst e1 w1
 simp only [go_sem]
 refine (zmb hd).mono fun v2 h2 ⟨e2, w2⟩ => ?_
 subst e2 w2
 have hd1 := zfC hd
 have hd0 : 0 < d.natAbs := by omega
 obtain ⟨m, hme⟩ : ∃ m, m = a.natAbs * b.natAbs := ⟨_, rfl⟩
 obtain ⟨bl, hbl⟩ : ∃ bl, bl = (diffS a b != decide (d < 0)) := ⟨_, rfl⟩
 obtain ⟨D, hD⟩ : ∃ D, D = d.natAbs := ⟨_, rfl⟩
 have hbl' : (!(diffS a b == decide (d < 0))) = bl := hbl.symm
 rw [← hme] at hm ⊢
 rw [← hbl, hbl', ← hD]
 rw [← hD] at hd0 hd1
 have hq : m / D ≤ 85070591730234615865843651857942052864 := zpV hm
 simp only [go_sem]
 refine zab (fun h1 => ?_) (fun h1 => ?_)
 ·have hge : 18446744073709551616 ≤ m / D := by
   rw [Nat.le_div_iff_mul_le hd0]
   have h2 : D ≤ m / 18446744073709551616 := by omega
   have := (Nat.le_div_iff_mul_le (show 0 < 18446744073709551616 by omega)).1 h2
   rw [Nat.mul_comm]; exact this
  refine (zlz (m := 18446744073709551616) (b := bl) (by omega)).mono fun v h' ⟨e, w⟩ => ⟨?_, w⟩
  rw [e, holdZ_sat (by omega) (n := nearN m D bl)]
  unfold nearN
  omega
 ·have hlt : m / 18446744073709551616 < D := by omega
  have hqlt : m / D < 18446744073709551616 := by
   rw [Nat.div_lt_iff_lt_mul hd0, Nat.mul_comm]
   exact (Nat.div_lt_iff_lt_mul (by omega)).1 hlt
  refine (c_Div64 hlt (Nat.mod_lt _ (by omega)) (by omega)).mono fun v h2 ⟨e, w⟩ => ?_
  subst e w
  have hmm : m / 18446744073709551616 * 18446744073709551616 + m % 18446744073709551616 = m := by
   rw [Nat.mul_comm]; exact Nat.div_add_mod _ _
  rw [hmm]
  simp only [go_sem]
  have hr : m % D < D := Nat.mod_lt _ hd0
  rw [show (D : Int) - ((m % D : Nat) : Int) = ((D - m % D : Nat) : Int) by omega, zbZ (m := D - m % D) (by omega)]
  have fin : ∀ up : Nat, up ≤ 1 → nearN m D bl = m / D + up → FCall prog zbC #[.int .u64 ((m / D : Nat) : Int), .int .u64 (up : Int), .int .u64 0] h2 fun v31 h32 =>
    vK (extV v31 0) fun v33 => vK (extV v31 1) fun v34 => FCall prog za9 #[v34, v33, .bool bl] h32 fun v35 h36 => v35 = .int .i64 (holdZ (nearN m D bl) bl) ∧ h36 = h2 := by
   intro up hup hn
   refine (c_Add64 (x := m / D) (y := up) (c := 0) (by omega)).mono fun v h3 ⟨e, w⟩ => ?_
   subst e w
   simp only [go_sem]
   refine (zlz (m := m / D + up + 0) (b := bl) (by omega)).mono fun v h' ⟨e, w⟩ => ⟨?_, w⟩
   rw [e, hn]; rfl
  cases hb2 : bl
  ·rw [hb2] at fin
   simp only [go_sem]
   refine zab (fun h3 => ?_) (fun h3 => ?_)
   ·refine fin 1 (by omega) ?_
    unfold nearN
    simp only [Bool.false_eq_true, if_false]
    rw [if_pos (by omega)]
   ·refine fin 0 (by omega) ?_
    unfold nearN
    simp only [Bool.false_eq_true, if_false]
    rw [if_neg (by omega)]
  ·rw [hb2] at fin
   simp only [go_sem]
   by_cases h3 : D - m % D < m % D
   ·have e3 : (((D - m % D : Nat) : Int) < ((m % D : Nat) : Int)) = True := eq_true (by omega)
    simp only [go_sem, e3]
    refine fin 1 (by omega) ?_
    unfold nearN
    simp only [if_true]
    rw [if_pos (by omega)]
   ·have e3 : (((D - m % D : Nat) : Int) < ((m % D : Nat) : Int)) = False := eq_false (by omega)
    simp only [go_sem, e3]
    refine fin 0 (by omega) ?_
    unfold nearN
    simp only [if_true]
    rw [if_neg (by omega)]
theorem zoD {h : Heap} {m n : Nat} (hm : m < 340282366920938463463374607431768211456) (hn : n < 128) :
  FCall prog zgn #[.int .u64 ((m / 18446744073709551616 : Nat) : Int), .int .u64 ((m % 18446744073709551616 : Nat) : Int), .int .i64 (n : Int)] h fun r h' =>
   r = .tuple #[.int .u64 ((m / 2 ^ n / 18446744073709551616 : Nat) : Int), .int .u64 ((m / 2 ^ n % 18446744073709551616 : Nat) : Int)] ∧ h' = h := by
 apply zqA
 unfold zkz
 simp only [go_sem]
 have hhi : m / 18446744073709551616 < 18446744073709551616 := by omega
 refine zab (fun h0 => ?_) (fun h0 => ?_)
 ·rw [w64 (n := (n : Int) - 64) (by omega) (by omega), show (n : Int) - 64 = ((n - 64 : Nat) : Int) by omega, zeG _ (by omega), zaa]
  refine ⟨?_, trivial⟩
  have e : m / 2 ^ n = m / 18446744073709551616 / 2 ^ (n - 64) := by
   rw [Nat.div_div_eq_div_mul, show (18446744073709551616 : Nat) = 2 ^ 64 from rfl, ← Nat.pow_add, show 64 + (n - 64) = n by omega]
  have hlt : m / 18446744073709551616 / 2 ^ (n - 64) < 18446744073709551616 := Nat.lt_of_le_of_lt (Nat.div_le_self _ _) hhi
  rw [e, Nat.div_eq_of_lt hlt, Nat.mod_eq_of_lt hlt]
  rfl
 ·have hn64 : n < 64 := by omega
  rw [zeG _ (by omega), zaa, zeG _ (by omega), zaa]
  rw [w64 (n := 64 - (n : Int)) (by omega) (by omega), show (64 : Int) - (n : Int) = ((64 - n : Nat) : Int) by omega, zh8 _ (by omega), zaa]
  have hlow : m % 18446744073709551616 < 18446744073709551616 := Nat.mod_lt _ (by omega)
  have h2 : m % 18446744073709551616 / 2 ^ n < 18446744073709551616 := Nat.lt_of_le_of_lt (Nat.div_le_self _ _) hlow
  rw [or_u64 h2 (Nat.mod_lt _ (by omega)), zaa]
  refine ⟨?_, trivial⟩
  have hp : (0 : Nat) < 2 ^ n := Nat.pow_pos (by omega)
  have hp64 : (18446744073709551616 : Nat) = 2 ^ n * 2 ^ (64 - n) := by rw [← Nat.pow_add, show n + (64 - n) = 64 by omega]
  have hlow2 : m % 18446744073709551616 / 2 ^ n < 2 ^ (64 - n) := by
   rw [Nat.div_lt_iff_lt_mul hp, Nat.mul_comm, ← hp64]; exact hlow
  -- the low half of what is above
  have e1 : m / 2 ^ n = m / 18446744073709551616 * 2 ^ (64 - n) + m % 18446744073709551616 / 2 ^ n := by
   have e := Nat.div_add_mod m 18446744073709551616
   have e2 : m = m % 18446744073709551616 + 2 ^ n * (m / 18446744073709551616 * 2 ^ (64 - n)) := by
    have : 2 ^ n * (m / 18446744073709551616 * 2 ^ (64 - n)) = 18446744073709551616 * (m / 18446744073709551616) := by
     rw [hp64, Nat.mul_left_comm, Nat.mul_comm]
    rw [this]; omega
   conv => lhs; rw [e2]
   rw [Nat.add_mul_div_left _ _ hp, Nat.add_comm]
  have e3 : m / 18446744073709551616 * 2 ^ (64 - n) % 18446744073709551616 = m / 18446744073709551616 % 2 ^ n * 2 ^ (64 - n) := by
   have : (18446744073709551616 : Nat) = 2 ^ n * 2 ^ (64 - n) := hp64
   conv => lhs; rhs; rw [this]
   exact Nat.mul_mod_mul_right _ _ _
  rw [e3, Nat.or_comm, or_shift hlow2]
  generalize hHi : m / 18446744073709551616 = Hi at *
  have e4 : m / 2 ^ n / 18446744073709551616 = Hi / 2 ^ n := by
   rw [Nat.div_div_eq_div_mul, Nat.mul_comm, ← Nat.div_div_eq_div_mul, hHi]
  have e5 : m / 2 ^ n % 18446744073709551616 = Hi % 2 ^ n * 2 ^ (64 - n) + m % 18446744073709551616 / 2 ^ n := by
   rw [e1]
   have hd := Nat.div_add_mod Hi (2 ^ n)
   have : Hi * 2 ^ (64 - n) = Hi % 2 ^ n * 2 ^ (64 - n) + 18446744073709551616 * (Hi / 2 ^ n) := by
    conv => lhs; rw [← hd]
    rw [Nat.add_mul, Nat.add_comm, Nat.mul_right_comm, ← hp64]
   rw [this, Nat.add_right_comm, Nat.add_mul_mod_self_left, Nat.mod_eq_of_lt]
   have h6 : Hi % 2 ^ n + 1 ≤ 2 ^ n := Nat.mod_lt _ hp
   have h7 : (Hi % 2 ^ n + 1) * 2 ^ (64 - n) ≤ 2 ^ n * 2 ^ (64 - n) := Nat.mul_le_mul_right _ h6
   rw [← hp64, Nat.add_mul, Nat.one_mul] at h7
   exact Nat.lt_of_lt_of_le (Nat.add_lt_add_left hlow2 _) h7
  rw [e4, e5]
theorem c_exact {h : Heap} {m n : Nat} (hm : m < 340282366920938463463374607431768211456) (hn : n < 128) :
  FCall prog ziF #[.int .u64 ((m / 18446744073709551616 : Nat) : Int), .int .u64 ((m % 18446744073709551616 : Nat) : Int), .int .i64 (n : Int)] h fun r h' => r = .bool (decide (m % 2 ^ n = 0)) ∧ h' = h := by
 apply zqB
 unfold zkA
 simp only [go_sem]
 have shlz : ∀ (a k : Nat), k ≤ 64 → (a * 2 ^ (64 - k) % 18446744073709551616 = 0 ↔ a % 2 ^ k = 0) := by
  intro a k hk
  have hp64 : (18446744073709551616 : Nat) = 2 ^ k * 2 ^ (64 - k) := by rw [← Nat.pow_add, show k + (64 - k) = 64 by omega]
  rw [hp64, Nat.mul_mod_mul_right]
  have : 0 < 2 ^ (64 - k) := Nat.pow_pos (by omega)
  constructor
  ·intro h; rcases Nat.mul_eq_zero.1 h with h | h <;> omega
  ·intro h; rw [h, Nat.zero_mul]
 refine zab (fun h0 => ?_) (fun h0 => ?_)
 ·-- n ≥ 64
  have e : (2 : Nat) ^ n = 18446744073709551616 * 2 ^ (n - 64) := by rw [show (18446744073709551616 : Nat) = 2 ^ 64 from rfl, ← Nat.pow_add, show 64 + (n - 64) = n by omega]
  have key : m % 2 ^ n = 0 ↔ m % 18446744073709551616 = 0 ∧ m / 18446744073709551616 % 2 ^ (n - 64) = 0 := by
   rw [e, Nat.mod_mul]
   constructor
   ·intro h; have h1 : m % 18446744073709551616 = 0 := by omega
    refine ⟨h1, ?_⟩
    rw [h1, Nat.zero_add] at h
    rcases Nat.mul_eq_zero.1 h with h | h
    ·omega
    ·exact h
   ·rintro ⟨h1, h2⟩; rw [h1, h2]
  by_cases hl : m % 18446744073709551616 = 0
  ·have q : (((m % 18446744073709551616 : Nat) : Int) = 0) = True := eq_true (by omega)
   simp only [go_sem, q]
   rw [w64 (n := 128 - (n : Int)) (by omega) (by omega), show (128 : Int) - (n : Int) = ((64 - (n - 64) : Nat) : Int) by omega, zh8 _ (by omega), zaa]
   simp only [go_sem]
   refine ⟨?_, trivial⟩
   congr 1
   rw [decide_eq_decide]
   have := shlz (m / 18446744073709551616) (n - 64) (by omega)
   constructor
   ·intro h; exact key.2 ⟨hl, this.1 (by omega)⟩
   ·intro h; have := this.2 (key.1 h).2; omega
  ·have q : (((m % 18446744073709551616 : Nat) : Int) = 0) = False := eq_false (by omega)
   simp only [go_sem, q]
   refine ⟨?_, trivial⟩
   congr 1
   rw [Eq.comm, decide_eq_false_iff_not]
   exact fun h => hl (key.1 h).1
 ·rw [w64 (n := 64 - (n : Int)) (by omega) (by omega), show (64 : Int) - (n : Int) = ((64 - n : Nat) : Int) by omega, zh8 _ (by omega), zaa]
  simp only [go_sem]
  refine ⟨?_, trivial⟩
  congr 1
  rw [decide_eq_decide]
  have := shlz (m % 18446744073709551616) n (by omega)
  have e : m % 18446744073709551616 % 2 ^ n = m % 2 ^ n := by
   have hp64 : (18446744073709551616 : Nat) = 2 ^ n * 2 ^ (64 - n) := by rw [← Nat.pow_add, show n + (64 - n) = 64 by omega]
   rw [hp64, Nat.mod_mul_right_mod]
  rw [e] at this
  constructor
  ·intro h; exact this.1 (by omega)
  ·intro h; have := this.2 h; omega
theorem c_MulShift {h : Heap} {a b n : Int} (ha : I64 a) (hb : I64 b) (hn : I64 n) : FCall prog zfN #[.int .i64 a, .int .i64 b, .int .i64 n] h fun r h' => r = .int .i64 (zfD a b n) ∧ h' = h := by
  apply zm1
  unfold zhH
  simp only [go_sem]
  have hm := prod_lt ha hb
  unfold zfD
  refine zab (fun h0 => ?_) (fun h0 => ?_)
  · rw [if_pos (by omega)]; exact ⟨rfl, trivial⟩
  rw [if_neg (by omega)]
  have hnn : max 0 n = ((n.toNat : Nat) : Int) := by omega
  rw [hnn] at h0 ⊢
  obtain ⟨k, hk⟩ : ∃ k, k = n.toNat := ⟨_, rfl⟩
  rw [← hk] at h0 ⊢
  refine (c_product ha hb).mono fun v1 h1 ⟨e1, w1⟩ => ?_
  subst e1 w1
  obtain ⟨m, hme⟩ : ∃ m, m = a.natAbs * b.natAbs := ⟨_, rfl⟩
  obtain ⟨bl, hbl⟩ : ∃ bl, bl = diffS a b := ⟨_, rfl⟩
  rw [← hme] at hm ⊢
  rw [← hbl]
  simp only [go_sem]
  unfold shiftN
  refine zab (fun h1 => ?_) (fun h1 => ?_)
  · rw [if_pos (by omega)]
    exact zlz (by omega)
  rw [if_neg (by omega)]
  refine (zoD (m := m) (n := k) (by omega) (by omega)).mono fun v h2 ⟨e, w⟩ => ?_
  subst e w
  simp only [go_sem]
  rw [w64 (n := (k : Int) - 1) (by omega) (by omega), show (k : Int) - 1 = ((k - 1 : Nat) : Int) by omega]
  refine (zoD (m := m) (n := k - 1) (by omega) (by omega)).mono fun v h3 ⟨e, w⟩ => ?_
  subst e w
  simp only [go_sem]
  have hqk : m / 2 ^ k ≤ 85070591730234615865843651857942052864 := zpV hm
  rw [and_one_u64 (Nat.mod_lt _ (by omega)), zaa, show m / 2 ^ (k - 1) % 18446744073709551616 % 2 = m / 2 ^ (k - 1) % 2 by omega]
  have fin1 : FCall prog za9 #[.int .u64 ((m / 2 ^ k / 18446744073709551616 : Nat) : Int), .int .u64 ((m / 2 ^ k % 18446744073709551616 : Nat) : Int), .bool bl] h3 fun v35 h36 => v35 = .int .i64 (holdZ (m / 2 ^ k + 0) bl) ∧ h36 = h3 := zlz (by omega)
  have fin2 : FCall prog zbC #[.int .u64 ((m / 2 ^ k % 18446744073709551616 : Nat) : Int), .int .u64 1, .int .u64 0] h3 fun v31 h32 =>
        vK (extV v31 0) fun v33 => vK (extV v31 1) fun v34 => vK (binV .i .add (.int .u64 ((m / 2 ^ k / 18446744073709551616 : Nat) : Int)) v34) fun v38 =>
        FCall prog za9 #[v38, v33, .bool bl] h32 fun v35 h36 => v35 = .int .i64 (holdZ (m / 2 ^ k + 1) bl) ∧ h36 = h3 := by
    refine (c_Add64 (x := m / 2 ^ k % 18446744073709551616) (y := 1) (c := 0) (by omega)).mono fun v h4 ⟨e, w⟩ => ?_
    subst e w
    simp only [go_sem]
    generalize m / 2 ^ k = M at *
    have e1 : (M % 18446744073709551616 + 1 + 0) % 18446744073709551616 = (M + 1) % 18446744073709551616 := by omega
    have e2 : ((M / 18446744073709551616 : Nat) : Int) + (((M % 18446744073709551616 + 1 + 0) / 18446744073709551616 : Nat) : Int) = (((M + 1) / 18446744073709551616 : Nat) : Int) := by omega
    rw [e1, e2, zbZ (by omega)]
    exact zlz (by omega)
  by_cases hh : m / 2 ^ (k - 1) % 2 = 0
  · have q : (((m / 2 ^ (k - 1) % 2 : Nat) : Int) = 0) = True := eq_true (by omega)
    simp only [go_sem, q]
    rw [if_neg (fun h => by omega)]
    exact fin1
  · have q : (((m / 2 ^ (k - 1) % 2 : Nat) : Int) = 0) = False := eq_false (by omega)
    simp only [go_sem, q]
    have hh1 : m / 2 ^ (k - 1) % 2 = 1 := by omega
    cases hb2 : bl
    · rw [hb2] at fin2
      simp only [go_sem]
      rw [if_pos ⟨hh1, by simp⟩]
      exact fin2
    · rw [hb2] at fin1 fin2
      simp only [go_sem]
      rw [w64 (n := (k : Int) - 1) (by omega) (by omega), show (k : Int) - 1 = ((k - 1 : Nat) : Int) by omega]
      refine (c_exact (m := m) (n := k - 1) (by omega) (by omega)).mono fun v h4 ⟨e, w⟩ => ?_
      subst e w
      try simp only [go_sem]
      refine zab (fun h5 => ?_) (fun h5 => ?_)
      · rw [if_neg (fun h => h.2 ⟨trivial, h5⟩)]
        exact fin1
      · rw [if_pos ⟨hh1, fun h => h5 h.2⟩]
        exact fin2
theorem shl_i64 {a : Int} {n : Nat} (k' : IntKind) (hn : n ≤ 64) : binV .i .shl (.int .i64 a) (.int k' (n : Int)) = some (.int .i64 (IntKind.i64.wrap (a * 2 ^ n))) := by
 show (if (n : Int) < 0 then none else some (Value.int .i64 (IntKind.i64.wrap (a * (2 ^ (min (n : Int).toNat 64)))))) = _
 rw [if_neg (by omega), Int.toNat_natCast, Nat.min_eq_left hn]
theorem shl_40 {a : Int} (k' : IntKind) : binV .i .shl (.int .i64 a) (.int k' 40) = some (.int .i64 (IntKind.i64.wrap (a * 1099511627776))) := shl_i64 (n := 40) k' (by omega)
theorem shl_31 {a : Int} (k' : IntKind) : binV .i .shl (.int .i64 a) (.int k' 31) = some (.int .i64 (IntKind.i64.wrap (a * 2147483648))) := shl_i64 (n := 31) k' (by omega)
theorem c_Mod {h : Heap} {a b : Int} (ha : I64 a) (hb : I64 b) (h0 : 0 < b) : FCall prog zfW #[.int .i64 a, .int .i64 b] h fun r h' => r = .int .i64 (a % b) ∧ h' = h := by
 apply ok_fixed_Mod
 unfold zmM
 have q1 : (b = 0) = False := eq_false (by omega)
 have q2 : (b = -1) = False := eq_false (by omega)
 have q3 : (b < 0) = False := eq_false (by omega)
 simp only [go_sem, q1, q2]
 rw [za8 _ _ _ _ (by omega), zaa]
 simp only [go_sem, q3]
 have e := @Int.emod_eq_tmod a b
 have hl := Int.emod_nonneg a (show b ≠ 0 by omega)
 have hl2 := Int.emod_lt_of_pos a h0
 unfold I64 at ha hb
 by_cases hc : a.tmod b = 0
 ·simp only [go_sem, hc]
  refine ⟨?_, trivial⟩
  rw [hc] at e
  split at e
  ·rw [e]; rfl
  ·rename_i hn
   exact absurd (Or.inr (Int.dvd_of_tmod_eq_zero hc)) hn
 ·simp only [go_sem, hc]
  by_cases hs : a.tmod b < 0
  ·simp only [go_sem, hs]
   split at e
   ·omega
   ·rw [w64 (by omega) (by omega)]
    refine ⟨?_, trivial⟩
    congr 1; omega
  ·simp only [go_sem, hs]
   refine ⟨?_, trivial⟩
   congr 1
   split at e <;> omega
theorem c_Clamp {h : Heap} {x l u : Int} : FCall prog ze9 #[.int .i64 x, .int .i64 l, .int .i64 u] h fun r h' => r = .int .i64 (max l (min x u)) ∧ h' = h := by
 apply zpl
 unfold zjO
 simp only [go_sem]
 exact ⟨by simp, by simp⟩
theorem zp6 {h : Heap} {a b : Int} (ha : I64 a) (hb : I64 b) : FCall prog zhE #[.int .i64 a, .int .i64 b] h fun r h' => r = .int .i64 (addZ a b) ∧ h' = h := by
 apply ok_fixed_Add
 unfold zmN
 simp only [go_sem, zc4]
 unfold addZ I64 at *
 refine zab (fun h0 => ?_) (fun h0 => ?_)
 ·exact ⟨by congr 1; omega, trivial⟩
 refine zab (fun h1 => ?_) (fun h1 => ?_)
 ·exact ⟨by congr 1; omega, trivial⟩
 ·exact ⟨by congr 1; omega, trivial⟩
theorem c_fixedMul {h : Heap} {a b : Int} (ha : I64 a) (hb : I64 b) : FCall prog zkp #[.int .i64 a, .int .i64 b] h fun r h' => r = .int .i64 (mulZ a b) ∧ h' = h := by
 apply ok_fixed_Mul
 unfold zmL
 refine (zd8 ha).mono fun v1 h1 ⟨e1, w1⟩ => ?_
 subst e1 w1
 refine (zd8 hb).mono fun v2 h2 ⟨e2, w2⟩ => ?_
 subst e2 w2
 refine (c_Mul64 (zcF ha) (zcF hb)).mono fun v3 h3 ⟨e3, w3⟩ => ?_
 subst e3 w3
 simp only [go_sem]
 unfold mulZ
 have hm := prod_lt ha hb
 generalize a.natAbs * b.natAbs = m at *
 refine zab (fun h0 => ?_) (fun h0 => ?_)
 ·refine (zfK (m := 18446744073709551615) (b := diffS a b) (by omega)).mono fun v h' ⟨e, w⟩ => ⟨?_, w⟩
  rw [e, holdZ_sat (n := m) (by omega) (by omega)]
 ·rw [show m % 18446744073709551616 = m by omega]
  exact zfK (by omega)
theorem c_Exp {h : Heap} {t : Int} (ht : I64 t) : FCall prog zmn #[.int .i64 t] h fun r h' => r = .int .i64 (expZ t) ∧ h' = h := by
 apply ok_expo_Exp
 unfold znN
 simp only [go_sem]
 unfold expZ
 have ht1 : 0 ≤ max 0 t ∧ max 0 t ≤ 9223372036854775807 := by unfold I64 at ht; omega
 generalize max 0 t = T at *
 rw [zek _ _ _ _ (by omega), zaa, za8 _ _ _ _ (by omega), zaa, Int.tdiv_eq_ediv_of_nonneg ht1.1, Int.tmod_eq_emod_of_nonneg ht1.1, w64 (by omega) (by omega)]
 have hr : 0 ≤ T % 762123384786 ∧ T % 762123384786 < 762123384786 := by omega
 generalize hrr : T % 762123384786 = r at *
 refine zc2 (fun i => [.int .i64 (zbI r i).1, .int .i64 (zbI r i).2, .int .i64 (i : Int)]) 16 0 rfl (by omega) fun i again ρj _ hi H => ?_
 simp only [go_sem]
 obtain ⟨s1, s2⟩ := zj8 r i
 refine zab (fun h0 => ?_) (fun h0 => ?_)
 ·have H := H (by omega)
  simp only [zbI] at H
  rw [w64 (n := (i : Int) + 1) (by omega) (by omega), shl_40, zaa, w64 (by omega) (by omega)]
  refine (ze3 s2 (by unfold I64; omega) (by unfold I64; omega)).mono fun v1 h1 ⟨e1, w1⟩ => ?_
  subst e1 w1
  rw [za8 _ _ _ _ (by omega), zaa, Int.tmod_eq_emod_of_nonneg (by omega)]
  simp only [go_sem]
  refine zab (fun h2 => ?_) (fun h2 => ?_)
  ·rw [if_pos (by omega)] at H
   rw [show ((i + 1 : Nat) : Int) = (i : Int) + 1 by omega] at H
   exact H
  ·rw [if_neg (by omega)] at H
   rw [show ((i + 1 : Nat) : Int) = (i : Int) + 1 by omega] at H
   exact H
 ·have : i = 16 := by omega
  subst this
  exact zrw s1 (by unfold I64; omega)
theorem c_Ratio {h : Heap} {d s : Int} (hd : I64 d) (hs : I64 s) : FCall prog ziQ #[.int .i64 d, .int .i64 s] h fun r h' => r = .int .i64 (znS d s) ∧ h' = h := by
 apply zq3
 unfold zk2
 simp only [go_sem]
 unfold znS
 refine zab (fun h0 => ?_) (fun h0 => ?_)
 ·rw [if_pos (by omega)]; exact ⟨rfl, trivial⟩
 ·rw [if_neg (by omega), shl_31, zaa]
  have h1 := sq_le (d := d) (B := 16384) (by omega) (by omega)
  have h2 := sq_le (d := s) (B := 4194304) (by omega) (by omega)
  rw [w64 (n := d * d) (by omega) (by omega), w64 (n := d * d * 2147483648) (by omega) (by omega), w64 (n := s * s) (by omega) (by omega)]
  exact ze3 (by unfold I64; omega) (by unfold I64; omega) (by unfold I64; omega)
theorem c_Gauss {h : Heap} {d s : Int} (hd : I64 d) (hs : I64 s) : FCall prog ziR #[.int .i64 d, .int .i64 s] h fun r h' => r = .int .i64 (zmT d s) ∧ h' = h := by
 apply zq4
 unfold zk3
 refine (c_Ratio hd hs).mono fun v1 h1 ⟨e1, w1⟩ => ?_
 subst e1 w1
 refine (c_Exp (zpF _ _)).mono fun v1 h1 ⟨e1, w1⟩ => ?_
 subst e1 w1
 exact zrw (zrn _) (by unfold I64; omega)
theorem zmd {h : Heap} {p : Int} (hp : I64 p) (h0 : p ≠ -9223372036854775808) : FCall prog zhm #[.int .i64 p] h fun r h' => r = .int .i64 (max p (-p)) ∧ h' = h := by
 apply ok_sinc_size
 unfold zmv
 unfold I64 at hp
 simp only [go_sem]
 rw [w64 (by omega) (by omega)]
 exact ⟨by rw [Int.zero_sub], trivial⟩
theorem c_May {h : Heap} {p q : Int} (hp : I64 p) (hq : I64 q) : FCall prog zmi #[.int .i64 p, .int .i64 q] h fun r h' => r = .bool (decide (mayZ p q)) ∧ h' = h := by
 apply ok_sinc_May
 unfold znD
 simp only [go_sem]
 refine ⟨?_, trivial⟩
 congr 1
 rw [decide_eq_decide]
 unfold mayZ I64 at *
 by_cases h1 : 1 ≤ q ∧ q ≤ 1048576
 ·rw [w64 (n := -4 * q) (by omega) (by omega), w64 (n := 4 * q) (by omega) (by omega)]
  omega
 ·omega
theorem twice_sq (x : Int) : 2 * x * (2 * x + 1) = 4 * (x * x) + 2 * x := by
 have e : 2 * x * (2 * x) = 4 * (x * x) := by rw [Int.mul_assoc 2 x (2 * x), Int.mul_left_comm x 2 x]; omega
 rw [Int.mul_add, Int.mul_one, e]
theorem c_series {h : Heap} {p q : Int} (hp : I64 p) (h0 : p ≠ -9223372036854775808) (hq : I64 q) : FCall prog ze4 #[.int .i64 p, .int .i64 q] h fun r h' => r = .int .i64 (zjX p q) ∧ h' = h := by
 apply zoX
 unfold zjq
 unfold zjX
 refine (zmd hp h0).mono fun v1 h1 ⟨e1, w1⟩ => ?_
 subst e1 w1
 have hm : I64 (max p (-p)) := by unfold I64 at *; omega
 refine (ze3 (by unfold I64; omega) hm hq).mono fun v1 h1 ⟨e1, w1⟩ => ?_
 subst e1 w1
 refine (ze3 (zbH _ _ _) hm hq).mono fun v1 h1 ⟨e1, w1⟩ => ?_
 subst e1 w1
 have hu := zbH (zaS 10851744800547 (max p (-p)) q) (max p (-p)) q
 generalize zaS (zaS 10851744800547 (max p (-p)) q) (max p (-p)) q = u at *
 refine zc2 (fun i => [.int .i64 (zaH u i).1, .int .i64 (zaH u i).2, .int .i64 (if i % 2 = 0 then 1 else -1), .int .i64 ((i : Int) + 1)]) 30 0 rfl (by omega) fun i again ρj _ hi H => ?_
 simp only [go_sem]
 obtain ⟨s1, s2⟩ := zh7 u i
 refine zab (fun h0 => ?_) (fun h0 => ?_)
 ·have H := H (by omega)
  simp only [zaH] at H
  have hsq := sq_le (d := (i : Int) + 1) (B := 30) (by omega) (by omega)
  have he := twice_sq ((i : Int) + 1)
  rw [w64 (n := 2 * ((i : Int) + 1)) (by omega) (by omega), w64 (n := 2 * ((i : Int) + 1) + 1) (by omega) (by omega), w64 (n := 2 * ((i : Int) + 1) * (2 * ((i : Int) + 1) + 1)) (by omega) (by omega), shl_40, zaa, w64 (by omega) (by omega)]
  refine (ze3 s2 hu (by unfold I64; omega)).mono fun v1 h1 ⟨e1, w1⟩ => ?_
  subst e1 w1
  rw [w64 (n := (i : Int) + 1 + 1) (by omega) (by omega)]
  have ht := zbH (zaH u i).2 u (2 * ((i : Int) + 1) * (2 * ((i : Int) + 1) + 1) * 1099511627776)
  simp only [go_sem]
  by_cases h2 : i % 2 = 0
  ·rw [if_pos h2, if_neg (by omega)] at H
   rw [if_pos h2]
   have e1 : IntKind.i64.wrap ((zaH u i).1 + IntKind.i64.wrap (IntKind.i64.wrap (0 - 1) * zaS (zaH u i).2 u (2 * ((i : Int) + 1) * (2 * ((i : Int) + 1) + 1) * 1099511627776))) = IntKind.i64.wrap ((zaH u i).1 - zaS (zaH u i).2 u (2 * ((i : Int) + 1) * (2 * ((i : Int) + 1) + 1) * 1099511627776)) := by
    rw [zfb, w64 (n := 0 - 1) (by omega) (by omega)]; congr 1; omega
   rw [e1]
   exact H
  ·rw [if_neg h2, if_pos (by omega)] at H
   rw [if_neg h2]
   have e1 : IntKind.i64.wrap ((zaH u i).1 + IntKind.i64.wrap (IntKind.i64.wrap (0 - -1) * zaS (zaH u i).2 u (2 * ((i : Int) + 1) * (2 * ((i : Int) + 1) + 1) * 1099511627776))) = IntKind.i64.wrap ((zaH u i).1 + zaS (zaH u i).2 u (2 * ((i : Int) + 1) * (2 * ((i : Int) + 1) + 1) * 1099511627776)) := by
    rw [zfb, w64 (n := 0 - -1) (by omega) (by omega)]; congr 1; omega
   rw [e1]
   exact H
 ·have : i = 30 := by omega
  subst this
  exact ⟨rfl, trivial⟩
theorem c_Lanczos {h : Heap} {p q : Int} (hp : I64 p) (hq : I64 q) : FCall prog zgC #[.int .i64 p, .int .i64 q] h fun r h' => r = .int .i64 (zhd p q) ∧ h' = h := by
 apply zn5
 unfold zie
 unfold zhd
 refine (c_May hp hq).mono fun v1 h1 ⟨e1, w1⟩ => ?_
 subst e1 w1
 by_cases hm : mayZ p q
 ·have hm' := hm
  unfold mayZ at hm'
  by_cases h0 : 3 * q ≤ max p (-p)
  ·rw [if_pos (.inr h0)]
   simp only [go_sem, hm]
   refine (zmd hp (by omega)).mono fun v1 h1 ⟨e1, w1⟩ => ?_
   subst e1 w1
   rw [w64 (n := 3 * q) (by omega) (by omega)]
   simp only [go_sem, h0]
   exact ⟨by simp, by simp⟩
  ·rw [if_neg (by rintro (h2 | h2); exact h2 hm; omega)]
   simp only [go_sem, hm]
   refine (zmd hp (by omega)).mono fun v1 h1 ⟨e1, w1⟩ => ?_
   subst e1 w1
   rw [w64 (n := 3 * q) (by omega) (by omega)]
   simp only [go_sem, h0]
   refine (c_series hp (by omega) hq).mono fun v1 h1 ⟨e1, w1⟩ => ?_
   subst e1 w1
   refine (c_series hp (by omega) (by unfold I64; omega)).mono fun v1 h1 ⟨e1, w1⟩ => ?_
   subst e1 w1
   refine (c_MulShift (zg3 _ _) (zg3 _ _) (by unfold I64; omega)).mono fun v1 h1 ⟨e1, w1⟩ => ?_
   subst e1 w1
   exact zrw (zhb _ _ _) (by unfold I64; omega)
 ·rw [if_pos (.inl hm)]
  simp only [go_sem, hm]
  exact ⟨by simp, by simp⟩
end Go.Proofs.YtdbebmafgpdfhaaGreatDoor
namespace Go.Crisp
open Go
theorem ziV (a b : Int) : IntKind.i64.wrap (IntKind.i64.wrap a * b) = IntKind.i64.wrap (a * b) := by
 obtain ⟨k, hk⟩ : ∃ k, IntKind.i64.wrap a = a + 18446744073709551616 * k := ⟨(IntKind.i64.wrap a - a) / 18446744073709551616, by rw [zc4]; omega⟩
 rw [hk, Int.add_mul, Int.mul_assoc, zc4, zc4]
 generalize k * b = c
 omega
theorem ziU (a b : Int) : IntKind.i64.wrap (a * IntKind.i64.wrap b) = IntKind.i64.wrap (a * b) := by
 rw [Int.mul_comm, ziV, Int.mul_comm]
theorem zfg {a b : Int} (ha : I64 a) (hb : 0 < b) : zpS a b = a / b := by
 unfold zpS zoy diffS holdZ
 rw [if_neg (by omega)]
 unfold I64 at ha
 have e1 : (b < 0) = False := eq_false (by omega)
 simp only [e1, decide_false]
 obtain ⟨B, rfl⟩ : ∃ B : Nat, b = (B : Int) := ⟨b.toNat, by omega⟩
 simp only [Int.natAbs_natCast]
 by_cases h : a < 0
 ·simp only [h, decide_true]
  obtain ⟨A, rfl⟩ : ∃ A : Nat, a = -(A : Int) := ⟨(-a).toNat, by omega⟩
  have e2 : (-(A : Int)).natAbs = A := by omega
  rw [e2]
  have hB : 0 < B := by omega
  have hd := Nat.div_add_mod A B
  have hm := Nat.mod_lt A hB
  have hle : A / B ≤ A := Nat.div_le_self _ _
  simp only [Bool.not_eq_true', beq_eq_false_iff_ne, ne_eq, Bool.true_eq_false, not_false_eq_true, true_and, if_true]
  by_cases hr : A % B = 0
  ·rw [if_neg (show ¬ ¬ A % B = 0 from fun h => h hr), Nat.add_zero]
   have e3 : -(A : Int) = (B : Int) * -((A / B : Nat) : Int) := by
    have : (A : Int) = (B : Int) * ((A / B : Nat) : Int) := by exact_mod_cast (by omega : A = B * (A / B))
    rw [Int.mul_neg, ← this]
   rw [e3, Int.mul_ediv_cancel_left _ (by omega)]
   split <;> omega
  ·rw [if_pos hr]
   have hB2 : 2 ≤ B := by omega
   have h2 := Nat.mul_le_mul_right (A / B) hB2
   have e3 : -(A : Int) = ((B : Int) - ((A % B : Nat) : Int)) + (B : Int) * -((A / B + 1 : Nat) : Int) := by
    have h3 : (A : Int) = (B : Int) * ((A / B : Nat) : Int) + ((A % B : Nat) : Int) := by exact_mod_cast hd.symm
    rw [Int.mul_neg, show ((A / B + 1 : Nat) : Int) = ((A / B : Nat) : Int) + 1 from rfl, Int.mul_add, Int.mul_one]; omega
   rw [e3, Int.add_mul_ediv_left _ _ (by omega), Int.ediv_eq_zero_of_lt (by omega) (by omega)]
   split <;> omega
 ·simp only [h, decide_false]
  obtain ⟨A, rfl⟩ : ∃ A : Nat, a = (A : Int) := ⟨a.toNat, by omega⟩
  simp only [Int.natAbs_natCast]
  have hbb : (!(false == false)) = false := rfl
  rw [hbb]
  simp only [Bool.false_eq_true, false_and, if_false, Nat.add_zero]
  have hle : A / B ≤ A := Nat.div_le_self _ _
  rw [if_neg (by omega)]
  rfl
def mayR (f n m i : Int) : Prop := 0 ≤ f ∧ f < 3 ∧ 1 ≤ n ∧ n ≤ 65536 ∧ 1 ≤ m ∧ m ≤ 65536 ∧ 0 ≤ i ∧ i < m
instance (f n m i : Int) : Decidable (mayR f n m i) := by unfold mayR; infer_instance
def ceilD (a b : Int) : Int := -(-a / b)
def zaZ (f : Int) : Int := if f = 0 then 0 else if f = 1 then 2 else 3
def lowW (f n m i : Int) : Int := if f = 0 then i * n / m else ((2 * i + 1) * n - m - zaZ f * 2 * max n m) / (2 * m) + 1
def highW (f n m i : Int) : Int := if f = 0 then ceilD ((i + 1) * n) m else ceilD ((2 * i + 1) * n - m + zaZ f * 2 * max n m) (2 * m)
def cubicZ (p q : Int) : Int := if p ≥ q then 4 * (q * q * q) + 5 * (p * p * q) - p * p * p - 8 * (p * q * q) else 3 * (p * p * p) - 5 * (p * p * q) + 2 * (q * q * q)
def keysZ (p q : Int) : Int := if q < 1 ∨ 262144 < q ∨ 2 * q ≤ p ∨ p ≤ -2 * q then 0 else zaS (IntKind.i64.wrap (cubicZ (max p (-p)) q)) 1073741824 (IntKind.i64.wrap (2 * (q * q * q)))
theorem keysZ_I64 (p q : Int) : I64 (keysZ p q) := by
 unfold keysZ
 split
 ·unfold I64; omega
 ·exact zbH _ _ _
def zkt (f n m i j : Int) : Int :=
 if f = 0 then zaS (min ((i + 1) * n) ((j + 1) * m) - max (i * n) (j * m)) 1073741824 n
 else if f = 1 then keysZ (2 * m * j - (2 * i + 1) * n + m) (2 * max n m)
 else zhd (2 * m * j - (2 * i + 1) * n + m) (2 * max n m)
theorem weighZ_I64 (f n m i j : Int) : I64 (zkt f n m i j) := by
 unfold zkt
 split
 ·exact zbH _ _ _
 split
 ·exact keysZ_I64 _ _
 ·exact lanczosZ_I64 _ _
def rowW (f n m i : Int) : List Int := (List.range (highW f n m i - lowW f n m i).toNat).map fun k : Nat => zkt f n m i (lowW f n m i + k)
theorem ziz {a A b B : Int} (h0 : 0 ≤ a) (h1 : a ≤ A) (h2 : 0 ≤ b) (h3 : b ≤ B) : 0 ≤ a * b ∧ a * b ≤ A * B :=
 ⟨Int.mul_nonneg h0 h2, Int.mul_le_mul h1 h3 h2 (by omega)⟩
theorem zq7 {a A b B : Int} (h0 : -A ≤ a) (h1 : a ≤ A) (h2 : 0 ≤ b) (h3 : b ≤ B) : -(A * B) ≤ a * b ∧ a * b ≤ A * B := by
 have hA : 0 ≤ A := by omega
 rcases Int.le_total 0 a with h | h
 ·have := ziz h h1 h2 h3
  have h4 : 0 ≤ A * B := Int.mul_nonneg hA (by omega)
  omega
 ·have := ziz (a := -a) (A := A) (by omega) (by omega) h2 h3
  rw [Int.neg_mul] at this
  have h4 : 0 ≤ A * B := Int.mul_nonneg hA (by omega)
  omega
theorem zgl {a b L U : Int} (hb : 1 ≤ b) (h1 : -L ≤ a) (h2 : a ≤ U) (hL : 0 ≤ L) (hU : 0 ≤ U) : -L ≤ a / b ∧ a / b ≤ U := by
 constructor
 ·rw [Int.le_ediv_iff_mul_le (by omega)]
  have : -L * b ≤ -L * 1 := Int.mul_le_mul_of_nonpos_left (by omega) hb
  omega
 ·apply Int.le_of_lt_add_one
  rw [Int.ediv_lt_iff_lt_mul (by omega)]
  have : (U + 1) * 1 ≤ (U + 1) * b := Int.mul_le_mul_of_nonneg_left hb (by omega)
  omega
structure MayB (f n m i : Int) : Prop where
 inb : 0 ≤ i * n ∧ i * n ≤ 4294967296
 in1 : (i + 1) * n = i * n + n
 tin : (2 * i + 1) * n = 2 * (i * n) + n
 rr : zaZ f * 2 * max n m = 2 * (zaZ f * max n m)
 rb : 0 ≤ zaZ f * max n m ∧ zaZ f * max n m ≤ 196608
theorem mayB {f n m i : Int} (h : mayR f n m i) : MayB f n m i := by
 obtain ⟨f0, f1, n0, n1, m0, m1, i0, i1⟩ := h
 have := ziz (a := i) (A := 65536) (b := n) (B := 65536) (by omega) (by omega) (by omega) (by omega)
 have hr : 0 ≤ zaZ f ∧ zaZ f ≤ 3 := by unfold zaZ; split; omega; split <;> omega
 have := ziz (a := zaZ f) (A := 3) (b := max n m) (B := 65536) hr.1 hr.2 (by omega) (by omega)
 exact ⟨by omega, by rw [Int.add_mul, Int.one_mul], by rw [Int.add_mul, Int.one_mul, Int.mul_assoc], by rw [Int.mul_right_comm, Int.mul_comm], by omega⟩
theorem low_bd {f n m i : Int} (h : mayR f n m i) : -1048576 * 65536 ≤ lowW f n m i ∧ lowW f n m i ≤ 1048576 * 65536 ∧ -1048576 * 65536 ≤ highW f n m i ∧ highW f n m i ≤ 1048576 * 65536 := by
 have hb := mayB h
 obtain ⟨b1, b2, b3, b4, b5⟩ := hb
 obtain ⟨f0, f1, n0, n1, m0, m1, i0, i1⟩ := h
 unfold lowW highW ceilD
 split
 ·have h1 := zgl (a := i * n) (b := m) (L := 0) (U := 4294967296) (by omega) (by omega) (by omega) (by omega) (by omega)
  have h2 := zgl (a := -((i + 1) * n)) (b := m) (L := 4295032832) (U := 0) (by omega) (by omega) (by omega) (by omega) (by omega)
  omega
 ·rw [b3, b4]
  have h1 := zgl (a := 2 * (i * n) + n - m - 2 * (zaZ f * max n m)) (b := 2 * m) (L := 8591000000) (U := 8591000000) (by omega) (by omega) (by omega) (by omega) (by omega)
  have h2 := zgl (a := -(2 * (i * n) + n - m + 2 * (zaZ f * max n m))) (b := 2 * m) (L := 8591000000) (U := 8591000000) (by omega) (by omega) (by omega) (by omega) (by omega)
  omega
def New {α : Type} (e : Rp α) (h h' : Heap) (v : Value) (l : List α) : Prop := Rp.Ow e (fun _ => False) h' v l ∧ Ext h h' ∧ ∀ b, blk v b → h.size ≤ b
theorem New.nil {α : Type} {e : Rp α} {h h' : Heap} (k : Ext h h') : New e h h' (.slice none 0 0) [] := ⟨Rp.Ow.nil, k, fun b hb => hb.elim⟩
theorem New.ext {α : Type} {e : Rp α} {h h' h2 : Heap} {v : Value} {l : List α} (H : New e h h' v l) (k : Ext h' h2) : New e h h2 v l := ⟨H.1.ext k, H.2.1.trans k, H.2.2⟩
theorem New.before {α : Type} {e : Rp α} {h0 h h' : Heap} {v : Value} {l : List α} (H : New e h h' v l) (k : Ext h0 h) : New e h0 h' v l := ⟨H.1, k.trans H.2.1, fun b hb => Nat.le_trans k.1 (H.2.2 b hb)⟩
theorem New.sl {α : Type} {e : Rp α} {h h' : Heap} {v : Value} {l : List α} (H : New e h h' v l) : Rp.Sl e (blk v) h' v l := H.1.sl.mono fun b _ hb => hb.elim False.elim id
theorem New.isSl {α : Type} {e : Rp α} {h h' : Heap} {v : Value} {l : List α} (H : New e h h' v l) : ∃ a cap, v = .slice a l.length cap := H.1.isSl
theorem New.push {α : Type} {e : Rp α} {z z' c : Value} {t t' : TypeId} {bytes : Nat} {h h1 : Heap} {v : Value} {l : List α} {x : α} {K : Value → Heap → Prop} (hw : e.w = 1) (H : New e h h1 v l)
  (hx : e.R (fun _ => False) h1 [c] x) (hz : z.cells.size = 1) (hb : (l.length + 1) * bytes ≤ 140737488355328) (hn : l.length + 1 ≤ 9223372036854775807)
  (HK : ∀ s' h', New e h h' s' (l ++ [x]) → K s' h') : rowK #[z'] t 1 [(0, 1, c)] h1 fun v2 h3 => appK z t' 1 bytes v v2 h3 K := by
 refine Rp.push_ow1 hw H.1 hx hz hb hn (fun b hb => hb.elim) fun s' h' o' f' n' => HK s' h' ⟨o', H.2.1.then_fr f' H.2.2, fun b hb => ?_⟩
 rcases n' b hb with h1 | h1
 ·exact H.2.2 b h1
 ·exact Nat.le_trans H.2.1.1 h1
theorem New.push_int {k : IntKind} {z z' : Value} {t t' : TypeId} {bytes : Nat} {h h1 : Heap} {v : Value} {l : List Int} {x : Int} {K : Value → Heap → Prop} (H : New (Rp.int k) h h1 v l)
  (hz : z.cells.size = 1) (hb : (l.length + 1) * bytes ≤ 140737488355328) (hn : l.length + 1 ≤ 9223372036854775807)
  (HK : ∀ s' h', New (Rp.int k) h h' s' (l ++ [x]) → K s' h') : rowK #[z'] t 1 [(0, 1, .int k x)] h1 fun v2 h3 => appK z t' 1 bytes v v2 h3 K :=
 H.push rfl rfl hz hb hn HK
theorem Rp.Sl.int_at {k : IntKind} {Z : Nat → Prop} {h : Heap} {v : Value} {l : List Int} (H : Rp.Sl (Rp.int k) Z h v l) {k' : IntKind} {i : Nat} (hi : i < l.length) : ∃ p, idxV 1 v (.int k' (i : Int)) = some p ∧ ldV h p = some (.int k l[i]) := by
 obtain ⟨p, c, h1, h2, h3⟩ := H.at1 rfl (k := k') hi
 have h3 : [c] = [Value.int k l[i]] := h3
 cases h3
 exact ⟨p, h1, h2⟩
theorem zmg (k : IntKind) (i d most : Nat) (h : i ≤ most) : bdV (some (.int k (i : Int))) d most = some i := by
 show (if 0 ≤ (i : Int) ∧ (i : Int) ≤ (most : Int) then some (i : Int).toNat else none) = _
 rw [if_pos (by omega), Int.toNat_natCast]
theorem SlC.part {w : Nat} {h : Heap} {v : Value} {n : Nat} {cs : List Value} (H : SlC w h v n cs) {lo hi : Nat} (h1 : lo ≤ hi) (h2 : hi ≤ n) {a : Option Addr} {cap : Nat} (hv : v = .slice a n cap) (hc : n ≤ cap) :
  SlC w h (.slice (if cap = lo then a else a.map (·.add (lo * w))) (hi - lo) (cap - lo)) (hi - lo) ((cs.drop (lo * w)).take ((hi - lo) * w)) := by
 subst hv
 obtain ⟨hl, a', cap', e, H⟩ := H
 cases e
 have hm : lo * w + (hi - lo) * w = hi * w := by rw [← Nat.add_mul]; congr 1; omega
 have hm2 : hi * w ≤ n * w := Nat.mul_le_mul_right w h2
 refine ⟨by rw [List.length_take, List.length_drop]; omega, _, _, rfl, ?_⟩
 by_cases he : (cs.drop (lo * w)).take ((hi - lo) * w) = []
 ·exact .inl he
 ·refine .inr ?_
  rcases H with rfl | ⟨b, o, rfl, H⟩
  ·exact absurd (by simp) he
  ·have hne : cap ≠ lo := by
    intro e
    have h0 : (hi - lo) * w = 0 := by rw [show hi - lo = 0 by omega, Nat.zero_mul]
    exact he (by rw [h0]; rfl)
   rw [if_neg hne]
   refine ⟨b, o + lo * w, by rw [Option.map_some, zfL], fun j hj => ?_⟩
   rw [List.length_take, List.length_drop] at hj
   have := H (lo * w + j) (by omega)
   rw [← Nat.add_assoc] at this
   rw [this, List.getElem_take, List.getElem_drop]
theorem slc_front {h : Heap} {v : Value} {n : Nat} {cs : List Value} (w : Nat) (H : Own w h v n cs) {k : IntKind} {hi : Nat} (h2 : hi ≤ n) : ∃ v', slcV w v none (some (.int k (hi : Int))) = some v' ∧ SlC w h v' hi (cs.take (hi * w)) ∧ ∀ b, blk v' b → blk v b := by
 have hc : ∃ a cap, v = .slice a n cap ∧ n ≤ cap := by
  rcases H with ⟨rfl, rfl, _⟩ | ⟨b, cap, r, e, rfl, hc, _⟩
  ·exact ⟨none, 0, rfl, Nat.le_refl _⟩
  ·exact ⟨_, cap, rfl, hc⟩
 obtain ⟨a, cap, e, hc⟩ := hc
 have := H.sl.part (Nat.zero_le hi) h2 e hc
 subst e
 refine ⟨_, ?_, by simpa using this, fun b hb => ?_⟩
 ·simp only [slcV, zmg k hi n cap (show hi ≤ cap by omega)]
  simp only [bdV, Nat.zero_mul, Nat.sub_zero]
 ·cases a with
  | none => simp at hb; exact hb
  | some a =>
   split at hb
   ·exact hb
   ·simp only [Option.map_some] at hb
    have e : (a.add 0).block = a.block := by unfold Addr.add; split <;> rfl
    rw [show b = (a.add 0).block from hb, e]; rfl
theorem cpy_tail {h : Heap} {v s : Value} {n m k : Nat} {cs ds : List Value} (H : Own 1 h v n cs) (hm : m < n) (hs : SlC 1 h s k ds) (ho : ∀ x ∈ ds, zar x = true) {kk : IntKind} :
  ∃ d, slcV 1 v (some (.int kk (m : Int))) none = some d ∧ ∀ K : Value → Heap → Prop, (∀ h', Own 1 h' v n (cs.take m ++ ds.take (n - m) ++ cs.drop (m + k)) → Fr (blk v) h h' → K (.int .i64 (Nat.min k (n - m) : Nat)) h') → cpyK 1 d s h K := by
 have hxl := hs.load_some (k := Nat.min k (n - m)) (Nat.min_le_left ..)
 obtain ⟨hdl, a', cap', rfl, hx'⟩ := hs
 rcases H with ⟨rfl, rfl, rfl⟩ | ⟨b, cap, r, e, rfl, hc, hl, hr, hb⟩
 ·omega
 ·refine ⟨.slice (some ⟨b, m, none⟩) (n - m) (cap - m), ?_, fun K HK => ?_⟩
  ·simp only [slcV, zmg kk m 0 cap (show m ≤ cap by omega)]
   have hne : ¬ cap = m := by omega
   have e0 : bdV (some (Value.int kk (m : Int))) 0 n = some m := zmg kk m 0 n (by omega)
   simp only [bdV, e0, if_neg hne, Option.map_some, zfL, Nat.zero_add, Nat.mul_one]
   rw [if_pos (by omega)]
   simp
   exact fun hh => absurd hh hne
  ·unfold cpyK
   simp only [lenN]
   rw [hxl]
   have hte : ds.take (Nat.min k (n - m) * 1) = ds.take (n - m) := by
    rw [Nat.mul_one]
    rcases Nat.le_total k (n - m) with h1 | h1
    ·rw [show Nat.min k (n - m) = k from Nat.min_eq_left h1, List.take_of_length_le (by omega), List.take_of_length_le (by omega)]
    ·rw [show Nat.min k (n - m) = n - m from Nat.min_eq_right h1]
   rw [hte]
   have hle : (ds.take (n - m)).length ≤ n - m := by rw [List.length_take]; omega
   have hst := zfe (o := m) (ds.take (n - m)) 0 h _ hb (by simp; omega) (fun v hv => ho v (List.mem_of_mem_take hv))
   simp only [hst]
   have hsp : cs ++ r = cs.take m ++ (cs.drop m ++ r) := by rw [← List.append_assoc, List.take_append_drop]
   have lt : (cs.take m).length = m := by rw [List.length_take]; omega
   have hw := zqg (ds.take (n - m)) (cs.take m) (cs.drop m ++ r) (by rw [List.length_append, List.length_drop]; omega)
   rw [← hsp, lt] at hw
   rw [Nat.add_zero, hw]
   refine HK _ (.inr ⟨b, cap, r, e, rfl, hc, ?_, ?_, ?_⟩) Upd.set.fr
   ·simp only [List.length_append, List.length_take, List.length_drop]; omega
   ·simp only [List.length_append, List.length_take, List.length_drop] at hr ⊢; omega
   ·rw [zfx hb]
    congr 3
    rw [List.append_assoc, List.append_assoc, List.append_assoc]
    congr 2
    rw [List.length_take, List.drop_append]
    rcases Nat.le_total k (n - m) with h1 | h1
    ·rw [List.drop_drop, show min (n - m) ds.length = k by omega, List.length_drop, show k - (cs.length - m) = 0 by omega, List.drop_zero]
    ·rw [List.drop_drop, show min (n - m) ds.length = n - m by omega, List.length_drop, show n - m - (cs.length - m) = 0 by omega, List.drop_zero, List.drop_eq_nil_of_le (show cs.length ≤ m + (n - m) by omega), List.drop_eq_nil_of_le (show cs.length ≤ m + k by omega)]
theorem Rp.Sl.part {α : Type} {e : Rp α} {Z : Nat → Prop} {h : Heap} {v : Value} {l : List α} (H : Rp.Sl e Z h v l) {lo hi : Nat} (h1 : lo ≤ hi) (h2 : hi ≤ l.length) {a : Option Addr} {n cap : Nat} (hv : v = .slice a n cap) (hc : n ≤ cap) {k k' : IntKind} :
  ∃ v', slcV e.w v (some (.int k (lo : Int))) (some (.int k' (hi : Int))) = some v' ∧ Rp.Sl e Z h v' ((l.drop lo).take (hi - lo)) := by
 obtain ⟨ds, hs, hz, he⟩ := H
 obtain ⟨a', cap', e'⟩ := hs.isSl
 rw [e'] at hv
 cases hv
 have hP := hs.part h1 h2 e' hc
 subst e'
 have hlen : ((l.drop lo).take (hi - lo)).length = hi - lo := by rw [List.length_take, List.length_drop]; omega
 refine ⟨_, ?_, (ds.drop (lo * e.w)).take ((hi - lo) * e.w), by rw [hlen]; exact hP, fun hne b hb => ?_, fun i hi' => ?_⟩
 ·simp only [slcV, zmg k' hi _ cap (show hi ≤ cap by omega), zmg k lo 0 hi h1]
 ·have hds : ds ≠ [] := fun h0 => hne (by rw [h0]; simp)
  refine hz hds b ?_
  cases a with
  | none => simp only [Option.map_none, ite_self] at hb; exact hb
  | some a =>
   split at hb
   ·exact hb
   ·simp only [Option.map_some] at hb
    have ea : (a.add (lo * e.w)).block = a.block := by unfold Addr.add; split <;> rfl
    rw [show b = (a.add (lo * e.w)).block from hb, ea]; rfl
 ·have hi'' : lo + i < l.length := by rw [hlen] at hi'; omega
  have := he (lo + i) hi''
  rw [List.getElem_take, List.getElem_drop]
  have e2 : Rp.el e.w ((ds.drop (lo * e.w)).take ((hi - lo) * e.w)) i = Rp.el e.w ds (lo + i) := by
   show (((ds.drop (lo * e.w)).take ((hi - lo) * e.w)).drop (i * e.w)).take e.w = (ds.drop ((lo + i) * e.w)).take e.w
   have hm : i * e.w + e.w ≤ (hi - lo) * e.w := by rw [← Nat.succ_mul]; exact Nat.mul_le_mul_right _ (by rw [hlen] at hi'; exact hi')
   rw [List.drop_take, List.drop_drop, List.take_take, Nat.min_eq_left (by omega), ← Nat.add_mul]
  rw [e2]
  exact this
def S (l : List UInt8) : Value := .string ⟨⟨l⟩⟩
theorem S_lit (l : List UInt8) : Value.string ⟨l.toArray⟩ = S l := rfl
theorem S_nil : Value.string ⟨#[]⟩ = S [] := rfl
theorem one_S (l : List UInt8) : zar (S l) = true := rfl
theorem zrC (a b : List UInt8) : binV .s .eql (S a) (S b) = some (.bool (decide (a = b))) := by
 show some (Value.bool ((ByteArray.mk (Array.mk a)).toList == (ByteArray.mk (Array.mk b)).toList)) = _
 rw [ByteArray.toList_eq, ByteArray.toList_eq]
 congr 2
 by_cases h : a = b
 ·subst h; simp
 ·rw [decide_eq_false h]; simpa using h
theorem zrB (a b : List UInt8) : binV .s .neq (S a) (S b) = some (.bool (!decide (a = b))) := by
 show some (Value.bool (!((ByteArray.mk (Array.mk a)).toList == (ByteArray.mk (Array.mk b)).toList))) = _
 rw [ByteArray.toList_eq, ByteArray.toList_eq]
 congr 3
 by_cases h : a = b
 ·subst h; simp
 ·rw [decide_eq_false h]; simpa using h
theorem lenS (l : List UInt8) : zpL (S l) = some (.int .i64 l.length) := rfl
namespace Rp
def bs : Rp (List UInt8) where
 w := 1
 R := fun _ _ cs n => cs = [S n]
 len := by rintro _ _ _ _ rfl; rfl
 one := by rintro _ _ _ _ rfl; simp [one_S]
 fr := fun H _ _ => H
 mono := fun H _ => H
end Rp
attribute [go_sem] S_lit zrC zrB lenS
end Go.Crisp
namespace Go.Proofs.YtdbebmafgpdfhaaGreatDoor
open Go Go.Crisp
attribute [local irreducible] FCall rowK newK stK iteK vK qK drawK gK joinK loopK mkK appK cpyK
open _root_.Go.Proofs.Tryz
def bName (b : Int) : List UInt8 := if b = 0 then [99, 108, 97, 109, 112] else if b = 1 then [109, 105, 114, 114, 111, 114] else if b = 2 then [119, 114, 97, 112] else []
def fName (b : Int) : List UInt8 := if b = 0 then [98, 111, 120] else if b = 1 then [99, 117, 98, 105, 99] else if b = 2 then [108, 97, 110, 99, 122, 111, 115] else []
theorem zmX {h : Heap} (G : GlobB h) {b : Int} :
  FCall prog zfa #[.int .i64 b] h fun r h' => r = S (bName b) ∧ h' = h := by
 apply zpm
 unfold zjP
 obtain ⟨v, hv, H⟩ := G.names
 obtain ⟨a, cap, rfl⟩ := H.isSl
 simp only [go_sem, hv]
 refine zab (fun h1 => ?_) (fun h1 => ?_)
 ·refine ⟨?_, trivial⟩
  unfold bName
  rw [if_neg (by omega), if_neg (by omega), if_neg (by omega)]
 ·obtain ⟨n, rfl⟩ : ∃ n : Nat, b = (n : Int) := ⟨b.toNat, by omega⟩
  obtain ⟨p, hp, hl⟩ := H.at1 (k := .i64) (i := n) (by omega)
  simp only [go_sem, hp, hl]
  refine ⟨?_, trivial⟩
  have hn : n < 3 := by omega
  have key : ∀ (i : Nat) (hi : i < [Value.string (zcQ 0), Value.string (zcQ 1), Value.string (zcQ 2)].length), [Value.string (zcQ 0), Value.string (zcQ 1), Value.string (zcQ 2)][i] = S (bName (i : Int)) := fun i hi => by
   match i, hi with
   | 0, _ => rfl
   | 1, _ => rfl
   | 2, _ => rfl
  exact key n _
theorem c_rawName {h : Heap} (G : GlobB h) {b : Int} :
  FCall prog zjc #[.int .i64 b] h fun r h' => r = S (fName b) ∧ h' = h := by
 apply ok_raw_Name
 unfold znK
 simp only [go_sem]
 refine zab (fun h1 => ?_) (fun h1 => ?_)
 ·refine ⟨?_, trivial⟩
  unfold fName
  rw [if_neg (by omega), if_neg (by omega), if_neg (by omega)]
 ·obtain ⟨n, rfl⟩ : ∃ n : Nat, b = (n : Int) := ⟨b.toNat, by omega⟩
  have hn : n < 3 := by omega
  have hk := (G.kinds n hn).1
  have e : idxaV 3 2 (.pointer (some ⟨zbt, 0, none⟩)) (.int .i64 (n : Int)) = some (.pointer (some ⟨zbt, 2 * n, none⟩)) := by
   show (if 0 ≤ (n : Int) ∧ (n : Int) < ((3 : Nat) : Int) then some (Value.pointer (some ((⟨zbt, 0, none⟩ : Addr).add ((n : Int).toNat * 2)))) else none) = _
   rw [if_pos (by omega), zfL, Int.toNat_natCast, Nat.zero_add, Nat.mul_comm]
  simp only [go_sem, e, Nat.add_zero, hk]
  refine ⟨?_, trivial⟩
  clear h1 hk e
  match n, hn with
  | 0, _ => rfl
  | 1, _ => rfl
  | 2, _ => rfl
end Go.Proofs.YtdbebmafgpdfhaaGreatDoor
namespace Go.Proofs.YtdbebmafgpdfhaaGreatDoor
open Go Go.Crisp
attribute [local irreducible] FCall rowK newK stK iteK vK qK drawK gK joinK loopK mkK appK cpyK zni zla bsK
open _root_.Go.Proofs.Tryz
theorem c_rawMay {h : Heap} {f n m i : Int} : FCall prog zoR #[.int .i64 f, .int .i64 n, .int .i64 m, .int .i64 i] h fun r h' => r = .bool (decide (mayR f n m i)) ∧ h' = h := by
 apply ok_raw_may
 unfold zpw
 try simp only [go_sem]
 refine ⟨?_, trivial⟩
 congr 1
 rw [decide_eq_decide]
 unfold mayR
 omega
theorem c_ceil {h : Heap} {a b : Int} (ha : -9223372036854775807 ≤ a ∧ a ≤ 9223372036854775807) (hb : 0 < b) (hb2 : I64 b) : FCall prog zjb #[.int .i64 a, .int .i64 b] h fun r h' => r = .int .i64 (ceilD a b) ∧ h' = h := by
 apply ok_raw_ceil
 unfold znJ
 try simp only [go_sem]
 rw [w64 (by omega) (by omega), Int.zero_sub]
 have hi : I64 (-a) := by unfold I64; omega
 refine (zry hi hb2).mono fun v1 h1 ⟨e1, w1⟩ => ?_
 subst e1 w1
 try simp only [go_sem]
 rw [zfg hi hb]
 have := zgl (a := -a) (b := b) (L := 9223372036854775807) (U := 9223372036854775807) (by omega) (by omega) (by omega) (by omega) (by omega)
 rw [w64 (by omega) (by omega), Int.zero_sub]
 exact ⟨rfl, trivial⟩
theorem reach_cell {h : Heap} (G : GlobB h) {f : Int} (f0 : 0 ≤ f) (f1 : f < 3) : ∃ p, idxaV 3 2 (.pointer (some ⟨zbt, 0, none⟩)) (.int .i64 f) = some (.pointer (some ⟨zbt, p, none⟩)) ∧ zah h ⟨zbt, p + 1, none⟩ = some (.int .i64 (zaZ f)) := by
 obtain ⟨n, rfl⟩ : ∃ n : Nat, f = (n : Int) := ⟨f.toNat, by omega⟩
 have hn : n < 3 := by omega
 refine ⟨2 * n, ?_, ?_⟩
 ·show (if 0 ≤ (n : Int) ∧ (n : Int) < ((3 : Nat) : Int) then some (Value.pointer (some ((⟨zbt, 0, none⟩ : Addr).add ((n : Int).toNat * 2)))) else none) = _
  rw [if_pos (by omega), zfL, Int.toNat_natCast, Nat.zero_add, Nat.mul_comm]
 ·rw [(G.kinds n hn).2]
  match n, hn with
  | 0, _ => rfl
  | 1, _ => rfl
  | 2, _ => rfl
def winV (f n m i : Int) : Value := if mayR f n m i then .tuple #[.int .i64 (lowW f n m i), .int .i64 (highW f n m i - lowW f n m i)] else .tuple #[.int .i64 0, .int .i64 0]
theorem c_Window {h : Heap} (G : GlobB h) {f n m i : Int} : FCall prog ziM #[.int .i64 f, .int .i64 n, .int .i64 m, .int .i64 i] h fun r h' => r = winV f n m i ∧ h' = h := by
 apply zqV
 unfold zkU winV
 refine c_rawMay.mono fun v1 h1 ⟨e1, w1⟩ => ?_
 subst e1 w1
 try simp only [go_sem]
 refine zab (fun h0 => ?_) (fun h0 => ?_)
 ·rw [if_neg h0]; exact ⟨rfl, trivial⟩
 have hm : mayR f n m i := Decidable.of_not_not h0
 rw [if_pos hm]
 have hlb := low_bd hm
 have hb := mayB hm
 obtain ⟨b1, b2, b3, b4, b5⟩ := hb
 obtain ⟨f0, f1, n0, n1, m0, m1, i0, i1⟩ := hm
 have hm64 : I64 m := by unfold I64; omega
 rw [w64 (n := i * n) (by omega) (by omega)]
 refine (zry (by unfold I64; omega) hm64).mono fun v1 h1 ⟨e1, w1⟩ => ?_
 subst e1 w1
 rw [zfg (by unfold I64; omega) (by omega)]
 try simp only [go_sem]
 rw [w64 (n := i + 1) (by omega) (by omega), w64 (n := (i + 1) * n) (by omega) (by omega)]
 refine (c_ceil (by omega) (by omega) hm64).mono fun v1 h1 ⟨e1, w1⟩ => ?_
 subst e1 w1
 try simp only [go_sem]
 unfold lowW highW at hlb ⊢
 refine zab (fun hf => ?_) (fun hf => ?_)
 ·have hf : f ≠ 0 := hf
  rw [if_neg hf, if_neg hf] at *
  obtain ⟨p, hp1, hp2⟩ := reach_cell G f0 f1
  simp only [go_sem, hp1, hp2]
  have hr : 0 ≤ zaZ f ∧ zaZ f ≤ 3 := by unfold zaZ; split; omega; split <;> omega
  rw [w64 (n := 2 * i) (by omega) (by omega), w64 (n := 2 * i + 1) (by omega) (by omega), w64 (n := (2 * i + 1) * n) (by omega) (by omega), w64 (n := (2 * i + 1) * n - m) (by omega) (by omega), w64 (n := zaZ f * 2) (by omega) (by omega),
   w64 (n := zaZ f * 2 * max n m) (by omega) (by omega), w64 (n := (2 * i + 1) * n - m - zaZ f * 2 * max n m) (by omega) (by omega), w64 (n := 2 * m) (by omega) (by omega)]
  refine (zry (by unfold I64; omega) (by unfold I64; omega)).mono fun v1 h1 ⟨e1, w1⟩ => ?_
  subst e1 w1
  rw [zfg (by unfold I64; omega) (by omega)]
  try simp only [go_sem]
  rw [w64 (n := ((2 * i + 1) * n - m - zaZ f * 2 * max n m) / (2 * m) + 1) (by omega) (by omega), w64 (n := (2 * i + 1) * n - m + zaZ f * 2 * max n m) (by omega) (by omega)]
  refine (c_ceil (by omega) (by omega) (by unfold I64; omega)).mono fun v1 h1 ⟨e1, w1⟩ => ?_
  subst e1 w1
  try simp only [go_sem]
  rw [w64 (by omega) (by omega)]
  exact ⟨rfl, trivial⟩
 ·have hf : f = 0 := Decidable.of_not_not hf
  rw [if_pos hf, if_pos hf] at *
  rw [w64 (by omega) (by omega)]
  exact ⟨rfl, trivial⟩
theorem c_Keys {h : Heap} {p q : Int} (hp : -4611686018427387904 ≤ p ∧ p ≤ 4611686018427387904) (hq : I64 q) : FCall prog zgY #[.int .i64 p, .int .i64 q] h fun r h' => r = .int .i64 (keysZ p q) ∧ h' = h := by
 apply ok_raw_Keys
 unfold znL
 try simp only [go_sem]
 unfold keysZ
 have e0 : (((q < 1 ∨ 262144 < q) ∨ IntKind.i64.wrap (2 * q) ≤ p) ∨ p ≤ IntKind.i64.wrap (-2 * q)) ↔ (q < 1 ∨ 262144 < q ∨ 2 * q ≤ p ∨ p ≤ -2 * q) := by
  unfold I64 at hq
  by_cases hc : q < 1 ∨ 262144 < q
  ·omega
  ·rw [w64 (n := 2 * q) (by omega) (by omega), w64 (n := -2 * q) (by omega) (by omega)]; omega
 refine zab (fun h0 => ?_) (fun h0 => ?_)
 ·rw [if_pos (e0.1 h0)]; exact ⟨rfl, trivial⟩
 rw [if_neg fun hh => h0 (e0.2 hh)]
 have e1 : IntKind.i64.wrap (0 - p) = -p := by rw [w64 (by omega) (by omega)]; omega
 rw [e1]
 generalize max p (-p) = a
 simp only [ziV, ziU, zgG, zfb, ziT, zlJ]
 have e2 : 2 * q * q * q = 2 * (q * q * q) := by grind
 rw [e2]
 unfold cubicZ
 refine zab (fun h1 => ?_) (fun h1 => ?_)
 ·rw [if_pos h1]
  have e3 : (0 - a) * a * a + 5 * a * a * q - 8 * a * q * q + 4 * q * q * q = 4 * (q * q * q) + 5 * (a * a * q) - a * a * a - 8 * (a * q * q) := by grind
  rw [e3]
  exact ze3 (zcN _) (by unfold I64; omega) (zcN _)
 ·rw [if_neg h1]
  have e3 : 3 * a * a * a - 5 * a * a * q + 2 * (q * q * q) = 3 * (a * a * a) - 5 * (a * a * q) + 2 * (q * q * q) := by grind
  rw [e3]
  exact ze3 (zcN _) (by unfold I64; omega) (zcN _)
theorem c_weigh {h : Heap} {f n m i j : Int} (hm : mayR f n m i) (hj : -1048576 * 65536 ≤ j ∧ j ≤ 1048576 * 65536) : FCall prog zkm #[.int .i64 f, .int .i64 n, .int .i64 m, .int .i64 i, .int .i64 j] h fun r h' => r = .int .i64 (zkt f n m i j) ∧ h' = h := by
 apply ok_raw_weigh
 unfold zmE
 try simp only [go_sem]
 have hb := mayB hm
 obtain ⟨b1, b2, b3, b4, b5⟩ := hb
 obtain ⟨f0, f1, n0, n1, m0, m1, i0, i1⟩ := hm
 unfold zkt
 have hjm := zq7 (a := j) (A := 1048576 * 65536) (b := m) (B := 65536) (by omega) (by omega) (by omega) (by omega)
 have hj1 : (j + 1) * m = j * m + m := by rw [Int.add_mul, Int.one_mul]
 have hj2 : 2 * m * j = 2 * (j * m) := by rw [Int.mul_assoc, Int.mul_comm m j]
 refine zab (fun hf => ?_) (fun hf => ?_)
 ·rw [if_pos hf]
  rw [w64 (n := i + 1) (by omega) (by omega), w64 (n := (i + 1) * n) (by omega) (by omega), w64 (n := j + 1) (by omega) (by omega), w64 (n := (j + 1) * m) (by omega) (by omega), w64 (n := i * n) (by omega) (by omega), w64 (n := j * m) (by omega) (by omega), w64 (by omega) (by omega)]
  exact ze3 (by unfold I64; omega) (by unfold I64; omega) (by unfold I64; omega)
 rw [if_neg hf, w64 (n := 2 * m) (by omega) (by omega), w64 (n := 2 * m * j) (by omega) (by omega), w64 (n := 2 * i) (by omega) (by omega), w64 (n := 2 * i + 1) (by omega) (by omega), w64 (n := (2 * i + 1) * n) (by omega) (by omega),
  w64 (n := 2 * m * j - (2 * i + 1) * n) (by omega) (by omega), w64 (n := 2 * m * j - (2 * i + 1) * n + m) (by omega) (by omega), w64 (n := 2 * max n m) (by omega) (by omega)]
 refine zab (fun hf1 => ?_) (fun hf1 => ?_)
 ·rw [if_pos hf1]
  exact c_Keys (by omega) (by unfold I64; omega)
 ·rw [if_neg hf1]
  exact c_Lanczos (by unfold I64; omega) (by unfold I64; omega)
def zbn (f n m i : Int) : Int := if mayR f n m i then lowW f n m i else 0
def za6 (f n m i : Int) : List Int := if mayR f n m i then rowW f n m i else []
theorem zei {β : Type} (g : Nat → β) (n k : Nat) (h : k < n) : ((List.range n).map g).take (k + 1) = ((List.range n).map g).take k ++ [g k] := by
 rw [List.take_succ_eq_append_getElem (by simpa using h)]
 simp
theorem c_rawRow {h : Heap} (G : GlobB h) {f n m i : Int} : FCall prog zlI #[.int .i64 f, .int .i64 n, .int .i64 m, .int .i64 i] h fun r h' =>
  ∃ v, r = .tuple #[.int .i64 (zbn f n m i), v] ∧ New (Rp.int .i64) h h' v (za6 f n m i) := by
 apply ok_raw_Row
 unfold zpx
 refine (c_Window G).mono fun v1 h1 ⟨e1, w1⟩ => ?_
 subst e1 w1
 unfold zbn za6 winV
 by_cases hm : mayR f n m i
 ·rw [if_pos hm, if_pos hm, if_pos hm]
  try simp only [go_sem]
  have hlb := low_bd hm
  obtain ⟨N, hN⟩ : ∃ N, N = (highW f n m i - lowW f n m i).toNat := ⟨_, rfl⟩
  refine zaD N 0 (fun k v => [v, .int .i64 (k : Int)]) (fun k v h' => New (Rp.int .i64) h1 h' v ((rowW f n m i).take k)) (.slice none 0 0) rfl (Nat.zero_le _) (New.nil (Ext.refl _)) fun k v h2 again ρj _ hk hI H => ?_
  try simp only [go_sem]
  have hl : (rowW f n m i).length = N := by unfold rowW; rw [List.length_map, List.length_range, hN]
  refine zab (fun h0 => ?_) (fun h0 => ?_)
  ·rw [w64 (n := lowW f n m i + (k : Int)) (by omega) (by omega)]
   refine (c_weigh hm (by omega)).mono fun v2 h3 ⟨e2, w2⟩ => ?_
   subst e2 w2
   have hlen : ((rowW f n m i).take k).length = k := by rw [List.length_take]; omega
   refine hI.push_int rfl (by rw [hlen]; omega) (by rw [hlen]; omega) fun s' h' H' => ?_
   try simp only [go_sem]
   rw [w64 (by omega) (by omega)]
   have := H s' h' (by omega) (by
    have e := zei (fun k : Nat => zkt f n m i (lowW f n m i + k)) (highW f n m i - lowW f n m i).toNat k (by omega)
    unfold rowW at H' ⊢
    rw [e]
    exact H')
   exact this
  ·rw [List.take_of_length_le (by omega)] at hI
   exact ⟨v, rfl, hI⟩
 ·rw [if_neg hm, if_neg hm, if_neg hm]
  try simp only [go_sem]
  refine zc2 (fun k => [.slice none 0 0, .int .i64 (k : Int)]) 0 0 rfl (Nat.le_refl _) fun k again ρj _ hk _ => ?_
  have : k = 0 := by omega
  subst this
  try simp only [go_sem]
  refine zab (fun h0 => absurd h0 (by omega)) (fun h0 => ?_)
  exact ⟨_, rfl, New.nil (Ext.refl _)⟩
end Go.Proofs.YtdbebmafgpdfhaaGreatDoor
namespace Go.Crisp
def lead (r : Nat → Int) (i j : Nat) : Prop := r j < r i ∨ (r i = r j ∧ i < j)
instance (r : Nat → Int) (i j : Nat) : Decidable (lead r i j) := by unfold lead; exact inferInstance
theorem zop (r : Nat → Int) (i : Nat) : ¬ lead r i i := by unfold lead; omega
theorem zdr {r : Nat → Int} {i j k : Nat} (h1 : lead r i j) (h2 : lead r j k) : lead r i k := by unfold lead at *; omega
theorem zds (r : Nat → Int) {i j : Nat} (h : i ≠ j) : lead r i j ∨ lead r j i := by unfold lead; omega
theorem zpM {r : Nat → Int} {i j : Nat} (h1 : lead r i j) : ¬ lead r j i := by unfold lead at *; omega
def rank (r : Nat → Int) (n i : Nat) : Nat := (List.range n).countP fun j => decide (lead r j i)
theorem countP_all {l : List Nat} {p : Nat → Bool} (h : ∀ x ∈ l, p x = true) : l.countP p = l.length := by
 rw [List.countP_eq_length]; exact h
theorem countP_none {l : List Nat} {p : Nat → Bool} (h : ∀ x ∈ l, p x = false) : l.countP p = 0 := by
 rw [List.countP_eq_zero]; intro x hx; rw [h x hx]; simp
theorem znT {r : Nat → Int} {n : Nat} {l : List Nat} (hp : l.Perm (List.range n)) (hs : l.Pairwise (lead r)) {k : Nat} (hk : k < l.length) : rank r n l[k] = k := by
 unfold rank
 rw [← hp.countP_eq]
 have hx : ∀ (x : Nat), x = l[k] → ((l.take k).countP fun j => decide (lead r j x)) + ((l.drop k).countP fun j => decide (lead r j x)) = k := by
  rintro x rfl
  have h1 : ((l.take k).countP fun j => decide (lead r j l[k])) = (l.take k).length := countP_all fun x hx => by
   obtain ⟨i, hi, rfl⟩ := List.mem_iff_getElem.1 hx
   rw [List.getElem_take]
   rw [List.length_take] at hi
   exact decide_eq_true (List.pairwise_iff_getElem.1 hs i k (by omega) hk (by omega))
  have h2 : ((l.drop k).countP fun j => decide (lead r j l[k])) = 0 := countP_none fun x hx => by
   obtain ⟨i, hi, rfl⟩ := List.mem_iff_getElem.1 hx
   rw [List.getElem_drop]
   rw [List.length_drop] at hi
   rcases Nat.eq_zero_or_pos i with h0 | h0
   ·subst h0; exact decide_eq_false (zop _ _)
   ·exact decide_eq_false (zpM (List.pairwise_iff_getElem.1 hs k (k + i) hk (by omega) (by omega)))
  rw [h1, h2, List.length_take]; omega
 have e : ∀ p : Nat → Bool, l.countP p = (l.take k).countP p + (l.drop k).countP p := fun p => by rw [← List.countP_append, List.take_append_drop]
 rw [e]
 exact hx _ rfl
theorem rank_lt {r : Nat → Int} {n i j : Nat} (hi : i < n) (h : lead r i j) : rank r n i < rank r n j := by
 unfold rank
 have hsub : ∀ l : List Nat, (l.countP fun k => decide (lead r k i)) ≤ l.countP fun k => decide (lead r k j) := fun l =>
  List.countP_mono_left fun x _ hx => decide_eq_true (zdr (of_decide_eq_true hx) h)
 obtain ⟨a, b, hab⟩ := List.append_of_mem (List.mem_range.2 hi)
 rw [hab, List.countP_append, List.countP_append, List.countP_cons, List.countP_cons]
 have h1 := hsub a
 have h2 := hsub b
 rw [if_neg (by simpa using zop r i), if_pos (decide_eq_true h)]
 omega
theorem znf {r : Nat → Int} {n i j : Nat} (hi : i < n) (hj : j < n) (h : rank r n i = rank r n j) : i = j := by
 by_cases he : i = j
 ·exact he
 ·rcases zds r he with h1 | h1
  ·have := rank_lt hi h1; omega
  ·have := rank_lt hj h1; omega
theorem lead_of_rank {r : Nat → Int} {n i j : Nat} (hi : i < n) (hj : j < n) (h : rank r n i < rank r n j) : lead r i j := by
 have he : i ≠ j := fun e => by rw [e] at h; omega
 rcases zds r he with h1 | h1
 ·exact h1
 ·have := rank_lt hj h1; omega
theorem rank_some (r : Nat → Int) (n : Nat) : ∀ k, k < n → ∃ i, i < n ∧ rank r n i = k := by
 let le : Nat → Nat → Bool := fun i j => decide (lead r i j) || decide (i = j)
 have ht : ∀ a b c : Nat, le a b = true → le b c = true → le a c = true := fun a b c h1 h2 => by
  simp only [le, Bool.or_eq_true, decide_eq_true_eq] at *
  rcases h1 with h1 | rfl
  ·rcases h2 with h2 | rfl
   ·exact .inl (zdr h1 h2)
   ·exact .inl h1
  ·exact h2
 have htot : ∀ a b : Nat, (le a b || le b a) = true := fun a b => by
  simp only [le, Bool.or_eq_true, decide_eq_true_eq]
  by_cases he : a = b
  ·exact .inl (.inr he)
  ·rcases zds r he with h | h
   ·exact .inl (.inl h)
   ·exact .inr (.inl h)
 let l := (List.range n).mergeSort le
 have hp : l.Perm (List.range n) := List.mergeSort_perm _ _
 have hs : l.Pairwise (fun a b => le a b = true) := List.pairwise_mergeSort (le := le) ht htot _
 have hn : l.Nodup := hp.nodup_iff.2 List.nodup_range
 have hs2 : l.Pairwise (lead r) := by
  unfold List.Nodup at hn
  refine (hs.and hn).imp fun {a b} ⟨h1, h2⟩ => ?_
  simp only [le, Bool.or_eq_true, decide_eq_true_eq] at h1
  rcases h1 with h1 | h1
  ·exact h1
  ·exact absurd h1 h2
 intro k hk
 have hl : l.length = n := by rw [hp.length_eq]; simp
 refine ⟨l[k]'(by omega), ?_, znT hp hs2 _⟩
 have := hp.mem_iff.1 (List.getElem_mem (l := l) (n := k) (by omega))
 simpa using this
def zdG (r : Nat → Int) (n k : Nat) (i : Nat) : Int := if rank r n i < k then -1 else r i
theorem picked_zero (r : Nat → Int) (n : Nat) : zdG r n 0 = r := by funext i; unfold zdG; rw [if_neg (by omega)]
theorem best_rank {r : Nat → Int} {n k : Nat} (hr : ∀ i, i < n → 0 ≤ r i) (hk : k < n) {b : Nat} (hb : b < n)
  (h1 : ∀ i, i < n → zdG r n k i ≤ zdG r n k b) (h2 : ∀ i, i < b → zdG r n k i < zdG r n k b) : rank r n b = k := by
 obtain ⟨m, hm, hmk⟩ := rank_some r n k hk
 have pm : zdG r n k m = r m := by unfold zdG; rw [if_neg (by omega)]
 have hm0 := hr m hm
 have hbm := h1 m hm
 rw [pm] at hbm
 have pb : zdG r n k b = r b ∧ ¬ rank r n b < k := by
  unfold zdG at hbm ⊢
  split at hbm
  ·omega
  ·rename_i h
   rw [if_neg h]; exact ⟨rfl, h⟩
 rw [pb.1] at hbm
 by_cases he : b = m
 ·rw [he]; exact hmk
 ·have hne : rank r n b ≠ k := fun e => he (znf hb hm (e.trans hmk.symm))
  have hl : lead r m b := lead_of_rank hm hb (by have := pb.2; omega)
  unfold lead at hl
  rcases hl with hl | ⟨e, hl⟩
  ·omega
  ·have := h2 m hl
   rw [pm, pb.1] at this
   omega
theorem picked_succ {r : Nat → Int} {n k b : Nat} (hb : b < n) (hr : rank r n b = k) {i : Nat} (hi : i < n) : zdG r n (k + 1) i = if i = b then -1 else zdG r n k i := by
 unfold zdG
 by_cases he : i = b
 ·subst he; rw [if_pos (by omega), if_pos rfl]
 ·have : rank r n i ≠ k := fun e => he (znf hi hb (e.trans hr.symm))
  rw [if_neg he]
  by_cases h : rank r n i < k
  ·rw [if_pos h, if_pos (by omega)]
  ·rw [if_neg h, if_neg (by omega)]
end Go.Crisp
namespace Go.Crisp
open Go
def sumZ (l : List Int) : Int := l.foldl addZ 0
def sizeZ (x : Int) : Int := max x (mulZ x (-1))
def zfn (l : List Int) : Int := l.foldl (fun s x => addZ s (sizeZ x)) 0
theorem zne {x : Int} (h : I64 x) : sizeZ x = min (x.natAbs : Int) 9223372036854775807 := by
 unfold sizeZ mulZ holdZ diffS
 unfold I64 at h
 have e : (-1 : Int).natAbs = 1 := rfl
 rw [e, Nat.mul_one]
 have e2 : decide ((-1 : Int) < 0) = true := rfl
 rw [e2]
 by_cases hx : x < 0
 ·rw [decide_eq_true hx]
  have : (!(true == true)) = false := rfl
  rw [this]
  simp only [Bool.false_eq_true, if_false]
  split <;> omega
 ·rw [decide_eq_false hx]
  have : (!(false == true)) = true := rfl
  rw [this]
  simp only [if_true]
  split <;> omega
theorem zfI {f : Int → Int → Int} (hf : ∀ a b, I64 (f a b)) : ∀ (l : List Int) (s : Int), I64 s → I64 (l.foldl f s)
 | [], s, h => h
 | x :: l, s, _ => zfI hf l _ (hf _ _)
theorem zi8 : I64 0 := by unfold I64; omega
theorem sumZ_I64 (l : List Int) : I64 (sumZ l) := zfI zi7 l 0 zi8
theorem zpv (l : List Int) : I64 (zfn l) := zfI (fun a b => zi7 a (sizeZ b)) l 0 zi8
theorem sizeZ_I64 {x : Int} (h : I64 x) : I64 (sizeZ x) := by rw [zne h]; unfold I64; omega
def badW (l : List Int) : Prop := l.length = 0 ∨ 1048576 < l.length ∨ ∃ x ∈ l, 1099511627776 < sizeZ x
instance (l : List Int) : Decidable (badW l) := by unfold badW; infer_instance
def za0 (l : List Int) : Int := if badW l then 7 else if sumZ l < 268435456 then 8 else 0
def baseT (l : List Int) (i : Nat) : Int := l.getD i 0 * 16384 / sumZ l
def restT (l : List Int) (i : Nat) : Int := l.getD i 0 * 16384 % sumZ l
def leftK (l : List Int) : Nat → Int
 | 0 => 16384
 | k + 1 => leftK l k - baseT l k
def leftT (l : List Int) : Int := leftK l l.length
def zfl (l : List Int) : List Int := (List.range l.length).map fun i => baseT l i + (if (rank (restT l) l.length i : Int) < leftT l then 1 else 0)
def zaF (l : List Int) : List Int := if za0 l = 0 then zfl l else []
structure GoodW (l : List Int) : Prop where
 pos : 0 < l.length
 len : l.length ≤ 1048576
 small : ∀ i, -1099511627776 ≤ l.getD i 0 ∧ l.getD i 0 ≤ 1099511627776
 sum : 268435456 ≤ sumZ l
theorem zoC {l : List Int} : za0 l = 0 ↔ ¬ badW l ∧ 268435456 ≤ sumZ l := by
 unfold za0
 split
 ·rename_i h; simp [h]
 ·rename_i h
  split
  ·rename_i h2; simp [h]; omega
  ·rename_i h2; simp [h]; omega
theorem goodW {l : List Int} (h64 : ∀ x ∈ l, I64 x) (h : za0 l = 0) : GoodW l := by
 obtain ⟨h1, h2⟩ := zoC.1 h
 unfold badW at h1
 refine ⟨by omega, by omega, fun i => ?_, h2⟩
 by_cases hi : i < l.length
 ·have e : l.getD i 0 = l[i] := by simp [List.getD_eq_getElem?_getD, hi]
  rw [e]
  have hm := List.getElem_mem hi
  have h3 : ¬ 1099511627776 < sizeZ l[i] := fun h3 => h1 (.inr (.inr ⟨_, hm, h3⟩))
  rw [zne (h64 _ hm)] at h3
  omega
 ·have e : l.getD i 0 = 0 := by simp [List.getD_eq_getElem?_getD, Nat.le_of_not_lt hi]
  rw [e]; omega
def psum (l : List Int) : Nat → Int
 | 0 => 0
 | k + 1 => psum l k + l.getD k 0
theorem psum_bd {l : List Int} (G : GoodW l) : ∀ k : Nat, -(k * 1099511627776 : Int) ≤ psum l k ∧ psum l k ≤ k * 1099511627776
 | 0 => by simp [psum]
 | k + 1 => by
  have := psum_bd G k
  have h2 := G.small k
  simp only [psum]
  omega
theorem sum_psum {l : List Int} (G : GoodW l) : ∀ k, k ≤ l.length → sumZ (l.take k) = psum l k
 | 0, _ => by simp [sumZ, psum]
 | k + 1, h => by
  have ih := sum_psum G k (by omega)
  have hb := psum_bd G k
  have h2 := G.small k
  have e : l.getD k 0 = l[k] := by simp [List.getD_eq_getElem?_getD, show k < l.length by omega]
  have := G.len
  unfold sumZ at *
  rw [List.take_succ_eq_append_getElem (by omega), List.foldl_append, ih]
  simp only [List.foldl_cons, List.foldl_nil, psum]
  unfold addZ
  rw [← e]
  omega
theorem sumZ_psum {l : List Int} (G : GoodW l) : sumZ l = psum l l.length := by
 have := sum_psum G l.length (Nat.le_refl _)
 rwa [List.take_of_length_le (Nat.le_refl _)] at this
def rsum (l : List Int) : Nat → Int
 | 0 => 0
 | k + 1 => rsum l k + restT l k
theorem zqs {l : List Int} (G : GoodW l) (i : Nat) : 0 ≤ restT l i ∧ restT l i < sumZ l := by
 have := G.sum
 exact ⟨Int.emod_nonneg _ (by omega), Int.emod_lt_of_pos _ (by omega)⟩
theorem zi6 {l : List Int} (G : GoodW l) (i : Nat) : -67108864 ≤ baseT l i ∧ baseT l i ≤ 67108864 := by
 have h1 := G.sum
 have h2 := G.small i
 unfold baseT
 constructor
 ·rw [Int.le_ediv_iff_mul_le (by omega)]; omega
 ·apply Int.le_of_lt_add_one
  rw [Int.ediv_lt_iff_lt_mul (by omega)]; omega
theorem zrf {l : List Int} (G : GoodW l) : ∀ k : Nat, 16384 - (k * 67108864 : Int) ≤ leftK l k ∧ leftK l k ≤ 16384 + k * 67108864
 | 0 => by simp [leftK]
 | k + 1 => by
  have := zrf G k
  have h2 := zi6 G k
  simp only [leftK]
  omega
theorem rsum_bd {l : List Int} (G : GoodW l) : ∀ k : Nat, 0 ≤ rsum l k ∧ rsum l k + k ≤ k * sumZ l
 | 0 => by simp [rsum]
 | k + 1 => by
  have := rsum_bd G k
  have h2 := zqs G k
  simp only [rsum]
  rw [show ((k + 1 : Nat) : Int) = (k : Int) + 1 from rfl, Int.add_mul, Int.one_mul]
  omega
theorem left_sum {l : List Int} (G : GoodW l) : ∀ k, leftK l k * sumZ l + psum l k * 16384 = 16384 * sumZ l + rsum l k
 | 0 => by simp [leftK, psum, rsum]
 | k + 1 => by
  have ih := left_sum G k
  have hd : sumZ l * baseT l k + restT l k = l.getD k 0 * 16384 := Int.mul_ediv_add_emod _ _
  simp only [leftK, psum, rsum]
  rw [Int.sub_mul, Int.add_mul, Int.mul_comm (baseT l k)]
  omega
theorem left_bd {l : List Int} (G : GoodW l) : 0 ≤ leftT l ∧ leftT l < l.length := by
 have h := left_sum G l.length
 rw [← sumZ_psum G] at h
 have hr := rsum_bd G l.length
 have hs := G.sum
 have hp := G.pos
 have e : leftT l * sumZ l = rsum l l.length := by unfold leftT; omega
 constructor
 ·rcases Int.lt_or_le (leftT l) 0 with h1 | h1
  ·have : leftT l * sumZ l ≤ (-1) * sumZ l := Int.mul_le_mul_of_nonneg_right (by omega) (by omega)
   omega
  ·exact h1
 ·rcases Int.lt_or_le (leftT l) l.length with h1 | h1
  ·exact h1
  ·have : (l.length : Int) * sumZ l ≤ leftT l * sumZ l := Int.mul_le_mul_of_nonneg_right h1 (by omega)
   omega
theorem zfd (l : List Int) : (zfl l).length = l.length := by simp [zfl]
theorem tapsOf_bd {l : List Int} (G : GoodW l) : ∀ x ∈ zfl l, -67108864 ≤ x ∧ x ≤ 67108865 := by
 intro x hx
 unfold zfl at hx
 obtain ⟨i, _, rfl⟩ := List.mem_map.1 hx
 have := zi6 G i
 split <;> omega
theorem zk5 {β : Type} (g : Nat → β) (n i : Nat) (x : β) (h : i < n) : ((List.range n).map g).set i x = (List.range n).map fun j => if j = i then x else g j := by
 apply List.ext_getElem
 ·simp
 ·intro k h1 h2
  simp at h1 h2
  rw [List.getElem_set]
  simp
  by_cases hk : i = k
  ·subst hk; simp
  ·rw [if_neg hk, if_neg (Ne.symm hk)]
theorem zaw {β : Type} {g f : Nat → β} {n : Nat} (h : ∀ i, i < n → g i = f i) : (List.range n).map g = (List.range n).map f := by
 apply List.map_congr_left
 intro i hi
 exact h i (List.mem_range.1 hi)
end Go.Crisp
namespace Go.Proofs.YtdbebmafgpdfhaaGreatDoor
open Go Go.Crisp
attribute [local irreducible] FCall rowK newK stK iteK vK qK drawK gK joinK loopK mkK appK cpyK zni zla bsK clK
open _root_.Go.Proofs.Tryz
abbrev SlI (Z : Nat → Prop) (h : Heap) (v : Value) (l : List Int) : Prop := Rp.Sl (Rp.int .i64) Z h v l
theorem zku {f : Int → Int → Int} {l : List Int} {i : Nat} (h : i < l.length) (s : Int) : (l.take (i + 1)).foldl f s = f ((l.take i).foldl f s) l[i] := by
 rw [List.take_succ_eq_append_getElem h, List.foldl_append]; rfl
theorem zpW {h : Heap} {x : Int} (hx : I64 x) : FCall prog zhk #[.int .i64 x] h fun r h' => r = .int .i64 (sizeZ x) ∧ h' = h := by
 apply ok_taps_size
 unfold zmr
 refine (c_fixedMul hx (by unfold I64; omega)).mono fun v1 h1 ⟨e1, w1⟩ => ?_
 subst e1 w1
 simp only [go_sem]
 exact ⟨rfl, trivial⟩
theorem c_tapsSum {Z : Nat → Prop} {h : Heap} {v : Value} {l : List Int} (H : SlI Z h v l) (h64 : ∀ x ∈ l, I64 x) (hl : l.length < 4611686018427387904) : FCall prog zi9 #[v] h fun r h' => r = .int .i64 (sumZ l) ∧ h' = h := by
 apply ok_taps_Sum
 unfold znC
 obtain ⟨a, cap, e⟩ := H.isSl
 have e2 : zag v = some (.int .i64 (l.length : Int)) := by rw [e]; rfl
 rw [e2, zaa]
 refine zc2 (fun i => [.int .i64 ((l.take i).foldl addZ 0), .int .i64 (i : Int)]) l.length 0 rfl (Nat.zero_le _) fun i again ρj _ hi Hag => ?_
 simp only [go_sem]
 refine zab (fun h0 => ?_) (fun h0 => ?_)
 ·have hi' : i < l.length := by omega
  obtain ⟨p, e3, e4⟩ := H.int_at (k' := .i64) hi'
  simp only [go_sem, e3, e4]
  refine (zp6 (zfI zi7 _ _ zi8) (h64 _ (List.getElem_mem _))).mono fun v1 h1 ⟨e1, w1⟩ => ?_
  subst e1 w1
  rw [w64 (by omega) (by omega)]
  have := Hag hi'
  rw [zku hi'] at this
  exact this
 ·rw [List.take_of_length_le (by omega)]
  exact ⟨rfl, trivial⟩
theorem zoE {Z : Nat → Prop} {h : Heap} {v : Value} {l : List Int} (H : SlI Z h v l) (h64 : ∀ x ∈ l, I64 x) (hl : l.length < 4611686018427387904) : FCall prog zhl #[v] h fun r h' => r = .int .i64 (zfn l) ∧ h' = h := by
 apply ok_taps_Size
 unfold zmt
 obtain ⟨a, cap, e⟩ := H.isSl
 have e2 : zag v = some (.int .i64 (l.length : Int)) := by rw [e]; rfl
 rw [e2, zaa]
 refine zc2 (fun i => [.int .i64 ((l.take i).foldl (fun s x => addZ s (sizeZ x)) 0), .int .i64 (i : Int)]) l.length 0 rfl (Nat.zero_le _) fun i again ρj _ hi Hag => ?_
 simp only [go_sem]
 refine zab (fun h0 => ?_) (fun h0 => ?_)
 ·have hi' : i < l.length := by omega
  obtain ⟨p, e3, e4⟩ := H.int_at (k' := .i64) hi'
  simp only [go_sem, e3, e4]
  have hx := h64 _ (List.getElem_mem hi')
  refine (zpW hx).mono fun v1 h1 ⟨e1, w1⟩ => ?_
  subst e1 w1
  refine (zp6 (zfI (fun a b => zi7 a (sizeZ b)) _ _ zi8) (sizeZ_I64 hx)).mono fun v1 h1 ⟨e1, w1⟩ => ?_
  subst e1 w1
  try simp only [go_sem]
  rw [w64 (by omega) (by omega)]
  have := Hag hi'
  rw [zku hi'] at this
  exact this
 ·rw [List.take_of_length_le (by omega)]
  exact ⟨rfl, trivial⟩
theorem c_check1 {h : Heap} {x : Int} (hx : I64 x) : FCall prog zdO #[.int .i64 x] h fun r h' => r = .bool (decide (1099511627776 < sizeZ x)) ∧ h' = h := by
 apply zm2
 unfold zhI
 refine (zpW hx).mono fun v1 h1 ⟨e1, w1⟩ => ?_
 subst e1 w1
 simp only [go_sem]
 exact ⟨by simp, by simp⟩
section
attribute [local semireducible] clK
theorem clK_0 {f : FuncId} {a : Value} {h : Heap} {K : Value → Heap → Prop} : clK prog (.func (.func f) #[] #[]) #[a] h K = FCall prog f #[a] h K := rfl
theorem clK_2 {f : FuncId} {a b c : Value} {h : Heap} {K : Value → Heap → Prop} : clK prog (.func (.func f) #[] #[c]) #[a, b] h K = FCall prog f #[a, b, c] h K := rfl
end
theorem c_containsFn {Z : Nat → Prop} {h : Heap} {v : Value} {l : List Int} (H : SlI Z h v l) (h64 : ∀ x ∈ l, I64 x) (hl : l.length < 4611686018427387904) :
  FCall prog zaX #[v, .func (.func zdO) #[] #[]] h fun r h' => r = .bool (decide (∃ x ∈ l, 1099511627776 < sizeZ x)) ∧ h' = h := by
 apply zc1
 unfold zbw
 refine FCall.mono (K := fun r h' => (∃ n : Int, r = .int .i64 n ∧ (0 ≤ n ↔ ∃ x ∈ l, 1099511627776 < sizeZ x)) ∧ h' = h) ?_ ?_
 ·apply zdy
  unfold zbR
  obtain ⟨a, cap, e⟩ := H.isSl
  have e2 : zag v = some (.int .i64 (l.length : Int)) := by rw [e]; rfl
  rw [e2, zaa]
  refine zaD l.length 0 (fun i (_ : Unit) => [.int .i64 (i : Int)]) (fun i _ h' => h' = h ∧ ∀ x ∈ l.take i, ¬ 1099511627776 < sizeZ x) () rfl (Nat.zero_le _) ⟨rfl, by simp⟩ fun i _ h1 again ρj _ hi ⟨hh, hI⟩ Hag => ?_
  subst hh
  simp only [go_sem]
  refine zab (fun h0 => ?_) (fun h0 => ?_)
  ·have hi' : i < l.length := by omega
   obtain ⟨p, e3, e4⟩ := H.int_at (k' := .i64) hi'
   simp only [go_sem, e3, e4]
   rw [clK_0]
   refine (c_check1 (h64 _ (List.getElem_mem hi'))).mono fun v1 h2 ⟨e1, w1⟩ => ?_
   subst e1 w1
   refine zab (fun h3 => ?_) (fun h3 => ?_)
   ·exact ⟨⟨i, rfl, fun _ => ⟨_, List.getElem_mem hi', h3⟩, fun _ => by omega⟩, rfl⟩
   ·rw [w64 (by omega) (by omega)]
    refine Hag () _ hi' ⟨rfl, fun x hx => ?_⟩
    rw [List.take_succ_eq_append_getElem hi'] at hx
    rcases List.mem_append.1 hx with hx | hx
    ·exact hI x hx
    ·rw [List.mem_singleton.1 hx]; exact h3
  ·rw [List.take_of_length_le (by omega)] at hI
   exact ⟨⟨-1, rfl, fun h => by omega, fun ⟨x, hx, h3⟩ => absurd h3 (hI x hx)⟩, by first | rfl | trivial⟩
 ·rintro r h' ⟨⟨n, rfl, hn⟩, rfl⟩
  simp only [go_sem]
  refine ⟨?_, trivial⟩
  congr 1
  rw [decide_eq_decide]; exact hn
theorem c_tapsCheck {Z : Nat → Prop} {h : Heap} {v : Value} {l : List Int} (H : SlI Z h v l) (h64 : ∀ x ∈ l, I64 x) (hl : l.length < 4611686018427387904) : FCall prog ziG #[v] h fun r h' => r = .int .i64 (za0 l) ∧ h' = h := by
 apply zqC
 unfold zkB
 obtain ⟨a, cap, e⟩ := H.isSl
 have e2 : zag v = some (.int .i64 (l.length : Int)) := by rw [e]; rfl
 simp only [go_sem, e2]
 unfold za0
 refine gK_f (fun hb => ?_) (fun hb => ?_)
 ·have hb := of_decide_eq_false hb
  have e3 : decide ((l.length : Int) = 0 ∨ 1048576 < (l.length : Int)) = false := decide_eq_false hb
  simp only [go_sem, e3]
  refine (c_containsFn H h64 hl).mono fun v1 h1 ⟨e1, w1⟩ => ?_
  subst e1 w1
  simp only [go_sem]
  refine zab (fun h0 => ?_) (fun h0 => ?_)
  ·have hB : badW l := .inr (.inr h0)
   rw [if_pos hB]; exact ⟨by simp, by simp⟩
  ·have hB : ¬ badW l := by unfold badW; rintro (h2 | h2 | h2); omega; omega; exact h0 h2
   rw [if_neg hB]
   refine (c_tapsSum H h64 hl).mono fun v1 h1 ⟨e1, w1⟩ => ?_
   subst e1 w1
   simp only [go_sem]
   refine zab (fun h3 => ?_) (fun h3 => ?_)
   ·rw [if_pos h3]; exact ⟨by simp, by simp⟩
   ·rw [if_neg h3]; exact ⟨by simp, by simp⟩
 ·have hb2 := of_decide_eq_true hb
  have hB : badW l := by unfold badW; rcases hb2 with h2 | h2; exact .inl (by omega); exact .inr (.inl (by omega))
  simp only [go_sem, hb]
  rw [if_pos hB]
  exact ⟨by simp, by simp⟩
def zdg (l : List Int) : Prop := l.length % 2 = 0 ∨ 1024 < l.length ∨ zfn l < 1 ∨ 1048576 < zfn l
instance (l : List Int) : Decidable (zdg l) := by unfold zdg; infer_instance
def userC (l : List Int) : Int := if zdg l then 7 else 0
def userW (l : List Int) : List Int := if zdg l then [] else l.map fun x => zaS x 1073741824 (zfn l)
theorem zlq {α β : Type} (g : α → β) (l : List α) {k : Nat} (h : k < l.length) : (l.map g).take (k + 1) = (l.map g).take k ++ [g l[k]] := by
 rw [List.take_succ_eq_append_getElem (by simpa using h)]
 simp
theorem zmc {Z : Nat → Prop} {h : Heap} {v : Value} {l : List Int} (H : SlI Z h v l) (h64 : ∀ x ∈ l, I64 x) (hl : l.length < 4611686018427387904) :
  FCall prog zfO #[v] h fun r h' => ∃ u, r = .tuple #[u, .int .i64 (userC l)] ∧ New (Rp.int .i64) h h' u (userW l) := by
 apply ok_taps_User
 unfold zms
 refine (zoE H h64 hl).mono fun v1 h1 ⟨e1, w1⟩ => ?_
 subst e1 w1
 obtain ⟨a, cap, e⟩ := H.isSl
 have e2 : zag v = some (.int .i64 (l.length : Int)) := by rw [e]; rfl
 simp only [go_sem, e2]
 rw [za8 _ _ _ _ (by omega), zaa, Int.tmod_eq_emod_of_nonneg (by omega)]
 simp only [go_sem, e2]
 unfold userC userW
 have hs := zpv l
 refine zab (fun h0 => ?_) (fun h0 => ?_)
 ·have : zdg l := by unfold zdg; omega
  rw [if_pos this, if_pos this]
  exact ⟨_, rfl, New.nil (Ext.refl _)⟩
 ·have hn : ¬ zdg l := by unfold zdg; omega
  rw [if_neg hn, if_neg hn]
  refine zaD l.length 0 (fun k u => [u, .int .i64 (k : Int)]) (fun k u h' => New (Rp.int .i64) h1 h' u ((l.map fun x => zaS x 1073741824 (zfn l)).take k)) (.slice none 0 0) rfl (Nat.zero_le _) (New.nil (Ext.refl _)) fun k u h2 again ρj _ hk hI Hag => ?_
  simp only [go_sem]
  refine zab (fun h0 => ?_) (fun h0 => ?_)
  ·have hk' : k < l.length := by omega
   obtain ⟨p, e3, e4⟩ := (H.ext hI.2.1).int_at (k' := .i64) hk'
   simp only [go_sem, e3, e4]
   refine (ze3 (h64 _ (List.getElem_mem _)) (by unfold I64; omega) hs).mono fun v2 h3 ⟨e5, w5⟩ => ?_
   subst e5 w5
   have hlen : ((l.map fun x => zaS x 1073741824 (zfn l)).take k).length = k := by rw [List.length_take, List.length_map]; omega
   unfold zdg at hn
   refine hI.push_int rfl (by rw [hlen]; omega) (by rw [hlen]; omega) fun s' h' H' => ?_
   try rw [zbe, zaa]
   rw [w64 (by omega) (by omega)]
   have := Hag s' h' hk' (by rw [zlq _ _ hk']; exact H')
   exact this
  ·rw [List.take_of_length_le (by rw [List.length_map]; omega)] at hI
   exact ⟨u, rfl, hI⟩
theorem znA (l : List Int) : ∀ x ∈ userW l, I64 x := by
 unfold userW
 split
 ·simp
 ·intro x hx
  obtain ⟨y, _, rfl⟩ := List.mem_map.1 hx
  exact zbH _ _ _
def zej (s : Int) : Prop := s < 1 ∨ 4194304 < s
instance (s : Int) : Decidable (zej s) := by unfold zej; infer_instance
def zb6 (s : Int) : Int := (3 * s + 65535) / 65536
def zox (s : Int) : Int := if zej s then 7 else 0
def zgk (s : Int) : List Int := if zej s then [] else (List.range (2 * zb6 s + 1).toNat).map fun k : Nat => zmT ((k : Int) - zb6 s) s
theorem zpR (s : Int) : ∀ x ∈ zgk s, I64 x := by
 unfold zgk
 split
 ·simp
 ·intro x hx
  obtain ⟨y, _, rfl⟩ := List.mem_map.1 hx
  exact gaussZ_I64 _ _
theorem zp8 {h : Heap} {s : Int} (hs : I64 s) : FCall prog zdP #[.int .i64 s] h fun r h' => ∃ u, r = .tuple #[u, .int .i64 (zox s)] ∧ New (Rp.int .i64) h h' u (zgk s) := by
 apply zm3
 unfold zhJ
 simp only [go_sem]
 unfold zox zgk
 refine zab (fun h0 => ?_) (fun h0 => ?_)
 ·have : zej s := h0
  rw [if_pos this, if_pos this]
  exact ⟨_, rfl, New.nil (Ext.refl _)⟩
 ·have hn : ¬ zej s := h0
  rw [if_neg hn, if_neg hn]
  rw [w64 (n := 3 * s) (by omega) (by omega), w64 (n := 3 * s + 65536) (by omega) (by omega), w64 (n := 3 * s + 65536 - 1) (by omega) (by omega)]
  have e1 : binV .i .shr (.int .i64 (3 * s + 65536 - 1)) (.int .u64 16) = some (.int .i64 (zb6 s)) := by
   show (if (16 : Int) < 0 then none else some (Value.int .i64 ((3 * s + 65536 - 1).fdiv (2 ^ (min (16 : Int).toNat 64))))) = _
   rw [if_neg (by omega), Int.fdiv_eq_ediv_of_nonneg _ (by decide)]
   unfold zb6
   congr 2
   rw [show 3 * s + 65536 - 1 = 3 * s + 65535 by omega]; rfl
  rw [e1, zaa]
  have hr : 0 ≤ zb6 s ∧ zb6 s ≤ 193 := by unfold zb6; omega
  generalize zb6 s = q at *
  simp only [go_sem]
  rw [w64 (n := 0 - q) (by omega) (by omega)]
  obtain ⟨N, hN⟩ : ∃ N, N = (2 * q + 1).toNat := ⟨_, rfl⟩
  rw [← hN]
  refine zaD N 0 (fun k u => [u, .int .i64 ((k : Int) - q)]) (fun k u h' => New (Rp.int .i64) h h' u (((List.range N).map fun k : Nat => zmT ((k : Int) - q) s).take k)) (.slice none 0 0) rfl (Nat.zero_le _) (New.nil (Ext.refl _)) fun k u h2 again ρj _ hk hI Hag => ?_
  simp only [go_sem]
  refine zab (fun h3 => ?_) (fun h3 => ?_)
  ·have hk' : k < N := by omega
   refine (c_Gauss (by unfold I64; omega) hs).mono fun v2 h3 ⟨e5, w5⟩ => ?_
   subst e5 w5
   have hlen : (((List.range N).map fun k : Nat => zmT ((k : Int) - q) s).take k).length = k := by rw [List.length_take, List.length_map, List.length_range]; omega
   refine hI.push_int rfl (by rw [hlen]; omega) (by rw [hlen]; omega) fun s' h' H' => ?_
   try rw [zbe, zaa]
   rw [w64 (by omega) (by omega)]
   have := Hag s' h' hk' (by rw [zei _ _ _ hk']; exact H')
   rw [show ((k + 1 : Nat) : Int) - q = (k : Int) - q + 1 by omega] at this
   exact this
  ·rw [List.take_of_length_le (by rw [List.length_map, List.length_range]; omega)] at hI
   exact ⟨u, rfl, hI⟩
end Go.Proofs.YtdbebmafgpdfhaaGreatDoor
namespace Go.Crisp
section
section
variable {α : Type} {lt : α → α → Prop}
theorem zkv (tr : ∀ {a b c}, lt a b → lt b c → lt a c) {L : List α} (h : L.Pairwise lt) {x : α} {i j : Nat} (hij : i ≤ j) (hj : j < L.length) (hx : lt L[j] x) : lt (L[i]'(by omega)) x := by
 rcases Nat.lt_or_ge i j with h1 | h1
 ·exact tr (List.pairwise_iff_getElem.1 h i j (by omega) hj h1) hx
 ·have : i = j := by omega
  subst this; exact hx
theorem zkw (tr : ∀ {a b c}, lt a b → lt b c → lt a c) {L : List α} (h : L.Pairwise lt) {x : α} {i j : Nat} (hij : i ≤ j) (hj : j < L.length) (hx : lt x (L[i]'(by omega))) : lt x L[j] := by
 rcases Nat.lt_or_ge i j with h1 | h1
 ·exact tr hx (List.pairwise_iff_getElem.1 h i j (by omega) hj h1)
 ·have : i = j := by omega
  subst this; exact hx
theorem cross (tr : ∀ {a b c}, lt a b → lt b c → lt a c) {L R : List α} (hL : L.Pairwise lt) (hR : R.Pairwise lt) {i j : Nat} (hi : i ≤ L.length) (hj : j ≤ R.length)
  (h1 : ∀ (a : 0 < i) (b : j < R.length), lt (L[i - 1]'(by omega)) R[j]) (h2 : ∀ (a : 0 < j) (b : i < L.length), lt (R[j - 1]'(by omega)) L[i]) :
  ∀ x ∈ L.take i ++ R.take j, ∀ y ∈ L.drop i ++ R.drop j, lt x y := by
 intro x hx y hy
 rcases List.mem_append.1 hx with hx | hx <;> rcases List.mem_append.1 hy with hy | hy <;>
  obtain ⟨p, hp, rfl⟩ := List.mem_iff_getElem.1 hx <;> obtain ⟨q, hq, rfl⟩ := List.mem_iff_getElem.1 hy <;>
  rw [List.length_take] at hp <;> rw [List.length_drop] at hq <;> rw [List.getElem_take, List.getElem_drop]
 ·exact List.pairwise_iff_getElem.1 hL p (i + q) (by omega) (by omega) (by omega)
 ·exact zkv (lt := lt) tr (L := L) hL (i := p) (j := i - 1) (by omega) (by omega) (zkw (lt := lt) tr (x := L[i - 1]) (L := R) hR (i := j) (j := j + q) (by omega) (by omega) (h1 (by omega) (by omega)))
 ·exact zkv (lt := lt) tr (L := R) hR (i := p) (j := j - 1) (by omega) (by omega) (zkw (lt := lt) tr (x := R[j - 1]) (L := L) hL (i := i) (j := i + q) (by omega) (by omega) (h2 (by omega) (by omega)))
 ·exact List.pairwise_iff_getElem.1 hR p (j + q) (by omega) (by omega) (by omega)
theorem merged {L R S1 S2 : List α} {i j : Nat} (hc : ∀ x ∈ L.take i ++ R.take j, ∀ y ∈ L.drop i ++ R.drop j, lt x y)
  (p1 : S1.Perm (L.take i ++ R.take j)) (p2 : S2.Perm (L.drop i ++ R.drop j)) (s1 : S1.Pairwise lt) (s2 : S2.Pairwise lt) : (S1 ++ S2).Perm (L ++ R) ∧ (S1 ++ S2).Pairwise lt := by
 refine ⟨?_, List.pairwise_append.2 ⟨s1, s2, fun x hx y hy => hc x (p1.mem_iff.1 hx) y (p2.mem_iff.1 hy)⟩⟩
 refine (p1.append p2).trans ?_
 have e : (L.take i ++ R.take j ++ (L.drop i ++ R.drop j)).Perm ((L.take i ++ L.drop i) ++ (R.take j ++ R.drop j)) := by
  rw [List.append_assoc, List.append_assoc]
  refine List.Perm.append_left _ ?_
  rw [← List.append_assoc, ← List.append_assoc]
  exact List.Perm.append_right _ List.perm_append_comm
 rwa [List.take_append_drop, List.take_append_drop] at e
end
end
end Go.Crisp
namespace Go.Proofs.YtdbebmafgpdfhaaGreatDoor
open Go Go.Crisp
attribute [local irreducible] FCall rowK newK stK iteK vK qK drawK gK joinK loopK mkK appK cpyK zni zla bsK clK
open _root_.Go.Proofs.Tryz
section
abbrev iv (i : Nat) : Value := .int .i64 (i : Int)
structure CmpOK (v f : Value) (P : Heap → Prop) (r : Nat → Int) (n : Nat) : Prop where
 call : ∀ {h : Heap} {a b : Nat} {K : Value → Heap → Prop}, P h → a < n → b < n → (∀ c : Int, (c < 0 ↔ r b < r a) → K (.int .i64 c) h) → clK prog f #[iv a, iv b] h K
 fr : ∀ {h h' : Heap}, P h → Fr (blk v) h h' → P h'
structure IxRow (v : Value) (P : Heap → Prop) (n : Nat) (h : Heap) (l : List Nat) : Prop where
 own : Own 1 h v l.length (l.map iv)
 ok : P h
 small : l.length < 4611686018427387904
 below : ∀ x ∈ l, x < n
section
variable {v f : Value} {P : Heap → Prop} {r : Nat → Int} {n : Nat}
theorem IxRow.at {h : Heap} {l : List Nat} (H : IxRow v P n h l) {i : Nat} (hi : i < l.length) : ∃ p, idxV 1 v (iv i) = some p ∧ ldV h p = some (iv l[i]) := by
 obtain ⟨p, h1, h2, _⟩ := H.own.at1 (k := .i64) hi
 exact ⟨p, h1, by rw [h2, List.getElem_map]⟩
theorem IxRow.swap (C : CmpOK v f P r n) {h : Heap} {A B D : List Nat} {x y : Nat} (H : IxRow v P n h (A ++ x :: (B ++ y :: D))) {i j : Nat} (hi : i = A.length) (hj : j = A.length + 1 + B.length) :
  ∃ p q, idxV 1 v (iv i) = some p ∧ idxV 1 v (iv j) = some q ∧ ldV h p = some (iv x) ∧ ldV h q = some (iv y) ∧ ∀ K : Value → Heap → Prop,
   (∀ h', IxRow v P n h' (A ++ y :: (B ++ x :: D)) → Fr (blk v) h h' → K undef h') →
    (stK 1 p (iv y) h fun _ h2 => stK 1 q (iv x) h2 K) ∧ (stK 1 q (iv x) h fun _ h2 => stK 1 p (iv y) h2 K) := by
 subst hi hj
 have l1 : A.length < (A ++ x :: (B ++ y :: D)).length := by simp
 have l2 : A.length + 1 + B.length < (A ++ x :: (B ++ y :: D)).length := by simp; omega
 obtain ⟨p, h1, h2, h3⟩ := H.own.at1 (k := .i64) l1
 obtain ⟨q, g1, g2, g3⟩ := H.own.at1 (k := .i64) l2
 have e1 : (A ++ x :: (B ++ y :: D))[A.length] = x := by simp
 have e2 : (A ++ x :: (B ++ y :: D))[A.length + 1 + B.length] = y := by
  apply Option.some.inj
  rw [← List.getElem?_eq_getElem, List.getElem?_append_right (by omega), show A.length + 1 + B.length - A.length = B.length + 1 by omega, List.getElem?_cons_succ, List.getElem?_append_right (by omega)]
  simp
 rw [List.getElem_map, e1] at h2
 rw [List.getElem_map, e2] at g2
 have fin : ∀ h', Own 1 h' v (A ++ x :: (B ++ y :: D)).length ((A ++ y :: (B ++ x :: D)).map iv) → Fr (blk v) h h' → IxRow v P n h' (A ++ y :: (B ++ x :: D)) := fun h' o f' =>
  ⟨by rw [show (A ++ y :: (B ++ x :: D)).length = (A ++ x :: (B ++ y :: D)).length by simp]; exact o, C.fr H.ok f', by have := H.small; simpa using this, fun z hz => H.below z (by
   simp only [List.mem_append, List.mem_cons] at hz ⊢
   rcases hz with h | h | h | h | h <;> simp [h])⟩
 have s1 : ((A ++ x :: (B ++ y :: D)).map iv).set A.length (iv y) = (A ++ y :: (B ++ y :: D)).map iv := by simp
 have s2 : ((A ++ y :: (B ++ y :: D)).map iv).set (A.length + 1 + B.length) (iv x) = (A ++ y :: (B ++ x :: D)).map iv := by
  rw [← List.map_set]
  congr 1
  rw [List.set_append_right _ _ (by omega), show A.length + 1 + B.length - A.length = B.length + 1 by omega, List.set_cons_succ, List.set_append_right _ _ (by omega)]
  simp
 have s3 : ((A ++ x :: (B ++ y :: D)).map iv).set (A.length + 1 + B.length) (iv x) = (A ++ x :: (B ++ x :: D)).map iv := by
  rw [← List.map_set]
  congr 1
  rw [List.set_append_right _ _ (by omega), show A.length + 1 + B.length - A.length = B.length + 1 by omega, List.set_cons_succ, List.set_append_right _ _ (by omega)]
  simp
 have s4 : ((A ++ x :: (B ++ x :: D)).map iv).set A.length (iv y) = (A ++ y :: (B ++ x :: D)).map iv := by simp
 refine ⟨p, q, h1, g1, h2, g2, fun K HK => ⟨?_, ?_⟩⟩
 ·refine h3 _ _ rfl fun h2 o2 f2 z2 => ?_
  rw [s1] at o2
  obtain ⟨q', g1', _, g3'⟩ := o2.at1 (k := .i64) l2
  rw [g1] at g1'
  cases g1'
  refine g3' _ _ rfl fun h3 o3 f3 z3 => ?_
  rw [s2] at o3
  exact HK h3 (fin h3 o3 (f2.trans f3)) (f2.trans f3)
 ·refine g3 _ _ rfl fun h2 o2 f2 z2 => ?_
  rw [s3] at o2
  obtain ⟨p', h1', _, h3'⟩ := o2.at1 (k := .i64) l1
  rw [h1] at h1'
  cases h1'
  refine h3' _ _ rfl fun h3 o3 f3 z3 => ?_
  rw [s4] at o3
  exact HK h3 (fin h3 o3 (f2.trans f3)) (f2.trans f3)
theorem zha (a b : Nat) (h : a + b ≤ 9223372036854775807) : IntKind.i64.wrap ((a : Int) + (b : Int)) = ((a + b : Nat) : Int) := by rw [w64 (by omega) (by omega)]; omega
theorem zd6 (a b : Nat) (h : b ≤ a) (h2 : a ≤ 9223372036854775807) : IntKind.i64.wrap ((a : Int) - (b : Int)) = ((a - b : Nat) : Int) := by rw [w64 (by omega) (by omega)]; omega
theorem zgh (a : Nat) (h : a + 1 ≤ 9223372036854775807) : IntKind.i64.wrap ((a : Int) + 1) = ((a + 1 : Nat) : Int) := by rw [w64 (by omega) (by omega)]; omega
theorem znj (a : Nat) (h : 1 ≤ a) (h2 : a ≤ 9223372036854775807) : IntKind.i64.wrap ((a : Int) - 1) = ((a - 1 : Nat) : Int) := by rw [w64 (by omega) (by omega)]; omega
theorem zkb (C : CmpOK v f P r n) {h : Heap} {A U M V D : List Nat} (H : IxRow v P n h (A ++ U ++ M ++ V ++ D)) {a b k : Nat} (ha : a = A.length) (hb : b = A.length + U.length + M.length) (hU : U.length = k) (hV : V.length = k) :
  FCall prog zaK #[v, iv a, iv b, iv k, f] h fun _ h' => IxRow v P n h' (A ++ V ++ M ++ U ++ D) ∧ Fr (blk v) h h' := by
 apply zey
 unfold zci
 have hsm := H.small
 simp only [List.length_append] at hsm
 refine zaD k 0 (fun i (_ : Unit) => [iv i]) (fun i _ h' => IxRow v P n h' (A ++ V.take i ++ (U.drop i ++ M ++ U.take i ++ (V.drop i ++ D))) ∧ Fr (blk v) h h') () rfl (Nat.zero_le _) ⟨by simpa using H, Fr.refl _ _⟩ fun i _ h1 again ρj _ hi ⟨H1, F1⟩ Hag => ?_
 try simp only [go_sem]
 refine zab (fun h0 => ?_) (fun h0 => ?_)
 ·have hi' : i < k := by omega
  have dU : U.drop i = U[i] :: U.drop (i + 1) := List.drop_eq_getElem_cons (by omega)
  have dV : V.drop i = V[i] :: V.drop (i + 1) := List.drop_eq_getElem_cons (by omega)
  have tU : U.take (i + 1) = U.take i ++ [U[i]] := List.take_succ_eq_append_getElem (by omega)
  have tV : V.take (i + 1) = V.take i ++ [V[i]] := List.take_succ_eq_append_getElem (by omega)
  have H2 : IxRow v P n h1 ((A ++ V.take i) ++ U[i] :: ((U.drop (i + 1) ++ M ++ U.take i) ++ V[i] :: (V.drop (i + 1) ++ D))) := by
   rw [dU, dV] at H1
   simpa only [List.append_assoc, List.cons_append, List.nil_append] using H1
  obtain ⟨p, q, e1, e2, e3, e4, st⟩ := H2.swap C (i := a + i) (j := b + i) (by rw [List.length_append, List.length_take]; omega) (by simp only [List.length_append, List.length_take, List.length_drop]; omega)
  refine zan (fun h' => h' = h1) rfl ?_
  rw [zha a i (by omega), zha b i (by omega)]
  simp only [go_sem, e1, e2]
  refine zaf (iv V[i]) (fun h' e => by rw [e]; exact e4) ?_
  refine zaf (iv U[i]) (fun h' e => by rw [e]; exact e3) ?_
  refine (st _ fun h3 H3 F3 => ?_).1
  rw [zgh i (by omega)]
  refine Hag () h3 hi' ⟨?_, F1.trans F3⟩
  rw [tU, tV]
  simpa only [List.append_assoc, List.cons_append, List.nil_append] using H3
 ·have : i = k := by omega
  subst this
  rw [List.take_of_length_le (by omega), List.take_of_length_le (by omega), List.drop_eq_nil_of_le (by omega), List.drop_eq_nil_of_le (by omega)] at H1
  exact ⟨by simpa using H1, F1⟩
theorem c_rotate (C : CmpOK v f P r n) {h : Heap} {A U V D : List Nat} (H : IxRow v P n h (A ++ U ++ V ++ D)) {a m b : Nat} (ha : a = A.length) (hm : m = A.length + U.length) (hb : b = A.length + U.length + V.length) (hU : 0 < U.length) (hV : 0 < V.length) :
  FCall prog zbT #[v, iv a, iv m, iv b, f] h fun _ h' => IxRow v P n h' (A ++ V ++ U ++ D) ∧ Fr (blk v) h h' := by
 apply zfA
 unfold zcB
 have hsm := H.small
 simp only [List.length_append] at hsm
 simp only [zco, zaa]
 rw [zd6 m a (by omega) (by omega), zd6 b m (by omega) (by omega)]
 refine zbl (fun d xs h' => ∃ (P1 U1 V1 Q1 : List Nat), d = U1.length + V1.length ∧ xs = [iv U1.length, iv V1.length] ∧ 0 < U1.length ∧ 0 < V1.length ∧ IxRow v P n h' (P1 ++ U1 ++ V1 ++ Q1) ∧ Fr (blk v) h h' ∧ m = P1.length + U1.length ∧ P1 ++ V1 ++ U1 ++ Q1 = A ++ V ++ U ++ D)
  (U.length + V.length) ⟨A, U, V, D, rfl, by rw [show m - a = U.length by omega, show b - m = V.length by omega], hU, hV, H, Fr.refl _ _, hm, rfl⟩ ?_
 rintro d xs ρj h1 again ⟨P1, U1, V1, Q1, rfl, rfl, u0, v0, H1, F1, hm1, hg⟩ Hag
 have hsm1 := H1.small
 simp only [List.length_append] at hsm1
 simp only [ix_0, ix_1, znv, zaa]
 by_cases hne : U1.length = V1.length
 ·have e : ((U1.length : Int) = (V1.length : Int)) = True := eq_true (by omega)
  simp only [go_sem, e]
  rw [zd6 m U1.length (by omega) (by omega)]
  refine (zkb C (A := P1) (U := U1) (M := []) (V := V1) (D := Q1) (k := U1.length) (by simpa using H1) (by omega) (by simp; omega) rfl hne.symm).mono fun w h2 ⟨H2, F2⟩ => ?_
  refine ⟨?_, F1.trans F2⟩
  rw [← hg]
  simpa using H2
 ·have e : ((U1.length : Int) = (V1.length : Int)) = False := eq_false (by omega)
  simp only [go_sem, e]
  refine zab (fun h0 => ?_) (fun h0 => ?_)
  ·rw [zd6 m U1.length (by omega) (by omega)]
   have hsp : U1 = U1.take V1.length ++ U1.drop V1.length := (List.take_append_drop _ _).symm
   have l1 : (U1.take V1.length).length = V1.length := by rw [List.length_take]; omega
   have l2 : (U1.drop V1.length).length = U1.length - V1.length := by rw [List.length_drop]
   refine (zkb C (A := P1) (U := U1.take V1.length) (M := U1.drop V1.length) (V := V1) (D := Q1) (k := V1.length) (by rw [List.append_assoc P1, ← hsp]; exact H1) (by omega) (by omega) l1 rfl).mono fun w h2 ⟨H2, F2⟩ => ?_
   try simp only [go_sem]
   rw [zd6 U1.length V1.length (by omega) (by omega)]
   refine Hag _ _ (U1.length - V1.length + V1.length) (by omega) ⟨P1 ++ V1, U1.drop V1.length, U1.take V1.length, Q1, by rw [l1, l2], by rw [l1, l2], by omega, by omega, by simpa using H2, F1.trans F2, by rw [List.length_append]; omega, ?_⟩
   rw [← hg]
   simp only [List.append_assoc]
   rw [← List.append_assoc (U1.take _), ← hsp]
  ·rw [zd6 m U1.length (by omega) (by omega), zha m V1.length (by omega), zd6 (m + V1.length) U1.length (by omega) (by omega)]
   have hsp : V1 = V1.take (V1.length - U1.length) ++ V1.drop (V1.length - U1.length) := (List.take_append_drop _ _).symm
   have l1 : (V1.take (V1.length - U1.length)).length = V1.length - U1.length := by rw [List.length_take]; omega
   have l2 : (V1.drop (V1.length - U1.length)).length = U1.length := by rw [List.length_drop]; omega
   refine (zkb C (A := P1) (U := U1) (M := V1.take (V1.length - U1.length)) (V := V1.drop (V1.length - U1.length)) (D := Q1) (k := U1.length) (by
    have e : P1 ++ U1 ++ V1.take (V1.length - U1.length) ++ V1.drop (V1.length - U1.length) ++ Q1 = P1 ++ U1 ++ V1 ++ Q1 := by
     conv => rhs; rw [hsp]
     simp only [List.append_assoc]
    rw [e]; exact H1) (by omega) (by omega) rfl l2).mono fun w h2 ⟨H2, F2⟩ => ?_
   try simp only [go_sem]
   rw [zd6 V1.length U1.length (by omega) (by omega)]
   refine Hag _ _ (U1.length + (V1.length - U1.length)) (by omega) ⟨P1, V1.drop (V1.length - U1.length), V1.take (V1.length - U1.length), U1 ++ Q1, by rw [l1, l2], by rw [l1, l2], by omega, by omega, by simpa using H2, F1.trans F2, by omega, ?_⟩
   rw [← hg]
   simp only [List.append_assoc]
   rw [← List.append_assoc (V1.take _), ← hsp]
end
end
end Go.Proofs.YtdbebmafgpdfhaaGreatDoor
