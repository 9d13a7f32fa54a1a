/- What the functions of the program do, read over the heap alone, each tied to the model (written by a program of this session, shal.py). Conditions: none. -/
import Derived.Test.YtmmcgbilnnaggaaSh0
set_option linter.unusedVariables false
set_option maxRecDepth 100000
namespace Go.Proofs.Ytmmcgbilnnaggaa
open Go Go.Crisp
/-! ### cmp.Less[int]: function 90 -/
def sh_cmp_Less_int (a0 a1 : Value) (h : Heap) (R : Value → Heap → Prop) : Prop :=
 FCall Try.prog F_cmp_isNaN_int #[a0] h fun v1 h2 =>
 vK (gV v1 true (some a1)) fun v3 =>
 gK v1 true (fun k12 => FCall Try.prog F_cmp_isNaN_int #[v3] h2 k12) h2 fun v4 h5 =>
 vK (gV v1 true (unV .not v4)) fun v6 =>
 vK (pickV v1 v6 (.bool false)) fun v7 =>
 vK (gV v7 false (some a0)) fun v8 =>
 vK (gV v7 false (some a1)) fun v9 =>
 vK (gV v7 false (binV .i .lss v8 v9)) fun v10 =>
 vK (pickV v7 (.bool true) v10) fun v11 =>
 R v11 h5
noncomputable def an_cmp_Less_int : Ann := (.s .z (.s .z .z))
theorem oc_cmp_Less_int : okCode Try.f90.ntmps ((Try.f90.body).getD .skip) an_cmp_Less_int = true := by kernel_rfl
theorem eq_cmp_Less_int (a0 a1 : Value) (h : Heap) (R : Value → Heap → Prop) : sh_cmp_Less_int a0 a1 h R = cFunc Try.prog ((Try.f90.body).getD .skip) an_cmp_Less_int Try.f90.results.toList #[a0, a1].toList h R := by kernel_rfl
theorem ok_cmp_Less_int {a0 a1 : Value} {h : Heap} {R : Value → Heap → Prop} (H : sh_cmp_Less_int a0 a1 h R) : FCall Try.prog F_cmp_Less_int #[a0, a1] h R :=
  fcall_of (by kernel_rfl) (fn := Try.f90) (c := (Try.f90.body).getD .skip) (an := an_cmp_Less_int) (by kernel_rfl) (by kernel_rfl) (by kernel_rfl) oc_cmp_Less_int (by kernel_rfl) (Eq.mp (eq_cmp_Less_int a0 a1 h R) H)

/-! ### slices.partitionEqualOrdered[int]: function 91 -/
def sh_slices_partitionEqualOrdered_int (a0 a1 a2 a3 : Value) (h : Heap) (R : Value → Heap → Prop) : Prop :=
 drawK h fun S =>
 vK (idxV 1 a0 a3) fun v1 =>
 qK S (fun h => ldV h v1) fun v2 =>
 vK (idxV 1 a0 a1) fun v3 =>
 qK S (fun h => ldV h v3) fun v4 =>
 vK (idxV 1 a0 a1) fun v5 =>
 stK 1 v5 v2 h fun v6 h7 =>
 S h7 ∧ (vK (idxV 1 a0 a3) fun v8 =>
 stK 1 v8 v4 h7 fun v9 h10 =>
 vK (binV .i .add a1 (.int .i64 1)) fun v11 =>
 vK (binV .i .sub a2 (.int .i64 1)) fun v12 =>
 loopK [v11, v12] h10 fun x13 j14 h15 again16 =>
 loopK [(ix x13 0)] h15 fun x17 j18 h19 again20 =>
 drawK h19 fun S =>
 vK (binV .i .leq (ix x17 0) (ix x13 1)) fun v21 =>
 vK (gV v21 true (some a0)) fun v22 =>
 vK (gV v21 true (some a1)) fun v23 =>
 vK (gV v21 true (idxV 1 v22 v23)) fun v24 =>
 qK S (fun h19 => gV v21 true (ldV h19 v24)) fun v25 =>
 vK (gV v21 true (some a0)) fun v26 =>
 vK (gV v21 true (some (ix x17 0))) fun v27 =>
 vK (gV v21 true (idxV 1 v26 v27)) fun v28 =>
 qK S (fun h19 => gV v21 true (ldV h19 v28)) fun v29 =>
 gK v21 true (fun k66 => FCall Try.prog F_cmp_Less_int #[v25, v29] h19 k66) h19 fun v30 h31 =>
 vK (gV v21 true (unV .not v30)) fun v32 =>
 vK (pickV v21 v32 (.bool false)) fun v33 =>
 iteK v33 (
 vK (binV .i .add (ix x17 0) (.int .i64 1)) fun v34 =>
 again20 [v34] h31) (
 loopK [(ix x13 1)] h31 fun x35 j36 h37 again38 =>
 drawK h37 fun S =>
 vK (binV .i .leq (ix x17 0) (ix x35 0)) fun v39 =>
 vK (gV v39 true (some a0)) fun v40 =>
 vK (gV v39 true (some a1)) fun v41 =>
 vK (gV v39 true (idxV 1 v40 v41)) fun v42 =>
 qK S (fun h37 => gV v39 true (ldV h37 v42)) fun v43 =>
 vK (gV v39 true (some a0)) fun v44 =>
 vK (gV v39 true (some (ix x35 0))) fun v45 =>
 vK (gV v39 true (idxV 1 v44 v45)) fun v46 =>
 qK S (fun h37 => gV v39 true (ldV h37 v46)) fun v47 =>
 gK v39 true (fun k65 => FCall Try.prog F_cmp_Less_int #[v43, v47] h37 k65) h37 fun v48 h49 =>
 vK (pickV v39 v48 (.bool false)) fun v50 =>
 iteK v50 (
 vK (binV .i .sub (ix x35 0) (.int .i64 1)) fun v51 =>
 again38 [v51] h49) (
 vK (binV .i .gtr (ix x17 0) (ix x35 0)) fun v52 =>
 iteK v52 (
 R (ix x17 0) h49) (
 drawK h49 fun S =>
 vK (idxV 1 a0 (ix x35 0)) fun v53 =>
 qK S (fun h49 => ldV h49 v53) fun v54 =>
 vK (idxV 1 a0 (ix x17 0)) fun v55 =>
 qK S (fun h49 => ldV h49 v55) fun v56 =>
 vK (idxV 1 a0 (ix x17 0)) fun v57 =>
 stK 1 v57 v54 h49 fun v58 h59 =>
 S h59 ∧ (vK (idxV 1 a0 (ix x35 0)) fun v60 =>
 stK 1 v60 v56 h59 fun v61 h62 =>
 vK (binV .i .add (ix x17 0) (.int .i64 1)) fun v63 =>
 vK (binV .i .sub (ix x35 0) (.int .i64 1)) fun v64 =>
 again16 [v63, v64] h62)))))
noncomputable def an_slices_partitionEqualOrdered_int : Ann := (.s .z (.s (.d [(0, .r), (1, .r), (2, .r), (3, .r), (4, .r), (5, .r), (6, .r), (7, .r), (8, .r), (9, .r), (10, .r), (11, .r), (12, .r), (13, .e), (14, .r), (15, .n)]) (.s .z (.s (.l 9671406556917032860780032 [9, 10] (.s (.l 70368207307264 [9] (.s (.s (.d [(0, .r), (1, .r), (2, .r), (3, .r), (4, .r), (5, .r), (6, .r), (7, .r), (8, .r), (9, .r), (10, .r), (11, .r), (12, .n), (13, .r), (14, .r)]) (.s .z .z)) .z)) (.s (.l 4611615649683211264 [10] (.s (.s (.d [(0, .r), (1, .r), (2, .r), (3, .r), (4, .r), (5, .r), (6, .r), (7, .r), (8, .r), (9, .r), (10, .r), (11, .r), (12, .n), (13, .r)]) (.s .z .z)) .z)) (.s (.s .z (.s .z .z)) (.s (.d [(0, .r), (1, .r), (2, .r), (3, .r), (4, .r), (5, .r), (6, .r), (7, .r), (8, .r), (9, .r), (10, .r), (11, .r), (12, .r), (13, .e), (14, .r), (15, .n)]) (.s .z .z)))))) (.s .z .z)))))
theorem oc_slices_partitionEqualOrdered_int : okCode Try.f91.ntmps ((Try.f91.body).getD .skip) an_slices_partitionEqualOrdered_int = true := by kernel_rfl
theorem eq_slices_partitionEqualOrdered_int (a0 a1 a2 a3 : Value) (h : Heap) (R : Value → Heap → Prop) : sh_slices_partitionEqualOrdered_int a0 a1 a2 a3 h R = cFunc Try.prog ((Try.f91.body).getD .skip) an_slices_partitionEqualOrdered_int Try.f91.results.toList #[a0, a1, a2, a3].toList h R := by kernel_rfl
theorem ok_slices_partitionEqualOrdered_int {a0 a1 a2 a3 : Value} {h : Heap} {R : Value → Heap → Prop} (H : sh_slices_partitionEqualOrdered_int a0 a1 a2 a3 h R) : FCall Try.prog F_slices_partitionEqualOrdered_int #[a0, a1, a2, a3] h R :=
  fcall_of (by kernel_rfl) (fn := Try.f91) (c := (Try.f91.body).getD .skip) (an := an_slices_partitionEqualOrdered_int) (by kernel_rfl) (by kernel_rfl) (by kernel_rfl) oc_slices_partitionEqualOrdered_int (by kernel_rfl) (Eq.mp (eq_slices_partitionEqualOrdered_int a0 a1 a2 a3 h R) H)

/-! ### slices.partitionOrdered[int]: function 92 -/
def sh_slices_partitionOrdered_int (a0 a1 a2 a3 : Value) (h : Heap) (R : Value → Heap → Prop) : Prop :=
 drawK h fun S =>
 vK (idxV 1 a0 a3) fun v1 =>
 qK S (fun h => ldV h v1) fun v2 =>
 vK (idxV 1 a0 a1) fun v3 =>
 qK S (fun h => ldV h v3) fun v4 =>
 vK (idxV 1 a0 a1) fun v5 =>
 stK 1 v5 v2 h fun v6 h7 =>
 S h7 ∧ (vK (idxV 1 a0 a3) fun v8 =>
 stK 1 v8 v4 h7 fun v9 h10 =>
 vK (binV .i .add a1 (.int .i64 1)) fun v11 =>
 vK (binV .i .sub a2 (.int .i64 1)) fun v12 =>
 loopK [v11] h10 fun x13 j14 h15 again16 =>
 drawK h15 fun S =>
 vK (binV .i .leq (ix x13 0) v12) fun v17 =>
 vK (gV v17 true (some a0)) fun v18 =>
 vK (gV v17 true (some (ix x13 0))) fun v19 =>
 vK (gV v17 true (idxV 1 v18 v19)) fun v20 =>
 qK S (fun h15 => gV v17 true (ldV h15 v20)) fun v21 =>
 vK (gV v17 true (some a0)) fun v22 =>
 vK (gV v17 true (some a1)) fun v23 =>
 vK (gV v17 true (idxV 1 v22 v23)) fun v24 =>
 qK S (fun h15 => gV v17 true (ldV h15 v24)) fun v25 =>
 gK v17 true (fun k136 => FCall Try.prog F_cmp_Less_int #[v21, v25] h15 k136) h15 fun v26 h27 =>
 vK (pickV v17 v26 (.bool false)) fun v28 =>
 iteK v28 (
 vK (binV .i .add (ix x13 0) (.int .i64 1)) fun v29 =>
 again16 [v29] h27) (
 loopK [v12] h27 fun x30 j31 h32 again33 =>
 drawK h32 fun S =>
 vK (binV .i .leq (ix x13 0) (ix x30 0)) fun v34 =>
 vK (gV v34 true (some a0)) fun v35 =>
 vK (gV v34 true (some (ix x30 0))) fun v36 =>
 vK (gV v34 true (idxV 1 v35 v36)) fun v37 =>
 qK S (fun h32 => gV v34 true (ldV h32 v37)) fun v38 =>
 vK (gV v34 true (some a0)) fun v39 =>
 vK (gV v34 true (some a1)) fun v40 =>
 vK (gV v34 true (idxV 1 v39 v40)) fun v41 =>
 qK S (fun h32 => gV v34 true (ldV h32 v41)) fun v42 =>
 gK v34 true (fun k135 => FCall Try.prog F_cmp_Less_int #[v38, v42] h32 k135) h32 fun v43 h44 =>
 vK (gV v34 true (unV .not v43)) fun v45 =>
 vK (pickV v34 v45 (.bool false)) fun v46 =>
 iteK v46 (
 vK (binV .i .sub (ix x30 0) (.int .i64 1)) fun v47 =>
 again33 [v47] h44) (
 vK (binV .i .gtr (ix x13 0) (ix x30 0)) fun v48 =>
 iteK v48 (
 drawK h44 fun S =>
 vK (idxV 1 a0 a1) fun v49 =>
 qK S (fun h44 => ldV h44 v49) fun v50 =>
 vK (idxV 1 a0 (ix x30 0)) fun v51 =>
 qK S (fun h44 => ldV h44 v51) fun v52 =>
 vK (idxV 1 a0 (ix x30 0)) fun v53 =>
 stK 1 v53 v50 h44 fun v54 h55 =>
 S h55 ∧ (vK (idxV 1 a0 a1) fun v56 =>
 stK 1 v56 v52 h55 fun v57 h58 =>
 R (.tuple #[(ix x30 0), (.bool true)]) h58)) (
 drawK h44 fun S =>
 vK (idxV 1 a0 (ix x30 0)) fun v59 =>
 qK S (fun h44 => ldV h44 v59) fun v60 =>
 vK (idxV 1 a0 (ix x13 0)) fun v61 =>
 qK S (fun h44 => ldV h44 v61) fun v62 =>
 vK (idxV 1 a0 (ix x13 0)) fun v63 =>
 stK 1 v63 v60 h44 fun v64 h65 =>
 S h65 ∧ (vK (idxV 1 a0 (ix x30 0)) fun v66 =>
 stK 1 v66 v62 h65 fun v67 h68 =>
 vK (binV .i .add (ix x13 0) (.int .i64 1)) fun v69 =>
 vK (binV .i .sub (ix x30 0) (.int .i64 1)) fun v70 =>
 loopK [v69, v70] h68 fun x71 j72 h73 again74 =>
 loopK [(ix x71 0)] h73 fun x75 j76 h77 again78 =>
 drawK h77 fun S =>
 vK (binV .i .leq (ix x75 0) (ix x71 1)) fun v79 =>
 vK (gV v79 true (some a0)) fun v80 =>
 vK (gV v79 true (some (ix x75 0))) fun v81 =>
 vK (gV v79 true (idxV 1 v80 v81)) fun v82 =>
 qK S (fun h77 => gV v79 true (ldV h77 v82)) fun v83 =>
 vK (gV v79 true (some a0)) fun v84 =>
 vK (gV v79 true (some a1)) fun v85 =>
 vK (gV v79 true (idxV 1 v84 v85)) fun v86 =>
 qK S (fun h77 => gV v79 true (ldV h77 v86)) fun v87 =>
 gK v79 true (fun k134 => FCall Try.prog F_cmp_Less_int #[v83, v87] h77 k134) h77 fun v88 h89 =>
 vK (pickV v79 v88 (.bool false)) fun v90 =>
 iteK v90 (
 vK (binV .i .add (ix x75 0) (.int .i64 1)) fun v91 =>
 again78 [v91] h89) (
 loopK [(ix x71 1)] h89 fun x92 j93 h94 again95 =>
 drawK h94 fun S =>
 vK (binV .i .leq (ix x75 0) (ix x92 0)) fun v96 =>
 vK (gV v96 true (some a0)) fun v97 =>
 vK (gV v96 true (some (ix x92 0))) fun v98 =>
 vK (gV v96 true (idxV 1 v97 v98)) fun v99 =>
 qK S (fun h94 => gV v96 true (ldV h94 v99)) fun v100 =>
 vK (gV v96 true (some a0)) fun v101 =>
 vK (gV v96 true (some a1)) fun v102 =>
 vK (gV v96 true (idxV 1 v101 v102)) fun v103 =>
 qK S (fun h94 => gV v96 true (ldV h94 v103)) fun v104 =>
 gK v96 true (fun k133 => FCall Try.prog F_cmp_Less_int #[v100, v104] h94 k133) h94 fun v105 h106 =>
 vK (gV v96 true (unV .not v105)) fun v107 =>
 vK (pickV v96 v107 (.bool false)) fun v108 =>
 iteK v108 (
 vK (binV .i .sub (ix x92 0) (.int .i64 1)) fun v109 =>
 again95 [v109] h106) (
 vK (binV .i .gtr (ix x75 0) (ix x92 0)) fun v110 =>
 iteK v110 (
 drawK h106 fun S =>
 vK (idxV 1 a0 a1) fun v111 =>
 qK S (fun h106 => ldV h106 v111) fun v112 =>
 vK (idxV 1 a0 (ix x92 0)) fun v113 =>
 qK S (fun h106 => ldV h106 v113) fun v114 =>
 vK (idxV 1 a0 (ix x92 0)) fun v115 =>
 stK 1 v115 v112 h106 fun v116 h117 =>
 S h117 ∧ (vK (idxV 1 a0 a1) fun v118 =>
 stK 1 v118 v114 h117 fun v119 h120 =>
 R (.tuple #[(ix x92 0), (.bool false)]) h120)) (
 drawK h106 fun S =>
 vK (idxV 1 a0 (ix x92 0)) fun v121 =>
 qK S (fun h106 => ldV h106 v121) fun v122 =>
 vK (idxV 1 a0 (ix x75 0)) fun v123 =>
 qK S (fun h106 => ldV h106 v123) fun v124 =>
 vK (idxV 1 a0 (ix x75 0)) fun v125 =>
 stK 1 v125 v122 h106 fun v126 h127 =>
 S h127 ∧ (vK (idxV 1 a0 (ix x92 0)) fun v128 =>
 stK 1 v128 v124 h127 fun v129 h130 =>
 vK (binV .i .add (ix x75 0) (.int .i64 1)) fun v131 =>
 vK (binV .i .sub (ix x92 0) (.int .i64 1)) fun v132 =>
 again74 [v131, v132] h130)))))))))
noncomputable def an_slices_partitionOrdered_int : Ann := (.s .z (.s (.d [(0, .r), (1, .r), (2, .r), (3, .r), (4, .r), (5, .r), (6, .r), (7, .r), (8, .r), (9, .r), (10, .r), (11, .r), (12, .r), (13, .e), (14, .r), (15, .n)]) (.s .z (.s (.l 70367670436864 [10] (.s (.s (.d [(0, .r), (1, .r), (2, .r), (3, .r), (4, .r), (5, .r), (6, .r), (7, .r), (8, .r), (9, .r), (10, .r), (11, .r), (12, .n), (13, .r)]) (.s .z .z)) .z)) (.s (.l 9223301668110600192 [11] (.s (.s (.d [(0, .r), (1, .r), (2, .r), (3, .r), (4, .r), (5, .r), (6, .r), (7, .r), (8, .r), (9, .r), (10, .r), (11, .r), (12, .n), (13, .r), (14, .r)]) (.s .z .z)) .z)) (.s (.s .z (.s (.s (.d [(0, .r), (1, .r), (2, .r), (3, .r), (4, .r), (5, .r), (6, .r), (7, .r), (8, .r), (9, .r), (10, .r), (11, .r), (12, .r), (13, .e), (14, .r), (15, .n)]) (.s .z .z)) .z)) (.s (.d [(0, .r), (1, .r), (2, .r), (3, .r), (4, .r), (5, .r), (6, .r), (7, .r), (8, .r), (9, .r), (10, .r), (11, .r), (12, .r), (13, .e), (14, .r), (15, .n)]) (.s .z (.s .z (.s (.l 11417981541647678414640987641481260342710373376 [10, 11] (.s (.l 41537741042978506913543222282159104 [10] (.s (.s (.d [(0, .r), (1, .r), (2, .r), (3, .r), (4, .r), (5, .r), (6, .r), (7, .r), (8, .r), (9, .r), (10, .r), (11, .r), (12, .n), (13, .r)]) (.s .z .z)) .z)) (.s (.l 5444476332360147136792965474937657624576 [11] (.s (.s (.d [(0, .r), (1, .r), (2, .r), (3, .r), (4, .r), (5, .r), (6, .r), (7, .r), (8, .r), (9, .r), (10, .r), (11, .r), (12, .n), (13, .r), (14, .r)]) (.s .z .z)) .z)) (.s (.s .z (.s .z .z)) (.s (.d [(0, .r), (1, .r), (2, .r), (3, .r), (4, .r), (5, .r), (6, .r), (7, .r), (8, .r), (9, .r), (10, .r), (11, .r), (12, .r), (13, .e), (14, .r), (15, .n)]) (.s .z .z)))))) (.s (.d [(0, .r), (1, .r), (2, .r), (3, .r), (4, .r), (5, .r), (6, .r), (7, .r), (8, .r), (9, .r), (10, .r), (11, .r), (12, .r), (13, .e), (14, .r), (15, .n)]) (.s .z .z))))))))))))
theorem oc_slices_partitionOrdered_int : okCode Try.f92.ntmps ((Try.f92.body).getD .skip) an_slices_partitionOrdered_int = true := by kernel_rfl
theorem eq_slices_partitionOrdered_int (a0 a1 a2 a3 : Value) (h : Heap) (R : Value → Heap → Prop) : sh_slices_partitionOrdered_int a0 a1 a2 a3 h R = cFunc Try.prog ((Try.f92.body).getD .skip) an_slices_partitionOrdered_int Try.f92.results.toList #[a0, a1, a2, a3].toList h R := by kernel_rfl
theorem ok_slices_partitionOrdered_int {a0 a1 a2 a3 : Value} {h : Heap} {R : Value → Heap → Prop} (H : sh_slices_partitionOrdered_int a0 a1 a2 a3 h R) : FCall Try.prog F_slices_partitionOrdered_int #[a0, a1, a2, a3] h R :=
  fcall_of (by kernel_rfl) (fn := Try.f92) (c := (Try.f92.body).getD .skip) (an := an_slices_partitionOrdered_int) (by kernel_rfl) (by kernel_rfl) (by kernel_rfl) oc_slices_partitionOrdered_int (by kernel_rfl) (Eq.mp (eq_slices_partitionOrdered_int a0 a1 a2 a3 h R) H)

/-! ### math|bits.Len32: function 93 -/
def sh_math_bits_Len32 (a0 : Value) (h : Heap) (R : Value → Heap → Prop) : Prop :=
 joinK (fun J1 =>
 vK (binV .i .geq a0 (.int .u32 65536)) fun v5 =>
 iteK v5 (
 vK (binV .i .shr a0 (.int .u64 16)) fun v6 =>
 J1 [v6, (.int .i64 16)] h) (
 J1 [a0, (.int .i64 0)] h))
 fun x2 j3 h4 =>
 vK (binV .i .geq (ix x2 0) (.int .u32 256)) fun v7 =>
 iteK v7 (
 vK (binV .i .shr (ix x2 0) (.int .u64 8)) fun v8 =>
 vK (binV .i .add (ix x2 1) (.int .i64 8)) fun v9 =>
 vK (cviV .u8 v8) fun v10 =>
 vK (indV (.string ⟨#[0, 1, 2, 2, 3, 3, 3, 3, 4, 4, 4, 4, 4, 4, 4, 4, 5, 5, 5, 5, 5, 5, 5, 5, 5, 5, 5, 5, 5, 5, 5, 5, 6, 6, 6, 6, 6, 6, 6, 6, 6, 6, 6, 6, 6, 6, 6, 6, 6, 6, 6, 6, 6, 6, 6, 6, 6, 6, 6, 6, 6, 6, 6, 6, 7, 7, 7, 7, 7, 7, 7, 7, 7, 7, 7, 7, 7, 7, 7, 7, 7, 7, 7, 7, 7, 7, 7, 7, 7, 7, 7, 7, 7, 7, 7, 7, 7, 7, 7, 7, 7, 7, 7, 7, 7, 7, 7, 7, 7, 7, 7, 7, 7, 7, 7, 7, 7, 7, 7, 7, 7, 7, 7, 7, 7, 7, 7, 7, 8, 8, 8, 8, 8, 8, 8, 8, 8, 8, 8, 8, 8, 8, 8, 8, 8, 8, 8, 8, 8, 8, 8, 8, 8, 8, 8, 8, 8, 8, 8, 8, 8, 8, 8, 8, 8, 8, 8, 8, 8, 8, 8, 8, 8, 8, 8, 8, 8, 8, 8, 8, 8, 8, 8, 8, 8, 8, 8, 8, 8, 8, 8, 8, 8, 8, 8, 8, 8, 8, 8, 8, 8, 8, 8, 8, 8, 8, 8, 8, 8, 8, 8, 8, 8, 8, 8, 8, 8, 8, 8, 8, 8, 8, 8, 8, 8, 8, 8, 8, 8, 8, 8, 8, 8, 8, 8, 8, 8, 8, 8, 8, 8, 8, 8, 8, 8, 8, 8, 8, 8, 8, 8, 8, 8, 8, 8, 8]⟩) v10) fun v11 =>
 vK (cviV .i64 v11) fun v12 =>
 vK (binV .i .add v9 v12) fun v13 =>
 R v13 h4) (
 vK (cviV .u8 (ix x2 0)) fun v14 =>
 vK (indV (.string ⟨#[0, 1, 2, 2, 3, 3, 3, 3, 4, 4, 4, 4, 4, 4, 4, 4, 5, 5, 5, 5, 5, 5, 5, 5, 5, 5, 5, 5, 5, 5, 5, 5, 6, 6, 6, 6, 6, 6, 6, 6, 6, 6, 6, 6, 6, 6, 6, 6, 6, 6, 6, 6, 6, 6, 6, 6, 6, 6, 6, 6, 6, 6, 6, 6, 7, 7, 7, 7, 7, 7, 7, 7, 7, 7, 7, 7, 7, 7, 7, 7, 7, 7, 7, 7, 7, 7, 7, 7, 7, 7, 7, 7, 7, 7, 7, 7, 7, 7, 7, 7, 7, 7, 7, 7, 7, 7, 7, 7, 7, 7, 7, 7, 7, 7, 7, 7, 7, 7, 7, 7, 7, 7, 7, 7, 7, 7, 7, 7, 8, 8, 8, 8, 8, 8, 8, 8, 8, 8, 8, 8, 8, 8, 8, 8, 8, 8, 8, 8, 8, 8, 8, 8, 8, 8, 8, 8, 8, 8, 8, 8, 8, 8, 8, 8, 8, 8, 8, 8, 8, 8, 8, 8, 8, 8, 8, 8, 8, 8, 8, 8, 8, 8, 8, 8, 8, 8, 8, 8, 8, 8, 8, 8, 8, 8, 8, 8, 8, 8, 8, 8, 8, 8, 8, 8, 8, 8, 8, 8, 8, 8, 8, 8, 8, 8, 8, 8, 8, 8, 8, 8, 8, 8, 8, 8, 8, 8, 8, 8, 8, 8, 8, 8, 8, 8, 8, 8, 8, 8, 8, 8, 8, 8, 8, 8, 8, 8, 8, 8, 8, 8, 8, 8, 8, 8, 8, 8]⟩) v14) fun v15 =>
 vK (cviV .i64 v15) fun v16 =>
 vK (binV .i .add (ix x2 1) v16) fun v17 =>
 R v17 h4)
noncomputable def an_math_bits_Len32 : Ann := (.s .z (.j 125 [0, 2] (.s .z (.s (.s .z .z) .z)) (.s (.s .z (.s (.s .z .z) .z)) (.s .z .z))))
theorem oc_math_bits_Len32 : okCode Try.f93.ntmps ((Try.f93.body).getD .skip) an_math_bits_Len32 = true := by kernel_rfl
theorem eq_math_bits_Len32 (a0 : Value) (h : Heap) (R : Value → Heap → Prop) : sh_math_bits_Len32 a0 h R = cFunc Try.prog ((Try.f93.body).getD .skip) an_math_bits_Len32 Try.f93.results.toList #[a0].toList h R := by kernel_rfl
theorem ok_math_bits_Len32 {a0 : Value} {h : Heap} {R : Value → Heap → Prop} (H : sh_math_bits_Len32 a0 h R) : FCall Try.prog F_math_bits_Len32 #[a0] h R :=
  fcall_of (by kernel_rfl) (fn := Try.f93) (c := (Try.f93.body).getD .skip) (an := an_math_bits_Len32) (by kernel_rfl) (by kernel_rfl) (by kernel_rfl) oc_math_bits_Len32 (by kernel_rfl) (Eq.mp (eq_math_bits_Len32 a0 h R) H)

/-! ### math|bits.Len64: function 94 -/
def sh_math_bits_Len64 (a0 : Value) (h : Heap) (R : Value → Heap → Prop) : Prop :=
 joinK (fun J1 =>
 vK (binV .i .geq a0 (.int .u64 4294967296)) fun v5 =>
 iteK v5 (
 vK (binV .i .shr a0 (.int .u64 32)) fun v6 =>
 J1 [v6, (.int .i64 32)] h) (
 J1 [a0, (.int .i64 0)] h))
 fun x2 j3 h4 =>
 joinK (fun J7 =>
 vK (binV .i .geq (ix x2 0) (.int .u64 65536)) fun v11 =>
 iteK v11 (
 vK (binV .i .shr (ix x2 0) (.int .u64 16)) fun v12 =>
 vK (binV .i .add (ix x2 1) (.int .i64 16)) fun v13 =>
 J7 [v12, v13] h4) (
 J7 [(ix x2 0), (ix x2 1)] h4))
 fun x8 j9 h10 =>
 vK (binV .i .geq (ix x8 0) (.int .u64 256)) fun v14 =>
 iteK v14 (
 vK (binV .i .shr (ix x8 0) (.int .u64 8)) fun v15 =>
 vK (binV .i .add (ix x8 1) (.int .i64 8)) fun v16 =>
 vK (cviV .u8 v15) fun v17 =>
 vK (indV (.string ⟨#[0, 1, 2, 2, 3, 3, 3, 3, 4, 4, 4, 4, 4, 4, 4, 4, 5, 5, 5, 5, 5, 5, 5, 5, 5, 5, 5, 5, 5, 5, 5, 5, 6, 6, 6, 6, 6, 6, 6, 6, 6, 6, 6, 6, 6, 6, 6, 6, 6, 6, 6, 6, 6, 6, 6, 6, 6, 6, 6, 6, 6, 6, 6, 6, 7, 7, 7, 7, 7, 7, 7, 7, 7, 7, 7, 7, 7, 7, 7, 7, 7, 7, 7, 7, 7, 7, 7, 7, 7, 7, 7, 7, 7, 7, 7, 7, 7, 7, 7, 7, 7, 7, 7, 7, 7, 7, 7, 7, 7, 7, 7, 7, 7, 7, 7, 7, 7, 7, 7, 7, 7, 7, 7, 7, 7, 7, 7, 7, 8, 8, 8, 8, 8, 8, 8, 8, 8, 8, 8, 8, 8, 8, 8, 8, 8, 8, 8, 8, 8, 8, 8, 8, 8, 8, 8, 8, 8, 8, 8, 8, 8, 8, 8, 8, 8, 8, 8, 8, 8, 8, 8, 8, 8, 8, 8, 8, 8, 8, 8, 8, 8, 8, 8, 8, 8, 8, 8, 8, 8, 8, 8, 8, 8, 8, 8, 8, 8, 8, 8, 8, 8, 8, 8, 8, 8, 8, 8, 8, 8, 8, 8, 8, 8, 8, 8, 8, 8, 8, 8, 8, 8, 8, 8, 8, 8, 8, 8, 8, 8, 8, 8, 8, 8, 8, 8, 8, 8, 8, 8, 8, 8, 8, 8, 8, 8, 8, 8, 8, 8, 8, 8, 8, 8, 8, 8, 8]⟩) v17) fun v18 =>
 vK (cviV .i64 v18) fun v19 =>
 vK (binV .i .add v16 v19) fun v20 =>
 R v20 h10) (
 vK (cviV .u8 (ix x8 0)) fun v21 =>
 vK (indV (.string ⟨#[0, 1, 2, 2, 3, 3, 3, 3, 4, 4, 4, 4, 4, 4, 4, 4, 5, 5, 5, 5, 5, 5, 5, 5, 5, 5, 5, 5, 5, 5, 5, 5, 6, 6, 6, 6, 6, 6, 6, 6, 6, 6, 6, 6, 6, 6, 6, 6, 6, 6, 6, 6, 6, 6, 6, 6, 6, 6, 6, 6, 6, 6, 6, 6, 7, 7, 7, 7, 7, 7, 7, 7, 7, 7, 7, 7, 7, 7, 7, 7, 7, 7, 7, 7, 7, 7, 7, 7, 7, 7, 7, 7, 7, 7, 7, 7, 7, 7, 7, 7, 7, 7, 7, 7, 7, 7, 7, 7, 7, 7, 7, 7, 7, 7, 7, 7, 7, 7, 7, 7, 7, 7, 7, 7, 7, 7, 7, 7, 8, 8, 8, 8, 8, 8, 8, 8, 8, 8, 8, 8, 8, 8, 8, 8, 8, 8, 8, 8, 8, 8, 8, 8, 8, 8, 8, 8, 8, 8, 8, 8, 8, 8, 8, 8, 8, 8, 8, 8, 8, 8, 8, 8, 8, 8, 8, 8, 8, 8, 8, 8, 8, 8, 8, 8, 8, 8, 8, 8, 8, 8, 8, 8, 8, 8, 8, 8, 8, 8, 8, 8, 8, 8, 8, 8, 8, 8, 8, 8, 8, 8, 8, 8, 8, 8, 8, 8, 8, 8, 8, 8, 8, 8, 8, 8, 8, 8, 8, 8, 8, 8, 8, 8, 8, 8, 8, 8, 8, 8, 8, 8, 8, 8, 8, 8, 8, 8, 8, 8, 8, 8, 8, 8, 8, 8, 8, 8]⟩) v21) fun v22 =>
 vK (cviV .i64 v22) fun v23 =>
 vK (binV .i .add (ix x8 1) v23) fun v24 =>
 R v24 h10)
noncomputable def an_math_bits_Len64 : Ann := (.s .z (.j 125 [0, 2] (.s .z (.s (.s .z .z) .z)) (.j 8069 [0, 2] (.s .z (.s (.s .z .z) .z)) (.s (.s .z (.s (.s .z .z) .z)) (.s .z .z)))))
theorem oc_math_bits_Len64 : okCode Try.f94.ntmps ((Try.f94.body).getD .skip) an_math_bits_Len64 = true := by kernel_rfl
theorem eq_math_bits_Len64 (a0 : Value) (h : Heap) (R : Value → Heap → Prop) : sh_math_bits_Len64 a0 h R = cFunc Try.prog ((Try.f94.body).getD .skip) an_math_bits_Len64 Try.f94.results.toList #[a0].toList h R := by kernel_rfl
theorem ok_math_bits_Len64 {a0 : Value} {h : Heap} {R : Value → Heap → Prop} (H : sh_math_bits_Len64 a0 h R) : FCall Try.prog F_math_bits_Len64 #[a0] h R :=
  fcall_of (by kernel_rfl) (fn := Try.f94) (c := (Try.f94.body).getD .skip) (an := an_math_bits_Len64) (by kernel_rfl) (by kernel_rfl) (by kernel_rfl) oc_math_bits_Len64 (by kernel_rfl) (Eq.mp (eq_math_bits_Len64 a0 h R) H)

/-! ### slices.siftDownOrdered[int]: function 95 -/
def sh_slices_siftDownOrdered_int (a0 a1 a2 a3 : Value) (h : Heap) (R : Value → Heap → Prop) : Prop :=
 loopK [a1] h fun x1 j2 h3 again4 =>
 vK (binV .i .mul (.int .i64 2) (ix x1 0)) fun v5 =>
 vK (binV .i .add v5 (.int .i64 1)) fun v6 =>
 vK (binV .i .geq v6 a2) fun v7 =>
 iteK v7 (
 R (.tuple #[]) h3) (
 joinK (fun J8 =>
 drawK h3 fun S =>
 vK (binV .i .add v6 (.int .i64 1)) fun v12 =>
 vK (binV .i .lss v12 a2) fun v13 =>
 vK (gV v13 true (some a0)) fun v14 =>
 vK (gV v13 true (some a3)) fun v15 =>
 vK (gV v13 true (some v6)) fun v16 =>
 vK (gV v13 true (binV .i .add v15 v16)) fun v17 =>
 vK (gV v13 true (idxV 1 v14 v17)) fun v18 =>
 qK S (fun h3 => gV v13 true (ldV h3 v18)) fun v19 =>
 vK (gV v13 true (some a0)) fun v20 =>
 vK (gV v13 true (some a3)) fun v21 =>
 vK (gV v13 true (some v6)) fun v22 =>
 vK (gV v13 true (binV .i .add v21 v22)) fun v23 =>
 vK (gV v13 true (binV .i .add v23 (.int .i64 1))) fun v24 =>
 vK (gV v13 true (idxV 1 v20 v24)) fun v25 =>
 qK S (fun h3 => gV v13 true (ldV h3 v25)) fun v26 =>
 gK v13 true (fun k31 => FCall Try.prog F_cmp_Less_int #[v19, v26] h3 k31) h3 fun v27 h28 =>
 vK (pickV v13 v27 (.bool false)) fun v29 =>
 iteK v29 (
 vK (binV .i .add v6 (.int .i64 1)) fun v30 =>
 J8 [v30] h28) (
 J8 [v6] h28))
 fun x9 j10 h11 =>
 drawK h11 fun S =>
 vK (binV .i .add a3 (ix x1 0)) fun v32 =>
 vK (idxV 1 a0 v32) fun v33 =>
 qK S (fun h11 => ldV h11 v33) fun v34 =>
 vK (binV .i .add a3 (ix x9 0)) fun v35 =>
 vK (idxV 1 a0 v35) fun v36 =>
 qK S (fun h11 => ldV h11 v36) fun v37 =>
 FCall Try.prog F_cmp_Less_int #[v34, v37] h11 fun v38 h39 =>
 vK (unV .not v38) fun v40 =>
 iteK v40 (
 R (.tuple #[]) h39) (
 drawK h39 fun S =>
 vK (binV .i .add a3 (ix x1 0)) fun v41 =>
 vK (binV .i .add a3 (ix x9 0)) fun v42 =>
 vK (binV .i .add a3 (ix x9 0)) fun v43 =>
 vK (idxV 1 a0 v43) fun v44 =>
 qK S (fun h39 => ldV h39 v44) fun v45 =>
 vK (binV .i .add a3 (ix x1 0)) fun v46 =>
 vK (idxV 1 a0 v46) fun v47 =>
 qK S (fun h39 => ldV h39 v47) fun v48 =>
 vK (idxV 1 a0 v41) fun v49 =>
 stK 1 v49 v45 h39 fun v50 h51 =>
 S h51 ∧ (vK (idxV 1 a0 v42) fun v52 =>
 stK 1 v52 v48 h51 fun v53 h54 =>
 again4 [(ix x9 0)] h54)))
noncomputable def an_slices_siftDownOrdered_int : Ann := (.s .z (.l 75557863725914323417856 [8] (.s .z (.s (.s .z (.s .z .z)) (.j 549755683328 [9] (.s (.d [(0, .r), (1, .r), (2, .r), (3, .r), (4, .r), (5, .r), (6, .r), (7, .r), (8, .r), (9, .r), (10, .r), (11, .r), (12, .r), (13, .r), (14, .r), (15, .r), (16, .r), (17, .r), (18, .n), (19, .r)]) (.s .z .z)) (.s (.s (.d [(0, .r), (1, .r), (2, .r), (3, .r), (4, .r), (5, .r), (6, .r), (7, .r), (8, .r), (9, .r), (10, .r), (11, .r), (12, .n), (13, .r)]) (.s .z .z)) (.s (.d [(0, .r), (1, .r), (2, .r), (3, .r), (4, .r), (5, .r), (6, .r), (7, .r), (8, .r), (9, .r), (10, .r), (11, .r), (12, .r), (13, .r), (14, .r), (15, .r), (16, .r), (17, .r), (18, .r), (19, .r), (20, .r), (21, .e), (22, .r), (23, .n)]) .z)))))))
theorem oc_slices_siftDownOrdered_int : okCode Try.f95.ntmps ((Try.f95.body).getD .skip) an_slices_siftDownOrdered_int = true := by kernel_rfl
theorem eq_slices_siftDownOrdered_int (a0 a1 a2 a3 : Value) (h : Heap) (R : Value → Heap → Prop) : sh_slices_siftDownOrdered_int a0 a1 a2 a3 h R = cFunc Try.prog ((Try.f95.body).getD .skip) an_slices_siftDownOrdered_int Try.f95.results.toList #[a0, a1, a2, a3].toList h R := by kernel_rfl
theorem ok_slices_siftDownOrdered_int {a0 a1 a2 a3 : Value} {h : Heap} {R : Value → Heap → Prop} (H : sh_slices_siftDownOrdered_int a0 a1 a2 a3 h R) : FCall Try.prog F_slices_siftDownOrdered_int #[a0, a1, a2, a3] h R :=
  fcall_of (by kernel_rfl) (fn := Try.f95) (c := (Try.f95.body).getD .skip) (an := an_slices_siftDownOrdered_int) (by kernel_rfl) (by kernel_rfl) (by kernel_rfl) oc_slices_siftDownOrdered_int (by kernel_rfl) (Eq.mp (eq_slices_siftDownOrdered_int a0 a1 a2 a3 h R) H)

/-! ### slices.nextPowerOfTwo: function 96 -/
def sh_slices_nextPowerOfTwo (a0 : Value) (h : Heap) (R : Value → Heap → Prop) : Prop :=
 vK (cviV .u64 a0) fun v1 =>
 FCall Try.prog F_math_bits_Len #[v1] h fun v2 h3 =>
 vK (binV .i .shl (.int .u64 1) v2) fun v4 =>
 R v4 h3
noncomputable def an_slices_nextPowerOfTwo : Ann := (.s .z (.s .z .z))
theorem oc_slices_nextPowerOfTwo : okCode Try.f96.ntmps ((Try.f96.body).getD .skip) an_slices_nextPowerOfTwo = true := by kernel_rfl
theorem eq_slices_nextPowerOfTwo (a0 : Value) (h : Heap) (R : Value → Heap → Prop) : sh_slices_nextPowerOfTwo a0 h R = cFunc Try.prog ((Try.f96.body).getD .skip) an_slices_nextPowerOfTwo Try.f96.results.toList #[a0].toList h R := by kernel_rfl
theorem ok_slices_nextPowerOfTwo {a0 : Value} {h : Heap} {R : Value → Heap → Prop} (H : sh_slices_nextPowerOfTwo a0 h R) : FCall Try.prog F_slices_nextPowerOfTwo #[a0] h R :=
  fcall_of (by kernel_rfl) (fn := Try.f96) (c := (Try.f96.body).getD .skip) (an := an_slices_nextPowerOfTwo) (by kernel_rfl) (by kernel_rfl) (by kernel_rfl) oc_slices_nextPowerOfTwo (by kernel_rfl) (Eq.mp (eq_slices_nextPowerOfTwo a0 h R) H)

/-! ### (*slices.xorshift).Next: function 97 -/
def sh_slices_xorshift_Next (a0 : Value) (h : Heap) (R : Value → Heap → Prop) : Prop :=
 drawK h fun S =>
 vK (nilV a0) fun v1 =>
 qK S (fun h => ldV h v1) fun v2 =>
 vK (nilV a0) fun v3 =>
 qK S (fun h => ldV h v3) fun v4 =>
 vK (binV .i .shl v4 (.int .u64 13)) fun v5 =>
 vK (binV .i .xor v2 v5) fun v6 =>
 vK (nilV a0) fun v7 =>
 stK 1 v7 v6 h fun v8 h9 =>
 drawK h9 fun S =>
 vK (nilV a0) fun v10 =>
 qK S (fun h9 => ldV h9 v10) fun v11 =>
 vK (nilV a0) fun v12 =>
 qK S (fun h9 => ldV h9 v12) fun v13 =>
 vK (binV .i .shr v13 (.int .u64 7)) fun v14 =>
 vK (binV .i .xor v11 v14) fun v15 =>
 vK (nilV a0) fun v16 =>
 stK 1 v16 v15 h9 fun v17 h18 =>
 drawK h18 fun S =>
 vK (nilV a0) fun v19 =>
 qK S (fun h18 => ldV h18 v19) fun v20 =>
 vK (nilV a0) fun v21 =>
 qK S (fun h18 => ldV h18 v21) fun v22 =>
 vK (binV .i .shl v22 (.int .u64 17)) fun v23 =>
 vK (binV .i .xor v20 v23) fun v24 =>
 vK (nilV a0) fun v25 =>
 stK 1 v25 v24 h18 fun v26 h27 =>
 vK (nilV a0) fun v28 =>
 vK (ldV h27 v28) fun v29 =>
 R v29 h27
noncomputable def an_slices_xorshift_Next : Ann := (.s .z (.s (.d [(0, .r), (1, .r), (2, .r), (3, .r), (4, .r), (5, .r), (6, .r), (7, .r), (8, .r), (9, .n)]) (.s (.d [(0, .r), (1, .r), (2, .r), (3, .r), (4, .r), (5, .r), (6, .r), (7, .r), (8, .r), (9, .n)]) (.s (.d [(0, .r), (1, .r), (2, .r), (3, .r), (4, .r), (5, .r), (6, .r), (7, .r), (8, .r), (9, .n)]) (.s .z .z)))))
theorem oc_slices_xorshift_Next : okCode Try.f97.ntmps ((Try.f97.body).getD .skip) an_slices_xorshift_Next = true := by kernel_rfl
theorem eq_slices_xorshift_Next (a0 : Value) (h : Heap) (R : Value → Heap → Prop) : sh_slices_xorshift_Next a0 h R = cFunc Try.prog ((Try.f97.body).getD .skip) an_slices_xorshift_Next Try.f97.results.toList #[a0].toList h R := by kernel_rfl
theorem ok_slices_xorshift_Next {a0 : Value} {h : Heap} {R : Value → Heap → Prop} (H : sh_slices_xorshift_Next a0 h R) : FCall Try.prog F_slices_xorshift_Next #[a0] h R :=
  fcall_of (by kernel_rfl) (fn := Try.f97) (c := (Try.f97.body).getD .skip) (an := an_slices_xorshift_Next) (by kernel_rfl) (by kernel_rfl) (by kernel_rfl) oc_slices_xorshift_Next (by kernel_rfl) (Eq.mp (eq_slices_xorshift_Next a0 h R) H)

/-! ### slices.medianAdjacentOrdered[int]: function 98 -/
def sh_slices_medianAdjacentOrdered_int (a0 a1 a2 : Value) (h : Heap) (R : Value → Heap → Prop) : Prop :=
 vK (binV .i .sub a1 (.int .i64 1)) fun v1 =>
 vK (binV .i .add a1 (.int .i64 1)) fun v2 =>
 FCall Try.prog F_slices_medianOrdered_int #[a0, v1, a1, v2, a2] h fun v3 h4 =>
 R v3 h4
noncomputable def an_slices_medianAdjacentOrdered_int : Ann := (.s .z (.s .z .z))
theorem oc_slices_medianAdjacentOrdered_int : okCode Try.f98.ntmps ((Try.f98.body).getD .skip) an_slices_medianAdjacentOrdered_int = true := by kernel_rfl
theorem eq_slices_medianAdjacentOrdered_int (a0 a1 a2 : Value) (h : Heap) (R : Value → Heap → Prop) : sh_slices_medianAdjacentOrdered_int a0 a1 a2 h R = cFunc Try.prog ((Try.f98.body).getD .skip) an_slices_medianAdjacentOrdered_int Try.f98.results.toList #[a0, a1, a2].toList h R := by kernel_rfl
theorem ok_slices_medianAdjacentOrdered_int {a0 a1 a2 : Value} {h : Heap} {R : Value → Heap → Prop} (H : sh_slices_medianAdjacentOrdered_int a0 a1 a2 h R) : FCall Try.prog F_slices_medianAdjacentOrdered_int #[a0, a1, a2] h R :=
  fcall_of (by kernel_rfl) (fn := Try.f98) (c := (Try.f98.body).getD .skip) (an := an_slices_medianAdjacentOrdered_int) (by kernel_rfl) (by kernel_rfl) (by kernel_rfl) oc_slices_medianAdjacentOrdered_int (by kernel_rfl) (Eq.mp (eq_slices_medianAdjacentOrdered_int a0 a1 a2 h R) H)

/-! ### slices.medianOrdered[int]: function 99 -/
def sh_slices_medianOrdered_int (a0 a1 a2 a3 a4 : Value) (h : Heap) (R : Value → Heap → Prop) : Prop :=
 FCall Try.prog F_slices_order2Ordered_int #[a0, a1, a2, a4] h fun v1 h2 =>
 vK (extV v1 0) fun v3 =>
 vK (extV v1 1) fun v4 =>
 FCall Try.prog F_slices_order2Ordered_int #[a0, v4, a3, a4] h2 fun v5 h6 =>
 vK (extV v5 0) fun v7 =>
 vK (extV v5 1) fun v8 =>
 FCall Try.prog F_slices_order2Ordered_int #[a0, v3, v7, a4] h6 fun v9 h10 =>
 vK (extV v9 0) fun v11 =>
 vK (extV v9 1) fun v12 =>
 R v12 h10
noncomputable def an_slices_medianOrdered_int : Ann := (.s .z (.s .z (.s .z (.s .z (.s .z .z)))))
theorem oc_slices_medianOrdered_int : okCode Try.f99.ntmps ((Try.f99.body).getD .skip) an_slices_medianOrdered_int = true := by kernel_rfl
theorem eq_slices_medianOrdered_int (a0 a1 a2 a3 a4 : Value) (h : Heap) (R : Value → Heap → Prop) : sh_slices_medianOrdered_int a0 a1 a2 a3 a4 h R = cFunc Try.prog ((Try.f99.body).getD .skip) an_slices_medianOrdered_int Try.f99.results.toList #[a0, a1, a2, a3, a4].toList h R := by kernel_rfl
theorem ok_slices_medianOrdered_int {a0 a1 a2 a3 a4 : Value} {h : Heap} {R : Value → Heap → Prop} (H : sh_slices_medianOrdered_int a0 a1 a2 a3 a4 h R) : FCall Try.prog F_slices_medianOrdered_int #[a0, a1, a2, a3, a4] h R :=
  fcall_of (by kernel_rfl) (fn := Try.f99) (c := (Try.f99.body).getD .skip) (an := an_slices_medianOrdered_int) (by kernel_rfl) (by kernel_rfl) (by kernel_rfl) oc_slices_medianOrdered_int (by kernel_rfl) (Eq.mp (eq_slices_medianOrdered_int a0 a1 a2 a3 a4 h R) H)

/-! ### cmp.isNaN[int]: function 100 -/
def sh_cmp_isNaN_int (a0 : Value) (h : Heap) (R : Value → Heap → Prop) : Prop :=
 vK (binV .i .neq a0 a0) fun v1 =>
 R v1 h
noncomputable def an_cmp_isNaN_int : Ann := (.s .z (.s .z .z))
theorem oc_cmp_isNaN_int : okCode Try.f100.ntmps ((Try.f100.body).getD .skip) an_cmp_isNaN_int = true := by kernel_rfl
theorem eq_cmp_isNaN_int (a0 : Value) (h : Heap) (R : Value → Heap → Prop) : sh_cmp_isNaN_int a0 h R = cFunc Try.prog ((Try.f100.body).getD .skip) an_cmp_isNaN_int Try.f100.results.toList #[a0].toList h R := by kernel_rfl
theorem ok_cmp_isNaN_int {a0 : Value} {h : Heap} {R : Value → Heap → Prop} (H : sh_cmp_isNaN_int a0 h R) : FCall Try.prog F_cmp_isNaN_int #[a0] h R :=
  fcall_of (by kernel_rfl) (fn := Try.f100) (c := (Try.f100.body).getD .skip) (an := an_cmp_isNaN_int) (by kernel_rfl) (by kernel_rfl) (by kernel_rfl) oc_cmp_isNaN_int (by kernel_rfl) (Eq.mp (eq_cmp_isNaN_int a0 h R) H)

/-! ### slices.order2Ordered[int]: function 101 -/
def sh_slices_order2Ordered_int (a0 a1 a2 a3 : Value) (h : Heap) (R : Value → Heap → Prop) : Prop :=
 drawK h fun S =>
 vK (idxV 1 a0 a2) fun v1 =>
 qK S (fun h => ldV h v1) fun v2 =>
 vK (idxV 1 a0 a1) fun v3 =>
 qK S (fun h => ldV h v3) fun v4 =>
 FCall Try.prog F_cmp_Less_int #[v2, v4] h fun v5 h6 =>
 iteK v5 (
 vK (nilV a3) fun v7 =>
 vK (ldV h6 v7) fun v8 =>
 vK (binV .i .add v8 (.int .i64 1)) fun v9 =>
 vK (nilV a3) fun v10 =>
 stK 1 v10 v9 h6 fun v11 h12 =>
 R (.tuple #[a2, a1]) h12) (
 R (.tuple #[a1, a2]) h6)
noncomputable def an_slices_order2Ordered_int : Ann := (.s .z (.s (.s (.d [(0, .r), (1, .r), (2, .r), (3, .r), (4, .r), (5, .r), (6, .r), (7, .r), (8, .n)]) (.s (.s .z (.s .z .z)) .z)) (.s .z .z)))
theorem oc_slices_order2Ordered_int : okCode Try.f101.ntmps ((Try.f101.body).getD .skip) an_slices_order2Ordered_int = true := by kernel_rfl
theorem eq_slices_order2Ordered_int (a0 a1 a2 a3 : Value) (h : Heap) (R : Value → Heap → Prop) : sh_slices_order2Ordered_int a0 a1 a2 a3 h R = cFunc Try.prog ((Try.f101.body).getD .skip) an_slices_order2Ordered_int Try.f101.results.toList #[a0, a1, a2, a3].toList h R := by kernel_rfl
theorem ok_slices_order2Ordered_int {a0 a1 a2 a3 : Value} {h : Heap} {R : Value → Heap → Prop} (H : sh_slices_order2Ordered_int a0 a1 a2 a3 h R) : FCall Try.prog F_slices_order2Ordered_int #[a0, a1, a2, a3] h R :=
  fcall_of (by kernel_rfl) (fn := Try.f101) (c := (Try.f101.body).getD .skip) (an := an_slices_order2Ordered_int) (by kernel_rfl) (by kernel_rfl) (by kernel_rfl) oc_slices_order2Ordered_int (by kernel_rfl) (Eq.mp (eq_slices_order2Ordered_int a0 a1 a2 a3 h R) H)

end Go.Proofs.Ytmmcgbilnnaggaa
