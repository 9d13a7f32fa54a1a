/- What the functions of the program do, read over the heap alone, each tied to the model (written by a program of this session, shal.py). Conditions: none. -/
import Derived.Test.YtmmcgbilnnaggaaSh0
set_option linter.unusedVariables false
set_option maxRecDepth 100000
namespace Go.Proofs.Ytmmcgbilnnaggaa
open Go Go.Crisp
/-! ### math|bits.Len32: function 93 -/
def sh_math_bits_Len32 (a0 : Value) (h : Heap) (R : Value → Heap → Prop) : Prop :=
 joinK (fun J1 =>
 vK (binV .i .geq a0 (.int .u32 65536)) fun v5 =>
 iteK v5 (
 vK (binV .i .shr a0 (.int .u64 16)) fun v6 =>
 J1 [v6, (.int .i64 16)] h) (
 J1 [a0, (.int .i64 0)] h))
 fun x2 j3 h4 =>
 vK (binV .i .geq (ix x2 0) (.int .u32 256)) fun v7 =>
 iteK v7 (
 vK (binV .i .shr (ix x2 0) (.int .u64 8)) fun v8 =>
 vK (binV .i .add (ix x2 1) (.int .i64 8)) fun v9 =>
 vK (cviV .u8 v8) fun v10 =>
 vK (indV (.string ⟨#[0, 1, 2, 2, 3, 3, 3, 3, 4, 4, 4, 4, 4, 4, 4, 4, 5, 5, 5, 5, 5, 5, 5, 5, 5, 5, 5, 5, 5, 5, 5, 5, 6, 6, 6, 6, 6, 6, 6, 6, 6, 6, 6, 6, 6, 6, 6, 6, 6, 6, 6, 6, 6, 6, 6, 6, 6, 6, 6, 6, 6, 6, 6, 6, 7, 7, 7, 7, 7, 7, 7, 7, 7, 7, 7, 7, 7, 7, 7, 7, 7, 7, 7, 7, 7, 7, 7, 7, 7, 7, 7, 7, 7, 7, 7, 7, 7, 7, 7, 7, 7, 7, 7, 7, 7, 7, 7, 7, 7, 7, 7, 7, 7, 7, 7, 7, 7, 7, 7, 7, 7, 7, 7, 7, 7, 7, 7, 7, 8, 8, 8, 8, 8, 8, 8, 8, 8, 8, 8, 8, 8, 8, 8, 8, 8, 8, 8, 8, 8, 8, 8, 8, 8, 8, 8, 8, 8, 8, 8, 8, 8, 8, 8, 8, 8, 8, 8, 8, 8, 8, 8, 8, 8, 8, 8, 8, 8, 8, 8, 8, 8, 8, 8, 8, 8, 8, 8, 8, 8, 8, 8, 8, 8, 8, 8, 8, 8, 8, 8, 8, 8, 8, 8, 8, 8, 8, 8, 8, 8, 8, 8, 8, 8, 8, 8, 8, 8, 8, 8, 8, 8, 8, 8, 8, 8, 8, 8, 8, 8, 8, 8, 8, 8, 8, 8, 8, 8, 8, 8, 8, 8, 8, 8, 8, 8, 8, 8, 8, 8, 8, 8, 8, 8, 8, 8, 8]⟩) v10) fun v11 =>
 vK (cviV .i64 v11) fun v12 =>
 vK (binV .i .add v9 v12) fun v13 =>
 R v13 h4) (
 vK (cviV .u8 (ix x2 0)) fun v14 =>
 vK (indV (.string ⟨#[0, 1, 2, 2, 3, 3, 3, 3, 4, 4, 4, 4, 4, 4, 4, 4, 5, 5, 5, 5, 5, 5, 5, 5, 5, 5, 5, 5, 5, 5, 5, 5, 6, 6, 6, 6, 6, 6, 6, 6, 6, 6, 6, 6, 6, 6, 6, 6, 6, 6, 6, 6, 6, 6, 6, 6, 6, 6, 6, 6, 6, 6, 6, 6, 7, 7, 7, 7, 7, 7, 7, 7, 7, 7, 7, 7, 7, 7, 7, 7, 7, 7, 7, 7, 7, 7, 7, 7, 7, 7, 7, 7, 7, 7, 7, 7, 7, 7, 7, 7, 7, 7, 7, 7, 7, 7, 7, 7, 7, 7, 7, 7, 7, 7, 7, 7, 7, 7, 7, 7, 7, 7, 7, 7, 7, 7, 7, 7, 8, 8, 8, 8, 8, 8, 8, 8, 8, 8, 8, 8, 8, 8, 8, 8, 8, 8, 8, 8, 8, 8, 8, 8, 8, 8, 8, 8, 8, 8, 8, 8, 8, 8, 8, 8, 8, 8, 8, 8, 8, 8, 8, 8, 8, 8, 8, 8, 8, 8, 8, 8, 8, 8, 8, 8, 8, 8, 8, 8, 8, 8, 8, 8, 8, 8, 8, 8, 8, 8, 8, 8, 8, 8, 8, 8, 8, 8, 8, 8, 8, 8, 8, 8, 8, 8, 8, 8, 8, 8, 8, 8, 8, 8, 8, 8, 8, 8, 8, 8, 8, 8, 8, 8, 8, 8, 8, 8, 8, 8, 8, 8, 8, 8, 8, 8, 8, 8, 8, 8, 8, 8, 8, 8, 8, 8, 8, 8]⟩) v14) fun v15 =>
 vK (cviV .i64 v15) fun v16 =>
 vK (binV .i .add (ix x2 1) v16) fun v17 =>
 R v17 h4)
noncomputable def an_math_bits_Len32 : Ann := (.s .z (.j 125 [0, 2] (.s .z (.s (.s .z .z) .z)) (.s (.s .z (.s (.s .z .z) .z)) (.s .z .z))))
theorem oc_math_bits_Len32 : okCode Try.f93.ntmps ((Try.f93.body).getD .skip) an_math_bits_Len32 = true := by kernel_rfl
theorem eq_math_bits_Len32 (a0 : Value) (h : Heap) (R : Value → Heap → Prop) : sh_math_bits_Len32 a0 h R = cFunc Try.prog ((Try.f93.body).getD .skip) an_math_bits_Len32 Try.f93.results.toList #[a0].toList h R := by kernel_rfl
theorem ok_math_bits_Len32 {a0 : Value} {h : Heap} {R : Value → Heap → Prop} (H : sh_math_bits_Len32 a0 h R) : FCall Try.prog F_math_bits_Len32 #[a0] h R :=
  fcall_of (by kernel_rfl) (fn := Try.f93) (c := (Try.f93.body).getD .skip) (an := an_math_bits_Len32) (by kernel_rfl) (by kernel_rfl) (by kernel_rfl) oc_math_bits_Len32 (by kernel_rfl) (Eq.mp (eq_math_bits_Len32 a0 h R) H)

/-! ### math|bits.Len64: function 94 -/
def sh_math_bits_Len64 (a0 : Value) (h : Heap) (R : Value → Heap → Prop) : Prop :=
 joinK (fun J1 =>
 vK (binV .i .geq a0 (.int .u64 4294967296)) fun v5 =>
 iteK v5 (
 vK (binV .i .shr a0 (.int .u64 32)) fun v6 =>
 J1 [v6, (.int .i64 32)] h) (
 J1 [a0, (.int .i64 0)] h))
 fun x2 j3 h4 =>
 joinK (fun J7 =>
 vK (binV .i .geq (ix x2 0) (.int .u64 65536)) fun v11 =>
 iteK v11 (
 vK (binV .i .shr (ix x2 0) (.int .u64 16)) fun v12 =>
 vK (binV .i .add (ix x2 1) (.int .i64 16)) fun v13 =>
 J7 [v12, v13] h4) (
 J7 [(ix x2 0), (ix x2 1)] h4))
 fun x8 j9 h10 =>
 vK (binV .i .geq (ix x8 0) (.int .u64 256)) fun v14 =>
 iteK v14 (
 vK (binV .i .shr (ix x8 0) (.int .u64 8)) fun v15 =>
 vK (binV .i .add (ix x8 1) (.int .i64 8)) fun v16 =>
 vK (cviV .u8 v15) fun v17 =>
 vK (indV (.string ⟨#[0, 1, 2, 2, 3, 3, 3, 3, 4, 4, 4, 4, 4, 4, 4, 4, 5, 5, 5, 5, 5, 5, 5, 5, 5, 5, 5, 5, 5, 5, 5, 5, 6, 6, 6, 6, 6, 6, 6, 6, 6, 6, 6, 6, 6, 6, 6, 6, 6, 6, 6, 6, 6, 6, 6, 6, 6, 6, 6, 6, 6, 6, 6, 6, 7, 7, 7, 7, 7, 7, 7, 7, 7, 7, 7, 7, 7, 7, 7, 7, 7, 7, 7, 7, 7, 7, 7, 7, 7, 7, 7, 7, 7, 7, 7, 7, 7, 7, 7, 7, 7, 7, 7, 7, 7, 7, 7, 7, 7, 7, 7, 7, 7, 7, 7, 7, 7, 7, 7, 7, 7, 7, 7, 7, 7, 7, 7, 7, 8, 8, 8, 8, 8, 8, 8, 8, 8, 8, 8, 8, 8, 8, 8, 8, 8, 8, 8, 8, 8, 8, 8, 8, 8, 8, 8, 8, 8, 8, 8, 8, 8, 8, 8, 8, 8, 8, 8, 8, 8, 8, 8, 8, 8, 8, 8, 8, 8, 8, 8, 8, 8, 8, 8, 8, 8, 8, 8, 8, 8, 8, 8, 8, 8, 8, 8, 8, 8, 8, 8, 8, 8, 8, 8, 8, 8, 8, 8, 8, 8, 8, 8, 8, 8, 8, 8, 8, 8, 8, 8, 8, 8, 8, 8, 8, 8, 8, 8, 8, 8, 8, 8, 8, 8, 8, 8, 8, 8, 8, 8, 8, 8, 8, 8, 8, 8, 8, 8, 8, 8, 8, 8, 8, 8, 8, 8, 8]⟩) v17) fun v18 =>
 vK (cviV .i64 v18) fun v19 =>
 vK (binV .i .add v16 v19) fun v20 =>
 R v20 h10) (
 vK (cviV .u8 (ix x8 0)) fun v21 =>
 vK (indV (.string ⟨#[0, 1, 2, 2, 3, 3, 3, 3, 4, 4, 4, 4, 4, 4, 4, 4, 5, 5, 5, 5, 5, 5, 5, 5, 5, 5, 5, 5, 5, 5, 5, 5, 6, 6, 6, 6, 6, 6, 6, 6, 6, 6, 6, 6, 6, 6, 6, 6, 6, 6, 6, 6, 6, 6, 6, 6, 6, 6, 6, 6, 6, 6, 6, 6, 7, 7, 7, 7, 7, 7, 7, 7, 7, 7, 7, 7, 7, 7, 7, 7, 7, 7, 7, 7, 7, 7, 7, 7, 7, 7, 7, 7, 7, 7, 7, 7, 7, 7, 7, 7, 7, 7, 7, 7, 7, 7, 7, 7, 7, 7, 7, 7, 7, 7, 7, 7, 7, 7, 7, 7, 7, 7, 7, 7, 7, 7, 7, 7, 8, 8, 8, 8, 8, 8, 8, 8, 8, 8, 8, 8, 8, 8, 8, 8, 8, 8, 8, 8, 8, 8, 8, 8, 8, 8, 8, 8, 8, 8, 8, 8, 8, 8, 8, 8, 8, 8, 8, 8, 8, 8, 8, 8, 8, 8, 8, 8, 8, 8, 8, 8, 8, 8, 8, 8, 8, 8, 8, 8, 8, 8, 8, 8, 8, 8, 8, 8, 8, 8, 8, 8, 8, 8, 8, 8, 8, 8, 8, 8, 8, 8, 8, 8, 8, 8, 8, 8, 8, 8, 8, 8, 8, 8, 8, 8, 8, 8, 8, 8, 8, 8, 8, 8, 8, 8, 8, 8, 8, 8, 8, 8, 8, 8, 8, 8, 8, 8, 8, 8, 8, 8, 8, 8, 8, 8, 8, 8]⟩) v21) fun v22 =>
 vK (cviV .i64 v22) fun v23 =>
 vK (binV .i .add (ix x8 1) v23) fun v24 =>
 R v24 h10)
noncomputable def an_math_bits_Len64 : Ann := (.s .z (.j 125 [0, 2] (.s .z (.s (.s .z .z) .z)) (.j 8069 [0, 2] (.s .z (.s (.s .z .z) .z)) (.s (.s .z (.s (.s .z .z) .z)) (.s .z .z)))))
theorem oc_math_bits_Len64 : okCode Try.f94.ntmps ((Try.f94.body).getD .skip) an_math_bits_Len64 = true := by kernel_rfl
theorem eq_math_bits_Len64 (a0 : Value) (h : Heap) (R : Value → Heap → Prop) : sh_math_bits_Len64 a0 h R = cFunc Try.prog ((Try.f94.body).getD .skip) an_math_bits_Len64 Try.f94.results.toList #[a0].toList h R := by kernel_rfl
theorem ok_math_bits_Len64 {a0 : Value} {h : Heap} {R : Value → Heap → Prop} (H : sh_math_bits_Len64 a0 h R) : FCall Try.prog F_math_bits_Len64 #[a0] h R :=
  fcall_of (by kernel_rfl) (fn := Try.f94) (c := (Try.f94.body).getD .skip) (an := an_math_bits_Len64) (by kernel_rfl) (by kernel_rfl) (by kernel_rfl) oc_math_bits_Len64 (by kernel_rfl) (Eq.mp (eq_math_bits_Len64 a0 h R) H)

/-! ### slices.siftDownOrdered[int]: function 95 -/
def sh_slices_siftDownOrdered_int (a0 a1 a2 a3 : Value) (h : Heap) (R : Value → Heap → Prop) : Prop :=
 loopK [a1] h fun x1 j2 h3 again4 =>
 vK (binV .i .mul (.int .i64 2) (ix x1 0)) fun v5 =>
 vK (binV .i .add v5 (.int .i64 1)) fun v6 =>
 vK (binV .i .geq v6 a2) fun v7 =>
 iteK v7 (
 R (.tuple #[]) h3) (
 joinK (fun J8 =>
 drawK h3 fun S =>
 vK (binV .i .add v6 (.int .i64 1)) fun v12 =>
 vK (binV .i .lss v12 a2) fun v13 =>
 vK (gV v13 true (some a0)) fun v14 =>
 vK (gV v13 true (some a3)) fun v15 =>
 vK (gV v13 true (some v6)) fun v16 =>
 vK (gV v13 true (binV .i .add v15 v16)) fun v17 =>
 vK (gV v13 true (idxV 1 v14 v17)) fun v18 =>
 qK S (fun h3 => gV v13 true (ldV h3 v18)) fun v19 =>
 vK (gV v13 true (some a0)) fun v20 =>
 vK (gV v13 true (some a3)) fun v21 =>
 vK (gV v13 true (some v6)) fun v22 =>
 vK (gV v13 true (binV .i .add v21 v22)) fun v23 =>
 vK (gV v13 true (binV .i .add v23 (.int .i64 1))) fun v24 =>
 vK (gV v13 true (idxV 1 v20 v24)) fun v25 =>
 qK S (fun h3 => gV v13 true (ldV h3 v25)) fun v26 =>
 gK v13 true (fun k31 => FCall Try.prog F_cmp_Less_int #[v19, v26] h3 k31) h3 fun v27 h28 =>
 vK (pickV v13 v27 (.bool false)) fun v29 =>
 iteK v29 (
 vK (binV .i .add v6 (.int .i64 1)) fun v30 =>
 J8 [v30] h28) (
 J8 [v6] h28))
 fun x9 j10 h11 =>
 drawK h11 fun S =>
 vK (binV .i .add a3 (ix x1 0)) fun v32 =>
 vK (idxV 1 a0 v32) fun v33 =>
 qK S (fun h11 => ldV h11 v33) fun v34 =>
 vK (binV .i .add a3 (ix x9 0)) fun v35 =>
 vK (idxV 1 a0 v35) fun v36 =>
 qK S (fun h11 => ldV h11 v36) fun v37 =>
 FCall Try.prog F_cmp_Less_int #[v34, v37] h11 fun v38 h39 =>
 vK (unV .not v38) fun v40 =>
 iteK v40 (
 R (.tuple #[]) h39) (
 drawK h39 fun S =>
 vK (binV .i .add a3 (ix x1 0)) fun v41 =>
 vK (binV .i .add a3 (ix x9 0)) fun v42 =>
 vK (binV .i .add a3 (ix x9 0)) fun v43 =>
 vK (idxV 1 a0 v43) fun v44 =>
 qK S (fun h39 => ldV h39 v44) fun v45 =>
 vK (binV .i .add a3 (ix x1 0)) fun v46 =>
 vK (idxV 1 a0 v46) fun v47 =>
 qK S (fun h39 => ldV h39 v47) fun v48 =>
 vK (idxV 1 a0 v41) fun v49 =>
 stK 1 v49 v45 h39 fun v50 h51 =>
 S h51 ∧ (vK (idxV 1 a0 v42) fun v52 =>
 stK 1 v52 v48 h51 fun v53 h54 =>
 again4 [(ix x9 0)] h54)))
noncomputable def an_slices_siftDownOrdered_int : Ann := (.s .z (.l 75557863725914323417856 [8] (.s .z (.s (.s .z (.s .z .z)) (.j 549755683328 [9] (.s (.d [(0, .r), (1, .r), (2, .r), (3, .r), (4, .r), (5, .r), (6, .r), (7, .r), (8, .r), (9, .r), (10, .r), (11, .r), (12, .r), (13, .r), (14, .r), (15, .r), (16, .r), (17, .r), (18, .n), (19, .r)]) (.s .z .z)) (.s (.s (.d [(0, .r), (1, .r), (2, .r), (3, .r), (4, .r), (5, .r), (6, .r), (7, .r), (8, .r), (9, .r), (10, .r), (11, .r), (12, .n), (13, .r)]) (.s .z .z)) (.s (.d [(0, .r), (1, .r), (2, .r), (3, .r), (4, .r), (5, .r), (6, .r), (7, .r), (8, .r), (9, .r), (10, .r), (11, .r), (12, .r), (13, .r), (14, .r), (15, .r), (16, .r), (17, .r), (18, .r), (19, .r), (20, .r), (21, .e), (22, .r), (23, .n)]) .z)))))))
theorem oc_slices_siftDownOrdered_int : okCode Try.f95.ntmps ((Try.f95.body).getD .skip) an_slices_siftDownOrdered_int = true := by kernel_rfl
theorem eq_slices_siftDownOrdered_int (a0 a1 a2 a3 : Value) (h : Heap) (R : Value → Heap → Prop) : sh_slices_siftDownOrdered_int a0 a1 a2 a3 h R = cFunc Try.prog ((Try.f95.body).getD .skip) an_slices_siftDownOrdered_int Try.f95.results.toList #[a0, a1, a2, a3].toList h R := by kernel_rfl
theorem ok_slices_siftDownOrdered_int {a0 a1 a2 a3 : Value} {h : Heap} {R : Value → Heap → Prop} (H : sh_slices_siftDownOrdered_int a0 a1 a2 a3 h R) : FCall Try.prog F_slices_siftDownOrdered_int #[a0, a1, a2, a3] h R :=
  fcall_of (by kernel_rfl) (fn := Try.f95) (c := (Try.f95.body).getD .skip) (an := an_slices_siftDownOrdered_int) (by kernel_rfl) (by kernel_rfl) (by kernel_rfl) oc_slices_siftDownOrdered_int (by kernel_rfl) (Eq.mp (eq_slices_siftDownOrdered_int a0 a1 a2 a3 h R) H)

/-! ### slices.nextPowerOfTwo: function 96 -/
def sh_slices_nextPowerOfTwo (a0 : Value) (h : Heap) (R : Value → Heap → Prop) : Prop :=
 vK (cviV .u64 a0) fun v1 =>
 FCall Try.prog F_math_bits_Len #[v1] h fun v2 h3 =>
 vK (binV .i .shl (.int .u64 1) v2) fun v4 =>
 R v4 h3
noncomputable def an_slices_nextPowerOfTwo : Ann := (.s .z (.s .z .z))
theorem oc_slices_nextPowerOfTwo : okCode Try.f96.ntmps ((Try.f96.body).getD .skip) an_slices_nextPowerOfTwo = true := by kernel_rfl
theorem eq_slices_nextPowerOfTwo (a0 : Value) (h : Heap) (R : Value → Heap → Prop) : sh_slices_nextPowerOfTwo a0 h R = cFunc Try.prog ((Try.f96.body).getD .skip) an_slices_nextPowerOfTwo Try.f96.results.toList #[a0].toList h R := by kernel_rfl
theorem ok_slices_nextPowerOfTwo {a0 : Value} {h : Heap} {R : Value → Heap → Prop} (H : sh_slices_nextPowerOfTwo a0 h R) : FCall Try.prog F_slices_nextPowerOfTwo #[a0] h R :=
  fcall_of (by kernel_rfl) (fn := Try.f96) (c := (Try.f96.body).getD .skip) (an := an_slices_nextPowerOfTwo) (by kernel_rfl) (by kernel_rfl) (by kernel_rfl) oc_slices_nextPowerOfTwo (by kernel_rfl) (Eq.mp (eq_slices_nextPowerOfTwo a0 h R) H)

/-! ### (*slices.xorshift).Next: function 97 -/
def sh_slices_xorshift_Next (a0 : Value) (h : Heap) (R : Value → Heap → Prop) : Prop :=
 drawK h fun S =>
 vK (nilV a0) fun v1 =>
 qK S (fun h => ldV h v1) fun v2 =>
 vK (nilV a0) fun v3 =>
 qK S (fun h => ldV h v3) fun v4 =>
 vK (binV .i .shl v4 (.int .u64 13)) fun v5 =>
 vK (binV .i .xor v2 v5) fun v6 =>
 vK (nilV a0) fun v7 =>
 stK 1 v7 v6 h fun v8 h9 =>
 drawK h9 fun S =>
 vK (nilV a0) fun v10 =>
 qK S (fun h9 => ldV h9 v10) fun v11 =>
 vK (nilV a0) fun v12 =>
 qK S (fun h9 => ldV h9 v12) fun v13 =>
 vK (binV .i .shr v13 (.int .u64 7)) fun v14 =>
 vK (binV .i .xor v11 v14) fun v15 =>
 vK (nilV a0) fun v16 =>
 stK 1 v16 v15 h9 fun v17 h18 =>
 drawK h18 fun S =>
 vK (nilV a0) fun v19 =>
 qK S (fun h18 => ldV h18 v19) fun v20 =>
 vK (nilV a0) fun v21 =>
 qK S (fun h18 => ldV h18 v21) fun v22 =>
 vK (binV .i .shl v22 (.int .u64 17)) fun v23 =>
 vK (binV .i .xor v20 v23) fun v24 =>
 vK (nilV a0) fun v25 =>
 stK 1 v25 v24 h18 fun v26 h27 =>
 vK (nilV a0) fun v28 =>
 vK (ldV h27 v28) fun v29 =>
 R v29 h27
noncomputable def an_slices_xorshift_Next : Ann := (.s .z (.s (.d [(0, .r), (1, .r), (2, .r), (3, .r), (4, .r), (5, .r), (6, .r), (7, .r), (8, .r), (9, .n)]) (.s (.d [(0, .r), (1, .r), (2, .r), (3, .r), (4, .r), (5, .r), (6, .r), (7, .r), (8, .r), (9, .n)]) (.s (.d [(0, .r), (1, .r), (2, .r), (3, .r), (4, .r), (5, .r), (6, .r), (7, .r), (8, .r), (9, .n)]) (.s .z .z)))))
theorem oc_slices_xorshift_Next : okCode Try.f97.ntmps ((Try.f97.body).getD .skip) an_slices_xorshift_Next = true := by kernel_rfl
theorem eq_slices_xorshift_Next (a0 : Value) (h : Heap) (R : Value → Heap → Prop) : sh_slices_xorshift_Next a0 h R = cFunc Try.prog ((Try.f97.body).getD .skip) an_slices_xorshift_Next Try.f97.results.toList #[a0].toList h R := by kernel_rfl
theorem ok_slices_xorshift_Next {a0 : Value} {h : Heap} {R : Value → Heap → Prop} (H : sh_slices_xorshift_Next a0 h R) : FCall Try.prog F_slices_xorshift_Next #[a0] h R :=
  fcall_of (by kernel_rfl) (fn := Try.f97) (c := (Try.f97.body).getD .skip) (an := an_slices_xorshift_Next) (by kernel_rfl) (by kernel_rfl) (by kernel_rfl) oc_slices_xorshift_Next (by kernel_rfl) (Eq.mp (eq_slices_xorshift_Next a0 h R) H)

/-! ### slices.medianAdjacentOrdered[int]: function 98 -/
def sh_slices_medianAdjacentOrdered_int (a0 a1 a2 : Value) (h : Heap) (R : Value → Heap → Prop) : Prop :=
 vK (binV .i .sub a1 (.int .i64 1)) fun v1 =>
 vK (binV .i .add a1 (.int .i64 1)) fun v2 =>
 FCall Try.prog F_slices_medianOrdered_int #[a0, v1, a1, v2, a2] h fun v3 h4 =>
 R v3 h4
noncomputable def an_slices_medianAdjacentOrdered_int : Ann := (.s .z (.s .z .z))
theorem oc_slices_medianAdjacentOrdered_int : okCode Try.f98.ntmps ((Try.f98.body).getD .skip) an_slices_medianAdjacentOrdered_int = true := by kernel_rfl
theorem eq_slices_medianAdjacentOrdered_int (a0 a1 a2 : Value) (h : Heap) (R : Value → Heap → Prop) : sh_slices_medianAdjacentOrdered_int a0 a1 a2 h R = cFunc Try.prog ((Try.f98.body).getD .skip) an_slices_medianAdjacentOrdered_int Try.f98.results.toList #[a0, a1, a2].toList h R := by kernel_rfl
theorem ok_slices_medianAdjacentOrdered_int {a0 a1 a2 : Value} {h : Heap} {R : Value → Heap → Prop} (H : sh_slices_medianAdjacentOrdered_int a0 a1 a2 h R) : FCall Try.prog F_slices_medianAdjacentOrdered_int #[a0, a1, a2] h R :=
  fcall_of (by kernel_rfl) (fn := Try.f98) (c := (Try.f98.body).getD .skip) (an := an_slices_medianAdjacentOrdered_int) (by kernel_rfl) (by kernel_rfl) (by kernel_rfl) oc_slices_medianAdjacentOrdered_int (by kernel_rfl) (Eq.mp (eq_slices_medianAdjacentOrdered_int a0 a1 a2 h R) H)

/-! ### slices.medianOrdered[int]: function 99 -/
def sh_slices_medianOrdered_int (a0 a1 a2 a3 a4 : Value) (h : Heap) (R : Value → Heap → Prop) : Prop :=
 FCall Try.prog F_slices_order2Ordered_int #[a0, a1, a2, a4] h fun v1 h2 =>
 vK (extV v1 0) fun v3 =>
 vK (extV v1 1) fun v4 =>
 FCall Try.prog F_slices_order2Ordered_int #[a0, v4, a3, a4] h2 fun v5 h6 =>
 vK (extV v5 0) fun v7 =>
 vK (extV v5 1) fun v8 =>
 FCall Try.prog F_slices_order2Ordered_int #[a0, v3, v7, a4] h6 fun v9 h10 =>
 vK (extV v9 0) fun v11 =>
 vK (extV v9 1) fun v12 =>
 R v12 h10
noncomputable def an_slices_medianOrdered_int : Ann := (.s .z (.s .z (.s .z (.s .z (.s .z .z)))))
theorem oc_slices_medianOrdered_int : okCode Try.f99.ntmps ((Try.f99.body).getD .skip) an_slices_medianOrdered_int = true := by kernel_rfl
theorem eq_slices_medianOrdered_int (a0 a1 a2 a3 a4 : Value) (h : Heap) (R : Value → Heap → Prop) : sh_slices_medianOrdered_int a0 a1 a2 a3 a4 h R = cFunc Try.prog ((Try.f99.body).getD .skip) an_slices_medianOrdered_int Try.f99.results.toList #[a0, a1, a2, a3, a4].toList h R := by kernel_rfl
theorem ok_slices_medianOrdered_int {a0 a1 a2 a3 a4 : Value} {h : Heap} {R : Value → Heap → Prop} (H : sh_slices_medianOrdered_int a0 a1 a2 a3 a4 h R) : FCall Try.prog F_slices_medianOrdered_int #[a0, a1, a2, a3, a4] h R :=
  fcall_of (by kernel_rfl) (fn := Try.f99) (c := (Try.f99.body).getD .skip) (an := an_slices_medianOrdered_int) (by kernel_rfl) (by kernel_rfl) (by kernel_rfl) oc_slices_medianOrdered_int (by kernel_rfl) (Eq.mp (eq_slices_medianOrdered_int a0 a1 a2 a3 a4 h R) H)

/-! ### cmp.isNaN[int]: function 100 -/
def sh_cmp_isNaN_int (a0 : Value) (h : Heap) (R : Value → Heap → Prop) : Prop :=
 vK (binV .i .neq a0 a0) fun v1 =>
 R v1 h
noncomputable def an_cmp_isNaN_int : Ann := (.s .z (.s .z .z))
theorem oc_cmp_isNaN_int : okCode Try.f100.ntmps ((Try.f100.body).getD .skip) an_cmp_isNaN_int = true := by kernel_rfl
theorem eq_cmp_isNaN_int (a0 : Value) (h : Heap) (R : Value → Heap → Prop) : sh_cmp_isNaN_int a0 h R = cFunc Try.prog ((Try.f100.body).getD .skip) an_cmp_isNaN_int Try.f100.results.toList #[a0].toList h R := by kernel_rfl
theorem ok_cmp_isNaN_int {a0 : Value} {h : Heap} {R : Value → Heap → Prop} (H : sh_cmp_isNaN_int a0 h R) : FCall Try.prog F_cmp_isNaN_int #[a0] h R :=
  fcall_of (by kernel_rfl) (fn := Try.f100) (c := (Try.f100.body).getD .skip) (an := an_cmp_isNaN_int) (by kernel_rfl) (by kernel_rfl) (by kernel_rfl) oc_cmp_isNaN_int (by kernel_rfl) (Eq.mp (eq_cmp_isNaN_int a0 h R) H)

/-! ### slices.order2Ordered[int]: function 101 -/
def sh_slices_order2Ordered_int (a0 a1 a2 a3 : Value) (h : Heap) (R : Value → Heap → Prop) : Prop :=
 drawK h fun S =>
 vK (idxV 1 a0 a2) fun v1 =>
 qK S (fun h => ldV h v1) fun v2 =>
 vK (idxV 1 a0 a1) fun v3 =>
 qK S (fun h => ldV h v3) fun v4 =>
 FCall Try.prog F_cmp_Less_int #[v2, v4] h fun v5 h6 =>
 iteK v5 (
 vK (nilV a3) fun v7 =>
 vK (ldV h6 v7) fun v8 =>
 vK (binV .i .add v8 (.int .i64 1)) fun v9 =>
 vK (nilV a3) fun v10 =>
 stK 1 v10 v9 h6 fun v11 h12 =>
 R (.tuple #[a2, a1]) h12) (
 R (.tuple #[a1, a2]) h6)
noncomputable def an_slices_order2Ordered_int : Ann := (.s .z (.s (.s (.d [(0, .r), (1, .r), (2, .r), (3, .r), (4, .r), (5, .r), (6, .r), (7, .r), (8, .n)]) (.s (.s .z (.s .z .z)) .z)) (.s .z .z)))
theorem oc_slices_order2Ordered_int : okCode Try.f101.ntmps ((Try.f101.body).getD .skip) an_slices_order2Ordered_int = true := by kernel_rfl
theorem eq_slices_order2Ordered_int (a0 a1 a2 a3 : Value) (h : Heap) (R : Value → Heap → Prop) : sh_slices_order2Ordered_int a0 a1 a2 a3 h R = cFunc Try.prog ((Try.f101.body).getD .skip) an_slices_order2Ordered_int Try.f101.results.toList #[a0, a1, a2, a3].toList h R := by kernel_rfl
theorem ok_slices_order2Ordered_int {a0 a1 a2 a3 : Value} {h : Heap} {R : Value → Heap → Prop} (H : sh_slices_order2Ordered_int a0 a1 a2 a3 h R) : FCall Try.prog F_slices_order2Ordered_int #[a0, a1, a2, a3] h R :=
  fcall_of (by kernel_rfl) (fn := Try.f101) (c := (Try.f101.body).getD .skip) (an := an_slices_order2Ordered_int) (by kernel_rfl) (by kernel_rfl) (by kernel_rfl) oc_slices_order2Ordered_int (by kernel_rfl) (Eq.mp (eq_slices_order2Ordered_int a0 a1 a2 a3 h R) H)

end Go.Proofs.Ytmmcgbilnnaggaa
