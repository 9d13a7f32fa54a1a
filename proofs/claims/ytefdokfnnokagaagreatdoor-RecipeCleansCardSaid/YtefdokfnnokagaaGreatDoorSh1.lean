/- What the functions of the program do, read over the heap alone, each tied to the model (written by a program of this session, shal.py). Conditions: none. -/
import Derived.Test.YtefdokfnnokagaaGreatDoorSh0
set_option linter.unusedVariables false
set_option maxRecDepth 100000
namespace Go.Proofs.YtefdokfnnokagaaGreatDoor
open Go Go.Crisp
/-! ### slices.Repeat[[]int64,int64]: function 56 -/
def sh_slices_Repeat_sl_int64_int64 (a0 a1 : Value) (h : Heap) (R : Value → Heap → Prop) : Prop :=
 joinK (fun J1 =>
 vK (binV .i .lss a1 (.int .i64 0)) fun v5 =>
 iteK v5 (
 failK h fun v6 h7 =>
 J1 [] h7) (
 J1 [] h))
 fun x2 j3 h4 =>
 vK (lenslV a0) fun v8 =>
 vK (cviV .u64 v8) fun v9 =>
 vK (cviV .u64 a1) fun v10 =>
 FCall Tryz.prog F_math_bits_Mul #[v9, v10] h4 fun v11 h12 =>
 vK (extV v11 0) fun v13 =>
 vK (extV v11 1) fun v14 =>
 joinK (fun J15 =>
 vK (binV .i .gtr v13 (.int .u64 0)) fun v19 =>
 vK (gV v19 false (some v14)) fun v20 =>
 vK (gV v19 false (binV .i .gtr v20 (.int .u64 9223372036854775807))) fun v21 =>
 vK (pickV v19 (.bool true) v21) fun v22 =>
 iteK v22 (
 failK h12 fun v23 h24 =>
 J15 [] h24) (
 J15 [] h12))
 fun x16 j17 h18 =>
 vK (cviV .i64 v14) fun v25 =>
 mkK (.int .i64 0) 2 1 8 v25 v25 h18 fun v26 h27 =>
 cpyK 1 v26 a0 h27 fun v28 h29 =>
 loopK [v28] h29 fun x30 j31 h32 again33 =>
 vK (lenslV v26) fun v34 =>
 vK (binV .i .lss (ix x30 0) v34) fun v35 =>
 iteK v35 (
 drawK h32 fun S =>
 vK (slcV 1 v26 (some (ix x30 0)) none) fun v36 =>
 vK (slcV 1 v26 none (some (ix x30 0))) fun v37 =>
 cpyK 1 v36 v37 h32 fun v38 h39 =>
 vK (binV .i .add (ix x30 0) v38) fun v40 =>
 again33 [v40] h39) (
 R v26 h32)
noncomputable def an_slices_Repeat_sl_int64_int64 : Ann := (.s .z (.j 3584 [] (.s .z (.s .z .z)) (.s .z (.j 266338304 [] (.s .z (.s .z .z)) (.s .z (.s .z (.s (.l 140720308486400 [8] (.s (.s .z (.s .z .z)) (.d (.op 0 .r (.op 1 .r (.op 2 .r (.op 3 .r (.op 4 .r (.op 5 .r (.op 6 .r (.op 7 .n (.op 8 .r (.op 9 .r .nil))))))))))))) (.s .z .z))))))))
theorem oc_slices_Repeat_sl_int64_int64 : okCode Tryz.f56.ntmps ((Tryz.f56.body).getD .skip) an_slices_Repeat_sl_int64_int64 = true := by kernel_rfl
theorem eq_slices_Repeat_sl_int64_int64 (a0 a1 : Value) (h : Heap) (R : Value → Heap → Prop) : sh_slices_Repeat_sl_int64_int64 a0 a1 h R = cFunc Tryz.prog ((Tryz.f56.body).getD .skip) an_slices_Repeat_sl_int64_int64 Tryz.f56.results.toList #[a0, a1].toList h R := by kernel_rfl
theorem ok_slices_Repeat_sl_int64_int64 {a0 a1 : Value} {h : Heap} {R : Value → Heap → Prop} (H : sh_slices_Repeat_sl_int64_int64 a0 a1 h R) : FCall Tryz.prog F_slices_Repeat_sl_int64_int64 #[a0, a1] h R :=
  fcall_of (by kernel_rfl) (fn := Tryz.f56) (c := (Tryz.f56.body).getD .skip) (an := an_slices_Repeat_sl_int64_int64) (by kernel_rfl) (by kernel_rfl) (by kernel_rfl) oc_slices_Repeat_sl_int64_int64 (by kernel_rfl) (Eq.mp (eq_slices_Repeat_sl_int64_int64 a0 a1 h R) H)

/-! ### smalto|wide.MulDiv: function 57 -/
def sh_wide_MulDiv (a0 a1 a2 : Value) (h : Heap) (R : Value → Heap → Prop) : Prop :=
 vK (binV .i .eql a2 (.int .i64 0)) fun v1 =>
 iteK v1 (
 R (.int .i64 0) h) (
 FCall Tryz.prog F_wide_product #[a0, a1] h fun v2 h3 =>
 vK (extV v2 0) fun v4 =>
 vK (extV v2 1) fun v5 =>
 vK (extV v2 2) fun v6 =>
 FCall Tryz.prog F_wide_size #[a2] h3 fun v7 h8 =>
 vK (binV .i .lss a2 (.int .i64 0)) fun v9 =>
 vK (binV .b .neq v6 v9) fun v10 =>
 vK (binV .i .geq v4 v7) fun v11 =>
 iteK v11 (
 FCall Tryz.prog F_wide_signed #[(.int .u64 1), (.int .u64 0), v10] h8 fun v12 h13 =>
 R v12 h13) (
 FCall Tryz.prog F_math_bits_Div64 #[v4, v5, v7] h8 fun v14 h15 =>
 vK (extV v14 0) fun v16 =>
 vK (extV v14 1) fun v17 =>
 vK (binV .i .sub v7 v17) fun v18 =>
 vK (gV v10 true (some v17)) fun v19 =>
 vK (gV v10 true (some v18)) fun v20 =>
 vK (gV v10 true (binV .i .gtr v19 v20)) fun v21 =>
 vK (pickV v10 v21 (.bool false)) fun v22 =>
 vK (gV v22 false (some v10)) fun v23 =>
 vK (gV v22 false (unV .not v23)) fun v24 =>
 vK (gV v22 false (some v24)) fun v25 =>
 vK (gV v25 true (some v17)) fun v26 =>
 vK (gV v25 true (some v18)) fun v27 =>
 vK (gV v25 true (binV .i .geq v26 v27)) fun v28 =>
 vK (gV v22 false (pickV v25 v28 (.bool false))) fun v29 =>
 vK (pickV v22 (.bool true) v29) fun v30 =>
 iteK v30 (
 FCall Tryz.prog F_math_bits_Add64 #[v16, (.int .u64 1), (.int .u64 0)] h15 fun v31 h32 =>
 vK (extV v31 0) fun v33 =>
 vK (extV v31 1) fun v34 =>
 FCall Tryz.prog F_wide_signed #[v34, v33, v10] h32 fun v35 h36 =>
 R v35 h36) (
 FCall Tryz.prog F_math_bits_Add64 #[v16, (.int .u64 0), (.int .u64 0)] h15 fun v37 h38 =>
 vK (extV v37 0) fun v39 =>
 vK (extV v37 1) fun v40 =>
 FCall Tryz.prog F_wide_signed #[v40, v39, v10] h38 fun v41 h42 =>
 R v41 h42)))
noncomputable def an_wide_MulDiv : Ann := (.s .z (.s (.s .z (.s (.s .z .z) .z)) (.s .z (.s .z (.s .z (.s (.s .z (.s (.s .z .z) .z)) (.s .z (.s .z (.s .z (.s (.s .z (.s .z .z)) (.s .z (.s .z .z))))))))))))
theorem oc_wide_MulDiv : okCode Tryz.f57.ntmps ((Tryz.f57.body).getD .skip) an_wide_MulDiv = true := by kernel_rfl
theorem eq_wide_MulDiv (a0 a1 a2 : Value) (h : Heap) (R : Value → Heap → Prop) : sh_wide_MulDiv a0 a1 a2 h R = cFunc Tryz.prog ((Tryz.f57.body).getD .skip) an_wide_MulDiv Tryz.f57.results.toList #[a0, a1, a2].toList h R := by kernel_rfl
theorem ok_wide_MulDiv {a0 a1 a2 : Value} {h : Heap} {R : Value → Heap → Prop} (H : sh_wide_MulDiv a0 a1 a2 h R) : FCall Tryz.prog F_wide_MulDiv #[a0, a1, a2] h R :=
  fcall_of (by kernel_rfl) (fn := Tryz.f57) (c := (Tryz.f57.body).getD .skip) (an := an_wide_MulDiv) (by kernel_rfl) (by kernel_rfl) (by kernel_rfl) oc_wide_MulDiv (by kernel_rfl) (Eq.mp (eq_wide_MulDiv a0 a1 a2 h R) H)

/-! ### math|bits.Len64: function 59 -/
def sh_math_bits_Len64 (a0 : Value) (h : Heap) (R : Value → Heap → Prop) : Prop :=
 joinK (fun J1 =>
 vK (binV .i .geq a0 (.int .u64 4294967296)) fun v5 =>
 iteK v5 (
 vK (binV .i .shr a0 (.int .u64 32)) fun v6 =>
 J1 [v6, (.int .i64 32)] h) (
 J1 [a0, (.int .i64 0)] h))
 fun x2 j3 h4 =>
 joinK (fun J7 =>
 vK (binV .i .geq (ix x2 0) (.int .u64 65536)) fun v11 =>
 iteK v11 (
 vK (binV .i .shr (ix x2 0) (.int .u64 16)) fun v12 =>
 vK (binV .i .add (ix x2 1) (.int .i64 16)) fun v13 =>
 J7 [v12, v13] h4) (
 J7 [(ix x2 0), (ix x2 1)] h4))
 fun x8 j9 h10 =>
 vK (binV .i .geq (ix x8 0) (.int .u64 256)) fun v14 =>
 iteK v14 (
 vK (binV .i .shr (ix x8 0) (.int .u64 8)) fun v15 =>
 vK (binV .i .add (ix x8 1) (.int .i64 8)) fun v16 =>
 vK (cviV .u8 v15) fun v17 =>
 vK (indV (.string ⟨#[0, 1, 2, 2, 3, 3, 3, 3, 4, 4, 4, 4, 4, 4, 4, 4, 5, 5, 5, 5, 5, 5, 5, 5, 5, 5, 5, 5, 5, 5, 5, 5, 6, 6, 6, 6, 6, 6, 6, 6, 6, 6, 6, 6, 6, 6, 6, 6, 6, 6, 6, 6, 6, 6, 6, 6, 6, 6, 6, 6, 6, 6, 6, 6, 7, 7, 7, 7, 7, 7, 7, 7, 7, 7, 7, 7, 7, 7, 7, 7, 7, 7, 7, 7, 7, 7, 7, 7, 7, 7, 7, 7, 7, 7, 7, 7, 7, 7, 7, 7, 7, 7, 7, 7, 7, 7, 7, 7, 7, 7, 7, 7, 7, 7, 7, 7, 7, 7, 7, 7, 7, 7, 7, 7, 7, 7, 7, 7, 8, 8, 8, 8, 8, 8, 8, 8, 8, 8, 8, 8, 8, 8, 8, 8, 8, 8, 8, 8, 8, 8, 8, 8, 8, 8, 8, 8, 8, 8, 8, 8, 8, 8, 8, 8, 8, 8, 8, 8, 8, 8, 8, 8, 8, 8, 8, 8, 8, 8, 8, 8, 8, 8, 8, 8, 8, 8, 8, 8, 8, 8, 8, 8, 8, 8, 8, 8, 8, 8, 8, 8, 8, 8, 8, 8, 8, 8, 8, 8, 8, 8, 8, 8, 8, 8, 8, 8, 8, 8, 8, 8, 8, 8, 8, 8, 8, 8, 8, 8, 8, 8, 8, 8, 8, 8, 8, 8, 8, 8, 8, 8, 8, 8, 8, 8, 8, 8, 8, 8, 8, 8, 8, 8, 8, 8, 8, 8]⟩) v17) fun v18 =>
 vK (cviV .i64 v18) fun v19 =>
 vK (binV .i .add v16 v19) fun v20 =>
 R v20 h10) (
 vK (cviV .u8 (ix x8 0)) fun v21 =>
 vK (indV (.string ⟨#[0, 1, 2, 2, 3, 3, 3, 3, 4, 4, 4, 4, 4, 4, 4, 4, 5, 5, 5, 5, 5, 5, 5, 5, 5, 5, 5, 5, 5, 5, 5, 5, 6, 6, 6, 6, 6, 6, 6, 6, 6, 6, 6, 6, 6, 6, 6, 6, 6, 6, 6, 6, 6, 6, 6, 6, 6, 6, 6, 6, 6, 6, 6, 6, 7, 7, 7, 7, 7, 7, 7, 7, 7, 7, 7, 7, 7, 7, 7, 7, 7, 7, 7, 7, 7, 7, 7, 7, 7, 7, 7, 7, 7, 7, 7, 7, 7, 7, 7, 7, 7, 7, 7, 7, 7, 7, 7, 7, 7, 7, 7, 7, 7, 7, 7, 7, 7, 7, 7, 7, 7, 7, 7, 7, 7, 7, 7, 7, 8, 8, 8, 8, 8, 8, 8, 8, 8, 8, 8, 8, 8, 8, 8, 8, 8, 8, 8, 8, 8, 8, 8, 8, 8, 8, 8, 8, 8, 8, 8, 8, 8, 8, 8, 8, 8, 8, 8, 8, 8, 8, 8, 8, 8, 8, 8, 8, 8, 8, 8, 8, 8, 8, 8, 8, 8, 8, 8, 8, 8, 8, 8, 8, 8, 8, 8, 8, 8, 8, 8, 8, 8, 8, 8, 8, 8, 8, 8, 8, 8, 8, 8, 8, 8, 8, 8, 8, 8, 8, 8, 8, 8, 8, 8, 8, 8, 8, 8, 8, 8, 8, 8, 8, 8, 8, 8, 8, 8, 8, 8, 8, 8, 8, 8, 8, 8, 8, 8, 8, 8, 8, 8, 8, 8, 8, 8, 8]⟩) v21) fun v22 =>
 vK (cviV .i64 v22) fun v23 =>
 vK (binV .i .add (ix x8 1) v23) fun v24 =>
 R v24 h10)
noncomputable def an_math_bits_Len64 : Ann := (.s .z (.j 125 [0, 2] (.s .z (.s (.s .z .z) .z)) (.j 8069 [0, 2] (.s .z (.s (.s .z .z) .z)) (.s (.s .z (.s (.s .z .z) .z)) (.s .z .z)))))
theorem oc_math_bits_Len64 : okCode Tryz.f59.ntmps ((Tryz.f59.body).getD .skip) an_math_bits_Len64 = true := by kernel_rfl
theorem eq_math_bits_Len64 (a0 : Value) (h : Heap) (R : Value → Heap → Prop) : sh_math_bits_Len64 a0 h R = cFunc Tryz.prog ((Tryz.f59.body).getD .skip) an_math_bits_Len64 Tryz.f59.results.toList #[a0].toList h R := by kernel_rfl
theorem ok_math_bits_Len64 {a0 : Value} {h : Heap} {R : Value → Heap → Prop} (H : sh_math_bits_Len64 a0 h R) : FCall Tryz.prog F_math_bits_Len64 #[a0] h R :=
  fcall_of (by kernel_rfl) (fn := Tryz.f59) (c := (Tryz.f59.body).getD .skip) (an := an_math_bits_Len64) (by kernel_rfl) (by kernel_rfl) (by kernel_rfl) oc_math_bits_Len64 (by kernel_rfl) (Eq.mp (eq_math_bits_Len64 a0 h R) H)

/-! ### smalto|raw.may: function 65 -/
def sh_raw_may (a0 a1 a2 a3 : Value) (h : Heap) (R : Value → Heap → Prop) : Prop :=
 vK (binV .i .geq a0 (.int .i64 0)) fun v1 =>
 vK (gV v1 true (some a0)) fun v2 =>
 vK (gV v1 true (binV .i .lss v2 (.int .i64 3))) fun v3 =>
 vK (pickV v1 v3 (.bool false)) fun v4 =>
 vK (gV v4 true (some a1)) fun v5 =>
 vK (gV v4 true (binV .i .geq v5 (.int .i64 1))) fun v6 =>
 vK (pickV v4 v6 (.bool false)) fun v7 =>
 vK (gV v7 true (some a1)) fun v8 =>
 vK (gV v7 true (binV .i .leq v8 (.int .i64 65536))) fun v9 =>
 vK (pickV v7 v9 (.bool false)) fun v10 =>
 vK (gV v10 true (some a2)) fun v11 =>
 vK (gV v10 true (binV .i .geq v11 (.int .i64 1))) fun v12 =>
 vK (pickV v10 v12 (.bool false)) fun v13 =>
 vK (gV v13 true (some a2)) fun v14 =>
 vK (gV v13 true (binV .i .leq v14 (.int .i64 65536))) fun v15 =>
 vK (pickV v13 v15 (.bool false)) fun v16 =>
 vK (gV v16 true (some a3)) fun v17 =>
 vK (gV v16 true (binV .i .geq v17 (.int .i64 0))) fun v18 =>
 vK (pickV v16 v18 (.bool false)) fun v19 =>
 vK (gV v19 true (some a3)) fun v20 =>
 vK (gV v19 true (some a2)) fun v21 =>
 vK (gV v19 true (binV .i .lss v20 v21)) fun v22 =>
 vK (pickV v19 v22 (.bool false)) fun v23 =>
 R v23 h
noncomputable def an_raw_may : Ann := (.s .z (.s .z .z))
theorem oc_raw_may : okCode Tryz.f65.ntmps ((Tryz.f65.body).getD .skip) an_raw_may = true := by kernel_rfl
theorem eq_raw_may (a0 a1 a2 a3 : Value) (h : Heap) (R : Value → Heap → Prop) : sh_raw_may a0 a1 a2 a3 h R = cFunc Tryz.prog ((Tryz.f65.body).getD .skip) an_raw_may Tryz.f65.results.toList #[a0, a1, a2, a3].toList h R := by kernel_rfl
theorem ok_raw_may {a0 a1 a2 a3 : Value} {h : Heap} {R : Value → Heap → Prop} (H : sh_raw_may a0 a1 a2 a3 h R) : FCall Tryz.prog F_raw_may #[a0, a1, a2, a3] h R :=
  fcall_of (by kernel_rfl) (fn := Tryz.f65) (c := (Tryz.f65.body).getD .skip) (an := an_raw_may) (by kernel_rfl) (by kernel_rfl) (by kernel_rfl) oc_raw_may (by kernel_rfl) (Eq.mp (eq_raw_may a0 a1 a2 a3 h R) H)

/-! ### smalto|raw.ceil: function 66 -/
def sh_raw_ceil (a0 a1 : Value) (h : Heap) (R : Value → Heap → Prop) : Prop :=
 vK (unV .neg a0) fun v1 =>
 FCall Tryz.prog F_fixed_Floor #[v1, a1] h fun v2 h3 =>
 vK (unV .neg v2) fun v4 =>
 R v4 h3
noncomputable def an_raw_ceil : Ann := (.s .z (.s .z .z))
theorem oc_raw_ceil : okCode Tryz.f66.ntmps ((Tryz.f66.body).getD .skip) an_raw_ceil = true := by kernel_rfl
theorem eq_raw_ceil (a0 a1 : Value) (h : Heap) (R : Value → Heap → Prop) : sh_raw_ceil a0 a1 h R = cFunc Tryz.prog ((Tryz.f66.body).getD .skip) an_raw_ceil Tryz.f66.results.toList #[a0, a1].toList h R := by kernel_rfl
theorem ok_raw_ceil {a0 a1 : Value} {h : Heap} {R : Value → Heap → Prop} (H : sh_raw_ceil a0 a1 h R) : FCall Tryz.prog F_raw_ceil #[a0, a1] h R :=
  fcall_of (by kernel_rfl) (fn := Tryz.f66) (c := (Tryz.f66.body).getD .skip) (an := an_raw_ceil) (by kernel_rfl) (by kernel_rfl) (by kernel_rfl) oc_raw_ceil (by kernel_rfl) (Eq.mp (eq_raw_ceil a0 a1 h R) H)

/-! ### smalto|raw.Keys: function 67 -/
def sh_raw_Keys (a0 a1 : Value) (h : Heap) (R : Value → Heap → Prop) : Prop :=
 vK (binV .i .lss a1 (.int .i64 1)) fun v1 =>
 vK (gV v1 false (some a1)) fun v2 =>
 vK (gV v1 false (binV .i .gtr v2 (.int .i64 262144))) fun v3 =>
 vK (pickV v1 (.bool true) v3) fun v4 =>
 vK (gV v4 false (some a0)) fun v5 =>
 vK (gV v4 false (some a1)) fun v6 =>
 vK (gV v4 false (binV .i .mul (.int .i64 2) v6)) fun v7 =>
 vK (gV v4 false (binV .i .geq v5 v7)) fun v8 =>
 vK (pickV v4 (.bool true) v8) fun v9 =>
 vK (gV v9 false (some a0)) fun v10 =>
 vK (gV v9 false (some a1)) fun v11 =>
 vK (gV v9 false (binV .i .mul (.int .i64 (-2)) v11)) fun v12 =>
 vK (gV v9 false (binV .i .leq v10 v12)) fun v13 =>
 vK (pickV v9 (.bool true) v13) fun v14 =>
 iteK v14 (
 R (.int .i64 0) h) (
 vK (unV .neg a0) fun v15 =>
 vK (maxV a0 v15) fun v16 =>
 vK (binV .i .mul (.int .i64 3) v16) fun v17 =>
 vK (binV .i .mul v17 v16) fun v18 =>
 vK (binV .i .mul v18 v16) fun v19 =>
 vK (binV .i .mul (.int .i64 5) v16) fun v20 =>
 vK (binV .i .mul v20 v16) fun v21 =>
 vK (binV .i .mul v21 a1) fun v22 =>
 vK (binV .i .sub v19 v22) fun v23 =>
 vK (binV .i .mul (.int .i64 2) a1) fun v24 =>
 vK (binV .i .mul v24 a1) fun v25 =>
 vK (binV .i .mul v25 a1) fun v26 =>
 vK (binV .i .add v23 v26) fun v27 =>
 vK (binV .i .geq v16 a1) fun v28 =>
 iteK v28 (
 vK (unV .neg v16) fun v29 =>
 vK (binV .i .mul v29 v16) fun v30 =>
 vK (binV .i .mul v30 v16) fun v31 =>
 vK (binV .i .mul (.int .i64 5) v16) fun v32 =>
 vK (binV .i .mul v32 v16) fun v33 =>
 vK (binV .i .mul v33 a1) fun v34 =>
 vK (binV .i .add v31 v34) fun v35 =>
 vK (binV .i .mul (.int .i64 8) v16) fun v36 =>
 vK (binV .i .mul v36 a1) fun v37 =>
 vK (binV .i .mul v37 a1) fun v38 =>
 vK (binV .i .sub v35 v38) fun v39 =>
 vK (binV .i .mul (.int .i64 4) a1) fun v40 =>
 vK (binV .i .mul v40 a1) fun v41 =>
 vK (binV .i .mul v41 a1) fun v42 =>
 vK (binV .i .add v39 v42) fun v43 =>
 vK (binV .i .mul (.int .i64 2) a1) fun v44 =>
 vK (binV .i .mul v44 a1) fun v45 =>
 vK (binV .i .mul v45 a1) fun v46 =>
 FCall Tryz.prog F_wide_MulDiv #[v43, (.int .i64 1073741824), v46] h fun v47 h48 =>
 R v47 h48) (
 vK (binV .i .mul (.int .i64 2) a1) fun v49 =>
 vK (binV .i .mul v49 a1) fun v50 =>
 vK (binV .i .mul v50 a1) fun v51 =>
 FCall Tryz.prog F_wide_MulDiv #[v27, (.int .i64 1073741824), v51] h fun v52 h53 =>
 R v52 h53))
noncomputable def an_raw_Keys : Ann := (.s .z (.s (.s .z (.s (.s .z .z) .z)) (.s .z (.s .z (.s (.s .z (.s .z .z)) (.s .z .z))))))
theorem oc_raw_Keys : okCode Tryz.f67.ntmps ((Tryz.f67.body).getD .skip) an_raw_Keys = true := by kernel_rfl
theorem eq_raw_Keys (a0 a1 : Value) (h : Heap) (R : Value → Heap → Prop) : sh_raw_Keys a0 a1 h R = cFunc Tryz.prog ((Tryz.f67.body).getD .skip) an_raw_Keys Tryz.f67.results.toList #[a0, a1].toList h R := by kernel_rfl
theorem ok_raw_Keys {a0 a1 : Value} {h : Heap} {R : Value → Heap → Prop} (H : sh_raw_Keys a0 a1 h R) : FCall Tryz.prog F_raw_Keys #[a0, a1] h R :=
  fcall_of (by kernel_rfl) (fn := Tryz.f67) (c := (Tryz.f67.body).getD .skip) (an := an_raw_Keys) (by kernel_rfl) (by kernel_rfl) (by kernel_rfl) oc_raw_Keys (by kernel_rfl) (Eq.mp (eq_raw_Keys a0 a1 h R) H)

/-! ### smalto|sinc.Lanczos: function 68 -/
def sh_sinc_Lanczos (a0 a1 : Value) (h : Heap) (R : Value → Heap → Prop) : Prop :=
 FCall Tryz.prog F_sinc_May #[a0, a1] h fun v1 h2 =>
 vK (unV .not v1) fun v3 =>
 vK (gV v3 false (some a0)) fun v4 =>
 gK v3 false (fun k20 => FCall Tryz.prog F_sinc_size #[v4] h2 k20) h2 fun v5 h6 =>
 vK (gV v3 false (some a1)) fun v7 =>
 vK (gV v3 false (binV .i .mul (.int .i64 3) v7)) fun v8 =>
 vK (gV v3 false (binV .i .geq v5 v8)) fun v9 =>
 vK (pickV v3 (.bool true) v9) fun v10 =>
 iteK v10 (
 R (.int .i64 0) h6) (
 FCall Tryz.prog F_sinc_series #[a0, a1] h6 fun v11 h12 =>
 vK (binV .i .mul (.int .i64 3) a1) fun v13 =>
 FCall Tryz.prog F_sinc_series #[a0, v13] h12 fun v14 h15 =>
 FCall Tryz.prog F_wide_MulShift #[v11, v14, (.int .i64 40)] h15 fun v16 h17 =>
 FCall Tryz.prog F_fixed_Shift #[v16, (.int .i64 10)] h17 fun v18 h19 =>
 R v18 h19)
noncomputable def an_sinc_Lanczos : Ann := (.s .z (.s (.s .z (.s (.s .z .z) .z)) (.s .z .z)))
theorem oc_sinc_Lanczos : okCode Tryz.f68.ntmps ((Tryz.f68.body).getD .skip) an_sinc_Lanczos = true := by kernel_rfl
theorem eq_sinc_Lanczos (a0 a1 : Value) (h : Heap) (R : Value → Heap → Prop) : sh_sinc_Lanczos a0 a1 h R = cFunc Tryz.prog ((Tryz.f68.body).getD .skip) an_sinc_Lanczos Tryz.f68.results.toList #[a0, a1].toList h R := by kernel_rfl
theorem ok_sinc_Lanczos {a0 a1 : Value} {h : Heap} {R : Value → Heap → Prop} (H : sh_sinc_Lanczos a0 a1 h R) : FCall Tryz.prog F_sinc_Lanczos #[a0, a1] h R :=
  fcall_of (by kernel_rfl) (fn := Tryz.f68) (c := (Tryz.f68.body).getD .skip) (an := an_sinc_Lanczos) (by kernel_rfl) (by kernel_rfl) (by kernel_rfl) oc_sinc_Lanczos (by kernel_rfl) (Eq.mp (eq_sinc_Lanczos a0 a1 h R) H)

/-! ### slices.ContainsFunc[[]int64,int64]: function 69 -/
def sh_slices_ContainsFunc_sl_int64_int64 (a0 a1 : Value) (h : Heap) (R : Value → Heap → Prop) : Prop :=
 FCall Tryz.prog F_slices_IndexFunc_sl_int64_int64 #[a0, a1] h fun v1 h2 =>
 vK (binV .i .geq v1 (.int .i64 0)) fun v3 =>
 R v3 h2
noncomputable def an_slices_ContainsFunc_sl_int64_int64 : Ann := (.s .z (.s .z .z))
theorem oc_slices_ContainsFunc_sl_int64_int64 : okCode Tryz.f69.ntmps ((Tryz.f69.body).getD .skip) an_slices_ContainsFunc_sl_int64_int64 = true := by kernel_rfl
theorem eq_slices_ContainsFunc_sl_int64_int64 (a0 a1 : Value) (h : Heap) (R : Value → Heap → Prop) : sh_slices_ContainsFunc_sl_int64_int64 a0 a1 h R = cFunc Tryz.prog ((Tryz.f69.body).getD .skip) an_slices_ContainsFunc_sl_int64_int64 Tryz.f69.results.toList #[a0, a1].toList h R := by kernel_rfl
theorem ok_slices_ContainsFunc_sl_int64_int64 {a0 a1 : Value} {h : Heap} {R : Value → Heap → Prop} (H : sh_slices_ContainsFunc_sl_int64_int64 a0 a1 h R) : FCall Tryz.prog F_slices_ContainsFunc_sl_int64_int64 #[a0, a1] h R :=
  fcall_of (by kernel_rfl) (fn := Tryz.f69) (c := (Tryz.f69.body).getD .skip) (an := an_slices_ContainsFunc_sl_int64_int64) (by kernel_rfl) (by kernel_rfl) (by kernel_rfl) oc_slices_ContainsFunc_sl_int64_int64 (by kernel_rfl) (Eq.mp (eq_slices_ContainsFunc_sl_int64_int64 a0 a1 h R) H)

/-! ### smalto|taps.check$1: function 70 -/
def sh_taps_check_c1 (a0 : Value) (h : Heap) (R : Value → Heap → Prop) : Prop :=
 FCall Tryz.prog F_taps_size #[a0] h fun v1 h2 =>
 vK (binV .i .gtr v1 (.int .i64 1099511627776)) fun v3 =>
 R v3 h2
noncomputable def an_taps_check_c1 : Ann := (.s .z (.s .z .z))
theorem oc_taps_check_c1 : okCode Tryz.f70.ntmps ((Tryz.f70.body).getD .skip) an_taps_check_c1 = true := by kernel_rfl
theorem eq_taps_check_c1 (a0 : Value) (h : Heap) (R : Value → Heap → Prop) : sh_taps_check_c1 a0 h R = cFunc Tryz.prog ((Tryz.f70.body).getD .skip) an_taps_check_c1 Tryz.f70.results.toList #[a0].toList h R := by kernel_rfl
theorem ok_taps_check_c1 {a0 : Value} {h : Heap} {R : Value → Heap → Prop} (H : sh_taps_check_c1 a0 h R) : FCall Tryz.prog F_taps_check_c1 #[a0] h R :=
  fcall_of (by kernel_rfl) (fn := Tryz.f70) (c := (Tryz.f70.body).getD .skip) (an := an_taps_check_c1) (by kernel_rfl) (by kernel_rfl) (by kernel_rfl) oc_taps_check_c1 (by kernel_rfl) (Eq.mp (eq_taps_check_c1 a0 h R) H)

/-! ### smalto|taps.size: function 71 -/
def sh_taps_size (a0 : Value) (h : Heap) (R : Value → Heap → Prop) : Prop :=
 FCall Tryz.prog F_fixed_Mul #[a0, (.int .i64 (-1))] h fun v1 h2 =>
 vK (maxV a0 v1) fun v3 =>
 R v3 h2
noncomputable def an_taps_size : Ann := (.s .z (.s .z .z))
theorem oc_taps_size : okCode Tryz.f71.ntmps ((Tryz.f71.body).getD .skip) an_taps_size = true := by kernel_rfl
theorem eq_taps_size (a0 : Value) (h : Heap) (R : Value → Heap → Prop) : sh_taps_size a0 h R = cFunc Tryz.prog ((Tryz.f71.body).getD .skip) an_taps_size Tryz.f71.results.toList #[a0].toList h R := by kernel_rfl
theorem ok_taps_size {a0 : Value} {h : Heap} {R : Value → Heap → Prop} (H : sh_taps_size a0 h R) : FCall Tryz.prog F_taps_size #[a0] h R :=
  fcall_of (by kernel_rfl) (fn := Tryz.f71) (c := (Tryz.f71.body).getD .skip) (an := an_taps_size) (by kernel_rfl) (by kernel_rfl) (by kernel_rfl) oc_taps_size (by kernel_rfl) (Eq.mp (eq_taps_size a0 h R) H)

/-! ### smalto|fixed.Add: function 72 -/
def sh_fixed_Add (a0 a1 : Value) (h : Heap) (R : Value → Heap → Prop) : Prop :=
 vK (binV .i .add a0 a1) fun v1 =>
 vK (binV .i .gtr a1 (.int .i64 0)) fun v2 =>
 vK (gV v2 true (some v1)) fun v3 =>
 vK (gV v2 true (some a0)) fun v4 =>
 vK (gV v2 true (binV .i .lss v3 v4)) fun v5 =>
 vK (pickV v2 v5 (.bool false)) fun v6 =>
 iteK v6 (
 R (.int .i64 9223372036854775807) h) (
 vK (binV .i .lss a1 (.int .i64 0)) fun v7 =>
 vK (gV v7 true (some v1)) fun v8 =>
 vK (gV v7 true (some a0)) fun v9 =>
 vK (gV v7 true (binV .i .gtr v8 v9)) fun v10 =>
 vK (pickV v7 v10 (.bool false)) fun v11 =>
 iteK v11 (
 R (.int .i64 (-9223372036854775808)) h) (
 R v1 h))
noncomputable def an_fixed_Add : Ann := (.s .z (.s .z (.s (.s .z (.s (.s .z .z) (.s .z (.s (.s .z .z) .z)))) (.s .z .z))))
theorem oc_fixed_Add : okCode Tryz.f72.ntmps ((Tryz.f72.body).getD .skip) an_fixed_Add = true := by kernel_rfl
theorem eq_fixed_Add (a0 a1 : Value) (h : Heap) (R : Value → Heap → Prop) : sh_fixed_Add a0 a1 h R = cFunc Tryz.prog ((Tryz.f72.body).getD .skip) an_fixed_Add Tryz.f72.results.toList #[a0, a1].toList h R := by kernel_rfl
theorem ok_fixed_Add {a0 a1 : Value} {h : Heap} {R : Value → Heap → Prop} (H : sh_fixed_Add a0 a1 h R) : FCall Tryz.prog F_fixed_Add #[a0, a1] h R :=
  fcall_of (by kernel_rfl) (fn := Tryz.f72) (c := (Tryz.f72.body).getD .skip) (an := an_fixed_Add) (by kernel_rfl) (by kernel_rfl) (by kernel_rfl) oc_fixed_Add (by kernel_rfl) (Eq.mp (eq_fixed_Add a0 a1 h R) H)

/-! ### smalto|fixed.size: function 73 -/
def sh_fixed_size (a0 : Value) (h : Heap) (R : Value → Heap → Prop) : Prop :=
 vK (binV .i .lss a0 (.int .i64 0)) fun v1 =>
 iteK v1 (
 vK (cviV .u64 a0) fun v2 =>
 vK (unV .neg v2) fun v3 =>
 R v3 h) (
 vK (cviV .u64 a0) fun v4 =>
 R v4 h)
noncomputable def an_fixed_size : Ann := (.s .z (.s (.s .z (.s (.s .z .z) .z)) (.s .z .z)))
theorem oc_fixed_size : okCode Tryz.f73.ntmps ((Tryz.f73.body).getD .skip) an_fixed_size = true := by kernel_rfl
theorem eq_fixed_size (a0 : Value) (h : Heap) (R : Value → Heap → Prop) : sh_fixed_size a0 h R = cFunc Tryz.prog ((Tryz.f73.body).getD .skip) an_fixed_size Tryz.f73.results.toList #[a0].toList h R := by kernel_rfl
theorem ok_fixed_size {a0 : Value} {h : Heap} {R : Value → Heap → Prop} (H : sh_fixed_size a0 h R) : FCall Tryz.prog F_fixed_size #[a0] h R :=
  fcall_of (by kernel_rfl) (fn := Tryz.f73) (c := (Tryz.f73.body).getD .skip) (an := an_fixed_size) (by kernel_rfl) (by kernel_rfl) (by kernel_rfl) oc_fixed_size (by kernel_rfl) (Eq.mp (eq_fixed_size a0 h R) H)

/-! ### smalto|fixed.hold: function 74 -/
def sh_fixed_hold (a0 a1 : Value) (h : Heap) (R : Value → Heap → Prop) : Prop :=
 vK (gV a1 true (some a0)) fun v1 =>
 vK (gV a1 true (binV .i .geq v1 (.int .u64 9223372036854775808))) fun v2 =>
 vK (pickV a1 v2 (.bool false)) fun v3 =>
 iteK v3 (
 R (.int .i64 (-9223372036854775808)) h) (
 iteK a1 (
 vK (cviV .i64 a0) fun v4 =>
 vK (unV .neg v4) fun v5 =>
 R v5 h) (
 vK (binV .i .gtr a0 (.int .u64 9223372036854775807)) fun v6 =>
 iteK v6 (
 R (.int .i64 9223372036854775807) h) (
 vK (cviV .i64 a0) fun v7 =>
 R v7 h)))
noncomputable def an_fixed_hold : Ann := (.s .z (.s (.s .z (.s (.s .z .z) (.s .z (.s (.s .z .z) (.s .z (.s (.s .z .z) .z)))))) (.s .z .z)))
theorem oc_fixed_hold : okCode Tryz.f74.ntmps ((Tryz.f74.body).getD .skip) an_fixed_hold = true := by kernel_rfl
theorem eq_fixed_hold (a0 a1 : Value) (h : Heap) (R : Value → Heap → Prop) : sh_fixed_hold a0 a1 h R = cFunc Tryz.prog ((Tryz.f74.body).getD .skip) an_fixed_hold Tryz.f74.results.toList #[a0, a1].toList h R := by kernel_rfl
theorem ok_fixed_hold {a0 a1 : Value} {h : Heap} {R : Value → Heap → Prop} (H : sh_fixed_hold a0 a1 h R) : FCall Tryz.prog F_fixed_hold #[a0, a1] h R :=
  fcall_of (by kernel_rfl) (fn := Tryz.f74) (c := (Tryz.f74.body).getD .skip) (an := an_fixed_hold) (by kernel_rfl) (by kernel_rfl) (by kernel_rfl) oc_fixed_hold (by kernel_rfl) (Eq.mp (eq_fixed_hold a0 a1 h R) H)

/-! ### slices.stableCmpFunc[int]: function 75 -/
def sh_slices_stableCmpFunc_int (a0 a1 a2 : Value) (h : Heap) (R : Value → Heap → Prop) : Prop :=
 loopK [(.int .i64 0), (.int .i64 20)] h fun x1 j2 h3 again4 =>
 vK (binV .i .leq (ix x1 1) a1) fun v5 =>
 iteK v5 (
 FCall Tryz.prog F_slices_insertionSortCmpFunc_int #[a0, (ix x1 0), (ix x1 1), a2] h3 fun v6 h7 =>
 vK (binV .i .add (ix x1 1) (.int .i64 20)) fun v8 =>
 again4 [(ix x1 1), v8] h7) (
 FCall Tryz.prog F_slices_insertionSortCmpFunc_int #[a0, (ix x1 0), a1, a2] h3 fun v9 h10 =>
 loopK [(.int .i64 20)] h10 fun x11 j12 h13 again14 =>
 vK (binV .i .lss (ix x11 0) a1) fun v15 =>
 iteK v15 (
 vK (binV .i .mul (.int .i64 2) (ix x11 0)) fun v16 =>
 loopK [(.int .i64 0), v16] h13 fun x17 j18 h19 again20 =>
 vK (binV .i .leq (ix x17 1) a1) fun v21 =>
 iteK v21 (
 vK (binV .i .add (ix x17 0) (ix x11 0)) fun v22 =>
 FCall Tryz.prog F_slices_symMergeCmpFunc_int #[a0, (ix x17 0), v22, (ix x17 1), a2] h19 fun v23 h24 =>
 vK (binV .i .mul (.int .i64 2) (ix x11 0)) fun v25 =>
 vK (binV .i .add (ix x17 1) v25) fun v26 =>
 again20 [(ix x17 1), v26] h24) (
 vK (binV .i .add (ix x17 0) (ix x11 0)) fun v27 =>
 vK (binV .i .lss v27 a1) fun v28 =>
 iteK v28 (
 FCall Tryz.prog F_slices_symMergeCmpFunc_int #[a0, (ix x17 0), v27, a1, a2] h19 fun v29 h30 =>
 vK (binV .i .mul (ix x11 0) (.int .i64 2)) fun v31 =>
 again14 [v31] h30) (
 vK (binV .i .mul (ix x11 0) (.int .i64 2)) fun v32 =>
 again14 [v32] h19))) (
 R (.tuple #[]) h13))
noncomputable def an_slices_stableCmpFunc_int : Ann := (.s .z (.s .z (.s (.l 8386944 [7, 8] (.s (.s .z (.s .z .z)) (.s .z (.s .z .z)))) (.s .z (.l 9223372036586341312 [6] (.s (.s .z (.s .z .z)) (.s .z (.s (.l 562941363487104 [7, 8] (.s (.s .z (.s .z .z)) (.s .z (.s .z .z)))) (.s (.s .z (.s .z (.s .z .z))) .z)))))))))
theorem oc_slices_stableCmpFunc_int : okCode Tryz.f75.ntmps ((Tryz.f75.body).getD .skip) an_slices_stableCmpFunc_int = true := by kernel_rfl
theorem eq_slices_stableCmpFunc_int (a0 a1 a2 : Value) (h : Heap) (R : Value → Heap → Prop) : sh_slices_stableCmpFunc_int a0 a1 a2 h R = cFunc Tryz.prog ((Tryz.f75.body).getD .skip) an_slices_stableCmpFunc_int Tryz.f75.results.toList #[a0, a1, a2].toList h R := by kernel_rfl
theorem ok_slices_stableCmpFunc_int {a0 a1 a2 : Value} {h : Heap} {R : Value → Heap → Prop} (H : sh_slices_stableCmpFunc_int a0 a1 a2 h R) : FCall Tryz.prog F_slices_stableCmpFunc_int #[a0, a1, a2] h R :=
  fcall_of (by kernel_rfl) (fn := Tryz.f75) (c := (Tryz.f75.body).getD .skip) (an := an_slices_stableCmpFunc_int) (by kernel_rfl) (by kernel_rfl) (by kernel_rfl) oc_slices_stableCmpFunc_int (by kernel_rfl) (Eq.mp (eq_slices_stableCmpFunc_int a0 a1 a2 h R) H)

/-! ### cmp.isNaN[int64]: function 76 -/
def sh_cmp_isNaN_int64 (a0 : Value) (h : Heap) (R : Value → Heap → Prop) : Prop :=
 vK (binV .i .neq a0 a0) fun v1 =>
 R v1 h
noncomputable def an_cmp_isNaN_int64 : Ann := (.s .z (.s .z .z))
theorem oc_cmp_isNaN_int64 : okCode Tryz.f76.ntmps ((Tryz.f76.body).getD .skip) an_cmp_isNaN_int64 = true := by kernel_rfl
theorem eq_cmp_isNaN_int64 (a0 : Value) (h : Heap) (R : Value → Heap → Prop) : sh_cmp_isNaN_int64 a0 h R = cFunc Tryz.prog ((Tryz.f76.body).getD .skip) an_cmp_isNaN_int64 Tryz.f76.results.toList #[a0].toList h R := by kernel_rfl
theorem ok_cmp_isNaN_int64 {a0 : Value} {h : Heap} {R : Value → Heap → Prop} (H : sh_cmp_isNaN_int64 a0 h R) : FCall Tryz.prog F_cmp_isNaN_int64 #[a0] h R :=
  fcall_of (by kernel_rfl) (fn := Tryz.f76) (c := (Tryz.f76.body).getD .skip) (an := an_cmp_isNaN_int64) (by kernel_rfl) (by kernel_rfl) (by kernel_rfl) oc_cmp_isNaN_int64 (by kernel_rfl) (Eq.mp (eq_cmp_isNaN_int64 a0 h R) H)

/-! ### smalto|fixed.Shift: function 77 -/
def sh_fixed_Shift (a0 a1 : Value) (h : Heap) (R : Value → Heap → Prop) : Prop :=
 vK (binV .i .leq a1 (.int .i64 0)) fun v1 =>
 iteK v1 (
 R a0 h) (
 vK (binV .i .geq a1 (.int .i64 64)) fun v2 =>
 iteK v2 (
 R (.int .i64 0) h) (
 vK (binV .i .shr a0 a1) fun v3 =>
 vK (binV .i .sub a1 (.int .i64 1)) fun v4 =>
 vK (binV .i .shr a0 v4) fun v5 =>
 vK (binV .i .and v5 (.int .i64 1)) fun v6 =>
 vK (binV .i .add v3 v6) fun v7 =>
 R v7 h))
noncomputable def an_fixed_Shift : Ann := (.s .z (.s (.s .z (.s (.s .z .z) .z)) (.s (.s .z (.s (.s .z .z) .z)) (.s .z .z))))
theorem oc_fixed_Shift : okCode Tryz.f77.ntmps ((Tryz.f77.body).getD .skip) an_fixed_Shift = true := by kernel_rfl
theorem eq_fixed_Shift (a0 a1 : Value) (h : Heap) (R : Value → Heap → Prop) : sh_fixed_Shift a0 a1 h R = cFunc Tryz.prog ((Tryz.f77.body).getD .skip) an_fixed_Shift Tryz.f77.results.toList #[a0, a1].toList h R := by kernel_rfl
theorem ok_fixed_Shift {a0 a1 : Value} {h : Heap} {R : Value → Heap → Prop} (H : sh_fixed_Shift a0 a1 h R) : FCall Tryz.prog F_fixed_Shift #[a0, a1] h R :=
  fcall_of (by kernel_rfl) (fn := Tryz.f77) (c := (Tryz.f77.body).getD .skip) (an := an_fixed_Shift) (by kernel_rfl) (by kernel_rfl) (by kernel_rfl) oc_fixed_Shift (by kernel_rfl) (Eq.mp (eq_fixed_Shift a0 a1 h R) H)

/-! ### smalto|expo.Exp: function 78 -/
def sh_expo_Exp (a0 : Value) (h : Heap) (R : Value → Heap → Prop) : Prop :=
 vK (maxV (.int .i64 0) a0) fun v1 =>
 vK (binV .i .quo v1 (.int .i64 762123384786)) fun v2 =>
 vK (binV .i .rem v1 (.int .i64 762123384786)) fun v3 =>
 loopK [(.int .i64 1099511627776), (.int .i64 1099511627776), (.int .i64 0)] h fun x4 j5 h6 again7 =>
 vK (binV .i .lss (ix x4 2) (.int .i64 16)) fun v8 =>
 iteK v8 (
 vK (binV .i .add (ix x4 2) (.int .i64 1)) fun v9 =>
 vK (binV .i .shl v9 (.int .u64 40)) fun v10 =>
 FCall Tryz.prog F_wide_MulDiv #[(ix x4 1), v3, v10] h6 fun v11 h12 =>
 vK (binV .i .rem (ix x4 2) (.int .i64 2)) fun v13 =>
 vK (binV .i .eql v13 (.int .i64 0)) fun v14 =>
 iteK v14 (
 vK (binV .i .sub (ix x4 0) v11) fun v15 =>
 vK (binV .i .add (ix x4 2) (.int .i64 1)) fun v16 =>
 again7 [v15, v11, v16] h12) (
 vK (binV .i .add (ix x4 0) v11) fun v17 =>
 vK (binV .i .add (ix x4 2) (.int .i64 1)) fun v18 =>
 again7 [v17, v11, v18] h12)) (
 FCall Tryz.prog F_fixed_Shift #[(ix x4 0), v2] h6 fun v19 h20 =>
 R v19 h20)
noncomputable def an_expo_Exp : Ann := (.s .z (.s .z (.s .z (.s .z (.s (.s .z (.l 8589918432 [5, 6, 14] (.s .z (.s (.s .z .z) (.s (.s .z (.s .z (.s .z (.s .z .z)))) .z))))) (.s .z .z))))))
theorem oc_expo_Exp : okCode Tryz.f78.ntmps ((Tryz.f78.body).getD .skip) an_expo_Exp = true := by kernel_rfl
theorem eq_expo_Exp (a0 : Value) (h : Heap) (R : Value → Heap → Prop) : sh_expo_Exp a0 h R = cFunc Tryz.prog ((Tryz.f78.body).getD .skip) an_expo_Exp Tryz.f78.results.toList #[a0].toList h R := by kernel_rfl
theorem ok_expo_Exp {a0 : Value} {h : Heap} {R : Value → Heap → Prop} (H : sh_expo_Exp a0 h R) : FCall Tryz.prog F_expo_Exp #[a0] h R :=
  fcall_of (by kernel_rfl) (fn := Tryz.f78) (c := (Tryz.f78.body).getD .skip) (an := an_expo_Exp) (by kernel_rfl) (by kernel_rfl) (by kernel_rfl) oc_expo_Exp (by kernel_rfl) (Eq.mp (eq_expo_Exp a0 h R) H)

/-! ### smalto|expo.Ratio: function 79 -/
def sh_expo_Ratio (a0 a1 : Value) (h : Heap) (R : Value → Heap → Prop) : Prop :=
 vK (binV .i .lss a1 (.int .i64 1)) fun v1 =>
 vK (gV v1 false (some a1)) fun v2 =>
 vK (gV v1 false (binV .i .gtr v2 (.int .i64 4194304))) fun v3 =>
 vK (pickV v1 (.bool true) v3) fun v4 =>
 vK (gV v4 false (some a0)) fun v5 =>
 vK (gV v4 false (binV .i .lss v5 (.int .i64 (-16384)))) fun v6 =>
 vK (pickV v4 (.bool true) v6) fun v7 =>
 vK (gV v7 false (some a0)) fun v8 =>
 vK (gV v7 false (binV .i .gtr v8 (.int .i64 16384))) fun v9 =>
 vK (pickV v7 (.bool true) v9) fun v10 =>
 iteK v10 (
 R (.int .i64 9223372036854775807) h) (
 vK (binV .i .mul a0 a0) fun v11 =>
 vK (binV .i .shl v11 (.int .u64 31)) fun v12 =>
 vK (binV .i .mul a1 a1) fun v13 =>
 FCall Tryz.prog F_wide_MulDiv #[v12, (.int .i64 1099511627776), v13] h fun v14 h15 =>
 R v14 h15)
noncomputable def an_expo_Ratio : Ann := (.s .z (.s (.s .z (.s (.s .z .z) .z)) (.s .z .z)))
theorem oc_expo_Ratio : okCode Tryz.f79.ntmps ((Tryz.f79.body).getD .skip) an_expo_Ratio = true := by kernel_rfl
theorem eq_expo_Ratio (a0 a1 : Value) (h : Heap) (R : Value → Heap → Prop) : sh_expo_Ratio a0 a1 h R = cFunc Tryz.prog ((Tryz.f79.body).getD .skip) an_expo_Ratio Tryz.f79.results.toList #[a0, a1].toList h R := by kernel_rfl
theorem ok_expo_Ratio {a0 a1 : Value} {h : Heap} {R : Value → Heap → Prop} (H : sh_expo_Ratio a0 a1 h R) : FCall Tryz.prog F_expo_Ratio #[a0, a1] h R :=
  fcall_of (by kernel_rfl) (fn := Tryz.f79) (c := (Tryz.f79.body).getD .skip) (an := an_expo_Ratio) (by kernel_rfl) (by kernel_rfl) (by kernel_rfl) oc_expo_Ratio (by kernel_rfl) (Eq.mp (eq_expo_Ratio a0 a1 h R) H)

/-! ### math|bits.Mul: function 80 -/
def sh_math_bits_Mul (a0 a1 : Value) (h : Heap) (R : Value → Heap → Prop) : Prop :=
 iteK (.bool false) (
 vK (cviV .u32 a0) fun v1 =>
 vK (cviV .u32 a1) fun v2 =>
 FCall Tryz.prog F_math_bits_Mul32 #[v1, v2] h fun v3 h4 =>
 vK (extV v3 0) fun v5 =>
 vK (extV v3 1) fun v6 =>
 vK (cviV .u64 v5) fun v7 =>
 vK (cviV .u64 v6) fun v8 =>
 R (.tuple #[v7, v8]) h4) (
 FCall Tryz.prog F_math_bits_Mul64 #[a0, a1] h fun v9 h10 =>
 vK (extV v9 0) fun v11 =>
 vK (extV v9 1) fun v12 =>
 R (.tuple #[v11, v12]) h10)
noncomputable def an_math_bits_Mul : Ann := (.s .z (.s (.s (.s .z (.s .z .z)) .z) (.s .z (.s .z .z))))
theorem oc_math_bits_Mul : okCode Tryz.f80.ntmps ((Tryz.f80.body).getD .skip) an_math_bits_Mul = true := by kernel_rfl
theorem eq_math_bits_Mul (a0 a1 : Value) (h : Heap) (R : Value → Heap → Prop) : sh_math_bits_Mul a0 a1 h R = cFunc Tryz.prog ((Tryz.f80.body).getD .skip) an_math_bits_Mul Tryz.f80.results.toList #[a0, a1].toList h R := by kernel_rfl
theorem ok_math_bits_Mul {a0 a1 : Value} {h : Heap} {R : Value → Heap → Prop} (H : sh_math_bits_Mul a0 a1 h R) : FCall Tryz.prog F_math_bits_Mul #[a0, a1] h R :=
  fcall_of (by kernel_rfl) (fn := Tryz.f80) (c := (Tryz.f80.body).getD .skip) (an := an_math_bits_Mul) (by kernel_rfl) (by kernel_rfl) (by kernel_rfl) oc_math_bits_Mul (by kernel_rfl) (Eq.mp (eq_math_bits_Mul a0 a1 h R) H)

/-! ### smalto|wide.product: function 81 -/
def sh_wide_product (a0 a1 : Value) (h : Heap) (R : Value → Heap → Prop) : Prop :=
 FCall Tryz.prog F_wide_size #[a0] h fun v1 h2 =>
 FCall Tryz.prog F_wide_size #[a1] h2 fun v3 h4 =>
 FCall Tryz.prog F_math_bits_Mul64 #[v1, v3] h4 fun v5 h6 =>
 vK (extV v5 0) fun v7 =>
 vK (extV v5 1) fun v8 =>
 vK (binV .i .lss a0 (.int .i64 0)) fun v9 =>
 vK (binV .i .lss a1 (.int .i64 0)) fun v10 =>
 vK (binV .b .neq v9 v10) fun v11 =>
 R (.tuple #[v7, v8, v11]) h6
noncomputable def an_wide_product : Ann := (.s .z (.s .z (.s .z .z)))
theorem oc_wide_product : okCode Tryz.f81.ntmps ((Tryz.f81.body).getD .skip) an_wide_product = true := by kernel_rfl
theorem eq_wide_product (a0 a1 : Value) (h : Heap) (R : Value → Heap → Prop) : sh_wide_product a0 a1 h R = cFunc Tryz.prog ((Tryz.f81.body).getD .skip) an_wide_product Tryz.f81.results.toList #[a0, a1].toList h R := by kernel_rfl
theorem ok_wide_product {a0 a1 : Value} {h : Heap} {R : Value → Heap → Prop} (H : sh_wide_product a0 a1 h R) : FCall Tryz.prog F_wide_product #[a0, a1] h R :=
  fcall_of (by kernel_rfl) (fn := Tryz.f81) (c := (Tryz.f81.body).getD .skip) (an := an_wide_product) (by kernel_rfl) (by kernel_rfl) (by kernel_rfl) oc_wide_product (by kernel_rfl) (Eq.mp (eq_wide_product a0 a1 h R) H)

/-! ### smalto|wide.size: function 82 -/
def sh_wide_size (a0 : Value) (h : Heap) (R : Value → Heap → Prop) : Prop :=
 vK (binV .i .lss a0 (.int .i64 0)) fun v1 =>
 iteK v1 (
 vK (cviV .u64 a0) fun v2 =>
 vK (unV .neg v2) fun v3 =>
 R v3 h) (
 vK (cviV .u64 a0) fun v4 =>
 R v4 h)
noncomputable def an_wide_size : Ann := (.s .z (.s (.s .z (.s (.s .z .z) .z)) (.s .z .z)))
theorem oc_wide_size : okCode Tryz.f82.ntmps ((Tryz.f82.body).getD .skip) an_wide_size = true := by kernel_rfl
theorem eq_wide_size (a0 : Value) (h : Heap) (R : Value → Heap → Prop) : sh_wide_size a0 h R = cFunc Tryz.prog ((Tryz.f82.body).getD .skip) an_wide_size Tryz.f82.results.toList #[a0].toList h R := by kernel_rfl
theorem ok_wide_size {a0 : Value} {h : Heap} {R : Value → Heap → Prop} (H : sh_wide_size a0 h R) : FCall Tryz.prog F_wide_size #[a0] h R :=
  fcall_of (by kernel_rfl) (fn := Tryz.f82) (c := (Tryz.f82.body).getD .skip) (an := an_wide_size) (by kernel_rfl) (by kernel_rfl) (by kernel_rfl) oc_wide_size (by kernel_rfl) (Eq.mp (eq_wide_size a0 h R) H)

/-! ### smalto|wide.signed: function 83 -/
def sh_wide_signed (a0 a1 a2 : Value) (h : Heap) (R : Value → Heap → Prop) : Prop :=
 vK (gV a2 true (some a0)) fun v1 =>
 vK (gV a2 true (binV .i .gtr v1 (.int .u64 0))) fun v2 =>
 vK (gV a2 true (some v2)) fun v3 =>
 vK (gV v3 false (some a1)) fun v4 =>
 vK (gV v3 false (binV .i .gtr v4 (.int .u64 9223372036854775808))) fun v5 =>
 vK (gV a2 true (pickV v3 (.bool true) v5)) fun v6 =>
 vK (pickV a2 v6 (.bool false)) fun v7 =>
 iteK v7 (
 R (.int .i64 (-9223372036854775808)) h) (
 iteK a2 (
 vK (unV .neg a1) fun v8 =>
 vK (cviV .i64 v8) fun v9 =>
 R v9 h) (
 vK (binV .i .gtr a0 (.int .u64 0)) fun v10 =>
 vK (gV v10 false (some a1)) fun v11 =>
 vK (gV v10 false (binV .i .gtr v11 (.int .u64 9223372036854775807))) fun v12 =>
 vK (pickV v10 (.bool true) v12) fun v13 =>
 iteK v13 (
 R (.int .i64 9223372036854775807) h) (
 vK (cviV .i64 a1) fun v14 =>
 R v14 h)))
noncomputable def an_wide_signed : Ann := (.s .z (.s (.s .z (.s (.s .z .z) (.s .z (.s (.s .z .z) (.s .z (.s (.s .z .z) .z)))))) (.s .z .z)))
theorem oc_wide_signed : okCode Tryz.f83.ntmps ((Tryz.f83.body).getD .skip) an_wide_signed = true := by kernel_rfl
theorem eq_wide_signed (a0 a1 a2 : Value) (h : Heap) (R : Value → Heap → Prop) : sh_wide_signed a0 a1 a2 h R = cFunc Tryz.prog ((Tryz.f83.body).getD .skip) an_wide_signed Tryz.f83.results.toList #[a0, a1, a2].toList h R := by kernel_rfl
theorem ok_wide_signed {a0 a1 a2 : Value} {h : Heap} {R : Value → Heap → Prop} (H : sh_wide_signed a0 a1 a2 h R) : FCall Tryz.prog F_wide_signed #[a0, a1, a2] h R :=
  fcall_of (by kernel_rfl) (fn := Tryz.f83) (c := (Tryz.f83.body).getD .skip) (an := an_wide_signed) (by kernel_rfl) (by kernel_rfl) (by kernel_rfl) oc_wide_signed (by kernel_rfl) (Eq.mp (eq_wide_signed a0 a1 a2 h R) H)

/-! ### math|bits.Div64: function 84 -/
def sh_math_bits_Div64 (a0 a1 a2 : Value) (h : Heap) (R : Value → Heap → Prop) : Prop :=
 joinK (fun J1 =>
 vK (binV .i .eql a2 (.int .u64 0)) fun v5 =>
 iteK v5 (
 vK (ldV h (.pointer (some ⟨G_math_bits_divideError, 0, none⟩))) fun v6 =>
 failK h fun v7 h8 =>
 J1 [] h8) (
 J1 [] h))
 fun x2 j3 h4 =>
 joinK (fun J9 =>
 vK (binV .i .leq a2 a0) fun v13 =>
 iteK v13 (
 vK (ldV h4 (.pointer (some ⟨G_math_bits_overflowError, 0, none⟩))) fun v14 =>
 failK h4 fun v15 h16 =>
 J9 [] h16) (
 J9 [] h4))
 fun x10 j11 h12 =>
 vK (binV .i .eql a0 (.int .u64 0)) fun v17 =>
 iteK v17 (
 vK (binV .i .quo a1 a2) fun v18 =>
 vK (binV .i .rem a1 a2) fun v19 =>
 R (.tuple #[v18, v19]) h12) (
 FCall Tryz.prog F_math_bits_LeadingZeros64 #[a2] h12 fun v20 h21 =>
 vK (cviV .u64 v20) fun v22 =>
 vK (binV .i .shl a2 v22) fun v23 =>
 vK (binV .i .shr v23 (.int .u64 32)) fun v24 =>
 vK (binV .i .and v23 (.int .u64 4294967295)) fun v25 =>
 vK (binV .i .shl a0 v22) fun v26 =>
 vK (binV .i .sub (.int .u64 64) v22) fun v27 =>
 vK (binV .i .shr a1 v27) fun v28 =>
 vK (binV .i .or v26 v28) fun v29 =>
 vK (binV .i .shl a1 v22) fun v30 =>
 vK (binV .i .shr v30 (.int .u64 32)) fun v31 =>
 vK (binV .i .and v30 (.int .u64 4294967295)) fun v32 =>
 vK (binV .i .quo v29 v24) fun v33 =>
 vK (binV .i .mul v33 v24) fun v34 =>
 vK (binV .i .sub v29 v34) fun v35 =>
 joinK (fun J36 =>
 loopK [v33, v35] h21 fun x40 j41 h42 again43 =>
 vK (binV .i .geq (ix x40 0) (.int .u64 4294967296)) fun v44 =>
 vK (gV v44 false (some (ix x40 0))) fun v45 =>
 vK (gV v44 false (some v25)) fun v46 =>
 vK (gV v44 false (binV .i .mul v45 v46)) fun v47 =>
 vK (gV v44 false (some (ix x40 1))) fun v48 =>
 vK (gV v44 false (binV .i .mul (.int .u64 4294967296) v48)) fun v49 =>
 vK (gV v44 false (some v31)) fun v50 =>
 vK (gV v44 false (binV .i .add v49 v50)) fun v51 =>
 vK (gV v44 false (binV .i .gtr v47 v51)) fun v52 =>
 vK (pickV v44 (.bool true) v52) fun v53 =>
 iteK v53 (
 vK (binV .i .sub (ix x40 0) (.int .u64 1)) fun v54 =>
 vK (binV .i .add (ix x40 1) v24) fun v55 =>
 vK (binV .i .geq v55 (.int .u64 4294967296)) fun v56 =>
 iteK v56 (
 J36 [v54] h42) (
 again43 [v54, v55] h42)) (
 J36 [(ix x40 0)] h42))
 fun x37 j38 h39 =>
 vK (binV .i .mul v29 (.int .u64 4294967296)) fun v57 =>
 vK (binV .i .add v57 v31) fun v58 =>
 vK (binV .i .mul (ix x37 0) v23) fun v59 =>
 vK (binV .i .sub v58 v59) fun v60 =>
 vK (binV .i .quo v60 v24) fun v61 =>
 vK (binV .i .mul v61 v24) fun v62 =>
 vK (binV .i .sub v60 v62) fun v63 =>
 joinK (fun J64 =>
 loopK [v63, v61] h39 fun x68 j69 h70 again71 =>
 vK (binV .i .geq (ix x68 1) (.int .u64 4294967296)) fun v72 =>
 vK (gV v72 false (some (ix x68 1))) fun v73 =>
 vK (gV v72 false (some v25)) fun v74 =>
 vK (gV v72 false (binV .i .mul v73 v74)) fun v75 =>
 vK (gV v72 false (some (ix x68 0))) fun v76 =>
 vK (gV v72 false (binV .i .mul (.int .u64 4294967296) v76)) fun v77 =>
 vK (gV v72 false (some v32)) fun v78 =>
 vK (gV v72 false (binV .i .add v77 v78)) fun v79 =>
 vK (gV v72 false (binV .i .gtr v75 v79)) fun v80 =>
 vK (pickV v72 (.bool true) v80) fun v81 =>
 iteK v81 (
 vK (binV .i .sub (ix x68 1) (.int .u64 1)) fun v82 =>
 vK (binV .i .add (ix x68 0) v24) fun v83 =>
 vK (binV .i .geq v83 (.int .u64 4294967296)) fun v84 =>
 iteK v84 (
 J64 [v82] h70) (
 again71 [v83, v82] h70)) (
 J64 [(ix x68 1)] h70))
 fun x65 j66 h67 =>
 vK (binV .i .mul (ix x37 0) (.int .u64 4294967296)) fun v85 =>
 vK (binV .i .add v85 (ix x65 0)) fun v86 =>
 vK (binV .i .mul v60 (.int .u64 4294967296)) fun v87 =>
 vK (binV .i .add v87 v32) fun v88 =>
 vK (binV .i .mul (ix x65 0) v23) fun v89 =>
 vK (binV .i .sub v88 v89) fun v90 =>
 vK (binV .i .shr v90 v22) fun v91 =>
 R (.tuple #[v86, v91]) h67)
noncomputable def an_math_bits_Div64 : Ann := (.s .z (.j 3670016 [] (.s .z (.s .z .z)) (.j 62914560 [] (.s .z (.s .z .z)) (.s (.s .z (.s (.s .z .z) .z)) (.s .z (.s .z (.s .z (.s .z (.s .z (.s .z (.s .z (.s .z (.s .z (.s .z (.s (.m 77371104881383677504880640 [15] (.l 77371104881383677504880640 [15, 16] (.s (.s .z (.s .z .z)) (.s .z (.s .z (.s .z (.s .z .z))))))) (.s .z (.s .z (.s .z (.s (.m 2658450920967430832890008133748195328 [18] (.l 2658450920967430832890008133748195328 [16, 18] (.s (.s .z (.s .z .z)) (.s .z (.s .z (.s .z (.s .z .z))))))) (.s .z .z))))))))))))))))))))
theorem oc_math_bits_Div64 : okCode Tryz.f84.ntmps ((Tryz.f84.body).getD .skip) an_math_bits_Div64 = true := by kernel_rfl
theorem eq_math_bits_Div64 (a0 a1 a2 : Value) (h : Heap) (R : Value → Heap → Prop) : sh_math_bits_Div64 a0 a1 a2 h R = cFunc Tryz.prog ((Tryz.f84.body).getD .skip) an_math_bits_Div64 Tryz.f84.results.toList #[a0, a1, a2].toList h R := by kernel_rfl
theorem ok_math_bits_Div64 {a0 a1 a2 : Value} {h : Heap} {R : Value → Heap → Prop} (H : sh_math_bits_Div64 a0 a1 a2 h R) : FCall Tryz.prog F_math_bits_Div64 #[a0, a1, a2] h R :=
  fcall_of (by kernel_rfl) (fn := Tryz.f84) (c := (Tryz.f84.body).getD .skip) (an := an_math_bits_Div64) (by kernel_rfl) (by kernel_rfl) (by kernel_rfl) oc_math_bits_Div64 (by kernel_rfl) (Eq.mp (eq_math_bits_Div64 a0 a1 a2 h R) H)

/-! ### smalto|sinc.May: function 90 -/
def sh_sinc_May (a0 a1 : Value) (h : Heap) (R : Value → Heap → Prop) : Prop :=
 vK (binV .i .geq a1 (.int .i64 1)) fun v1 =>
 vK (gV v1 true (some a1)) fun v2 =>
 vK (gV v1 true (binV .i .leq v2 (.int .i64 1048576))) fun v3 =>
 vK (pickV v1 v3 (.bool false)) fun v4 =>
 vK (gV v4 true (some a0)) fun v5 =>
 vK (gV v4 true (some a1)) fun v6 =>
 vK (gV v4 true (binV .i .mul (.int .i64 (-4)) v6)) fun v7 =>
 vK (gV v4 true (binV .i .geq v5 v7)) fun v8 =>
 vK (pickV v4 v8 (.bool false)) fun v9 =>
 vK (gV v9 true (some a0)) fun v10 =>
 vK (gV v9 true (some a1)) fun v11 =>
 vK (gV v9 true (binV .i .mul (.int .i64 4) v11)) fun v12 =>
 vK (gV v9 true (binV .i .leq v10 v12)) fun v13 =>
 vK (pickV v9 v13 (.bool false)) fun v14 =>
 R v14 h
noncomputable def an_sinc_May : Ann := (.s .z (.s .z .z))
theorem oc_sinc_May : okCode Tryz.f90.ntmps ((Tryz.f90.body).getD .skip) an_sinc_May = true := by kernel_rfl
theorem eq_sinc_May (a0 a1 : Value) (h : Heap) (R : Value → Heap → Prop) : sh_sinc_May a0 a1 h R = cFunc Tryz.prog ((Tryz.f90.body).getD .skip) an_sinc_May Tryz.f90.results.toList #[a0, a1].toList h R := by kernel_rfl
theorem ok_sinc_May {a0 a1 : Value} {h : Heap} {R : Value → Heap → Prop} (H : sh_sinc_May a0 a1 h R) : FCall Tryz.prog F_sinc_May #[a0, a1] h R :=
  fcall_of (by kernel_rfl) (fn := Tryz.f90) (c := (Tryz.f90.body).getD .skip) (an := an_sinc_May) (by kernel_rfl) (by kernel_rfl) (by kernel_rfl) oc_sinc_May (by kernel_rfl) (Eq.mp (eq_sinc_May a0 a1 h R) H)

/-! ### smalto|sinc.size: function 91 -/
def sh_sinc_size (a0 : Value) (h : Heap) (R : Value → Heap → Prop) : Prop :=
 vK (unV .neg a0) fun v1 =>
 vK (maxV a0 v1) fun v2 =>
 R v2 h
noncomputable def an_sinc_size : Ann := (.s .z (.s .z .z))
theorem oc_sinc_size : okCode Tryz.f91.ntmps ((Tryz.f91.body).getD .skip) an_sinc_size = true := by kernel_rfl
theorem eq_sinc_size (a0 : Value) (h : Heap) (R : Value → Heap → Prop) : sh_sinc_size a0 h R = cFunc Tryz.prog ((Tryz.f91.body).getD .skip) an_sinc_size Tryz.f91.results.toList #[a0].toList h R := by kernel_rfl
theorem ok_sinc_size {a0 : Value} {h : Heap} {R : Value → Heap → Prop} (H : sh_sinc_size a0 h R) : FCall Tryz.prog F_sinc_size #[a0] h R :=
  fcall_of (by kernel_rfl) (fn := Tryz.f91) (c := (Tryz.f91.body).getD .skip) (an := an_sinc_size) (by kernel_rfl) (by kernel_rfl) (by kernel_rfl) oc_sinc_size (by kernel_rfl) (Eq.mp (eq_sinc_size a0 h R) H)

/-! ### smalto|wide.MulShift: function 92 -/
def sh_wide_MulShift (a0 a1 a2 : Value) (h : Heap) (R : Value → Heap → Prop) : Prop :=
 vK (maxV (.int .i64 0) a2) fun v1 =>
 vK (binV .i .geq v1 (.int .i64 128)) fun v2 =>
 iteK v2 (
 R (.int .i64 0) h) (
 FCall Tryz.prog F_wide_product #[a0, a1] h fun v3 h4 =>
 vK (extV v3 0) fun v5 =>
 vK (extV v3 1) fun v6 =>
 vK (extV v3 2) fun v7 =>
 vK (binV .i .eql v1 (.int .i64 0)) fun v8 =>
 iteK v8 (
 FCall Tryz.prog F_wide_signed #[v5, v6, v7] h4 fun v9 h10 =>
 R v9 h10) (
 FCall Tryz.prog F_wide_shift #[v5, v6, v1] h4 fun v11 h12 =>
 vK (extV v11 0) fun v13 =>
 vK (extV v11 1) fun v14 =>
 vK (binV .i .sub v1 (.int .i64 1)) fun v15 =>
 FCall Tryz.prog F_wide_shift #[v5, v6, v15] h12 fun v16 h17 =>
 vK (extV v16 0) fun v18 =>
 vK (extV v16 1) fun v19 =>
 vK (binV .i .and v19 (.int .u64 1)) fun v20 =>
 vK (binV .i .eql v20 (.int .u64 0)) fun v21 =>
 vK (gV v21 false (some v7)) fun v22 =>
 vK (gV v21 false (some v22)) fun v23 =>
 vK (gV v23 true (some v5)) fun v24 =>
 vK (gV v23 true (some v6)) fun v25 =>
 vK (gV v23 true (some v1)) fun v26 =>
 vK (gV v23 true (binV .i .sub v26 (.int .i64 1))) fun v27 =>
 gK v23 true (fun k41 => FCall Tryz.prog F_wide_exact #[v24, v25, v27] h17 k41) h17 fun v28 h29 =>
 vK (gV v21 false (pickV v23 v28 (.bool false))) fun v30 =>
 vK (pickV v21 (.bool true) v30) fun v31 =>
 iteK v31 (
 FCall Tryz.prog F_wide_signed #[v13, v14, v7] h29 fun v32 h33 =>
 R v32 h33) (
 FCall Tryz.prog F_math_bits_Add64 #[v14, (.int .u64 1), (.int .u64 0)] h29 fun v34 h35 =>
 vK (extV v34 0) fun v36 =>
 vK (extV v34 1) fun v37 =>
 vK (binV .i .add v13 v37) fun v38 =>
 FCall Tryz.prog F_wide_signed #[v38, v36, v7] h35 fun v39 h40 =>
 R v39 h40)))
noncomputable def an_wide_MulShift : Ann := (.s .z (.s .z (.s (.s .z (.s (.s .z .z) .z)) (.s .z (.s (.s .z (.s (.s .z .z) .z)) (.s .z (.s .z (.s (.s .z (.s (.s .z .z) .z)) (.s .z (.s .z .z))))))))))
theorem oc_wide_MulShift : okCode Tryz.f92.ntmps ((Tryz.f92.body).getD .skip) an_wide_MulShift = true := by kernel_rfl
theorem eq_wide_MulShift (a0 a1 a2 : Value) (h : Heap) (R : Value → Heap → Prop) : sh_wide_MulShift a0 a1 a2 h R = cFunc Tryz.prog ((Tryz.f92.body).getD .skip) an_wide_MulShift Tryz.f92.results.toList #[a0, a1, a2].toList h R := by kernel_rfl
theorem ok_wide_MulShift {a0 a1 a2 : Value} {h : Heap} {R : Value → Heap → Prop} (H : sh_wide_MulShift a0 a1 a2 h R) : FCall Tryz.prog F_wide_MulShift #[a0, a1, a2] h R :=
  fcall_of (by kernel_rfl) (fn := Tryz.f92) (c := (Tryz.f92.body).getD .skip) (an := an_wide_MulShift) (by kernel_rfl) (by kernel_rfl) (by kernel_rfl) oc_wide_MulShift (by kernel_rfl) (Eq.mp (eq_wide_MulShift a0 a1 a2 h R) H)

/-! ### smalto|sinc.series: function 93 -/
def sh_sinc_series (a0 a1 : Value) (h : Heap) (R : Value → Heap → Prop) : Prop :=
 FCall Tryz.prog F_sinc_size #[a0] h fun v1 h2 =>
 FCall Tryz.prog F_wide_MulDiv #[(.int .i64 10851744800547), v1, a1] h2 fun v3 h4 =>
 FCall Tryz.prog F_wide_MulDiv #[v3, v1, a1] h4 fun v5 h6 =>
 loopK [(.int .i64 1099511627776), (.int .i64 1099511627776), (.int .i64 1), (.int .i64 1)] h6 fun x7 j8 h9 again10 =>
 vK (binV .i .leq (ix x7 3) (.int .i64 30)) fun v11 =>
 iteK v11 (
 vK (unV .neg (ix x7 2)) fun v12 =>
 vK (binV .i .mul (.int .i64 2) (ix x7 3)) fun v13 =>
 vK (binV .i .mul (.int .i64 2) (ix x7 3)) fun v14 =>
 vK (binV .i .add v14 (.int .i64 1)) fun v15 =>
 vK (binV .i .mul v13 v15) fun v16 =>
 vK (binV .i .shl v16 (.int .u64 40)) fun v17 =>
 FCall Tryz.prog F_wide_MulDiv #[(ix x7 1), v5, v17] h9 fun v18 h19 =>
 vK (binV .i .mul v12 v18) fun v20 =>
 vK (binV .i .add (ix x7 0) v20) fun v21 =>
 vK (binV .i .add (ix x7 3) (.int .i64 1)) fun v22 =>
 again10 [v21, v18, v12, v22] h19) (
 R (ix x7 0) h9)
noncomputable def an_sinc_series : Ann := (.s .z (.s .z (.s .z (.s .z (.s (.s .z (.l 549755552704 [6, 7, 8, 9] (.s (.s .z (.s .z .z)) (.s (.s .z (.s .z .z)) .z)))) (.s .z .z))))))
theorem oc_sinc_series : okCode Tryz.f93.ntmps ((Tryz.f93.body).getD .skip) an_sinc_series = true := by kernel_rfl
theorem eq_sinc_series (a0 a1 : Value) (h : Heap) (R : Value → Heap → Prop) : sh_sinc_series a0 a1 h R = cFunc Tryz.prog ((Tryz.f93.body).getD .skip) an_sinc_series Tryz.f93.results.toList #[a0, a1].toList h R := by kernel_rfl
theorem ok_sinc_series {a0 a1 : Value} {h : Heap} {R : Value → Heap → Prop} (H : sh_sinc_series a0 a1 h R) : FCall Tryz.prog F_sinc_series #[a0, a1] h R :=
  fcall_of (by kernel_rfl) (fn := Tryz.f93) (c := (Tryz.f93.body).getD .skip) (an := an_sinc_series) (by kernel_rfl) (by kernel_rfl) (by kernel_rfl) oc_sinc_series (by kernel_rfl) (Eq.mp (eq_sinc_series a0 a1 h R) H)

/-! ### slices.IndexFunc[[]int64,int64]: function 94 -/
def sh_slices_IndexFunc_sl_int64_int64 (a0 a1 : Value) (h : Heap) (R : Value → Heap → Prop) : Prop :=
 vK (lenslV a0) fun v1 =>
 loopK [(.int .i64 0)] h fun x2 j3 h4 again5 =>
 vK (binV .i .lss (ix x2 0) v1) fun v6 =>
 iteK v6 (
 vK (idxV 1 a0 (ix x2 0)) fun v7 =>
 vK (ldV h4 v7) fun v8 =>
 clK Tryz.prog a1 #[v8] h4 fun v9 h10 =>
 iteK v9 (
 R (ix x2 0) h10) (
 vK (binV .i .add (ix x2 0) (.int .i64 1)) fun v11 =>
 again5 [v11] h10)) (
 R (.int .i64 (-1)) h4)
noncomputable def an_slices_IndexFunc_sl_int64_int64 : Ann := (.s .z (.s (.s .z (.l 524080 [8] (.s .z (.s (.s .z .z) (.s (.s .z (.s .z (.s (.s .z .z) .z))) .z))))) (.s .z .z)))
theorem oc_slices_IndexFunc_sl_int64_int64 : okCode Tryz.f94.ntmps ((Tryz.f94.body).getD .skip) an_slices_IndexFunc_sl_int64_int64 = true := by kernel_rfl
theorem eq_slices_IndexFunc_sl_int64_int64 (a0 a1 : Value) (h : Heap) (R : Value → Heap → Prop) : sh_slices_IndexFunc_sl_int64_int64 a0 a1 h R = cFunc Tryz.prog ((Tryz.f94.body).getD .skip) an_slices_IndexFunc_sl_int64_int64 Tryz.f94.results.toList #[a0, a1].toList h R := by kernel_rfl
theorem ok_slices_IndexFunc_sl_int64_int64 {a0 a1 : Value} {h : Heap} {R : Value → Heap → Prop} (H : sh_slices_IndexFunc_sl_int64_int64 a0 a1 h R) : FCall Tryz.prog F_slices_IndexFunc_sl_int64_int64 #[a0, a1] h R :=
  fcall_of (by kernel_rfl) (fn := Tryz.f94) (c := (Tryz.f94.body).getD .skip) (an := an_slices_IndexFunc_sl_int64_int64) (by kernel_rfl) (by kernel_rfl) (by kernel_rfl) oc_slices_IndexFunc_sl_int64_int64 (by kernel_rfl) (Eq.mp (eq_slices_IndexFunc_sl_int64_int64 a0 a1 h R) H)

/-! ### smalto|fixed.Mul: function 95 -/
def sh_fixed_Mul (a0 a1 : Value) (h : Heap) (R : Value → Heap → Prop) : Prop :=
 FCall Tryz.prog F_fixed_size #[a0] h fun v1 h2 =>
 FCall Tryz.prog F_fixed_size #[a1] h2 fun v3 h4 =>
 FCall Tryz.prog F_math_bits_Mul64 #[v1, v3] h4 fun v5 h6 =>
 vK (extV v5 0) fun v7 =>
 vK (extV v5 1) fun v8 =>
 vK (binV .i .neq v7 (.int .u64 0)) fun v9 =>
 iteK v9 (
 vK (binV .i .lss a0 (.int .i64 0)) fun v10 =>
 vK (binV .i .lss a1 (.int .i64 0)) fun v11 =>
 vK (binV .b .neq v10 v11) fun v12 =>
 FCall Tryz.prog F_fixed_hold #[(.int .u64 18446744073709551615), v12] h6 fun v13 h14 =>
 R v13 h14) (
 vK (binV .i .lss a0 (.int .i64 0)) fun v15 =>
 vK (binV .i .lss a1 (.int .i64 0)) fun v16 =>
 vK (binV .b .neq v15 v16) fun v17 =>
 FCall Tryz.prog F_fixed_hold #[v8, v17] h6 fun v18 h19 =>
 R v18 h19)
noncomputable def an_fixed_Mul : Ann := (.s .z (.s .z (.s (.s .z (.s .z .z)) (.s .z .z))))
theorem oc_fixed_Mul : okCode Tryz.f95.ntmps ((Tryz.f95.body).getD .skip) an_fixed_Mul = true := by kernel_rfl
theorem eq_fixed_Mul (a0 a1 : Value) (h : Heap) (R : Value → Heap → Prop) : sh_fixed_Mul a0 a1 h R = cFunc Tryz.prog ((Tryz.f95.body).getD .skip) an_fixed_Mul Tryz.f95.results.toList #[a0, a1].toList h R := by kernel_rfl
theorem ok_fixed_Mul {a0 a1 : Value} {h : Heap} {R : Value → Heap → Prop} (H : sh_fixed_Mul a0 a1 h R) : FCall Tryz.prog F_fixed_Mul #[a0, a1] h R :=
  fcall_of (by kernel_rfl) (fn := Tryz.f95) (c := (Tryz.f95.body).getD .skip) (an := an_fixed_Mul) (by kernel_rfl) (by kernel_rfl) (by kernel_rfl) oc_fixed_Mul (by kernel_rfl) (Eq.mp (eq_fixed_Mul a0 a1 h R) H)

/-! ### slices.insertionSortCmpFunc[int]: function 96 -/
def sh_slices_insertionSortCmpFunc_int (a0 a1 a2 a3 : Value) (h : Heap) (R : Value → Heap → Prop) : Prop :=
 vK (binV .i .add a1 (.int .i64 1)) fun v1 =>
 loopK [v1] h fun x2 j3 h4 again5 =>
 vK (binV .i .lss (ix x2 0) a2) fun v6 =>
 iteK v6 (
 loopK [(ix x2 0)] h4 fun x7 j8 h9 again10 =>
 drawK h9 fun S =>
 vK (binV .i .gtr (ix x7 0) a1) fun v11 =>
 vK (gV v11 true (some a3)) fun v12 =>
 vK (gV v11 true (some a0)) fun v13 =>
 vK (gV v11 true (some (ix x7 0))) fun v14 =>
 vK (gV v11 true (idxV 1 v13 v14)) fun v15 =>
 qK S (fun h9 => gV v11 true (ldV h9 v15)) fun v16 =>
 vK (gV v11 true (some a0)) fun v17 =>
 vK (gV v11 true (some (ix x7 0))) fun v18 =>
 vK (gV v11 true (binV .i .sub v18 (.int .i64 1))) fun v19 =>
 vK (gV v11 true (idxV 1 v17 v19)) fun v20 =>
 qK S (fun h9 => gV v11 true (ldV h9 v20)) fun v21 =>
 gK v11 true (fun k40 => clK Tryz.prog v12 #[v16, v21] h9 k40) h9 fun v22 h23 =>
 vK (gV v11 true (binV .i .lss v22 (.int .i64 0))) fun v24 =>
 vK (pickV v11 v24 (.bool false)) fun v25 =>
 iteK v25 (
 drawK h23 fun S =>
 vK (binV .i .sub (ix x7 0) (.int .i64 1)) fun v26 =>
 vK (binV .i .sub (ix x7 0) (.int .i64 1)) fun v27 =>
 vK (idxV 1 a0 v27) fun v28 =>
 qK S (fun h23 => ldV h23 v28) fun v29 =>
 vK (idxV 1 a0 (ix x7 0)) fun v30 =>
 qK S (fun h23 => ldV h23 v30) fun v31 =>
 vK (idxV 1 a0 (ix x7 0)) fun v32 =>
 stK 1 v32 v29 h23 fun v33 h34 =>
 vK (idxV 1 a0 v26) fun v35 =>
 stK 1 v35 v31 h34 fun v36 h37 =>
 vK (binV .i .sub (ix x7 0) (.int .i64 1)) fun v38 =>
 again10 [v38] h37) (
 vK (binV .i .add (ix x2 0) (.int .i64 1)) fun v39 =>
 again5 [v39] h23)) (
 R (.tuple #[]) h4)
noncomputable def an_slices_insertionSortCmpFunc_int : Ann := (.s .z (.l 9007199254737664 [8] (.s (.s .z (.s .z .z)) (.s (.s .z (.l 9007199254479360 [9] (.s (.s (.d (.op 0 .r (.op 1 .r (.op 2 .r (.op 3 .r (.op 4 .r (.op 5 .r (.op 6 .r (.op 7 .r (.op 8 .r (.op 9 .r (.op 10 .r (.op 11 .r (.op 12 .r (.op 13 .r (.op 14 .n (.op 15 .r (.op 16 .r .nil)))))))))))))))))) (.s .z .z)) (.s (.d (.op 0 .r (.op 1 .r (.op 2 .r (.op 3 .r (.op 4 .r (.op 5 .r (.op 6 .r (.op 7 .r (.op 8 .r (.op 9 .r (.op 10 .r (.op 11 .r (.op 12 .r (.op 13 .r (.op 14 .r (.op 15 .n (.op 16 .r (.op 17 .n .nil))))))))))))))))))) .z)))) .z))))
theorem oc_slices_insertionSortCmpFunc_int : okCode Tryz.f96.ntmps ((Tryz.f96.body).getD .skip) an_slices_insertionSortCmpFunc_int = true := by kernel_rfl
theorem eq_slices_insertionSortCmpFunc_int (a0 a1 a2 a3 : Value) (h : Heap) (R : Value → Heap → Prop) : sh_slices_insertionSortCmpFunc_int a0 a1 a2 a3 h R = cFunc Tryz.prog ((Tryz.f96.body).getD .skip) an_slices_insertionSortCmpFunc_int Tryz.f96.results.toList #[a0, a1, a2, a3].toList h R := by kernel_rfl
theorem ok_slices_insertionSortCmpFunc_int {a0 a1 a2 a3 : Value} {h : Heap} {R : Value → Heap → Prop} (H : sh_slices_insertionSortCmpFunc_int a0 a1 a2 a3 h R) : FCall Tryz.prog F_slices_insertionSortCmpFunc_int #[a0, a1, a2, a3] h R :=
  fcall_of (by kernel_rfl) (fn := Tryz.f96) (c := (Tryz.f96.body).getD .skip) (an := an_slices_insertionSortCmpFunc_int) (by kernel_rfl) (by kernel_rfl) (by kernel_rfl) oc_slices_insertionSortCmpFunc_int (by kernel_rfl) (Eq.mp (eq_slices_insertionSortCmpFunc_int a0 a1 a2 a3 h R) H)

/-! ### slices.symMergeCmpFunc[int]: function 97 -/
def sh_slices_symMergeCmpFunc_int (a0 a1 a2 a3 a4 : Value) (h : Heap) (R : Value → Heap → Prop) : Prop :=
 vK (binV .i .sub a2 a1) fun v1 =>
 vK (binV .i .eql v1 (.int .i64 1)) fun v2 =>
 iteK v2 (
 loopK [a2, a3] h fun x3 j4 h5 again6 =>
 vK (binV .i .lss (ix x3 0) (ix x3 1)) fun v7 =>
 iteK v7 (
 vK (binV .i .add (ix x3 0) (ix x3 1)) fun v8 =>
 vK (cviV .u64 v8) fun v9 =>
 vK (binV .i .shr v9 (.int .u64 1)) fun v10 =>
 vK (cviV .i64 v10) fun v11 =>
 drawK h5 fun S =>
 vK (idxV 1 a0 v11) fun v12 =>
 qK S (fun h5 => ldV h5 v12) fun v13 =>
 vK (idxV 1 a0 a1) fun v14 =>
 qK S (fun h5 => ldV h5 v14) fun v15 =>
 clK Tryz.prog a4 #[v13, v15] h5 fun v16 h17 =>
 vK (binV .i .lss v16 (.int .i64 0)) fun v18 =>
 iteK v18 (
 vK (binV .i .add v11 (.int .i64 1)) fun v19 =>
 again6 [v19, (ix x3 1)] h17) (
 again6 [(ix x3 0), v11] h17)) (
 loopK [a1] h5 fun x20 j21 h22 again23 =>
 vK (binV .i .sub (ix x3 0) (.int .i64 1)) fun v24 =>
 vK (binV .i .lss (ix x20 0) v24) fun v25 =>
 iteK v25 (
 drawK h22 fun S =>
 vK (binV .i .add (ix x20 0) (.int .i64 1)) fun v26 =>
 vK (binV .i .add (ix x20 0) (.int .i64 1)) fun v27 =>
 vK (idxV 1 a0 v27) fun v28 =>
 qK S (fun h22 => ldV h22 v28) fun v29 =>
 vK (idxV 1 a0 (ix x20 0)) fun v30 =>
 qK S (fun h22 => ldV h22 v30) fun v31 =>
 vK (idxV 1 a0 (ix x20 0)) fun v32 =>
 stK 1 v32 v29 h22 fun v33 h34 =>
 vK (idxV 1 a0 v26) fun v35 =>
 stK 1 v35 v31 h34 fun v36 h37 =>
 vK (binV .i .add (ix x20 0) (.int .i64 1)) fun v38 =>
 again23 [v38] h37) (
 R (.tuple #[]) h22))) (
 vK (binV .i .sub a3 a2) fun v39 =>
 vK (binV .i .eql v39 (.int .i64 1)) fun v40 =>
 iteK v40 (
 loopK [a1, a2] h fun x41 j42 h43 again44 =>
 vK (binV .i .lss (ix x41 0) (ix x41 1)) fun v45 =>
 iteK v45 (
 vK (binV .i .add (ix x41 0) (ix x41 1)) fun v46 =>
 vK (cviV .u64 v46) fun v47 =>
 vK (binV .i .shr v47 (.int .u64 1)) fun v48 =>
 vK (cviV .i64 v48) fun v49 =>
 drawK h43 fun S =>
 vK (idxV 1 a0 a2) fun v50 =>
 qK S (fun h43 => ldV h43 v50) fun v51 =>
 vK (idxV 1 a0 v49) fun v52 =>
 qK S (fun h43 => ldV h43 v52) fun v53 =>
 clK Tryz.prog a4 #[v51, v53] h43 fun v54 h55 =>
 vK (binV .i .lss v54 (.int .i64 0)) fun v56 =>
 vK (unV .not v56) fun v57 =>
 iteK v57 (
 vK (binV .i .add v49 (.int .i64 1)) fun v58 =>
 again44 [v58, (ix x41 1)] h55) (
 again44 [(ix x41 0), v49] h55)) (
 loopK [a2] h43 fun x59 j60 h61 again62 =>
 vK (binV .i .gtr (ix x59 0) (ix x41 0)) fun v63 =>
 iteK v63 (
 drawK h61 fun S =>
 vK (binV .i .sub (ix x59 0) (.int .i64 1)) fun v64 =>
 vK (binV .i .sub (ix x59 0) (.int .i64 1)) fun v65 =>
 vK (idxV 1 a0 v65) fun v66 =>
 qK S (fun h61 => ldV h61 v66) fun v67 =>
 vK (idxV 1 a0 (ix x59 0)) fun v68 =>
 qK S (fun h61 => ldV h61 v68) fun v69 =>
 vK (idxV 1 a0 (ix x59 0)) fun v70 =>
 stK 1 v70 v67 h61 fun v71 h72 =>
 vK (idxV 1 a0 v64) fun v73 =>
 stK 1 v73 v69 h72 fun v74 h75 =>
 vK (binV .i .sub (ix x59 0) (.int .i64 1)) fun v76 =>
 again62 [v76] h75) (
 R (.tuple #[]) h61))) (
 vK (binV .i .add a1 a3) fun v77 =>
 vK (cviV .u64 v77) fun v78 =>
 vK (binV .i .shr v78 (.int .u64 1)) fun v79 =>
 vK (cviV .i64 v79) fun v80 =>
 vK (binV .i .add v80 a2) fun v81 =>
 joinK (fun J82 =>
 vK (binV .i .gtr a2 v80) fun v86 =>
 iteK v86 (
 vK (binV .i .sub v81 a3) fun v87 =>
 J82 [v87, v80] h) (
 J82 [a1, a2] h))
 fun x83 j84 h85 =>
 vK (binV .i .sub v81 (.int .i64 1)) fun v88 =>
 loopK [(ix x83 0), (ix x83 1)] h85 fun x89 j90 h91 again92 =>
 vK (binV .i .lss (ix x89 0) (ix x89 1)) fun v93 =>
 iteK v93 (
 vK (binV .i .add (ix x89 0) (ix x89 1)) fun v94 =>
 vK (cviV .u64 v94) fun v95 =>
 vK (binV .i .shr v95 (.int .u64 1)) fun v96 =>
 vK (cviV .i64 v96) fun v97 =>
 drawK h91 fun S =>
 vK (binV .i .sub v88 v97) fun v98 =>
 vK (idxV 1 a0 v98) fun v99 =>
 qK S (fun h91 => ldV h91 v99) fun v100 =>
 vK (idxV 1 a0 v97) fun v101 =>
 qK S (fun h91 => ldV h91 v101) fun v102 =>
 clK Tryz.prog a4 #[v100, v102] h91 fun v103 h104 =>
 vK (binV .i .lss v103 (.int .i64 0)) fun v105 =>
 vK (unV .not v105) fun v106 =>
 iteK v106 (
 vK (binV .i .add v97 (.int .i64 1)) fun v107 =>
 again92 [v107, (ix x89 1)] h104) (
 again92 [(ix x89 0), v97] h104)) (
 vK (binV .i .sub v81 (ix x89 0)) fun v108 =>
 joinK (fun J109 =>
 vK (binV .i .lss (ix x89 0) a2) fun v113 =>
 vK (gV v113 true (some a2)) fun v114 =>
 vK (gV v113 true (some v108)) fun v115 =>
 vK (gV v113 true (binV .i .lss v114 v115)) fun v116 =>
 vK (pickV v113 v116 (.bool false)) fun v117 =>
 iteK v117 (
 FCall Tryz.prog F_slices_rotateCmpFunc_int #[a0, (ix x89 0), a2, v108, a4] h91 fun v118 h119 =>
 J109 [] h119) (
 J109 [] h91))
 fun x110 j111 h112 =>
 vK (binV .i .lss a1 (ix x89 0)) fun v120 =>
 vK (gV v120 true (some (ix x89 0))) fun v121 =>
 vK (gV v120 true (some v80)) fun v122 =>
 vK (gV v120 true (binV .i .lss v121 v122)) fun v123 =>
 vK (pickV v120 v123 (.bool false)) fun v124 =>
 iteK v124 (
 FCall Tryz.prog F_slices_symMergeCmpFunc_int #[a0, a1, (ix x89 0), v80, a4] h112 fun v125 h126 =>
 vK (binV .i .lss v80 v108) fun v127 =>
 vK (gV v127 true (some v108)) fun v128 =>
 vK (gV v127 true (some a3)) fun v129 =>
 vK (gV v127 true (binV .i .lss v128 v129)) fun v130 =>
 vK (pickV v127 v130 (.bool false)) fun v131 =>
 iteK v131 (
 FCall Tryz.prog F_slices_symMergeCmpFunc_int #[a0, v80, v108, a3, a4] h126 fun v132 h133 =>
 R (.tuple #[]) h133) (
 R (.tuple #[]) h126)) (
 vK (binV .i .lss v80 v108) fun v134 =>
 vK (gV v134 true (some v108)) fun v135 =>
 vK (gV v134 true (some a3)) fun v136 =>
 vK (gV v134 true (binV .i .lss v135 v136)) fun v137 =>
 vK (pickV v134 v137 (.bool false)) fun v138 =>
 iteK v138 (
 FCall Tryz.prog F_slices_symMergeCmpFunc_int #[a0, v80, v108, a3, a4] h112 fun v139 h140 =>
 R (.tuple #[]) h140) (
 R (.tuple #[]) h112)))))
noncomputable def an_slices_symMergeCmpFunc_int : Ann := (.s (.s .z (.s (.s .z (.s .z (.s (.l 18014396362005504 [10, 11] (.s (.s .z (.s .z .z)) (.s .z (.s (.d (.op 0 .r (.op 1 .r (.op 2 .r (.op 3 .r (.op 4 .r (.op 5 .r (.op 6 .r (.op 7 .r (.op 8 .r (.op 9 .n (.op 10 .r .nil)))))))))))) (.s .z .z))))) (.s (.s .z (.l 151115691423031627882496 [13] (.s (.s .z (.s .z .z)) (.s (.d (.op 0 .r (.op 1 .r (.op 2 .r (.op 3 .r (.op 4 .r (.op 5 .r (.op 6 .r (.op 7 .r (.op 8 .r (.op 9 .r (.op 10 .r (.op 11 .r (.op 12 .r (.op 13 .r (.op 14 .r (.op 15 .n (.op 16 .r (.op 17 .n .nil))))))))))))))))))) .z)))) .z)))) .z)) (.s (.s .z (.s (.s .z (.s .z (.s (.l 162259267157806806474544612753408 [14, 15] (.s (.s .z (.s .z .z)) (.s .z (.s (.d (.op 0 .r (.op 1 .r (.op 2 .r (.op 3 .r (.op 4 .r (.op 5 .r (.op 6 .r (.op 7 .r (.op 8 .r (.op 9 .n (.op 10 .r (.op 11 .r .nil))))))))))))) (.s .z .z))))) (.s (.s .z (.l 680564409323323268500022431707515977728 [17] (.s (.s .z (.s .z .z)) (.s (.d (.op 0 .r (.op 1 .r (.op 2 .r (.op 3 .r (.op 4 .r (.op 5 .r (.op 6 .r (.op 7 .r (.op 8 .r (.op 9 .r (.op 10 .r (.op 11 .r (.op 12 .r (.op 13 .r (.op 14 .r (.op 15 .n (.op 16 .r (.op 17 .n .nil))))))))))))))))))) .z)))) .z)))) .z)) (.s .z (.s .z (.s .z (.j 178057512444517944145699250583176761402458112 [20, 21] (.s .z (.s (.s .z .z) (.s .z .z))) (.s .z (.s (.l 47890484938435180470718404069304177263338029388398592 [20, 21] (.s (.s .z (.s .z .z)) (.s .z (.s (.d (.op 0 .r (.op 1 .r (.op 2 .r (.op 3 .r (.op 4 .r (.op 5 .r (.op 6 .r (.op 7 .r (.op 8 .r (.op 9 .r (.op 10 .r (.op 11 .n (.op 12 .r (.op 13 .r .nil))))))))))))))) (.s .z .z))))) (.s .z (.j 6276718611501464291621199836450878838806450759683488612352 [] (.s .z (.s .z .z)) (.s (.s .z (.s .z .z)) (.s .z (.s .z .z)))))))))))))
theorem oc_slices_symMergeCmpFunc_int : okCode Tryz.f97.ntmps ((Tryz.f97.body).getD .skip) an_slices_symMergeCmpFunc_int = true := by kernel_rfl
theorem eq_slices_symMergeCmpFunc_int (a0 a1 a2 a3 a4 : Value) (h : Heap) (R : Value → Heap → Prop) : sh_slices_symMergeCmpFunc_int a0 a1 a2 a3 a4 h R = cFunc Tryz.prog ((Tryz.f97.body).getD .skip) an_slices_symMergeCmpFunc_int Tryz.f97.results.toList #[a0, a1, a2, a3, a4].toList h R := by kernel_rfl
theorem ok_slices_symMergeCmpFunc_int {a0 a1 a2 a3 a4 : Value} {h : Heap} {R : Value → Heap → Prop} (H : sh_slices_symMergeCmpFunc_int a0 a1 a2 a3 a4 h R) : FCall Tryz.prog F_slices_symMergeCmpFunc_int #[a0, a1, a2, a3, a4] h R :=
  fcall_of (by kernel_rfl) (fn := Tryz.f97) (c := (Tryz.f97.body).getD .skip) (an := an_slices_symMergeCmpFunc_int) (by kernel_rfl) (by kernel_rfl) (by kernel_rfl) oc_slices_symMergeCmpFunc_int (by kernel_rfl) (Eq.mp (eq_slices_symMergeCmpFunc_int a0 a1 a2 a3 a4 h R) H)

/-! ### math|bits.Mul32: function 98 -/
def sh_math_bits_Mul32 (a0 a1 : Value) (h : Heap) (R : Value → Heap → Prop) : Prop :=
 vK (cviV .u64 a0) fun v1 =>
 vK (cviV .u64 a1) fun v2 =>
 vK (binV .i .mul v1 v2) fun v3 =>
 vK (binV .i .shr v3 (.int .u64 32)) fun v4 =>
 vK (cviV .u32 v4) fun v5 =>
 vK (cviV .u32 v3) fun v6 =>
 R (.tuple #[v5, v6]) h
noncomputable def an_math_bits_Mul32 : Ann := (.s .z (.s .z (.s .z .z)))
theorem oc_math_bits_Mul32 : okCode Tryz.f98.ntmps ((Tryz.f98.body).getD .skip) an_math_bits_Mul32 = true := by kernel_rfl
theorem eq_math_bits_Mul32 (a0 a1 : Value) (h : Heap) (R : Value → Heap → Prop) : sh_math_bits_Mul32 a0 a1 h R = cFunc Tryz.prog ((Tryz.f98.body).getD .skip) an_math_bits_Mul32 Tryz.f98.results.toList #[a0, a1].toList h R := by kernel_rfl
theorem ok_math_bits_Mul32 {a0 a1 : Value} {h : Heap} {R : Value → Heap → Prop} (H : sh_math_bits_Mul32 a0 a1 h R) : FCall Tryz.prog F_math_bits_Mul32 #[a0, a1] h R :=
  fcall_of (by kernel_rfl) (fn := Tryz.f98) (c := (Tryz.f98.body).getD .skip) (an := an_math_bits_Mul32) (by kernel_rfl) (by kernel_rfl) (by kernel_rfl) oc_math_bits_Mul32 (by kernel_rfl) (Eq.mp (eq_math_bits_Mul32 a0 a1 h R) H)

/-! ### math|bits.Mul64: function 99 -/
def sh_math_bits_Mul64 (a0 a1 : Value) (h : Heap) (R : Value → Heap → Prop) : Prop :=
 vK (binV .i .and a0 (.int .u64 4294967295)) fun v1 =>
 vK (binV .i .shr a0 (.int .u64 32)) fun v2 =>
 vK (binV .i .and a1 (.int .u64 4294967295)) fun v3 =>
 vK (binV .i .shr a1 (.int .u64 32)) fun v4 =>
 vK (binV .i .mul v1 v3) fun v5 =>
 vK (binV .i .mul v2 v3) fun v6 =>
 vK (binV .i .shr v5 (.int .u64 32)) fun v7 =>
 vK (binV .i .add v6 v7) fun v8 =>
 vK (binV .i .and v8 (.int .u64 4294967295)) fun v9 =>
 vK (binV .i .shr v8 (.int .u64 32)) fun v10 =>
 vK (binV .i .mul v1 v4) fun v11 =>
 vK (binV .i .add v9 v11) fun v12 =>
 vK (binV .i .mul v2 v4) fun v13 =>
 vK (binV .i .add v13 v10) fun v14 =>
 vK (binV .i .shr v12 (.int .u64 32)) fun v15 =>
 vK (binV .i .add v14 v15) fun v16 =>
 vK (binV .i .mul a0 a1) fun v17 =>
 R (.tuple #[v16, v17]) h
noncomputable def an_math_bits_Mul64 : Ann := (.s .z (.s .z (.s .z (.s .z (.s .z (.s .z (.s .z (.s .z (.s .z (.s .z (.s .z (.s .z .z))))))))))))
theorem oc_math_bits_Mul64 : okCode Tryz.f99.ntmps ((Tryz.f99.body).getD .skip) an_math_bits_Mul64 = true := by kernel_rfl
theorem eq_math_bits_Mul64 (a0 a1 : Value) (h : Heap) (R : Value → Heap → Prop) : sh_math_bits_Mul64 a0 a1 h R = cFunc Tryz.prog ((Tryz.f99.body).getD .skip) an_math_bits_Mul64 Tryz.f99.results.toList #[a0, a1].toList h R := by kernel_rfl
theorem ok_math_bits_Mul64 {a0 a1 : Value} {h : Heap} {R : Value → Heap → Prop} (H : sh_math_bits_Mul64 a0 a1 h R) : FCall Tryz.prog F_math_bits_Mul64 #[a0, a1] h R :=
  fcall_of (by kernel_rfl) (fn := Tryz.f99) (c := (Tryz.f99.body).getD .skip) (an := an_math_bits_Mul64) (by kernel_rfl) (by kernel_rfl) (by kernel_rfl) oc_math_bits_Mul64 (by kernel_rfl) (Eq.mp (eq_math_bits_Mul64 a0 a1 h R) H)

/-! ### math|bits.LeadingZeros64: function 100 -/
def sh_math_bits_LeadingZeros64 (a0 : Value) (h : Heap) (R : Value → Heap → Prop) : Prop :=
 FCall Tryz.prog F_math_bits_Len64 #[a0] h fun v1 h2 =>
 vK (binV .i .sub (.int .i64 64) v1) fun v3 =>
 R v3 h2
noncomputable def an_math_bits_LeadingZeros64 : Ann := (.s .z (.s .z .z))
theorem oc_math_bits_LeadingZeros64 : okCode Tryz.f100.ntmps ((Tryz.f100.body).getD .skip) an_math_bits_LeadingZeros64 = true := by kernel_rfl
theorem eq_math_bits_LeadingZeros64 (a0 : Value) (h : Heap) (R : Value → Heap → Prop) : sh_math_bits_LeadingZeros64 a0 h R = cFunc Tryz.prog ((Tryz.f100.body).getD .skip) an_math_bits_LeadingZeros64 Tryz.f100.results.toList #[a0].toList h R := by kernel_rfl
theorem ok_math_bits_LeadingZeros64 {a0 : Value} {h : Heap} {R : Value → Heap → Prop} (H : sh_math_bits_LeadingZeros64 a0 h R) : FCall Tryz.prog F_math_bits_LeadingZeros64 #[a0] h R :=
  fcall_of (by kernel_rfl) (fn := Tryz.f100) (c := (Tryz.f100.body).getD .skip) (an := an_math_bits_LeadingZeros64) (by kernel_rfl) (by kernel_rfl) (by kernel_rfl) oc_math_bits_LeadingZeros64 (by kernel_rfl) (Eq.mp (eq_math_bits_LeadingZeros64 a0 h R) H)

/-! ### smalto|wide.shift: function 101 -/
def sh_wide_shift (a0 a1 a2 : Value) (h : Heap) (R : Value → Heap → Prop) : Prop :=
 vK (binV .i .geq a2 (.int .i64 64)) fun v1 =>
 iteK v1 (
 vK (binV .i .sub a2 (.int .i64 64)) fun v2 =>
 vK (binV .i .shr a0 v2) fun v3 =>
 R (.tuple #[(.int .u64 0), v3]) h) (
 vK (binV .i .shr a0 a2) fun v4 =>
 vK (binV .i .shr a1 a2) fun v5 =>
 vK (binV .i .sub (.int .i64 64) a2) fun v6 =>
 vK (binV .i .shl a0 v6) fun v7 =>
 vK (binV .i .or v5 v7) fun v8 =>
 R (.tuple #[v4, v8]) h)
noncomputable def an_wide_shift : Ann := (.s .z (.s (.s .z (.s (.s .z .z) .z)) (.s .z .z)))
theorem oc_wide_shift : okCode Tryz.f101.ntmps ((Tryz.f101.body).getD .skip) an_wide_shift = true := by kernel_rfl
theorem eq_wide_shift (a0 a1 a2 : Value) (h : Heap) (R : Value → Heap → Prop) : sh_wide_shift a0 a1 a2 h R = cFunc Tryz.prog ((Tryz.f101.body).getD .skip) an_wide_shift Tryz.f101.results.toList #[a0, a1, a2].toList h R := by kernel_rfl
theorem ok_wide_shift {a0 a1 a2 : Value} {h : Heap} {R : Value → Heap → Prop} (H : sh_wide_shift a0 a1 a2 h R) : FCall Tryz.prog F_wide_shift #[a0, a1, a2] h R :=
  fcall_of (by kernel_rfl) (fn := Tryz.f101) (c := (Tryz.f101.body).getD .skip) (an := an_wide_shift) (by kernel_rfl) (by kernel_rfl) (by kernel_rfl) oc_wide_shift (by kernel_rfl) (Eq.mp (eq_wide_shift a0 a1 a2 h R) H)

/-! ### smalto|wide.exact: function 102 -/
def sh_wide_exact (a0 a1 a2 : Value) (h : Heap) (R : Value → Heap → Prop) : Prop :=
 vK (binV .i .geq a2 (.int .i64 64)) fun v1 =>
 iteK v1 (
 vK (binV .i .eql a1 (.int .u64 0)) fun v2 =>
 vK (gV v2 true (some a0)) fun v3 =>
 vK (gV v2 true (some a2)) fun v4 =>
 vK (gV v2 true (binV .i .sub (.int .i64 128) v4)) fun v5 =>
 vK (gV v2 true (binV .i .shl v3 v5)) fun v6 =>
 vK (gV v2 true (binV .i .eql v6 (.int .u64 0))) fun v7 =>
 vK (pickV v2 v7 (.bool false)) fun v8 =>
 R v8 h) (
 vK (binV .i .sub (.int .i64 64) a2) fun v9 =>
 vK (binV .i .shl a1 v9) fun v10 =>
 vK (binV .i .eql v10 (.int .u64 0)) fun v11 =>
 R v11 h)
noncomputable def an_wide_exact : Ann := (.s .z (.s (.s .z (.s (.s .z .z) .z)) (.s .z .z)))
theorem oc_wide_exact : okCode Tryz.f102.ntmps ((Tryz.f102.body).getD .skip) an_wide_exact = true := by kernel_rfl
theorem eq_wide_exact (a0 a1 a2 : Value) (h : Heap) (R : Value → Heap → Prop) : sh_wide_exact a0 a1 a2 h R = cFunc Tryz.prog ((Tryz.f102.body).getD .skip) an_wide_exact Tryz.f102.results.toList #[a0, a1, a2].toList h R := by kernel_rfl
theorem ok_wide_exact {a0 a1 a2 : Value} {h : Heap} {R : Value → Heap → Prop} (H : sh_wide_exact a0 a1 a2 h R) : FCall Tryz.prog F_wide_exact #[a0, a1, a2] h R :=
  fcall_of (by kernel_rfl) (fn := Tryz.f102) (c := (Tryz.f102.body).getD .skip) (an := an_wide_exact) (by kernel_rfl) (by kernel_rfl) (by kernel_rfl) oc_wide_exact (by kernel_rfl) (Eq.mp (eq_wide_exact a0 a1 a2 h R) H)

/-! ### slices.rotateCmpFunc[int]: function 103 -/
def sh_slices_rotateCmpFunc_int (a0 a1 a2 a3 a4 : Value) (h : Heap) (R : Value → Heap → Prop) : Prop :=
 vK (binV .i .sub a2 a1) fun v1 =>
 vK (binV .i .sub a3 a2) fun v2 =>
 loopK [v1, v2] h fun x3 j4 h5 again6 =>
 vK (binV .i .neq (ix x3 0) (ix x3 1)) fun v7 =>
 iteK v7 (
 vK (binV .i .gtr (ix x3 0) (ix x3 1)) fun v8 =>
 iteK v8 (
 vK (binV .i .sub a2 (ix x3 0)) fun v9 =>
 FCall Tryz.prog F_slices_swapRangeCmpFunc_int #[a0, v9, a2, (ix x3 1), a4] h5 fun v10 h11 =>
 vK (binV .i .sub (ix x3 0) (ix x3 1)) fun v12 =>
 again6 [v12, (ix x3 1)] h11) (
 vK (binV .i .sub a2 (ix x3 0)) fun v13 =>
 vK (binV .i .add a2 (ix x3 1)) fun v14 =>
 vK (binV .i .sub v14 (ix x3 0)) fun v15 =>
 FCall Tryz.prog F_slices_swapRangeCmpFunc_int #[a0, v13, v15, (ix x3 0), a4] h5 fun v16 h17 =>
 vK (binV .i .sub (ix x3 1) (ix x3 0)) fun v18 =>
 again6 [(ix x3 0), v18] h17)) (
 vK (binV .i .sub a2 (ix x3 0)) fun v19 =>
 FCall Tryz.prog F_slices_swapRangeCmpFunc_int #[a0, v19, a2, (ix x3 0), a4] h5 fun v20 h21 =>
 R (.tuple #[]) h21)
noncomputable def an_slices_rotateCmpFunc_int : Ann := (.s .z (.s .z (.s (.l 1125899906583552 [10, 11] (.s (.s .z (.s .z .z)) (.s .z (.s (.s .z .z) (.s .z .z))))) .z)))
theorem oc_slices_rotateCmpFunc_int : okCode Tryz.f103.ntmps ((Tryz.f103.body).getD .skip) an_slices_rotateCmpFunc_int = true := by kernel_rfl
theorem eq_slices_rotateCmpFunc_int (a0 a1 a2 a3 a4 : Value) (h : Heap) (R : Value → Heap → Prop) : sh_slices_rotateCmpFunc_int a0 a1 a2 a3 a4 h R = cFunc Tryz.prog ((Tryz.f103.body).getD .skip) an_slices_rotateCmpFunc_int Tryz.f103.results.toList #[a0, a1, a2, a3, a4].toList h R := by kernel_rfl
theorem ok_slices_rotateCmpFunc_int {a0 a1 a2 a3 a4 : Value} {h : Heap} {R : Value → Heap → Prop} (H : sh_slices_rotateCmpFunc_int a0 a1 a2 a3 a4 h R) : FCall Tryz.prog F_slices_rotateCmpFunc_int #[a0, a1, a2, a3, a4] h R :=
  fcall_of (by kernel_rfl) (fn := Tryz.f103) (c := (Tryz.f103.body).getD .skip) (an := an_slices_rotateCmpFunc_int) (by kernel_rfl) (by kernel_rfl) (by kernel_rfl) oc_slices_rotateCmpFunc_int (by kernel_rfl) (Eq.mp (eq_slices_rotateCmpFunc_int a0 a1 a2 a3 a4 h R) H)

/-! ### slices.swapRangeCmpFunc[int]: function 104 -/
def sh_slices_swapRangeCmpFunc_int (a0 a1 a2 a3 a4 : Value) (h : Heap) (R : Value → Heap → Prop) : Prop :=
 loopK [(.int .i64 0)] h fun x1 j2 h3 again4 =>
 vK (binV .i .lss (ix x1 0) a3) fun v5 =>
 iteK v5 (
 drawK h3 fun S =>
 vK (binV .i .add a1 (ix x1 0)) fun v6 =>
 vK (binV .i .add a2 (ix x1 0)) fun v7 =>
 vK (binV .i .add a2 (ix x1 0)) fun v8 =>
 vK (idxV 1 a0 v8) fun v9 =>
 qK S (fun h3 => ldV h3 v9) fun v10 =>
 vK (binV .i .add a1 (ix x1 0)) fun v11 =>
 vK (idxV 1 a0 v11) fun v12 =>
 qK S (fun h3 => ldV h3 v12) fun v13 =>
 vK (idxV 1 a0 v6) fun v14 =>
 stK 1 v14 v10 h3 fun v15 h16 =>
 vK (idxV 1 a0 v7) fun v17 =>
 stK 1 v17 v13 h16 fun v18 h19 =>
 vK (binV .i .add (ix x1 0) (.int .i64 1)) fun v20 =>
 again4 [v20] h19) (
 R (.tuple #[]) h3)
noncomputable def an_slices_swapRangeCmpFunc_int : Ann := (.s .z (.l 274877905920 [10] (.s (.s .z (.s .z .z)) (.s (.d (.op 0 .r (.op 1 .r (.op 2 .r (.op 3 .r (.op 4 .r (.op 5 .r (.op 6 .r (.op 7 .r (.op 8 .r (.op 9 .r (.op 10 .r (.op 11 .r (.op 12 .r (.op 13 .r (.op 14 .r (.op 15 .r (.op 16 .r (.op 17 .r (.op 18 .r (.op 19 .r (.op 20 .r (.op 21 .n (.op 22 .r (.op 23 .n .nil))))))))))))))))))))))))) .z))))
theorem oc_slices_swapRangeCmpFunc_int : okCode Tryz.f104.ntmps ((Tryz.f104.body).getD .skip) an_slices_swapRangeCmpFunc_int = true := by kernel_rfl
theorem eq_slices_swapRangeCmpFunc_int (a0 a1 a2 a3 a4 : Value) (h : Heap) (R : Value → Heap → Prop) : sh_slices_swapRangeCmpFunc_int a0 a1 a2 a3 a4 h R = cFunc Tryz.prog ((Tryz.f104.body).getD .skip) an_slices_swapRangeCmpFunc_int Tryz.f104.results.toList #[a0, a1, a2, a3, a4].toList h R := by kernel_rfl
theorem ok_slices_swapRangeCmpFunc_int {a0 a1 a2 a3 a4 : Value} {h : Heap} {R : Value → Heap → Prop} (H : sh_slices_swapRangeCmpFunc_int a0 a1 a2 a3 a4 h R) : FCall Tryz.prog F_slices_swapRangeCmpFunc_int #[a0, a1, a2, a3, a4] h R :=
  fcall_of (by kernel_rfl) (fn := Tryz.f104) (c := (Tryz.f104.body).getD .skip) (an := an_slices_swapRangeCmpFunc_int) (by kernel_rfl) (by kernel_rfl) (by kernel_rfl) oc_slices_swapRangeCmpFunc_int (by kernel_rfl) (Eq.mp (eq_slices_swapRangeCmpFunc_int a0 a1 a2 a3 a4 h R) H)

end Go.Proofs.YtefdokfnnokagaaGreatDoor
