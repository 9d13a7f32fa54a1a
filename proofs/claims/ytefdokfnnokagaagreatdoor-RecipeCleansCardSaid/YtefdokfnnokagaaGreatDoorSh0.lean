/- What the functions of the program do, read over the heap alone, each tied to the model (written by a program of this session, shal.py). Conditions: none. -/
import Derived.Test.YtefdokfnnokagaaGreatDoorEb
import Derived.Test.YtefdokfnnokagaaGreatDoorProg
set_option linter.unusedVariables false
set_option maxRecDepth 100000
namespace Go.Proofs.YtefdokfnnokagaaGreatDoor
open Go Go.Crisp
abbrev F_law13_RecipeCleans : FuncId := 3
abbrev F_law13_Lives : FuncId := 4
abbrev F_law12_Little : FuncId := 5
abbrev F_recipe_Clean : FuncId := 6
abbrev F_op_Make : FuncId := 7
abbrev F_law13_Same : FuncId := 8
abbrev F_law12_Ref : FuncId := 9
abbrev F_table_Table_To : FuncId := 10
abbrev F_table_Table_Most : FuncId := 11
abbrev F_table_Table_Size : FuncId := 12
abbrev F_recipe_Word : FuncId := 13
abbrev F_slices_Clone_sl_int64_int64 : FuncId := 14
abbrev F_op_may : FuncId := 15
abbrev F_op_side : FuncId := 16
abbrev F_op_tables : FuncId := 17
abbrev F_ref06_Same : FuncId := 18
abbrev F_border_Name : FuncId := 19
abbrev F_recipe_Sign : FuncId := 20
abbrev F_raw_Name : FuncId := 21
abbrev F_strconv_FormatInt : FuncId := 22
abbrev F_strconv_Itoa : FuncId := 23
abbrev F_recipe_numbers : FuncId := 24
abbrev F_table_Resize : FuncId := 25
abbrev F_op_weights : FuncId := 26
abbrev F_table_Filter : FuncId := 27
abbrev F_internal_strconv_FormatInt : FuncId := 28
abbrev F_internal_strconv_Itoa : FuncId := 29
abbrev F_strings_Join : FuncId := 30
abbrev F_table_side : FuncId := 31
abbrev F_raw_Row : FuncId := 32
abbrev F_taps_Apportion : FuncId := 33
abbrev F_table_Table_add : FuncId := 34
abbrev F_taps_Gaussian : FuncId := 35
abbrev F_taps_Blur : FuncId := 36
abbrev F_taps_User : FuncId := 37
abbrev F_strings_Builder_Grow : FuncId := 42
abbrev F_strings_Builder_WriteString : FuncId := 43
abbrev F_strings_Builder_String : FuncId := 44
abbrev F_raw_Window : FuncId := 45
abbrev F_raw_weigh : FuncId := 46
abbrev F_taps_check : FuncId := 47
abbrev F_taps_Sum : FuncId := 48
abbrev F_fixed_Floor : FuncId := 49
abbrev F_fixed_Mod : FuncId := 50
abbrev F_slices_SortStableFunc_sl_int_int : FuncId := 51
abbrev F_taps_Apportion_c1 : FuncId := 52
abbrev F_cmp_Compare_int64 : FuncId := 53
abbrev F_taps_Size : FuncId := 54
abbrev F_expo_Gauss : FuncId := 55
abbrev F_slices_Repeat_sl_int64_int64 : FuncId := 56
abbrev F_wide_MulDiv : FuncId := 57
abbrev F_math_bits_Len64 : FuncId := 59
abbrev F_strings_Builder_copyCheck : FuncId := 63
abbrev F_raw_may : FuncId := 65
abbrev F_raw_ceil : FuncId := 66
abbrev F_raw_Keys : FuncId := 67
abbrev F_sinc_Lanczos : FuncId := 68
abbrev F_slices_ContainsFunc_sl_int64_int64 : FuncId := 69
abbrev F_taps_check_c1 : FuncId := 70
abbrev F_taps_size : FuncId := 71
abbrev F_fixed_Add : FuncId := 72
abbrev F_fixed_size : FuncId := 73
abbrev F_fixed_hold : FuncId := 74
abbrev F_slices_stableCmpFunc_int : FuncId := 75
abbrev F_cmp_isNaN_int64 : FuncId := 76
abbrev F_fixed_Shift : FuncId := 77
abbrev F_expo_Exp : FuncId := 78
abbrev F_expo_Ratio : FuncId := 79
abbrev F_math_bits_Mul : FuncId := 80
abbrev F_wide_product : FuncId := 81
abbrev F_wide_size : FuncId := 82
abbrev F_wide_signed : FuncId := 83
abbrev F_math_bits_Div64 : FuncId := 84
abbrev F_math_bits_Add64 : FuncId := 85
abbrev F_sinc_May : FuncId := 90
abbrev F_sinc_size : FuncId := 91
abbrev F_wide_MulShift : FuncId := 92
abbrev F_sinc_series : FuncId := 93
abbrev F_slices_IndexFunc_sl_int64_int64 : FuncId := 94
abbrev F_fixed_Mul : FuncId := 95
abbrev F_slices_insertionSortCmpFunc_int : FuncId := 96
abbrev F_slices_symMergeCmpFunc_int : FuncId := 97
abbrev F_math_bits_Mul32 : FuncId := 98
abbrev F_math_bits_Mul64 : FuncId := 99
abbrev F_math_bits_LeadingZeros64 : FuncId := 100
abbrev F_wide_shift : FuncId := 101
abbrev F_wide_exact : FuncId := 102
abbrev F_slices_rotateCmpFunc_int : FuncId := 103
abbrev F_slices_swapRangeCmpFunc_int : FuncId := 104
abbrev G_border_names : Nat := 0
abbrev G_raw_kinds : Nat := 1
abbrev G_internal_strconv_uint64pow10 : Nat := 2
abbrev G_math_bits_divideError : Nat := 3
abbrev G_math_bits_overflowError : Nat := 4
abbrev G_math_bits_deBruijn32tab : Nat := 5
abbrev G_math_bits_deBruijn64tab : Nat := 6
abbrev G_internal_bytealg_MaxLen : Nat := 7
theorem flat_ok : flatOkB Tryz.prog = true := rfl
instance : FlatOk Tryz.prog := ⟨flat_ok⟩
/-! ### smalto|smaltolaw13.RecipeCleans: function 3 -/
def sh_law13_RecipeCleans (a0 a1 a2 : Value) (h : Heap) (R : Value → Heap → Prop) : Prop :=
 newK (Value.cells a0) 27 h fun v1 h2 =>
 FCall Tryz.prog F_law13_Lives #[] h2 fun v3 h4 =>
 vK (unV .not v3) fun v5 =>
 vK (gV v5 false (ldsV 9 h4 v1)) fun v6 =>
 gK v5 false (fun k115 => rowK #[(.int .i64 0), (.int .i64 0), (.int .i64 0), (.int .i64 0), (.slice none 0 0), (.slice none 0 0), (.int .i64 0), (.int .i64 0), (.int .i64 0)] 27 1 [(0, 9, v6)] h4 k115) h4 fun v7 h8 =>
 gK v5 false (fun k114 => FCall Tryz.prog F_law12_Little #[v7, (.int .i64 20)] h8 k114) h8 fun v9 h10 =>
 vK (gV v5 false (unV .not v9)) fun v11 =>
 vK (pickV v5 (.bool true) v11) fun v12 =>
 iteK v12 (
 FCall Tryz.prog F_law13_Lives #[] h10 fun v13 h14 =>
 R v13 h14) (
 vK (ldsV 9 h10 v1) fun v15 =>
 FCall Tryz.prog F_recipe_Clean #[v15] h10 fun v16 h17 =>
 newK #[(.int .i64 0), (.int .i64 0), (.int .i64 0), (.int .i64 0), (.slice none 0 0), (.slice none 0 0), (.int .i64 0), (.int .i64 0), (.int .i64 0)] 27 h17 fun v18 h19 =>
 stK 9 v18 v16 h19 fun v20 h21 =>
 vK (ldsV 9 h21 v1) fun v22 =>
 vK (binV .i .rem a1 (.int .u8 20)) fun v23 =>
 vK (cviV .i64 v23) fun v24 =>
 vK (binV .i .add (.int .i64 1) v24) fun v25 =>
 vK (binV .i .rem a2 (.int .u8 20)) fun v26 =>
 vK (cviV .i64 v26) fun v27 =>
 vK (binV .i .add (.int .i64 1) v27) fun v28 =>
 FCall Tryz.prog F_op_Make #[v22, v25, v28] h21 fun v29 h30 =>
 vK (extV v29 0) fun v31 =>
 vK (extV v29 1) fun v32 =>
 newK #[(.pointer none), (.pointer none), (.int .i64 0)] 34 h30 fun v33 h34 =>
 stK 3 v33 v31 h34 fun v35 h36 =>
 vK (ldsV 9 h36 v18) fun v37 =>
 vK (binV .i .rem a1 (.int .u8 20)) fun v38 =>
 vK (cviV .i64 v38) fun v39 =>
 vK (binV .i .add (.int .i64 1) v39) fun v40 =>
 vK (binV .i .rem a2 (.int .u8 20)) fun v41 =>
 vK (cviV .i64 v41) fun v42 =>
 vK (binV .i .add (.int .i64 1) v42) fun v43 =>
 FCall Tryz.prog F_op_Make #[v37, v40, v43] h36 fun v44 h45 =>
 vK (extV v44 0) fun v46 =>
 vK (extV v44 1) fun v47 =>
 newK #[(.pointer none), (.pointer none), (.int .i64 0)] 34 h45 fun v48 h49 =>
 stK 3 v48 v46 h49 fun v50 h51 =>
 drawK h51 fun S =>
 qK S (fun h51 => ldsV 9 h51 v18) fun v52 =>
 qK S (fun h51 => ldsV 9 h51 v18) fun v53 =>
 FCall Tryz.prog F_recipe_Clean #[v52] h51 fun v54 h55 =>
 S h55 ∧ (FCall Tryz.prog F_law12_Ref #[v53] h55 fun v56 h57 =>
 FCall Tryz.prog F_law13_Same #[v54, v56] h57 fun v58 h59 =>
 vK (unV .not v58) fun v60 =>
 vK (gV v60 false (some v32)) fun v61 =>
 vK (gV v60 false (some v47)) fun v62 =>
 vK (gV v60 false (binV .i .neq v61 v62)) fun v63 =>
 vK (pickV v60 (.bool true) v63) fun v64 =>
 iteK v64 (
 R (.bool false) h59) (
 drawK h59 fun S =>
 vK (binV .i .neq v32 (.int .i64 0)) fun v65 =>
 vK (gV v65 false (fldV 0 v33)) fun v66 =>
 qK S (fun h59 => gV v65 false (ldV h59 v66)) fun v67 =>
 vK (gV v65 false (binV .p .neq v67 (.pointer none))) fun v68 =>
 vK (gV v65 false (some v68)) fun v69 =>
 vK (gV v69 true (fldV 0 v48)) fun v70 =>
 qK S (fun h59 => gV v69 true (ldV h59 v70)) fun v71 =>
 vK (gV v69 true (binV .p .neq v71 (.pointer none))) fun v72 =>
 vK (gV v65 false (pickV v69 v72 (.bool false))) fun v73 =>
 vK (gV v65 false (some v73)) fun v74 =>
 vK (gV v74 true (fldV 0 v33)) fun v75 =>
 qK S (fun h59 => gV v74 true (ldV h59 v75)) fun v76 =>
 vK (gV v74 true (fldV 0 v48)) fun v77 =>
 qK S (fun h59 => gV v74 true (ldV h59 v77)) fun v78 =>
 gK v74 true (fun k113 => FCall Tryz.prog F_table_Table_To #[v76] h59 k113) h59 fun v79 h80 =>
 S h80 ∧ (gK v74 true (fun k112 => FCall Tryz.prog F_table_Table_To #[v78] h80 k112) h80 fun v81 h82 =>
 drawK h82 fun S =>
 vK (gV v74 true (binV .i .eql v79 v81)) fun v83 =>
 vK (gV v65 false (pickV v74 v83 (.bool false))) fun v84 =>
 vK (gV v65 false (some v84)) fun v85 =>
 vK (gV v85 true (fldV 0 v33)) fun v86 =>
 qK S (fun h82 => gV v85 true (ldV h82 v86)) fun v87 =>
 vK (gV v85 true (fldV 0 v48)) fun v88 =>
 qK S (fun h82 => gV v85 true (ldV h82 v88)) fun v89 =>
 gK v85 true (fun k111 => FCall Tryz.prog F_table_Table_Most #[v87] h82 k111) h82 fun v90 h91 =>
 S h91 ∧ (gK v85 true (fun k110 => FCall Tryz.prog F_table_Table_Most #[v89] h91 k110) h91 fun v92 h93 =>
 drawK h93 fun S =>
 vK (gV v85 true (binV .i .eql v90 v92)) fun v94 =>
 vK (gV v65 false (pickV v85 v94 (.bool false))) fun v95 =>
 vK (gV v65 false (some v95)) fun v96 =>
 vK (gV v96 true (fldV 0 v33)) fun v97 =>
 qK S (fun h93 => gV v96 true (ldV h93 v97)) fun v98 =>
 vK (gV v96 true (fldV 0 v48)) fun v99 =>
 qK S (fun h93 => gV v96 true (ldV h93 v99)) fun v100 =>
 gK v96 true (fun k109 => FCall Tryz.prog F_table_Table_Size #[v98] h93 k109) h93 fun v101 h102 =>
 S h102 ∧ (gK v96 true (fun k108 => FCall Tryz.prog F_table_Table_Size #[v100] h102 k108) h102 fun v103 h104 =>
 vK (gV v96 true (binV .i .eql v101 v103)) fun v105 =>
 vK (gV v65 false (pickV v96 v105 (.bool false))) fun v106 =>
 vK (pickV v65 (.bool true) v106) fun v107 =>
 R v107 h104))))))
noncomputable def an_law13_RecipeCleans : Ann := (.s .z (.s (.s .z (.s (.s .z .z) .z)) (.s .z (.s .z (.s .z (.s (.s (.d (.op 0 .r (.op 2 .r (.op 1 .e (.op 3 .n (.op 4 .n (.op 5 .r (.op 6 .r (.op 7 .r (.op 8 .r (.op 9 .r (.op 10 .r .nil)))))))))))) (.s (.s .z .z) .z)) (.s (.d (.op 0 .r (.op 1 .r (.op 2 .r (.op 3 .r (.op 4 .r (.op 5 .r (.op 6 .r (.op 7 .r (.op 8 .r (.op 9 .r (.op 10 .r (.op 11 .r (.op 12 .r (.op 13 .r (.op 15 .r (.op 16 .r (.op 14 .e (.op 17 .f (.op 18 .r (.op 19 .r (.op 20 .r (.op 21 .r (.op 22 .r (.op 24 .r (.op 25 .r (.op 23 .e (.op 26 .f (.op 27 .r (.op 28 .r (.op 29 .r (.op 30 .r (.op 31 .r (.op 33 .r (.op 34 .r (.op 32 .e (.op 35 .n (.op 36 .r (.op 37 .r (.op 38 .r (.op 39 .r .nil))))))))))))))))))))))))))))))))))))))))) .z)))))))
theorem oc_law13_RecipeCleans : okCode Tryz.f3.ntmps ((Tryz.f3.body).getD .skip) an_law13_RecipeCleans = true := by kernel_rfl
theorem eq_law13_RecipeCleans (a0 a1 a2 : Value) (h : Heap) (R : Value → Heap → Prop) : sh_law13_RecipeCleans a0 a1 a2 h R = cFunc Tryz.prog ((Tryz.f3.body).getD .skip) an_law13_RecipeCleans Tryz.f3.results.toList #[a0, a1, a2].toList h R := by kernel_rfl
theorem ok_law13_RecipeCleans {a0 a1 a2 : Value} {h : Heap} {R : Value → Heap → Prop} (H : sh_law13_RecipeCleans a0 a1 a2 h R) : FCall Tryz.prog F_law13_RecipeCleans #[a0, a1, a2] h R :=
  fcall_of (by kernel_rfl) (fn := Tryz.f3) (c := (Tryz.f3.body).getD .skip) (an := an_law13_RecipeCleans) (by kernel_rfl) (by kernel_rfl) (by kernel_rfl) oc_law13_RecipeCleans (by kernel_rfl) (Eq.mp (eq_law13_RecipeCleans a0 a1 a2 h R) H)

/-! ### smalto|smaltolaw13.Lives: function 4 -/
def sh_law13_Lives (h : Heap) (R : Value → Heap → Prop) : Prop :=
 rowK #[(.int .i64 0), (.int .i64 0), (.int .i64 0)] 2 3 [(0, 1, (.int .i64 1)), (1, 1, (.int .i64 2)), (2, 1, (.int .i64 1))] h fun v1 h2 =>
 rowK #[(.int .i64 0)] 2 1 [(0, 1, (.int .i64 1))] h2 fun v3 h4 =>
 vK ((fillL #[(.int .i64 0), (.int .i64 0), (.int .i64 0), (.int .i64 0), (.slice none 0 0), (.slice none 0 0), (.int .i64 0), (.int .i64 0), (.int .i64 0)] [(0, 1, (.int .i64 2)), (4, 1, v1), (5, 1, v3), (1, 1, (.int .i64 2))]).map .agg) fun v5 =>
 FCall Tryz.prog F_recipe_Word #[v5] h4 fun v6 h7 =>
 vK (extV v6 0) fun v8 =>
 vK (extV v6 1) fun v9 =>
 vK (binV .i .eql v9 (.int .i64 0)) fun v10 =>
 vK (gV v10 true (some v8)) fun v11 =>
 vK (gV v10 true (binV .s .eql v11 (.string ⟨#[226, 138, 151, 49, 44, 50, 44, 49, 195, 151, 49, 124, 119, 114, 97, 112]⟩))) fun v12 =>
 vK (pickV v10 v12 (.bool false)) fun v13 =>
 R v13 h7
noncomputable def an_law13_Lives : Ann := (.s .z (.s .z (.s .z .z)))
theorem oc_law13_Lives : okCode Tryz.f4.ntmps ((Tryz.f4.body).getD .skip) an_law13_Lives = true := by kernel_rfl
theorem eq_law13_Lives (h : Heap) (R : Value → Heap → Prop) : sh_law13_Lives h R = cFunc Tryz.prog ((Tryz.f4.body).getD .skip) an_law13_Lives Tryz.f4.results.toList #[].toList h R := by kernel_rfl
theorem ok_law13_Lives {h : Heap} {R : Value → Heap → Prop} (H : sh_law13_Lives h R) : FCall Tryz.prog F_law13_Lives #[] h R :=
  fcall_of (by kernel_rfl) (fn := Tryz.f4) (c := (Tryz.f4.body).getD .skip) (an := an_law13_Lives) (by kernel_rfl) (by kernel_rfl) (by kernel_rfl) oc_law13_Lives (by kernel_rfl) (Eq.mp (eq_law13_Lives h R) H)

/-! ### smalto|smaltolaw12.Little: function 5 -/
def sh_law12_Little (a0 a1 : Value) (h : Heap) (R : Value → Heap → Prop) : Prop :=
 vK (lenslV a0) fun v1 =>
 loopK [(.int .i64 0)] h fun x2 j3 h4 again5 =>
 vK (binV .i .lss (ix x2 0) v1) fun v6 =>
 iteK v6 (
 vK (idxV 9 a0 (ix x2 0)) fun v7 =>
 vK (ldsV 9 h4 v7) fun v8 =>
 newK #[(.int .i64 0), (.int .i64 0), (.int .i64 0), (.int .i64 0), (.slice none 0 0), (.slice none 0 0), (.int .i64 0), (.int .i64 0), (.int .i64 0)] 27 h4 fun v9 h10 =>
 stK 9 v9 v8 h10 fun v11 h12 =>
 vK (fldV 4 v9) fun v13 =>
 vK (ldV h12 v13) fun v14 =>
 vK (lenslV v14) fun v15 =>
 vK (binV .i .gtr v15 (.int .i64 40)) fun v16 =>
 vK (gV v16 false (fldV 5 v9)) fun v17 =>
 vK (gV v16 false (ldV h12 v17)) fun v18 =>
 vK (gV v16 false (lenslV v18)) fun v19 =>
 vK (gV v16 false (binV .i .gtr v19 (.int .i64 40))) fun v20 =>
 vK (pickV v16 (.bool true) v20) fun v21 =>
 vK (gV v21 false (fldV 2 v9)) fun v22 =>
 vK (gV v21 false (ldV h12 v22)) fun v23 =>
 vK (gV v21 false (binV .i .gtr v23 (.int .i64 262144))) fun v24 =>
 vK (gV v21 false (some v24)) fun v25 =>
 vK (gV v25 true (fldV 2 v9)) fun v26 =>
 vK (gV v25 true (ldV h12 v26)) fun v27 =>
 vK (gV v25 true (binV .i .leq v27 (.int .i64 4194304))) fun v28 =>
 vK (gV v21 false (pickV v25 v28 (.bool false))) fun v29 =>
 vK (pickV v21 (.bool true) v29) fun v30 =>
 vK (gV v30 false (fldV 3 v9)) fun v31 =>
 vK (gV v30 false (ldV h12 v31)) fun v32 =>
 vK (gV v30 false (binV .i .gtr v32 (.int .i64 20))) fun v33 =>
 vK (gV v30 false (some v33)) fun v34 =>
 vK (gV v34 true (fldV 3 v9)) fun v35 =>
 vK (gV v34 true (ldV h12 v35)) fun v36 =>
 vK (gV v34 true (binV .i .lss v36 (.int .i64 512))) fun v37 =>
 vK (gV v30 false (pickV v34 v37 (.bool false))) fun v38 =>
 vK (pickV v30 (.bool true) v38) fun v39 =>
 vK (gV v39 false (fldV 7 v9)) fun v40 =>
 vK (gV v39 false (ldV h12 v40)) fun v41 =>
 vK (gV v39 false (some a1)) fun v42 =>
 vK (gV v39 false (binV .i .gtr v41 v42)) fun v43 =>
 vK (gV v39 false (some v43)) fun v44 =>
 vK (gV v44 true (fldV 7 v9)) fun v45 =>
 vK (gV v44 true (ldV h12 v45)) fun v46 =>
 vK (gV v44 true (binV .i .leq v46 (.int .i64 65536))) fun v47 =>
 vK (gV v39 false (pickV v44 v47 (.bool false))) fun v48 =>
 vK (pickV v39 (.bool true) v48) fun v49 =>
 vK (gV v49 false (fldV 8 v9)) fun v50 =>
 vK (gV v49 false (ldV h12 v50)) fun v51 =>
 vK (gV v49 false (some a1)) fun v52 =>
 vK (gV v49 false (binV .i .gtr v51 v52)) fun v53 =>
 vK (gV v49 false (some v53)) fun v54 =>
 vK (gV v54 true (fldV 8 v9)) fun v55 =>
 vK (gV v54 true (ldV h12 v55)) fun v56 =>
 vK (gV v54 true (binV .i .leq v56 (.int .i64 65536))) fun v57 =>
 vK (gV v49 false (pickV v54 v57 (.bool false))) fun v58 =>
 vK (pickV v49 (.bool true) v58) fun v59 =>
 iteK v59 (
 R (.bool false) h12) (
 vK (binV .i .add (ix x2 0) (.int .i64 1)) fun v60 =>
 again5 [v60] h12)) (
 R (.bool true) h4)
noncomputable def an_law12_Little : Ann := (.s .z (.s (.s .z (.l 73786976294838206032 [9] (.s .z (.s (.s .z .z) (.s (.s .z (.s .z (.s (.s .z .z) .z))) .z))))) (.s .z .z)))
theorem oc_law12_Little : okCode Tryz.f5.ntmps ((Tryz.f5.body).getD .skip) an_law12_Little = true := by kernel_rfl
theorem eq_law12_Little (a0 a1 : Value) (h : Heap) (R : Value → Heap → Prop) : sh_law12_Little a0 a1 h R = cFunc Tryz.prog ((Tryz.f5.body).getD .skip) an_law12_Little Tryz.f5.results.toList #[a0, a1].toList h R := by kernel_rfl
theorem ok_law12_Little {a0 a1 : Value} {h : Heap} {R : Value → Heap → Prop} (H : sh_law12_Little a0 a1 h R) : FCall Tryz.prog F_law12_Little #[a0, a1] h R :=
  fcall_of (by kernel_rfl) (fn := Tryz.f5) (c := (Tryz.f5.body).getD .skip) (an := an_law12_Little) (by kernel_rfl) (by kernel_rfl) (by kernel_rfl) oc_law12_Little (by kernel_rfl) (Eq.mp (eq_law12_Little a0 a1 h R) H)

/-! ### smalto|recipe.Clean: function 6 -/
def sh_recipe_Clean (a0 : Value) (h : Heap) (R : Value → Heap → Prop) : Prop :=
 newK (Value.cells a0) 27 h fun v1 h2 =>
 newK #[(.int .i64 0), (.int .i64 0), (.int .i64 0), (.int .i64 0), (.slice none 0 0), (.slice none 0 0), (.int .i64 0), (.int .i64 0), (.int .i64 0)] 27 h2 fun v3 h4 =>
 vK (fldV 0 v1) fun v5 =>
 vK (ldV h4 v5) fun v6 =>
 vK (fldV 1 v1) fun v7 =>
 vK (ldV h4 v7) fun v8 =>
 vK ((fillL #[(.int .i64 0), (.int .i64 0), (.int .i64 0), (.int .i64 0), (.slice none 0 0), (.slice none 0 0), (.int .i64 0), (.int .i64 0), (.int .i64 0)] [(0, 1, v6), (1, 1, v8)]).map .agg) fun v9 =>
 newK #[(.int .i64 0), (.int .i64 0), (.int .i64 0), (.int .i64 0), (.slice none 0 0), (.slice none 0 0), (.int .i64 0), (.int .i64 0), (.int .i64 0)] 27 h4 fun v10 h11 =>
 stK 9 v10 v9 h11 fun v12 h13 =>
 vK (fldV 0 v1) fun v14 =>
 vK (ldV h13 v14) fun v15 =>
 vK (binV .i .eql v15 (.int .i64 0)) fun v16 =>
 iteK v16 (
 vK (fldV 2 v1) fun v17 =>
 vK (ldV h13 v17) fun v18 =>
 vK (fldV 2 v10) fun v19 =>
 stK 1 v19 v18 h13 fun v20 h21 =>
 vK (ldsV 9 h21 v10) fun v22 =>
 stK 9 v3 v22 h21 fun v23 h24 =>
 vK (ldsV 9 h24 v3) fun v25 =>
 R v25 h24) (
 vK (binV .i .eql v15 (.int .i64 1)) fun v26 =>
 iteK v26 (
 vK (fldV 3 v1) fun v27 =>
 vK (ldV h13 v27) fun v28 =>
 vK (fldV 3 v10) fun v29 =>
 stK 1 v29 v28 h13 fun v30 h31 =>
 vK (ldsV 9 h31 v10) fun v32 =>
 stK 9 v3 v32 h31 fun v33 h34 =>
 vK (ldsV 9 h34 v3) fun v35 =>
 R v35 h34) (
 vK (binV .i .eql v15 (.int .i64 2)) fun v36 =>
 iteK v36 (
 drawK h13 fun S =>
 vK (fldV 4 v1) fun v37 =>
 qK S (fun h13 => ldV h13 v37) fun v38 =>
 vK (fldV 5 v1) fun v39 =>
 qK S (fun h13 => ldV h13 v39) fun v40 =>
 FCall Tryz.prog F_slices_Clone_sl_int64_int64 #[v38] h13 fun v41 h42 =>
 S h42 ∧ (vK (fldV 4 v10) fun v43 =>
 FCall Tryz.prog F_slices_Clone_sl_int64_int64 #[v40] h42 fun v44 h45 =>
 S h45 ∧ (stK 1 v43 v41 h45 fun v46 h47 =>
 vK (fldV 5 v10) fun v48 =>
 stK 1 v48 v44 h47 fun v49 h50 =>
 vK (ldsV 9 h50 v10) fun v51 =>
 stK 9 v3 v51 h50 fun v52 h53 =>
 vK (ldsV 9 h53 v3) fun v54 =>
 R v54 h53))) (
 vK (binV .i .eql v15 (.int .i64 3)) fun v55 =>
 iteK v55 (
 drawK h13 fun S =>
 vK (fldV 7 v1) fun v56 =>
 qK S (fun h13 => ldV h13 v56) fun v57 =>
 vK (fldV 8 v1) fun v58 =>
 qK S (fun h13 => ldV h13 v58) fun v59 =>
 vK (fldV 6 v1) fun v60 =>
 qK S (fun h13 => ldV h13 v60) fun v61 =>
 vK (fldV 7 v10) fun v62 =>
 stK 1 v62 v57 h13 fun v63 h64 =>
 S h64 ∧ (vK (fldV 8 v10) fun v65 =>
 stK 1 v65 v59 h64 fun v66 h67 =>
 S h67 ∧ (vK (fldV 6 v10) fun v68 =>
 stK 1 v68 v61 h67 fun v69 h70 =>
 vK (ldsV 9 h70 v10) fun v71 =>
 stK 9 v3 v71 h70 fun v72 h73 =>
 vK (ldsV 9 h73 v3) fun v74 =>
 R v74 h73))) (
 vK (ldsV 9 h13 v10) fun v75 =>
 stK 9 v3 v75 h13 fun v76 h77 =>
 vK (ldsV 9 h77 v3) fun v78 =>
 R v78 h77))))
noncomputable def an_recipe_Clean : Ann := (.s .z (.s .z (.s (.s .z (.s .z (.s .z (.s .z (.s .z (.s .z (.s (.d (.op 0 .r (.op 1 .r (.op 3 .r (.op 4 .r (.op 2 .e (.op 6 .r (.op 5 .e (.op 7 .n (.op 8 .r (.op 9 .n .nil))))))))))) (.s .z (.s (.d (.op 0 .r (.op 1 .r (.op 2 .r (.op 3 .r (.op 4 .r (.op 5 .r (.op 6 .r (.op 7 .e (.op 8 .r (.op 9 .e (.op 10 .r (.op 11 .n .nil))))))))))))) .z))))))))) (.s .z .z))))
theorem oc_recipe_Clean : okCode Tryz.f6.ntmps ((Tryz.f6.body).getD .skip) an_recipe_Clean = true := by kernel_rfl
theorem eq_recipe_Clean (a0 : Value) (h : Heap) (R : Value → Heap → Prop) : sh_recipe_Clean a0 h R = cFunc Tryz.prog ((Tryz.f6.body).getD .skip) an_recipe_Clean Tryz.f6.results.toList #[a0].toList h R := by kernel_rfl
theorem ok_recipe_Clean {a0 : Value} {h : Heap} {R : Value → Heap → Prop} (H : sh_recipe_Clean a0 h R) : FCall Tryz.prog F_recipe_Clean #[a0] h R :=
  fcall_of (by kernel_rfl) (fn := Tryz.f6) (c := (Tryz.f6.body).getD .skip) (an := an_recipe_Clean) (by kernel_rfl) (by kernel_rfl) (by kernel_rfl) oc_recipe_Clean (by kernel_rfl) (Eq.mp (eq_recipe_Clean a0 h R) H)

/-! ### smalto|op.Make: function 7 -/
def sh_op_Make (a0 a1 a2 : Value) (h : Heap) (R : Value → Heap → Prop) : Prop :=
 newK (Value.cells a0) 27 h fun v1 h2 =>
 newK #[(.pointer none), (.pointer none), (.int .i64 0)] 34 h2 fun v3 h4 =>
 vK (ldsV 9 h4 v1) fun v5 =>
 FCall Tryz.prog F_op_may #[v5] h4 fun v6 h7 =>
 vK (unV .not v6) fun v8 =>
 vK (gV v8 false (some a1)) fun v9 =>
 gK v8 false (fun k41 => FCall Tryz.prog F_op_side #[v9] h7 k41) h7 fun v10 h11 =>
 vK (gV v8 false (unV .not v10)) fun v12 =>
 vK (pickV v8 (.bool true) v12) fun v13 =>
 vK (gV v13 false (some a2)) fun v14 =>
 gK v13 false (fun k40 => FCall Tryz.prog F_op_side #[v14] h11 k40) h11 fun v15 h16 =>
 vK (gV v13 false (unV .not v15)) fun v17 =>
 vK (pickV v13 (.bool true) v17) fun v18 =>
 iteK v18 (
 vK ((fillL #[(.pointer none), (.pointer none), (.int .i64 0)] []).map .agg) fun v19 =>
 stK 3 v3 v19 h16 fun v20 h21 =>
 vK (ldsV 3 h21 v3) fun v22 =>
 R (.tuple #[v22, (.int .i64 6)]) h21) (
 vK (ldsV 9 h16 v1) fun v23 =>
 FCall Tryz.prog F_op_tables #[v23, a1, a2] h16 fun v24 h25 =>
 vK (extV v24 0) fun v26 =>
 vK (extV v24 1) fun v27 =>
 vK (extV v24 2) fun v28 =>
 vK (binV .i .neq v28 (.int .i64 0)) fun v29 =>
 iteK v29 (
 vK ((fillL #[(.pointer none), (.pointer none), (.int .i64 0)] []).map .agg) fun v30 =>
 stK 3 v3 v30 h25 fun v31 h32 =>
 vK (ldsV 3 h32 v3) fun v33 =>
 R (.tuple #[v33, v28]) h32) (
 vK (fldV 1 v1) fun v34 =>
 vK (ldV h25 v34) fun v35 =>
 vK ((fillL #[(.pointer none), (.pointer none), (.int .i64 0)] [(0, 1, v26), (1, 1, v27), (2, 1, v35)]).map .agg) fun v36 =>
 stK 3 v3 v36 h25 fun v37 h38 =>
 vK (ldsV 3 h38 v3) fun v39 =>
 R (.tuple #[v39, (.int .i64 0)]) h38))
noncomputable def an_op_Make : Ann := (.s .z (.s (.s .z (.s (.s .z .z) .z)) (.s .z (.s (.s .z (.s (.s .z .z) .z)) (.s .z .z)))))
theorem oc_op_Make : okCode Tryz.f7.ntmps ((Tryz.f7.body).getD .skip) an_op_Make = true := by kernel_rfl
theorem eq_op_Make (a0 a1 a2 : Value) (h : Heap) (R : Value → Heap → Prop) : sh_op_Make a0 a1 a2 h R = cFunc Tryz.prog ((Tryz.f7.body).getD .skip) an_op_Make Tryz.f7.results.toList #[a0, a1, a2].toList h R := by kernel_rfl
theorem ok_op_Make {a0 a1 a2 : Value} {h : Heap} {R : Value → Heap → Prop} (H : sh_op_Make a0 a1 a2 h R) : FCall Tryz.prog F_op_Make #[a0, a1, a2] h R :=
  fcall_of (by kernel_rfl) (fn := Tryz.f7) (c := (Tryz.f7.body).getD .skip) (an := an_op_Make) (by kernel_rfl) (by kernel_rfl) (by kernel_rfl) oc_op_Make (by kernel_rfl) (Eq.mp (eq_op_Make a0 a1 a2 h R) H)

/-! ### smalto|smaltolaw13.Same: function 8 -/
def sh_law13_Same (a0 a1 : Value) (h : Heap) (R : Value → Heap → Prop) : Prop :=
 newK (Value.cells a0) 27 h fun v1 h2 =>
 newK (Value.cells a1) 40 h2 fun v3 h4 =>
 vK (fldV 0 v1) fun v5 =>
 vK (ldV h4 v5) fun v6 =>
 vK (fldV 0 v3) fun v7 =>
 vK (ldV h4 v7) fun v8 =>
 vK (binV .i .eql v6 v8) fun v9 =>
 vK (gV v9 true (fldV 1 v1)) fun v10 =>
 vK (gV v9 true (ldV h4 v10)) fun v11 =>
 vK (gV v9 true (fldV 1 v3)) fun v12 =>
 vK (gV v9 true (ldV h4 v12)) fun v13 =>
 vK (gV v9 true (binV .i .eql v11 v13)) fun v14 =>
 vK (pickV v9 v14 (.bool false)) fun v15 =>
 vK (gV v15 true (fldV 2 v1)) fun v16 =>
 vK (gV v15 true (ldV h4 v16)) fun v17 =>
 vK (gV v15 true (fldV 2 v3)) fun v18 =>
 vK (gV v15 true (ldV h4 v18)) fun v19 =>
 vK (gV v15 true (binV .i .eql v17 v19)) fun v20 =>
 vK (pickV v15 v20 (.bool false)) fun v21 =>
 vK (gV v21 true (fldV 3 v1)) fun v22 =>
 vK (gV v21 true (ldV h4 v22)) fun v23 =>
 vK (gV v21 true (fldV 3 v3)) fun v24 =>
 vK (gV v21 true (ldV h4 v24)) fun v25 =>
 vK (gV v21 true (binV .i .eql v23 v25)) fun v26 =>
 vK (pickV v21 v26 (.bool false)) fun v27 =>
 vK (gV v27 true (fldV 6 v1)) fun v28 =>
 vK (gV v27 true (ldV h4 v28)) fun v29 =>
 vK (gV v27 true (fldV 6 v3)) fun v30 =>
 vK (gV v27 true (ldV h4 v30)) fun v31 =>
 vK (gV v27 true (binV .i .eql v29 v31)) fun v32 =>
 vK (pickV v27 v32 (.bool false)) fun v33 =>
 vK (gV v33 true (fldV 7 v1)) fun v34 =>
 vK (gV v33 true (ldV h4 v34)) fun v35 =>
 vK (gV v33 true (fldV 7 v3)) fun v36 =>
 vK (gV v33 true (ldV h4 v36)) fun v37 =>
 vK (gV v33 true (binV .i .eql v35 v37)) fun v38 =>
 vK (pickV v33 v38 (.bool false)) fun v39 =>
 vK (gV v39 true (fldV 8 v1)) fun v40 =>
 vK (gV v39 true (ldV h4 v40)) fun v41 =>
 vK (gV v39 true (fldV 8 v3)) fun v42 =>
 vK (gV v39 true (ldV h4 v42)) fun v43 =>
 vK (gV v39 true (binV .i .eql v41 v43)) fun v44 =>
 vK (pickV v39 v44 (.bool false)) fun v45 =>
 vK (gV v45 true (fldV 4 v1)) fun v46 =>
 vK (gV v45 true (ldV h4 v46)) fun v47 =>
 vK (gV v45 true (fldV 4 v3)) fun v48 =>
 vK (gV v45 true (ldV h4 v48)) fun v49 =>
 gK v45 true (fun k61 => FCall Tryz.prog F_ref06_Same #[v47, v49] h4 k61) h4 fun v50 h51 =>
 vK (pickV v45 v50 (.bool false)) fun v52 =>
 vK (gV v52 true (fldV 5 v1)) fun v53 =>
 vK (gV v52 true (ldV h51 v53)) fun v54 =>
 vK (gV v52 true (fldV 5 v3)) fun v55 =>
 vK (gV v52 true (ldV h51 v55)) fun v56 =>
 gK v52 true (fun k60 => FCall Tryz.prog F_ref06_Same #[v54, v56] h51 k60) h51 fun v57 h58 =>
 vK (pickV v52 v57 (.bool false)) fun v59 =>
 R v59 h58
noncomputable def an_law13_Same : Ann := (.s .z (.s .z .z))
theorem oc_law13_Same : okCode Tryz.f8.ntmps ((Tryz.f8.body).getD .skip) an_law13_Same = true := by kernel_rfl
theorem eq_law13_Same (a0 a1 : Value) (h : Heap) (R : Value → Heap → Prop) : sh_law13_Same a0 a1 h R = cFunc Tryz.prog ((Tryz.f8.body).getD .skip) an_law13_Same Tryz.f8.results.toList #[a0, a1].toList h R := by kernel_rfl
theorem ok_law13_Same {a0 a1 : Value} {h : Heap} {R : Value → Heap → Prop} (H : sh_law13_Same a0 a1 h R) : FCall Tryz.prog F_law13_Same #[a0, a1] h R :=
  fcall_of (by kernel_rfl) (fn := Tryz.f8) (c := (Tryz.f8.body).getD .skip) (an := an_law13_Same) (by kernel_rfl) (by kernel_rfl) (by kernel_rfl) oc_law13_Same (by kernel_rfl) (Eq.mp (eq_law13_Same a0 a1 h R) H)

/-! ### smalto|smaltolaw12.Ref: function 9 -/
def sh_law12_Ref (a0 : Value) (h : Heap) (R : Value → Heap → Prop) : Prop :=
 newK (Value.cells a0) 27 h fun v1 h2 =>
 newK #[(.int .i64 0), (.int .i64 0), (.int .i64 0), (.int .i64 0), (.slice none 0 0), (.slice none 0 0), (.int .i64 0), (.int .i64 0), (.int .i64 0)] 40 h2 fun v3 h4 =>
 vK (fldV 0 v1) fun v5 =>
 vK (ldV h4 v5) fun v6 =>
 vK (fldV 1 v1) fun v7 =>
 vK (ldV h4 v7) fun v8 =>
 vK (fldV 2 v1) fun v9 =>
 vK (ldV h4 v9) fun v10 =>
 vK (fldV 3 v1) fun v11 =>
 vK (ldV h4 v11) fun v12 =>
 vK (fldV 4 v1) fun v13 =>
 vK (ldV h4 v13) fun v14 =>
 vK (fldV 5 v1) fun v15 =>
 vK (ldV h4 v15) fun v16 =>
 vK (fldV 6 v1) fun v17 =>
 vK (ldV h4 v17) fun v18 =>
 vK (fldV 7 v1) fun v19 =>
 vK (ldV h4 v19) fun v20 =>
 vK (fldV 8 v1) fun v21 =>
 vK (ldV h4 v21) fun v22 =>
 vK ((fillL #[(.int .i64 0), (.int .i64 0), (.int .i64 0), (.int .i64 0), (.slice none 0 0), (.slice none 0 0), (.int .i64 0), (.int .i64 0), (.int .i64 0)] [(0, 1, v6), (1, 1, v8), (2, 1, v10), (3, 1, v12), (4, 1, v14), (5, 1, v16), (6, 1, v18), (7, 1, v20), (8, 1, v22)]).map .agg) fun v23 =>
 stK 9 v3 v23 h4 fun v24 h25 =>
 vK (ldsV 9 h25 v3) fun v26 =>
 R v26 h25
noncomputable def an_law12_Ref : Ann := (.s .z (.s .z .z))
theorem oc_law12_Ref : okCode Tryz.f9.ntmps ((Tryz.f9.body).getD .skip) an_law12_Ref = true := by kernel_rfl
theorem eq_law12_Ref (a0 : Value) (h : Heap) (R : Value → Heap → Prop) : sh_law12_Ref a0 h R = cFunc Tryz.prog ((Tryz.f9.body).getD .skip) an_law12_Ref Tryz.f9.results.toList #[a0].toList h R := by kernel_rfl
theorem ok_law12_Ref {a0 : Value} {h : Heap} {R : Value → Heap → Prop} (H : sh_law12_Ref a0 h R) : FCall Tryz.prog F_law12_Ref #[a0] h R :=
  fcall_of (by kernel_rfl) (fn := Tryz.f9) (c := (Tryz.f9.body).getD .skip) (an := an_law12_Ref) (by kernel_rfl) (by kernel_rfl) (by kernel_rfl) oc_law12_Ref (by kernel_rfl) (Eq.mp (eq_law12_Ref a0 h R) H)

/-! ### (*smalto|table.Table).To: function 10 -/
def sh_table_Table_To (a0 : Value) (h : Heap) (R : Value → Heap → Prop) : Prop :=
 vK (nilV a0) fun v1 =>
 vK (fldV 1 v1) fun v2 =>
 vK (ldV h v2) fun v3 =>
 vK (lenslV v3) fun v4 =>
 R v4 h
noncomputable def an_table_Table_To : Ann := (.s .z (.s .z .z))
theorem oc_table_Table_To : okCode Tryz.f10.ntmps ((Tryz.f10.body).getD .skip) an_table_Table_To = true := by kernel_rfl
theorem eq_table_Table_To (a0 : Value) (h : Heap) (R : Value → Heap → Prop) : sh_table_Table_To a0 h R = cFunc Tryz.prog ((Tryz.f10.body).getD .skip) an_table_Table_To Tryz.f10.results.toList #[a0].toList h R := by kernel_rfl
theorem ok_table_Table_To {a0 : Value} {h : Heap} {R : Value → Heap → Prop} (H : sh_table_Table_To a0 h R) : FCall Tryz.prog F_table_Table_To #[a0] h R :=
  fcall_of (by kernel_rfl) (fn := Tryz.f10) (c := (Tryz.f10.body).getD .skip) (an := an_table_Table_To) (by kernel_rfl) (by kernel_rfl) (by kernel_rfl) oc_table_Table_To (by kernel_rfl) (Eq.mp (eq_table_Table_To a0 h R) H)

/-! ### (*smalto|table.Table).Most: function 11 -/
def sh_table_Table_Most (a0 : Value) (h : Heap) (R : Value → Heap → Prop) : Prop :=
 vK (nilV a0) fun v1 =>
 vK (fldV 2 v1) fun v2 =>
 vK (ldV h v2) fun v3 =>
 R v3 h
noncomputable def an_table_Table_Most : Ann := (.s .z (.s .z .z))
theorem oc_table_Table_Most : okCode Tryz.f11.ntmps ((Tryz.f11.body).getD .skip) an_table_Table_Most = true := by kernel_rfl
theorem eq_table_Table_Most (a0 : Value) (h : Heap) (R : Value → Heap → Prop) : sh_table_Table_Most a0 h R = cFunc Tryz.prog ((Tryz.f11.body).getD .skip) an_table_Table_Most Tryz.f11.results.toList #[a0].toList h R := by kernel_rfl
theorem ok_table_Table_Most {a0 : Value} {h : Heap} {R : Value → Heap → Prop} (H : sh_table_Table_Most a0 h R) : FCall Tryz.prog F_table_Table_Most #[a0] h R :=
  fcall_of (by kernel_rfl) (fn := Tryz.f11) (c := (Tryz.f11.body).getD .skip) (an := an_table_Table_Most) (by kernel_rfl) (by kernel_rfl) (by kernel_rfl) oc_table_Table_Most (by kernel_rfl) (Eq.mp (eq_table_Table_Most a0 h R) H)

/-! ### (*smalto|table.Table).Size: function 12 -/
def sh_table_Table_Size (a0 : Value) (h : Heap) (R : Value → Heap → Prop) : Prop :=
 vK (nilV a0) fun v1 =>
 vK (fldV 3 v1) fun v2 =>
 vK (ldV h v2) fun v3 =>
 R v3 h
noncomputable def an_table_Table_Size : Ann := (.s .z (.s .z .z))
theorem oc_table_Table_Size : okCode Tryz.f12.ntmps ((Tryz.f12.body).getD .skip) an_table_Table_Size = true := by kernel_rfl
theorem eq_table_Table_Size (a0 : Value) (h : Heap) (R : Value → Heap → Prop) : sh_table_Table_Size a0 h R = cFunc Tryz.prog ((Tryz.f12.body).getD .skip) an_table_Table_Size Tryz.f12.results.toList #[a0].toList h R := by kernel_rfl
theorem ok_table_Table_Size {a0 : Value} {h : Heap} {R : Value → Heap → Prop} (H : sh_table_Table_Size a0 h R) : FCall Tryz.prog F_table_Table_Size #[a0] h R :=
  fcall_of (by kernel_rfl) (fn := Tryz.f12) (c := (Tryz.f12.body).getD .skip) (an := an_table_Table_Size) (by kernel_rfl) (by kernel_rfl) (by kernel_rfl) oc_table_Table_Size (by kernel_rfl) (Eq.mp (eq_table_Table_Size a0 h R) H)

/-! ### smalto|recipe.Word: function 13 -/
def sh_recipe_Word (a0 : Value) (h : Heap) (R : Value → Heap → Prop) : Prop :=
 newK (Value.cells a0) 27 h fun v1 h2 =>
 vK (fldV 1 v1) fun v3 =>
 vK (ldV h2 v3) fun v4 =>
 FCall Tryz.prog F_border_Name #[v4] h2 fun v5 h6 =>
 vK (fldV 0 v1) fun v7 =>
 vK (ldV h6 v7) fun v8 =>
 FCall Tryz.prog F_recipe_Sign #[v8] h6 fun v9 h10 =>
 vK (binV .i .eql v9 (.int .i32 0)) fun v11 =>
 vK (gV v11 false (some v5)) fun v12 =>
 vK (gV v11 false (binV .s .eql v12 (.string ⟨#[]⟩))) fun v13 =>
 vK (pickV v11 (.bool true) v13) fun v14 =>
 vK (gV v14 false (fldV 0 v1)) fun v15 =>
 vK (gV v14 false (ldV h10 v15)) fun v16 =>
 vK (gV v14 false (binV .i .eql v16 (.int .i64 3))) fun v17 =>
 vK (gV v14 false (some v17)) fun v18 =>
 vK (gV v18 true (fldV 6 v1)) fun v19 =>
 vK (gV v18 true (ldV h10 v19)) fun v20 =>
 gK v18 true (fun k78 => FCall Tryz.prog F_raw_Name #[v20] h10 k78) h10 fun v21 h22 =>
 vK (gV v18 true (binV .s .eql v21 (.string ⟨#[]⟩))) fun v23 =>
 vK (gV v14 false (pickV v18 v23 (.bool false))) fun v24 =>
 vK (pickV v14 (.bool true) v24) fun v25 =>
 iteK v25 (
 R (.tuple #[(.string ⟨#[]⟩), (.int .i64 6)]) h22) (
 vK (fldV 0 v1) fun v26 =>
 vK (ldV h22 v26) fun v27 =>
 joinK (fun J28 =>
 vK (binV .i .eql v27 (.int .i64 0)) fun v32 =>
 iteK v32 (
 vK (fldV 2 v1) fun v33 =>
 vK (ldV h22 v33) fun v34 =>
 FCall Tryz.prog F_strconv_FormatInt #[v34, (.int .i64 10)] h22 fun v35 h36 =>
 J28 [v35] h36) (
 vK (binV .i .eql v27 (.int .i64 1)) fun v37 =>
 iteK v37 (
 vK (fldV 3 v1) fun v38 =>
 vK (ldV h22 v38) fun v39 =>
 FCall Tryz.prog F_strconv_Itoa #[v39] h22 fun v40 h41 =>
 J28 [v40] h41) (
 vK (binV .i .eql v27 (.int .i64 2)) fun v42 =>
 iteK v42 (
 drawK h22 fun S =>
 vK (fldV 4 v1) fun v43 =>
 qK S (fun h22 => ldV h22 v43) fun v44 =>
 vK (fldV 5 v1) fun v45 =>
 qK S (fun h22 => ldV h22 v45) fun v46 =>
 FCall Tryz.prog F_recipe_numbers #[v44] h22 fun v47 h48 =>
 S h48 ∧ (vK (binV .s .add v47 (.string ⟨#[195, 151]⟩)) fun v49 =>
 FCall Tryz.prog F_recipe_numbers #[v46] h48 fun v50 h51 =>
 S h51 ∧ (vK (binV .s .add v49 v50) fun v52 =>
 J28 [v52] h51))) (
 vK (binV .i .eql v27 (.int .i64 3)) fun v53 =>
 iteK v53 (
 drawK h22 fun S =>
 vK (fldV 7 v1) fun v54 =>
 qK S (fun h22 => ldV h22 v54) fun v55 =>
 vK (fldV 8 v1) fun v56 =>
 qK S (fun h22 => ldV h22 v56) fun v57 =>
 vK (fldV 6 v1) fun v58 =>
 qK S (fun h22 => ldV h22 v58) fun v59 =>
 FCall Tryz.prog F_strconv_Itoa #[v55] h22 fun v60 h61 =>
 S h61 ∧ (vK (binV .s .add v60 (.string ⟨#[195, 151]⟩)) fun v62 =>
 FCall Tryz.prog F_strconv_Itoa #[v57] h61 fun v63 h64 =>
 S h64 ∧ (vK (binV .s .add v62 v63) fun v65 =>
 vK (binV .s .add v65 (.string ⟨#[44]⟩)) fun v66 =>
 FCall Tryz.prog F_raw_Name #[v59] h64 fun v67 h68 =>
 S h68 ∧ (vK (binV .s .add v66 v67) fun v69 =>
 J28 [v69] h68)))) (
 J28 [(.string ⟨#[]⟩)] h22)))))
 fun x29 j30 h31 =>
 vK (fldV 0 v1) fun v70 =>
 vK (ldV h31 v70) fun v71 =>
 FCall Tryz.prog F_recipe_Sign #[v71] h31 fun v72 h73 =>
 vK (cvrsV v72) fun v74 =>
 vK (binV .s .add v74 (ix x29 0)) fun v75 =>
 vK (binV .s .add v75 (.string ⟨#[124]⟩)) fun v76 =>
 vK (binV .s .add v76 v5) fun v77 =>
 R (.tuple #[v77, (.int .i64 0)]) h73)
noncomputable def an_recipe_Word : Ann := (.s .z (.s .z (.s (.s .z (.s (.s .z .z) .z)) (.s .z (.s (.s .z (.m 36893488146345361440 [5] (.s .z (.s .z (.s .z (.s .z (.s .z (.s (.d (.op 0 .r (.op 1 .r (.op 4 .r (.op 5 .r (.op 2 .e (.op 3 .r (.op 6 .e (.op 7 .r (.op 8 .r .nil)))))))))) (.s .z (.s (.d (.op 0 .r (.op 1 .r (.op 4 .r (.op 5 .r (.op 9 .r (.op 10 .r (.op 2 .e (.op 3 .r (.op 6 .e (.op 7 .r (.op 8 .r (.op 11 .e (.op 12 .r (.op 13 .r .nil))))))))))))))) .z)))))))))) (.s .z .z))))))
theorem oc_recipe_Word : okCode Tryz.f13.ntmps ((Tryz.f13.body).getD .skip) an_recipe_Word = true := by kernel_rfl
theorem eq_recipe_Word (a0 : Value) (h : Heap) (R : Value → Heap → Prop) : sh_recipe_Word a0 h R = cFunc Tryz.prog ((Tryz.f13.body).getD .skip) an_recipe_Word Tryz.f13.results.toList #[a0].toList h R := by kernel_rfl
theorem ok_recipe_Word {a0 : Value} {h : Heap} {R : Value → Heap → Prop} (H : sh_recipe_Word a0 h R) : FCall Tryz.prog F_recipe_Word #[a0] h R :=
  fcall_of (by kernel_rfl) (fn := Tryz.f13) (c := (Tryz.f13.body).getD .skip) (an := an_recipe_Word) (by kernel_rfl) (by kernel_rfl) (by kernel_rfl) oc_recipe_Word (by kernel_rfl) (Eq.mp (eq_recipe_Word a0 h R) H)

/-! ### slices.Clone[[]int64,int64]: function 14 -/
def sh_slices_Clone_sl_int64_int64 (a0 : Value) (h : Heap) (R : Value → Heap → Prop) : Prop :=
 vK (binV .sl .eql a0 (.slice none 0 0)) fun v1 =>
 iteK v1 (
 R (.slice none 0 0) h) (
 rowK #[] 2 0 [] h fun v2 h3 =>
 appK (.int .i64 0) 2 1 8 v2 a0 h3 fun v4 h5 =>
 R v4 h5)
noncomputable def an_slices_Clone_sl_int64_int64 : Ann := (.s .z (.s (.s .z (.s (.s .z .z) .z)) (.s .z .z)))
theorem oc_slices_Clone_sl_int64_int64 : okCode Tryz.f14.ntmps ((Tryz.f14.body).getD .skip) an_slices_Clone_sl_int64_int64 = true := by kernel_rfl
theorem eq_slices_Clone_sl_int64_int64 (a0 : Value) (h : Heap) (R : Value → Heap → Prop) : sh_slices_Clone_sl_int64_int64 a0 h R = cFunc Tryz.prog ((Tryz.f14.body).getD .skip) an_slices_Clone_sl_int64_int64 Tryz.f14.results.toList #[a0].toList h R := by kernel_rfl
theorem ok_slices_Clone_sl_int64_int64 {a0 : Value} {h : Heap} {R : Value → Heap → Prop} (H : sh_slices_Clone_sl_int64_int64 a0 h R) : FCall Tryz.prog F_slices_Clone_sl_int64_int64 #[a0] h R :=
  fcall_of (by kernel_rfl) (fn := Tryz.f14) (c := (Tryz.f14.body).getD .skip) (an := an_slices_Clone_sl_int64_int64) (by kernel_rfl) (by kernel_rfl) (by kernel_rfl) oc_slices_Clone_sl_int64_int64 (by kernel_rfl) (Eq.mp (eq_slices_Clone_sl_int64_int64 a0 h R) H)

/-! ### smalto|op.may: function 15 -/
def sh_op_may (a0 : Value) (h : Heap) (R : Value → Heap → Prop) : Prop :=
 newK (Value.cells a0) 27 h fun v1 h2 =>
 vK (fldV 0 v1) fun v3 =>
 vK (ldV h2 v3) fun v4 =>
 vK (binV .i .lss v4 (.int .i64 0)) fun v5 =>
 vK (gV v5 false (fldV 0 v1)) fun v6 =>
 vK (gV v5 false (ldV h2 v6)) fun v7 =>
 vK (gV v5 false (binV .i .geq v7 (.int .i64 4))) fun v8 =>
 vK (pickV v5 (.bool true) v8) fun v9 =>
 vK (gV v9 false (fldV 1 v1)) fun v10 =>
 vK (gV v9 false (ldV h2 v10)) fun v11 =>
 gK v9 false (fun k40 => FCall Tryz.prog F_border_Name #[v11] h2 k40) h2 fun v12 h13 =>
 vK (gV v9 false (binV .s .eql v12 (.string ⟨#[]⟩))) fun v14 =>
 vK (pickV v9 (.bool true) v14) fun v15 =>
 iteK v15 (
 R (.bool false) h13) (
 vK (fldV 0 v1) fun v16 =>
 vK (ldV h13 v16) fun v17 =>
 vK (binV .i .neq v17 (.int .i64 3)) fun v18 =>
 vK (gV v18 false (fldV 7 v1)) fun v19 =>
 vK (gV v18 false (ldV h13 v19)) fun v20 =>
 gK v18 false (fun k39 => FCall Tryz.prog F_op_side #[v20] h13 k39) h13 fun v21 h22 =>
 vK (gV v18 false (some v21)) fun v23 =>
 vK (gV v23 true (fldV 8 v1)) fun v24 =>
 vK (gV v23 true (ldV h22 v24)) fun v25 =>
 gK v23 true (fun k38 => FCall Tryz.prog F_op_side #[v25] h22 k38) h22 fun v26 h27 =>
 vK (gV v18 false (pickV v23 v26 (.bool false))) fun v28 =>
 vK (gV v18 false (some v28)) fun v29 =>
 vK (gV v29 true (fldV 6 v1)) fun v30 =>
 vK (gV v29 true (ldV h27 v30)) fun v31 =>
 gK v29 true (fun k37 => FCall Tryz.prog F_raw_Name #[v31] h27 k37) h27 fun v32 h33 =>
 vK (gV v29 true (binV .s .neq v32 (.string ⟨#[]⟩))) fun v34 =>
 vK (gV v18 false (pickV v29 v34 (.bool false))) fun v35 =>
 vK (pickV v18 (.bool true) v35) fun v36 =>
 R v36 h33)
noncomputable def an_op_may : Ann := (.s .z (.s (.s .z (.s (.s .z .z) .z)) (.s .z .z)))
theorem oc_op_may : okCode Tryz.f15.ntmps ((Tryz.f15.body).getD .skip) an_op_may = true := by kernel_rfl
theorem eq_op_may (a0 : Value) (h : Heap) (R : Value → Heap → Prop) : sh_op_may a0 h R = cFunc Tryz.prog ((Tryz.f15.body).getD .skip) an_op_may Tryz.f15.results.toList #[a0].toList h R := by kernel_rfl
theorem ok_op_may {a0 : Value} {h : Heap} {R : Value → Heap → Prop} (H : sh_op_may a0 h R) : FCall Tryz.prog F_op_may #[a0] h R :=
  fcall_of (by kernel_rfl) (fn := Tryz.f15) (c := (Tryz.f15.body).getD .skip) (an := an_op_may) (by kernel_rfl) (by kernel_rfl) (by kernel_rfl) oc_op_may (by kernel_rfl) (Eq.mp (eq_op_may a0 h R) H)

/-! ### smalto|op.side: function 16 -/
def sh_op_side (a0 : Value) (h : Heap) (R : Value → Heap → Prop) : Prop :=
 vK (binV .i .geq a0 (.int .i64 1)) fun v1 =>
 vK (gV v1 true (some a0)) fun v2 =>
 vK (gV v1 true (binV .i .leq v2 (.int .i64 65536))) fun v3 =>
 vK (pickV v1 v3 (.bool false)) fun v4 =>
 R v4 h
noncomputable def an_op_side : Ann := (.s .z (.s .z .z))
theorem oc_op_side : okCode Tryz.f16.ntmps ((Tryz.f16.body).getD .skip) an_op_side = true := by kernel_rfl
theorem eq_op_side (a0 : Value) (h : Heap) (R : Value → Heap → Prop) : sh_op_side a0 h R = cFunc Tryz.prog ((Tryz.f16.body).getD .skip) an_op_side Tryz.f16.results.toList #[a0].toList h R := by kernel_rfl
theorem ok_op_side {a0 : Value} {h : Heap} {R : Value → Heap → Prop} (H : sh_op_side a0 h R) : FCall Tryz.prog F_op_side #[a0] h R :=
  fcall_of (by kernel_rfl) (fn := Tryz.f16) (c := (Tryz.f16.body).getD .skip) (an := an_op_side) (by kernel_rfl) (by kernel_rfl) (by kernel_rfl) oc_op_side (by kernel_rfl) (Eq.mp (eq_op_side a0 h R) H)

/-! ### smalto|op.tables: function 17 -/
def sh_op_tables (a0 a1 a2 : Value) (h : Heap) (R : Value → Heap → Prop) : Prop :=
 newK (Value.cells a0) 27 h fun v1 h2 =>
 vK (fldV 0 v1) fun v3 =>
 vK (ldV h2 v3) fun v4 =>
 vK (binV .i .eql v4 (.int .i64 3)) fun v5 =>
 iteK v5 (
 vK (fldV 6 v1) fun v6 =>
 vK (ldV h2 v6) fun v7 =>
 vK (fldV 7 v1) fun v8 =>
 vK (ldV h2 v8) fun v9 =>
 FCall Tryz.prog F_table_Resize #[v7, a1, v9] h2 fun v10 h11 =>
 vK (extV v10 0) fun v12 =>
 vK (extV v10 1) fun v13 =>
 vK (binV .i .eql v13 (.int .i64 0)) fun v14 =>
 iteK v14 (
 vK (fldV 6 v1) fun v15 =>
 vK (ldV h11 v15) fun v16 =>
 vK (fldV 8 v1) fun v17 =>
 vK (ldV h11 v17) fun v18 =>
 FCall Tryz.prog F_table_Resize #[v16, a2, v18] h11 fun v19 h20 =>
 vK (extV v19 0) fun v21 =>
 vK (extV v19 1) fun v22 =>
 R (.tuple #[v12, v21, v22]) h20) (
 R (.tuple #[v12, (.pointer none), v13]) h11)) (
 vK (ldsV 9 h2 v1) fun v23 =>
 FCall Tryz.prog F_op_weights #[v23] h2 fun v24 h25 =>
 vK (extV v24 0) fun v26 =>
 vK (extV v24 1) fun v27 =>
 vK (extV v24 2) fun v28 =>
 vK (binV .i .neq v28 (.int .i64 0)) fun v29 =>
 iteK v29 (
 R (.tuple #[(.pointer none), (.pointer none), v28]) h25) (
 FCall Tryz.prog F_table_Filter #[v26, a1] h25 fun v30 h31 =>
 vK (extV v30 0) fun v32 =>
 vK (extV v30 1) fun v33 =>
 vK (binV .i .eql v33 (.int .i64 0)) fun v34 =>
 iteK v34 (
 FCall Tryz.prog F_table_Filter #[v27, a2] h31 fun v35 h36 =>
 vK (extV v35 0) fun v37 =>
 vK (extV v35 1) fun v38 =>
 R (.tuple #[v32, v37, v38]) h36) (
 R (.tuple #[v32, (.pointer none), v33]) h31)))
noncomputable def an_op_tables : Ann := (.s .z (.s (.s .z (.s (.s (.s .z (.s .z (.s .z .z))) (.s .z .z)) .z)) (.s .z (.s (.s .z (.s (.s .z .z) .z)) (.s (.s .z (.s .z (.s .z .z))) (.s .z .z))))))
theorem oc_op_tables : okCode Tryz.f17.ntmps ((Tryz.f17.body).getD .skip) an_op_tables = true := by kernel_rfl
theorem eq_op_tables (a0 a1 a2 : Value) (h : Heap) (R : Value → Heap → Prop) : sh_op_tables a0 a1 a2 h R = cFunc Tryz.prog ((Tryz.f17.body).getD .skip) an_op_tables Tryz.f17.results.toList #[a0, a1, a2].toList h R := by kernel_rfl
theorem ok_op_tables {a0 a1 a2 : Value} {h : Heap} {R : Value → Heap → Prop} (H : sh_op_tables a0 a1 a2 h R) : FCall Tryz.prog F_op_tables #[a0, a1, a2] h R :=
  fcall_of (by kernel_rfl) (fn := Tryz.f17) (c := (Tryz.f17.body).getD .skip) (an := an_op_tables) (by kernel_rfl) (by kernel_rfl) (by kernel_rfl) oc_op_tables (by kernel_rfl) (Eq.mp (eq_op_tables a0 a1 a2 h R) H)

/-! ### smalto|smaltoref06.Same: function 18 -/
def sh_ref06_Same (a0 a1 : Value) (h : Heap) (R : Value → Heap → Prop) : Prop :=
 vK (lenslV a0) fun v1 =>
 vK (lenslV a1) fun v2 =>
 vK (binV .i .neq v1 v2) fun v3 =>
 iteK v3 (
 R (.bool false) h) (
 vK (lenslV a0) fun v4 =>
 loopK [(.int .i64 0)] h fun x5 j6 h7 again8 =>
 vK (binV .i .lss (ix x5 0) v4) fun v9 =>
 iteK v9 (
 vK (idxV 1 a0 (ix x5 0)) fun v10 =>
 vK (ldV h7 v10) fun v11 =>
 vK (idxV 1 a1 (ix x5 0)) fun v12 =>
 vK (ldV h7 v12) fun v13 =>
 vK (binV .i .neq v11 v13) fun v14 =>
 iteK v14 (
 R (.bool false) h7) (
 vK (binV .i .add (ix x5 0) (.int .i64 1)) fun v15 =>
 again8 [v15] h7)) (
 R (.bool true) h7))
noncomputable def an_ref06_Same : Ann := (.s .z (.s (.s .z (.s (.s .z .z) .z)) (.s (.s .z (.l 67100720 [13] (.s .z (.s (.s .z .z) (.s (.s .z (.s .z (.s (.s .z .z) .z))) .z))))) (.s .z .z))))
theorem oc_ref06_Same : okCode Tryz.f18.ntmps ((Tryz.f18.body).getD .skip) an_ref06_Same = true := by kernel_rfl
theorem eq_ref06_Same (a0 a1 : Value) (h : Heap) (R : Value → Heap → Prop) : sh_ref06_Same a0 a1 h R = cFunc Tryz.prog ((Tryz.f18.body).getD .skip) an_ref06_Same Tryz.f18.results.toList #[a0, a1].toList h R := by kernel_rfl
theorem ok_ref06_Same {a0 a1 : Value} {h : Heap} {R : Value → Heap → Prop} (H : sh_ref06_Same a0 a1 h R) : FCall Tryz.prog F_ref06_Same #[a0, a1] h R :=
  fcall_of (by kernel_rfl) (fn := Tryz.f18) (c := (Tryz.f18.body).getD .skip) (an := an_ref06_Same) (by kernel_rfl) (by kernel_rfl) (by kernel_rfl) oc_ref06_Same (by kernel_rfl) (Eq.mp (eq_ref06_Same a0 a1 h R) H)

/-! ### smalto|border.Name: function 19 -/
def sh_border_Name (a0 : Value) (h : Heap) (R : Value → Heap → Prop) : Prop :=
 vK (binV .i .lss a0 (.int .i64 0)) fun v1 =>
 vK (gV v1 false (some a0)) fun v2 =>
 vK (gV v1 false (ldV h (.pointer (some ⟨G_border_names, 0, none⟩)))) fun v3 =>
 vK (gV v1 false (lenslV v3)) fun v4 =>
 vK (gV v1 false (binV .i .geq v2 v4)) fun v5 =>
 vK (pickV v1 (.bool true) v5) fun v6 =>
 iteK v6 (
 R (.string ⟨#[]⟩) h) (
 vK (ldV h (.pointer (some ⟨G_border_names, 0, none⟩))) fun v7 =>
 vK (idxV 1 v7 a0) fun v8 =>
 vK (ldV h v8) fun v9 =>
 R v9 h)
noncomputable def an_border_Name : Ann := (.s .z (.s (.s .z (.s (.s .z .z) .z)) (.s .z .z)))
theorem oc_border_Name : okCode Tryz.f19.ntmps ((Tryz.f19.body).getD .skip) an_border_Name = true := by kernel_rfl
theorem eq_border_Name (a0 : Value) (h : Heap) (R : Value → Heap → Prop) : sh_border_Name a0 h R = cFunc Tryz.prog ((Tryz.f19.body).getD .skip) an_border_Name Tryz.f19.results.toList #[a0].toList h R := by kernel_rfl
theorem ok_border_Name {a0 : Value} {h : Heap} {R : Value → Heap → Prop} (H : sh_border_Name a0 h R) : FCall Tryz.prog F_border_Name #[a0] h R :=
  fcall_of (by kernel_rfl) (fn := Tryz.f19) (c := (Tryz.f19.body).getD .skip) (an := an_border_Name) (by kernel_rfl) (by kernel_rfl) (by kernel_rfl) oc_border_Name (by kernel_rfl) (Eq.mp (eq_border_Name a0 h R) H)

/-! ### smalto|recipe.Sign: function 20 -/
def sh_recipe_Sign (a0 : Value) (h : Heap) (R : Value → Heap → Prop) : Prop :=
 rangeStrK (.string ⟨#[207, 131, 226, 150, 161, 226, 138, 151, 226, 134, 148]⟩) h fun v1 h2 =>
 loopK [(.int .i64 0)] h2 fun x3 j4 h5 again6 =>
 nextStrK v1 h5 fun v7 h8 =>
 vK (extV v7 0) fun v9 =>
 iteK v9 (
 vK (extV v7 2) fun v10 =>
 vK (binV .i .eql (ix x3 0) a0) fun v11 =>
 iteK v11 (
 R v10 h8) (
 vK (binV .i .add (ix x3 0) (.int .i64 1)) fun v12 =>
 again6 [v12] h8)) (
 R (.int .i32 0) h8)
noncomputable def an_recipe_Sign : Ann := (.s .z (.s .z (.s (.s .z (.l 65452 [3] (.s .z (.s (.s .z .z) (.s .z (.s (.s .z (.s (.s .z .z) .z)) .z)))))) (.s .z .z))))
theorem oc_recipe_Sign : okCode Tryz.f20.ntmps ((Tryz.f20.body).getD .skip) an_recipe_Sign = true := by kernel_rfl
theorem eq_recipe_Sign (a0 : Value) (h : Heap) (R : Value → Heap → Prop) : sh_recipe_Sign a0 h R = cFunc Tryz.prog ((Tryz.f20.body).getD .skip) an_recipe_Sign Tryz.f20.results.toList #[a0].toList h R := by kernel_rfl
theorem ok_recipe_Sign {a0 : Value} {h : Heap} {R : Value → Heap → Prop} (H : sh_recipe_Sign a0 h R) : FCall Tryz.prog F_recipe_Sign #[a0] h R :=
  fcall_of (by kernel_rfl) (fn := Tryz.f20) (c := (Tryz.f20.body).getD .skip) (an := an_recipe_Sign) (by kernel_rfl) (by kernel_rfl) (by kernel_rfl) oc_recipe_Sign (by kernel_rfl) (Eq.mp (eq_recipe_Sign a0 h R) H)

/-! ### smalto|raw.Name: function 21 -/
def sh_raw_Name (a0 : Value) (h : Heap) (R : Value → Heap → Prop) : Prop :=
 vK (binV .i .lss a0 (.int .i64 0)) fun v1 =>
 vK (gV v1 false (some a0)) fun v2 =>
 vK (gV v1 false (binV .i .geq v2 (.int .i64 3))) fun v3 =>
 vK (pickV v1 (.bool true) v3) fun v4 =>
 iteK v4 (
 R (.string ⟨#[]⟩) h) (
 vK (idxaV 3 2 (.pointer (some ⟨G_raw_kinds, 0, none⟩)) a0) fun v5 =>
 vK (fldV 0 v5) fun v6 =>
 vK (ldV h v6) fun v7 =>
 R v7 h)
noncomputable def an_raw_Name : Ann := (.s .z (.s (.s .z (.s (.s .z .z) .z)) (.s .z .z)))
theorem oc_raw_Name : okCode Tryz.f21.ntmps ((Tryz.f21.body).getD .skip) an_raw_Name = true := by kernel_rfl
theorem eq_raw_Name (a0 : Value) (h : Heap) (R : Value → Heap → Prop) : sh_raw_Name a0 h R = cFunc Tryz.prog ((Tryz.f21.body).getD .skip) an_raw_Name Tryz.f21.results.toList #[a0].toList h R := by kernel_rfl
theorem ok_raw_Name {a0 : Value} {h : Heap} {R : Value → Heap → Prop} (H : sh_raw_Name a0 h R) : FCall Tryz.prog F_raw_Name #[a0] h R :=
  fcall_of (by kernel_rfl) (fn := Tryz.f21) (c := (Tryz.f21.body).getD .skip) (an := an_raw_Name) (by kernel_rfl) (by kernel_rfl) (by kernel_rfl) oc_raw_Name (by kernel_rfl) (Eq.mp (eq_raw_Name a0 h R) H)

/-! ### strconv.FormatInt: function 22 -/
def sh_strconv_FormatInt (a0 a1 : Value) (h : Heap) (R : Value → Heap → Prop) : Prop :=
 FCall Tryz.prog F_internal_strconv_FormatInt #[a0, a1] h fun v1 h2 =>
 R v1 h2
noncomputable def an_strconv_FormatInt : Ann := (.s .z (.s .z .z))
theorem oc_strconv_FormatInt : okCode Tryz.f22.ntmps ((Tryz.f22.body).getD .skip) an_strconv_FormatInt = true := by kernel_rfl
theorem eq_strconv_FormatInt (a0 a1 : Value) (h : Heap) (R : Value → Heap → Prop) : sh_strconv_FormatInt a0 a1 h R = cFunc Tryz.prog ((Tryz.f22.body).getD .skip) an_strconv_FormatInt Tryz.f22.results.toList #[a0, a1].toList h R := by kernel_rfl
theorem ok_strconv_FormatInt {a0 a1 : Value} {h : Heap} {R : Value → Heap → Prop} (H : sh_strconv_FormatInt a0 a1 h R) : FCall Tryz.prog F_strconv_FormatInt #[a0, a1] h R :=
  fcall_of (by kernel_rfl) (fn := Tryz.f22) (c := (Tryz.f22.body).getD .skip) (an := an_strconv_FormatInt) (by kernel_rfl) (by kernel_rfl) (by kernel_rfl) oc_strconv_FormatInt (by kernel_rfl) (Eq.mp (eq_strconv_FormatInt a0 a1 h R) H)

/-! ### strconv.Itoa: function 23 -/
def sh_strconv_Itoa (a0 : Value) (h : Heap) (R : Value → Heap → Prop) : Prop :=
 FCall Tryz.prog F_internal_strconv_Itoa #[a0] h fun v1 h2 =>
 R v1 h2
noncomputable def an_strconv_Itoa : Ann := (.s .z (.s .z .z))
theorem oc_strconv_Itoa : okCode Tryz.f23.ntmps ((Tryz.f23.body).getD .skip) an_strconv_Itoa = true := by kernel_rfl
theorem eq_strconv_Itoa (a0 : Value) (h : Heap) (R : Value → Heap → Prop) : sh_strconv_Itoa a0 h R = cFunc Tryz.prog ((Tryz.f23.body).getD .skip) an_strconv_Itoa Tryz.f23.results.toList #[a0].toList h R := by kernel_rfl
theorem ok_strconv_Itoa {a0 : Value} {h : Heap} {R : Value → Heap → Prop} (H : sh_strconv_Itoa a0 h R) : FCall Tryz.prog F_strconv_Itoa #[a0] h R :=
  fcall_of (by kernel_rfl) (fn := Tryz.f23) (c := (Tryz.f23.body).getD .skip) (an := an_strconv_Itoa) (by kernel_rfl) (by kernel_rfl) (by kernel_rfl) oc_strconv_Itoa (by kernel_rfl) (Eq.mp (eq_strconv_Itoa a0 h R) H)

/-! ### smalto|recipe.numbers: function 24 -/
def sh_recipe_numbers (a0 : Value) (h : Heap) (R : Value → Heap → Prop) : Prop :=
 vK (lenslV a0) fun v1 =>
 loopK [(.slice none 0 0), (.int .i64 0)] h fun x2 j3 h4 again5 =>
 vK (binV .i .lss (ix x2 1) v1) fun v6 =>
 iteK v6 (
 vK (idxV 1 a0 (ix x2 1)) fun v7 =>
 vK (ldV h4 v7) fun v8 =>
 FCall Tryz.prog F_strconv_FormatInt #[v8, (.int .i64 10)] h4 fun v9 h10 =>
 rowK #[(.string ⟨#[]⟩)] 9 1 [(0, 1, v9)] h10 fun v11 h12 =>
 appK (.string ⟨#[]⟩) 9 1 16 (ix x2 0) v11 h12 fun v13 h14 =>
 vK (binV .i .add (ix x2 1) (.int .i64 1)) fun v15 =>
 again5 [v13, v15] h14) (
 FCall Tryz.prog F_strings_Join #[(ix x2 0), (.string ⟨#[44]⟩)] h4 fun v16 h17 =>
 R v16 h17)
noncomputable def an_recipe_numbers : Ann := (.s .z (.s .z (.s (.s .z (.l 261928 [3, 8] (.s .z (.s (.s .z .z) (.s (.s .z .z) .z))))) (.s .z .z))))
theorem oc_recipe_numbers : okCode Tryz.f24.ntmps ((Tryz.f24.body).getD .skip) an_recipe_numbers = true := by kernel_rfl
theorem eq_recipe_numbers (a0 : Value) (h : Heap) (R : Value → Heap → Prop) : sh_recipe_numbers a0 h R = cFunc Tryz.prog ((Tryz.f24.body).getD .skip) an_recipe_numbers Tryz.f24.results.toList #[a0].toList h R := by kernel_rfl
theorem ok_recipe_numbers {a0 : Value} {h : Heap} {R : Value → Heap → Prop} (H : sh_recipe_numbers a0 h R) : FCall Tryz.prog F_recipe_numbers #[a0] h R :=
  fcall_of (by kernel_rfl) (fn := Tryz.f24) (c := (Tryz.f24.body).getD .skip) (an := an_recipe_numbers) (by kernel_rfl) (by kernel_rfl) (by kernel_rfl) oc_recipe_numbers (by kernel_rfl) (Eq.mp (eq_recipe_numbers a0 h R) H)

/-! ### smalto|table.Resize: function 25 -/
def sh_table_Resize (a0 a1 a2 : Value) (h : Heap) (R : Value → Heap → Prop) : Prop :=
 FCall Tryz.prog F_raw_Name #[a0] h fun v1 h2 =>
 vK (binV .s .eql v1 (.string ⟨#[]⟩)) fun v3 =>
 vK (gV v3 false (some a1)) fun v4 =>
 gK v3 false (fun k35 => FCall Tryz.prog F_table_side #[v4] h2 k35) h2 fun v5 h6 =>
 vK (gV v3 false (unV .not v5)) fun v7 =>
 vK (pickV v3 (.bool true) v7) fun v8 =>
 vK (gV v8 false (some a2)) fun v9 =>
 gK v8 false (fun k34 => FCall Tryz.prog F_table_side #[v9] h6 k34) h6 fun v10 h11 =>
 vK (gV v8 false (unV .not v10)) fun v12 =>
 vK (pickV v8 (.bool true) v12) fun v13 =>
 iteK v13 (
 R (.tuple #[(.pointer none), (.int .i64 6)]) h11) (
 vK ((fillL #[(.int .i64 0), (.slice none 0 0), (.int .i64 0), (.int .i64 0)] [(0, 1, a1)]).map .agg) fun v14 =>
 newK (Value.cells v14) 55 h11 fun v15 h16 =>
 loopK [(.int .i64 0)] h16 fun x17 j18 h19 again20 =>
 vK (binV .i .lss (ix x17 0) a2) fun v21 =>
 iteK v21 (
 FCall Tryz.prog F_raw_Row #[a0, a1, a2, (ix x17 0)] h19 fun v22 h23 =>
 vK (extV v22 0) fun v24 =>
 vK (extV v22 1) fun v25 =>
 FCall Tryz.prog F_taps_Apportion #[v25] h23 fun v26 h27 =>
 vK (extV v26 0) fun v28 =>
 vK (extV v26 1) fun v29 =>
 vK (binV .i .neq v29 (.int .i64 0)) fun v30 =>
 iteK v30 (
 R (.tuple #[(.pointer none), v29]) h27) (
 FCall Tryz.prog F_table_Table_add #[v15, v24, v28] h27 fun v31 h32 =>
 vK (binV .i .add (ix x17 0) (.int .i64 1)) fun v33 =>
 again20 [v33] h32)) (
 R (.tuple #[v15, (.int .i64 0)]) h19))
noncomputable def an_table_Resize : Ann := (.s .z (.s (.s .z (.s (.s .z .z) .z)) (.s .z (.s (.s .z (.l 36028794871496384 [31] (.s .z (.s (.s .z .z) (.s (.s .z (.s .z (.s .z (.s (.s .z (.s (.s .z .z) .z)) .z)))) .z))))) (.s .z .z)))))
theorem oc_table_Resize : okCode Tryz.f25.ntmps ((Tryz.f25.body).getD .skip) an_table_Resize = true := by kernel_rfl
theorem eq_table_Resize (a0 a1 a2 : Value) (h : Heap) (R : Value → Heap → Prop) : sh_table_Resize a0 a1 a2 h R = cFunc Tryz.prog ((Tryz.f25.body).getD .skip) an_table_Resize Tryz.f25.results.toList #[a0, a1, a2].toList h R := by kernel_rfl
theorem ok_table_Resize {a0 a1 a2 : Value} {h : Heap} {R : Value → Heap → Prop} (H : sh_table_Resize a0 a1 a2 h R) : FCall Tryz.prog F_table_Resize #[a0, a1, a2] h R :=
  fcall_of (by kernel_rfl) (fn := Tryz.f25) (c := (Tryz.f25.body).getD .skip) (an := an_table_Resize) (by kernel_rfl) (by kernel_rfl) (by kernel_rfl) oc_table_Resize (by kernel_rfl) (Eq.mp (eq_table_Resize a0 a1 a2 h R) H)

/-! ### smalto|op.weights: function 26 -/
def sh_op_weights (a0 : Value) (h : Heap) (R : Value → Heap → Prop) : Prop :=
 newK (Value.cells a0) 27 h fun v1 h2 =>
 vK (fldV 0 v1) fun v3 =>
 vK (ldV h2 v3) fun v4 =>
 vK (binV .i .eql v4 (.int .i64 0)) fun v5 =>
 iteK v5 (
 vK (fldV 2 v1) fun v6 =>
 vK (ldV h2 v6) fun v7 =>
 FCall Tryz.prog F_taps_Gaussian #[v7] h2 fun v8 h9 =>
 vK (extV v8 0) fun v10 =>
 vK (extV v8 1) fun v11 =>
 R (.tuple #[v10, v10, v11]) h9) (
 vK (binV .i .eql v4 (.int .i64 1)) fun v12 =>
 iteK v12 (
 vK (fldV 3 v1) fun v13 =>
 vK (ldV h2 v13) fun v14 =>
 FCall Tryz.prog F_taps_Blur #[v14] h2 fun v15 h16 =>
 vK (extV v15 0) fun v17 =>
 vK (extV v15 1) fun v18 =>
 R (.tuple #[v17, v17, v18]) h16) (
 vK (fldV 4 v1) fun v19 =>
 vK (ldV h2 v19) fun v20 =>
 FCall Tryz.prog F_taps_User #[v20] h2 fun v21 h22 =>
 vK (extV v21 0) fun v23 =>
 vK (extV v21 1) fun v24 =>
 vK (binV .i .neq v24 (.int .i64 0)) fun v25 =>
 iteK v25 (
 R (.tuple #[(.slice none 0 0), (.slice none 0 0), v24]) h22) (
 vK (fldV 5 v1) fun v26 =>
 vK (ldV h22 v26) fun v27 =>
 FCall Tryz.prog F_taps_User #[v27] h22 fun v28 h29 =>
 vK (extV v28 0) fun v30 =>
 vK (extV v28 1) fun v31 =>
 R (.tuple #[v23, v30, v31]) h29)))
noncomputable def an_op_weights : Ann := (.s .z (.s (.s .z (.s .z (.s (.s .z (.s .z .z)) (.s .z (.s (.s .z (.s .z .z)) .z))))) (.s (.s .z (.s .z (.s (.s .z .z) .z))) (.s .z (.s .z .z)))))
theorem oc_op_weights : okCode Tryz.f26.ntmps ((Tryz.f26.body).getD .skip) an_op_weights = true := by kernel_rfl
theorem eq_op_weights (a0 : Value) (h : Heap) (R : Value → Heap → Prop) : sh_op_weights a0 h R = cFunc Tryz.prog ((Tryz.f26.body).getD .skip) an_op_weights Tryz.f26.results.toList #[a0].toList h R := by kernel_rfl
theorem ok_op_weights {a0 : Value} {h : Heap} {R : Value → Heap → Prop} (H : sh_op_weights a0 h R) : FCall Tryz.prog F_op_weights #[a0] h R :=
  fcall_of (by kernel_rfl) (fn := Tryz.f26) (c := (Tryz.f26.body).getD .skip) (an := an_op_weights) (by kernel_rfl) (by kernel_rfl) (by kernel_rfl) oc_op_weights (by kernel_rfl) (Eq.mp (eq_op_weights a0 h R) H)

/-! ### smalto|table.Filter: function 27 -/
def sh_table_Filter (a0 a1 : Value) (h : Heap) (R : Value → Heap → Prop) : Prop :=
 FCall Tryz.prog F_table_side #[a1] h fun v1 h2 =>
 vK (unV .not v1) fun v3 =>
 iteK v3 (
 R (.tuple #[(.pointer none), (.int .i64 6)]) h2) (
 vK (lenslV a0) fun v4 =>
 vK (binV .i .rem v4 (.int .i64 2)) fun v5 =>
 vK (binV .i .eql v5 (.int .i64 0)) fun v6 =>
 iteK v6 (
 R (.tuple #[(.pointer none), (.int .i64 7)]) h2) (
 FCall Tryz.prog F_taps_Apportion #[a0] h2 fun v7 h8 =>
 vK (extV v7 0) fun v9 =>
 vK (extV v7 1) fun v10 =>
 vK (binV .i .neq v10 (.int .i64 0)) fun v11 =>
 iteK v11 (
 R (.tuple #[(.pointer none), v10]) h8) (
 vK ((fillL #[(.int .i64 0), (.slice none 0 0), (.int .i64 0), (.int .i64 0)] [(0, 1, a1)]).map .agg) fun v12 =>
 newK (Value.cells v12) 55 h8 fun v13 h14 =>
 loopK [(.int .i64 0)] h14 fun x15 j16 h17 again18 =>
 vK (binV .i .lss (ix x15 0) a1) fun v19 =>
 iteK v19 (
 vK (lenslV v9) fun v20 =>
 vK (binV .i .quo v20 (.int .i64 2)) fun v21 =>
 vK (binV .i .sub (ix x15 0) v21) fun v22 =>
 FCall Tryz.prog F_table_Table_add #[v13, v22, v9] h17 fun v23 h24 =>
 vK (binV .i .add (ix x15 0) (.int .i64 1)) fun v25 =>
 again18 [v25] h24) (
 R (.tuple #[v13, (.int .i64 0)]) h17))))
noncomputable def an_table_Filter : Ann := (.s .z (.s (.s .z (.s (.s .z .z) (.s .z (.s (.s .z .z) .z)))) (.s .z (.s (.s .z (.s (.s .z .z) .z)) (.s .z (.s (.s .z (.l 8793945539072 [31] (.s .z (.s (.s .z .z) (.s (.s .z .z) .z))))) (.s .z .z)))))))
theorem oc_table_Filter : okCode Tryz.f27.ntmps ((Tryz.f27.body).getD .skip) an_table_Filter = true := by kernel_rfl
theorem eq_table_Filter (a0 a1 : Value) (h : Heap) (R : Value → Heap → Prop) : sh_table_Filter a0 a1 h R = cFunc Tryz.prog ((Tryz.f27.body).getD .skip) an_table_Filter Tryz.f27.results.toList #[a0, a1].toList h R := by kernel_rfl
theorem ok_table_Filter {a0 a1 : Value} {h : Heap} {R : Value → Heap → Prop} (H : sh_table_Filter a0 a1 h R) : FCall Tryz.prog F_table_Filter #[a0, a1] h R :=
  fcall_of (by kernel_rfl) (fn := Tryz.f27) (c := (Tryz.f27.body).getD .skip) (an := an_table_Filter) (by kernel_rfl) (by kernel_rfl) (by kernel_rfl) oc_table_Filter (by kernel_rfl) (Eq.mp (eq_table_Filter a0 a1 h R) H)

/-! ### internal|strconv.Itoa: function 29 -/
def sh_internal_strconv_Itoa (a0 : Value) (h : Heap) (R : Value → Heap → Prop) : Prop :=
 FCall Tryz.prog F_internal_strconv_FormatInt #[a0, (.int .i64 10)] h fun v1 h2 =>
 R v1 h2
noncomputable def an_internal_strconv_Itoa : Ann := (.s .z (.s .z .z))
theorem oc_internal_strconv_Itoa : okCode Tryz.f29.ntmps ((Tryz.f29.body).getD .skip) an_internal_strconv_Itoa = true := by kernel_rfl
theorem eq_internal_strconv_Itoa (a0 : Value) (h : Heap) (R : Value → Heap → Prop) : sh_internal_strconv_Itoa a0 h R = cFunc Tryz.prog ((Tryz.f29.body).getD .skip) an_internal_strconv_Itoa Tryz.f29.results.toList #[a0].toList h R := by kernel_rfl
theorem ok_internal_strconv_Itoa {a0 : Value} {h : Heap} {R : Value → Heap → Prop} (H : sh_internal_strconv_Itoa a0 h R) : FCall Tryz.prog F_internal_strconv_Itoa #[a0] h R :=
  fcall_of (by kernel_rfl) (fn := Tryz.f29) (c := (Tryz.f29.body).getD .skip) (an := an_internal_strconv_Itoa) (by kernel_rfl) (by kernel_rfl) (by kernel_rfl) oc_internal_strconv_Itoa (by kernel_rfl) (Eq.mp (eq_internal_strconv_Itoa a0 h R) H)

/-! ### strings.Join: function 30 -/
def sh_strings_Join (a0 a1 : Value) (h : Heap) (R : Value → Heap → Prop) : Prop :=
 vK (lenslV a0) fun v1 =>
 vK (binV .i .eql v1 (.int .i64 0)) fun v2 =>
 iteK v2 (
 R (.string ⟨#[]⟩) h) (
 vK (binV .i .eql v1 (.int .i64 1)) fun v3 =>
 iteK v3 (
 vK (idxV 1 a0 (.int .i64 0)) fun v4 =>
 vK (ldV h v4) fun v5 =>
 R v5 h) (
 joinK (fun J6 =>
 vK (lenstV a1) fun v10 =>
 vK (binV .i .gtr v10 (.int .i64 0)) fun v11 =>
 iteK v11 (
 joinK (fun J12 =>
 vK (lenstV a1) fun v16 =>
 vK (lenslV a0) fun v17 =>
 vK (binV .i .sub v17 (.int .i64 1)) fun v18 =>
 vK (binV .i .quo (.int .i64 9223372036854775807) v18) fun v19 =>
 vK (binV .i .geq v16 v19) fun v20 =>
 iteK v20 (
 failK h fun v21 h22 =>
 J12 [] h22) (
 J12 [] h))
 fun x13 j14 h15 =>
 vK (lenstV a1) fun v23 =>
 vK (lenslV a0) fun v24 =>
 vK (binV .i .sub v24 (.int .i64 1)) fun v25 =>
 vK (binV .i .mul v23 v25) fun v26 =>
 vK (binV .i .add (.int .i64 0) v26) fun v27 =>
 J6 [v27] h15) (
 J6 [(.int .i64 0)] h))
 fun x7 j8 h9 =>
 vK (lenslV a0) fun v28 =>
 loopK [(ix x7 0), (.int .i64 0)] h9 fun x29 j30 h31 again32 =>
 vK (binV .i .lss (ix x29 1) v28) fun v33 =>
 iteK v33 (
 vK (idxV 1 a0 (ix x29 1)) fun v34 =>
 vK (ldV h31 v34) fun v35 =>
 vK (lenstV v35) fun v36 =>
 vK (binV .i .sub (.int .i64 9223372036854775807) (ix x29 0)) fun v37 =>
 vK (binV .i .gtr v36 v37) fun v38 =>
 iteK v38 (
 failK h31 fun v39 h40 =>
 vK (lenstV v35) fun v41 =>
 vK (binV .i .add (ix x29 0) v41) fun v42 =>
 vK (binV .i .add (ix x29 1) (.int .i64 1)) fun v43 =>
 again32 [v42, v43] h40) (
 vK (lenstV v35) fun v44 =>
 vK (binV .i .add (ix x29 0) v44) fun v45 =>
 vK (binV .i .add (ix x29 1) (.int .i64 1)) fun v46 =>
 again32 [v45, v46] h31)) (
 newK #[(.pointer none), (.slice none 0 0)] 88 h31 fun v47 h48 =>
 FCall Tryz.prog F_strings_Builder_Grow #[v47, (ix x29 0)] h48 fun v49 h50 =>
 vK (idxV 1 a0 (.int .i64 0)) fun v51 =>
 vK (ldV h50 v51) fun v52 =>
 FCall Tryz.prog F_strings_Builder_WriteString #[v47, v52] h50 fun v53 h54 =>
 vK (slcV 1 a0 (some (.int .i64 1)) none) fun v55 =>
 vK (lenslV v55) fun v56 =>
 loopK [(.int .i64 0)] h54 fun x57 j58 h59 again60 =>
 vK (binV .i .lss (ix x57 0) v56) fun v61 =>
 iteK v61 (
 vK (idxV 1 v55 (ix x57 0)) fun v62 =>
 vK (ldV h59 v62) fun v63 =>
 FCall Tryz.prog F_strings_Builder_WriteString #[v47, a1] h59 fun v64 h65 =>
 FCall Tryz.prog F_strings_Builder_WriteString #[v47, v63] h65 fun v66 h67 =>
 vK (binV .i .add (ix x57 0) (.int .i64 1)) fun v68 =>
 again60 [v68] h67) (
 FCall Tryz.prog F_strings_Builder_String #[v47] h59 fun v69 h70 =>
 R v69 h70))))
noncomputable def an_strings_Join : Ann := (.s .z (.s (.s .z (.s .z (.s (.s .z .z) (.s .z (.s (.s .z .z) .z))))) (.s .z (.j 549754765344 [5] (.s .z (.s (.j 2139095040 [] (.s .z (.s .z .z)) .z) .z)) (.s (.s .z (.l 72055395014672544 [5, 41] (.s .z (.s (.s .z .z) (.s (.s .z (.s (.s .z (.s .z .z)) .z)) .z))))) (.s .z (.s .z (.s .z (.s (.s .z (.l 18852572443331161752576 [65] (.s .z (.s (.s .z .z) (.s (.s .z (.s .z .z)) .z))))) (.s .z .z))))))))))
theorem oc_strings_Join : okCode Tryz.f30.ntmps ((Tryz.f30.body).getD .skip) an_strings_Join = true := by kernel_rfl
theorem eq_strings_Join (a0 a1 : Value) (h : Heap) (R : Value → Heap → Prop) : sh_strings_Join a0 a1 h R = cFunc Tryz.prog ((Tryz.f30.body).getD .skip) an_strings_Join Tryz.f30.results.toList #[a0, a1].toList h R := by kernel_rfl
theorem ok_strings_Join {a0 a1 : Value} {h : Heap} {R : Value → Heap → Prop} (H : sh_strings_Join a0 a1 h R) : FCall Tryz.prog F_strings_Join #[a0, a1] h R :=
  fcall_of (by kernel_rfl) (fn := Tryz.f30) (c := (Tryz.f30.body).getD .skip) (an := an_strings_Join) (by kernel_rfl) (by kernel_rfl) (by kernel_rfl) oc_strings_Join (by kernel_rfl) (Eq.mp (eq_strings_Join a0 a1 h R) H)

/-! ### smalto|table.side: function 31 -/
def sh_table_side (a0 : Value) (h : Heap) (R : Value → Heap → Prop) : Prop :=
 vK (binV .i .geq a0 (.int .i64 1)) fun v1 =>
 vK (gV v1 true (some a0)) fun v2 =>
 vK (gV v1 true (binV .i .leq v2 (.int .i64 65536))) fun v3 =>
 vK (pickV v1 v3 (.bool false)) fun v4 =>
 R v4 h
noncomputable def an_table_side : Ann := (.s .z (.s .z .z))
theorem oc_table_side : okCode Tryz.f31.ntmps ((Tryz.f31.body).getD .skip) an_table_side = true := by kernel_rfl
theorem eq_table_side (a0 : Value) (h : Heap) (R : Value → Heap → Prop) : sh_table_side a0 h R = cFunc Tryz.prog ((Tryz.f31.body).getD .skip) an_table_side Tryz.f31.results.toList #[a0].toList h R := by kernel_rfl
theorem ok_table_side {a0 : Value} {h : Heap} {R : Value → Heap → Prop} (H : sh_table_side a0 h R) : FCall Tryz.prog F_table_side #[a0] h R :=
  fcall_of (by kernel_rfl) (fn := Tryz.f31) (c := (Tryz.f31.body).getD .skip) (an := an_table_side) (by kernel_rfl) (by kernel_rfl) (by kernel_rfl) oc_table_side (by kernel_rfl) (Eq.mp (eq_table_side a0 h R) H)

/-! ### smalto|raw.Row: function 32 -/
def sh_raw_Row (a0 a1 a2 a3 : Value) (h : Heap) (R : Value → Heap → Prop) : Prop :=
 FCall Tryz.prog F_raw_Window #[a0, a1, a2, a3] h fun v1 h2 =>
 vK (extV v1 0) fun v3 =>
 vK (extV v1 1) fun v4 =>
 loopK [(.slice none 0 0), (.int .i64 0)] h2 fun x5 j6 h7 again8 =>
 vK (binV .i .lss (ix x5 1) v4) fun v9 =>
 iteK v9 (
 vK (binV .i .add v3 (ix x5 1)) fun v10 =>
 FCall Tryz.prog F_raw_weigh #[a0, a1, a2, a3, v10] h7 fun v11 h12 =>
 rowK #[(.int .i64 0)] 2 1 [(0, 1, v11)] h12 fun v13 h14 =>
 appK (.int .i64 0) 2 1 8 (ix x5 0) v13 h14 fun v15 h16 =>
 vK (binV .i .add (ix x5 1) (.int .i64 1)) fun v17 =>
 again8 [v15, v17] h16) (
 R (.tuple #[v3, (ix x5 0)]) h7)
noncomputable def an_raw_Row : Ann := (.s .z (.s .z (.s (.s .z (.l 68717382144 [9, 21] (.s .z (.s (.s .z .z) (.s (.s .z .z) .z))))) (.s .z .z))))
theorem oc_raw_Row : okCode Tryz.f32.ntmps ((Tryz.f32.body).getD .skip) an_raw_Row = true := by kernel_rfl
theorem eq_raw_Row (a0 a1 a2 a3 : Value) (h : Heap) (R : Value → Heap → Prop) : sh_raw_Row a0 a1 a2 a3 h R = cFunc Tryz.prog ((Tryz.f32.body).getD .skip) an_raw_Row Tryz.f32.results.toList #[a0, a1, a2, a3].toList h R := by kernel_rfl
theorem ok_raw_Row {a0 a1 a2 a3 : Value} {h : Heap} {R : Value → Heap → Prop} (H : sh_raw_Row a0 a1 a2 a3 h R) : FCall Tryz.prog F_raw_Row #[a0, a1, a2, a3] h R :=
  fcall_of (by kernel_rfl) (fn := Tryz.f32) (c := (Tryz.f32.body).getD .skip) (an := an_raw_Row) (by kernel_rfl) (by kernel_rfl) (by kernel_rfl) oc_raw_Row (by kernel_rfl) (Eq.mp (eq_raw_Row a0 a1 a2 a3 h R) H)

/-! ### smalto|taps.Apportion: function 33 -/
def sh_taps_Apportion (a0 : Value) (h : Heap) (R : Value → Heap → Prop) : Prop :=
 FCall Tryz.prog F_taps_check #[a0] h fun v1 h2 =>
 vK (binV .i .neq v1 (.int .i64 0)) fun v3 =>
 iteK v3 (
 R (.tuple #[(.slice none 0 0), v1]) h2) (
 FCall Tryz.prog F_taps_Sum #[a0] h2 fun v4 h5 =>
 joinK (fun J6 =>
 drawK h5 fun S =>
 qK S (fun h5 => lenslV a0) fun v10 =>
 qK S (fun h5 => lenslV a0) fun v11 =>
 qK S (fun h5 => lenslV a0) fun v12 =>
 (mkK (.int .i64 0) 2 1 8 v10 v10 h5 fun v13 h14 =>
 S h14 ∧ ((mkK (.int .i64 0) 3 1 8 v11 v11 h14 fun v15 h16 =>
 S h16 ∧ ((mkK (.int .i64 0) 2 1 8 v12 v12 h16 fun v17 h18 =>
 S h18 ∧ (newK #[(.slice none 0 0)] 24 h18 fun v19 h20 =>
 S h20 ∧ (stK 1 v19 v17 h20 fun v21 h22 =>
 S h22 ∧ (J6 [v13, v15, v19] h22)))) ∧ (newK #[(.slice none 0 0)] 24 h16 fun v23 h24 =>
 S h24 ∧ (mkK (.int .i64 0) 2 1 8 v12 v12 h24 fun v25 h26 =>
 S h26 ∧ (stK 1 v23 v25 h26 fun v27 h28 =>
 S h28 ∧ (J6 [v13, v15, v23] h28)))))) ∧ ((mkK (.int .i64 0) 2 1 8 v12 v12 h14 fun v29 h30 =>
 S h30 ∧ ((mkK (.int .i64 0) 3 1 8 v11 v11 h30 fun v31 h32 =>
 S h32 ∧ (newK #[(.slice none 0 0)] 24 h32 fun v33 h34 =>
 S h34 ∧ (stK 1 v33 v29 h34 fun v35 h36 =>
 S h36 ∧ (J6 [v13, v31, v33] h36)))) ∧ (newK #[(.slice none 0 0)] 24 h30 fun v37 h38 =>
 S h38 ∧ (mkK (.int .i64 0) 3 1 8 v11 v11 h38 fun v39 h40 =>
 S h40 ∧ (stK 1 v37 v29 h40 fun v41 h42 =>
 S h42 ∧ (J6 [v13, v39, v37] h42)))))) ∧ (newK #[(.slice none 0 0)] 24 h14 fun v43 h44 =>
 S h44 ∧ ((mkK (.int .i64 0) 3 1 8 v11 v11 h44 fun v45 h46 =>
 S h46 ∧ (mkK (.int .i64 0) 2 1 8 v12 v12 h46 fun v47 h48 =>
 S h48 ∧ (stK 1 v43 v47 h48 fun v49 h50 =>
 S h50 ∧ (J6 [v13, v45, v43] h50)))) ∧ (mkK (.int .i64 0) 2 1 8 v12 v12 h44 fun v51 h52 =>
 S h52 ∧ (mkK (.int .i64 0) 3 1 8 v11 v11 h52 fun v53 h54 =>
 S h54 ∧ (stK 1 v43 v51 h54 fun v55 h56 =>
 S h56 ∧ (J6 [v13, v53, v43] h56))))))))) ∧ ((mkK (.int .i64 0) 3 1 8 v11 v11 h5 fun v57 h58 =>
 S h58 ∧ ((mkK (.int .i64 0) 2 1 8 v10 v10 h58 fun v59 h60 =>
 S h60 ∧ ((mkK (.int .i64 0) 2 1 8 v12 v12 h60 fun v61 h62 =>
 S h62 ∧ (newK #[(.slice none 0 0)] 24 h62 fun v63 h64 =>
 S h64 ∧ (stK 1 v63 v61 h64 fun v65 h66 =>
 S h66 ∧ (J6 [v59, v57, v63] h66)))) ∧ (newK #[(.slice none 0 0)] 24 h60 fun v67 h68 =>
 S h68 ∧ (mkK (.int .i64 0) 2 1 8 v12 v12 h68 fun v69 h70 =>
 S h70 ∧ (stK 1 v67 v69 h70 fun v71 h72 =>
 S h72 ∧ (J6 [v59, v57, v67] h72)))))) ∧ ((mkK (.int .i64 0) 2 1 8 v12 v12 h58 fun v73 h74 =>
 S h74 ∧ ((mkK (.int .i64 0) 2 1 8 v10 v10 h74 fun v75 h76 =>
 S h76 ∧ (newK #[(.slice none 0 0)] 24 h76 fun v77 h78 =>
 S h78 ∧ (stK 1 v77 v73 h78 fun v79 h80 =>
 S h80 ∧ (J6 [v75, v57, v77] h80)))) ∧ (newK #[(.slice none 0 0)] 24 h74 fun v81 h82 =>
 S h82 ∧ (mkK (.int .i64 0) 2 1 8 v10 v10 h82 fun v83 h84 =>
 S h84 ∧ (stK 1 v81 v73 h84 fun v85 h86 =>
 S h86 ∧ (J6 [v83, v57, v81] h86)))))) ∧ (newK #[(.slice none 0 0)] 24 h58 fun v87 h88 =>
 S h88 ∧ ((mkK (.int .i64 0) 2 1 8 v10 v10 h88 fun v89 h90 =>
 S h90 ∧ (mkK (.int .i64 0) 2 1 8 v12 v12 h90 fun v91 h92 =>
 S h92 ∧ (stK 1 v87 v91 h92 fun v93 h94 =>
 S h94 ∧ (J6 [v89, v57, v87] h94)))) ∧ (mkK (.int .i64 0) 2 1 8 v12 v12 h88 fun v95 h96 =>
 S h96 ∧ (mkK (.int .i64 0) 2 1 8 v10 v10 h96 fun v97 h98 =>
 S h98 ∧ (stK 1 v87 v95 h98 fun v99 h100 =>
 S h100 ∧ (J6 [v97, v57, v87] h100))))))))) ∧ ((mkK (.int .i64 0) 2 1 8 v12 v12 h5 fun v101 h102 =>
 S h102 ∧ ((mkK (.int .i64 0) 2 1 8 v10 v10 h102 fun v103 h104 =>
 S h104 ∧ ((mkK (.int .i64 0) 3 1 8 v11 v11 h104 fun v105 h106 =>
 S h106 ∧ (newK #[(.slice none 0 0)] 24 h106 fun v107 h108 =>
 S h108 ∧ (stK 1 v107 v101 h108 fun v109 h110 =>
 S h110 ∧ (J6 [v103, v105, v107] h110)))) ∧ (newK #[(.slice none 0 0)] 24 h104 fun v111 h112 =>
 S h112 ∧ (mkK (.int .i64 0) 3 1 8 v11 v11 h112 fun v113 h114 =>
 S h114 ∧ (stK 1 v111 v101 h114 fun v115 h116 =>
 S h116 ∧ (J6 [v103, v113, v111] h116)))))) ∧ ((mkK (.int .i64 0) 3 1 8 v11 v11 h102 fun v117 h118 =>
 S h118 ∧ ((mkK (.int .i64 0) 2 1 8 v10 v10 h118 fun v119 h120 =>
 S h120 ∧ (newK #[(.slice none 0 0)] 24 h120 fun v121 h122 =>
 S h122 ∧ (stK 1 v121 v101 h122 fun v123 h124 =>
 S h124 ∧ (J6 [v119, v117, v121] h124)))) ∧ (newK #[(.slice none 0 0)] 24 h118 fun v125 h126 =>
 S h126 ∧ (mkK (.int .i64 0) 2 1 8 v10 v10 h126 fun v127 h128 =>
 S h128 ∧ (stK 1 v125 v101 h128 fun v129 h130 =>
 S h130 ∧ (J6 [v127, v117, v125] h130)))))) ∧ (newK #[(.slice none 0 0)] 24 h102 fun v131 h132 =>
 S h132 ∧ ((mkK (.int .i64 0) 2 1 8 v10 v10 h132 fun v133 h134 =>
 S h134 ∧ (mkK (.int .i64 0) 3 1 8 v11 v11 h134 fun v135 h136 =>
 S h136 ∧ (stK 1 v131 v101 h136 fun v137 h138 =>
 S h138 ∧ (J6 [v133, v135, v131] h138)))) ∧ (mkK (.int .i64 0) 3 1 8 v11 v11 h132 fun v139 h140 =>
 S h140 ∧ (mkK (.int .i64 0) 2 1 8 v10 v10 h140 fun v141 h142 =>
 S h142 ∧ (stK 1 v131 v101 h142 fun v143 h144 =>
 S h144 ∧ (J6 [v141, v139, v131] h144))))))))) ∧ (newK #[(.slice none 0 0)] 24 h5 fun v145 h146 =>
 S h146 ∧ ((mkK (.int .i64 0) 2 1 8 v10 v10 h146 fun v147 h148 =>
 S h148 ∧ ((mkK (.int .i64 0) 3 1 8 v11 v11 h148 fun v149 h150 =>
 S h150 ∧ (mkK (.int .i64 0) 2 1 8 v12 v12 h150 fun v151 h152 =>
 S h152 ∧ (stK 1 v145 v151 h152 fun v153 h154 =>
 S h154 ∧ (J6 [v147, v149, v145] h154)))) ∧ (mkK (.int .i64 0) 2 1 8 v12 v12 h148 fun v155 h156 =>
 S h156 ∧ (mkK (.int .i64 0) 3 1 8 v11 v11 h156 fun v157 h158 =>
 S h158 ∧ (stK 1 v145 v155 h158 fun v159 h160 =>
 S h160 ∧ (J6 [v147, v157, v145] h160)))))) ∧ ((mkK (.int .i64 0) 3 1 8 v11 v11 h146 fun v161 h162 =>
 S h162 ∧ ((mkK (.int .i64 0) 2 1 8 v10 v10 h162 fun v163 h164 =>
 S h164 ∧ (mkK (.int .i64 0) 2 1 8 v12 v12 h164 fun v165 h166 =>
 S h166 ∧ (stK 1 v145 v165 h166 fun v167 h168 =>
 S h168 ∧ (J6 [v163, v161, v145] h168)))) ∧ (mkK (.int .i64 0) 2 1 8 v12 v12 h162 fun v169 h170 =>
 S h170 ∧ (mkK (.int .i64 0) 2 1 8 v10 v10 h170 fun v171 h172 =>
 S h172 ∧ (stK 1 v145 v169 h172 fun v173 h174 =>
 S h174 ∧ (J6 [v171, v161, v145] h174)))))) ∧ (mkK (.int .i64 0) 2 1 8 v12 v12 h146 fun v175 h176 =>
 S h176 ∧ ((mkK (.int .i64 0) 2 1 8 v10 v10 h176 fun v177 h178 =>
 S h178 ∧ (mkK (.int .i64 0) 3 1 8 v11 v11 h178 fun v179 h180 =>
 S h180 ∧ (stK 1 v145 v175 h180 fun v181 h182 =>
 S h182 ∧ (J6 [v177, v179, v145] h182)))) ∧ (mkK (.int .i64 0) 3 1 8 v11 v11 h176 fun v183 h184 =>
 S h184 ∧ (mkK (.int .i64 0) 2 1 8 v10 v10 h184 fun v185 h186 =>
 S h186 ∧ (stK 1 v145 v175 h186 fun v187 h188 =>
 S h188 ∧ (J6 [v185, v183, v145] h188))))))))))))
 fun x7 j8 h9 =>
 vK (lenslV a0) fun v189 =>
 loopK [(.int .i64 16384), (.int .i64 0)] h9 fun x190 j191 h192 again193 =>
 vK (binV .i .lss (ix x190 1) v189) fun v194 =>
 iteK v194 (
 vK (idxV 1 a0 (ix x190 1)) fun v195 =>
 vK (ldV h192 v195) fun v196 =>
 drawK h192 fun S =>
 qK S (fun h192 => ldV h192 (ix x7 2)) fun v197 =>
 vK (binV .i .mul v196 (.int .i64 16384)) fun v198 =>
 vK (binV .i .mul v196 (.int .i64 16384)) fun v199 =>
 FCall Tryz.prog F_fixed_Floor #[v198, v4] h192 fun v200 h201 =>
 S h201 ∧ (FCall Tryz.prog F_fixed_Mod #[v199, v4] h201 fun v202 h203 =>
 S h203 ∧ (vK (idxV 1 (ix x7 0) (ix x190 1)) fun v204 =>
 stK 1 v204 v200 h203 fun v205 h206 =>
 S h206 ∧ (vK (idxV 1 v197 (ix x190 1)) fun v207 =>
 stK 1 v207 v202 h206 fun v208 h209 =>
 vK (idxV 1 (ix x7 1) (ix x190 1)) fun v210 =>
 stK 1 v210 (ix x190 1) h209 fun v211 h212 =>
 vK (idxV 1 (ix x7 0) (ix x190 1)) fun v213 =>
 vK (ldV h212 v213) fun v214 =>
 vK (binV .i .sub (ix x190 0) v214) fun v215 =>
 vK (binV .i .add (ix x190 1) (.int .i64 1)) fun v216 =>
 again193 [v215, v216] h212)))) (
 FCall Tryz.prog F_slices_SortStableFunc_sl_int_int #[(ix x7 1), (.func (.func F_taps_Apportion_c1) #[] #[(ix x7 2)])] h192 fun v217 h218 =>
 vK (slcV 1 (ix x7 1) none (some (ix x190 0))) fun v219 =>
 vK (lenslV v219) fun v220 =>
 loopK [(.int .i64 0)] h218 fun x221 j222 h223 again224 =>
 vK (binV .i .lss (ix x221 0) v220) fun v225 =>
 iteK v225 (
 vK (idxV 1 v219 (ix x221 0)) fun v226 =>
 vK (ldV h223 v226) fun v227 =>
 vK (idxV 1 (ix x7 0) v227) fun v228 =>
 vK (ldV h223 v228) fun v229 =>
 vK (binV .i .add v229 (.int .i64 1)) fun v230 =>
 vK (idxV 1 (ix x7 0) v227) fun v231 =>
 stK 1 v231 v230 h223 fun v232 h233 =>
 vK (binV .i .add (ix x221 0) (.int .i64 1)) fun v234 =>
 again224 [v234] h233) (
 R (.tuple #[(ix x7 0), (.int .i64 0)]) h223)))
noncomputable def an_taps_Apportion : Ann := (.s .z (.s (.s .z (.s .z (.s (.s .z .z) .z))) (.s .z (.j 1071645568 [7, 8, 9] (.d (.op 0 .r (.op 1 .r (.op 3 .r (.op 4 .r (.op 6 .r (.op 7 .r (.alt (.op 2 .e (.alt (.op 5 .e (.alt (.op 8 .e (.op 9 .e (.op 10 .r (.op 11 .r (.op 12 .e .nil))))) (.op 9 .e (.op 10 .r (.op 11 .r (.op 8 .e (.op 12 .e .nil))))))) (.alt (.op 8 .e (.alt (.op 5 .e (.op 9 .e (.op 10 .r (.op 11 .r (.op 12 .e .nil))))) (.op 9 .e (.op 10 .r (.op 5 .e (.op 11 .r (.op 12 .e .nil))))))) (.op 9 .e (.op 10 .r (.alt (.op 5 .e (.op 11 .r (.op 8 .e (.op 12 .e .nil)))) (.op 8 .e (.op 5 .e (.op 11 .r (.op 12 .e .nil)))))))))) (.alt (.op 5 .e (.alt (.op 2 .e (.alt (.op 8 .e (.op 9 .e (.op 10 .r (.op 11 .r (.op 12 .e .nil))))) (.op 9 .e (.op 10 .r (.op 11 .r (.op 8 .e (.op 12 .e .nil))))))) (.alt (.op 8 .e (.alt (.op 2 .e (.op 9 .e (.op 10 .r (.op 11 .r (.op 12 .e .nil))))) (.op 9 .e (.op 2 .e (.op 10 .r (.op 11 .r (.op 12 .e .nil))))))) (.op 9 .e (.alt (.op 2 .e (.op 10 .r (.op 11 .r (.op 8 .e (.op 12 .e .nil))))) (.op 8 .e (.op 2 .e (.op 10 .r (.op 11 .r (.op 12 .e .nil)))))))))) (.alt (.op 8 .e (.alt (.op 2 .e (.alt (.op 5 .e (.op 9 .e (.op 10 .r (.op 11 .r (.op 12 .e .nil))))) (.op 9 .e (.op 10 .r (.op 5 .e (.op 11 .r (.op 12 .e .nil))))))) (.alt (.op 5 .e (.alt (.op 2 .e (.op 9 .e (.op 10 .r (.op 11 .r (.op 12 .e .nil))))) (.op 9 .e (.op 2 .e (.op 10 .r (.op 11 .r (.op 12 .e .nil))))))) (.op 9 .e (.alt (.op 2 .e (.op 10 .r (.op 5 .e (.op 11 .r (.op 12 .e .nil))))) (.op 5 .e (.op 2 .e (.op 10 .r (.op 11 .r (.op 12 .e .nil)))))))))) (.op 9 .e (.alt (.op 2 .e (.op 10 .r (.alt (.op 5 .e (.op 11 .r (.op 8 .e (.op 12 .e .nil)))) (.op 8 .e (.op 5 .e (.op 11 .r (.op 12 .e .nil))))))) (.alt (.op 5 .e (.alt (.op 2 .e (.op 10 .r (.op 11 .r (.op 8 .e (.op 12 .e .nil))))) (.op 8 .e (.op 2 .e (.op 10 .r (.op 11 .r (.op 12 .e .nil))))))) (.op 8 .e (.alt (.op 2 .e (.op 10 .r (.op 5 .e (.op 11 .r (.op 12 .e .nil))))) (.op 5 .e (.op 2 .e (.op 10 .r (.op 11 .r (.op 12 .e .nil)))))))))))))))))))) (.s (.s .z (.l 4611686014132423744 [6, 32] (.s .z (.s (.s .z .z) (.s (.s .z (.s (.d (.op 0 .r (.op 1 .r (.op 2 .r (.op 3 .r (.op 4 .r (.op 5 .r (.op 6 .r (.op 7 .r (.op 8 .r (.op 10 .r (.op 11 .r (.op 12 .r (.op 14 .r (.op 9 .e (.op 13 .e (.op 15 .r (.op 16 .e (.op 17 .r (.op 18 .n (.op 19 .r (.op 20 .n .nil)))))))))))))))))))))) .z)) .z))))) (.s .z (.s (.s .z (.l 1208335523804270469062656 [69] (.s .z (.s (.s .z .z) (.s (.s .z .z) .z))))) (.s .z .z))))))))
theorem oc_taps_Apportion : okCode Tryz.f33.ntmps ((Tryz.f33.body).getD .skip) an_taps_Apportion = true := by kernel_rfl
theorem eq_taps_Apportion (a0 : Value) (h : Heap) (R : Value → Heap → Prop) : sh_taps_Apportion a0 h R = cFunc Tryz.prog ((Tryz.f33.body).getD .skip) an_taps_Apportion Tryz.f33.results.toList #[a0].toList h R := by kernel_rfl
theorem ok_taps_Apportion {a0 : Value} {h : Heap} {R : Value → Heap → Prop} (H : sh_taps_Apportion a0 h R) : FCall Tryz.prog F_taps_Apportion #[a0] h R :=
  fcall_of (by kernel_rfl) (fn := Tryz.f33) (c := (Tryz.f33.body).getD .skip) (an := an_taps_Apportion) (by kernel_rfl) (by kernel_rfl) (by kernel_rfl) oc_taps_Apportion (by kernel_rfl) (Eq.mp (eq_taps_Apportion a0 h R) H)

/-! ### (*smalto|table.Table).add: function 34 -/
def sh_table_Table_add (a0 a1 a2 : Value) (h : Heap) (R : Value → Heap → Prop) : Prop :=
 vK (nilV a0) fun v1 =>
 vK (fldV 1 v1) fun v2 =>
 vK (ldV h v2) fun v3 =>
 vK ((fillL #[(.int .i64 0), (.slice none 0 0)] [(0, 1, a1), (1, 1, a2)]).map .agg) fun v4 =>
 rowK #[(.int .i64 0), (.slice none 0 0)] 106 1 [(0, 2, v4)] h fun v5 h6 =>
 appK (.agg #[.int .i64 0, .slice none 0 0]) 106 2 32 v3 v5 h6 fun v7 h8 =>
 vK (nilV a0) fun v9 =>
 vK (fldV 1 v9) fun v10 =>
 stK 1 v10 v7 h8 fun v11 h12 =>
 vK (nilV a0) fun v13 =>
 vK (fldV 2 v13) fun v14 =>
 vK (ldV h12 v14) fun v15 =>
 vK (lenslV a2) fun v16 =>
 vK (maxV v15 v16) fun v17 =>
 vK (nilV a0) fun v18 =>
 vK (fldV 2 v18) fun v19 =>
 stK 1 v19 v17 h12 fun v20 h21 =>
 drawK h21 fun S =>
 vK (nilV a0) fun v22 =>
 vK (fldV 3 v22) fun v23 =>
 qK S (fun h21 => ldV h21 v23) fun v24 =>
 FCall Tryz.prog F_taps_Size #[a2] h21 fun v25 h26 =>
 S h26 ∧ (qK S (fun h26 => maxV v24 v25) fun v27 =>
 vK (nilV a0) fun v28 =>
 vK (fldV 3 v28) fun v29 =>
 stK 1 v29 v27 h26 fun v30 h31 =>
 R (.tuple #[]) h31)
noncomputable def an_table_Table_add : Ann := (.s .z (.s .z (.d (.op 0 .r (.op 1 .r (.op 2 .r (.op 3 .r (.op 4 .r (.op 5 .r (.op 6 .e (.op 7 .r (.op 8 .r (.op 9 .r (.op 10 .n .nil))))))))))))))
theorem oc_table_Table_add : okCode Tryz.f34.ntmps ((Tryz.f34.body).getD .skip) an_table_Table_add = true := by kernel_rfl
theorem eq_table_Table_add (a0 a1 a2 : Value) (h : Heap) (R : Value → Heap → Prop) : sh_table_Table_add a0 a1 a2 h R = cFunc Tryz.prog ((Tryz.f34.body).getD .skip) an_table_Table_add Tryz.f34.results.toList #[a0, a1, a2].toList h R := by kernel_rfl
theorem ok_table_Table_add {a0 a1 a2 : Value} {h : Heap} {R : Value → Heap → Prop} (H : sh_table_Table_add a0 a1 a2 h R) : FCall Tryz.prog F_table_Table_add #[a0, a1, a2] h R :=
  fcall_of (by kernel_rfl) (fn := Tryz.f34) (c := (Tryz.f34.body).getD .skip) (an := an_table_Table_add) (by kernel_rfl) (by kernel_rfl) (by kernel_rfl) oc_table_Table_add (by kernel_rfl) (Eq.mp (eq_table_Table_add a0 a1 a2 h R) H)

/-! ### smalto|taps.Gaussian: function 35 -/
def sh_taps_Gaussian (a0 : Value) (h : Heap) (R : Value → Heap → Prop) : Prop :=
 vK (binV .i .lss a0 (.int .i64 1)) fun v1 =>
 vK (gV v1 false (some a0)) fun v2 =>
 vK (gV v1 false (binV .i .gtr v2 (.int .i64 4194304))) fun v3 =>
 vK (pickV v1 (.bool true) v3) fun v4 =>
 iteK v4 (
 R (.tuple #[(.slice none 0 0), (.int .i64 7)]) h) (
 vK (binV .i .mul (.int .i64 3) a0) fun v5 =>
 vK (binV .i .add v5 (.int .i64 65536)) fun v6 =>
 vK (binV .i .sub v6 (.int .i64 1)) fun v7 =>
 vK (binV .i .shr v7 (.int .u64 16)) fun v8 =>
 vK (unV .neg v8) fun v9 =>
 loopK [(.slice none 0 0), v9] h fun x10 j11 h12 again13 =>
 vK (binV .i .leq (ix x10 1) v8) fun v14 =>
 iteK v14 (
 FCall Tryz.prog F_expo_Gauss #[(ix x10 1), a0] h12 fun v15 h16 =>
 rowK #[(.int .i64 0)] 2 1 [(0, 1, v15)] h16 fun v17 h18 =>
 appK (.int .i64 0) 2 1 8 (ix x10 0) v17 h18 fun v19 h20 =>
 vK (binV .i .add (ix x10 1) (.int .i64 1)) fun v21 =>
 again13 [v19, v21] h20) (
 R (.tuple #[(ix x10 0), (.int .i64 0)]) h12))
noncomputable def an_taps_Gaussian : Ann := (.s .z (.s (.s .z (.s (.s .z .z) .z)) (.s .z (.s .z (.s (.s .z (.l 2146435168 [5, 6] (.s (.s .z (.s .z .z)) (.s .z .z)))) (.s .z .z))))))
theorem oc_taps_Gaussian : okCode Tryz.f35.ntmps ((Tryz.f35.body).getD .skip) an_taps_Gaussian = true := by kernel_rfl
theorem eq_taps_Gaussian (a0 : Value) (h : Heap) (R : Value → Heap → Prop) : sh_taps_Gaussian a0 h R = cFunc Tryz.prog ((Tryz.f35.body).getD .skip) an_taps_Gaussian Tryz.f35.results.toList #[a0].toList h R := by kernel_rfl
theorem ok_taps_Gaussian {a0 : Value} {h : Heap} {R : Value → Heap → Prop} (H : sh_taps_Gaussian a0 h R) : FCall Tryz.prog F_taps_Gaussian #[a0] h R :=
  fcall_of (by kernel_rfl) (fn := Tryz.f35) (c := (Tryz.f35.body).getD .skip) (an := an_taps_Gaussian) (by kernel_rfl) (by kernel_rfl) (by kernel_rfl) oc_taps_Gaussian (by kernel_rfl) (Eq.mp (eq_taps_Gaussian a0 h R) H)

/-! ### smalto|taps.Blur: function 36 -/
def sh_taps_Blur (a0 : Value) (h : Heap) (R : Value → Heap → Prop) : Prop :=
 vK (binV .i .lss a0 (.int .i64 0)) fun v1 =>
 vK (gV v1 false (some a0)) fun v2 =>
 vK (gV v1 false (binV .i .gtr v2 (.int .i64 511))) fun v3 =>
 vK (pickV v1 (.bool true) v3) fun v4 =>
 iteK v4 (
 R (.tuple #[(.slice none 0 0), (.int .i64 7)]) h) (
 rowK #[(.int .i64 0)] 2 1 [(0, 1, (.int .i64 1))] h fun v5 h6 =>
 vK (binV .i .mul (.int .i64 2) a0) fun v7 =>
 vK (binV .i .add v7 (.int .i64 1)) fun v8 =>
 FCall Tryz.prog F_slices_Repeat_sl_int64_int64 #[v5, v8] h6 fun v9 h10 =>
 FCall Tryz.prog F_taps_User #[v9] h10 fun v11 h12 =>
 vK (extV v11 0) fun v13 =>
 vK (extV v11 1) fun v14 =>
 R (.tuple #[v13, v14]) h12)
noncomputable def an_taps_Blur : Ann := (.s .z (.s (.s .z (.s (.s .z .z) .z)) (.s .z .z)))
theorem oc_taps_Blur : okCode Tryz.f36.ntmps ((Tryz.f36.body).getD .skip) an_taps_Blur = true := by kernel_rfl
theorem eq_taps_Blur (a0 : Value) (h : Heap) (R : Value → Heap → Prop) : sh_taps_Blur a0 h R = cFunc Tryz.prog ((Tryz.f36.body).getD .skip) an_taps_Blur Tryz.f36.results.toList #[a0].toList h R := by kernel_rfl
theorem ok_taps_Blur {a0 : Value} {h : Heap} {R : Value → Heap → Prop} (H : sh_taps_Blur a0 h R) : FCall Tryz.prog F_taps_Blur #[a0] h R :=
  fcall_of (by kernel_rfl) (fn := Tryz.f36) (c := (Tryz.f36.body).getD .skip) (an := an_taps_Blur) (by kernel_rfl) (by kernel_rfl) (by kernel_rfl) oc_taps_Blur (by kernel_rfl) (Eq.mp (eq_taps_Blur a0 h R) H)

/-! ### smalto|taps.User: function 37 -/
def sh_taps_User (a0 : Value) (h : Heap) (R : Value → Heap → Prop) : Prop :=
 FCall Tryz.prog F_taps_Size #[a0] h fun v1 h2 =>
 vK (lenslV a0) fun v3 =>
 vK (binV .i .rem v3 (.int .i64 2)) fun v4 =>
 vK (binV .i .eql v4 (.int .i64 0)) fun v5 =>
 vK (gV v5 false (some a0)) fun v6 =>
 vK (gV v5 false (lenslV v6)) fun v7 =>
 vK (gV v5 false (binV .i .gtr v7 (.int .i64 1024))) fun v8 =>
 vK (pickV v5 (.bool true) v8) fun v9 =>
 vK (gV v9 false (some v1)) fun v10 =>
 vK (gV v9 false (binV .i .lss v10 (.int .i64 1))) fun v11 =>
 vK (pickV v9 (.bool true) v11) fun v12 =>
 vK (gV v12 false (some v1)) fun v13 =>
 vK (gV v12 false (binV .i .gtr v13 (.int .i64 1048576))) fun v14 =>
 vK (pickV v12 (.bool true) v14) fun v15 =>
 iteK v15 (
 R (.tuple #[(.slice none 0 0), (.int .i64 7)]) h2) (
 vK (lenslV a0) fun v16 =>
 loopK [(.slice none 0 0), (.int .i64 0)] h2 fun x17 j18 h19 again20 =>
 vK (binV .i .lss (ix x17 1) v16) fun v21 =>
 iteK v21 (
 vK (idxV 1 a0 (ix x17 1)) fun v22 =>
 vK (ldV h19 v22) fun v23 =>
 FCall Tryz.prog F_wide_MulDiv #[v23, (.int .i64 1073741824), v1] h19 fun v24 h25 =>
 rowK #[(.int .i64 0)] 2 1 [(0, 1, v24)] h25 fun v26 h27 =>
 appK (.int .i64 0) 2 1 8 (ix x17 0) v26 h27 fun v28 h29 =>
 vK (binV .i .add (ix x17 1) (.int .i64 1)) fun v30 =>
 again20 [v28, v30] h29) (
 R (.tuple #[(ix x17 0), (.int .i64 0)]) h19))
noncomputable def an_taps_User : Ann := (.s .z (.s .z (.s (.s .z (.s (.s .z .z) .z)) (.s .z (.s (.s .z (.l 1098974757024 [5, 29] (.s .z (.s (.s .z .z) (.s (.s .z .z) .z))))) (.s .z .z))))))
theorem oc_taps_User : okCode Tryz.f37.ntmps ((Tryz.f37.body).getD .skip) an_taps_User = true := by kernel_rfl
theorem eq_taps_User (a0 : Value) (h : Heap) (R : Value → Heap → Prop) : sh_taps_User a0 h R = cFunc Tryz.prog ((Tryz.f37.body).getD .skip) an_taps_User Tryz.f37.results.toList #[a0].toList h R := by kernel_rfl
theorem ok_taps_User {a0 : Value} {h : Heap} {R : Value → Heap → Prop} (H : sh_taps_User a0 h R) : FCall Tryz.prog F_taps_User #[a0] h R :=
  fcall_of (by kernel_rfl) (fn := Tryz.f37) (c := (Tryz.f37.body).getD .skip) (an := an_taps_User) (by kernel_rfl) (by kernel_rfl) (by kernel_rfl) oc_taps_User (by kernel_rfl) (Eq.mp (eq_taps_User a0 h R) H)

/-! ### (*strings.Builder).WriteString: function 43 -/
def sh_strings_Builder_WriteString (a0 a1 : Value) (h : Heap) (R : Value → Heap → Prop) : Prop :=
 FCall Tryz.prog F_strings_Builder_copyCheck #[a0] h fun v1 h2 =>
 vK (nilV a0) fun v3 =>
 vK (fldV 1 v3) fun v4 =>
 vK (ldV h2 v4) fun v5 =>
 appK (.int .u8 0) 5 1 1 v5 a1 h2 fun v6 h7 =>
 vK (nilV a0) fun v8 =>
 vK (fldV 1 v8) fun v9 =>
 stK 1 v9 v6 h7 fun v10 h11 =>
 vK (lenstV a1) fun v12 =>
 R (.tuple #[v12, .nilIface]) h11
noncomputable def an_strings_Builder_WriteString : Ann := (.s .z (.s .z (.s .z (.s .z .z))))
theorem oc_strings_Builder_WriteString : okCode Tryz.f43.ntmps ((Tryz.f43.body).getD .skip) an_strings_Builder_WriteString = true := by kernel_rfl
theorem eq_strings_Builder_WriteString (a0 a1 : Value) (h : Heap) (R : Value → Heap → Prop) : sh_strings_Builder_WriteString a0 a1 h R = cFunc Tryz.prog ((Tryz.f43.body).getD .skip) an_strings_Builder_WriteString Tryz.f43.results.toList #[a0, a1].toList h R := by kernel_rfl
theorem ok_strings_Builder_WriteString {a0 a1 : Value} {h : Heap} {R : Value → Heap → Prop} (H : sh_strings_Builder_WriteString a0 a1 h R) : FCall Tryz.prog F_strings_Builder_WriteString #[a0, a1] h R :=
  fcall_of (by kernel_rfl) (fn := Tryz.f43) (c := (Tryz.f43.body).getD .skip) (an := an_strings_Builder_WriteString) (by kernel_rfl) (by kernel_rfl) (by kernel_rfl) oc_strings_Builder_WriteString (by kernel_rfl) (Eq.mp (eq_strings_Builder_WriteString a0 a1 h R) H)

/-! ### smalto|raw.Window: function 45 -/
def sh_raw_Window (a0 a1 a2 a3 : Value) (h : Heap) (R : Value → Heap → Prop) : Prop :=
 FCall Tryz.prog F_raw_may #[a0, a1, a2, a3] h fun v1 h2 =>
 vK (unV .not v1) fun v3 =>
 iteK v3 (
 R (.tuple #[(.int .i64 0), (.int .i64 0)]) h2) (
 vK (binV .i .mul a3 a1) fun v4 =>
 FCall Tryz.prog F_fixed_Floor #[v4, a2] h2 fun v5 h6 =>
 vK (binV .i .add a3 (.int .i64 1)) fun v7 =>
 vK (binV .i .mul v7 a1) fun v8 =>
 FCall Tryz.prog F_raw_ceil #[v8, a2] h6 fun v9 h10 =>
 vK (binV .i .neq a0 (.int .i64 0)) fun v11 =>
 iteK v11 (
 vK (binV .i .mul (.int .i64 2) a3) fun v12 =>
 vK (binV .i .add v12 (.int .i64 1)) fun v13 =>
 vK (binV .i .mul v13 a1) fun v14 =>
 vK (binV .i .sub v14 a2) fun v15 =>
 vK (idxaV 3 2 (.pointer (some ⟨G_raw_kinds, 0, none⟩)) a0) fun v16 =>
 vK (fldV 1 v16) fun v17 =>
 vK (ldV h10 v17) fun v18 =>
 vK (binV .i .mul v18 (.int .i64 2)) fun v19 =>
 vK (maxV a1 a2) fun v20 =>
 vK (binV .i .mul v19 v20) fun v21 =>
 vK (binV .i .sub v15 v21) fun v22 =>
 vK (binV .i .mul (.int .i64 2) a2) fun v23 =>
 FCall Tryz.prog F_fixed_Floor #[v22, v23] h10 fun v24 h25 =>
 vK (binV .i .add v24 (.int .i64 1)) fun v26 =>
 vK (binV .i .add v15 v21) fun v27 =>
 vK (binV .i .mul (.int .i64 2) a2) fun v28 =>
 FCall Tryz.prog F_raw_ceil #[v27, v28] h25 fun v29 h30 =>
 vK (binV .i .sub v29 v26) fun v31 =>
 R (.tuple #[v26, v31]) h30) (
 vK (binV .i .sub v9 v5) fun v32 =>
 R (.tuple #[v5, v32]) h10))
noncomputable def an_raw_Window : Ann := (.s .z (.s (.s .z (.s (.s .z .z) .z)) (.s .z (.s (.s .z (.s (.s .z .z) .z)) (.s .z .z)))))
theorem oc_raw_Window : okCode Tryz.f45.ntmps ((Tryz.f45.body).getD .skip) an_raw_Window = true := by kernel_rfl
theorem eq_raw_Window (a0 a1 a2 a3 : Value) (h : Heap) (R : Value → Heap → Prop) : sh_raw_Window a0 a1 a2 a3 h R = cFunc Tryz.prog ((Tryz.f45.body).getD .skip) an_raw_Window Tryz.f45.results.toList #[a0, a1, a2, a3].toList h R := by kernel_rfl
theorem ok_raw_Window {a0 a1 a2 a3 : Value} {h : Heap} {R : Value → Heap → Prop} (H : sh_raw_Window a0 a1 a2 a3 h R) : FCall Tryz.prog F_raw_Window #[a0, a1, a2, a3] h R :=
  fcall_of (by kernel_rfl) (fn := Tryz.f45) (c := (Tryz.f45.body).getD .skip) (an := an_raw_Window) (by kernel_rfl) (by kernel_rfl) (by kernel_rfl) oc_raw_Window (by kernel_rfl) (Eq.mp (eq_raw_Window a0 a1 a2 a3 h R) H)

/-! ### smalto|raw.weigh: function 46 -/
def sh_raw_weigh (a0 a1 a2 a3 a4 : Value) (h : Heap) (R : Value → Heap → Prop) : Prop :=
 vK (binV .i .eql a0 (.int .i64 0)) fun v1 =>
 iteK v1 (
 vK (binV .i .add a3 (.int .i64 1)) fun v2 =>
 vK (binV .i .mul v2 a1) fun v3 =>
 vK (binV .i .add a4 (.int .i64 1)) fun v4 =>
 vK (binV .i .mul v4 a2) fun v5 =>
 vK (minV v3 v5) fun v6 =>
 vK (binV .i .mul a3 a1) fun v7 =>
 vK (binV .i .mul a4 a2) fun v8 =>
 vK (maxV v7 v8) fun v9 =>
 vK (binV .i .sub v6 v9) fun v10 =>
 FCall Tryz.prog F_wide_MulDiv #[v10, (.int .i64 1073741824), a1] h fun v11 h12 =>
 R v11 h12) (
 vK (binV .i .mul (.int .i64 2) a2) fun v13 =>
 vK (binV .i .mul v13 a4) fun v14 =>
 vK (binV .i .mul (.int .i64 2) a3) fun v15 =>
 vK (binV .i .add v15 (.int .i64 1)) fun v16 =>
 vK (binV .i .mul v16 a1) fun v17 =>
 vK (binV .i .sub v14 v17) fun v18 =>
 vK (binV .i .add v18 a2) fun v19 =>
 vK (maxV a1 a2) fun v20 =>
 vK (binV .i .mul (.int .i64 2) v20) fun v21 =>
 vK (binV .i .eql a0 (.int .i64 1)) fun v22 =>
 iteK v22 (
 FCall Tryz.prog F_raw_Keys #[v19, v21] h fun v23 h24 =>
 R v23 h24) (
 FCall Tryz.prog F_sinc_Lanczos #[v19, v21] h fun v25 h26 =>
 R v25 h26))
noncomputable def an_raw_weigh : Ann := (.s .z (.s (.s .z (.s (.s .z (.s .z .z)) .z)) (.s .z (.s (.s .z (.s (.s .z .z) .z)) (.s .z .z)))))
theorem oc_raw_weigh : okCode Tryz.f46.ntmps ((Tryz.f46.body).getD .skip) an_raw_weigh = true := by kernel_rfl
theorem eq_raw_weigh (a0 a1 a2 a3 a4 : Value) (h : Heap) (R : Value → Heap → Prop) : sh_raw_weigh a0 a1 a2 a3 a4 h R = cFunc Tryz.prog ((Tryz.f46.body).getD .skip) an_raw_weigh Tryz.f46.results.toList #[a0, a1, a2, a3, a4].toList h R := by kernel_rfl
theorem ok_raw_weigh {a0 a1 a2 a3 a4 : Value} {h : Heap} {R : Value → Heap → Prop} (H : sh_raw_weigh a0 a1 a2 a3 a4 h R) : FCall Tryz.prog F_raw_weigh #[a0, a1, a2, a3, a4] h R :=
  fcall_of (by kernel_rfl) (fn := Tryz.f46) (c := (Tryz.f46.body).getD .skip) (an := an_raw_weigh) (by kernel_rfl) (by kernel_rfl) (by kernel_rfl) oc_raw_weigh (by kernel_rfl) (Eq.mp (eq_raw_weigh a0 a1 a2 a3 a4 h R) H)

/-! ### smalto|taps.check: function 47 -/
def sh_taps_check (a0 : Value) (h : Heap) (R : Value → Heap → Prop) : Prop :=
 vK (lenslV a0) fun v1 =>
 vK (binV .i .eql v1 (.int .i64 0)) fun v2 =>
 vK (gV v2 false (some a0)) fun v3 =>
 vK (gV v2 false (lenslV v3)) fun v4 =>
 vK (gV v2 false (binV .i .gtr v4 (.int .i64 1048576))) fun v5 =>
 vK (pickV v2 (.bool true) v5) fun v6 =>
 vK (gV v6 false (some a0)) fun v7 =>
 gK v6 false (fun k14 => FCall Tryz.prog F_slices_ContainsFunc_sl_int64_int64 #[v7, (.func (.func F_taps_check_c1) #[] #[])] h k14) h fun v8 h9 =>
 vK (pickV v6 (.bool true) v8) fun v10 =>
 iteK v10 (
 R (.int .i64 7) h9) (
 FCall Tryz.prog F_taps_Sum #[a0] h9 fun v11 h12 =>
 vK (binV .i .lss v11 (.int .i64 268435456)) fun v13 =>
 iteK v13 (
 R (.int .i64 8) h12) (
 R (.int .i64 0) h12))
noncomputable def an_taps_check : Ann := (.s .z (.s (.s .z (.s (.s .z .z) .z)) (.s (.s .z (.s (.s .z .z) .z)) (.s .z .z))))
theorem oc_taps_check : okCode Tryz.f47.ntmps ((Tryz.f47.body).getD .skip) an_taps_check = true := by kernel_rfl
theorem eq_taps_check (a0 : Value) (h : Heap) (R : Value → Heap → Prop) : sh_taps_check a0 h R = cFunc Tryz.prog ((Tryz.f47.body).getD .skip) an_taps_check Tryz.f47.results.toList #[a0].toList h R := by kernel_rfl
theorem ok_taps_check {a0 : Value} {h : Heap} {R : Value → Heap → Prop} (H : sh_taps_check a0 h R) : FCall Tryz.prog F_taps_check #[a0] h R :=
  fcall_of (by kernel_rfl) (fn := Tryz.f47) (c := (Tryz.f47.body).getD .skip) (an := an_taps_check) (by kernel_rfl) (by kernel_rfl) (by kernel_rfl) oc_taps_check (by kernel_rfl) (Eq.mp (eq_taps_check a0 h R) H)

/-! ### smalto|taps.Sum: function 48 -/
def sh_taps_Sum (a0 : Value) (h : Heap) (R : Value → Heap → Prop) : Prop :=
 vK (lenslV a0) fun v1 =>
 loopK [(.int .i64 0), (.int .i64 0)] h fun x2 j3 h4 again5 =>
 vK (binV .i .lss (ix x2 1) v1) fun v6 =>
 iteK v6 (
 vK (idxV 1 a0 (ix x2 1)) fun v7 =>
 vK (ldV h4 v7) fun v8 =>
 FCall Tryz.prog F_fixed_Add #[(ix x2 0), v8] h4 fun v9 h10 =>
 vK (binV .i .add (ix x2 1) (.int .i64 1)) fun v11 =>
 again5 [v9, v11] h10) (
 R (ix x2 0) h4)
noncomputable def an_taps_Sum : Ann := (.s .z (.s .z (.s (.s .z (.l 65320 [3, 8] (.s .z (.s (.s .z .z) (.s (.s .z .z) .z))))) (.s .z .z))))
theorem oc_taps_Sum : okCode Tryz.f48.ntmps ((Tryz.f48.body).getD .skip) an_taps_Sum = true := by kernel_rfl
theorem eq_taps_Sum (a0 : Value) (h : Heap) (R : Value → Heap → Prop) : sh_taps_Sum a0 h R = cFunc Tryz.prog ((Tryz.f48.body).getD .skip) an_taps_Sum Tryz.f48.results.toList #[a0].toList h R := by kernel_rfl
theorem ok_taps_Sum {a0 : Value} {h : Heap} {R : Value → Heap → Prop} (H : sh_taps_Sum a0 h R) : FCall Tryz.prog F_taps_Sum #[a0] h R :=
  fcall_of (by kernel_rfl) (fn := Tryz.f48) (c := (Tryz.f48.body).getD .skip) (an := an_taps_Sum) (by kernel_rfl) (by kernel_rfl) (by kernel_rfl) oc_taps_Sum (by kernel_rfl) (Eq.mp (eq_taps_Sum a0 h R) H)

/-! ### smalto|fixed.Floor: function 49 -/
def sh_fixed_Floor (a0 a1 : Value) (h : Heap) (R : Value → Heap → Prop) : Prop :=
 vK (binV .i .eql a1 (.int .i64 0)) fun v1 =>
 iteK v1 (
 R (.int .i64 0) h) (
 drawK h fun S =>
 FCall Tryz.prog F_fixed_size #[a0] h fun v2 h3 =>
 FCall Tryz.prog F_fixed_size #[a1] h3 fun v4 h5 =>
 vK (binV .i .quo v2 v4) fun v6 =>
 FCall Tryz.prog F_fixed_size #[a0] h5 fun v7 h8 =>
 FCall Tryz.prog F_fixed_size #[a1] h8 fun v9 h10 =>
 vK (binV .i .rem v7 v9) fun v11 =>
 vK (binV .i .lss a0 (.int .i64 0)) fun v12 =>
 vK (binV .i .lss a1 (.int .i64 0)) fun v13 =>
 vK (binV .b .neq v12 v13) fun v14 =>
 vK (gV v14 true (some v11)) fun v15 =>
 vK (gV v14 true (binV .i .neq v15 (.int .u64 0))) fun v16 =>
 vK (pickV v14 v16 (.bool false)) fun v17 =>
 iteK v17 (
 vK (binV .i .add v6 (.int .u64 1)) fun v18 =>
 FCall Tryz.prog F_fixed_hold #[v18, v14] h10 fun v19 h20 =>
 R v19 h20) (
 FCall Tryz.prog F_fixed_hold #[v6, v14] h10 fun v21 h22 =>
 R v21 h22))
noncomputable def an_fixed_Floor : Ann := (.s .z (.s (.s .z (.s (.s .z .z) .z)) (.s (.d (.op 0 .r (.op 2 .r (.op 5 .r (.op 7 .r (.op 1 .n (.op 3 .n (.op 4 .r (.op 6 .n (.op 8 .n (.op 9 .r (.op 10 .r (.op 11 .r .nil))))))))))))) (.s .z (.s (.s .z (.s .z .z)) (.s .z .z))))))
theorem oc_fixed_Floor : okCode Tryz.f49.ntmps ((Tryz.f49.body).getD .skip) an_fixed_Floor = true := by kernel_rfl
theorem eq_fixed_Floor (a0 a1 : Value) (h : Heap) (R : Value → Heap → Prop) : sh_fixed_Floor a0 a1 h R = cFunc Tryz.prog ((Tryz.f49.body).getD .skip) an_fixed_Floor Tryz.f49.results.toList #[a0, a1].toList h R := by kernel_rfl
theorem ok_fixed_Floor {a0 a1 : Value} {h : Heap} {R : Value → Heap → Prop} (H : sh_fixed_Floor a0 a1 h R) : FCall Tryz.prog F_fixed_Floor #[a0, a1] h R :=
  fcall_of (by kernel_rfl) (fn := Tryz.f49) (c := (Tryz.f49.body).getD .skip) (an := an_fixed_Floor) (by kernel_rfl) (by kernel_rfl) (by kernel_rfl) oc_fixed_Floor (by kernel_rfl) (Eq.mp (eq_fixed_Floor a0 a1 h R) H)

/-! ### smalto|fixed.Mod: function 50 -/
def sh_fixed_Mod (a0 a1 : Value) (h : Heap) (R : Value → Heap → Prop) : Prop :=
 vK (binV .i .eql a1 (.int .i64 0)) fun v1 =>
 vK (gV v1 false (some a1)) fun v2 =>
 vK (gV v1 false (binV .i .eql v2 (.int .i64 (-1)))) fun v3 =>
 vK (pickV v1 (.bool true) v3) fun v4 =>
 iteK v4 (
 R (.int .i64 0) h) (
 vK (binV .i .rem a0 a1) fun v5 =>
 vK (binV .i .neq v5 (.int .i64 0)) fun v6 =>
 vK (gV v6 true (some v5)) fun v7 =>
 vK (gV v6 true (binV .i .lss v7 (.int .i64 0))) fun v8 =>
 vK (gV v6 true (some a1)) fun v9 =>
 vK (gV v6 true (binV .i .lss v9 (.int .i64 0))) fun v10 =>
 vK (gV v6 true (binV .b .neq v8 v10)) fun v11 =>
 vK (pickV v6 v11 (.bool false)) fun v12 =>
 iteK v12 (
 vK (binV .i .add v5 a1) fun v13 =>
 R v13 h) (
 R v5 h))
noncomputable def an_fixed_Mod : Ann := (.s .z (.s (.s .z (.s (.s .z .z) .z)) (.s .z (.s (.s .z (.s .z .z)) (.s .z .z)))))
theorem oc_fixed_Mod : okCode Tryz.f50.ntmps ((Tryz.f50.body).getD .skip) an_fixed_Mod = true := by kernel_rfl
theorem eq_fixed_Mod (a0 a1 : Value) (h : Heap) (R : Value → Heap → Prop) : sh_fixed_Mod a0 a1 h R = cFunc Tryz.prog ((Tryz.f50.body).getD .skip) an_fixed_Mod Tryz.f50.results.toList #[a0, a1].toList h R := by kernel_rfl
theorem ok_fixed_Mod {a0 a1 : Value} {h : Heap} {R : Value → Heap → Prop} (H : sh_fixed_Mod a0 a1 h R) : FCall Tryz.prog F_fixed_Mod #[a0, a1] h R :=
  fcall_of (by kernel_rfl) (fn := Tryz.f50) (c := (Tryz.f50.body).getD .skip) (an := an_fixed_Mod) (by kernel_rfl) (by kernel_rfl) (by kernel_rfl) oc_fixed_Mod (by kernel_rfl) (Eq.mp (eq_fixed_Mod a0 a1 h R) H)

/-! ### slices.SortStableFunc[[]int,int]: function 51 -/
def sh_slices_SortStableFunc_sl_int_int (a0 a1 : Value) (h : Heap) (R : Value → Heap → Prop) : Prop :=
 vK (lenslV a0) fun v1 =>
 FCall Tryz.prog F_slices_stableCmpFunc_int #[a0, v1, a1] h fun v2 h3 =>
 R (.tuple #[]) h3
noncomputable def an_slices_SortStableFunc_sl_int_int : Ann := .z
theorem oc_slices_SortStableFunc_sl_int_int : okCode Tryz.f51.ntmps ((Tryz.f51.body).getD .skip) an_slices_SortStableFunc_sl_int_int = true := by kernel_rfl
theorem eq_slices_SortStableFunc_sl_int_int (a0 a1 : Value) (h : Heap) (R : Value → Heap → Prop) : sh_slices_SortStableFunc_sl_int_int a0 a1 h R = cFunc Tryz.prog ((Tryz.f51.body).getD .skip) an_slices_SortStableFunc_sl_int_int Tryz.f51.results.toList #[a0, a1].toList h R := by kernel_rfl
theorem ok_slices_SortStableFunc_sl_int_int {a0 a1 : Value} {h : Heap} {R : Value → Heap → Prop} (H : sh_slices_SortStableFunc_sl_int_int a0 a1 h R) : FCall Tryz.prog F_slices_SortStableFunc_sl_int_int #[a0, a1] h R :=
  fcall_of (by kernel_rfl) (fn := Tryz.f51) (c := (Tryz.f51.body).getD .skip) (an := an_slices_SortStableFunc_sl_int_int) (by kernel_rfl) (by kernel_rfl) (by kernel_rfl) oc_slices_SortStableFunc_sl_int_int (by kernel_rfl) (Eq.mp (eq_slices_SortStableFunc_sl_int_int a0 a1 h R) H)

/-! ### smalto|taps.Apportion$1: function 52 -/
def sh_taps_Apportion_c1 (a0 a1 a2 : Value) (h : Heap) (R : Value → Heap → Prop) : Prop :=
 drawK h fun S =>
 qK S (fun h => ldV h a2) fun v1 =>
 vK (idxV 1 v1 a1) fun v2 =>
 qK S (fun h => ldV h v2) fun v3 =>
 qK S (fun h => ldV h a2) fun v4 =>
 vK (idxV 1 v4 a0) fun v5 =>
 qK S (fun h => ldV h v5) fun v6 =>
 FCall Tryz.prog F_cmp_Compare_int64 #[v3, v6] h fun v7 h8 =>
 R v7 h8
noncomputable def an_taps_Apportion_c1 : Ann := (.s .z (.s (.d (.op 0 .r (.op 1 .r (.op 2 .r (.op 3 .r (.op 4 .r (.op 5 .r (.op 6 .r (.op 7 .r (.op 8 .n (.op 9 .r .nil))))))))))) .z))
theorem oc_taps_Apportion_c1 : okCode Tryz.f52.ntmps ((Tryz.f52.body).getD .skip) an_taps_Apportion_c1 = true := by kernel_rfl
theorem eq_taps_Apportion_c1 (a0 a1 a2 : Value) (h : Heap) (R : Value → Heap → Prop) : sh_taps_Apportion_c1 a0 a1 a2 h R = cFunc Tryz.prog ((Tryz.f52.body).getD .skip) an_taps_Apportion_c1 Tryz.f52.results.toList #[a0, a1, a2].toList h R := by kernel_rfl
theorem ok_taps_Apportion_c1 {a0 a1 a2 : Value} {h : Heap} {R : Value → Heap → Prop} (H : sh_taps_Apportion_c1 a0 a1 a2 h R) : FCall Tryz.prog F_taps_Apportion_c1 #[a0, a1, a2] h R :=
  fcall_of (by kernel_rfl) (fn := Tryz.f52) (c := (Tryz.f52.body).getD .skip) (an := an_taps_Apportion_c1) (by kernel_rfl) (by kernel_rfl) (by kernel_rfl) oc_taps_Apportion_c1 (by kernel_rfl) (Eq.mp (eq_taps_Apportion_c1 a0 a1 a2 h R) H)

/-! ### cmp.Compare[int64]: function 53 -/
def sh_cmp_Compare_int64 (a0 a1 : Value) (h : Heap) (R : Value → Heap → Prop) : Prop :=
 FCall Tryz.prog F_cmp_isNaN_int64 #[a0] h fun v1 h2 =>
 FCall Tryz.prog F_cmp_isNaN_int64 #[a1] h2 fun v3 h4 =>
 iteK v1 (
 iteK v3 (
 R (.int .i64 0) h4) (
 R (.int .i64 (-1)) h4)) (
 iteK v3 (
 R (.int .i64 1) h4) (
 vK (binV .i .lss a0 a1) fun v5 =>
 iteK v5 (
 R (.int .i64 (-1)) h4) (
 vK (binV .i .gtr a0 a1) fun v6 =>
 iteK v6 (
 R (.int .i64 1) h4) (
 R (.int .i64 0) h4))))
noncomputable def an_cmp_Compare_int64 : Ann := (.s .z (.s .z (.s .z (.s (.s .z (.s (.s (.s .z (.s (.s .z .z) .z)) (.s .z .z)) .z)) (.s (.s .z (.s (.s .z .z) .z)) (.s (.s .z (.s (.s .z .z) .z)) (.s (.s .z (.s (.s .z .z) .z)) (.s .z .z))))))))
theorem oc_cmp_Compare_int64 : okCode Tryz.f53.ntmps ((Tryz.f53.body).getD .skip) an_cmp_Compare_int64 = true := by kernel_rfl
theorem eq_cmp_Compare_int64 (a0 a1 : Value) (h : Heap) (R : Value → Heap → Prop) : sh_cmp_Compare_int64 a0 a1 h R = cFunc Tryz.prog ((Tryz.f53.body).getD .skip) an_cmp_Compare_int64 Tryz.f53.results.toList #[a0, a1].toList h R := by kernel_rfl
theorem ok_cmp_Compare_int64 {a0 a1 : Value} {h : Heap} {R : Value → Heap → Prop} (H : sh_cmp_Compare_int64 a0 a1 h R) : FCall Tryz.prog F_cmp_Compare_int64 #[a0, a1] h R :=
  fcall_of (by kernel_rfl) (fn := Tryz.f53) (c := (Tryz.f53.body).getD .skip) (an := an_cmp_Compare_int64) (by kernel_rfl) (by kernel_rfl) (by kernel_rfl) oc_cmp_Compare_int64 (by kernel_rfl) (Eq.mp (eq_cmp_Compare_int64 a0 a1 h R) H)

/-! ### smalto|taps.Size: function 54 -/
def sh_taps_Size (a0 : Value) (h : Heap) (R : Value → Heap → Prop) : Prop :=
 vK (lenslV a0) fun v1 =>
 loopK [(.int .i64 0), (.int .i64 0)] h fun x2 j3 h4 again5 =>
 vK (binV .i .lss (ix x2 1) v1) fun v6 =>
 iteK v6 (
 vK (idxV 1 a0 (ix x2 1)) fun v7 =>
 vK (ldV h4 v7) fun v8 =>
 FCall Tryz.prog F_taps_size #[v8] h4 fun v9 h10 =>
 FCall Tryz.prog F_fixed_Add #[(ix x2 0), v9] h10 fun v11 h12 =>
 vK (binV .i .add (ix x2 1) (.int .i64 1)) fun v13 =>
 again5 [v11, v13] h12) (
 R (ix x2 0) h4)
noncomputable def an_taps_Size : Ann := (.s .z (.s .z (.s (.s .z (.l 130856 [3, 8] (.s .z (.s (.s .z .z) (.s (.s .z .z) .z))))) (.s .z .z))))
theorem oc_taps_Size : okCode Tryz.f54.ntmps ((Tryz.f54.body).getD .skip) an_taps_Size = true := by kernel_rfl
theorem eq_taps_Size (a0 : Value) (h : Heap) (R : Value → Heap → Prop) : sh_taps_Size a0 h R = cFunc Tryz.prog ((Tryz.f54.body).getD .skip) an_taps_Size Tryz.f54.results.toList #[a0].toList h R := by kernel_rfl
theorem ok_taps_Size {a0 : Value} {h : Heap} {R : Value → Heap → Prop} (H : sh_taps_Size a0 h R) : FCall Tryz.prog F_taps_Size #[a0] h R :=
  fcall_of (by kernel_rfl) (fn := Tryz.f54) (c := (Tryz.f54.body).getD .skip) (an := an_taps_Size) (by kernel_rfl) (by kernel_rfl) (by kernel_rfl) oc_taps_Size (by kernel_rfl) (Eq.mp (eq_taps_Size a0 h R) H)

/-! ### smalto|expo.Gauss: function 55 -/
def sh_expo_Gauss (a0 a1 : Value) (h : Heap) (R : Value → Heap → Prop) : Prop :=
 FCall Tryz.prog F_expo_Ratio #[a0, a1] h fun v1 h2 =>
 FCall Tryz.prog F_expo_Exp #[v1] h2 fun v3 h4 =>
 FCall Tryz.prog F_fixed_Shift #[v3, (.int .i64 10)] h4 fun v5 h6 =>
 R v5 h6
noncomputable def an_expo_Gauss : Ann := (.s .z (.s .z .z))
theorem oc_expo_Gauss : okCode Tryz.f55.ntmps ((Tryz.f55.body).getD .skip) an_expo_Gauss = true := by kernel_rfl
theorem eq_expo_Gauss (a0 a1 : Value) (h : Heap) (R : Value → Heap → Prop) : sh_expo_Gauss a0 a1 h R = cFunc Tryz.prog ((Tryz.f55.body).getD .skip) an_expo_Gauss Tryz.f55.results.toList #[a0, a1].toList h R := by kernel_rfl
theorem ok_expo_Gauss {a0 a1 : Value} {h : Heap} {R : Value → Heap → Prop} (H : sh_expo_Gauss a0 a1 h R) : FCall Tryz.prog F_expo_Gauss #[a0, a1] h R :=
  fcall_of (by kernel_rfl) (fn := Tryz.f55) (c := (Tryz.f55.body).getD .skip) (an := an_expo_Gauss) (by kernel_rfl) (by kernel_rfl) (by kernel_rfl) oc_expo_Gauss (by kernel_rfl) (Eq.mp (eq_expo_Gauss a0 a1 h R) H)

end Go.Proofs.YtefdokfnnokagaaGreatDoor
