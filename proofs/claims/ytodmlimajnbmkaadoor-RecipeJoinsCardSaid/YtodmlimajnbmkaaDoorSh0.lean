/- What the functions of the program do, read over the heap alone, each tied to the model (written by a program of this session, shal.py). Conditions: none. -/
import Derived.Test.YtodmlimajnbmkaaDoorEb
import Derived.Test.YtodmlimajnbmkaaDoorProg
set_option linter.unusedVariables false
set_option maxRecDepth 100000
namespace Go.Proofs.YtodmlimajnbmkaaDoor
open Go Go.Crisp
abbrev F_law13_RecipeSigns : FuncId := 3
abbrev F_law13_RecipeJoins : FuncId := 4
abbrev F_law13_RecipeParses : FuncId := 5
abbrev F_law13_RecipePrints : FuncId := 6
abbrev F_law13_Lives : FuncId := 7
abbrev F_ref13_Sign : FuncId := 8
abbrev F_recipe_Sign : FuncId := 9
abbrev F_law13_few : FuncId := 10
abbrev F_recipe_Print : FuncId := 11
abbrev F_recipe_Parse : FuncId := 12
abbrev F_ref13_Parse : FuncId := 13
abbrev F_law13_Same : FuncId := 14
abbrev F_ref13_Word : FuncId := 15
abbrev F_law12_Ref : FuncId := 16
abbrev F_recipe_Word : FuncId := 17
abbrev F_recipe_Clean : FuncId := 18
abbrev F_ref13_Clean : FuncId := 19
abbrev F_strings_Join : FuncId := 20
abbrev F_ref13_cut : FuncId := 23
abbrev F_ref13_One : FuncId := 24
abbrev F_ref06_Same : FuncId := 25
abbrev F_ref13_border : FuncId := 26
abbrev F_ref13_decimal : FuncId := 27
abbrev F_ref13_list : FuncId := 28
abbrev F_ref13_times : FuncId := 29
abbrev F_ref13_filter : FuncId := 30
abbrev F_border_Name : FuncId := 31
abbrev F_raw_Name : FuncId := 32
abbrev F_strconv_FormatInt : FuncId := 33
abbrev F_strconv_Itoa : FuncId := 34
abbrev F_recipe_numbers : FuncId := 35
abbrev F_slices_Clone_sl_int64_int64 : FuncId := 36
abbrev F_strings_Builder_Grow : FuncId := 37
abbrev F_strings_Builder_WriteString : FuncId := 38
abbrev F_strings_Builder_String : FuncId := 39
abbrev F_ref13_number : FuncId := 48
abbrev F_ref13_numbers : FuncId := 49
abbrev F_ref10_Decimal : FuncId := 50
abbrev F_internal_strconv_FormatInt : FuncId := 51
abbrev F_internal_strconv_Itoa : FuncId := 52
abbrev F_strings_Builder_copyCheck : FuncId := 53
abbrev F_ref10_positive : FuncId := 61
abbrev G_border_names : Nat := 0
abbrev G_raw_kinds : Nat := 1
abbrev G_unicode_utf8_first : Nat := 2
abbrev G_unicode_utf8_acceptRanges : Nat := 3
abbrev G_internal_strconv_uint64pow10 : Nat := 4
abbrev G_internal_bytealg_MaxLen : Nat := 5
abbrev G_strconv_ErrSyntax : Nat := 6
abbrev G_strconv_ErrRange : Nat := 7
abbrev G_math_bits_deBruijn32tab : Nat := 8
abbrev G_math_bits_deBruijn64tab : Nat := 9
theorem flat_ok : flatOkB Tryd.prog = true := by kernel_rfl
instance : FlatOk Tryd.prog := ⟨flat_ok⟩
/-! ### smalto|smaltolaw13.RecipeSigns: function 3 -/
def sh_law13_RecipeSigns (a0 : Value) (h : Heap) (R : Value → Heap → Prop) : Prop :=
 FCall Tryd.prog F_law13_Lives #[] h fun v1 h2 =>
 vK (unV .not v1) fun v3 =>
 iteK v3 (
 R (.bool false) h2) (
 FCall Tryd.prog F_ref13_Sign #[a0] h2 fun v4 h5 =>
 FCall Tryd.prog F_recipe_Sign #[a0] h5 fun v6 h7 =>
 vK (binV .s .eql v4 (.string ⟨#[]⟩)) fun v8 =>
 iteK v8 (
 vK (binV .i .eql v6 (.int .i32 0)) fun v9 =>
 R v9 h7) (
 vK (cvrsV v6) fun v10 =>
 vK (binV .s .eql v10 v4) fun v11 =>
 R v11 h7))
noncomputable def an_law13_RecipeSigns : Ann := (.s .z (.s (.s .z (.s (.s .z .z) .z)) (.s .z (.s .z (.s (.s .z (.s (.s .z .z) .z)) (.s .z .z))))))
theorem oc_law13_RecipeSigns : okCode Tryd.f3.ntmps ((Tryd.f3.body).getD .skip) an_law13_RecipeSigns = true := by kernel_rfl
theorem eq_law13_RecipeSigns (a0 : Value) (h : Heap) (R : Value → Heap → Prop) : sh_law13_RecipeSigns a0 h R = cFunc Tryd.prog ((Tryd.f3.body).getD .skip) an_law13_RecipeSigns Tryd.f3.results.toList #[a0].toList h R := by kernel_rfl
theorem ok_law13_RecipeSigns {a0 : Value} {h : Heap} {R : Value → Heap → Prop} (H : sh_law13_RecipeSigns a0 h R) : FCall Tryd.prog F_law13_RecipeSigns #[a0] h R :=
  fcall_of (by kernel_rfl) (fn := Tryd.f3) (c := (Tryd.f3.body).getD .skip) (an := an_law13_RecipeSigns) (by kernel_rfl) (by kernel_rfl) (by kernel_rfl) oc_law13_RecipeSigns (by kernel_rfl) (Eq.mp (eq_law13_RecipeSigns a0 h R) H)

/-! ### smalto|smaltolaw13.RecipeJoins: function 4 -/
def sh_law13_RecipeJoins (a0 a1 : Value) (h : Heap) (R : Value → Heap → Prop) : Prop :=
 FCall Tryd.prog F_law13_Lives #[] h fun v1 h2 =>
 vK (unV .not v1) fun v3 =>
 vK (gV v3 false (some a0)) fun v4 =>
 gK v3 false (fun k67 => FCall Tryd.prog F_law13_few #[v4] h2 k67) h2 fun v5 h6 =>
 vK (gV v3 false (unV .not v5)) fun v7 =>
 vK (pickV v3 (.bool true) v7) fun v8 =>
 vK (gV v8 false (some a1)) fun v9 =>
 gK v8 false (fun k66 => FCall Tryd.prog F_law13_few #[v9] h6 k66) h6 fun v10 h11 =>
 vK (gV v8 false (unV .not v10)) fun v12 =>
 vK (pickV v8 (.bool true) v12) fun v13 =>
 vK (gV v13 false (some a0)) fun v14 =>
 vK (gV v13 false (lenslV v14)) fun v15 =>
 vK (gV v13 false (some a1)) fun v16 =>
 vK (gV v13 false (lenslV v16)) fun v17 =>
 vK (gV v13 false (binV .i .add v15 v17)) fun v18 =>
 vK (gV v13 false (binV .i .gtr v18 (.int .i64 20))) fun v19 =>
 vK (pickV v13 (.bool true) v19) fun v20 =>
 iteK v20 (
 FCall Tryd.prog F_law13_Lives #[] h11 fun v21 h22 =>
 R v21 h22) (
 FCall Tryd.prog F_recipe_Print #[a0] h11 fun v23 h24 =>
 vK (extV v23 0) fun v25 =>
 vK (extV v23 1) fun v26 =>
 FCall Tryd.prog F_recipe_Print #[a1] h24 fun v27 h28 =>
 vK (extV v27 0) fun v29 =>
 vK (extV v27 1) fun v30 =>
 rowK #[] 43 0 [] h28 fun v31 h32 =>
 appK (.agg #[.int .i64 0, .int .i64 0, .int .i64 0, .int .i64 0, .slice none 0 0, .slice none 0 0, .int .i64 0, .int .i64 0, .int .i64 0]) 43 9 104 v31 a0 h32 fun v33 h34 =>
 appK (.agg #[.int .i64 0, .int .i64 0, .int .i64 0, .int .i64 0, .slice none 0 0, .slice none 0 0, .int .i64 0, .int .i64 0, .int .i64 0]) 43 9 104 v33 a1 h34 fun v35 h36 =>
 FCall Tryd.prog F_recipe_Print #[v35] h36 fun v37 h38 =>
 vK (extV v37 0) fun v39 =>
 vK (extV v37 1) fun v40 =>
 vK (binV .i .neq v26 (.int .i64 0)) fun v41 =>
 vK (gV v41 false (some v30)) fun v42 =>
 vK (gV v41 false (binV .i .neq v42 (.int .i64 0))) fun v43 =>
 vK (pickV v41 (.bool true) v43) fun v44 =>
 iteK v44 (
 vK (binV .i .eql v40 (.int .i64 6)) fun v45 =>
 vK (gV v45 true (some v39)) fun v46 =>
 vK (gV v45 true (binV .s .eql v46 (.string ⟨#[]⟩))) fun v47 =>
 vK (pickV v45 v47 (.bool false)) fun v48 =>
 R v48 h38) (
 vK (binV .s .add v25 (.string ⟨#[59]⟩)) fun v49 =>
 vK (binV .s .add v49 v29) fun v50 =>
 vK (binV .s .eql v25 (.string ⟨#[]⟩)) fun v51 =>
 vK (gV v51 false (some v29)) fun v52 =>
 vK (gV v51 false (binV .s .eql v52 (.string ⟨#[]⟩))) fun v53 =>
 vK (pickV v51 (.bool true) v53) fun v54 =>
 iteK v54 (
 vK (binV .s .add v25 v29) fun v55 =>
 vK (binV .i .eql v40 (.int .i64 0)) fun v56 =>
 vK (gV v56 true (some v39)) fun v57 =>
 vK (gV v56 true (some v55)) fun v58 =>
 vK (gV v56 true (binV .s .eql v57 v58)) fun v59 =>
 vK (pickV v56 v59 (.bool false)) fun v60 =>
 R v60 h38) (
 vK (binV .i .eql v40 (.int .i64 0)) fun v61 =>
 vK (gV v61 true (some v39)) fun v62 =>
 vK (gV v61 true (some v50)) fun v63 =>
 vK (gV v61 true (binV .s .eql v62 v63)) fun v64 =>
 vK (pickV v61 v64 (.bool false)) fun v65 =>
 R v65 h38)))
noncomputable def an_law13_RecipeJoins : Ann := (.s .z (.s (.s .z (.s (.s .z .z) .z)) (.s .z (.s .z (.s .z (.s (.s .z (.s (.s .z .z) .z)) (.s .z (.s (.s .z (.s .z .z)) (.s .z .z)))))))))
theorem oc_law13_RecipeJoins : okCode Tryd.f4.ntmps ((Tryd.f4.body).getD .skip) an_law13_RecipeJoins = true := by kernel_rfl
theorem eq_law13_RecipeJoins (a0 a1 : Value) (h : Heap) (R : Value → Heap → Prop) : sh_law13_RecipeJoins a0 a1 h R = cFunc Tryd.prog ((Tryd.f4.body).getD .skip) an_law13_RecipeJoins Tryd.f4.results.toList #[a0, a1].toList h R := by kernel_rfl
theorem ok_law13_RecipeJoins {a0 a1 : Value} {h : Heap} {R : Value → Heap → Prop} (H : sh_law13_RecipeJoins a0 a1 h R) : FCall Tryd.prog F_law13_RecipeJoins #[a0, a1] h R :=
  fcall_of (by kernel_rfl) (fn := Tryd.f4) (c := (Tryd.f4.body).getD .skip) (an := an_law13_RecipeJoins) (by kernel_rfl) (by kernel_rfl) (by kernel_rfl) oc_law13_RecipeJoins (by kernel_rfl) (Eq.mp (eq_law13_RecipeJoins a0 a1 h R) H)

/-! ### smalto|smaltolaw13.RecipeParses: function 5 -/
def sh_law13_RecipeParses (a0 : Value) (h : Heap) (R : Value → Heap → Prop) : Prop :=
 FCall Tryd.prog F_law13_Lives #[] h fun v1 h2 =>
 vK (unV .not v1) fun v3 =>
 vK (gV v3 false (some a0)) fun v4 =>
 vK (gV v3 false (lenstV v4)) fun v5 =>
 vK (gV v3 false (binV .i .gtr v5 (.int .i64 600))) fun v6 =>
 vK (pickV v3 (.bool true) v6) fun v7 =>
 iteK v7 (
 FCall Tryd.prog F_law13_Lives #[] h2 fun v8 h9 =>
 R v8 h9) (
 FCall Tryd.prog F_recipe_Parse #[a0] h2 fun v10 h11 =>
 vK (extV v10 0) fun v12 =>
 vK (extV v10 1) fun v13 =>
 vK (extV v10 2) fun v14 =>
 FCall Tryd.prog F_ref13_Parse #[a0] h11 fun v15 h16 =>
 vK (extV v15 0) fun v17 =>
 vK (extV v15 1) fun v18 =>
 vK (lenslV v12) fun v19 =>
 vK (lenslV v17) fun v20 =>
 vK (binV .i .neq v19 v20) fun v21 =>
 vK (gV v21 false (some v14)) fun v22 =>
 vK (gV v21 false (binV .i .eql v22 (.int .i64 0))) fun v23 =>
 vK (gV v21 false (some v18)) fun v24 =>
 vK (gV v21 false (binV .i .lss v24 (.int .i64 0))) fun v25 =>
 vK (gV v21 false (binV .b .neq v23 v25)) fun v26 =>
 vK (pickV v21 (.bool true) v26) fun v27 =>
 iteK v27 (
 R (.bool false) h16) (
 vK (lenslV v12) fun v28 =>
 loopK [(.int .i64 0)] h16 fun x29 j30 h31 again32 =>
 vK (binV .i .lss (ix x29 0) v28) fun v33 =>
 iteK v33 (
 drawK h31 fun S =>
 vK (idxV 9 v12 (ix x29 0)) fun v34 =>
 qK S (fun h31 => ldsV 9 h31 v34) fun v35 =>
 vK (idxV 9 v17 (ix x29 0)) fun v36 =>
 qK S (fun h31 => ldsV 9 h31 v36) fun v37 =>
 FCall Tryd.prog F_law13_Same #[v35, v37] h31 fun v38 h39 =>
 vK (unV .not v38) fun v40 =>
 iteK v40 (
 R (.bool false) h39) (
 vK (binV .i .add (ix x29 0) (.int .i64 1)) fun v41 =>
 again32 [v41] h39)) (
 vK (binV .i .neq v14 (.int .i64 0)) fun v42 =>
 iteK v42 (
 vK (binV .i .eql v14 (.int .i64 6)) fun v43 =>
 vK (gV v43 true (some v13)) fun v44 =>
 vK (gV v43 true (some v18)) fun v45 =>
 vK (gV v43 true (binV .i .eql v44 v45)) fun v46 =>
 vK (pickV v43 v46 (.bool false)) fun v47 =>
 R v47 h31) (
 FCall Tryd.prog F_recipe_Print #[v12] h31 fun v48 h49 =>
 vK (extV v48 0) fun v50 =>
 vK (extV v48 1) fun v51 =>
 vK (binV .i .eql v13 (.int .i64 0)) fun v52 =>
 vK (gV v52 true (some v51)) fun v53 =>
 vK (gV v52 true (binV .i .eql v53 (.int .i64 0))) fun v54 =>
 vK (pickV v52 v54 (.bool false)) fun v55 =>
 vK (gV v55 true (some v50)) fun v56 =>
 vK (gV v55 true (some a0)) fun v57 =>
 vK (gV v55 true (binV .s .eql v56 v57)) fun v58 =>
 vK (pickV v55 v58 (.bool false)) fun v59 =>
 R v59 h49))))
noncomputable def an_law13_RecipeParses : Ann := (.s .z (.s (.s .z (.s (.s .z .z) .z)) (.s .z (.s .z (.s (.s .z (.s (.s .z .z) .z)) (.s (.s .z (.l 288212783965667588 [44] (.s .z (.s (.s .z .z) (.s (.s .z (.s (.d [(0, .r), (1, .r), (2, .r), (3, .r), (4, .r), (5, .r), (6, .r), (7, .r), (8, .n), (9, .r)]) (.s (.s .z .z) .z))) .z))))) (.s (.s .z (.s (.s .z .z) .z)) (.s .z (.s .z .z)))))))))
theorem oc_law13_RecipeParses : okCode Tryd.f5.ntmps ((Tryd.f5.body).getD .skip) an_law13_RecipeParses = true := by kernel_rfl
theorem eq_law13_RecipeParses (a0 : Value) (h : Heap) (R : Value → Heap → Prop) : sh_law13_RecipeParses a0 h R = cFunc Tryd.prog ((Tryd.f5.body).getD .skip) an_law13_RecipeParses Tryd.f5.results.toList #[a0].toList h R := by kernel_rfl
theorem ok_law13_RecipeParses {a0 : Value} {h : Heap} {R : Value → Heap → Prop} (H : sh_law13_RecipeParses a0 h R) : FCall Tryd.prog F_law13_RecipeParses #[a0] h R :=
  fcall_of (by kernel_rfl) (fn := Tryd.f5) (c := (Tryd.f5.body).getD .skip) (an := an_law13_RecipeParses) (by kernel_rfl) (by kernel_rfl) (by kernel_rfl) oc_law13_RecipeParses (by kernel_rfl) (Eq.mp (eq_law13_RecipeParses a0 h R) H)

/-! ### smalto|smaltolaw13.RecipePrints: function 6 -/
def sh_law13_RecipePrints (a0 : Value) (h : Heap) (R : Value → Heap → Prop) : Prop :=
 FCall Tryd.prog F_law13_Lives #[] h fun v1 h2 =>
 vK (unV .not v1) fun v3 =>
 vK (gV v3 false (some a0)) fun v4 =>
 gK v3 false (fun k120 => FCall Tryd.prog F_law13_few #[v4] h2 k120) h2 fun v5 h6 =>
 vK (gV v3 false (unV .not v5)) fun v7 =>
 vK (pickV v3 (.bool true) v7) fun v8 =>
 iteK v8 (
 FCall Tryd.prog F_law13_Lives #[] h6 fun v9 h10 =>
 R v9 h10) (
 vK (lenslV a0) fun v11 =>
 loopK [(.string ⟨#[]⟩), (.bool true), (.int .i64 0)] h6 fun x12 j13 h14 again15 =>
 vK (binV .i .lss (ix x12 2) v11) fun v16 =>
 iteK v16 (
 vK (idxV 9 a0 (ix x12 2)) fun v17 =>
 vK (ldsV 9 h14 v17) fun v18 =>
 newK #[(.int .i64 0), (.int .i64 0), (.int .i64 0), (.int .i64 0), (.slice none 0 0), (.slice none 0 0), (.int .i64 0), (.int .i64 0), (.int .i64 0)] 43 h14 fun v19 h20 =>
 stK 9 v19 v18 h20 fun v21 h22 =>
 vK (ldsV 9 h22 v19) fun v23 =>
 FCall Tryd.prog F_law12_Ref #[v23] h22 fun v24 h25 =>
 FCall Tryd.prog F_ref13_Word #[v24] h25 fun v26 h27 =>
 vK (extV v26 0) fun v28 =>
 vK (extV v26 1) fun v29 =>
 vK (ldsV 9 h27 v19) fun v30 =>
 FCall Tryd.prog F_recipe_Word #[v30] h27 fun v31 h32 =>
 vK (extV v31 0) fun v33 =>
 vK (extV v31 1) fun v34 =>
 drawK h32 fun S =>
 vK (binV .i .eql v34 (.int .i64 0)) fun v35 =>
 vK (binV .b .neq v35 v29) fun v36 =>
 vK (gV v36 false (some v33)) fun v37 =>
 vK (gV v36 false (some v28)) fun v38 =>
 vK (gV v36 false (binV .s .neq v37 v38)) fun v39 =>
 vK (pickV v36 (.bool true) v39) fun v40 =>
 vK (gV v40 false (some v29)) fun v41 =>
 vK (gV v40 false (unV .not v41)) fun v42 =>
 vK (gV v40 false (some v42)) fun v43 =>
 vK (gV v43 true (some v34)) fun v44 =>
 vK (gV v43 true (binV .i .neq v44 (.int .i64 6))) fun v45 =>
 vK (gV v40 false (pickV v43 v45 (.bool false))) fun v46 =>
 vK (pickV v40 (.bool true) v46) fun v47 =>
 qK S (fun h32 => gV v47 false (ldsV 9 h32 v19)) fun v48 =>
 qK S (fun h32 => gV v47 false (ldsV 9 h32 v19)) fun v49 =>
 gK v47 false (fun k71 => FCall Tryd.prog F_recipe_Clean #[v48] h32 k71) h32 fun v50 h51 =>
 S h51 ∧ (gK v47 false (fun k70 => FCall Tryd.prog F_law12_Ref #[v49] h51 k70) h51 fun v52 h53 =>
 gK v47 false (fun k69 => FCall Tryd.prog F_ref13_Clean #[v52] h53 k69) h53 fun v54 h55 =>
 gK v47 false (fun k68 => FCall Tryd.prog F_law13_Same #[v50, v54] h55 k68) h55 fun v56 h57 =>
 vK (gV v47 false (unV .not v56)) fun v58 =>
 vK (pickV v47 (.bool true) v58) fun v59 =>
 iteK v59 (
 R (.bool false) h57) (
 vK (gV (ix x12 1) true (some v29)) fun v60 =>
 vK (pickV (ix x12 1) v60 (.bool false)) fun v61 =>
 vK (binV .i .gtr (ix x12 2) (.int .i64 0)) fun v62 =>
 iteK v62 (
 vK (binV .s .add (ix x12 0) (.string ⟨#[59]⟩)) fun v63 =>
 vK (binV .s .add v63 v28) fun v64 =>
 vK (binV .i .add (ix x12 2) (.int .i64 1)) fun v65 =>
 again15 [v64, v61, v65] h57) (
 vK (binV .s .add (ix x12 0) v28) fun v66 =>
 vK (binV .i .add (ix x12 2) (.int .i64 1)) fun v67 =>
 again15 [v66, v61, v67] h57)))) (
 FCall Tryd.prog F_recipe_Print #[a0] h14 fun v72 h73 =>
 vK (extV v72 0) fun v74 =>
 vK (extV v72 1) fun v75 =>
 vK (unV .not (ix x12 1)) fun v76 =>
 iteK v76 (
 vK (binV .s .eql v74 (.string ⟨#[]⟩)) fun v77 =>
 vK (gV v77 true (some v75)) fun v78 =>
 vK (gV v77 true (binV .i .eql v78 (.int .i64 6))) fun v79 =>
 vK (pickV v77 v79 (.bool false)) fun v80 =>
 R v80 h73) (
 FCall Tryd.prog F_recipe_Parse #[v74] h73 fun v81 h82 =>
 vK (extV v81 0) fun v83 =>
 vK (extV v81 1) fun v84 =>
 vK (extV v81 2) fun v85 =>
 vK (binV .s .neq v74 (ix x12 0)) fun v86 =>
 vK (gV v86 false (some v75)) fun v87 =>
 vK (gV v86 false (binV .i .neq v87 (.int .i64 0))) fun v88 =>
 vK (pickV v86 (.bool true) v88) fun v89 =>
 vK (gV v89 false (some v85)) fun v90 =>
 vK (gV v89 false (binV .i .neq v90 (.int .i64 0))) fun v91 =>
 vK (pickV v89 (.bool true) v91) fun v92 =>
 vK (gV v92 false (some v84)) fun v93 =>
 vK (gV v92 false (binV .i .neq v93 (.int .i64 0))) fun v94 =>
 vK (pickV v92 (.bool true) v94) fun v95 =>
 vK (gV v95 false (some v83)) fun v96 =>
 vK (gV v95 false (lenslV v96)) fun v97 =>
 vK (gV v95 false (some a0)) fun v98 =>
 vK (gV v95 false (lenslV v98)) fun v99 =>
 vK (gV v95 false (binV .i .neq v97 v99)) fun v100 =>
 vK (pickV v95 (.bool true) v100) fun v101 =>
 iteK v101 (
 R (.bool false) h82) (
 vK (lenslV v83) fun v102 =>
 loopK [(.int .i64 0)] h82 fun x103 j104 h105 again106 =>
 vK (binV .i .lss (ix x103 0) v102) fun v107 =>
 iteK v107 (
 drawK h105 fun S =>
 vK (idxV 9 v83 (ix x103 0)) fun v108 =>
 qK S (fun h105 => ldsV 9 h105 v108) fun v109 =>
 vK (idxV 9 a0 (ix x103 0)) fun v110 =>
 qK S (fun h105 => ldsV 9 h105 v110) fun v111 =>
 FCall Tryd.prog F_law12_Ref #[v111] h105 fun v112 h113 =>
 S h113 ∧ (FCall Tryd.prog F_ref13_Clean #[v112] h113 fun v114 h115 =>
 S h115 ∧ (FCall Tryd.prog F_law13_Same #[v109, v114] h115 fun v116 h117 =>
 vK (unV .not v116) fun v118 =>
 iteK v118 (
 R (.bool false) h117) (
 vK (binV .i .add (ix x103 0) (.int .i64 1)) fun v119 =>
 again106 [v119] h117)))) (
 R (.bool true) h105)))))
noncomputable def an_law13_RecipePrints : Ann := (.s .z (.s (.s .z (.s (.s .z .z) .z)) (.s .z (.s (.s .z (.l 2417851639229258215196668 [3, 4, 27] (.s .z (.s (.s .z .z) (.s (.s .z (.s .z (.s .z (.s (.s (.d [(0, .r), (1, .r), (2, .r), (3, .r), (4, .r), (5, .r), (6, .r), (7, .r), (8, .r), (9, .r), (10, .r), (11, .r), (12, .r), (13, .r), (14, .r), (15, .r), (16, .r), (17, .r), (18, .r), (20, .r), (19, .e), (21, .n), (22, .n), (23, .n), (24, .r), (25, .r)]) (.s (.s .z .z) .z)) (.s .z (.s (.s .z (.s .z .z)) .z)))))) .z))))) (.s .z (.s (.s .z (.s (.s .z .z) .z)) (.s .z (.s (.s .z (.s (.s .z .z) .z)) (.s (.s .z (.l 1393775307260231387692015931127558108676100 [124] (.s .z (.s (.s .z .z) (.s (.s .z (.s (.d [(0, .r), (1, .r), (2, .r), (3, .r), (4, .r), (5, .r), (6, .r), (7, .r), (8, .e), (9, .e), (10, .n), (11, .r)]) (.s (.s .z .z) .z))) .z))))) (.s .z .z))))))))))
theorem oc_law13_RecipePrints : okCode Tryd.f6.ntmps ((Tryd.f6.body).getD .skip) an_law13_RecipePrints = true := by kernel_rfl
theorem eq_law13_RecipePrints (a0 : Value) (h : Heap) (R : Value → Heap → Prop) : sh_law13_RecipePrints a0 h R = cFunc Tryd.prog ((Tryd.f6.body).getD .skip) an_law13_RecipePrints Tryd.f6.results.toList #[a0].toList h R := by kernel_rfl
theorem ok_law13_RecipePrints {a0 : Value} {h : Heap} {R : Value → Heap → Prop} (H : sh_law13_RecipePrints a0 h R) : FCall Tryd.prog F_law13_RecipePrints #[a0] h R :=
  fcall_of (by kernel_rfl) (fn := Tryd.f6) (c := (Tryd.f6.body).getD .skip) (an := an_law13_RecipePrints) (by kernel_rfl) (by kernel_rfl) (by kernel_rfl) oc_law13_RecipePrints (by kernel_rfl) (Eq.mp (eq_law13_RecipePrints a0 h R) H)

/-! ### smalto|smaltolaw13.Lives: function 7 -/
def sh_law13_Lives (h : Heap) (R : Value → Heap → Prop) : Prop :=
 rowK #[(.int .i64 0), (.int .i64 0), (.int .i64 0)] 2 3 [(0, 1, (.int .i64 1)), (1, 1, (.int .i64 2)), (2, 1, (.int .i64 1))] h fun v1 h2 =>
 rowK #[(.int .i64 0)] 2 1 [(0, 1, (.int .i64 1))] h2 fun v3 h4 =>
 vK ((fillL #[(.int .i64 0), (.int .i64 0), (.int .i64 0), (.int .i64 0), (.slice none 0 0), (.slice none 0 0), (.int .i64 0), (.int .i64 0), (.int .i64 0)] [(0, 1, (.int .i64 2)), (4, 1, v1), (5, 1, v3), (1, 1, (.int .i64 2))]).map .agg) fun v5 =>
 FCall Tryd.prog F_recipe_Word #[v5] h4 fun v6 h7 =>
 vK (extV v6 0) fun v8 =>
 vK (extV v6 1) fun v9 =>
 vK (binV .i .eql v9 (.int .i64 0)) fun v10 =>
 vK (gV v10 true (some v8)) fun v11 =>
 vK (gV v10 true (binV .s .eql v11 (.string ⟨#[226, 138, 151, 49, 44, 50, 44, 49, 195, 151, 49, 124, 119, 114, 97, 112]⟩))) fun v12 =>
 vK (pickV v10 v12 (.bool false)) fun v13 =>
 R v13 h7
noncomputable def an_law13_Lives : Ann := (.s .z (.s .z (.s .z .z)))
theorem oc_law13_Lives : okCode Tryd.f7.ntmps ((Tryd.f7.body).getD .skip) an_law13_Lives = true := by kernel_rfl
theorem eq_law13_Lives (h : Heap) (R : Value → Heap → Prop) : sh_law13_Lives h R = cFunc Tryd.prog ((Tryd.f7.body).getD .skip) an_law13_Lives Tryd.f7.results.toList #[].toList h R := by kernel_rfl
theorem ok_law13_Lives {h : Heap} {R : Value → Heap → Prop} (H : sh_law13_Lives h R) : FCall Tryd.prog F_law13_Lives #[] h R :=
  fcall_of (by kernel_rfl) (fn := Tryd.f7) (c := (Tryd.f7.body).getD .skip) (an := an_law13_Lives) (by kernel_rfl) (by kernel_rfl) (by kernel_rfl) oc_law13_Lives (by kernel_rfl) (Eq.mp (eq_law13_Lives h R) H)

/-! ### smalto|smaltoref13.Sign: function 8 -/
def sh_ref13_Sign (a0 : Value) (h : Heap) (R : Value → Heap → Prop) : Prop :=
 vK (binV .i .eql a0 (.int .i64 0)) fun v1 =>
 iteK v1 (
 R (.string ⟨#[207, 131]⟩) h) (
 vK (binV .i .eql a0 (.int .i64 1)) fun v2 =>
 iteK v2 (
 R (.string ⟨#[226, 150, 161]⟩) h) (
 vK (binV .i .eql a0 (.int .i64 2)) fun v3 =>
 iteK v3 (
 R (.string ⟨#[226, 138, 151]⟩) h) (
 vK (binV .i .eql a0 (.int .i64 3)) fun v4 =>
 iteK v4 (
 R (.string ⟨#[226, 134, 148]⟩) h) (
 R (.string ⟨#[]⟩) h))))
noncomputable def an_ref13_Sign : Ann := (.s .z (.s (.s .z (.s .z (.s (.s .z .z) (.s .z (.s (.s .z .z) (.s .z (.s (.s .z .z) (.s .z (.s (.s .z .z) .z))))))))) (.s .z .z)))
theorem oc_ref13_Sign : okCode Tryd.f8.ntmps ((Tryd.f8.body).getD .skip) an_ref13_Sign = true := by kernel_rfl
theorem eq_ref13_Sign (a0 : Value) (h : Heap) (R : Value → Heap → Prop) : sh_ref13_Sign a0 h R = cFunc Tryd.prog ((Tryd.f8.body).getD .skip) an_ref13_Sign Tryd.f8.results.toList #[a0].toList h R := by kernel_rfl
theorem ok_ref13_Sign {a0 : Value} {h : Heap} {R : Value → Heap → Prop} (H : sh_ref13_Sign a0 h R) : FCall Tryd.prog F_ref13_Sign #[a0] h R :=
  fcall_of (by kernel_rfl) (fn := Tryd.f8) (c := (Tryd.f8.body).getD .skip) (an := an_ref13_Sign) (by kernel_rfl) (by kernel_rfl) (by kernel_rfl) oc_ref13_Sign (by kernel_rfl) (Eq.mp (eq_ref13_Sign a0 h R) H)

/-! ### smalto|recipe.Sign: function 9 -/
def sh_recipe_Sign (a0 : Value) (h : Heap) (R : Value → Heap → Prop) : Prop :=
 rangeStrK (.string ⟨#[207, 131, 226, 150, 161, 226, 138, 151, 226, 134, 148]⟩) h fun v1 h2 =>
 loopK [(.int .i64 0)] h2 fun x3 j4 h5 again6 =>
 nextStrK v1 h5 fun v7 h8 =>
 vK (extV v7 0) fun v9 =>
 iteK v9 (
 vK (extV v7 2) fun v10 =>
 vK (binV .i .eql (ix x3 0) a0) fun v11 =>
 iteK v11 (
 R v10 h8) (
 vK (binV .i .add (ix x3 0) (.int .i64 1)) fun v12 =>
 again6 [v12] h8)) (
 R (.int .i32 0) h8)
noncomputable def an_recipe_Sign : Ann := (.s .z (.s .z (.s (.s .z (.l 65452 [3] (.s .z (.s (.s .z .z) (.s .z (.s (.s .z (.s (.s .z .z) .z)) .z)))))) (.s .z .z))))
theorem oc_recipe_Sign : okCode Tryd.f9.ntmps ((Tryd.f9.body).getD .skip) an_recipe_Sign = true := by kernel_rfl
theorem eq_recipe_Sign (a0 : Value) (h : Heap) (R : Value → Heap → Prop) : sh_recipe_Sign a0 h R = cFunc Tryd.prog ((Tryd.f9.body).getD .skip) an_recipe_Sign Tryd.f9.results.toList #[a0].toList h R := by kernel_rfl
theorem ok_recipe_Sign {a0 : Value} {h : Heap} {R : Value → Heap → Prop} (H : sh_recipe_Sign a0 h R) : FCall Tryd.prog F_recipe_Sign #[a0] h R :=
  fcall_of (by kernel_rfl) (fn := Tryd.f9) (c := (Tryd.f9.body).getD .skip) (an := an_recipe_Sign) (by kernel_rfl) (by kernel_rfl) (by kernel_rfl) oc_recipe_Sign (by kernel_rfl) (Eq.mp (eq_recipe_Sign a0 h R) H)

/-! ### smalto|smaltolaw13.few: function 10 -/
def sh_law13_few (a0 : Value) (h : Heap) (R : Value → Heap → Prop) : Prop :=
 vK (lenslV a0) fun v1 =>
 loopK [(.int .i64 0)] h fun x2 j3 h4 again5 =>
 vK (binV .i .lss (ix x2 0) v1) fun v6 =>
 iteK v6 (
 vK (idxV 9 a0 (ix x2 0)) fun v7 =>
 vK (ldsV 9 h4 v7) fun v8 =>
 newK #[(.int .i64 0), (.int .i64 0), (.int .i64 0), (.int .i64 0), (.slice none 0 0), (.slice none 0 0), (.int .i64 0), (.int .i64 0), (.int .i64 0)] 43 h4 fun v9 h10 =>
 stK 9 v9 v8 h10 fun v11 h12 =>
 vK (fldV 4 v9) fun v13 =>
 vK (ldV h12 v13) fun v14 =>
 vK (lenslV v14) fun v15 =>
 vK (binV .i .gtr v15 (.int .i64 60)) fun v16 =>
 vK (gV v16 false (fldV 5 v9)) fun v17 =>
 vK (gV v16 false (ldV h12 v17)) fun v18 =>
 vK (gV v16 false (lenslV v18)) fun v19 =>
 vK (gV v16 false (binV .i .gtr v19 (.int .i64 60))) fun v20 =>
 vK (pickV v16 (.bool true) v20) fun v21 =>
 iteK v21 (
 R (.bool false) h12) (
 vK (binV .i .add (ix x2 0) (.int .i64 1)) fun v22 =>
 again5 [v22] h12)) (
 vK (lenslV a0) fun v23 =>
 vK (binV .i .leq v23 (.int .i64 20)) fun v24 =>
 R v24 h4)
noncomputable def an_law13_few : Ann := (.s .z (.s (.s .z (.l 4194196 [7] (.s .z (.s (.s .z .z) (.s (.s .z (.s .z (.s (.s .z .z) .z))) .z))))) (.s .z .z)))
theorem oc_law13_few : okCode Tryd.f10.ntmps ((Tryd.f10.body).getD .skip) an_law13_few = true := by kernel_rfl
theorem eq_law13_few (a0 : Value) (h : Heap) (R : Value → Heap → Prop) : sh_law13_few a0 h R = cFunc Tryd.prog ((Tryd.f10.body).getD .skip) an_law13_few Tryd.f10.results.toList #[a0].toList h R := by kernel_rfl
theorem ok_law13_few {a0 : Value} {h : Heap} {R : Value → Heap → Prop} (H : sh_law13_few a0 h R) : FCall Tryd.prog F_law13_few #[a0] h R :=
  fcall_of (by kernel_rfl) (fn := Tryd.f10) (c := (Tryd.f10.body).getD .skip) (an := an_law13_few) (by kernel_rfl) (by kernel_rfl) (by kernel_rfl) oc_law13_few (by kernel_rfl) (Eq.mp (eq_law13_few a0 h R) H)

/-! ### smalto|recipe.Print: function 11 -/
def sh_recipe_Print (a0 : Value) (h : Heap) (R : Value → Heap → Prop) : Prop :=
 vK (lenslV a0) fun v1 =>
 loopK [(.slice none 0 0), (.int .i64 0)] h fun x2 j3 h4 again5 =>
 vK (binV .i .lss (ix x2 1) v1) fun v6 =>
 iteK v6 (
 vK (idxV 9 a0 (ix x2 1)) fun v7 =>
 vK (ldsV 9 h4 v7) fun v8 =>
 newK #[(.int .i64 0), (.int .i64 0), (.int .i64 0), (.int .i64 0), (.slice none 0 0), (.slice none 0 0), (.int .i64 0), (.int .i64 0), (.int .i64 0)] 43 h4 fun v9 h10 =>
 stK 9 v9 v8 h10 fun v11 h12 =>
 vK (ldsV 9 h12 v9) fun v13 =>
 FCall Tryd.prog F_recipe_Word #[v13] h12 fun v14 h15 =>
 vK (extV v14 0) fun v16 =>
 vK (extV v14 1) fun v17 =>
 vK (binV .i .neq v17 (.int .i64 0)) fun v18 =>
 iteK v18 (
 R (.tuple #[(.string ⟨#[]⟩), v17]) h15) (
 rowK #[(.string ⟨#[]⟩)] 9 1 [(0, 1, v16)] h15 fun v19 h20 =>
 appK (.string ⟨#[]⟩) 9 1 16 (ix x2 0) v19 h20 fun v21 h22 =>
 vK (binV .i .add (ix x2 1) (.int .i64 1)) fun v23 =>
 again5 [v21, v23] h22)) (
 FCall Tryd.prog F_strings_Join #[(ix x2 0), (.string ⟨#[59]⟩)] h4 fun v24 h25 =>
 R (.tuple #[v24, (.int .i64 0)]) h25)
noncomputable def an_recipe_Print : Ann := (.s .z (.s .z (.s (.s .z (.l 268433884 [4, 11] (.s .z (.s (.s .z .z) (.s (.s .z (.s .z (.s (.s .z (.s (.s .z .z) .z)) .z))) .z))))) (.s .z .z))))
theorem oc_recipe_Print : okCode Tryd.f11.ntmps ((Tryd.f11.body).getD .skip) an_recipe_Print = true := by kernel_rfl
theorem eq_recipe_Print (a0 : Value) (h : Heap) (R : Value → Heap → Prop) : sh_recipe_Print a0 h R = cFunc Tryd.prog ((Tryd.f11.body).getD .skip) an_recipe_Print Tryd.f11.results.toList #[a0].toList h R := by kernel_rfl
theorem ok_recipe_Print {a0 : Value} {h : Heap} {R : Value → Heap → Prop} (H : sh_recipe_Print a0 h R) : FCall Tryd.prog F_recipe_Print #[a0] h R :=
  fcall_of (by kernel_rfl) (fn := Tryd.f11) (c := (Tryd.f11.body).getD .skip) (an := an_recipe_Print) (by kernel_rfl) (by kernel_rfl) (by kernel_rfl) oc_recipe_Print (by kernel_rfl) (Eq.mp (eq_recipe_Print a0 h R) H)

/-! ### smalto|smaltoref13.Parse: function 13 -/
def sh_ref13_Parse (a0 : Value) (h : Heap) (R : Value → Heap → Prop) : Prop :=
 vK (binV .s .eql a0 (.string ⟨#[]⟩)) fun v1 =>
 iteK v1 (
 R (.tuple #[(.slice none 0 0), (.int .i64 (-1))]) h) (
 loopK [a0, (.slice none 0 0)] h fun x2 j3 h4 again5 =>
 FCall Tryd.prog F_ref13_cut #[(ix x2 0), (.string ⟨#[59]⟩)] h4 fun v6 h7 =>
 vK (extV v6 0) fun v8 =>
 vK (extV v6 1) fun v9 =>
 vK (extV v6 2) fun v10 =>
 FCall Tryd.prog F_ref13_One #[v8] h7 fun v11 h12 =>
 vK (extV v11 0) fun v13 =>
 vK (extV v11 1) fun v14 =>
 newK #[(.int .i64 0), (.int .i64 0), (.int .i64 0), (.int .i64 0), (.slice none 0 0), (.slice none 0 0), (.int .i64 0), (.int .i64 0), (.int .i64 0)] 45 h12 fun v15 h16 =>
 stK 9 v15 v13 h16 fun v17 h18 =>
 vK (unV .not v14) fun v19 =>
 iteK v19 (
 vK (lenslV (ix x2 1)) fun v20 =>
 R (.tuple #[(ix x2 1), v20]) h18) (
 vK (ldsV 9 h18 v15) fun v21 =>
 rowK #[(.int .i64 0), (.int .i64 0), (.int .i64 0), (.int .i64 0), (.slice none 0 0), (.slice none 0 0), (.int .i64 0), (.int .i64 0), (.int .i64 0)] 45 1 [(0, 9, v21)] h18 fun v22 h23 =>
 appK (.agg #[.int .i64 0, .int .i64 0, .int .i64 0, .int .i64 0, .slice none 0 0, .slice none 0 0, .int .i64 0, .int .i64 0, .int .i64 0]) 45 9 104 (ix x2 1) v22 h23 fun v24 h25 =>
 vK (unV .not v10) fun v26 =>
 iteK v26 (
 R (.tuple #[v24, (.int .i64 (-1))]) h25) (
 again5 [v9, v24] h25)))
noncomputable def an_ref13_Parse : Ann := (.s .z (.s .z (.s (.s .z (.s (.s .z .z) .z)) (.l 137438946301 [0, 4] (.s .z (.s .z (.s (.s .z (.s (.s .z .z) .z)) (.s .z (.s (.s .z (.s (.s .z .z) .z)) .z)))))))))
theorem oc_ref13_Parse : okCode Tryd.f13.ntmps ((Tryd.f13.body).getD .skip) an_ref13_Parse = true := by kernel_rfl
theorem eq_ref13_Parse (a0 : Value) (h : Heap) (R : Value → Heap → Prop) : sh_ref13_Parse a0 h R = cFunc Tryd.prog ((Tryd.f13.body).getD .skip) an_ref13_Parse Tryd.f13.results.toList #[a0].toList h R := by kernel_rfl
theorem ok_ref13_Parse {a0 : Value} {h : Heap} {R : Value → Heap → Prop} (H : sh_ref13_Parse a0 h R) : FCall Tryd.prog F_ref13_Parse #[a0] h R :=
  fcall_of (by kernel_rfl) (fn := Tryd.f13) (c := (Tryd.f13.body).getD .skip) (an := an_ref13_Parse) (by kernel_rfl) (by kernel_rfl) (by kernel_rfl) oc_ref13_Parse (by kernel_rfl) (Eq.mp (eq_ref13_Parse a0 h R) H)

/-! ### smalto|smaltolaw13.Same: function 14 -/
def sh_law13_Same (a0 a1 : Value) (h : Heap) (R : Value → Heap → Prop) : Prop :=
 newK (Value.cells a0) 43 h fun v1 h2 =>
 newK (Value.cells a1) 45 h2 fun v3 h4 =>
 vK (fldV 0 v1) fun v5 =>
 vK (ldV h4 v5) fun v6 =>
 vK (fldV 0 v3) fun v7 =>
 vK (ldV h4 v7) fun v8 =>
 vK (binV .i .eql v6 v8) fun v9 =>
 vK (gV v9 true (fldV 1 v1)) fun v10 =>
 vK (gV v9 true (ldV h4 v10)) fun v11 =>
 vK (gV v9 true (fldV 1 v3)) fun v12 =>
 vK (gV v9 true (ldV h4 v12)) fun v13 =>
 vK (gV v9 true (binV .i .eql v11 v13)) fun v14 =>
 vK (pickV v9 v14 (.bool false)) fun v15 =>
 vK (gV v15 true (fldV 2 v1)) fun v16 =>
 vK (gV v15 true (ldV h4 v16)) fun v17 =>
 vK (gV v15 true (fldV 2 v3)) fun v18 =>
 vK (gV v15 true (ldV h4 v18)) fun v19 =>
 vK (gV v15 true (binV .i .eql v17 v19)) fun v20 =>
 vK (pickV v15 v20 (.bool false)) fun v21 =>
 vK (gV v21 true (fldV 3 v1)) fun v22 =>
 vK (gV v21 true (ldV h4 v22)) fun v23 =>
 vK (gV v21 true (fldV 3 v3)) fun v24 =>
 vK (gV v21 true (ldV h4 v24)) fun v25 =>
 vK (gV v21 true (binV .i .eql v23 v25)) fun v26 =>
 vK (pickV v21 v26 (.bool false)) fun v27 =>
 vK (gV v27 true (fldV 6 v1)) fun v28 =>
 vK (gV v27 true (ldV h4 v28)) fun v29 =>
 vK (gV v27 true (fldV 6 v3)) fun v30 =>
 vK (gV v27 true (ldV h4 v30)) fun v31 =>
 vK (gV v27 true (binV .i .eql v29 v31)) fun v32 =>
 vK (pickV v27 v32 (.bool false)) fun v33 =>
 vK (gV v33 true (fldV 7 v1)) fun v34 =>
 vK (gV v33 true (ldV h4 v34)) fun v35 =>
 vK (gV v33 true (fldV 7 v3)) fun v36 =>
 vK (gV v33 true (ldV h4 v36)) fun v37 =>
 vK (gV v33 true (binV .i .eql v35 v37)) fun v38 =>
 vK (pickV v33 v38 (.bool false)) fun v39 =>
 vK (gV v39 true (fldV 8 v1)) fun v40 =>
 vK (gV v39 true (ldV h4 v40)) fun v41 =>
 vK (gV v39 true (fldV 8 v3)) fun v42 =>
 vK (gV v39 true (ldV h4 v42)) fun v43 =>
 vK (gV v39 true (binV .i .eql v41 v43)) fun v44 =>
 vK (pickV v39 v44 (.bool false)) fun v45 =>
 vK (gV v45 true (fldV 4 v1)) fun v46 =>
 vK (gV v45 true (ldV h4 v46)) fun v47 =>
 vK (gV v45 true (fldV 4 v3)) fun v48 =>
 vK (gV v45 true (ldV h4 v48)) fun v49 =>
 gK v45 true (fun k61 => FCall Tryd.prog F_ref06_Same #[v47, v49] h4 k61) h4 fun v50 h51 =>
 vK (pickV v45 v50 (.bool false)) fun v52 =>
 vK (gV v52 true (fldV 5 v1)) fun v53 =>
 vK (gV v52 true (ldV h51 v53)) fun v54 =>
 vK (gV v52 true (fldV 5 v3)) fun v55 =>
 vK (gV v52 true (ldV h51 v55)) fun v56 =>
 gK v52 true (fun k60 => FCall Tryd.prog F_ref06_Same #[v54, v56] h51 k60) h51 fun v57 h58 =>
 vK (pickV v52 v57 (.bool false)) fun v59 =>
 R v59 h58
noncomputable def an_law13_Same : Ann := (.s .z (.s .z .z))
theorem oc_law13_Same : okCode Tryd.f14.ntmps ((Tryd.f14.body).getD .skip) an_law13_Same = true := by kernel_rfl
theorem eq_law13_Same (a0 a1 : Value) (h : Heap) (R : Value → Heap → Prop) : sh_law13_Same a0 a1 h R = cFunc Tryd.prog ((Tryd.f14.body).getD .skip) an_law13_Same Tryd.f14.results.toList #[a0, a1].toList h R := by kernel_rfl
theorem ok_law13_Same {a0 a1 : Value} {h : Heap} {R : Value → Heap → Prop} (H : sh_law13_Same a0 a1 h R) : FCall Tryd.prog F_law13_Same #[a0, a1] h R :=
  fcall_of (by kernel_rfl) (fn := Tryd.f14) (c := (Tryd.f14.body).getD .skip) (an := an_law13_Same) (by kernel_rfl) (by kernel_rfl) (by kernel_rfl) oc_law13_Same (by kernel_rfl) (Eq.mp (eq_law13_Same a0 a1 h R) H)

/-! ### smalto|smaltoref13.Word: function 15 -/
def sh_ref13_Word (a0 : Value) (h : Heap) (R : Value → Heap → Prop) : Prop :=
 newK (Value.cells a0) 45 h fun v1 h2 =>
 vK (fldV 0 v1) fun v3 =>
 vK (ldV h2 v3) fun v4 =>
 FCall Tryd.prog F_ref13_Sign #[v4] h2 fun v5 h6 =>
 vK (binV .s .eql v5 (.string ⟨#[]⟩)) fun v7 =>
 vK (gV v7 false (fldV 1 v1)) fun v8 =>
 vK (gV v7 false (ldV h6 v8)) fun v9 =>
 gK v7 false (fun k78 => FCall Tryd.prog F_ref13_border #[v9] h6 k78) h6 fun v10 h11 =>
 vK (gV v7 false (binV .s .eql v10 (.string ⟨#[]⟩))) fun v12 =>
 vK (pickV v7 (.bool true) v12) fun v13 =>
 iteK v13 (
 R (.tuple #[(.string ⟨#[]⟩), (.bool false)]) h11) (
 vK (fldV 0 v1) fun v14 =>
 vK (ldV h11 v14) fun v15 =>
 joinK (fun J16 =>
 vK (binV .i .eql v15 (.int .i64 0)) fun v20 =>
 iteK v20 (
 vK (fldV 2 v1) fun v21 =>
 vK (ldV h11 v21) fun v22 =>
 FCall Tryd.prog F_ref13_decimal #[v22] h11 fun v23 h24 =>
 J16 [v23] h24) (
 vK (binV .i .eql v15 (.int .i64 1)) fun v25 =>
 iteK v25 (
 vK (fldV 3 v1) fun v26 =>
 vK (ldV h11 v26) fun v27 =>
 FCall Tryd.prog F_ref13_decimal #[v27] h11 fun v28 h29 =>
 J16 [v28] h29) (
 vK (binV .i .eql v15 (.int .i64 2)) fun v30 =>
 iteK v30 (
 drawK h11 fun S =>
 vK (fldV 4 v1) fun v31 =>
 qK S (fun h11 => ldV h11 v31) fun v32 =>
 vK (fldV 5 v1) fun v33 =>
 qK S (fun h11 => ldV h11 v33) fun v34 =>
 FCall Tryd.prog F_ref13_list #[v32] h11 fun v35 h36 =>
 S h36 ∧ (FCall Tryd.prog F_ref13_times #[] h36 fun v37 h38 =>
 S h38 ∧ (vK (binV .s .add v35 v37) fun v39 =>
 FCall Tryd.prog F_ref13_list #[v34] h38 fun v40 h41 =>
 S h41 ∧ (vK (binV .s .add v39 v40) fun v42 =>
 J16 [v42] h41)))) (
 vK (binV .i .eql v15 (.int .i64 3)) fun v43 =>
 iteK v43 (
 vK (fldV 6 v1) fun v44 =>
 vK (ldV h11 v44) fun v45 =>
 FCall Tryd.prog F_ref13_filter #[v45] h11 fun v46 h47 =>
 vK (binV .s .eql v46 (.string ⟨#[]⟩)) fun v48 =>
 iteK v48 (
 R (.tuple #[(.string ⟨#[]⟩), (.bool false)]) h47) (
 drawK h47 fun S =>
 vK (fldV 7 v1) fun v49 =>
 qK S (fun h47 => ldV h47 v49) fun v50 =>
 vK (fldV 8 v1) fun v51 =>
 qK S (fun h47 => ldV h47 v51) fun v52 =>
 vK (fldV 6 v1) fun v53 =>
 qK S (fun h47 => ldV h47 v53) fun v54 =>
 FCall Tryd.prog F_ref13_decimal #[v50] h47 fun v55 h56 =>
 S h56 ∧ (FCall Tryd.prog F_ref13_times #[] h56 fun v57 h58 =>
 S h58 ∧ (vK (binV .s .add v55 v57) fun v59 =>
 FCall Tryd.prog F_ref13_decimal #[v52] h58 fun v60 h61 =>
 S h61 ∧ (vK (binV .s .add v59 v60) fun v62 =>
 vK (binV .s .add v62 (.string ⟨#[44]⟩)) fun v63 =>
 FCall Tryd.prog F_ref13_filter #[v54] h61 fun v64 h65 =>
 S h65 ∧ (vK (binV .s .add v63 v64) fun v66 =>
 J16 [v66] h65)))))) (
 J16 [(.string ⟨#[]⟩)] h11)))))
 fun x17 j18 h19 =>
 drawK h19 fun S =>
 vK (fldV 0 v1) fun v67 =>
 qK S (fun h19 => ldV h19 v67) fun v68 =>
 vK (fldV 1 v1) fun v69 =>
 qK S (fun h19 => ldV h19 v69) fun v70 =>
 FCall Tryd.prog F_ref13_Sign #[v68] h19 fun v71 h72 =>
 S h72 ∧ (vK (binV .s .add v71 (ix x17 0)) fun v73 =>
 vK (binV .s .add v73 (.string ⟨#[124]⟩)) fun v74 =>
 FCall Tryd.prog F_ref13_border #[v70] h72 fun v75 h76 =>
 S h76 ∧ (vK (binV .s .add v74 v75) fun v77 =>
 R (.tuple #[v77, (.bool true)]) h76)))
noncomputable def an_ref13_Word : Ann := (.s .z (.s (.s .z (.s (.s .z .z) .z)) (.s .z (.s (.s .z (.m 288230376151580700 [4] (.s .z (.s .z (.s .z (.s .z (.s .z (.s (.d [(0, .r), (1, .r), (5, .r), (6, .r), (2, .e), (3, .e), (4, .r), (7, .e), (8, .r), (9, .r)]) (.s .z (.s (.s (.s .z (.s (.s .z .z) .z)) (.d [(0, .r), (1, .r), (5, .r), (6, .r), (10, .r), (11, .r), (2, .e), (3, .e), (4, .r), (7, .e), (8, .r), (9, .r), (12, .e), (13, .r), (14, .r)])) .z)))))))))) (.s (.d [(0, .r), (1, .r), (3, .r), (6, .r), (7, .r), (2, .e), (4, .r), (5, .r), (8, .e), (9, .r), (10, .r), (11, .r)]) .z)))))
theorem oc_ref13_Word : okCode Tryd.f15.ntmps ((Tryd.f15.body).getD .skip) an_ref13_Word = true := by kernel_rfl
theorem eq_ref13_Word (a0 : Value) (h : Heap) (R : Value → Heap → Prop) : sh_ref13_Word a0 h R = cFunc Tryd.prog ((Tryd.f15.body).getD .skip) an_ref13_Word Tryd.f15.results.toList #[a0].toList h R := by kernel_rfl
theorem ok_ref13_Word {a0 : Value} {h : Heap} {R : Value → Heap → Prop} (H : sh_ref13_Word a0 h R) : FCall Tryd.prog F_ref13_Word #[a0] h R :=
  fcall_of (by kernel_rfl) (fn := Tryd.f15) (c := (Tryd.f15.body).getD .skip) (an := an_ref13_Word) (by kernel_rfl) (by kernel_rfl) (by kernel_rfl) oc_ref13_Word (by kernel_rfl) (Eq.mp (eq_ref13_Word a0 h R) H)

/-! ### smalto|smaltolaw12.Ref: function 16 -/
def sh_law12_Ref (a0 : Value) (h : Heap) (R : Value → Heap → Prop) : Prop :=
 newK (Value.cells a0) 43 h fun v1 h2 =>
 newK #[(.int .i64 0), (.int .i64 0), (.int .i64 0), (.int .i64 0), (.slice none 0 0), (.slice none 0 0), (.int .i64 0), (.int .i64 0), (.int .i64 0)] 45 h2 fun v3 h4 =>
 vK (fldV 0 v1) fun v5 =>
 vK (ldV h4 v5) fun v6 =>
 vK (fldV 1 v1) fun v7 =>
 vK (ldV h4 v7) fun v8 =>
 vK (fldV 2 v1) fun v9 =>
 vK (ldV h4 v9) fun v10 =>
 vK (fldV 3 v1) fun v11 =>
 vK (ldV h4 v11) fun v12 =>
 vK (fldV 4 v1) fun v13 =>
 vK (ldV h4 v13) fun v14 =>
 vK (fldV 5 v1) fun v15 =>
 vK (ldV h4 v15) fun v16 =>
 vK (fldV 6 v1) fun v17 =>
 vK (ldV h4 v17) fun v18 =>
 vK (fldV 7 v1) fun v19 =>
 vK (ldV h4 v19) fun v20 =>
 vK (fldV 8 v1) fun v21 =>
 vK (ldV h4 v21) fun v22 =>
 vK ((fillL #[(.int .i64 0), (.int .i64 0), (.int .i64 0), (.int .i64 0), (.slice none 0 0), (.slice none 0 0), (.int .i64 0), (.int .i64 0), (.int .i64 0)] [(0, 1, v6), (1, 1, v8), (2, 1, v10), (3, 1, v12), (4, 1, v14), (5, 1, v16), (6, 1, v18), (7, 1, v20), (8, 1, v22)]).map .agg) fun v23 =>
 stK 9 v3 v23 h4 fun v24 h25 =>
 vK (ldsV 9 h25 v3) fun v26 =>
 R v26 h25
noncomputable def an_law12_Ref : Ann := (.s .z (.s .z .z))
theorem oc_law12_Ref : okCode Tryd.f16.ntmps ((Tryd.f16.body).getD .skip) an_law12_Ref = true := by kernel_rfl
theorem eq_law12_Ref (a0 : Value) (h : Heap) (R : Value → Heap → Prop) : sh_law12_Ref a0 h R = cFunc Tryd.prog ((Tryd.f16.body).getD .skip) an_law12_Ref Tryd.f16.results.toList #[a0].toList h R := by kernel_rfl
theorem ok_law12_Ref {a0 : Value} {h : Heap} {R : Value → Heap → Prop} (H : sh_law12_Ref a0 h R) : FCall Tryd.prog F_law12_Ref #[a0] h R :=
  fcall_of (by kernel_rfl) (fn := Tryd.f16) (c := (Tryd.f16.body).getD .skip) (an := an_law12_Ref) (by kernel_rfl) (by kernel_rfl) (by kernel_rfl) oc_law12_Ref (by kernel_rfl) (Eq.mp (eq_law12_Ref a0 h R) H)

/-! ### smalto|recipe.Word: function 17 -/
def sh_recipe_Word (a0 : Value) (h : Heap) (R : Value → Heap → Prop) : Prop :=
 newK (Value.cells a0) 43 h fun v1 h2 =>
 vK (fldV 1 v1) fun v3 =>
 vK (ldV h2 v3) fun v4 =>
 FCall Tryd.prog F_border_Name #[v4] h2 fun v5 h6 =>
 vK (fldV 0 v1) fun v7 =>
 vK (ldV h6 v7) fun v8 =>
 FCall Tryd.prog F_recipe_Sign #[v8] h6 fun v9 h10 =>
 vK (binV .i .eql v9 (.int .i32 0)) fun v11 =>
 vK (gV v11 false (some v5)) fun v12 =>
 vK (gV v11 false (binV .s .eql v12 (.string ⟨#[]⟩))) fun v13 =>
 vK (pickV v11 (.bool true) v13) fun v14 =>
 vK (gV v14 false (fldV 0 v1)) fun v15 =>
 vK (gV v14 false (ldV h10 v15)) fun v16 =>
 vK (gV v14 false (binV .i .eql v16 (.int .i64 3))) fun v17 =>
 vK (gV v14 false (some v17)) fun v18 =>
 vK (gV v18 true (fldV 6 v1)) fun v19 =>
 vK (gV v18 true (ldV h10 v19)) fun v20 =>
 gK v18 true (fun k78 => FCall Tryd.prog F_raw_Name #[v20] h10 k78) h10 fun v21 h22 =>
 vK (gV v18 true (binV .s .eql v21 (.string ⟨#[]⟩))) fun v23 =>
 vK (gV v14 false (pickV v18 v23 (.bool false))) fun v24 =>
 vK (pickV v14 (.bool true) v24) fun v25 =>
 iteK v25 (
 R (.tuple #[(.string ⟨#[]⟩), (.int .i64 6)]) h22) (
 vK (fldV 0 v1) fun v26 =>
 vK (ldV h22 v26) fun v27 =>
 joinK (fun J28 =>
 vK (binV .i .eql v27 (.int .i64 0)) fun v32 =>
 iteK v32 (
 vK (fldV 2 v1) fun v33 =>
 vK (ldV h22 v33) fun v34 =>
 FCall Tryd.prog F_strconv_FormatInt #[v34, (.int .i64 10)] h22 fun v35 h36 =>
 J28 [v35] h36) (
 vK (binV .i .eql v27 (.int .i64 1)) fun v37 =>
 iteK v37 (
 vK (fldV 3 v1) fun v38 =>
 vK (ldV h22 v38) fun v39 =>
 FCall Tryd.prog F_strconv_Itoa #[v39] h22 fun v40 h41 =>
 J28 [v40] h41) (
 vK (binV .i .eql v27 (.int .i64 2)) fun v42 =>
 iteK v42 (
 drawK h22 fun S =>
 vK (fldV 4 v1) fun v43 =>
 qK S (fun h22 => ldV h22 v43) fun v44 =>
 vK (fldV 5 v1) fun v45 =>
 qK S (fun h22 => ldV h22 v45) fun v46 =>
 FCall Tryd.prog F_recipe_numbers #[v44] h22 fun v47 h48 =>
 S h48 ∧ (vK (binV .s .add v47 (.string ⟨#[195, 151]⟩)) fun v49 =>
 FCall Tryd.prog F_recipe_numbers #[v46] h48 fun v50 h51 =>
 S h51 ∧ (vK (binV .s .add v49 v50) fun v52 =>
 J28 [v52] h51))) (
 vK (binV .i .eql v27 (.int .i64 3)) fun v53 =>
 iteK v53 (
 drawK h22 fun S =>
 vK (fldV 7 v1) fun v54 =>
 qK S (fun h22 => ldV h22 v54) fun v55 =>
 vK (fldV 8 v1) fun v56 =>
 qK S (fun h22 => ldV h22 v56) fun v57 =>
 vK (fldV 6 v1) fun v58 =>
 qK S (fun h22 => ldV h22 v58) fun v59 =>
 FCall Tryd.prog F_strconv_Itoa #[v55] h22 fun v60 h61 =>
 S h61 ∧ (vK (binV .s .add v60 (.string ⟨#[195, 151]⟩)) fun v62 =>
 FCall Tryd.prog F_strconv_Itoa #[v57] h61 fun v63 h64 =>
 S h64 ∧ (vK (binV .s .add v62 v63) fun v65 =>
 vK (binV .s .add v65 (.string ⟨#[44]⟩)) fun v66 =>
 FCall Tryd.prog F_raw_Name #[v59] h64 fun v67 h68 =>
 S h68 ∧ (vK (binV .s .add v66 v67) fun v69 =>
 J28 [v69] h68)))) (
 J28 [(.string ⟨#[]⟩)] h22)))))
 fun x29 j30 h31 =>
 vK (fldV 0 v1) fun v70 =>
 vK (ldV h31 v70) fun v71 =>
 FCall Tryd.prog F_recipe_Sign #[v71] h31 fun v72 h73 =>
 vK (cvrsV v72) fun v74 =>
 vK (binV .s .add v74 (ix x29 0)) fun v75 =>
 vK (binV .s .add v75 (.string ⟨#[124]⟩)) fun v76 =>
 vK (binV .s .add v76 v5) fun v77 =>
 R (.tuple #[v77, (.int .i64 0)]) h73)
noncomputable def an_recipe_Word : Ann := (.s .z (.s .z (.s (.s .z (.s (.s .z .z) .z)) (.s .z (.s (.s .z (.m 36893488146345361440 [5] (.s .z (.s .z (.s .z (.s .z (.s .z (.s (.d [(0, .r), (1, .r), (4, .r), (5, .r), (2, .e), (3, .r), (6, .e), (7, .r), (8, .r)]) (.s .z (.s (.d [(0, .r), (1, .r), (4, .r), (5, .r), (9, .r), (10, .r), (2, .e), (3, .r), (6, .e), (7, .r), (8, .r), (11, .e), (12, .r), (13, .r)]) .z)))))))))) (.s .z .z))))))
theorem oc_recipe_Word : okCode Tryd.f17.ntmps ((Tryd.f17.body).getD .skip) an_recipe_Word = true := by kernel_rfl
theorem eq_recipe_Word (a0 : Value) (h : Heap) (R : Value → Heap → Prop) : sh_recipe_Word a0 h R = cFunc Tryd.prog ((Tryd.f17.body).getD .skip) an_recipe_Word Tryd.f17.results.toList #[a0].toList h R := by kernel_rfl
theorem ok_recipe_Word {a0 : Value} {h : Heap} {R : Value → Heap → Prop} (H : sh_recipe_Word a0 h R) : FCall Tryd.prog F_recipe_Word #[a0] h R :=
  fcall_of (by kernel_rfl) (fn := Tryd.f17) (c := (Tryd.f17.body).getD .skip) (an := an_recipe_Word) (by kernel_rfl) (by kernel_rfl) (by kernel_rfl) oc_recipe_Word (by kernel_rfl) (Eq.mp (eq_recipe_Word a0 h R) H)

/-! ### smalto|recipe.Clean: function 18 -/
def sh_recipe_Clean (a0 : Value) (h : Heap) (R : Value → Heap → Prop) : Prop :=
 newK (Value.cells a0) 43 h fun v1 h2 =>
 newK #[(.int .i64 0), (.int .i64 0), (.int .i64 0), (.int .i64 0), (.slice none 0 0), (.slice none 0 0), (.int .i64 0), (.int .i64 0), (.int .i64 0)] 43 h2 fun v3 h4 =>
 vK (fldV 0 v1) fun v5 =>
 vK (ldV h4 v5) fun v6 =>
 vK (fldV 1 v1) fun v7 =>
 vK (ldV h4 v7) fun v8 =>
 vK ((fillL #[(.int .i64 0), (.int .i64 0), (.int .i64 0), (.int .i64 0), (.slice none 0 0), (.slice none 0 0), (.int .i64 0), (.int .i64 0), (.int .i64 0)] [(0, 1, v6), (1, 1, v8)]).map .agg) fun v9 =>
 newK #[(.int .i64 0), (.int .i64 0), (.int .i64 0), (.int .i64 0), (.slice none 0 0), (.slice none 0 0), (.int .i64 0), (.int .i64 0), (.int .i64 0)] 43 h4 fun v10 h11 =>
 stK 9 v10 v9 h11 fun v12 h13 =>
 vK (fldV 0 v1) fun v14 =>
 vK (ldV h13 v14) fun v15 =>
 vK (binV .i .eql v15 (.int .i64 0)) fun v16 =>
 iteK v16 (
 vK (fldV 2 v1) fun v17 =>
 vK (ldV h13 v17) fun v18 =>
 vK (fldV 2 v10) fun v19 =>
 stK 1 v19 v18 h13 fun v20 h21 =>
 vK (ldsV 9 h21 v10) fun v22 =>
 stK 9 v3 v22 h21 fun v23 h24 =>
 vK (ldsV 9 h24 v3) fun v25 =>
 R v25 h24) (
 vK (binV .i .eql v15 (.int .i64 1)) fun v26 =>
 iteK v26 (
 vK (fldV 3 v1) fun v27 =>
 vK (ldV h13 v27) fun v28 =>
 vK (fldV 3 v10) fun v29 =>
 stK 1 v29 v28 h13 fun v30 h31 =>
 vK (ldsV 9 h31 v10) fun v32 =>
 stK 9 v3 v32 h31 fun v33 h34 =>
 vK (ldsV 9 h34 v3) fun v35 =>
 R v35 h34) (
 vK (binV .i .eql v15 (.int .i64 2)) fun v36 =>
 iteK v36 (
 drawK h13 fun S =>
 vK (fldV 4 v1) fun v37 =>
 qK S (fun h13 => ldV h13 v37) fun v38 =>
 vK (fldV 5 v1) fun v39 =>
 qK S (fun h13 => ldV h13 v39) fun v40 =>
 FCall Tryd.prog F_slices_Clone_sl_int64_int64 #[v38] h13 fun v41 h42 =>
 S h42 ∧ (vK (fldV 4 v10) fun v43 =>
 FCall Tryd.prog F_slices_Clone_sl_int64_int64 #[v40] h42 fun v44 h45 =>
 S h45 ∧ (stK 1 v43 v41 h45 fun v46 h47 =>
 vK (fldV 5 v10) fun v48 =>
 stK 1 v48 v44 h47 fun v49 h50 =>
 vK (ldsV 9 h50 v10) fun v51 =>
 stK 9 v3 v51 h50 fun v52 h53 =>
 vK (ldsV 9 h53 v3) fun v54 =>
 R v54 h53))) (
 vK (binV .i .eql v15 (.int .i64 3)) fun v55 =>
 iteK v55 (
 drawK h13 fun S =>
 vK (fldV 7 v1) fun v56 =>
 qK S (fun h13 => ldV h13 v56) fun v57 =>
 vK (fldV 8 v1) fun v58 =>
 qK S (fun h13 => ldV h13 v58) fun v59 =>
 vK (fldV 6 v1) fun v60 =>
 qK S (fun h13 => ldV h13 v60) fun v61 =>
 vK (fldV 7 v10) fun v62 =>
 stK 1 v62 v57 h13 fun v63 h64 =>
 S h64 ∧ (vK (fldV 8 v10) fun v65 =>
 stK 1 v65 v59 h64 fun v66 h67 =>
 S h67 ∧ (vK (fldV 6 v10) fun v68 =>
 stK 1 v68 v61 h67 fun v69 h70 =>
 vK (ldsV 9 h70 v10) fun v71 =>
 stK 9 v3 v71 h70 fun v72 h73 =>
 vK (ldsV 9 h73 v3) fun v74 =>
 R v74 h73))) (
 vK (ldsV 9 h13 v10) fun v75 =>
 stK 9 v3 v75 h13 fun v76 h77 =>
 vK (ldsV 9 h77 v3) fun v78 =>
 R v78 h77))))
noncomputable def an_recipe_Clean : Ann := (.s .z (.s .z (.s (.s .z (.s .z (.s .z (.s .z (.s .z (.s .z (.s (.d [(0, .r), (1, .r), (3, .r), (4, .r), (2, .e), (6, .r), (5, .e), (7, .n), (8, .r), (9, .n)]) (.s .z (.s (.d [(0, .r), (1, .r), (2, .r), (3, .r), (4, .r), (5, .r), (6, .r), (7, .e), (8, .r), (9, .e), (10, .r), (11, .n)]) .z))))))))) (.s .z .z))))
theorem oc_recipe_Clean : okCode Tryd.f18.ntmps ((Tryd.f18.body).getD .skip) an_recipe_Clean = true := by kernel_rfl
theorem eq_recipe_Clean (a0 : Value) (h : Heap) (R : Value → Heap → Prop) : sh_recipe_Clean a0 h R = cFunc Tryd.prog ((Tryd.f18.body).getD .skip) an_recipe_Clean Tryd.f18.results.toList #[a0].toList h R := by kernel_rfl
theorem ok_recipe_Clean {a0 : Value} {h : Heap} {R : Value → Heap → Prop} (H : sh_recipe_Clean a0 h R) : FCall Tryd.prog F_recipe_Clean #[a0] h R :=
  fcall_of (by kernel_rfl) (fn := Tryd.f18) (c := (Tryd.f18.body).getD .skip) (an := an_recipe_Clean) (by kernel_rfl) (by kernel_rfl) (by kernel_rfl) oc_recipe_Clean (by kernel_rfl) (Eq.mp (eq_recipe_Clean a0 h R) H)

/-! ### smalto|smaltoref13.Clean: function 19 -/
def sh_ref13_Clean (a0 : Value) (h : Heap) (R : Value → Heap → Prop) : Prop :=
 newK (Value.cells a0) 45 h fun v1 h2 =>
 newK #[(.int .i64 0), (.int .i64 0), (.int .i64 0), (.int .i64 0), (.slice none 0 0), (.slice none 0 0), (.int .i64 0), (.int .i64 0), (.int .i64 0)] 45 h2 fun v3 h4 =>
 vK (fldV 0 v1) fun v5 =>
 vK (ldV h4 v5) fun v6 =>
 vK (fldV 1 v1) fun v7 =>
 vK (ldV h4 v7) fun v8 =>
 vK ((fillL #[(.int .i64 0), (.int .i64 0), (.int .i64 0), (.int .i64 0), (.slice none 0 0), (.slice none 0 0), (.int .i64 0), (.int .i64 0), (.int .i64 0)] [(0, 1, v6), (1, 1, v8)]).map .agg) fun v9 =>
 newK #[(.int .i64 0), (.int .i64 0), (.int .i64 0), (.int .i64 0), (.slice none 0 0), (.slice none 0 0), (.int .i64 0), (.int .i64 0), (.int .i64 0)] 45 h4 fun v10 h11 =>
 stK 9 v10 v9 h11 fun v12 h13 =>
 joinK (fun J14 =>
 vK (fldV 0 v1) fun v18 =>
 vK (ldV h13 v18) fun v19 =>
 vK (binV .i .eql v19 (.int .i64 0)) fun v20 =>
 iteK v20 (
 vK (fldV 2 v1) fun v21 =>
 vK (ldV h13 v21) fun v22 =>
 vK (fldV 2 v10) fun v23 =>
 stK 1 v23 v22 h13 fun v24 h25 =>
 J14 [] h25) (
 J14 [] h13))
 fun x15 j16 h17 =>
 joinK (fun J26 =>
 vK (fldV 0 v1) fun v30 =>
 vK (ldV h17 v30) fun v31 =>
 vK (binV .i .eql v31 (.int .i64 1)) fun v32 =>
 iteK v32 (
 vK (fldV 3 v1) fun v33 =>
 vK (ldV h17 v33) fun v34 =>
 vK (fldV 3 v10) fun v35 =>
 stK 1 v35 v34 h17 fun v36 h37 =>
 J26 [] h37) (
 J26 [] h17))
 fun x27 j28 h29 =>
 joinK (fun J38 =>
 vK (fldV 0 v1) fun v42 =>
 vK (ldV h29 v42) fun v43 =>
 vK (binV .i .eql v43 (.int .i64 2)) fun v44 =>
 iteK v44 (
 vK (fldV 4 v1) fun v45 =>
 vK (ldV h29 v45) fun v46 =>
 vK (fldV 4 v10) fun v47 =>
 stK 1 v47 v46 h29 fun v48 h49 =>
 vK (fldV 5 v1) fun v50 =>
 vK (ldV h49 v50) fun v51 =>
 vK (fldV 5 v10) fun v52 =>
 stK 1 v52 v51 h49 fun v53 h54 =>
 J38 [] h54) (
 J38 [] h29))
 fun x39 j40 h41 =>
 vK (fldV 0 v1) fun v55 =>
 vK (ldV h41 v55) fun v56 =>
 vK (binV .i .eql v56 (.int .i64 3)) fun v57 =>
 iteK v57 (
 vK (fldV 7 v1) fun v58 =>
 vK (ldV h41 v58) fun v59 =>
 vK (fldV 7 v10) fun v60 =>
 stK 1 v60 v59 h41 fun v61 h62 =>
 vK (fldV 8 v1) fun v63 =>
 vK (ldV h62 v63) fun v64 =>
 vK (fldV 8 v10) fun v65 =>
 stK 1 v65 v64 h62 fun v66 h67 =>
 vK (fldV 6 v1) fun v68 =>
 vK (ldV h67 v68) fun v69 =>
 vK (fldV 6 v10) fun v70 =>
 stK 1 v70 v69 h67 fun v71 h72 =>
 vK (ldsV 9 h72 v10) fun v73 =>
 stK 9 v3 v73 h72 fun v74 h75 =>
 vK (ldsV 9 h75 v3) fun v76 =>
 R v76 h75) (
 vK (ldsV 9 h41 v10) fun v77 =>
 stK 9 v3 v77 h41 fun v78 h79 =>
 vK (ldsV 9 h79 v3) fun v80 =>
 R v80 h79)
noncomputable def an_ref13_Clean : Ann := (.s .z (.s .z (.j 32256 [] (.s .z (.s .z .z)) (.j 2064384 [] (.s .z (.s .z .z)) (.j 1071644672 [] (.s .z (.s (.s .z .z) .z)) (.s (.s .z (.s (.s .z (.s .z .z)) .z)) (.s .z .z)))))))
theorem oc_ref13_Clean : okCode Tryd.f19.ntmps ((Tryd.f19.body).getD .skip) an_ref13_Clean = true := by kernel_rfl
theorem eq_ref13_Clean (a0 : Value) (h : Heap) (R : Value → Heap → Prop) : sh_ref13_Clean a0 h R = cFunc Tryd.prog ((Tryd.f19.body).getD .skip) an_ref13_Clean Tryd.f19.results.toList #[a0].toList h R := by kernel_rfl
theorem ok_ref13_Clean {a0 : Value} {h : Heap} {R : Value → Heap → Prop} (H : sh_ref13_Clean a0 h R) : FCall Tryd.prog F_ref13_Clean #[a0] h R :=
  fcall_of (by kernel_rfl) (fn := Tryd.f19) (c := (Tryd.f19.body).getD .skip) (an := an_ref13_Clean) (by kernel_rfl) (by kernel_rfl) (by kernel_rfl) oc_ref13_Clean (by kernel_rfl) (Eq.mp (eq_ref13_Clean a0 h R) H)

/-! ### strings.Join: function 20 -/
def sh_strings_Join (a0 a1 : Value) (h : Heap) (R : Value → Heap → Prop) : Prop :=
 vK (lenslV a0) fun v1 =>
 vK (binV .i .eql v1 (.int .i64 0)) fun v2 =>
 iteK v2 (
 R (.string ⟨#[]⟩) h) (
 vK (binV .i .eql v1 (.int .i64 1)) fun v3 =>
 iteK v3 (
 vK (idxV 1 a0 (.int .i64 0)) fun v4 =>
 vK (ldV h v4) fun v5 =>
 R v5 h) (
 joinK (fun J6 =>
 vK (lenstV a1) fun v10 =>
 vK (binV .i .gtr v10 (.int .i64 0)) fun v11 =>
 iteK v11 (
 joinK (fun J12 =>
 vK (lenstV a1) fun v16 =>
 vK (lenslV a0) fun v17 =>
 vK (binV .i .sub v17 (.int .i64 1)) fun v18 =>
 vK (binV .i .quo (.int .i64 9223372036854775807) v18) fun v19 =>
 vK (binV .i .geq v16 v19) fun v20 =>
 iteK v20 (
 failK h fun v21 h22 =>
 J12 [] h22) (
 J12 [] h))
 fun x13 j14 h15 =>
 vK (lenstV a1) fun v23 =>
 vK (lenslV a0) fun v24 =>
 vK (binV .i .sub v24 (.int .i64 1)) fun v25 =>
 vK (binV .i .mul v23 v25) fun v26 =>
 vK (binV .i .add (.int .i64 0) v26) fun v27 =>
 J6 [v27] h15) (
 J6 [(.int .i64 0)] h))
 fun x7 j8 h9 =>
 vK (lenslV a0) fun v28 =>
 loopK [(ix x7 0), (.int .i64 0)] h9 fun x29 j30 h31 again32 =>
 vK (binV .i .lss (ix x29 1) v28) fun v33 =>
 iteK v33 (
 vK (idxV 1 a0 (ix x29 1)) fun v34 =>
 vK (ldV h31 v34) fun v35 =>
 vK (lenstV v35) fun v36 =>
 vK (binV .i .sub (.int .i64 9223372036854775807) (ix x29 0)) fun v37 =>
 vK (binV .i .gtr v36 v37) fun v38 =>
 iteK v38 (
 failK h31 fun v39 h40 =>
 vK (lenstV v35) fun v41 =>
 vK (binV .i .add (ix x29 0) v41) fun v42 =>
 vK (binV .i .add (ix x29 1) (.int .i64 1)) fun v43 =>
 again32 [v42, v43] h40) (
 vK (lenstV v35) fun v44 =>
 vK (binV .i .add (ix x29 0) v44) fun v45 =>
 vK (binV .i .add (ix x29 1) (.int .i64 1)) fun v46 =>
 again32 [v45, v46] h31)) (
 newK #[(.pointer none), (.slice none 0 0)] 75 h31 fun v47 h48 =>
 FCall Tryd.prog F_strings_Builder_Grow #[v47, (ix x29 0)] h48 fun v49 h50 =>
 vK (idxV 1 a0 (.int .i64 0)) fun v51 =>
 vK (ldV h50 v51) fun v52 =>
 FCall Tryd.prog F_strings_Builder_WriteString #[v47, v52] h50 fun v53 h54 =>
 vK (slcV 1 a0 (some (.int .i64 1)) none) fun v55 =>
 vK (lenslV v55) fun v56 =>
 loopK [(.int .i64 0)] h54 fun x57 j58 h59 again60 =>
 vK (binV .i .lss (ix x57 0) v56) fun v61 =>
 iteK v61 (
 vK (idxV 1 v55 (ix x57 0)) fun v62 =>
 vK (ldV h59 v62) fun v63 =>
 FCall Tryd.prog F_strings_Builder_WriteString #[v47, a1] h59 fun v64 h65 =>
 FCall Tryd.prog F_strings_Builder_WriteString #[v47, v63] h65 fun v66 h67 =>
 vK (binV .i .add (ix x57 0) (.int .i64 1)) fun v68 =>
 again60 [v68] h67) (
 FCall Tryd.prog F_strings_Builder_String #[v47] h59 fun v69 h70 =>
 R v69 h70))))
noncomputable def an_strings_Join : Ann := (.s .z (.s (.s .z (.s .z (.s (.s .z .z) (.s .z (.s (.s .z .z) .z))))) (.s .z (.j 549754765344 [5] (.s .z (.s (.j 2139095040 [] (.s .z (.s .z .z)) .z) .z)) (.s (.s .z (.l 72055395014672544 [5, 41] (.s .z (.s (.s .z .z) (.s (.s .z (.s (.s .z (.s .z .z)) .z)) .z))))) (.s .z (.s .z (.s .z (.s (.s .z (.l 18852572443331161752576 [65] (.s .z (.s (.s .z .z) (.s (.s .z (.s .z .z)) .z))))) (.s .z .z))))))))))
theorem oc_strings_Join : okCode Tryd.f20.ntmps ((Tryd.f20.body).getD .skip) an_strings_Join = true := by kernel_rfl
theorem eq_strings_Join (a0 a1 : Value) (h : Heap) (R : Value → Heap → Prop) : sh_strings_Join a0 a1 h R = cFunc Tryd.prog ((Tryd.f20.body).getD .skip) an_strings_Join Tryd.f20.results.toList #[a0, a1].toList h R := by kernel_rfl
theorem ok_strings_Join {a0 a1 : Value} {h : Heap} {R : Value → Heap → Prop} (H : sh_strings_Join a0 a1 h R) : FCall Tryd.prog F_strings_Join #[a0, a1] h R :=
  fcall_of (by kernel_rfl) (fn := Tryd.f20) (c := (Tryd.f20.body).getD .skip) (an := an_strings_Join) (by kernel_rfl) (by kernel_rfl) (by kernel_rfl) oc_strings_Join (by kernel_rfl) (Eq.mp (eq_strings_Join a0 a1 h R) H)

/-! ### smalto|smaltoref13.cut: function 23 -/
def sh_ref13_cut (a0 a1 : Value) (h : Heap) (R : Value → Heap → Prop) : Prop :=
 loopK [(.int .i64 0)] h fun x1 j2 h3 again4 =>
 vK (lenstV a1) fun v5 =>
 vK (binV .i .add (ix x1 0) v5) fun v6 =>
 vK (lenstV a0) fun v7 =>
 vK (binV .i .leq v6 v7) fun v8 =>
 iteK v8 (
 vK (lenstV a1) fun v9 =>
 vK (binV .i .add (ix x1 0) v9) fun v10 =>
 vK (slsV a0 (some (ix x1 0)) (some v10)) fun v11 =>
 vK (binV .s .eql v11 a1) fun v12 =>
 iteK v12 (
 vK (slsV a0 none (some (ix x1 0))) fun v13 =>
 vK (lenstV a1) fun v14 =>
 vK (binV .i .add (ix x1 0) v14) fun v15 =>
 vK (slsV a0 (some v15) none) fun v16 =>
 R (.tuple #[v13, v16, (.bool true)]) h3) (
 vK (binV .i .add (ix x1 0) (.int .i64 1)) fun v17 =>
 again4 [v17] h3)) (
 R (.tuple #[a0, (.string ⟨#[]⟩), (.bool false)]) h3)
noncomputable def an_ref13_cut : Ann := (.s .z (.s (.s .z (.l 34359738352 [7] (.s (.s .z (.s .z .z)) (.s (.s .z (.s (.s .z .z) .z)) .z)))) (.s .z .z)))
theorem oc_ref13_cut : okCode Tryd.f23.ntmps ((Tryd.f23.body).getD .skip) an_ref13_cut = true := by kernel_rfl
theorem eq_ref13_cut (a0 a1 : Value) (h : Heap) (R : Value → Heap → Prop) : sh_ref13_cut a0 a1 h R = cFunc Tryd.prog ((Tryd.f23.body).getD .skip) an_ref13_cut Tryd.f23.results.toList #[a0, a1].toList h R := by kernel_rfl
theorem ok_ref13_cut {a0 a1 : Value} {h : Heap} {R : Value → Heap → Prop} (H : sh_ref13_cut a0 a1 h R) : FCall Tryd.prog F_ref13_cut #[a0, a1] h R :=
  fcall_of (by kernel_rfl) (fn := Tryd.f23) (c := (Tryd.f23.body).getD .skip) (an := an_ref13_cut) (by kernel_rfl) (by kernel_rfl) (by kernel_rfl) oc_ref13_cut (by kernel_rfl) (Eq.mp (eq_ref13_cut a0 a1 h R) H)

/-! ### smalto|smaltoref13.One: function 24 -/
def sh_ref13_One (a0 : Value) (h : Heap) (R : Value → Heap → Prop) : Prop :=
 newK #[(.int .i64 0), (.int .i64 0), (.int .i64 0), (.int .i64 0), (.slice none 0 0), (.slice none 0 0), (.int .i64 0), (.int .i64 0), (.int .i64 0)] 45 h fun v1 h2 =>
 vK ((fillL #[(.int .i64 0), (.int .i64 0), (.int .i64 0), (.int .i64 0), (.slice none 0 0), (.slice none 0 0), (.int .i64 0), (.int .i64 0), (.int .i64 0)] []).map .agg) fun v3 =>
 newK #[(.int .i64 0), (.int .i64 0), (.int .i64 0), (.int .i64 0), (.slice none 0 0), (.slice none 0 0), (.int .i64 0), (.int .i64 0), (.int .i64 0)] 45 h2 fun v4 h5 =>
 stK 9 v4 v3 h5 fun v6 h7 =>
 FCall Tryd.prog F_ref13_cut #[a0, (.string ⟨#[124]⟩)] h7 fun v8 h9 =>
 vK (extV v8 0) fun v10 =>
 vK (extV v8 1) fun v11 =>
 vK (extV v8 2) fun v12 =>
 vK ((fillL #[(.int .i64 0), (.int .i64 0), (.int .i64 0), (.int .i64 0), (.slice none 0 0), (.slice none 0 0), (.int .i64 0), (.int .i64 0), (.int .i64 0)] [(0, 1, (.int .i64 (-1))), (1, 1, (.int .i64 (-1)))]).map .agg) fun v13 =>
 newK #[(.int .i64 0), (.int .i64 0), (.int .i64 0), (.int .i64 0), (.slice none 0 0), (.slice none 0 0), (.int .i64 0), (.int .i64 0), (.int .i64 0)] 45 h9 fun v14 h15 =>
 stK 9 v14 v13 h15 fun v16 h17 =>
 joinK (fun J18 =>
 loopK [v10, (.int .i64 0)] h17 fun x22 j23 h24 again25 =>
 vK (binV .i .lss (ix x22 1) (.int .i64 4)) fun v26 =>
 iteK v26 (
 FCall Tryd.prog F_ref13_Sign #[(ix x22 1)] h24 fun v27 h28 =>
 vK (lenstV v27) fun v29 =>
 drawK h28 fun S =>
 qK S (fun h28 => lenstV (ix x22 0)) fun v30 =>
 vK (binV .i .geq v30 v29) fun v31 =>
 vK (gV v31 true (some (ix x22 0))) fun v32 =>
 vK (gV v31 true (some v29)) fun v33 =>
 vK (gV v31 true (slsV v32 none (some v33))) fun v34 =>
 vK (gV v31 true (some (ix x22 1))) fun v35 =>
 gK v31 true (fun k45 => FCall Tryd.prog F_ref13_Sign #[v35] h28 k45) h28 fun v36 h37 =>
 S h37 ∧ (vK (gV v31 true (binV .s .eql v34 v36)) fun v38 =>
 vK (pickV v31 v38 (.bool false)) fun v39 =>
 iteK v39 (
 vK (fldV 0 v14) fun v40 =>
 stK 1 v40 (ix x22 1) h37 fun v41 h42 =>
 vK (slsV (ix x22 0) (some v29) none) fun v43 =>
 J18 [v43] h42) (
 vK (binV .i .add (ix x22 1) (.int .i64 1)) fun v44 =>
 again25 [(ix x22 0), v44] h37))) (
 J18 [(ix x22 0)] h24))
 fun x19 j20 h21 =>
 loopK [(.int .i64 0)] h21 fun x46 j47 h48 again49 =>
 vK (binV .i .lss (ix x46 0) (.int .i64 3)) fun v50 =>
 iteK v50 (
 FCall Tryd.prog F_ref13_border #[(ix x46 0)] h48 fun v51 h52 =>
 vK (binV .s .eql v51 v11) fun v53 =>
 iteK v53 (
 vK (fldV 1 v14) fun v54 =>
 stK 1 v54 (ix x46 0) h52 fun v55 h56 =>
 vK (binV .i .add (ix x46 0) (.int .i64 1)) fun v57 =>
 again49 [v57] h56) (
 vK (binV .i .add (ix x46 0) (.int .i64 1)) fun v58 =>
 again49 [v58] h52)) (
 vK (unV .not v12) fun v59 =>
 vK (gV v59 false (fldV 0 v14)) fun v60 =>
 vK (gV v59 false (ldV h48 v60)) fun v61 =>
 vK (gV v59 false (binV .i .lss v61 (.int .i64 0))) fun v62 =>
 vK (pickV v59 (.bool true) v62) fun v63 =>
 vK (gV v63 false (fldV 1 v14)) fun v64 =>
 vK (gV v63 false (ldV h48 v64)) fun v65 =>
 vK (gV v63 false (binV .i .lss v65 (.int .i64 0))) fun v66 =>
 vK (pickV v63 (.bool true) v66) fun v67 =>
 iteK v67 (
 vK (ldsV 9 h48 v4) fun v68 =>
 stK 9 v1 v68 h48 fun v69 h70 =>
 vK (ldsV 9 h70 v1) fun v71 =>
 R (.tuple #[v71, (.bool false)]) h70) (
 FCall Tryd.prog F_ref13_times #[] h48 fun v72 h73 =>
 FCall Tryd.prog F_ref13_cut #[(ix x19 0), v72] h73 fun v74 h75 =>
 vK (extV v74 0) fun v76 =>
 vK (extV v74 1) fun v77 =>
 vK (extV v74 2) fun v78 =>
 vK (fldV 0 v14) fun v79 =>
 vK (ldV h75 v79) fun v80 =>
 vK (binV .i .eql v80 (.int .i64 0)) fun v81 =>
 iteK v81 (
 FCall Tryd.prog F_ref13_number #[(ix x19 0)] h75 fun v82 h83 =>
 vK (extV v82 0) fun v84 =>
 vK (extV v82 1) fun v85 =>
 vK (fldV 2 v14) fun v86 =>
 stK 1 v86 v84 h83 fun v87 h88 =>
 vK (ldsV 9 h88 v14) fun v89 =>
 stK 9 v1 v89 h88 fun v90 h91 =>
 vK (ldsV 9 h91 v1) fun v92 =>
 R (.tuple #[v92, v85]) h91) (
 vK (binV .i .eql v80 (.int .i64 1)) fun v93 =>
 iteK v93 (
 FCall Tryd.prog F_ref13_number #[(ix x19 0)] h75 fun v94 h95 =>
 vK (extV v94 0) fun v96 =>
 vK (extV v94 1) fun v97 =>
 vK (fldV 3 v14) fun v98 =>
 stK 1 v98 v96 h95 fun v99 h100 =>
 vK (ldsV 9 h100 v14) fun v101 =>
 stK 9 v1 v101 h100 fun v102 h103 =>
 vK (ldsV 9 h103 v1) fun v104 =>
 R (.tuple #[v104, v97]) h103) (
 vK (binV .i .eql v80 (.int .i64 2)) fun v105 =>
 iteK v105 (
 FCall Tryd.prog F_ref13_numbers #[v76] h75 fun v106 h107 =>
 vK (extV v106 0) fun v108 =>
 vK (extV v106 1) fun v109 =>
 vK (fldV 4 v14) fun v110 =>
 stK 1 v110 v108 h107 fun v111 h112 =>
 FCall Tryd.prog F_ref13_numbers #[v77] h112 fun v113 h114 =>
 vK (extV v113 0) fun v115 =>
 vK (extV v113 1) fun v116 =>
 vK (fldV 5 v14) fun v117 =>
 stK 1 v117 v115 h114 fun v118 h119 =>
 vK (ldsV 9 h119 v14) fun v120 =>
 vK (gV v78 true (some v109)) fun v121 =>
 vK (pickV v78 v121 (.bool false)) fun v122 =>
 vK (gV v122 true (some v116)) fun v123 =>
 vK (pickV v122 v123 (.bool false)) fun v124 =>
 stK 9 v1 v120 h119 fun v125 h126 =>
 vK (ldsV 9 h126 v1) fun v127 =>
 R (.tuple #[v127, v124]) h126) (
 FCall Tryd.prog F_ref13_cut #[v77, (.string ⟨#[44]⟩)] h75 fun v128 h129 =>
 vK (extV v128 0) fun v130 =>
 vK (extV v128 1) fun v131 =>
 vK (extV v128 2) fun v132 =>
 FCall Tryd.prog F_ref13_number #[v76] h129 fun v133 h134 =>
 vK (extV v133 0) fun v135 =>
 vK (extV v133 1) fun v136 =>
 FCall Tryd.prog F_ref13_number #[v130] h134 fun v137 h138 =>
 vK (extV v137 0) fun v139 =>
 vK (extV v137 1) fun v140 =>
 vK (fldV 7 v14) fun v141 =>
 stK 1 v141 v135 h138 fun v142 h143 =>
 vK (fldV 8 v14) fun v144 =>
 stK 1 v144 v139 h143 fun v145 h146 =>
 vK (fldV 6 v14) fun v147 =>
 stK 1 v147 (.int .i64 (-1)) h146 fun v148 h149 =>
 loopK [(.int .i64 0)] h149 fun x150 j151 h152 again153 =>
 vK (binV .i .lss (ix x150 0) (.int .i64 3)) fun v154 =>
 iteK v154 (
 FCall Tryd.prog F_ref13_filter #[(ix x150 0)] h152 fun v155 h156 =>
 vK (binV .s .eql v155 v131) fun v157 =>
 iteK v157 (
 vK (fldV 6 v14) fun v158 =>
 stK 1 v158 (ix x150 0) h156 fun v159 h160 =>
 vK (binV .i .add (ix x150 0) (.int .i64 1)) fun v161 =>
 again153 [v161] h160) (
 vK (binV .i .add (ix x150 0) (.int .i64 1)) fun v162 =>
 again153 [v162] h156)) (
 drawK h152 fun S =>
 qK S (fun h152 => ldsV 9 h152 v14) fun v163 =>
 vK (gV v78 true (some v132)) fun v164 =>
 vK (pickV v78 v164 (.bool false)) fun v165 =>
 vK (gV v165 true (some v136)) fun v166 =>
 vK (pickV v165 v166 (.bool false)) fun v167 =>
 vK (gV v167 true (some v140)) fun v168 =>
 vK (pickV v167 v168 (.bool false)) fun v169 =>
 vK (gV v169 true (fldV 6 v14)) fun v170 =>
 qK S (fun h152 => gV v169 true (ldV h152 v170)) fun v171 =>
 vK (gV v169 true (binV .i .geq v171 (.int .i64 0))) fun v172 =>
 vK (pickV v169 v172 (.bool false)) fun v173 =>
 stK 9 v1 v163 h152 fun v174 h175 =>
 S h175 ∧ (vK (ldsV 9 h175 v1) fun v176 =>
 R (.tuple #[v176, v173]) h175)))))))
noncomputable def an_ref13_One : Ann := (.s .z (.s .z (.s .z (.s .z (.s (.s .z (.m 144115179485922848 [5] (.l 144115179485922848 [5, 33] (.s .z (.s (.s .z .z) (.s (.s .z (.s .z (.s (.d [(0, .r), (1, .r), (2, .r), (3, .r), (4, .r), (5, .r), (6, .r), (7, .r), (8, .r), (9, .e), (10, .r), (11, .r)]) (.s (.s .z (.s .z .z)) .z)))) .z)))))) (.s (.s .z (.l 147429837401600559104 [57] (.s .z (.s (.s .z .z) (.s (.s .z (.s .z (.s .z .z))) .z))))) (.s (.s .z (.s (.s .z .z) .z)) (.s .z (.s .z (.s .z (.s (.s .z (.s .z (.s (.s .z (.s .z .z)) (.s .z (.s (.s .z (.s .z (.s .z .z))) (.s .z (.s (.s .z (.s .z (.s .z .z))) .z))))))) (.s .z (.s .z (.s .z (.s .z (.s .z (.s .z (.s (.s .z (.l 11680595117105575666581012373974668196156415148032 [153] (.s .z (.s (.s .z .z) (.s (.s .z (.s .z (.s .z .z))) .z))))) (.s (.d [(0, .r), (1, .r), (2, .r), (3, .r), (4, .r), (5, .r), (6, .r), (7, .r), (8, .r), (9, .r), (10, .r), (11, .r), (12, .r), (13, .r), (14, .r), (15, .r), (16, .e), (17, .r)]) .z)))))))))))))))))))
theorem oc_ref13_One : okCode Tryd.f24.ntmps ((Tryd.f24.body).getD .skip) an_ref13_One = true := by kernel_rfl
theorem eq_ref13_One (a0 : Value) (h : Heap) (R : Value → Heap → Prop) : sh_ref13_One a0 h R = cFunc Tryd.prog ((Tryd.f24.body).getD .skip) an_ref13_One Tryd.f24.results.toList #[a0].toList h R := by kernel_rfl
theorem ok_ref13_One {a0 : Value} {h : Heap} {R : Value → Heap → Prop} (H : sh_ref13_One a0 h R) : FCall Tryd.prog F_ref13_One #[a0] h R :=
  fcall_of (by kernel_rfl) (fn := Tryd.f24) (c := (Tryd.f24.body).getD .skip) (an := an_ref13_One) (by kernel_rfl) (by kernel_rfl) (by kernel_rfl) oc_ref13_One (by kernel_rfl) (Eq.mp (eq_ref13_One a0 h R) H)

/-! ### smalto|smaltoref06.Same: function 25 -/
def sh_ref06_Same (a0 a1 : Value) (h : Heap) (R : Value → Heap → Prop) : Prop :=
 vK (lenslV a0) fun v1 =>
 vK (lenslV a1) fun v2 =>
 vK (binV .i .neq v1 v2) fun v3 =>
 iteK v3 (
 R (.bool false) h) (
 vK (lenslV a0) fun v4 =>
 loopK [(.int .i64 0)] h fun x5 j6 h7 again8 =>
 vK (binV .i .lss (ix x5 0) v4) fun v9 =>
 iteK v9 (
 vK (idxV 1 a0 (ix x5 0)) fun v10 =>
 vK (ldV h7 v10) fun v11 =>
 vK (idxV 1 a1 (ix x5 0)) fun v12 =>
 vK (ldV h7 v12) fun v13 =>
 vK (binV .i .neq v11 v13) fun v14 =>
 iteK v14 (
 R (.bool false) h7) (
 vK (binV .i .add (ix x5 0) (.int .i64 1)) fun v15 =>
 again8 [v15] h7)) (
 R (.bool true) h7))
noncomputable def an_ref06_Same : Ann := (.s .z (.s (.s .z (.s (.s .z .z) .z)) (.s (.s .z (.l 67100720 [13] (.s .z (.s (.s .z .z) (.s (.s .z (.s .z (.s (.s .z .z) .z))) .z))))) (.s .z .z))))
theorem oc_ref06_Same : okCode Tryd.f25.ntmps ((Tryd.f25.body).getD .skip) an_ref06_Same = true := by kernel_rfl
theorem eq_ref06_Same (a0 a1 : Value) (h : Heap) (R : Value → Heap → Prop) : sh_ref06_Same a0 a1 h R = cFunc Tryd.prog ((Tryd.f25.body).getD .skip) an_ref06_Same Tryd.f25.results.toList #[a0, a1].toList h R := by kernel_rfl
theorem ok_ref06_Same {a0 a1 : Value} {h : Heap} {R : Value → Heap → Prop} (H : sh_ref06_Same a0 a1 h R) : FCall Tryd.prog F_ref06_Same #[a0, a1] h R :=
  fcall_of (by kernel_rfl) (fn := Tryd.f25) (c := (Tryd.f25.body).getD .skip) (an := an_ref06_Same) (by kernel_rfl) (by kernel_rfl) (by kernel_rfl) oc_ref06_Same (by kernel_rfl) (Eq.mp (eq_ref06_Same a0 a1 h R) H)

/-! ### smalto|smaltoref13.border: function 26 -/
def sh_ref13_border (a0 : Value) (h : Heap) (R : Value → Heap → Prop) : Prop :=
 vK (binV .i .eql a0 (.int .i64 0)) fun v1 =>
 iteK v1 (
 R (.string ⟨#[99, 108, 97, 109, 112]⟩) h) (
 vK (binV .i .eql a0 (.int .i64 1)) fun v2 =>
 iteK v2 (
 R (.string ⟨#[109, 105, 114, 114, 111, 114]⟩) h) (
 vK (binV .i .eql a0 (.int .i64 2)) fun v3 =>
 iteK v3 (
 R (.string ⟨#[119, 114, 97, 112]⟩) h) (
 R (.string ⟨#[]⟩) h)))
noncomputable def an_ref13_border : Ann := (.s .z (.s (.s .z (.s .z (.s (.s .z .z) (.s .z (.s (.s .z .z) (.s .z (.s (.s .z .z) .z))))))) (.s .z .z)))
theorem oc_ref13_border : okCode Tryd.f26.ntmps ((Tryd.f26.body).getD .skip) an_ref13_border = true := by kernel_rfl
theorem eq_ref13_border (a0 : Value) (h : Heap) (R : Value → Heap → Prop) : sh_ref13_border a0 h R = cFunc Tryd.prog ((Tryd.f26.body).getD .skip) an_ref13_border Tryd.f26.results.toList #[a0].toList h R := by kernel_rfl
theorem ok_ref13_border {a0 : Value} {h : Heap} {R : Value → Heap → Prop} (H : sh_ref13_border a0 h R) : FCall Tryd.prog F_ref13_border #[a0] h R :=
  fcall_of (by kernel_rfl) (fn := Tryd.f26) (c := (Tryd.f26.body).getD .skip) (an := an_ref13_border) (by kernel_rfl) (by kernel_rfl) (by kernel_rfl) oc_ref13_border (by kernel_rfl) (Eq.mp (eq_ref13_border a0 h R) H)

/-! ### smalto|smaltoref13.decimal: function 27 -/
def sh_ref13_decimal (a0 : Value) (h : Heap) (R : Value → Heap → Prop) : Prop :=
 FCall Tryd.prog F_ref10_Decimal #[a0] h fun v1 h2 =>
 R v1 h2
noncomputable def an_ref13_decimal : Ann := (.s .z (.s .z .z))
theorem oc_ref13_decimal : okCode Tryd.f27.ntmps ((Tryd.f27.body).getD .skip) an_ref13_decimal = true := by kernel_rfl
theorem eq_ref13_decimal (a0 : Value) (h : Heap) (R : Value → Heap → Prop) : sh_ref13_decimal a0 h R = cFunc Tryd.prog ((Tryd.f27.body).getD .skip) an_ref13_decimal Tryd.f27.results.toList #[a0].toList h R := by kernel_rfl
theorem ok_ref13_decimal {a0 : Value} {h : Heap} {R : Value → Heap → Prop} (H : sh_ref13_decimal a0 h R) : FCall Tryd.prog F_ref13_decimal #[a0] h R :=
  fcall_of (by kernel_rfl) (fn := Tryd.f27) (c := (Tryd.f27.body).getD .skip) (an := an_ref13_decimal) (by kernel_rfl) (by kernel_rfl) (by kernel_rfl) oc_ref13_decimal (by kernel_rfl) (Eq.mp (eq_ref13_decimal a0 h R) H)

/-! ### smalto|smaltoref13.list: function 28 -/
def sh_ref13_list (a0 : Value) (h : Heap) (R : Value → Heap → Prop) : Prop :=
 vK (lenslV a0) fun v1 =>
 loopK [(.string ⟨#[]⟩), (.int .i64 0)] h fun x2 j3 h4 again5 =>
 vK (binV .i .lss (ix x2 1) v1) fun v6 =>
 iteK v6 (
 vK (idxV 1 a0 (ix x2 1)) fun v7 =>
 vK (ldV h4 v7) fun v8 =>
 vK (binV .i .gtr (ix x2 1) (.int .i64 0)) fun v9 =>
 iteK v9 (
 vK (binV .s .add (ix x2 0) (.string ⟨#[44]⟩)) fun v10 =>
 FCall Tryd.prog F_ref13_decimal #[v8] h4 fun v11 h12 =>
 vK (binV .s .add v10 v11) fun v13 =>
 vK (binV .i .add (ix x2 1) (.int .i64 1)) fun v14 =>
 again5 [v13, v14] h12) (
 FCall Tryd.prog F_ref13_decimal #[v8] h4 fun v15 h16 =>
 vK (binV .s .add (ix x2 0) v15) fun v17 =>
 vK (binV .i .add (ix x2 1) (.int .i64 1)) fun v18 =>
 again5 [v17, v18] h16)) (
 R (ix x2 0) h4)
noncomputable def an_ref13_list : Ann := (.s .z (.s .z (.s (.s .z (.l 4194104 [3, 8] (.s .z (.s (.s .z .z) (.s (.s .z (.s (.s .z (.s .z .z)) .z)) .z))))) (.s .z .z))))
theorem oc_ref13_list : okCode Tryd.f28.ntmps ((Tryd.f28.body).getD .skip) an_ref13_list = true := by kernel_rfl
theorem eq_ref13_list (a0 : Value) (h : Heap) (R : Value → Heap → Prop) : sh_ref13_list a0 h R = cFunc Tryd.prog ((Tryd.f28.body).getD .skip) an_ref13_list Tryd.f28.results.toList #[a0].toList h R := by kernel_rfl
theorem ok_ref13_list {a0 : Value} {h : Heap} {R : Value → Heap → Prop} (H : sh_ref13_list a0 h R) : FCall Tryd.prog F_ref13_list #[a0] h R :=
  fcall_of (by kernel_rfl) (fn := Tryd.f28) (c := (Tryd.f28.body).getD .skip) (an := an_ref13_list) (by kernel_rfl) (by kernel_rfl) (by kernel_rfl) oc_ref13_list (by kernel_rfl) (Eq.mp (eq_ref13_list a0 h R) H)

/-! ### smalto|smaltoref13.times: function 29 -/
def sh_ref13_times (h : Heap) (R : Value → Heap → Prop) : Prop :=
 R (.string ⟨#[195, 151]⟩) h
noncomputable def an_ref13_times : Ann := (.s .z (.s .z .z))
theorem oc_ref13_times : okCode Tryd.f29.ntmps ((Tryd.f29.body).getD .skip) an_ref13_times = true := by kernel_rfl
theorem eq_ref13_times (h : Heap) (R : Value → Heap → Prop) : sh_ref13_times h R = cFunc Tryd.prog ((Tryd.f29.body).getD .skip) an_ref13_times Tryd.f29.results.toList #[].toList h R := by kernel_rfl
theorem ok_ref13_times {h : Heap} {R : Value → Heap → Prop} (H : sh_ref13_times h R) : FCall Tryd.prog F_ref13_times #[] h R :=
  fcall_of (by kernel_rfl) (fn := Tryd.f29) (c := (Tryd.f29.body).getD .skip) (an := an_ref13_times) (by kernel_rfl) (by kernel_rfl) (by kernel_rfl) oc_ref13_times (by kernel_rfl) (Eq.mp (eq_ref13_times h R) H)

/-! ### smalto|smaltoref13.filter: function 30 -/
def sh_ref13_filter (a0 : Value) (h : Heap) (R : Value → Heap → Prop) : Prop :=
 vK (binV .i .eql a0 (.int .i64 0)) fun v1 =>
 iteK v1 (
 R (.string ⟨#[98, 111, 120]⟩) h) (
 vK (binV .i .eql a0 (.int .i64 1)) fun v2 =>
 iteK v2 (
 R (.string ⟨#[99, 117, 98, 105, 99]⟩) h) (
 vK (binV .i .eql a0 (.int .i64 2)) fun v3 =>
 iteK v3 (
 R (.string ⟨#[108, 97, 110, 99, 122, 111, 115]⟩) h) (
 R (.string ⟨#[]⟩) h)))
noncomputable def an_ref13_filter : Ann := (.s .z (.s (.s .z (.s .z (.s (.s .z .z) (.s .z (.s (.s .z .z) (.s .z (.s (.s .z .z) .z))))))) (.s .z .z)))
theorem oc_ref13_filter : okCode Tryd.f30.ntmps ((Tryd.f30.body).getD .skip) an_ref13_filter = true := by kernel_rfl
theorem eq_ref13_filter (a0 : Value) (h : Heap) (R : Value → Heap → Prop) : sh_ref13_filter a0 h R = cFunc Tryd.prog ((Tryd.f30.body).getD .skip) an_ref13_filter Tryd.f30.results.toList #[a0].toList h R := by kernel_rfl
theorem ok_ref13_filter {a0 : Value} {h : Heap} {R : Value → Heap → Prop} (H : sh_ref13_filter a0 h R) : FCall Tryd.prog F_ref13_filter #[a0] h R :=
  fcall_of (by kernel_rfl) (fn := Tryd.f30) (c := (Tryd.f30.body).getD .skip) (an := an_ref13_filter) (by kernel_rfl) (by kernel_rfl) (by kernel_rfl) oc_ref13_filter (by kernel_rfl) (Eq.mp (eq_ref13_filter a0 h R) H)

/-! ### smalto|border.Name: function 31 -/
def sh_border_Name (a0 : Value) (h : Heap) (R : Value → Heap → Prop) : Prop :=
 vK (binV .i .lss a0 (.int .i64 0)) fun v1 =>
 vK (gV v1 false (some a0)) fun v2 =>
 vK (gV v1 false (ldV h (.pointer (some ⟨G_border_names, 0, none⟩)))) fun v3 =>
 vK (gV v1 false (lenslV v3)) fun v4 =>
 vK (gV v1 false (binV .i .geq v2 v4)) fun v5 =>
 vK (pickV v1 (.bool true) v5) fun v6 =>
 iteK v6 (
 R (.string ⟨#[]⟩) h) (
 vK (ldV h (.pointer (some ⟨G_border_names, 0, none⟩))) fun v7 =>
 vK (idxV 1 v7 a0) fun v8 =>
 vK (ldV h v8) fun v9 =>
 R v9 h)
noncomputable def an_border_Name : Ann := (.s .z (.s (.s .z (.s (.s .z .z) .z)) (.s .z .z)))
theorem oc_border_Name : okCode Tryd.f31.ntmps ((Tryd.f31.body).getD .skip) an_border_Name = true := by kernel_rfl
theorem eq_border_Name (a0 : Value) (h : Heap) (R : Value → Heap → Prop) : sh_border_Name a0 h R = cFunc Tryd.prog ((Tryd.f31.body).getD .skip) an_border_Name Tryd.f31.results.toList #[a0].toList h R := by kernel_rfl
theorem ok_border_Name {a0 : Value} {h : Heap} {R : Value → Heap → Prop} (H : sh_border_Name a0 h R) : FCall Tryd.prog F_border_Name #[a0] h R :=
  fcall_of (by kernel_rfl) (fn := Tryd.f31) (c := (Tryd.f31.body).getD .skip) (an := an_border_Name) (by kernel_rfl) (by kernel_rfl) (by kernel_rfl) oc_border_Name (by kernel_rfl) (Eq.mp (eq_border_Name a0 h R) H)

/-! ### smalto|raw.Name: function 32 -/
def sh_raw_Name (a0 : Value) (h : Heap) (R : Value → Heap → Prop) : Prop :=
 vK (binV .i .lss a0 (.int .i64 0)) fun v1 =>
 vK (gV v1 false (some a0)) fun v2 =>
 vK (gV v1 false (binV .i .geq v2 (.int .i64 3))) fun v3 =>
 vK (pickV v1 (.bool true) v3) fun v4 =>
 iteK v4 (
 R (.string ⟨#[]⟩) h) (
 vK (idxaV 3 2 (.pointer (some ⟨G_raw_kinds, 0, none⟩)) a0) fun v5 =>
 vK (fldV 0 v5) fun v6 =>
 vK (ldV h v6) fun v7 =>
 R v7 h)
noncomputable def an_raw_Name : Ann := (.s .z (.s (.s .z (.s (.s .z .z) .z)) (.s .z .z)))
theorem oc_raw_Name : okCode Tryd.f32.ntmps ((Tryd.f32.body).getD .skip) an_raw_Name = true := by kernel_rfl
theorem eq_raw_Name (a0 : Value) (h : Heap) (R : Value → Heap → Prop) : sh_raw_Name a0 h R = cFunc Tryd.prog ((Tryd.f32.body).getD .skip) an_raw_Name Tryd.f32.results.toList #[a0].toList h R := by kernel_rfl
theorem ok_raw_Name {a0 : Value} {h : Heap} {R : Value → Heap → Prop} (H : sh_raw_Name a0 h R) : FCall Tryd.prog F_raw_Name #[a0] h R :=
  fcall_of (by kernel_rfl) (fn := Tryd.f32) (c := (Tryd.f32.body).getD .skip) (an := an_raw_Name) (by kernel_rfl) (by kernel_rfl) (by kernel_rfl) oc_raw_Name (by kernel_rfl) (Eq.mp (eq_raw_Name a0 h R) H)

/-! ### strconv.FormatInt: function 33 -/
def sh_strconv_FormatInt (a0 a1 : Value) (h : Heap) (R : Value → Heap → Prop) : Prop :=
 FCall Tryd.prog F_internal_strconv_FormatInt #[a0, a1] h fun v1 h2 =>
 R v1 h2
noncomputable def an_strconv_FormatInt : Ann := (.s .z (.s .z .z))
theorem oc_strconv_FormatInt : okCode Tryd.f33.ntmps ((Tryd.f33.body).getD .skip) an_strconv_FormatInt = true := by kernel_rfl
theorem eq_strconv_FormatInt (a0 a1 : Value) (h : Heap) (R : Value → Heap → Prop) : sh_strconv_FormatInt a0 a1 h R = cFunc Tryd.prog ((Tryd.f33.body).getD .skip) an_strconv_FormatInt Tryd.f33.results.toList #[a0, a1].toList h R := by kernel_rfl
theorem ok_strconv_FormatInt {a0 a1 : Value} {h : Heap} {R : Value → Heap → Prop} (H : sh_strconv_FormatInt a0 a1 h R) : FCall Tryd.prog F_strconv_FormatInt #[a0, a1] h R :=
  fcall_of (by kernel_rfl) (fn := Tryd.f33) (c := (Tryd.f33.body).getD .skip) (an := an_strconv_FormatInt) (by kernel_rfl) (by kernel_rfl) (by kernel_rfl) oc_strconv_FormatInt (by kernel_rfl) (Eq.mp (eq_strconv_FormatInt a0 a1 h R) H)

/-! ### strconv.Itoa: function 34 -/
def sh_strconv_Itoa (a0 : Value) (h : Heap) (R : Value → Heap → Prop) : Prop :=
 FCall Tryd.prog F_internal_strconv_Itoa #[a0] h fun v1 h2 =>
 R v1 h2
noncomputable def an_strconv_Itoa : Ann := (.s .z (.s .z .z))
theorem oc_strconv_Itoa : okCode Tryd.f34.ntmps ((Tryd.f34.body).getD .skip) an_strconv_Itoa = true := by kernel_rfl
theorem eq_strconv_Itoa (a0 : Value) (h : Heap) (R : Value → Heap → Prop) : sh_strconv_Itoa a0 h R = cFunc Tryd.prog ((Tryd.f34.body).getD .skip) an_strconv_Itoa Tryd.f34.results.toList #[a0].toList h R := by kernel_rfl
theorem ok_strconv_Itoa {a0 : Value} {h : Heap} {R : Value → Heap → Prop} (H : sh_strconv_Itoa a0 h R) : FCall Tryd.prog F_strconv_Itoa #[a0] h R :=
  fcall_of (by kernel_rfl) (fn := Tryd.f34) (c := (Tryd.f34.body).getD .skip) (an := an_strconv_Itoa) (by kernel_rfl) (by kernel_rfl) (by kernel_rfl) oc_strconv_Itoa (by kernel_rfl) (Eq.mp (eq_strconv_Itoa a0 h R) H)

/-! ### smalto|recipe.numbers: function 35 -/
def sh_recipe_numbers (a0 : Value) (h : Heap) (R : Value → Heap → Prop) : Prop :=
 vK (lenslV a0) fun v1 =>
 loopK [(.slice none 0 0), (.int .i64 0)] h fun x2 j3 h4 again5 =>
 vK (binV .i .lss (ix x2 1) v1) fun v6 =>
 iteK v6 (
 vK (idxV 1 a0 (ix x2 1)) fun v7 =>
 vK (ldV h4 v7) fun v8 =>
 FCall Tryd.prog F_strconv_FormatInt #[v8, (.int .i64 10)] h4 fun v9 h10 =>
 rowK #[(.string ⟨#[]⟩)] 9 1 [(0, 1, v9)] h10 fun v11 h12 =>
 appK (.string ⟨#[]⟩) 9 1 16 (ix x2 0) v11 h12 fun v13 h14 =>
 vK (binV .i .add (ix x2 1) (.int .i64 1)) fun v15 =>
 again5 [v13, v15] h14) (
 FCall Tryd.prog F_strings_Join #[(ix x2 0), (.string ⟨#[44]⟩)] h4 fun v16 h17 =>
 R v16 h17)
noncomputable def an_recipe_numbers : Ann := (.s .z (.s .z (.s (.s .z (.l 261928 [3, 8] (.s .z (.s (.s .z .z) (.s (.s .z .z) .z))))) (.s .z .z))))
theorem oc_recipe_numbers : okCode Tryd.f35.ntmps ((Tryd.f35.body).getD .skip) an_recipe_numbers = true := by kernel_rfl
theorem eq_recipe_numbers (a0 : Value) (h : Heap) (R : Value → Heap → Prop) : sh_recipe_numbers a0 h R = cFunc Tryd.prog ((Tryd.f35.body).getD .skip) an_recipe_numbers Tryd.f35.results.toList #[a0].toList h R := by kernel_rfl
theorem ok_recipe_numbers {a0 : Value} {h : Heap} {R : Value → Heap → Prop} (H : sh_recipe_numbers a0 h R) : FCall Tryd.prog F_recipe_numbers #[a0] h R :=
  fcall_of (by kernel_rfl) (fn := Tryd.f35) (c := (Tryd.f35.body).getD .skip) (an := an_recipe_numbers) (by kernel_rfl) (by kernel_rfl) (by kernel_rfl) oc_recipe_numbers (by kernel_rfl) (Eq.mp (eq_recipe_numbers a0 h R) H)

/-! ### slices.Clone[[]int64,int64]: function 36 -/
def sh_slices_Clone_sl_int64_int64 (a0 : Value) (h : Heap) (R : Value → Heap → Prop) : Prop :=
 vK (binV .sl .eql a0 (.slice none 0 0)) fun v1 =>
 iteK v1 (
 R (.slice none 0 0) h) (
 rowK #[] 2 0 [] h fun v2 h3 =>
 appK (.int .i64 0) 2 1 8 v2 a0 h3 fun v4 h5 =>
 R v4 h5)
noncomputable def an_slices_Clone_sl_int64_int64 : Ann := (.s .z (.s (.s .z (.s (.s .z .z) .z)) (.s .z .z)))
theorem oc_slices_Clone_sl_int64_int64 : okCode Tryd.f36.ntmps ((Tryd.f36.body).getD .skip) an_slices_Clone_sl_int64_int64 = true := by kernel_rfl
theorem eq_slices_Clone_sl_int64_int64 (a0 : Value) (h : Heap) (R : Value → Heap → Prop) : sh_slices_Clone_sl_int64_int64 a0 h R = cFunc Tryd.prog ((Tryd.f36.body).getD .skip) an_slices_Clone_sl_int64_int64 Tryd.f36.results.toList #[a0].toList h R := by kernel_rfl
theorem ok_slices_Clone_sl_int64_int64 {a0 : Value} {h : Heap} {R : Value → Heap → Prop} (H : sh_slices_Clone_sl_int64_int64 a0 h R) : FCall Tryd.prog F_slices_Clone_sl_int64_int64 #[a0] h R :=
  fcall_of (by kernel_rfl) (fn := Tryd.f36) (c := (Tryd.f36.body).getD .skip) (an := an_slices_Clone_sl_int64_int64) (by kernel_rfl) (by kernel_rfl) (by kernel_rfl) oc_slices_Clone_sl_int64_int64 (by kernel_rfl) (Eq.mp (eq_slices_Clone_sl_int64_int64 a0 h R) H)

/-! ### (*strings.Builder).WriteString: function 38 -/
def sh_strings_Builder_WriteString (a0 a1 : Value) (h : Heap) (R : Value → Heap → Prop) : Prop :=
 FCall Tryd.prog F_strings_Builder_copyCheck #[a0] h fun v1 h2 =>
 vK (nilV a0) fun v3 =>
 vK (fldV 1 v3) fun v4 =>
 vK (ldV h2 v4) fun v5 =>
 appK (.int .u8 0) 5 1 1 v5 a1 h2 fun v6 h7 =>
 vK (nilV a0) fun v8 =>
 vK (fldV 1 v8) fun v9 =>
 stK 1 v9 v6 h7 fun v10 h11 =>
 vK (lenstV a1) fun v12 =>
 R (.tuple #[v12, .nilIface]) h11
noncomputable def an_strings_Builder_WriteString : Ann := (.s .z (.s .z (.s .z (.s .z .z))))
theorem oc_strings_Builder_WriteString : okCode Tryd.f38.ntmps ((Tryd.f38.body).getD .skip) an_strings_Builder_WriteString = true := by kernel_rfl
theorem eq_strings_Builder_WriteString (a0 a1 : Value) (h : Heap) (R : Value → Heap → Prop) : sh_strings_Builder_WriteString a0 a1 h R = cFunc Tryd.prog ((Tryd.f38.body).getD .skip) an_strings_Builder_WriteString Tryd.f38.results.toList #[a0, a1].toList h R := by kernel_rfl
theorem ok_strings_Builder_WriteString {a0 a1 : Value} {h : Heap} {R : Value → Heap → Prop} (H : sh_strings_Builder_WriteString a0 a1 h R) : FCall Tryd.prog F_strings_Builder_WriteString #[a0, a1] h R :=
  fcall_of (by kernel_rfl) (fn := Tryd.f38) (c := (Tryd.f38.body).getD .skip) (an := an_strings_Builder_WriteString) (by kernel_rfl) (by kernel_rfl) (by kernel_rfl) oc_strings_Builder_WriteString (by kernel_rfl) (Eq.mp (eq_strings_Builder_WriteString a0 a1 h R) H)

/-! ### smalto|smaltoref13.number: function 48 -/
def sh_ref13_number (a0 : Value) (h : Heap) (R : Value → Heap → Prop) : Prop :=
 vK (binV .s .neq a0 (.string ⟨#[]⟩)) fun v1 =>
 vK (gV v1 true (some a0)) fun v2 =>
 vK (gV v1 true (indV v2 (.int .i64 0))) fun v3 =>
 vK (gV v1 true (binV .i .eql v3 (.int .u8 45))) fun v4 =>
 vK (pickV v1 v4 (.bool false)) fun v5 =>
 joinK (fun J6 =>
 iteK v5 (
 vK (slsV a0 (some (.int .i64 1)) none) fun v10 =>
 J6 [v10] h) (
 J6 [a0] h))
 fun x7 j8 h9 =>
 vK (binV .s .eql (ix x7 0) (.string ⟨#[]⟩)) fun v11 =>
 vK (gV v11 false (some (ix x7 0))) fun v12 =>
 vK (gV v11 false (lenstV v12)) fun v13 =>
 vK (gV v11 false (binV .i .gtr v13 (.int .i64 19))) fun v14 =>
 vK (pickV v11 (.bool true) v14) fun v15 =>
 iteK v15 (
 R (.tuple #[(.int .i64 0), (.bool false)]) h9) (
 loopK [(.int .u64 0), (.int .i64 0)] h9 fun x16 j17 h18 again19 =>
 vK (lenstV (ix x7 0)) fun v20 =>
 vK (binV .i .lss (ix x16 1) v20) fun v21 =>
 iteK v21 (
 vK (indV (ix x7 0) (ix x16 1)) fun v22 =>
 vK (binV .i .lss v22 (.int .u8 48)) fun v23 =>
 vK (gV v23 false (some (ix x7 0))) fun v24 =>
 vK (gV v23 false (some (ix x16 1))) fun v25 =>
 vK (gV v23 false (indV v24 v25)) fun v26 =>
 vK (gV v23 false (binV .i .gtr v26 (.int .u8 57))) fun v27 =>
 vK (pickV v23 (.bool true) v27) fun v28 =>
 iteK v28 (
 R (.tuple #[(.int .i64 0), (.bool false)]) h18) (
 vK (binV .i .mul (.int .u64 10) (ix x16 0)) fun v29 =>
 vK (indV (ix x7 0) (ix x16 1)) fun v30 =>
 vK (binV .i .sub v30 (.int .u8 48)) fun v31 =>
 vK (cviV .u64 v31) fun v32 =>
 vK (binV .i .add v29 v32) fun v33 =>
 vK (binV .i .add (ix x16 1) (.int .i64 1)) fun v34 =>
 again19 [v33, v34] h18)) (
 vK (cviV .i64 (ix x16 0)) fun v35 =>
 iteK v5 (
 vK (binV .i .sub (.int .u64 0) (ix x16 0)) fun v36 =>
 vK (cviV .i64 v36) fun v37 =>
 FCall Tryd.prog F_ref13_decimal #[v37] h18 fun v38 h39 =>
 vK (binV .s .eql v38 a0) fun v40 =>
 R (.tuple #[v37, v40]) h39) (
 FCall Tryd.prog F_ref13_decimal #[v35] h18 fun v41 h42 =>
 vK (binV .s .eql v41 a0) fun v43 =>
 R (.tuple #[v35, v43]) h42)))
noncomputable def an_ref13_number : Ann := (.s .z (.s .z (.s .z (.j 917536 [5] (.s .z (.s .z .z)) (.s (.s .z (.s (.s .z .z) .z)) (.s .z (.s (.s .z (.l 2251799679467724 [6, 7] (.s (.s .z (.s .z .z)) (.s (.s (.s .z (.s (.s .z .z) .z)) .z) .z)))) (.s .z (.s (.s .z (.s .z .z)) (.s .z .z))))))))))
theorem oc_ref13_number : okCode Tryd.f48.ntmps ((Tryd.f48.body).getD .skip) an_ref13_number = true := by kernel_rfl
theorem eq_ref13_number (a0 : Value) (h : Heap) (R : Value → Heap → Prop) : sh_ref13_number a0 h R = cFunc Tryd.prog ((Tryd.f48.body).getD .skip) an_ref13_number Tryd.f48.results.toList #[a0].toList h R := by kernel_rfl
theorem ok_ref13_number {a0 : Value} {h : Heap} {R : Value → Heap → Prop} (H : sh_ref13_number a0 h R) : FCall Tryd.prog F_ref13_number #[a0] h R :=
  fcall_of (by kernel_rfl) (fn := Tryd.f48) (c := (Tryd.f48.body).getD .skip) (an := an_ref13_number) (by kernel_rfl) (by kernel_rfl) (by kernel_rfl) oc_ref13_number (by kernel_rfl) (Eq.mp (eq_ref13_number a0 h R) H)

/-! ### smalto|smaltoref13.numbers: function 49 -/
def sh_ref13_numbers (a0 : Value) (h : Heap) (R : Value → Heap → Prop) : Prop :=
 vK (binV .s .eql a0 (.string ⟨#[]⟩)) fun v1 =>
 iteK v1 (
 R (.tuple #[(.slice none 0 0), (.bool true)]) h) (
 loopK [a0, (.slice none 0 0)] h fun x2 j3 h4 again5 =>
 FCall Tryd.prog F_ref13_cut #[(ix x2 0), (.string ⟨#[44]⟩)] h4 fun v6 h7 =>
 vK (extV v6 0) fun v8 =>
 vK (extV v6 1) fun v9 =>
 vK (extV v6 2) fun v10 =>
 FCall Tryd.prog F_ref13_number #[v8] h7 fun v11 h12 =>
 vK (extV v11 0) fun v13 =>
 vK (extV v11 1) fun v14 =>
 vK (unV .not v14) fun v15 =>
 iteK v15 (
 R (.tuple #[(.slice none 0 0), (.bool false)]) h12) (
 rowK #[(.int .i64 0)] 2 1 [(0, 1, v13)] h12 fun v16 h17 =>
 appK (.int .i64 0) 2 1 8 (ix x2 1) v16 h17 fun v18 h19 =>
 vK (unV .not v10) fun v20 =>
 iteK v20 (
 R (.tuple #[v18, (.bool true)]) h19) (
 again5 [v9, v18] h19)))
noncomputable def an_ref13_numbers : Ann := (.s .z (.s .z (.s (.s .z (.s (.s .z .z) .z)) (.l 17179862013 [0, 4] (.s .z (.s .z (.s (.s .z (.s (.s .z .z) .z)) (.s .z (.s (.s .z (.s (.s .z .z) .z)) .z)))))))))
theorem oc_ref13_numbers : okCode Tryd.f49.ntmps ((Tryd.f49.body).getD .skip) an_ref13_numbers = true := by kernel_rfl
theorem eq_ref13_numbers (a0 : Value) (h : Heap) (R : Value → Heap → Prop) : sh_ref13_numbers a0 h R = cFunc Tryd.prog ((Tryd.f49.body).getD .skip) an_ref13_numbers Tryd.f49.results.toList #[a0].toList h R := by kernel_rfl
theorem ok_ref13_numbers {a0 : Value} {h : Heap} {R : Value → Heap → Prop} (H : sh_ref13_numbers a0 h R) : FCall Tryd.prog F_ref13_numbers #[a0] h R :=
  fcall_of (by kernel_rfl) (fn := Tryd.f49) (c := (Tryd.f49.body).getD .skip) (an := an_ref13_numbers) (by kernel_rfl) (by kernel_rfl) (by kernel_rfl) oc_ref13_numbers (by kernel_rfl) (Eq.mp (eq_ref13_numbers a0 h R) H)

/-! ### smalto|smaltoref10.Decimal: function 50 -/
def sh_ref10_Decimal (a0 : Value) (h : Heap) (R : Value → Heap → Prop) : Prop :=
 vK (binV .i .lss a0 (.int .i64 0)) fun v1 =>
 iteK v1 (
 vK (binV .i .add a0 (.int .i64 1)) fun v2 =>
 vK (unV .neg v2) fun v3 =>
 vK (cviV .u64 v3) fun v4 =>
 vK (binV .i .add v4 (.int .u64 1)) fun v5 =>
 FCall Tryd.prog F_ref10_positive #[v5] h fun v6 h7 =>
 vK (binV .s .add (.string ⟨#[45]⟩) v6) fun v8 =>
 R v8 h7) (
 vK (cviV .u64 a0) fun v9 =>
 FCall Tryd.prog F_ref10_positive #[v9] h fun v10 h11 =>
 R v10 h11)
noncomputable def an_ref10_Decimal : Ann := (.s .z (.s (.s .z (.s (.s .z .z) .z)) (.s .z .z)))
theorem oc_ref10_Decimal : okCode Tryd.f50.ntmps ((Tryd.f50.body).getD .skip) an_ref10_Decimal = true := by kernel_rfl
theorem eq_ref10_Decimal (a0 : Value) (h : Heap) (R : Value → Heap → Prop) : sh_ref10_Decimal a0 h R = cFunc Tryd.prog ((Tryd.f50.body).getD .skip) an_ref10_Decimal Tryd.f50.results.toList #[a0].toList h R := by kernel_rfl
theorem ok_ref10_Decimal {a0 : Value} {h : Heap} {R : Value → Heap → Prop} (H : sh_ref10_Decimal a0 h R) : FCall Tryd.prog F_ref10_Decimal #[a0] h R :=
  fcall_of (by kernel_rfl) (fn := Tryd.f50) (c := (Tryd.f50.body).getD .skip) (an := an_ref10_Decimal) (by kernel_rfl) (by kernel_rfl) (by kernel_rfl) oc_ref10_Decimal (by kernel_rfl) (Eq.mp (eq_ref10_Decimal a0 h R) H)

/-! ### internal|strconv.Itoa: function 52 -/
def sh_internal_strconv_Itoa (a0 : Value) (h : Heap) (R : Value → Heap → Prop) : Prop :=
 FCall Tryd.prog F_internal_strconv_FormatInt #[a0, (.int .i64 10)] h fun v1 h2 =>
 R v1 h2
noncomputable def an_internal_strconv_Itoa : Ann := (.s .z (.s .z .z))
theorem oc_internal_strconv_Itoa : okCode Tryd.f52.ntmps ((Tryd.f52.body).getD .skip) an_internal_strconv_Itoa = true := by kernel_rfl
theorem eq_internal_strconv_Itoa (a0 : Value) (h : Heap) (R : Value → Heap → Prop) : sh_internal_strconv_Itoa a0 h R = cFunc Tryd.prog ((Tryd.f52.body).getD .skip) an_internal_strconv_Itoa Tryd.f52.results.toList #[a0].toList h R := by kernel_rfl
theorem ok_internal_strconv_Itoa {a0 : Value} {h : Heap} {R : Value → Heap → Prop} (H : sh_internal_strconv_Itoa a0 h R) : FCall Tryd.prog F_internal_strconv_Itoa #[a0] h R :=
  fcall_of (by kernel_rfl) (fn := Tryd.f52) (c := (Tryd.f52.body).getD .skip) (an := an_internal_strconv_Itoa) (by kernel_rfl) (by kernel_rfl) (by kernel_rfl) oc_internal_strconv_Itoa (by kernel_rfl) (Eq.mp (eq_internal_strconv_Itoa a0 h R) H)

end Go.Proofs.YtodmlimajnbmkaaDoor
