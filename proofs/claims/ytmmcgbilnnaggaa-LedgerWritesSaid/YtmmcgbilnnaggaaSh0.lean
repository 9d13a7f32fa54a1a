/- What the functions of the program do, read over the heap alone, each tied to the model (written by a program of this session, shal.py). Conditions: none. -/
import Derived.Test.YtmmcgbilnnaggaaEb
import Derived.Test.YtmmcgbilnnaggaaProg
set_option linter.unusedVariables false
set_option maxRecDepth 100000
namespace Go.Proofs.Ytmmcgbilnnaggaa
open Go Go.Crisp
abbrev F_law20_LedgerRace : FuncId := 3
abbrev F_law20_LedgerOrdered : FuncId := 4
abbrev F_law19_ClockJoins : FuncId := 5
abbrev F_law20_LedgerRaces : FuncId := 6
abbrev F_law16_RingBelow : FuncId := 7
abbrev F_law16_RingSizes : FuncId := 8
abbrev F_law19_ClockStamps : FuncId := 9
abbrev F_law19_ClockOrders : FuncId := 10
abbrev F_law16_RingSlides : FuncId := 11
abbrev F_law16_RingReset : FuncId := 12
abbrev F_law16_RingPlays : FuncId := 13
abbrev F_law20_LedgerWrites : FuncId := 14
abbrev F_law20_Lives : FuncId := 15
abbrev F_law20_few : FuncId := 16
abbrev F_ledger_Race : FuncId := 17
abbrev F_ref20_Race : FuncId := 18
abbrev F_law20_ref : FuncId := 19
abbrev F_ledger_Ledger_Add : FuncId := 20
abbrev F_ledger_Ledger_Races : FuncId := 21
abbrev F_law19_lives : FuncId := 22
abbrev F_clock_Join : FuncId := 23
abbrev F_ref19_Equal : FuncId := 24
abbrev F_ref20_May : FuncId := 25
abbrev F_ledger_Ledger_Len : FuncId := 26
abbrev F_ledger_Ledger_At : FuncId := 27
abbrev F_law16_lives : FuncId := 28
abbrev F_ring_New : FuncId := 29
abbrev F_ring_Ring_Put : FuncId := 30
abbrev F_ring_Ring_Len : FuncId := 31
abbrev F_ring_Ring_First : FuncId := 32
abbrev F_ref16_New : FuncId := 33
abbrev F_ring_Ring_Room : FuncId := 34
abbrev F_ring_Ring_Width : FuncId := 35
abbrev F_ring_Ring_Words : FuncId := 36
abbrev F_clock_Ahead : FuncId := 37
abbrev F_ref19_Ahead : FuncId := 38
abbrev F_clock_Apart : FuncId := 39
abbrev F_ref19_Apart : FuncId := 40
abbrev F_clock_Equal : FuncId := 41
abbrev F_ref19_Join : FuncId := 42
abbrev F_clock_New : FuncId := 43
abbrev F_clock_Clock_Tick : FuncId := 44
abbrev F_clock_Clock_Meet : FuncId := 45
abbrev F_clock_Clock_Now : FuncId := 46
abbrev F_ring_Ring_Row : FuncId := 47
abbrev F_ring_Ring_Reset : FuncId := 48
abbrev F_ring_Ring_Next : FuncId := 49
abbrev F_ref06_Same : FuncId := 50
abbrev F_law16_row : FuncId := 51
abbrev F_ref16_Put : FuncId := 52
abbrev F_ref16_Next : FuncId := 53
abbrev F_law16_same : FuncId := 54
abbrev F_ref16_Find : FuncId := 55
abbrev F_ledger_Ledger_Writers : FuncId := 56
abbrev F_ledger_Ledger_Written : FuncId := 57
abbrev F_ledger_meets : FuncId := 58
abbrev F_ledger_may : FuncId := 59
abbrev F_ledger_apart : FuncId := 60
abbrev F_ring_Ring_Has : FuncId := 61
abbrev F_ring_Ring_drop : FuncId := 62
abbrev F_ring_Ring_space : FuncId := 63
abbrev F_slices_Min_sl_int64_int64 : FuncId := 64
abbrev F_slices_Collect_int64 : FuncId := 65
abbrev F_maps_Keys_map_int64_sl_int64_int64_sl_int64 : FuncId := 66
abbrev F_clock_below : FuncId := 67
abbrev F_slices_Equal_clock_Stamp_int : FuncId := 68
abbrev F_ref19_at : FuncId := 69
abbrev F_clock_Clock_in : FuncId := 70
abbrev F_slices_Min_clock_Stamp_int : FuncId := 71
abbrev F_slices_Clone_clock_Stamp_int : FuncId := 72
abbrev F_slices_Clone_sl_int64_int64 : FuncId := 73
abbrev F_slices_Sorted_int : FuncId := 74
abbrev F_maps_Keys_map_int_bool_int_bool : FuncId := 75
abbrev F_slices_AppendSeq_sl_int64_int64 : FuncId := 76
abbrev F_maps_Keys_map_int64_sl_int64_int64_sl_int64__c1 : FuncId := 77
abbrev F_slices_Collect_int : FuncId := 78
abbrev F_slices_Sort_sl_int_int : FuncId := 79
abbrev F_maps_Keys_map_int_bool_int_bool__c1 : FuncId := 80
abbrev F_slices_AppendSeq_sl_int_int : FuncId := 81
abbrev F_slices_pdqsortOrdered_int : FuncId := 82
abbrev F_math_bits_Len : FuncId := 83
abbrev F_slices_insertionSortOrdered_int : FuncId := 84
abbrev F_slices_heapSortOrdered_int : FuncId := 85
abbrev F_slices_breakPatternsOrdered_int : FuncId := 86
abbrev F_slices_choosePivotOrdered_int : FuncId := 87
abbrev F_slices_reverseRangeOrdered_int : FuncId := 88
abbrev F_slices_partialInsertionSortOrdered_int : FuncId := 89
abbrev F_cmp_Less_int : FuncId := 90
abbrev F_slices_partitionEqualOrdered_int : FuncId := 91
abbrev F_slices_partitionOrdered_int : FuncId := 92
abbrev F_math_bits_Len32 : FuncId := 93
abbrev F_math_bits_Len64 : FuncId := 94
abbrev F_slices_siftDownOrdered_int : FuncId := 95
abbrev F_slices_nextPowerOfTwo : FuncId := 96
abbrev F_slices_xorshift_Next : FuncId := 97
abbrev F_slices_medianAdjacentOrdered_int : FuncId := 98
abbrev F_slices_medianOrdered_int : FuncId := 99
abbrev F_cmp_isNaN_int : FuncId := 100
abbrev F_slices_order2Ordered_int : FuncId := 101
theorem flat_ok : flatOkB Try.prog = true := by kernel_rfl
instance : FlatOk Try.prog := ⟨flat_ok⟩
/-! ### smalto|smaltolaw20.LedgerRace: function 3 -/
def sh_law20_LedgerRace (a0 a1 : Value) (h : Heap) (R : Value → Heap → Prop) : Prop :=
 newK (Value.cells a0) 25 h fun v1 h2 =>
 newK (Value.cells a1) 25 h2 fun v3 h4 =>
 FCall Try.prog F_law20_Lives #[] h4 fun v5 h6 =>
 vK (unV .not v5) fun v7 =>
 vK (gV v7 false (ldsV 6 h6 v1)) fun v8 =>
 vK (gV v7 false (ldsV 6 h6 v3)) fun v9 =>
 gK v7 false (fun k51 => rowK #[(.int .i64 0), (.slice none 0 0), (.int .i64 0), (.int .i64 0), (.int .i64 0), (.bool false), (.int .i64 0), (.slice none 0 0), (.int .i64 0), (.int .i64 0), (.int .i64 0), (.bool false)] 25 2 [(0, 6, v8), (6, 6, v9)] h6 k51) h6 fun v10 h11 =>
 gK v7 false (fun k50 => FCall Try.prog F_law20_few #[v10] h11 k50) h11 fun v12 h13 =>
 vK (gV v7 false (unV .not v12)) fun v14 =>
 vK (pickV v7 (.bool true) v14) fun v15 =>
 iteK v15 (
 FCall Try.prog F_law20_Lives #[] h13 fun v16 h17 =>
 R v16 h17) (
 drawK h13 fun S =>
 qK S (fun h13 => ldsV 6 h13 v1) fun v18 =>
 qK S (fun h13 => ldsV 6 h13 v3) fun v19 =>
 qK S (fun h13 => ldsV 6 h13 v1) fun v20 =>
 qK S (fun h13 => ldsV 6 h13 v3) fun v21 =>
 FCall Try.prog F_ledger_Race #[v18, v19] h13 fun v22 h23 =>
 S h23 ∧ (FCall Try.prog F_law20_ref #[v20] h23 fun v24 h25 =>
 S h25 ∧ (FCall Try.prog F_law20_ref #[v21] h25 fun v26 h27 =>
 drawK h27 fun S =>
 FCall Try.prog F_ref20_Race #[v24, v26] h27 fun v28 h29 =>
 drawK h29 fun S =>
 vK (binV .b .eql v22 v28) fun v30 =>
 qK S (fun h29 => gV v30 true (ldsV 6 h29 v1)) fun v31 =>
 qK S (fun h29 => gV v30 true (ldsV 6 h29 v3)) fun v32 =>
 qK S (fun h29 => gV v30 true (ldsV 6 h29 v3)) fun v33 =>
 qK S (fun h29 => gV v30 true (ldsV 6 h29 v1)) fun v34 =>
 gK v30 true (fun k49 => FCall Try.prog F_ledger_Race #[v31, v32] h29 k49) h29 fun v35 h36 =>
 S h36 ∧ (gK v30 true (fun k48 => FCall Try.prog F_ledger_Race #[v33, v34] h36 k48) h36 fun v37 h38 =>
 drawK h38 fun S =>
 vK (gV v30 true (binV .b .eql v35 v37)) fun v39 =>
 vK (pickV v30 v39 (.bool false)) fun v40 =>
 qK S (fun h38 => gV v40 true (ldsV 6 h38 v1)) fun v41 =>
 qK S (fun h38 => gV v40 true (ldsV 6 h38 v1)) fun v42 =>
 gK v40 true (fun k47 => FCall Try.prog F_ledger_Race #[v41, v42] h38 k47) h38 fun v43 h44 =>
 vK (gV v40 true (unV .not v43)) fun v45 =>
 vK (pickV v40 v45 (.bool false)) fun v46 =>
 R v46 h44))))
noncomputable def an_law20_LedgerRace : Ann := (.s .z (.s (.s .z (.s (.s .z .z) .z)) (.s (.d [(0, .r), (1, .r), (3, .r), (5, .r), (2, .e), (4, .e), (6, .f), (7, .f), (8, .r), (9, .r), (10, .r), (11, .r), (13, .r), (14, .r), (12, .e), (15, .f), (16, .r), (17, .r), (18, .r), (19, .r), (20, .r), (21, .n), (22, .r), (23, .r), (24, .r)]) .z)))
theorem oc_law20_LedgerRace : okCode Try.f3.ntmps ((Try.f3.body).getD .skip) an_law20_LedgerRace = true := by kernel_rfl
theorem eq_law20_LedgerRace (a0 a1 : Value) (h : Heap) (R : Value → Heap → Prop) : sh_law20_LedgerRace a0 a1 h R = cFunc Try.prog ((Try.f3.body).getD .skip) an_law20_LedgerRace Try.f3.results.toList #[a0, a1].toList h R := by kernel_rfl
theorem ok_law20_LedgerRace {a0 a1 : Value} {h : Heap} {R : Value → Heap → Prop} (H : sh_law20_LedgerRace a0 a1 h R) : FCall Try.prog F_law20_LedgerRace #[a0, a1] h R :=
  fcall_of (by kernel_rfl) (fn := Try.f3) (c := (Try.f3.body).getD .skip) (an := an_law20_LedgerRace) (by kernel_rfl) (by kernel_rfl) (by kernel_rfl) oc_law20_LedgerRace (by kernel_rfl) (Eq.mp (eq_law20_LedgerRace a0 a1 h R) H)

/-! ### smalto|smaltolaw20.LedgerOrdered: function 4 -/
def sh_law20_LedgerOrdered (a0 a1 : Value) (h : Heap) (R : Value → Heap → Prop) : Prop :=
 FCall Try.prog F_law20_Lives #[] h fun v1 h2 =>
 vK (unV .not v1) fun v3 =>
 vK (gV v3 false (some a0)) fun v4 =>
 gK v3 false (fun k45 => FCall Try.prog F_law20_few #[v4] h2 k45) h2 fun v5 h6 =>
 vK (gV v3 false (unV .not v5)) fun v7 =>
 vK (pickV v3 (.bool true) v7) fun v8 =>
 iteK v8 (
 FCall Try.prog F_law20_Lives #[] h6 fun v9 h10 =>
 R v9 h10) (
 newK #[(.slice none 0 0)] 35 h6 fun v11 h12 =>
 vK (lenslV a0) fun v13 =>
 loopK [(.int .i64 0)] h12 fun x14 j15 h16 again17 =>
 vK (binV .i .lss (ix x14 0) v13) fun v18 =>
 iteK v18 (
 vK (idxV 6 a0 (ix x14 0)) fun v19 =>
 vK (ldsV 6 h16 v19) fun v20 =>
 newK #[(.int .i64 0), (.slice none 0 0), (.int .i64 0), (.int .i64 0), (.int .i64 0), (.bool false)] 25 h16 fun v21 h22 =>
 stK 6 v21 v20 h22 fun v23 h24 =>
 iteK a1 (
 rowK #[(.int .i64 0), (.int .i64 0), (.int .i64 0)] 3 3 [(0, 1, (ix x14 0)), (1, 1, (ix x14 0)), (2, 1, (ix x14 0))] h24 fun v25 h26 =>
 vK (fldV 1 v21) fun v27 =>
 stK 1 v27 v25 h26 fun v28 h29 =>
 vK (ldsV 6 h29 v21) fun v30 =>
 FCall Try.prog F_ledger_Ledger_Add #[v11, v30] h29 fun v31 h32 =>
 vK (binV .i .add (ix x14 0) (.int .i64 1)) fun v33 =>
 again17 [v33] h32) (
 vK (fldV 5 v21) fun v34 =>
 stK 1 v34 (.bool false) h24 fun v35 h36 =>
 vK (ldsV 6 h36 v21) fun v37 =>
 FCall Try.prog F_ledger_Ledger_Add #[v11, v37] h36 fun v38 h39 =>
 vK (binV .i .add (ix x14 0) (.int .i64 1)) fun v40 =>
 again17 [v40] h39)) (
 FCall Try.prog F_ledger_Ledger_Races #[v11] h16 fun v41 h42 =>
 vK (lenslV v41) fun v43 =>
 vK (binV .i .eql v43 (.int .i64 0)) fun v44 =>
 R v44 h42))
noncomputable def an_law20_LedgerOrdered : Ann := (.s .z (.s (.s .z (.s (.s .z .z) .z)) (.s .z (.s (.s .z (.l 8589672640 [18] (.s .z (.s (.s .z .z) (.s (.s .z (.s (.s .z (.s .z .z)) .z)) .z))))) (.s .z .z)))))
theorem oc_law20_LedgerOrdered : okCode Try.f4.ntmps ((Try.f4.body).getD .skip) an_law20_LedgerOrdered = true := by kernel_rfl
theorem eq_law20_LedgerOrdered (a0 a1 : Value) (h : Heap) (R : Value → Heap → Prop) : sh_law20_LedgerOrdered a0 a1 h R = cFunc Try.prog ((Try.f4.body).getD .skip) an_law20_LedgerOrdered Try.f4.results.toList #[a0, a1].toList h R := by kernel_rfl
theorem ok_law20_LedgerOrdered {a0 a1 : Value} {h : Heap} {R : Value → Heap → Prop} (H : sh_law20_LedgerOrdered a0 a1 h R) : FCall Try.prog F_law20_LedgerOrdered #[a0, a1] h R :=
  fcall_of (by kernel_rfl) (fn := Try.f4) (c := (Try.f4.body).getD .skip) (an := an_law20_LedgerOrdered) (by kernel_rfl) (by kernel_rfl) (by kernel_rfl) oc_law20_LedgerOrdered (by kernel_rfl) (Eq.mp (eq_law20_LedgerOrdered a0 a1 h R) H)

/-! ### smalto|smaltolaw19.ClockJoins: function 5 -/
def sh_law19_ClockJoins (a0 a1 : Value) (h : Heap) (R : Value → Heap → Prop) : Prop :=
 FCall Try.prog F_law19_lives #[] h fun v1 h2 =>
 vK (unV .not v1) fun v3 =>
 vK (gV v3 false (some a0)) fun v4 =>
 vK (gV v3 false (lenslV v4)) fun v5 =>
 vK (gV v3 false (binV .i .gtr v5 (.int .i64 30))) fun v6 =>
 vK (pickV v3 (.bool true) v6) fun v7 =>
 vK (gV v7 false (some a1)) fun v8 =>
 vK (gV v7 false (lenslV v8)) fun v9 =>
 vK (gV v7 false (binV .i .gtr v9 (.int .i64 30))) fun v10 =>
 vK (pickV v7 (.bool true) v10) fun v11 =>
 iteK v11 (
 FCall Try.prog F_law19_lives #[] h2 fun v12 h13 =>
 R v12 h13) (
 rowK #[] 3 0 [] h2 fun v14 h15 =>
 appK (.int .i64 0) 3 1 8 v14 a0 h15 fun v16 h17 =>
 appK (.int .i64 0) 3 1 8 v16 a1 h17 fun v18 h19 =>
 vK (lenslV v18) fun v20 =>
 loopK [(.int .i64 0)] h19 fun x21 j22 h23 again24 =>
 vK (binV .i .lss (ix x21 0) v20) fun v25 =>
 iteK v25 (
 vK (idxV 1 v18 (ix x21 0)) fun v26 =>
 vK (ldV h23 v26) fun v27 =>
 vK (binV .i .lss v27 (.int .i64 0)) fun v28 =>
 iteK v28 (
 R (.bool true) h23) (
 vK (binV .i .add (ix x21 0) (.int .i64 1)) fun v29 =>
 again24 [v29] h23)) (
 FCall Try.prog F_clock_Join #[a0, a1] h23 fun v30 h31 =>
 vK (lenslV v30) fun v32 =>
 vK (lenslV a0) fun v33 =>
 vK (lenslV a1) fun v34 =>
 vK (maxV v33 v34) fun v35 =>
 vK (binV .i .neq v32 v35) fun v36 =>
 vK (gV v36 false (some v30)) fun v37 =>
 vK (gV v36 false (some a0)) fun v38 =>
 gK v36 false (fun k108 => FCall Try.prog F_clock_Join #[v37, v38] h31 k108) h31 fun v39 h40 =>
 vK (gV v36 false (some v30)) fun v41 =>
 gK v36 false (fun k107 => FCall Try.prog F_ref19_Equal #[v39, v41] h40 k107) h40 fun v42 h43 =>
 vK (gV v36 false (unV .not v42)) fun v44 =>
 vK (pickV v36 (.bool true) v44) fun v45 =>
 vK (gV v45 false (some a1)) fun v46 =>
 vK (gV v45 false (some v30)) fun v47 =>
 gK v45 false (fun k106 => FCall Try.prog F_clock_Join #[v46, v47] h43 k106) h43 fun v48 h49 =>
 vK (gV v45 false (some v30)) fun v50 =>
 gK v45 false (fun k105 => FCall Try.prog F_ref19_Equal #[v48, v50] h49 k105) h49 fun v51 h52 =>
 vK (gV v45 false (unV .not v51)) fun v53 =>
 vK (pickV v45 (.bool true) v53) fun v54 =>
 vK (gV v54 false (some a1)) fun v55 =>
 vK (gV v54 false (some a0)) fun v56 =>
 gK v54 false (fun k104 => FCall Try.prog F_clock_Join #[v55, v56] h52 k104) h52 fun v57 h58 =>
 vK (gV v54 false (some v30)) fun v59 =>
 gK v54 false (fun k103 => FCall Try.prog F_ref19_Equal #[v57, v59] h58 k103) h58 fun v60 h61 =>
 vK (gV v54 false (unV .not v60)) fun v62 =>
 vK (pickV v54 (.bool true) v62) fun v63 =>
 iteK v63 (
 R (.bool false) h61) (
 vK (lenslV v30) fun v64 =>
 loopK [(.int .i64 0)] h61 fun x65 j66 h67 again68 =>
 vK (binV .i .lss (ix x65 0) v64) fun v69 =>
 iteK v69 (
 vK (idxV 1 v30 (ix x65 0)) fun v70 =>
 vK (ldV h67 v70) fun v71 =>
 joinK (fun J72 =>
 vK (lenslV a0) fun v76 =>
 vK (binV .i .lss (ix x65 0) v76) fun v77 =>
 iteK v77 (
 vK (idxV 1 a0 (ix x65 0)) fun v78 =>
 vK (ldV h67 v78) fun v79 =>
 J72 [v79] h67) (
 J72 [(.int .i64 0)] h67))
 fun x73 j74 h75 =>
 joinK (fun J80 =>
 vK (lenslV a1) fun v84 =>
 vK (binV .i .lss (ix x65 0) v84) fun v85 =>
 iteK v85 (
 vK (idxV 1 a1 (ix x65 0)) fun v86 =>
 vK (ldV h75 v86) fun v87 =>
 J80 [v87] h75) (
 J80 [(.int .i64 0)] h75))
 fun x81 j82 h83 =>
 vK (binV .i .lss v71 (ix x73 0)) fun v88 =>
 vK (gV v88 false (some v71)) fun v89 =>
 vK (gV v88 false (some (ix x81 0))) fun v90 =>
 vK (gV v88 false (binV .i .lss v89 v90)) fun v91 =>
 vK (pickV v88 (.bool true) v91) fun v92 =>
 vK (gV v92 false (some v71)) fun v93 =>
 vK (gV v92 false (some (ix x73 0))) fun v94 =>
 vK (gV v92 false (binV .i .neq v93 v94)) fun v95 =>
 vK (gV v92 false (some v95)) fun v96 =>
 vK (gV v96 true (some v71)) fun v97 =>
 vK (gV v96 true (some (ix x81 0))) fun v98 =>
 vK (gV v96 true (binV .i .neq v97 v98)) fun v99 =>
 vK (gV v92 false (pickV v96 v99 (.bool false))) fun v100 =>
 vK (pickV v92 (.bool true) v100) fun v101 =>
 iteK v101 (
 R (.bool false) h83) (
 vK (binV .i .add (ix x65 0) (.int .i64 1)) fun v102 =>
 again68 [v102] h83)) (
 R (.bool true) h67))))
noncomputable def an_law19_ClockJoins : Ann := (.s .z (.s (.s .z (.s (.s .z .z) .z)) (.s (.s .z (.l 272730423376 [31] (.s .z (.s (.s .z .z) (.s (.s .z (.s .z (.s (.s .z .z) .z))) .z))))) (.s .z (.s (.s .z (.s (.s .z .z) .z)) (.s (.s .z (.l 41538374868240842096381013472055056 [75] (.s .z (.s (.s .z .z) (.s (.s .z (.s .z (.j 308276084001730439550075904 [10] (.s .z (.s .z .z)) (.j 78918677504442992524819171328 [11] (.s .z (.s .z .z)) (.s .z (.s (.s .z .z) .z)))))) .z))))) (.s .z .z)))))))
theorem oc_law19_ClockJoins : okCode Try.f5.ntmps ((Try.f5.body).getD .skip) an_law19_ClockJoins = true := by kernel_rfl
theorem eq_law19_ClockJoins (a0 a1 : Value) (h : Heap) (R : Value → Heap → Prop) : sh_law19_ClockJoins a0 a1 h R = cFunc Try.prog ((Try.f5.body).getD .skip) an_law19_ClockJoins Try.f5.results.toList #[a0, a1].toList h R := by kernel_rfl
theorem ok_law19_ClockJoins {a0 a1 : Value} {h : Heap} {R : Value → Heap → Prop} (H : sh_law19_ClockJoins a0 a1 h R) : FCall Try.prog F_law19_ClockJoins #[a0, a1] h R :=
  fcall_of (by kernel_rfl) (fn := Try.f5) (c := (Try.f5.body).getD .skip) (an := an_law19_ClockJoins) (by kernel_rfl) (by kernel_rfl) (by kernel_rfl) oc_law19_ClockJoins (by kernel_rfl) (Eq.mp (eq_law19_ClockJoins a0 a1 h R) H)

/-! ### smalto|smaltolaw20.LedgerRaces: function 6 -/
def sh_law20_LedgerRaces (a0 : Value) (h : Heap) (R : Value → Heap → Prop) : Prop :=
 FCall Try.prog F_law20_Lives #[] h fun v1 h2 =>
 vK (unV .not v1) fun v3 =>
 vK (gV v3 false (some a0)) fun v4 =>
 gK v3 false (fun k210 => FCall Try.prog F_law20_few #[v4] h2 k210) h2 fun v5 h6 =>
 vK (gV v3 false (unV .not v5)) fun v7 =>
 vK (pickV v3 (.bool true) v7) fun v8 =>
 iteK v8 (
 FCall Try.prog F_law20_Lives #[] h6 fun v9 h10 =>
 R v9 h10) (
 newK #[(.slice none 0 0)] 35 h6 fun v11 h12 =>
 vK (lenslV a0) fun v13 =>
 loopK [(.slice none 0 0), (.int .i64 0)] h12 fun x14 j15 h16 again17 =>
 vK (binV .i .lss (ix x14 1) v13) fun v18 =>
 iteK v18 (
 vK (idxV 6 a0 (ix x14 1)) fun v19 =>
 vK (ldsV 6 h16 v19) fun v20 =>
 newK #[(.int .i64 0), (.slice none 0 0), (.int .i64 0), (.int .i64 0), (.int .i64 0), (.bool false)] 25 h16 fun v21 h22 =>
 stK 6 v21 v20 h22 fun v23 h24 =>
 rowK #[] 3 0 [] h24 fun v25 h26 =>
 vK (fldV 1 v21) fun v27 =>
 vK (ldV h26 v27) fun v28 =>
 appK (.int .i64 0) 3 1 8 v25 v28 h26 fun v29 h30 =>
 vK (ldsV 6 h30 v21) fun v31 =>
 newK #[(.int .i64 0), (.slice none 0 0), (.int .i64 0), (.int .i64 0), (.int .i64 0), (.bool false)] 25 h30 fun v32 h33 =>
 stK 6 v32 v31 h33 fun v34 h35 =>
 vK (fldV 1 v32) fun v36 =>
 stK 1 v36 v29 h35 fun v37 h38 =>
 drawK h38 fun S =>
 qK S (fun h38 => ldsV 6 h38 v32) fun v39 =>
 qK S (fun h38 => ldsV 6 h38 v21) fun v40 =>
 FCall Try.prog F_ledger_Ledger_Add #[v11, v39] h38 fun v41 h42 =>
 S h42 ∧ (FCall Try.prog F_law20_ref #[v40] h42 fun v43 h44 =>
 FCall Try.prog F_ref20_May #[v43] h44 fun v45 h46 =>
 vK (binV .b .neq v41 v45) fun v47 =>
 iteK v47 (
 R (.bool false) h46) (
 vK (lenslV v29) fun v48 =>
 loopK [(.int .i64 0)] h46 fun x49 j50 h51 again52 =>
 vK (binV .i .lss (ix x49 0) v48) fun v53 =>
 iteK v53 (
 vK (idxV 1 v29 (ix x49 0)) fun v54 =>
 vK (ldV h51 v54) fun v55 =>
 vK (binV .i .add v55 (.int .i64 3)) fun v56 =>
 vK (idxV 1 v29 (ix x49 0)) fun v57 =>
 stK 1 v57 v56 h51 fun v58 h59 =>
 vK (binV .i .add (ix x49 0) (.int .i64 1)) fun v60 =>
 again52 [v60] h59) (
 vK (ldsV 6 h51 v21) fun v61 =>
 FCall Try.prog F_law20_ref #[v61] h51 fun v62 h63 =>
 FCall Try.prog F_ref20_May #[v62] h63 fun v64 h65 =>
 iteK v64 (
 vK (ldsV 6 h65 v21) fun v66 =>
 rowK #[(.int .i64 0), (.slice none 0 0), (.int .i64 0), (.int .i64 0), (.int .i64 0), (.bool false)] 25 1 [(0, 6, v66)] h65 fun v67 h68 =>
 appK (.agg #[.int .i64 0, .slice none 0 0, .int .i64 0, .int .i64 0, .int .i64 0, .bool false]) 25 6 64 (ix x14 0) v67 h68 fun v69 h70 =>
 vK (binV .i .add (ix x14 1) (.int .i64 1)) fun v71 =>
 again17 [v69, v71] h70) (
 vK (binV .i .add (ix x14 1) (.int .i64 1)) fun v72 =>
 again17 [(ix x14 0), v72] h65))))) (
 vK (lenslV (ix x14 0)) fun v73 =>
 loopK [(.slice none 0 0), (.int .i64 0)] h16 fun x74 j75 h76 again77 =>
 vK (binV .i .lss (ix x74 1) v73) fun v78 =>
 iteK v78 (
 vK (binV .i .add (ix x74 1) (.int .i64 1)) fun v79 =>
 loopK [(ix x74 0), v79] h76 fun x80 j81 h82 again83 =>
 vK (lenslV (ix x14 0)) fun v84 =>
 vK (binV .i .lss (ix x80 1) v84) fun v85 =>
 iteK v85 (
 drawK h82 fun S =>
 vK (idxV 6 (ix x14 0) (ix x74 1)) fun v86 =>
 qK S (fun h82 => ldsV 6 h82 v86) fun v87 =>
 vK (idxV 6 (ix x14 0) (ix x80 1)) fun v88 =>
 qK S (fun h82 => ldsV 6 h82 v88) fun v89 =>
 FCall Try.prog F_law20_ref #[v87] h82 fun v90 h91 =>
 S h91 ∧ (FCall Try.prog F_law20_ref #[v89] h91 fun v92 h93 =>
 FCall Try.prog F_ref20_Race #[v90, v92] h93 fun v94 h95 =>
 iteK v94 (
 vK ((fillL #[(.int .i64 0), (.int .i64 0)] [(0, 1, (ix x74 1)), (1, 1, (ix x80 1))]).map .agg) fun v96 =>
 rowK #[(.int .i64 0), (.int .i64 0)] 44 1 [(0, 2, v96)] h95 fun v97 h98 =>
 appK (.agg #[.int .i64 0, .int .i64 0]) 44 2 16 (ix x80 0) v97 h98 fun v99 h100 =>
 vK (binV .i .add (ix x80 1) (.int .i64 1)) fun v101 =>
 again83 [v99, v101] h100) (
 vK (binV .i .add (ix x80 1) (.int .i64 1)) fun v102 =>
 again83 [(ix x80 0), v102] h95))) (
 vK (binV .i .add (ix x74 1) (.int .i64 1)) fun v103 =>
 again77 [(ix x80 0), v103] h82)) (
 FCall Try.prog F_ledger_Ledger_Races #[v11] h76 fun v104 h105 =>
 FCall Try.prog F_ledger_Ledger_Len #[v11] h105 fun v106 h107 =>
 vK (lenslV (ix x14 0)) fun v108 =>
 vK (binV .i .neq v106 v108) fun v109 =>
 vK (gV v109 false (some v104)) fun v110 =>
 vK (gV v109 false (lenslV v110)) fun v111 =>
 vK (gV v109 false (some (ix x74 0))) fun v112 =>
 vK (gV v109 false (lenslV v112)) fun v113 =>
 vK (gV v109 false (binV .i .neq v111 v113)) fun v114 =>
 vK (pickV v109 (.bool true) v114) fun v115 =>
 iteK v115 (
 R (.bool false) h107) (
 vK (lenslV v104) fun v116 =>
 loopK [(.int .i64 0)] h107 fun x117 j118 h119 again120 =>
 vK (binV .i .lss (ix x117 0) v116) fun v121 =>
 iteK v121 (
 vK (idxV 2 v104 (ix x117 0)) fun v122 =>
 vK (ldsV 2 h119 v122) fun v123 =>
 vK (idxV 2 (ix x74 0) (ix x117 0)) fun v124 =>
 vK (ldsV 2 h119 v124) fun v125 =>
 vK (binV (.st [(0, 1, .i), (1, 1, .i)]) .neq v123 v125) fun v126 =>
 iteK v126 (
 R (.bool false) h119) (
 vK (binV .i .add (ix x117 0) (.int .i64 1)) fun v127 =>
 again120 [v127] h119)) (
 vK (lenslV (ix x14 0)) fun v128 =>
 loopK [(.int .i64 0)] h119 fun x129 j130 h131 again132 =>
 vK (binV .i .lss (ix x129 0) v128) fun v133 =>
 iteK v133 (
 vK (idxV 6 (ix x14 0) (ix x129 0)) fun v134 =>
 vK (ldsV 6 h131 v134) fun v135 =>
 newK #[(.int .i64 0), (.slice none 0 0), (.int .i64 0), (.int .i64 0), (.int .i64 0), (.bool false)] 25 h131 fun v136 h137 =>
 stK 6 v136 v135 h137 fun v138 h139 =>
 FCall Try.prog F_ledger_Ledger_At #[v11, (ix x129 0)] h139 fun v140 h141 =>
 vK (extV v140 0) fun v142 =>
 vK (extV v140 1) fun v143 =>
 newK #[(.int .i64 0), (.slice none 0 0), (.int .i64 0), (.int .i64 0), (.int .i64 0), (.bool false)] 25 h141 fun v144 h145 =>
 stK 6 v144 v142 h145 fun v146 h147 =>
 vK (unV .not v143) fun v148 =>
 vK (gV v148 false (fldV 0 v144)) fun v149 =>
 vK (gV v148 false (ldV h147 v149)) fun v150 =>
 vK (gV v148 false (fldV 0 v136)) fun v151 =>
 vK (gV v148 false (ldV h147 v151)) fun v152 =>
 vK (gV v148 false (binV .i .neq v150 v152)) fun v153 =>
 vK (pickV v148 (.bool true) v153) fun v154 =>
 vK (gV v154 false (fldV 2 v144)) fun v155 =>
 vK (gV v154 false (ldV h147 v155)) fun v156 =>
 vK (gV v154 false (fldV 2 v136)) fun v157 =>
 vK (gV v154 false (ldV h147 v157)) fun v158 =>
 vK (gV v154 false (binV .i .neq v156 v158)) fun v159 =>
 vK (pickV v154 (.bool true) v159) fun v160 =>
 vK (gV v160 false (fldV 3 v144)) fun v161 =>
 vK (gV v160 false (ldV h147 v161)) fun v162 =>
 vK (gV v160 false (fldV 3 v136)) fun v163 =>
 vK (gV v160 false (ldV h147 v163)) fun v164 =>
 vK (gV v160 false (binV .i .neq v162 v164)) fun v165 =>
 vK (pickV v160 (.bool true) v165) fun v166 =>
 vK (gV v166 false (fldV 4 v144)) fun v167 =>
 vK (gV v166 false (ldV h147 v167)) fun v168 =>
 vK (gV v166 false (fldV 4 v136)) fun v169 =>
 vK (gV v166 false (ldV h147 v169)) fun v170 =>
 vK (gV v166 false (binV .i .neq v168 v170)) fun v171 =>
 vK (pickV v166 (.bool true) v171) fun v172 =>
 vK (gV v172 false (fldV 5 v144)) fun v173 =>
 vK (gV v172 false (ldV h147 v173)) fun v174 =>
 vK (gV v172 false (fldV 5 v136)) fun v175 =>
 vK (gV v172 false (ldV h147 v175)) fun v176 =>
 vK (gV v172 false (binV .b .neq v174 v176)) fun v177 =>
 vK (pickV v172 (.bool true) v177) fun v178 =>
 vK (gV v178 false (fldV 1 v144)) fun v179 =>
 vK (gV v178 false (ldV h147 v179)) fun v180 =>
 vK (gV v178 false (fldV 1 v136)) fun v181 =>
 vK (gV v178 false (ldV h147 v181)) fun v182 =>
 gK v178 false (fun k188 => FCall Try.prog F_ref19_Equal #[v180, v182] h147 k188) h147 fun v183 h184 =>
 vK (gV v178 false (unV .not v183)) fun v185 =>
 vK (pickV v178 (.bool true) v185) fun v186 =>
 iteK v186 (
 R (.bool false) h184) (
 vK (binV .i .add (ix x129 0) (.int .i64 1)) fun v187 =>
 again132 [v187] h184)) (
 vK (lenslV (ix x14 0)) fun v189 =>
 FCall Try.prog F_ledger_Ledger_At #[v11, v189] h131 fun v190 h191 =>
 vK (extV v190 0) fun v192 =>
 vK (extV v190 1) fun v193 =>
 newK #[(.int .i64 0), (.slice none 0 0), (.int .i64 0), (.int .i64 0), (.int .i64 0), (.bool false)] 25 h191 fun v194 h195 =>
 stK 6 v194 v192 h195 fun v196 h197 =>
 FCall Try.prog F_ledger_Ledger_At #[v11, (.int .i64 (-1))] h197 fun v198 h199 =>
 vK (extV v198 0) fun v200 =>
 vK (extV v198 1) fun v201 =>
 newK #[(.int .i64 0), (.slice none 0 0), (.int .i64 0), (.int .i64 0), (.int .i64 0), (.bool false)] 25 h199 fun v202 h203 =>
 stK 6 v202 v200 h203 fun v204 h205 =>
 vK (unV .not v193) fun v206 =>
 vK (gV v206 true (some v201)) fun v207 =>
 vK (gV v206 true (unV .not v207)) fun v208 =>
 vK (pickV v206 v208 (.bool false)) fun v209 =>
 R v209 h205))))))
noncomputable def an_law20_LedgerRaces : Ann := (.s .z (.s (.s .z (.s (.s .z .z) .z)) (.s .z (.s .z (.s (.s .z (.l 1180591620708821369812 [4, 33] (.s .z (.s (.s .z .z) (.s (.s .z (.s .z (.s .z (.s .z (.s (.s (.d [(0, .r), (2, .r), (1, .e), (3, .n), (4, .n), (5, .r)]) (.s (.s .z .z) .z)) (.s (.s .z (.l 4607182418800017920 [52] (.s .z (.s (.s .z .z) (.s (.s .z .z) .z))))) (.s .z (.s .z .z)))))))) .z))))) (.s .z (.s (.s .z (.l 2535301195734092320123761204224 [10, 72] (.s .z (.s (.s .z .z) (.s (.s .z (.s .z (.l 1267650449112501949668056372224 [10, 12] (.s (.s .z (.s .z .z)) (.s (.s (.d [(0, .r), (1, .r), (2, .r), (3, .r), (5, .r), (6, .r), (7, .r), (8, .r), (4, .e), (9, .n), (10, .n)]) (.s .z .z)) .z))))) .z))))) (.s .z (.s (.s .z (.s (.s .z .z) .z)) (.s (.s .z (.l 340240828546070184842346363461134467076 [115] (.s .z (.s (.s .z .z) (.s (.s .z (.s .z (.s (.s .z .z) .z))) .z))))) (.s (.s .z (.l 98079714615416885573804742053865933898100874092678184964 [130] (.s .z (.s (.s .z .z) (.s (.s .z (.s .z (.s .z (.s (.s .z .z) .z)))) .z))))) (.s .z (.s .z (.s .z .z))))))))))))))
theorem oc_law20_LedgerRaces : okCode Try.f6.ntmps ((Try.f6.body).getD .skip) an_law20_LedgerRaces = true := by kernel_rfl
theorem eq_law20_LedgerRaces (a0 : Value) (h : Heap) (R : Value → Heap → Prop) : sh_law20_LedgerRaces a0 h R = cFunc Try.prog ((Try.f6.body).getD .skip) an_law20_LedgerRaces Try.f6.results.toList #[a0].toList h R := by kernel_rfl
theorem ok_law20_LedgerRaces {a0 : Value} {h : Heap} {R : Value → Heap → Prop} (H : sh_law20_LedgerRaces a0 h R) : FCall Try.prog F_law20_LedgerRaces #[a0] h R :=
  fcall_of (by kernel_rfl) (fn := Try.f6) (c := (Try.f6.body).getD .skip) (an := an_law20_LedgerRaces) (by kernel_rfl) (by kernel_rfl) (by kernel_rfl) oc_law20_LedgerRaces (by kernel_rfl) (Eq.mp (eq_law20_LedgerRaces a0 h R) H)

/-! ### smalto|smaltolaw16.RingBelow: function 7 -/
def sh_law16_RingBelow (a0 a1 : Value) (h : Heap) (R : Value → Heap → Prop) : Prop :=
 FCall Try.prog F_law16_lives #[] h fun v1 h2 =>
 vK (unV .not v1) fun v3 =>
 iteK v3 (
 R (.bool false) h2) (
 FCall Try.prog F_ring_New #[(.int .i64 1), (.int .i64 1)] h2 fun v4 h5 =>
 vK (cviV .i64 a0) fun v6 =>
 rowK #[(.int .i64 0)] 2 1 [(0, 1, (.int .i64 1))] h5 fun v7 h8 =>
 FCall Try.prog F_ring_Ring_Put #[v4, v6, v7] h8 fun v9 h10 =>
 vK (unV .not v9) fun v11 =>
 iteK v11 (
 R (.bool false) h10) (
 vK (cviV .i64 a1) fun v12 =>
 rowK #[(.int .i64 0)] 2 1 [(0, 1, (.int .i64 2))] h10 fun v13 h14 =>
 FCall Try.prog F_ring_Ring_Put #[v4, v12, v13] h14 fun v15 h16 =>
 vK (binV .i .gtr a1 a0) fun v17 =>
 vK (binV .b .neq v15 v17) fun v18 =>
 vK (gV v18 false (some v4)) fun v19 =>
 gK v18 false (fun k35 => FCall Try.prog F_ring_Ring_Len #[v19] h16 k35) h16 fun v20 h21 =>
 vK (gV v18 false (binV .i .neq v20 (.int .i64 1))) fun v22 =>
 vK (pickV v18 (.bool true) v22) fun v23 =>
 iteK v23 (
 R (.bool false) h21) (
 FCall Try.prog F_ring_Ring_First #[v4] h21 fun v24 h25 =>
 vK (extV v24 0) fun v26 =>
 vK (extV v24 1) fun v27 =>
 vK (gV v27 true (some v26)) fun v28 =>
 vK (gV v27 true (some a0)) fun v29 =>
 vK (gV v27 true (some a1)) fun v30 =>
 vK (gV v27 true (maxV v29 v30)) fun v31 =>
 vK (gV v27 true (cviV .i64 v31)) fun v32 =>
 vK (gV v27 true (binV .i .eql v28 v32)) fun v33 =>
 vK (pickV v27 v33 (.bool false)) fun v34 =>
 R v34 h25)))
noncomputable def an_law16_RingBelow : Ann := (.s .z (.s (.s .z (.s (.s .z .z) .z)) (.s .z (.s (.s .z (.s (.s .z .z) .z)) (.s .z (.s (.s .z (.s (.s .z .z) .z)) (.s .z (.s .z .z))))))))
theorem oc_law16_RingBelow : okCode Try.f7.ntmps ((Try.f7.body).getD .skip) an_law16_RingBelow = true := by kernel_rfl
theorem eq_law16_RingBelow (a0 a1 : Value) (h : Heap) (R : Value → Heap → Prop) : sh_law16_RingBelow a0 a1 h R = cFunc Try.prog ((Try.f7.body).getD .skip) an_law16_RingBelow Try.f7.results.toList #[a0, a1].toList h R := by kernel_rfl
theorem ok_law16_RingBelow {a0 a1 : Value} {h : Heap} {R : Value → Heap → Prop} (H : sh_law16_RingBelow a0 a1 h R) : FCall Try.prog F_law16_RingBelow #[a0, a1] h R :=
  fcall_of (by kernel_rfl) (fn := Try.f7) (c := (Try.f7.body).getD .skip) (an := an_law16_RingBelow) (by kernel_rfl) (by kernel_rfl) (by kernel_rfl) oc_law16_RingBelow (by kernel_rfl) (Eq.mp (eq_law16_RingBelow a0 a1 h R) H)

/-! ### smalto|smaltolaw16.RingSizes: function 8 -/
def sh_law16_RingSizes (a0 a1 : Value) (h : Heap) (R : Value → Heap → Prop) : Prop :=
 FCall Try.prog F_law16_lives #[] h fun v1 h2 =>
 vK (unV .not v1) fun v3 =>
 iteK v3 (
 R (.bool false) h2) (
 joinK (fun J4 =>
 vK (binV .i .gtr a1 (.int .i64 100)) fun v8 =>
 vK (gV v8 true (some a1)) fun v9 =>
 vK (gV v8 true (binV .i .lss v9 (.int .i64 262144))) fun v10 =>
 vK (pickV v8 v10 (.bool false)) fun v11 =>
 iteK v11 (
 J4 [(.int .i64 100)] h2) (
 J4 [a1] h2))
 fun x5 j6 h7 =>
 FCall Try.prog F_ring_New #[a0, (ix x5 0)] h7 fun v12 h13 =>
 FCall Try.prog F_ref16_New #[a0, (ix x5 0)] h13 fun v14 h15 =>
 newK #[(.int .i64 0), (.int .i64 0), (.slice none 0 0)] 57 h15 fun v16 h17 =>
 stK 3 v16 v14 h17 fun v18 h19 =>
 FCall Try.prog F_ring_Ring_First #[v12] h19 fun v20 h21 =>
 vK (extV v20 0) fun v22 =>
 vK (extV v20 1) fun v23 =>
 drawK h21 fun S =>
 vK (fldV 0 v16) fun v24 =>
 qK S (fun h21 => ldV h21 v24) fun v25 =>
 FCall Try.prog F_ring_Ring_Room #[v12] h21 fun v26 h27 =>
 S h27 ∧ (vK (binV .i .eql v26 v25) fun v28 =>
 vK (gV v28 true (some v12)) fun v29 =>
 vK (gV v28 true (fldV 1 v16)) fun v30 =>
 qK S (fun h27 => gV v28 true (ldV h27 v30)) fun v31 =>
 gK v28 true (fun k56 => FCall Try.prog F_ring_Ring_Width #[v29] h27 k56) h27 fun v32 h33 =>
 S h33 ∧ (vK (gV v28 true (binV .i .eql v32 v31)) fun v34 =>
 vK (pickV v28 v34 (.bool false)) fun v35 =>
 vK (gV v35 true (some v12)) fun v36 =>
 vK (gV v35 true (fldV 0 v16)) fun v37 =>
 qK S (fun h33 => gV v35 true (ldV h33 v37)) fun v38 =>
 vK (gV v35 true (fldV 1 v16)) fun v39 =>
 qK S (fun h33 => gV v35 true (ldV h33 v39)) fun v40 =>
 vK (gV v35 true (binV .i .mul v38 v40)) fun v41 =>
 gK v35 true (fun k55 => FCall Try.prog F_ring_Ring_Words #[v36] h33 k55) h33 fun v42 h43 =>
 S h43 ∧ (vK (gV v35 true (binV .i .eql v42 v41)) fun v44 =>
 vK (pickV v35 v44 (.bool false)) fun v45 =>
 vK (gV v45 true (some v12)) fun v46 =>
 gK v45 true (fun k54 => FCall Try.prog F_ring_Ring_Len #[v46] h43 k54) h43 fun v47 h48 =>
 vK (gV v45 true (binV .i .eql v47 (.int .i64 0))) fun v49 =>
 vK (pickV v45 v49 (.bool false)) fun v50 =>
 vK (gV v50 true (some v23)) fun v51 =>
 vK (gV v50 true (unV .not v51)) fun v52 =>
 vK (pickV v50 v52 (.bool false)) fun v53 =>
 R v53 h48))))
noncomputable def an_law16_RingSizes : Ann := (.s .z (.s (.s .z (.s (.s .z .z) .z)) (.j 129026 [1] (.s .z (.s .z .z)) (.s .z (.s .z (.s .z (.s (.d [(0, .r), (2, .r), (3, .r), (1, .e), (4, .r), (5, .r), (6, .r), (8, .r), (9, .r), (7, .e), (10, .r), (11, .r), (12, .r), (13, .r), (15, .r), (16, .r), (17, .r), (18, .r), (19, .r), (14, .e), (20, .r), (21, .r), (22, .r), (23, .r), (24, .n), (25, .r), (26, .r), (27, .r), (28, .r), (29, .r), (30, .r), (31, .r)]) .z)))))))
theorem oc_law16_RingSizes : okCode Try.f8.ntmps ((Try.f8.body).getD .skip) an_law16_RingSizes = true := by kernel_rfl
theorem eq_law16_RingSizes (a0 a1 : Value) (h : Heap) (R : Value → Heap → Prop) : sh_law16_RingSizes a0 a1 h R = cFunc Try.prog ((Try.f8.body).getD .skip) an_law16_RingSizes Try.f8.results.toList #[a0, a1].toList h R := by kernel_rfl
theorem ok_law16_RingSizes {a0 a1 : Value} {h : Heap} {R : Value → Heap → Prop} (H : sh_law16_RingSizes a0 a1 h R) : FCall Try.prog F_law16_RingSizes #[a0, a1] h R :=
  fcall_of (by kernel_rfl) (fn := Try.f8) (c := (Try.f8.body).getD .skip) (an := an_law16_RingSizes) (by kernel_rfl) (by kernel_rfl) (by kernel_rfl) oc_law16_RingSizes (by kernel_rfl) (Eq.mp (eq_law16_RingSizes a0 a1 h R) H)

/-! ### smalto|smaltolaw19.ClockStamps: function 9 -/
def sh_law19_ClockStamps (a0 a1 : Value) (h : Heap) (R : Value → Heap → Prop) : Prop :=
 FCall Try.prog F_law19_lives #[] h fun v1 h2 =>
 vK (unV .not v1) fun v3 =>
 vK (gV v3 false (some a0)) fun v4 =>
 vK (gV v3 false (lenslV v4)) fun v5 =>
 vK (gV v3 false (binV .i .gtr v5 (.int .i64 30))) fun v6 =>
 vK (pickV v3 (.bool true) v6) fun v7 =>
 vK (gV v7 false (some a1)) fun v8 =>
 vK (gV v7 false (lenslV v8)) fun v9 =>
 vK (gV v7 false (binV .i .gtr v9 (.int .i64 30))) fun v10 =>
 vK (pickV v7 (.bool true) v10) fun v11 =>
 iteK v11 (
 FCall Try.prog F_law19_lives #[] h2 fun v12 h13 =>
 R v12 h13) (
 FCall Try.prog F_clock_Ahead #[a0, a1] h2 fun v14 h15 =>
 FCall Try.prog F_clock_Ahead #[a1, a0] h15 fun v16 h17 =>
 FCall Try.prog F_ref19_Ahead #[a0, a1] h17 fun v18 h19 =>
 vK (binV .b .neq v14 v18) fun v20 =>
 vK (gV v20 false (some v16)) fun v21 =>
 vK (gV v20 false (some a1)) fun v22 =>
 vK (gV v20 false (some a0)) fun v23 =>
 gK v20 false (fun k100 => FCall Try.prog F_ref19_Ahead #[v22, v23] h19 k100) h19 fun v24 h25 =>
 vK (gV v20 false (binV .b .neq v21 v24)) fun v26 =>
 vK (pickV v20 (.bool true) v26) fun v27 =>
 vK (gV v27 false (some a0)) fun v28 =>
 vK (gV v27 false (some a1)) fun v29 =>
 gK v27 false (fun k99 => FCall Try.prog F_clock_Apart #[v28, v29] h25 k99) h25 fun v30 h31 =>
 vK (gV v27 false (some a0)) fun v32 =>
 vK (gV v27 false (some a1)) fun v33 =>
 gK v27 false (fun k98 => FCall Try.prog F_ref19_Apart #[v32, v33] h31 k98) h31 fun v34 h35 =>
 vK (gV v27 false (binV .b .neq v30 v34)) fun v36 =>
 vK (pickV v27 (.bool true) v36) fun v37 =>
 vK (gV v37 false (some a0)) fun v38 =>
 vK (gV v37 false (some a1)) fun v39 =>
 gK v37 false (fun k97 => FCall Try.prog F_clock_Equal #[v38, v39] h35 k97) h35 fun v40 h41 =>
 vK (gV v37 false (some a0)) fun v42 =>
 vK (gV v37 false (some a1)) fun v43 =>
 gK v37 false (fun k96 => FCall Try.prog F_ref19_Equal #[v42, v43] h41 k96) h41 fun v44 h45 =>
 vK (gV v37 false (binV .b .neq v40 v44)) fun v46 =>
 vK (pickV v37 (.bool true) v46) fun v47 =>
 vK (gV v47 false (some a0)) fun v48 =>
 vK (gV v47 false (some a1)) fun v49 =>
 gK v47 false (fun k95 => FCall Try.prog F_clock_Join #[v48, v49] h45 k95) h45 fun v50 h51 =>
 vK (gV v47 false (some a0)) fun v52 =>
 vK (gV v47 false (some a1)) fun v53 =>
 gK v47 false (fun k94 => FCall Try.prog F_ref19_Join #[v52, v53] h51 k94) h51 fun v54 h55 =>
 gK v47 false (fun k93 => FCall Try.prog F_ref19_Equal #[v50, v54] h55 k93) h55 fun v56 h57 =>
 vK (gV v47 false (unV .not v56)) fun v58 =>
 vK (pickV v47 (.bool true) v58) fun v59 =>
 iteK v59 (
 R (.bool false) h57) (
 FCall Try.prog F_clock_Apart #[a0, a1] h57 fun v60 h61 =>
 FCall Try.prog F_clock_Equal #[a0, a1] h61 fun v62 h63 =>
 rowK #[(.bool false), (.bool false), (.bool false), (.bool false)] 4 4 [(0, 1, v14), (1, 1, v16), (2, 1, v60), (3, 1, v62)] h63 fun v64 h65 =>
 vK (lenslV v64) fun v66 =>
 loopK [(.int .i64 0), (.int .i64 0)] h65 fun x67 j68 h69 again70 =>
 vK (binV .i .lss (ix x67 1) v66) fun v71 =>
 iteK v71 (
 vK (idxV 1 v64 (ix x67 1)) fun v72 =>
 vK (ldV h69 v72) fun v73 =>
 iteK v73 (
 vK (binV .i .add (ix x67 0) (.int .i64 1)) fun v74 =>
 vK (binV .i .add (ix x67 1) (.int .i64 1)) fun v75 =>
 again70 [v74, v75] h69) (
 vK (binV .i .add (ix x67 1) (.int .i64 1)) fun v76 =>
 again70 [(ix x67 0), v76] h69)) (
 vK (lenslV a0) fun v77 =>
 vK (lenslV a1) fun v78 =>
 vK (binV .i .neq v77 v78) fun v79 =>
 vK (gV v79 true (some (ix x67 0))) fun v80 =>
 vK (gV v79 true (binV .i .eql v80 (.int .i64 0))) fun v81 =>
 vK (pickV v79 v81 (.bool false)) fun v82 =>
 vK (gV v82 false (some a0)) fun v83 =>
 vK (gV v82 false (lenslV v83)) fun v84 =>
 vK (gV v82 false (some a1)) fun v85 =>
 vK (gV v82 false (lenslV v85)) fun v86 =>
 vK (gV v82 false (binV .i .eql v84 v86)) fun v87 =>
 vK (gV v82 false (some v87)) fun v88 =>
 vK (gV v88 true (some (ix x67 0))) fun v89 =>
 vK (gV v88 true (binV .i .eql v89 (.int .i64 1))) fun v90 =>
 vK (gV v82 false (pickV v88 v90 (.bool false))) fun v91 =>
 vK (pickV v82 (.bool true) v91) fun v92 =>
 R v92 h69)))
noncomputable def an_law19_ClockStamps : Ann := (.s .z (.s (.s .z (.s (.s .z .z) .z)) (.s .z (.s (.s .z (.s (.s .z .z) .z)) (.s .z (.s (.s .z (.l 154138042000865219775038080 [7, 79] (.s .z (.s (.s .z .z) (.s (.s .z (.s .z (.s .z .z))) .z))))) (.s .z .z)))))))
theorem oc_law19_ClockStamps : okCode Try.f9.ntmps ((Try.f9.body).getD .skip) an_law19_ClockStamps = true := by kernel_rfl
theorem eq_law19_ClockStamps (a0 a1 : Value) (h : Heap) (R : Value → Heap → Prop) : sh_law19_ClockStamps a0 a1 h R = cFunc Try.prog ((Try.f9.body).getD .skip) an_law19_ClockStamps Try.f9.results.toList #[a0, a1].toList h R := by kernel_rfl
theorem ok_law19_ClockStamps {a0 a1 : Value} {h : Heap} {R : Value → Heap → Prop} (H : sh_law19_ClockStamps a0 a1 h R) : FCall Try.prog F_law19_ClockStamps #[a0, a1] h R :=
  fcall_of (by kernel_rfl) (fn := Try.f9) (c := (Try.f9.body).getD .skip) (an := an_law19_ClockStamps) (by kernel_rfl) (by kernel_rfl) (by kernel_rfl) oc_law19_ClockStamps (by kernel_rfl) (Eq.mp (eq_law19_ClockStamps a0 a1 h R) H)

/-! ### smalto|smaltolaw19.ClockOrders: function 10 -/
def sh_law19_ClockOrders (a0 : Value) (h : Heap) (R : Value → Heap → Prop) : Prop :=
 FCall Try.prog F_law19_lives #[] h fun v1 h2 =>
 vK (unV .not v1) fun v3 =>
 vK (gV v3 false (some a0)) fun v4 =>
 vK (gV v3 false (lenslV v4)) fun v5 =>
 vK (gV v3 false (binV .i .gtr v5 (.int .i64 60))) fun v6 =>
 vK (pickV v3 (.bool true) v6) fun v7 =>
 iteK v7 (
 FCall Try.prog F_law19_lives #[] h2 fun v8 h9 =>
 R v8 h9) (
 FCall Try.prog F_clock_New #[(.int .i64 5)] h2 fun v10 h11 =>
 vK (lenslV a0) fun v12 =>
 loopK [(.int .i64 0)] h11 fun x13 j14 h15 again16 =>
 vK (binV .i .lss (ix x13 0) v12) fun v17 =>
 iteK v17 (
 vK (idxV 1 a0 (ix x13 0)) fun v18 =>
 vK (ldV h15 v18) fun v19 =>
 vK (cviV .i64 v19) fun v20 =>
 vK (binV .i .rem v20 (.int .i64 4)) fun v21 =>
 vK (binV .i .quo v19 (.int .u8 4)) fun v22 =>
 vK (cviV .i64 v22) fun v23 =>
 vK (binV .i .rem v23 (.int .i64 4)) fun v24 =>
 FCall Try.prog F_clock_Clock_Tick #[v10, v21] h15 fun v25 h26 =>
 vK (binV .i .eql v21 v24) fun v27 =>
 iteK v27 (
 vK (binV .i .add (ix x13 0) (.int .i64 1)) fun v28 =>
 again16 [v28] h26) (
 FCall Try.prog F_clock_Clock_Meet #[v10, v24, v25] h26 fun v29 h30 =>
 vK (unV .not v29) fun v31 =>
 iteK v31 (
 R (.bool false) h30) (
 FCall Try.prog F_clock_Clock_Tick #[v10, v24] h30 fun v32 h33 =>
 FCall Try.prog F_clock_Clock_Now #[v10, v24] h33 fun v34 h35 =>
 FCall Try.prog F_clock_Ahead #[v25, v34] h35 fun v36 h37 =>
 vK (unV .not v36) fun v38 =>
 vK (gV v38 false (some v10)) fun v39 =>
 vK (gV v38 false (some v24)) fun v40 =>
 gK v38 false (fun k67 => FCall Try.prog F_clock_Clock_Now #[v39, v40] h37 k67) h37 fun v41 h42 =>
 vK (gV v38 false (some v25)) fun v43 =>
 gK v38 false (fun k66 => FCall Try.prog F_clock_Ahead #[v41, v43] h42 k66) h42 fun v44 h45 =>
 vK (pickV v38 (.bool true) v44) fun v46 =>
 iteK v46 (
 R (.bool false) h45) (
 FCall Try.prog F_clock_Clock_Now #[v10, (.int .i64 4)] h45 fun v47 h48 =>
 FCall Try.prog F_clock_Clock_Now #[v10, v24] h48 fun v49 h50 =>
 FCall Try.prog F_clock_Apart #[v47, v49] h50 fun v51 h52 =>
 vK (unV .not v51) fun v53 =>
 vK (gV v53 false (some v25)) fun v54 =>
 vK (gV v53 false (some v10)) fun v55 =>
 vK (gV v53 false (some v21)) fun v56 =>
 gK v53 false (fun k65 => FCall Try.prog F_clock_Clock_Now #[v55, v56] h52 k65) h52 fun v57 h58 =>
 gK v53 false (fun k64 => FCall Try.prog F_clock_Ahead #[v54, v57] h58 k64) h58 fun v59 h60 =>
 vK (gV v53 false (unV .not v59)) fun v61 =>
 vK (pickV v53 (.bool true) v61) fun v62 =>
 iteK v62 (
 R (.bool false) h60) (
 vK (binV .i .add (ix x13 0) (.int .i64 1)) fun v63 =>
 again16 [v63] h60))))) (
 FCall Try.prog F_clock_Clock_Now #[v10, (.int .i64 4)] h15 fun v68 h69 =>
 rowK #[(.int .i64 0), (.int .i64 0), (.int .i64 0), (.int .i64 0), (.int .i64 0)] 3 5 [(0, 1, (.int .i64 0)), (1, 1, (.int .i64 0)), (2, 1, (.int .i64 0)), (3, 1, (.int .i64 0)), (4, 1, (.int .i64 1))] h69 fun v70 h71 =>
 FCall Try.prog F_ref19_Equal #[v68, v70] h71 fun v72 h73 =>
 R v72 h73))
noncomputable def an_law19_ClockOrders : Ann := (.s .z (.s (.s .z (.s (.s .z .z) .z)) (.s .z (.s (.s .z (.l 18889465931478579806692 [20] (.s .z (.s (.s .z .z) (.s (.s .z (.s .z (.s .z (.s (.s .z (.s .z .z)) (.s (.s .z (.s (.s .z .z) .z)) (.s .z (.s (.s .z (.s (.s .z .z) .z)) (.s .z (.s (.s .z .z) .z))))))))) .z))))) (.s .z .z)))))
theorem oc_law19_ClockOrders : okCode Try.f10.ntmps ((Try.f10.body).getD .skip) an_law19_ClockOrders = true := by kernel_rfl
theorem eq_law19_ClockOrders (a0 : Value) (h : Heap) (R : Value → Heap → Prop) : sh_law19_ClockOrders a0 h R = cFunc Try.prog ((Try.f10.body).getD .skip) an_law19_ClockOrders Try.f10.results.toList #[a0].toList h R := by kernel_rfl
theorem ok_law19_ClockOrders {a0 : Value} {h : Heap} {R : Value → Heap → Prop} (H : sh_law19_ClockOrders a0 h R) : FCall Try.prog F_law19_ClockOrders #[a0] h R :=
  fcall_of (by kernel_rfl) (fn := Try.f10) (c := (Try.f10.body).getD .skip) (an := an_law19_ClockOrders) (by kernel_rfl) (by kernel_rfl) (by kernel_rfl) oc_law19_ClockOrders (by kernel_rfl) (Eq.mp (eq_law19_ClockOrders a0 h R) H)

/-! ### smalto|smaltolaw16.RingSlides: function 11 -/
def sh_law16_RingSlides (a0 a1 a2 : Value) (h : Heap) (R : Value → Heap → Prop) : Prop :=
 FCall Try.prog F_law16_lives #[] h fun v1 h2 =>
 vK (unV .not v1) fun v3 =>
 iteK v3 (
 R (.bool false) h2) (
 vK (binV .i .rem a0 (.int .u8 20)) fun v4 =>
 vK (cviV .i64 v4) fun v5 =>
 vK (binV .i .add (.int .i64 1) v5) fun v6 =>
 vK (binV .i .rem a2 (.int .u8 100)) fun v7 =>
 vK (cviV .i64 v7) fun v8 =>
 FCall Try.prog F_ring_New #[v6, (.int .i64 2)] h2 fun v9 h10 =>
 loopK [(.int .i64 0)] h10 fun x11 j12 h13 again14 =>
 vK (binV .i .lss (ix x11 0) v8) fun v15 =>
 iteK v15 (
 vK (cviV .i64 a1) fun v16 =>
 vK (binV .i .add v16 (ix x11 0)) fun v17 =>
 vK (unV .neg v17) fun v18 =>
 rowK #[(.int .i64 0), (.int .i64 0)] 2 2 [(0, 1, v17), (1, 1, v18)] h13 fun v19 h20 =>
 FCall Try.prog F_ring_Ring_Put #[v9, v17, v19] h20 fun v21 h22 =>
 vK (unV .not v21) fun v23 =>
 vK (gV v23 false (some v9)) fun v24 =>
 vK (gV v23 false (some v17)) fun v25 =>
 gK v23 false (fun k75 => rowK #[(.int .i64 0), (.int .i64 0)] 2 2 [(0, 1, (.int .i64 0)), (1, 1, (.int .i64 0))] h22 k75) h22 fun v26 h27 =>
 gK v23 false (fun k74 => FCall Try.prog F_ring_Ring_Put #[v24, v25, v26] h27 k74) h27 fun v28 h29 =>
 vK (pickV v23 (.bool true) v28) fun v30 =>
 iteK v30 (
 R (.bool false) h29) (
 loopK [(.int .i64 0)] h29 fun x31 j32 h33 again34 =>
 vK (binV .i .lss (ix x31 0) v8) fun v35 =>
 iteK v35 (
 vK (cviV .i64 a1) fun v36 =>
 vK (binV .i .add v36 (ix x31 0)) fun v37 =>
 FCall Try.prog F_ring_Ring_Row #[v9, v37] h33 fun v38 h39 =>
 vK (extV v38 0) fun v40 =>
 vK (extV v38 1) fun v41 =>
 vK (binV .i .leq (ix x31 0) (ix x11 0)) fun v42 =>
 vK (gV v42 true (some (ix x31 0))) fun v43 =>
 vK (gV v42 true (some (ix x11 0))) fun v44 =>
 vK (gV v42 true (some v6)) fun v45 =>
 vK (gV v42 true (binV .i .sub v44 v45)) fun v46 =>
 vK (gV v42 true (binV .i .gtr v43 v46)) fun v47 =>
 vK (pickV v42 v47 (.bool false)) fun v48 =>
 vK (binV .b .neq v41 v48) fun v49 =>
 vK (gV v49 false (some v41)) fun v50 =>
 vK (gV v49 false (some v50)) fun v51 =>
 vK (gV v51 true (some v40)) fun v52 =>
 vK (gV v51 true (lenslV v52)) fun v53 =>
 vK (gV v51 true (binV .i .neq v53 (.int .i64 2))) fun v54 =>
 vK (gV v51 true (some v54)) fun v55 =>
 vK (gV v55 false (some v40)) fun v56 =>
 vK (gV v55 false (idxV 1 v56 (.int .i64 0))) fun v57 =>
 vK (gV v55 false (ldV h39 v57)) fun v58 =>
 vK (gV v55 false (some v37)) fun v59 =>
 vK (gV v55 false (binV .i .neq v58 v59)) fun v60 =>
 vK (gV v51 true (pickV v55 (.bool true) v60)) fun v61 =>
 vK (gV v51 true (some v61)) fun v62 =>
 vK (gV v62 false (some v40)) fun v63 =>
 vK (gV v62 false (idxV 1 v63 (.int .i64 1))) fun v64 =>
 vK (gV v62 false (ldV h39 v64)) fun v65 =>
 vK (gV v62 false (some v37)) fun v66 =>
 vK (gV v62 false (unV .neg v66)) fun v67 =>
 vK (gV v62 false (binV .i .neq v65 v67)) fun v68 =>
 vK (gV v51 true (pickV v62 (.bool true) v68)) fun v69 =>
 vK (gV v49 false (pickV v51 v69 (.bool false))) fun v70 =>
 vK (pickV v49 (.bool true) v70) fun v71 =>
 iteK v71 (
 R (.bool false) h39) (
 vK (binV .i .add (ix x31 0) (.int .i64 1)) fun v72 =>
 again34 [v72] h39)) (
 vK (binV .i .add (ix x11 0) (.int .i64 1)) fun v73 =>
 again14 [v73] h33))) (
 FCall Try.prog F_ring_Ring_Len #[v9] h13 fun v76 h77 =>
 vK (minV v6 v8) fun v78 =>
 vK (binV .i .eql v76 v78) fun v79 =>
 R v79 h77))
noncomputable def an_law16_RingSlides : Ann := (.s .z (.s (.s .z (.s (.s .z .z) .z)) (.s .z (.s .z (.s (.s .z (.l 1267650600228229401496434834496 [28] (.s .z (.s (.s .z .z) (.s (.s .z (.s .z (.s (.s .z (.s (.s .z .z) .z)) (.s .z (.l 633825300114113574848444821568 [50] (.s .z (.s (.s .z .z) (.s (.s .z (.s .z (.s .z (.s .z (.s (.s .z .z) .z))))) .z)))))))) .z))))) (.s .z .z))))))
theorem oc_law16_RingSlides : okCode Try.f11.ntmps ((Try.f11.body).getD .skip) an_law16_RingSlides = true := by kernel_rfl
theorem eq_law16_RingSlides (a0 a1 a2 : Value) (h : Heap) (R : Value → Heap → Prop) : sh_law16_RingSlides a0 a1 a2 h R = cFunc Try.prog ((Try.f11.body).getD .skip) an_law16_RingSlides Try.f11.results.toList #[a0, a1, a2].toList h R := by kernel_rfl
theorem ok_law16_RingSlides {a0 a1 a2 : Value} {h : Heap} {R : Value → Heap → Prop} (H : sh_law16_RingSlides a0 a1 a2 h R) : FCall Try.prog F_law16_RingSlides #[a0, a1, a2] h R :=
  fcall_of (by kernel_rfl) (fn := Try.f11) (c := (Try.f11.body).getD .skip) (an := an_law16_RingSlides) (by kernel_rfl) (by kernel_rfl) (by kernel_rfl) oc_law16_RingSlides (by kernel_rfl) (Eq.mp (eq_law16_RingSlides a0 a1 a2 h R) H)

/-! ### smalto|smaltolaw16.RingReset: function 12 -/
def sh_law16_RingReset (a0 a1 a2 : Value) (h : Heap) (R : Value → Heap → Prop) : Prop :=
 FCall Try.prog F_law16_lives #[] h fun v1 h2 =>
 vK (unV .not v1) fun v3 =>
 iteK v3 (
 R (.bool false) h2) (
 vK (binV .i .rem a0 (.int .u8 20)) fun v4 =>
 vK (cviV .i64 v4) fun v5 =>
 vK (binV .i .add (.int .i64 1) v5) fun v6 =>
 FCall Try.prog F_ring_New #[v6, (.int .i64 3)] h2 fun v7 h8 =>
 vK (binV .i .rem a1 (.int .u8 40)) fun v9 =>
 vK (cviV .i64 v9) fun v10 =>
 loopK [(.int .i64 0)] h8 fun x11 j12 h13 again14 =>
 vK (binV .i .lss (ix x11 0) v10) fun v15 =>
 iteK v15 (
 vK (cviV .i64 a2) fun v16 =>
 vK (binV .i .add v16 (ix x11 0)) fun v17 =>
 rowK #[(.int .i64 0), (.int .i64 0), (.int .i64 0)] 2 3 [(0, 1, (.int .i64 9)), (1, 1, (.int .i64 9)), (2, 1, (.int .i64 9))] h13 fun v18 h19 =>
 FCall Try.prog F_ring_Ring_Put #[v7, v17, v18] h19 fun v20 h21 =>
 vK (binV .i .add (ix x11 0) (.int .i64 1)) fun v22 =>
 again14 [v22] h21) (
 FCall Try.prog F_ring_Ring_Reset #[v7] h13 fun v23 h24 =>
 FCall Try.prog F_ring_Ring_First #[v7] h24 fun v25 h26 =>
 vK (extV v25 0) fun v27 =>
 vK (extV v25 1) fun v28 =>
 vK (gV v28 false (some v7)) fun v29 =>
 gK v28 false (fun k74 => FCall Try.prog F_ring_Ring_Len #[v29] h26 k74) h26 fun v30 h31 =>
 vK (gV v28 false (binV .i .neq v30 (.int .i64 0))) fun v32 =>
 vK (pickV v28 (.bool true) v32) fun v33 =>
 iteK v33 (
 R (.bool false) h31) (
 vK (cviV .i64 a2) fun v34 =>
 rowK #[(.int .i64 0), (.int .i64 0), (.int .i64 0)] 2 3 [(0, 1, (.int .i64 1)), (1, 1, (.int .i64 2)), (2, 1, (.int .i64 3))] h31 fun v35 h36 =>
 FCall Try.prog F_ring_Ring_Put #[v7, v34, v35] h36 fun v37 h38 =>
 vK (unV .not v37) fun v39 =>
 vK (gV v39 false (some v7)) fun v40 =>
 gK v39 false (fun k73 => FCall Try.prog F_ring_Ring_Len #[v40] h38 k73) h38 fun v41 h42 =>
 vK (gV v39 false (binV .i .neq v41 (.int .i64 1))) fun v43 =>
 vK (pickV v39 (.bool true) v43) fun v44 =>
 iteK v44 (
 R (.bool false) h42) (
 vK (cviV .i64 a2) fun v45 =>
 FCall Try.prog F_ring_Ring_Row #[v7, v45] h42 fun v46 h47 =>
 vK (extV v46 0) fun v48 =>
 vK (extV v46 1) fun v49 =>
 vK (cviV .i64 a2) fun v50 =>
 vK (cviV .i64 a2) fun v51 =>
 vK (binV .i .add v51 (.int .i64 2)) fun v52 =>
 FCall Try.prog F_ring_Ring_Next #[v7, v50, v52] h47 fun v53 h54 =>
 vK (extV v53 0) fun v55 =>
 vK (extV v53 1) fun v56 =>
 vK (gV v49 true (some v48)) fun v57 =>
 gK v49 true (fun k72 => rowK #[(.int .i64 0), (.int .i64 0), (.int .i64 0)] 2 3 [(0, 1, (.int .i64 1)), (1, 1, (.int .i64 2)), (2, 1, (.int .i64 3))] h54 k72) h54 fun v58 h59 =>
 gK v49 true (fun k71 => FCall Try.prog F_ref06_Same #[v57, v58] h59 k71) h59 fun v60 h61 =>
 vK (pickV v49 v60 (.bool false)) fun v62 =>
 vK (gV v62 true (some v56)) fun v63 =>
 vK (pickV v62 v63 (.bool false)) fun v64 =>
 vK (gV v64 true (some v55)) fun v65 =>
 vK (gV v64 true (some a2)) fun v66 =>
 vK (gV v64 true (cviV .i64 v66)) fun v67 =>
 vK (gV v64 true (binV .i .add v67 (.int .i64 1))) fun v68 =>
 vK (gV v64 true (binV .i .eql v65 v68)) fun v69 =>
 vK (pickV v64 v69 (.bool false)) fun v70 =>
 R v70 h61))))
noncomputable def an_law16_RingReset : Ann := (.s .z (.s (.s .z (.s (.s .z .z) .z)) (.s .z (.s (.s .z (.l 68685922560 [25] (.s .z (.s (.s .z .z) (.s (.s .z .z) .z))))) (.s .z (.s (.s .z (.s .z (.s (.s .z .z) .z))) (.s (.s .z (.s (.s .z .z) .z)) (.s .z (.s .z (.s .z .z))))))))))
theorem oc_law16_RingReset : okCode Try.f12.ntmps ((Try.f12.body).getD .skip) an_law16_RingReset = true := by kernel_rfl
theorem eq_law16_RingReset (a0 a1 a2 : Value) (h : Heap) (R : Value → Heap → Prop) : sh_law16_RingReset a0 a1 a2 h R = cFunc Try.prog ((Try.f12.body).getD .skip) an_law16_RingReset Try.f12.results.toList #[a0, a1, a2].toList h R := by kernel_rfl
theorem ok_law16_RingReset {a0 a1 a2 : Value} {h : Heap} {R : Value → Heap → Prop} (H : sh_law16_RingReset a0 a1 a2 h R) : FCall Try.prog F_law16_RingReset #[a0, a1, a2] h R :=
  fcall_of (by kernel_rfl) (fn := Try.f12) (c := (Try.f12.body).getD .skip) (an := an_law16_RingReset) (by kernel_rfl) (by kernel_rfl) (by kernel_rfl) oc_law16_RingReset (by kernel_rfl) (Eq.mp (eq_law16_RingReset a0 a1 a2 h R) H)

/-! ### smalto|smaltolaw16.RingPlays: function 13 -/
def sh_law16_RingPlays (a0 a1 a2 : Value) (h : Heap) (R : Value → Heap → Prop) : Prop :=
 FCall Try.prog F_law16_lives #[] h fun v1 h2 =>
 vK (unV .not v1) fun v3 =>
 vK (gV v3 false (some a2)) fun v4 =>
 vK (gV v3 false (lenslV v4)) fun v5 =>
 vK (gV v3 false (binV .i .gtr v5 (.int .i64 50))) fun v6 =>
 vK (pickV v3 (.bool true) v6) fun v7 =>
 vK (gV v7 false (some a0)) fun v8 =>
 vK (gV v7 false (binV .i .gtr v8 (.int .i64 20))) fun v9 =>
 vK (pickV v7 (.bool true) v9) fun v10 =>
 vK (gV v10 false (some a1)) fun v11 =>
 vK (gV v10 false (binV .i .gtr v11 (.int .i64 20))) fun v12 =>
 vK (pickV v10 (.bool true) v12) fun v13 =>
 iteK v13 (
 FCall Try.prog F_law16_lives #[] h2 fun v14 h15 =>
 R v14 h15) (
 FCall Try.prog F_ring_New #[a0, a1] h2 fun v16 h17 =>
 FCall Try.prog F_ref16_New #[a0, a1] h17 fun v18 h19 =>
 newK #[(.int .i64 0), (.int .i64 0), (.slice none 0 0)] 57 h19 fun v20 h21 =>
 stK 3 v20 v18 h21 fun v22 h23 =>
 vK (lenslV a2) fun v24 =>
 loopK [(.int .i64 0)] h23 fun x25 j26 h27 again28 =>
 vK (binV .i .lss (ix x25 0) v24) fun v29 =>
 iteK v29 (
 vK (idxV 4 a2 (ix x25 0)) fun v30 =>
 vK (ldsV 4 h27 v30) fun v31 =>
 newK #[(.int .u8 0), (.int .i64 0), (.int .i64 0), (.int .i64 0)] 77 h27 fun v32 h33 =>
 stK 4 v32 v31 h33 fun v34 h35 =>
 vK (fldV 0 v32) fun v36 =>
 vK (ldV h35 v36) fun v37 =>
 vK (binV .i .rem v37 (.int .u8 7)) fun v38 =>
 joinK (fun J39 =>
 vK (binV .i .lss v38 (.int .u8 5)) fun v43 =>
 iteK v43 (
 vK (fldV 1 v20) fun v44 =>
 vK (ldV h35 v44) fun v45 =>
 joinK (fun J46 =>
 vK (binV .i .eql v38 (.int .u8 4)) fun v50 =>
 iteK v50 (
 vK (binV .i .add v45 (.int .i64 1)) fun v51 =>
 J46 [v51] h35) (
 J46 [v45] h35))
 fun x47 j48 h49 =>
 vK (fldV 3 v32) fun v52 =>
 vK (ldV h49 v52) fun v53 =>
 FCall Try.prog F_law16_row #[(ix x47 0), v53] h49 fun v54 h55 =>
 vK (ldsV 3 h55 v20) fun v56 =>
 vK (fldV 1 v32) fun v57 =>
 vK (ldV h55 v57) fun v58 =>
 FCall Try.prog F_ref16_Put #[v56, v58, v54] h55 fun v59 h60 =>
 vK (extV v59 0) fun v61 =>
 vK (extV v59 1) fun v62 =>
 newK #[(.int .i64 0), (.int .i64 0), (.slice none 0 0)] 57 h60 fun v63 h64 =>
 stK 3 v63 v61 h64 fun v65 h66 =>
 vK (ldsV 3 h66 v63) fun v67 =>
 stK 3 v20 v67 h66 fun v68 h69 =>
 vK (fldV 1 v32) fun v70 =>
 vK (ldV h69 v70) fun v71 =>
 FCall Try.prog F_ring_Ring_Put #[v16, v71, v54] h69 fun v72 h73 =>
 vK (binV .b .neq v72 v62) fun v74 =>
 iteK v74 (
 R (.bool false) h73) (
 vK (lenslV v54) fun v75 =>
 loopK [(.int .i64 0)] h73 fun x76 j77 h78 again79 =>
 vK (binV .i .lss (ix x76 0) v75) fun v80 =>
 iteK v80 (
 vK (idxV 1 v54 (ix x76 0)) fun v81 =>
 vK (ldV h78 v81) fun v82 =>
 vK (binV .i .add v82 (.int .i64 1)) fun v83 =>
 vK (idxV 1 v54 (ix x76 0)) fun v84 =>
 stK 1 v84 v83 h78 fun v85 h86 =>
 vK (binV .i .add (ix x76 0) (.int .i64 1)) fun v87 =>
 again79 [v87] h86) (
 J39 [] h78))) (
 vK (binV .i .eql v38 (.int .u8 5)) fun v88 =>
 iteK v88 (
 vK (fldV 2 v32) fun v89 =>
 vK (ldV h35 v89) fun v90 =>
 joinK (fun J91 =>
 vK (fldV 1 v32) fun v95 =>
 vK (ldV h35 v95) fun v96 =>
 vK (binV .i .lss v96 (.int .i64 4611686018427387904)) fun v97 =>
 vK (gV v97 true (some v90)) fun v98 =>
 vK (gV v97 true (fldV 1 v32)) fun v99 =>
 vK (gV v97 true (ldV h35 v99)) fun v100 =>
 vK (gV v97 true (binV .i .add v100 (.int .i64 30))) fun v101 =>
 vK (gV v97 true (binV .i .gtr v98 v101)) fun v102 =>
 vK (pickV v97 v102 (.bool false)) fun v103 =>
 iteK v103 (
 vK (fldV 1 v32) fun v104 =>
 vK (ldV h35 v104) fun v105 =>
 vK (binV .i .add v105 (.int .i64 30)) fun v106 =>
 J91 [v106] h35) (
 J91 [v90] h35))
 fun x92 j93 h94 =>
 vK (fldV 1 v32) fun v107 =>
 vK (ldV h94 v107) fun v108 =>
 FCall Try.prog F_ring_Ring_Next #[v16, v108, (ix x92 0)] h94 fun v109 h110 =>
 vK (extV v109 0) fun v111 =>
 vK (extV v109 1) fun v112 =>
 vK (ldsV 3 h110 v20) fun v113 =>
 vK (fldV 1 v32) fun v114 =>
 vK (ldV h110 v114) fun v115 =>
 FCall Try.prog F_ref16_Next #[v113, v115, (ix x92 0)] h110 fun v116 h117 =>
 vK (extV v116 0) fun v118 =>
 vK (extV v116 1) fun v119 =>
 vK (binV .i .neq v111 v118) fun v120 =>
 vK (gV v120 false (some v112)) fun v121 =>
 vK (gV v120 false (some v119)) fun v122 =>
 vK (gV v120 false (binV .b .neq v121 v122)) fun v123 =>
 vK (pickV v120 (.bool true) v123) fun v124 =>
 iteK v124 (
 R (.bool false) h117) (
 J39 [] h117)) (
 vK (fldV 3 v32) fun v125 =>
 vK (ldV h35 v125) fun v126 =>
 vK (binV .i .eql v126 (.int .i64 0)) fun v127 =>
 iteK v127 (
 FCall Try.prog F_ring_Ring_Reset #[v16] h35 fun v128 h129 =>
 vK (fldV 2 v20) fun v130 =>
 stK 1 v130 (.slice none 0 0) h129 fun v131 h132 =>
 J39 [] h132) (
 J39 [] h35))))
 fun x40 j41 h42 =>
 vK (ldsV 3 h42 v20) fun v133 =>
 FCall Try.prog F_law16_same #[v16, v133] h42 fun v134 h135 =>
 vK (unV .not v134) fun v136 =>
 iteK v136 (
 R (.bool false) h135) (
 vK (fldV 1 v32) fun v137 =>
 vK (ldV h135 v137) fun v138 =>
 FCall Try.prog F_ring_Ring_Row #[v16, v138] h135 fun v139 h140 =>
 vK (extV v139 0) fun v141 =>
 vK (extV v139 1) fun v142 =>
 vK (ldsV 3 h140 v20) fun v143 =>
 vK (fldV 1 v32) fun v144 =>
 vK (ldV h140 v144) fun v145 =>
 FCall Try.prog F_ref16_Find #[v143, v145] h140 fun v146 h147 =>
 vK (binV .i .geq v146 (.int .i64 0)) fun v148 =>
 vK (binV .b .neq v142 v148) fun v149 =>
 vK (gV v149 false (some v142)) fun v150 =>
 vK (gV v149 false (unV .not v150)) fun v151 =>
 vK (gV v149 false (some v151)) fun v152 =>
 vK (gV v152 true (some v141)) fun v153 =>
 vK (gV v152 true (lenslV v153)) fun v154 =>
 vK (gV v152 true (binV .i .neq v154 (.int .i64 0))) fun v155 =>
 vK (gV v149 false (pickV v152 v155 (.bool false))) fun v156 =>
 vK (pickV v149 (.bool true) v156) fun v157 =>
 iteK v157 (
 R (.bool false) h147) (
 vK (lenslV v141) fun v158 =>
 loopK [(.int .i64 0)] h147 fun x159 j160 h161 again162 =>
 vK (binV .i .lss (ix x159 0) v158) fun v163 =>
 iteK v163 (
 vK (idxV 1 v141 (ix x159 0)) fun v164 =>
 vK (ldV h161 v164) fun v165 =>
 vK (binV .i .add v165 (.int .i64 1)) fun v166 =>
 vK (idxV 1 v141 (ix x159 0)) fun v167 =>
 stK 1 v167 v166 h161 fun v168 h169 =>
 vK (binV .i .add (ix x159 0) (.int .i64 1)) fun v170 =>
 again162 [v170] h169) (
 vK (ldsV 3 h161 v20) fun v171 =>
 FCall Try.prog F_law16_same #[v16, v171] h161 fun v172 h173 =>
 vK (unV .not v172) fun v174 =>
 iteK v174 (
 R (.bool false) h173) (
 vK (binV .i .add (ix x25 0) (.int .i64 1)) fun v175 =>
 again28 [v175] h173))))) (
 R (.bool true) h27))
noncomputable def an_law16_RingPlays : Ann := (.s .z (.s (.s .z (.s (.s .z .z) .z)) (.s .z (.s (.s .z (.l 1569275433846670190958947355801916604025588298166088760384 [49] (.s .z (.s (.s .z .z) (.s (.s .z (.s (.s .z (.m 89202980794122492566142873018535851990184000 [] (.s .z (.s (.s .z (.j 34587645138205413376 [12] (.s .z (.s .z .z)) (.s .z (.s .z (.s .z (.s (.s .z (.s (.s .z .z) .z)) (.s .z (.l 158301582523618002652725575680 [87] (.s .z (.s (.s .z .z) (.s (.s .z .z) .z))))))))))) (.s .z (.s (.s .z (.j 41533304265877708110637983821070336 [17] (.s .z (.s .z .z)) (.s .z (.s .z (.s .z (.s (.s .z .z) .z)))))) (.s .z (.s (.s .z .z) .z)))))))) (.s (.s .z (.s (.s .z .z) .z)) (.s .z (.s (.s .z (.s (.s .z .z) .z)) (.s (.s .z (.l 48991966822056384440643406524211446713811566312323809280 [175] (.s .z (.s (.s .z .z) (.s (.s .z .z) .z))))) (.s .z (.s (.s .z .z) .z)))))))) .z))))) (.s .z .z)))))
theorem oc_law16_RingPlays : okCode Try.f13.ntmps ((Try.f13.body).getD .skip) an_law16_RingPlays = true := by kernel_rfl
theorem eq_law16_RingPlays (a0 a1 a2 : Value) (h : Heap) (R : Value → Heap → Prop) : sh_law16_RingPlays a0 a1 a2 h R = cFunc Try.prog ((Try.f13.body).getD .skip) an_law16_RingPlays Try.f13.results.toList #[a0, a1, a2].toList h R := by kernel_rfl
theorem ok_law16_RingPlays {a0 a1 a2 : Value} {h : Heap} {R : Value → Heap → Prop} (H : sh_law16_RingPlays a0 a1 a2 h R) : FCall Try.prog F_law16_RingPlays #[a0, a1, a2] h R :=
  fcall_of (by kernel_rfl) (fn := Try.f13) (c := (Try.f13.body).getD .skip) (an := an_law16_RingPlays) (by kernel_rfl) (by kernel_rfl) (by kernel_rfl) oc_law16_RingPlays (by kernel_rfl) (Eq.mp (eq_law16_RingPlays a0 a1 a2 h R) H)

/-! ### smalto|smaltolaw20.LedgerWrites: function 14 -/
def sh_law20_LedgerWrites (a0 a1 a2 : Value) (h : Heap) (R : Value → Heap → Prop) : Prop :=
 FCall Try.prog F_law20_Lives #[] h fun v1 h2 =>
 vK (unV .not v1) fun v3 =>
 vK (gV v3 false (some a0)) fun v4 =>
 gK v3 false (fun k92 => FCall Try.prog F_law20_few #[v4] h2 k92) h2 fun v5 h6 =>
 vK (gV v3 false (unV .not v5)) fun v7 =>
 vK (pickV v3 (.bool true) v7) fun v8 =>
 iteK v8 (
 FCall Try.prog F_law20_Lives #[] h6 fun v9 h10 =>
 R v9 h10) (
 newK #[(.slice none 0 0)] 35 h6 fun v11 h12 =>
 newmK h12 fun v13 h14 =>
 vK (lenslV a0) fun v15 =>
 loopK [(.int .i64 0), (.int .i64 0)] h14 fun x16 j17 h18 again19 =>
 vK (binV .i .lss (ix x16 1) v15) fun v20 =>
 iteK v20 (
 vK (idxV 6 a0 (ix x16 1)) fun v21 =>
 vK (ldsV 6 h18 v21) fun v22 =>
 newK #[(.int .i64 0), (.slice none 0 0), (.int .i64 0), (.int .i64 0), (.int .i64 0), (.bool false)] 25 h18 fun v23 h24 =>
 stK 6 v23 v22 h24 fun v25 h26 =>
 vK (ldsV 6 h26 v23) fun v27 =>
 FCall Try.prog F_ledger_Ledger_Add #[v11, v27] h26 fun v28 h29 =>
 vK (unV .not v28) fun v30 =>
 vK (gV v30 false (fldV 5 v23)) fun v31 =>
 vK (gV v30 false (ldV h29 v31)) fun v32 =>
 vK (gV v30 false (unV .not v32)) fun v33 =>
 vK (pickV v30 (.bool true) v33) fun v34 =>
 vK (gV v34 false (fldV 2 v23)) fun v35 =>
 vK (gV v34 false (ldV h29 v35)) fun v36 =>
 vK (gV v34 false (some a1)) fun v37 =>
 vK (gV v34 false (binV .i .neq v36 v37)) fun v38 =>
 vK (pickV v34 (.bool true) v38) fun v39 =>
 iteK v39 (
 vK (binV .i .add (ix x16 1) (.int .i64 1)) fun v40 =>
 again19 [(ix x16 0), v40] h29) (
 vK (fldV 0 v23) fun v41 =>
 vK (ldV h29 v41) fun v42 =>
 vK (lookV (.int .i64) (.int .i64 0) false h29 v13 v42) fun v43 =>
 vK (binV .i .add v43 (.int .i64 1)) fun v44 =>
 mapPutK (.int .i64) v13 v42 v44 h29 fun v45 h46 =>
 vK (fldV 3 v23) fun v47 =>
 vK (ldV h46 v47) fun v48 =>
 vK (binV .i .geq a2 v48) fun v49 =>
 vK (gV v49 true (some a2)) fun v50 =>
 vK (gV v49 true (fldV 4 v23)) fun v51 =>
 vK (gV v49 true (ldV h46 v51)) fun v52 =>
 vK (gV v49 true (binV .i .lss v50 v52)) fun v53 =>
 vK (pickV v49 v53 (.bool false)) fun v54 =>
 iteK v54 (
 vK (binV .i .add (ix x16 0) (.int .i64 1)) fun v55 =>
 vK (binV .i .add (ix x16 1) (.int .i64 1)) fun v56 =>
 again19 [v55, v56] h46) (
 vK (binV .i .add (ix x16 1) (.int .i64 1)) fun v57 =>
 again19 [(ix x16 0), v57] h46))) (
 FCall Try.prog F_ledger_Ledger_Writers #[v11, a1] h18 fun v58 h59 =>
 vK (lenslV v58) fun v60 =>
 loopK [(.int .i64 0)] h59 fun x61 j62 h63 again64 =>
 vK (binV .i .lss (ix x61 0) v60) fun v65 =>
 iteK v65 (
 vK (idxV 1 v58 (ix x61 0)) fun v66 =>
 vK (ldV h63 v66) fun v67 =>
 vK (lookV (.int .i64) (.int .i64 0) false h63 v13 v67) fun v68 =>
 vK (binV .i .eql v68 (.int .i64 0)) fun v69 =>
 vK (gV v69 false (some (ix x61 0))) fun v70 =>
 vK (gV v69 false (binV .i .gtr v70 (.int .i64 0))) fun v71 =>
 vK (gV v69 false (some v71)) fun v72 =>
 vK (gV v72 true (some v58)) fun v73 =>
 vK (gV v72 true (some (ix x61 0))) fun v74 =>
 vK (gV v72 true (binV .i .sub v74 (.int .i64 1))) fun v75 =>
 vK (gV v72 true (idxV 1 v73 v75)) fun v76 =>
 vK (gV v72 true (ldV h63 v76)) fun v77 =>
 vK (gV v72 true (some v67)) fun v78 =>
 vK (gV v72 true (binV .i .geq v77 v78)) fun v79 =>
 vK (gV v69 false (pickV v72 v79 (.bool false))) fun v80 =>
 vK (pickV v69 (.bool true) v80) fun v81 =>
 iteK v81 (
 R (.bool false) h63) (
 vK (binV .i .add (ix x61 0) (.int .i64 1)) fun v82 =>
 again64 [v82] h63)) (
 FCall Try.prog F_ledger_Ledger_Written #[v11, a1, a2] h63 fun v83 h84 =>
 vK (binV .i .eql v83 (ix x16 0)) fun v85 =>
 vK (gV v85 true (some v58)) fun v86 =>
 vK (gV v85 true (lenslV v86)) fun v87 =>
 vK (gV v85 true (some v13)) fun v88 =>
 vK (gV v85 true (lenmV h84 v88)) fun v89 =>
 vK (gV v85 true (binV .i .eql v87 v89)) fun v90 =>
 vK (pickV v85 v90 (.bool false)) fun v91 =>
 R v91 h84)))
noncomputable def an_law20_LedgerWrites : Ann := (.s .z (.s (.s .z (.s (.s .z .z) .z)) (.s .z (.s .z (.s .z (.s (.s .z (.l 4611686018360281344 [8, 26] (.s .z (.s (.s .z .z) (.s (.s .z (.s (.s .z (.s .z .z)) (.s .z (.s .z (.s .z .z))))) .z))))) (.s .z (.s (.s .z (.l 618969945855713842611380288 [66] (.s .z (.s (.s .z .z) (.s (.s .z (.s .z (.s (.s .z .z) .z))) .z))))) (.s .z .z)))))))))
theorem oc_law20_LedgerWrites : okCode Try.f14.ntmps ((Try.f14.body).getD .skip) an_law20_LedgerWrites = true := by kernel_rfl
theorem eq_law20_LedgerWrites (a0 a1 a2 : Value) (h : Heap) (R : Value → Heap → Prop) : sh_law20_LedgerWrites a0 a1 a2 h R = cFunc Try.prog ((Try.f14.body).getD .skip) an_law20_LedgerWrites Try.f14.results.toList #[a0, a1, a2].toList h R := by kernel_rfl
theorem ok_law20_LedgerWrites {a0 a1 a2 : Value} {h : Heap} {R : Value → Heap → Prop} (H : sh_law20_LedgerWrites a0 a1 a2 h R) : FCall Try.prog F_law20_LedgerWrites #[a0, a1, a2] h R :=
  fcall_of (by kernel_rfl) (fn := Try.f14) (c := (Try.f14.body).getD .skip) (an := an_law20_LedgerWrites) (by kernel_rfl) (by kernel_rfl) (by kernel_rfl) oc_law20_LedgerWrites (by kernel_rfl) (Eq.mp (eq_law20_LedgerWrites a0 a1 a2 h R) H)

/-! ### smalto|smaltolaw20.Lives: function 15 -/
def sh_law20_Lives (h : Heap) (R : Value → Heap → Prop) : Prop :=
 rowK #[(.int .i64 0), (.int .i64 0)] 3 2 [(0, 1, (.int .i64 1)), (1, 1, (.int .i64 0))] h fun v1 h2 =>
 vK ((fillL #[(.int .i64 0), (.slice none 0 0), (.int .i64 0), (.int .i64 0), (.int .i64 0), (.bool false)] [(1, 1, v1), (3, 1, (.int .i64 3)), (4, 1, (.int .i64 4)), (5, 1, (.bool true))]).map .agg) fun v3 =>
 newK #[(.int .i64 0), (.slice none 0 0), (.int .i64 0), (.int .i64 0), (.int .i64 0), (.bool false)] 25 h2 fun v4 h5 =>
 stK 6 v4 v3 h5 fun v6 h7 =>
 rowK #[(.int .i64 0), (.int .i64 0)] 3 2 [(0, 1, (.int .i64 0)), (1, 1, (.int .i64 1))] h7 fun v8 h9 =>
 vK ((fillL #[(.int .i64 0), (.slice none 0 0), (.int .i64 0), (.int .i64 0), (.int .i64 0), (.bool false)] [(0, 1, (.int .i64 1)), (1, 1, v8), (3, 1, (.int .i64 2)), (4, 1, (.int .i64 9)), (5, 1, (.bool true))]).map .agg) fun v10 =>
 newK #[(.int .i64 0), (.slice none 0 0), (.int .i64 0), (.int .i64 0), (.int .i64 0), (.bool false)] 25 h9 fun v11 h12 =>
 stK 6 v11 v10 h12 fun v13 h14 =>
 vK (ldsV 6 h14 v4) fun v15 =>
 vK (ldsV 6 h14 v11) fun v16 =>
 FCall Try.prog F_ledger_Race #[v15, v16] h14 fun v17 h18 =>
 vK (gV v17 true (ldsV 6 h18 v11)) fun v19 =>
 vK (gV v17 true (ldsV 6 h18 v4)) fun v20 =>
 gK v17 true (fun k24 => FCall Try.prog F_ledger_Race #[v19, v20] h18 k24) h18 fun v21 h22 =>
 vK (pickV v17 v21 (.bool false)) fun v23 =>
 R v23 h22
noncomputable def an_law20_Lives : Ann := (.s .z (.s .z (.s .z (.s .z .z))))
theorem oc_law20_Lives : okCode Try.f15.ntmps ((Try.f15.body).getD .skip) an_law20_Lives = true := by kernel_rfl
theorem eq_law20_Lives (h : Heap) (R : Value → Heap → Prop) : sh_law20_Lives h R = cFunc Try.prog ((Try.f15.body).getD .skip) an_law20_Lives Try.f15.results.toList #[].toList h R := by kernel_rfl
theorem ok_law20_Lives {h : Heap} {R : Value → Heap → Prop} (H : sh_law20_Lives h R) : FCall Try.prog F_law20_Lives #[] h R :=
  fcall_of (by kernel_rfl) (fn := Try.f15) (c := (Try.f15.body).getD .skip) (an := an_law20_Lives) (by kernel_rfl) (by kernel_rfl) (by kernel_rfl) oc_law20_Lives (by kernel_rfl) (Eq.mp (eq_law20_Lives h R) H)

/-! ### smalto|smaltolaw20.few: function 16 -/
def sh_law20_few (a0 : Value) (h : Heap) (R : Value → Heap → Prop) : Prop :=
 vK (lenslV a0) fun v1 =>
 loopK [(.int .i64 0)] h fun x2 j3 h4 again5 =>
 vK (binV .i .lss (ix x2 0) v1) fun v6 =>
 iteK v6 (
 vK (idxV 6 a0 (ix x2 0)) fun v7 =>
 vK (ldsV 6 h4 v7) fun v8 =>
 newK #[(.int .i64 0), (.slice none 0 0), (.int .i64 0), (.int .i64 0), (.int .i64 0), (.bool false)] 25 h4 fun v9 h10 =>
 stK 6 v9 v8 h10 fun v11 h12 =>
 vK (fldV 1 v9) fun v13 =>
 vK (ldV h12 v13) fun v14 =>
 vK (lenslV v14) fun v15 =>
 vK (binV .i .gtr v15 (.int .i64 20)) fun v16 =>
 iteK v16 (
 R (.bool false) h12) (
 vK (binV .i .add (ix x2 0) (.int .i64 1)) fun v17 =>
 again5 [v17] h12)) (
 vK (lenslV a0) fun v18 =>
 vK (binV .i .leq v18 (.int .i64 40)) fun v19 =>
 R v19 h4)
noncomputable def an_law20_few : Ann := (.s .z (.s (.s .z (.l 65428 [7] (.s .z (.s (.s .z .z) (.s (.s .z (.s .z (.s (.s .z .z) .z))) .z))))) (.s .z .z)))
theorem oc_law20_few : okCode Try.f16.ntmps ((Try.f16.body).getD .skip) an_law20_few = true := by kernel_rfl
theorem eq_law20_few (a0 : Value) (h : Heap) (R : Value → Heap → Prop) : sh_law20_few a0 h R = cFunc Try.prog ((Try.f16.body).getD .skip) an_law20_few Try.f16.results.toList #[a0].toList h R := by kernel_rfl
theorem ok_law20_few {a0 : Value} {h : Heap} {R : Value → Heap → Prop} (H : sh_law20_few a0 h R) : FCall Try.prog F_law20_few #[a0] h R :=
  fcall_of (by kernel_rfl) (fn := Try.f16) (c := (Try.f16.body).getD .skip) (an := an_law20_few) (by kernel_rfl) (by kernel_rfl) (by kernel_rfl) oc_law20_few (by kernel_rfl) (Eq.mp (eq_law20_few a0 h R) H)

/-! ### smalto|ledger.Race: function 17 -/
def sh_ledger_Race (a0 a1 : Value) (h : Heap) (R : Value → Heap → Prop) : Prop :=
 newK (Value.cells a0) 25 h fun v1 h2 =>
 newK (Value.cells a1) 25 h2 fun v3 h4 =>
 vK (fldV 0 v1) fun v5 =>
 vK (ldV h4 v5) fun v6 =>
 vK (fldV 0 v3) fun v7 =>
 vK (ldV h4 v7) fun v8 =>
 vK (binV .i .neq v6 v8) fun v9 =>
 vK (gV v9 true (fldV 5 v1)) fun v10 =>
 vK (gV v9 true (ldV h4 v10)) fun v11 =>
 vK (gV v9 true (some v11)) fun v12 =>
 vK (gV v12 false (fldV 5 v3)) fun v13 =>
 vK (gV v12 false (ldV h4 v13)) fun v14 =>
 vK (gV v9 true (pickV v12 (.bool true) v14)) fun v15 =>
 vK (pickV v9 v15 (.bool false)) fun v16 =>
 vK (gV v16 true (ldsV 6 h4 v1)) fun v17 =>
 vK (gV v16 true (ldsV 6 h4 v3)) fun v18 =>
 gK v16 true (fun k40 => FCall Try.prog F_ledger_meets #[v17, v18] h4 k40) h4 fun v19 h20 =>
 vK (pickV v16 v19 (.bool false)) fun v21 =>
 vK (gV v21 true (fldV 1 v1)) fun v22 =>
 vK (gV v21 true (ldV h20 v22)) fun v23 =>
 vK (gV v21 true (fldV 1 v3)) fun v24 =>
 vK (gV v21 true (ldV h20 v24)) fun v25 =>
 gK v21 true (fun k39 => FCall Try.prog F_clock_Ahead #[v23, v25] h20 k39) h20 fun v26 h27 =>
 vK (gV v21 true (unV .not v26)) fun v28 =>
 vK (pickV v21 v28 (.bool false)) fun v29 =>
 vK (gV v29 true (fldV 1 v3)) fun v30 =>
 vK (gV v29 true (ldV h27 v30)) fun v31 =>
 vK (gV v29 true (fldV 1 v1)) fun v32 =>
 vK (gV v29 true (ldV h27 v32)) fun v33 =>
 gK v29 true (fun k38 => FCall Try.prog F_clock_Ahead #[v31, v33] h27 k38) h27 fun v34 h35 =>
 vK (gV v29 true (unV .not v34)) fun v36 =>
 vK (pickV v29 v36 (.bool false)) fun v37 =>
 R v37 h35
noncomputable def an_ledger_Race : Ann := (.s .z (.s .z .z))
theorem oc_ledger_Race : okCode Try.f17.ntmps ((Try.f17.body).getD .skip) an_ledger_Race = true := by kernel_rfl
theorem eq_ledger_Race (a0 a1 : Value) (h : Heap) (R : Value → Heap → Prop) : sh_ledger_Race a0 a1 h R = cFunc Try.prog ((Try.f17.body).getD .skip) an_ledger_Race Try.f17.results.toList #[a0, a1].toList h R := by kernel_rfl
theorem ok_ledger_Race {a0 a1 : Value} {h : Heap} {R : Value → Heap → Prop} (H : sh_ledger_Race a0 a1 h R) : FCall Try.prog F_ledger_Race #[a0, a1] h R :=
  fcall_of (by kernel_rfl) (fn := Try.f17) (c := (Try.f17.body).getD .skip) (an := an_ledger_Race) (by kernel_rfl) (by kernel_rfl) (by kernel_rfl) oc_ledger_Race (by kernel_rfl) (Eq.mp (eq_ledger_Race a0 a1 h R) H)

/-! ### smalto|smaltoref20.Race: function 18 -/
def sh_ref20_Race (a0 a1 : Value) (h : Heap) (R : Value → Heap → Prop) : Prop :=
 newK (Value.cells a0) 32 h fun v1 h2 =>
 newK (Value.cells a1) 32 h2 fun v3 h4 =>
 vK (fldV 0 v1) fun v5 =>
 vK (ldV h4 v5) fun v6 =>
 vK (fldV 0 v3) fun v7 =>
 vK (ldV h4 v7) fun v8 =>
 vK (binV .i .eql v6 v8) fun v9 =>
 vK (gV v9 false (fldV 2 v1)) fun v10 =>
 vK (gV v9 false (ldV h4 v10)) fun v11 =>
 vK (gV v9 false (fldV 2 v3)) fun v12 =>
 vK (gV v9 false (ldV h4 v12)) fun v13 =>
 vK (gV v9 false (binV .i .neq v11 v13)) fun v14 =>
 vK (pickV v9 (.bool true) v14) fun v15 =>
 vK (gV v15 false (fldV 5 v1)) fun v16 =>
 vK (gV v15 false (ldV h4 v16)) fun v17 =>
 vK (gV v15 false (unV .not v17)) fun v18 =>
 vK (gV v15 false (some v18)) fun v19 =>
 vK (gV v19 true (fldV 5 v3)) fun v20 =>
 vK (gV v19 true (ldV h4 v20)) fun v21 =>
 vK (gV v19 true (unV .not v21)) fun v22 =>
 vK (gV v15 false (pickV v19 v22 (.bool false))) fun v23 =>
 vK (pickV v15 (.bool true) v23) fun v24 =>
 iteK v24 (
 R (.bool false) h4) (
 vK (fldV 4 v1) fun v25 =>
 vK (ldV h4 v25) fun v26 =>
 vK (fldV 3 v3) fun v27 =>
 vK (ldV h4 v27) fun v28 =>
 vK (binV .i .leq v26 v28) fun v29 =>
 vK (gV v29 false (fldV 4 v3)) fun v30 =>
 vK (gV v29 false (ldV h4 v30)) fun v31 =>
 vK (gV v29 false (fldV 3 v1)) fun v32 =>
 vK (gV v29 false (ldV h4 v32)) fun v33 =>
 vK (gV v29 false (binV .i .leq v31 v33)) fun v34 =>
 vK (pickV v29 (.bool true) v34) fun v35 =>
 vK (gV v35 false (fldV 3 v1)) fun v36 =>
 vK (gV v35 false (ldV h4 v36)) fun v37 =>
 vK (gV v35 false (fldV 4 v1)) fun v38 =>
 vK (gV v35 false (ldV h4 v38)) fun v39 =>
 vK (gV v35 false (binV .i .geq v37 v39)) fun v40 =>
 vK (pickV v35 (.bool true) v40) fun v41 =>
 vK (gV v41 false (fldV 3 v3)) fun v42 =>
 vK (gV v41 false (ldV h4 v42)) fun v43 =>
 vK (gV v41 false (fldV 4 v3)) fun v44 =>
 vK (gV v41 false (ldV h4 v44)) fun v45 =>
 vK (gV v41 false (binV .i .geq v43 v45)) fun v46 =>
 vK (pickV v41 (.bool true) v46) fun v47 =>
 iteK v47 (
 R (.bool false) h4) (
 vK (fldV 1 v1) fun v48 =>
 vK (ldV h4 v48) fun v49 =>
 vK (fldV 1 v3) fun v50 =>
 vK (ldV h4 v50) fun v51 =>
 FCall Try.prog F_ref19_Ahead #[v49, v51] h4 fun v52 h53 =>
 vK (unV .not v52) fun v54 =>
 vK (gV v54 true (fldV 1 v3)) fun v55 =>
 vK (gV v54 true (ldV h53 v55)) fun v56 =>
 vK (gV v54 true (fldV 1 v1)) fun v57 =>
 vK (gV v54 true (ldV h53 v57)) fun v58 =>
 gK v54 true (fun k63 => FCall Try.prog F_ref19_Ahead #[v56, v58] h53 k63) h53 fun v59 h60 =>
 vK (gV v54 true (unV .not v59)) fun v61 =>
 vK (pickV v54 v61 (.bool false)) fun v62 =>
 R v62 h60))
noncomputable def an_ref20_Race : Ann := (.s .z (.s (.s .z (.s (.s .z .z) .z)) (.s (.s .z (.s (.s .z .z) .z)) (.s .z .z))))
theorem oc_ref20_Race : okCode Try.f18.ntmps ((Try.f18.body).getD .skip) an_ref20_Race = true := by kernel_rfl
theorem eq_ref20_Race (a0 a1 : Value) (h : Heap) (R : Value → Heap → Prop) : sh_ref20_Race a0 a1 h R = cFunc Try.prog ((Try.f18.body).getD .skip) an_ref20_Race Try.f18.results.toList #[a0, a1].toList h R := by kernel_rfl
theorem ok_ref20_Race {a0 a1 : Value} {h : Heap} {R : Value → Heap → Prop} (H : sh_ref20_Race a0 a1 h R) : FCall Try.prog F_ref20_Race #[a0, a1] h R :=
  fcall_of (by kernel_rfl) (fn := Try.f18) (c := (Try.f18.body).getD .skip) (an := an_ref20_Race) (by kernel_rfl) (by kernel_rfl) (by kernel_rfl) oc_ref20_Race (by kernel_rfl) (Eq.mp (eq_ref20_Race a0 a1 h R) H)

/-! ### smalto|smaltolaw20.ref: function 19 -/
def sh_law20_ref (a0 : Value) (h : Heap) (R : Value → Heap → Prop) : Prop :=
 newK (Value.cells a0) 25 h fun v1 h2 =>
 newK #[(.int .i64 0), (.slice none 0 0), (.int .i64 0), (.int .i64 0), (.int .i64 0), (.bool false)] 32 h2 fun v3 h4 =>
 vK (fldV 0 v1) fun v5 =>
 vK (ldV h4 v5) fun v6 =>
 vK (fldV 1 v1) fun v7 =>
 vK (ldV h4 v7) fun v8 =>
 vK (fldV 2 v1) fun v9 =>
 vK (ldV h4 v9) fun v10 =>
 vK (fldV 3 v1) fun v11 =>
 vK (ldV h4 v11) fun v12 =>
 vK (fldV 4 v1) fun v13 =>
 vK (ldV h4 v13) fun v14 =>
 vK (fldV 5 v1) fun v15 =>
 vK (ldV h4 v15) fun v16 =>
 vK ((fillL #[(.int .i64 0), (.slice none 0 0), (.int .i64 0), (.int .i64 0), (.int .i64 0), (.bool false)] [(0, 1, v6), (1, 1, v8), (2, 1, v10), (3, 1, v12), (4, 1, v14), (5, 1, v16)]).map .agg) fun v17 =>
 stK 6 v3 v17 h4 fun v18 h19 =>
 vK (ldsV 6 h19 v3) fun v20 =>
 R v20 h19
noncomputable def an_law20_ref : Ann := (.s .z (.s .z .z))
theorem oc_law20_ref : okCode Try.f19.ntmps ((Try.f19.body).getD .skip) an_law20_ref = true := by kernel_rfl
theorem eq_law20_ref (a0 : Value) (h : Heap) (R : Value → Heap → Prop) : sh_law20_ref a0 h R = cFunc Try.prog ((Try.f19.body).getD .skip) an_law20_ref Try.f19.results.toList #[a0].toList h R := by kernel_rfl
theorem ok_law20_ref {a0 : Value} {h : Heap} {R : Value → Heap → Prop} (H : sh_law20_ref a0 h R) : FCall Try.prog F_law20_ref #[a0] h R :=
  fcall_of (by kernel_rfl) (fn := Try.f19) (c := (Try.f19.body).getD .skip) (an := an_law20_ref) (by kernel_rfl) (by kernel_rfl) (by kernel_rfl) oc_law20_ref (by kernel_rfl) (Eq.mp (eq_law20_ref a0 h R) H)

/-! ### (*smalto|ledger.Ledger).Add: function 20 -/
def sh_ledger_Ledger_Add (a0 a1 : Value) (h : Heap) (R : Value → Heap → Prop) : Prop :=
 newK (Value.cells a1) 25 h fun v1 h2 =>
 vK (ldsV 6 h2 v1) fun v3 =>
 FCall Try.prog F_ledger_may #[v3] h2 fun v4 h5 =>
 vK (unV .not v4) fun v6 =>
 iteK v6 (
 R (.bool false) h5) (
 drawK h5 fun S =>
 vK (nilV a0) fun v7 =>
 vK (fldV 0 v7) fun v8 =>
 qK S (fun h5 => ldV h5 v8) fun v9 =>
 qK S (fun h5 => ldsV 6 h5 v1) fun v10 =>
 FCall Try.prog F_ledger_apart #[v10] h5 fun v11 h12 =>
 S h12 ∧ (rowK #[(.int .i64 0), (.slice none 0 0), (.int .i64 0), (.int .i64 0), (.int .i64 0), (.bool false)] 25 1 [(0, 6, v11)] h12 fun v13 h14 =>
 S h14 ∧ (appK (.agg #[.int .i64 0, .slice none 0 0, .int .i64 0, .int .i64 0, .int .i64 0, .bool false]) 25 6 64 v9 v13 h14 fun v15 h16 =>
 S h16 ∧ (vK (nilV a0) fun v17 =>
 vK (fldV 0 v17) fun v18 =>
 stK 1 v18 v15 h16 fun v19 h20 =>
 R (.bool true) h20))))
noncomputable def an_ledger_Ledger_Add : Ann := (.s .z (.s (.s .z (.s (.s .z .z) .z)) (.s (.d [(0, .r), (1, .r), (2, .r), (3, .r), (4, .r), (5, .r), (6, .e), (7, .e), (8, .e), (9, .r), (10, .r), (11, .n)]) (.s .z .z))))
theorem oc_ledger_Ledger_Add : okCode Try.f20.ntmps ((Try.f20.body).getD .skip) an_ledger_Ledger_Add = true := by kernel_rfl
theorem eq_ledger_Ledger_Add (a0 a1 : Value) (h : Heap) (R : Value → Heap → Prop) : sh_ledger_Ledger_Add a0 a1 h R = cFunc Try.prog ((Try.f20.body).getD .skip) an_ledger_Ledger_Add Try.f20.results.toList #[a0, a1].toList h R := by kernel_rfl
theorem ok_ledger_Ledger_Add {a0 a1 : Value} {h : Heap} {R : Value → Heap → Prop} (H : sh_ledger_Ledger_Add a0 a1 h R) : FCall Try.prog F_ledger_Ledger_Add #[a0, a1] h R :=
  fcall_of (by kernel_rfl) (fn := Try.f20) (c := (Try.f20.body).getD .skip) (an := an_ledger_Ledger_Add) (by kernel_rfl) (by kernel_rfl) (by kernel_rfl) oc_ledger_Ledger_Add (by kernel_rfl) (Eq.mp (eq_ledger_Ledger_Add a0 a1 h R) H)

/-! ### (*smalto|ledger.Ledger).Races: function 21 -/
def sh_ledger_Ledger_Races (a0 : Value) (h : Heap) (R : Value → Heap → Prop) : Prop :=
 vK (nilV a0) fun v1 =>
 vK (fldV 0 v1) fun v2 =>
 vK (ldV h v2) fun v3 =>
 vK (lenslV v3) fun v4 =>
 loopK [(.slice none 0 0), (.int .i64 0)] h fun x5 j6 h7 again8 =>
 vK (binV .i .lss (ix x5 1) v4) fun v9 =>
 iteK v9 (
 vK (idxV 6 v3 (ix x5 1)) fun v10 =>
 vK (ldsV 6 h7 v10) fun v11 =>
 newK #[(.int .i64 0), (.slice none 0 0), (.int .i64 0), (.int .i64 0), (.int .i64 0), (.bool false)] 25 h7 fun v12 h13 =>
 stK 6 v12 v11 h13 fun v14 h15 =>
 vK (binV .i .add (ix x5 1) (.int .i64 1)) fun v16 =>
 loopK [(ix x5 0), v16] h15 fun x17 j18 h19 again20 =>
 vK (nilV a0) fun v21 =>
 vK (fldV 0 v21) fun v22 =>
 vK (ldV h19 v22) fun v23 =>
 vK (lenslV v23) fun v24 =>
 vK (binV .i .lss (ix x17 1) v24) fun v25 =>
 iteK v25 (
 drawK h19 fun S =>
 qK S (fun h19 => ldsV 6 h19 v12) fun v26 =>
 vK (nilV a0) fun v27 =>
 vK (fldV 0 v27) fun v28 =>
 qK S (fun h19 => ldV h19 v28) fun v29 =>
 vK (idxV 6 v29 (ix x17 1)) fun v30 =>
 qK S (fun h19 => ldsV 6 h19 v30) fun v31 =>
 FCall Try.prog F_ledger_Race #[v26, v31] h19 fun v32 h33 =>
 iteK v32 (
 vK ((fillL #[(.int .i64 0), (.int .i64 0)] [(0, 1, (ix x5 1)), (1, 1, (ix x17 1))]).map .agg) fun v34 =>
 rowK #[(.int .i64 0), (.int .i64 0)] 44 1 [(0, 2, v34)] h33 fun v35 h36 =>
 appK (.agg #[.int .i64 0, .int .i64 0]) 44 2 16 (ix x17 0) v35 h36 fun v37 h38 =>
 vK (binV .i .add (ix x17 1) (.int .i64 1)) fun v39 =>
 again20 [v37, v39] h38) (
 vK (binV .i .add (ix x17 1) (.int .i64 1)) fun v40 =>
 again20 [(ix x17 0), v40] h33)) (
 vK (binV .i .add (ix x5 1) (.int .i64 1)) fun v41 =>
 again8 [(ix x17 0), v41] h19)) (
 R (ix x5 0) h7)
noncomputable def an_ledger_Ledger_Races : Ann := (.s .z (.s .z (.s (.s .z (.l 17592186040440 [3, 12] (.s .z (.s (.s .z .z) (.s (.s .z (.s .z (.l 8796092497992 [3, 6] (.s (.s .z (.s .z .z)) (.s (.s (.d [(0, .r), (1, .r), (2, .r), (3, .r), (4, .r), (5, .r), (6, .r), (7, .r), (8, .n)]) (.s .z .z)) .z))))) .z))))) (.s .z .z))))
theorem oc_ledger_Ledger_Races : okCode Try.f21.ntmps ((Try.f21.body).getD .skip) an_ledger_Ledger_Races = true := by kernel_rfl
theorem eq_ledger_Ledger_Races (a0 : Value) (h : Heap) (R : Value → Heap → Prop) : sh_ledger_Ledger_Races a0 h R = cFunc Try.prog ((Try.f21.body).getD .skip) an_ledger_Ledger_Races Try.f21.results.toList #[a0].toList h R := by kernel_rfl
theorem ok_ledger_Ledger_Races {a0 : Value} {h : Heap} {R : Value → Heap → Prop} (H : sh_ledger_Ledger_Races a0 h R) : FCall Try.prog F_ledger_Ledger_Races #[a0] h R :=
  fcall_of (by kernel_rfl) (fn := Try.f21) (c := (Try.f21.body).getD .skip) (an := an_ledger_Ledger_Races) (by kernel_rfl) (by kernel_rfl) (by kernel_rfl) oc_ledger_Ledger_Races (by kernel_rfl) (Eq.mp (eq_ledger_Ledger_Races a0 h R) H)

/-! ### smalto|smaltolaw19.lives: function 22 -/
def sh_law19_lives (h : Heap) (R : Value → Heap → Prop) : Prop :=
 FCall Try.prog F_clock_New #[(.int .i64 2)] h fun v1 h2 =>
 vK (binV .p .neq v1 (.pointer none)) fun v3 =>
 vK (gV v3 true (some v1)) fun v4 =>
 gK v3 true (fun k44 => FCall Try.prog F_clock_Clock_Now #[v4, (.int .i64 0)] h2 k44) h2 fun v5 h6 =>
 gK v3 true (fun k43 => rowK #[(.int .i64 0), (.int .i64 0)] 3 2 [(0, 1, (.int .i64 1)), (1, 1, (.int .i64 0))] h6 k43) h6 fun v7 h8 =>
 gK v3 true (fun k42 => FCall Try.prog F_ref19_Equal #[v5, v7] h8 k42) h8 fun v9 h10 =>
 vK (pickV v3 v9 (.bool false)) fun v11 =>
 vK (gV v11 true (some v1)) fun v12 =>
 gK v11 true (fun k41 => FCall Try.prog F_clock_Clock_Tick #[v12, (.int .i64 0)] h10 k41) h10 fun v13 h14 =>
 gK v11 true (fun k40 => rowK #[(.int .i64 0), (.int .i64 0)] 3 2 [(0, 1, (.int .i64 1)), (1, 1, (.int .i64 0))] h14 k40) h14 fun v15 h16 =>
 gK v11 true (fun k39 => FCall Try.prog F_ref19_Equal #[v13, v15] h16 k39) h16 fun v17 h18 =>
 vK (pickV v11 v17 (.bool false)) fun v19 =>
 vK (gV v19 true (some v1)) fun v20 =>
 gK v19 true (fun k38 => rowK #[(.int .i64 0), (.int .i64 0)] 3 2 [(0, 1, (.int .i64 1)), (1, 1, (.int .i64 0))] h18 k38) h18 fun v21 h22 =>
 gK v19 true (fun k37 => FCall Try.prog F_clock_Clock_Meet #[v20, (.int .i64 1), v21] h22 k37) h22 fun v23 h24 =>
 vK (pickV v19 v23 (.bool false)) fun v25 =>
 vK (gV v25 true (some v1)) fun v26 =>
 gK v25 true (fun k36 => FCall Try.prog F_clock_Clock_Now #[v26, (.int .i64 1)] h24 k36) h24 fun v27 h28 =>
 gK v25 true (fun k35 => rowK #[(.int .i64 0), (.int .i64 0)] 3 2 [(0, 1, (.int .i64 1)), (1, 1, (.int .i64 1))] h28 k35) h28 fun v29 h30 =>
 gK v25 true (fun k34 => FCall Try.prog F_ref19_Equal #[v27, v29] h30 k34) h30 fun v31 h32 =>
 vK (pickV v25 v31 (.bool false)) fun v33 =>
 R v33 h32
noncomputable def an_law19_lives : Ann := (.s .z (.s .z (.s .z .z)))
theorem oc_law19_lives : okCode Try.f22.ntmps ((Try.f22.body).getD .skip) an_law19_lives = true := by kernel_rfl
theorem eq_law19_lives (h : Heap) (R : Value → Heap → Prop) : sh_law19_lives h R = cFunc Try.prog ((Try.f22.body).getD .skip) an_law19_lives Try.f22.results.toList #[].toList h R := by kernel_rfl
theorem ok_law19_lives {h : Heap} {R : Value → Heap → Prop} (H : sh_law19_lives h R) : FCall Try.prog F_law19_lives #[] h R :=
  fcall_of (by kernel_rfl) (fn := Try.f22) (c := (Try.f22.body).getD .skip) (an := an_law19_lives) (by kernel_rfl) (by kernel_rfl) (by kernel_rfl) oc_law19_lives (by kernel_rfl) (Eq.mp (eq_law19_lives h R) H)

/-! ### smalto|clock.Join: function 23 -/
def sh_clock_Join (a0 a1 : Value) (h : Heap) (R : Value → Heap → Prop) : Prop :=
 vK (lenslV a0) fun v1 =>
 vK (lenslV a1) fun v2 =>
 vK (maxV v1 v2) fun v3 =>
 mkK (.int .i64 0) 3 1 8 v3 v3 h fun v4 h5 =>
 cpyK 1 v4 a0 h5 fun v6 h7 =>
 vK (lenslV a1) fun v8 =>
 loopK [(.int .i64 0)] h7 fun x9 j10 h11 again12 =>
 vK (binV .i .lss (ix x9 0) v8) fun v13 =>
 iteK v13 (
 vK (idxV 1 a1 (ix x9 0)) fun v14 =>
 vK (ldV h11 v14) fun v15 =>
 vK (lenslV a0) fun v16 =>
 vK (binV .i .geq (ix x9 0) v16) fun v17 =>
 iteK v17 (
 vK (maxV (.int .i64 0) v15) fun v18 =>
 vK (idxV 1 v4 (ix x9 0)) fun v19 =>
 stK 1 v19 v18 h11 fun v20 h21 =>
 vK (binV .i .add (ix x9 0) (.int .i64 1)) fun v22 =>
 again12 [v22] h21) (
 vK (idxV 1 v4 (ix x9 0)) fun v23 =>
 vK (ldV h11 v23) fun v24 =>
 vK (maxV v24 v15) fun v25 =>
 vK (idxV 1 v4 (ix x9 0)) fun v26 =>
 stK 1 v26 v25 h11 fun v27 h28 =>
 vK (binV .i .add (ix x9 0) (.int .i64 1)) fun v29 =>
 again12 [v29] h28)) (
 vK (lenslV a1) fun v30 =>
 loopK [v30] h11 fun x31 j32 h33 again34 =>
 vK (lenslV a0) fun v35 =>
 vK (binV .i .lss (ix x31 0) v35) fun v36 =>
 iteK v36 (
 vK (idxV 1 v4 (ix x31 0)) fun v37 =>
 vK (ldV h33 v37) fun v38 =>
 vK (maxV (.int .i64 0) v38) fun v39 =>
 vK (idxV 1 v4 (ix x31 0)) fun v40 =>
 stK 1 v40 v39 h33 fun v41 h42 =>
 vK (binV .i .add (ix x31 0) (.int .i64 1)) fun v43 =>
 again34 [v43] h42) (
 R v4 h33))
noncomputable def an_clock_Join : Ann := (.s .z (.s .z (.s .z (.s (.s .z (.l 17592184996032 [20] (.s .z (.s (.s .z .z) (.s (.s .z (.s .z (.s .z .z))) .z))))) (.s (.s .z (.l 1152851135862669568 [8] (.s (.s .z (.s .z .z)) (.s .z .z)))) (.s .z .z))))))
theorem oc_clock_Join : okCode Try.f23.ntmps ((Try.f23.body).getD .skip) an_clock_Join = true := by kernel_rfl
theorem eq_clock_Join (a0 a1 : Value) (h : Heap) (R : Value → Heap → Prop) : sh_clock_Join a0 a1 h R = cFunc Try.prog ((Try.f23.body).getD .skip) an_clock_Join Try.f23.results.toList #[a0, a1].toList h R := by kernel_rfl
theorem ok_clock_Join {a0 a1 : Value} {h : Heap} {R : Value → Heap → Prop} (H : sh_clock_Join a0 a1 h R) : FCall Try.prog F_clock_Join #[a0, a1] h R :=
  fcall_of (by kernel_rfl) (fn := Try.f23) (c := (Try.f23.body).getD .skip) (an := an_clock_Join) (by kernel_rfl) (by kernel_rfl) (by kernel_rfl) oc_clock_Join (by kernel_rfl) (Eq.mp (eq_clock_Join a0 a1 h R) H)

/-! ### smalto|smaltoref19.Equal: function 24 -/
def sh_ref19_Equal (a0 a1 : Value) (h : Heap) (R : Value → Heap → Prop) : Prop :=
 vK (lenslV a0) fun v1 =>
 vK (lenslV a1) fun v2 =>
 vK (binV .i .neq v1 v2) fun v3 =>
 iteK v3 (
 R (.bool false) h) (
 vK (lenslV a0) fun v4 =>
 loopK [(.int .i64 0)] h fun x5 j6 h7 again8 =>
 vK (binV .i .lss (ix x5 0) v4) fun v9 =>
 iteK v9 (
 vK (idxV 1 a0 (ix x5 0)) fun v10 =>
 vK (ldV h7 v10) fun v11 =>
 vK (idxV 1 a1 (ix x5 0)) fun v12 =>
 vK (ldV h7 v12) fun v13 =>
 vK (binV .i .neq v11 v13) fun v14 =>
 iteK v14 (
 R (.bool false) h7) (
 vK (binV .i .add (ix x5 0) (.int .i64 1)) fun v15 =>
 again8 [v15] h7)) (
 R (.bool true) h7))
noncomputable def an_ref19_Equal : Ann := (.s .z (.s (.s .z (.s (.s .z .z) .z)) (.s (.s .z (.l 67100720 [13] (.s .z (.s (.s .z .z) (.s (.s .z (.s .z (.s (.s .z .z) .z))) .z))))) (.s .z .z))))
theorem oc_ref19_Equal : okCode Try.f24.ntmps ((Try.f24.body).getD .skip) an_ref19_Equal = true := by kernel_rfl
theorem eq_ref19_Equal (a0 a1 : Value) (h : Heap) (R : Value → Heap → Prop) : sh_ref19_Equal a0 a1 h R = cFunc Try.prog ((Try.f24.body).getD .skip) an_ref19_Equal Try.f24.results.toList #[a0, a1].toList h R := by kernel_rfl
theorem ok_ref19_Equal {a0 a1 : Value} {h : Heap} {R : Value → Heap → Prop} (H : sh_ref19_Equal a0 a1 h R) : FCall Try.prog F_ref19_Equal #[a0, a1] h R :=
  fcall_of (by kernel_rfl) (fn := Try.f24) (c := (Try.f24.body).getD .skip) (an := an_ref19_Equal) (by kernel_rfl) (by kernel_rfl) (by kernel_rfl) oc_ref19_Equal (by kernel_rfl) (Eq.mp (eq_ref19_Equal a0 a1 h R) H)

/-! ### smalto|smaltoref20.May: function 25 -/
def sh_ref20_May (a0 : Value) (h : Heap) (R : Value → Heap → Prop) : Prop :=
 newK (Value.cells a0) 32 h fun v1 h2 =>
 vK (fldV 0 v1) fun v3 =>
 vK (ldV h2 v3) fun v4 =>
 vK (binV .i .geq v4 (.int .i64 0)) fun v5 =>
 vK (gV v5 true (fldV 2 v1)) fun v6 =>
 vK (gV v5 true (ldV h2 v6)) fun v7 =>
 vK (gV v5 true (binV .i .geq v7 (.int .i64 0))) fun v8 =>
 vK (pickV v5 v8 (.bool false)) fun v9 =>
 vK (gV v9 true (fldV 3 v1)) fun v10 =>
 vK (gV v9 true (ldV h2 v10)) fun v11 =>
 vK (gV v9 true (binV .i .geq v11 (.int .i64 0))) fun v12 =>
 vK (pickV v9 v12 (.bool false)) fun v13 =>
 vK (gV v13 true (fldV 4 v1)) fun v14 =>
 vK (gV v13 true (ldV h2 v14)) fun v15 =>
 vK (gV v13 true (fldV 3 v1)) fun v16 =>
 vK (gV v13 true (ldV h2 v16)) fun v17 =>
 vK (gV v13 true (binV .i .gtr v15 v17)) fun v18 =>
 vK (pickV v13 v18 (.bool false)) fun v19 =>
 R v19 h2
noncomputable def an_ref20_May : Ann := (.s .z (.s .z .z))
theorem oc_ref20_May : okCode Try.f25.ntmps ((Try.f25.body).getD .skip) an_ref20_May = true := by kernel_rfl
theorem eq_ref20_May (a0 : Value) (h : Heap) (R : Value → Heap → Prop) : sh_ref20_May a0 h R = cFunc Try.prog ((Try.f25.body).getD .skip) an_ref20_May Try.f25.results.toList #[a0].toList h R := by kernel_rfl
theorem ok_ref20_May {a0 : Value} {h : Heap} {R : Value → Heap → Prop} (H : sh_ref20_May a0 h R) : FCall Try.prog F_ref20_May #[a0] h R :=
  fcall_of (by kernel_rfl) (fn := Try.f25) (c := (Try.f25.body).getD .skip) (an := an_ref20_May) (by kernel_rfl) (by kernel_rfl) (by kernel_rfl) oc_ref20_May (by kernel_rfl) (Eq.mp (eq_ref20_May a0 h R) H)

/-! ### (*smalto|ledger.Ledger).Len: function 26 -/
def sh_ledger_Ledger_Len (a0 : Value) (h : Heap) (R : Value → Heap → Prop) : Prop :=
 vK (nilV a0) fun v1 =>
 vK (fldV 0 v1) fun v2 =>
 vK (ldV h v2) fun v3 =>
 vK (lenslV v3) fun v4 =>
 R v4 h
noncomputable def an_ledger_Ledger_Len : Ann := (.s .z (.s .z .z))
theorem oc_ledger_Ledger_Len : okCode Try.f26.ntmps ((Try.f26.body).getD .skip) an_ledger_Ledger_Len = true := by kernel_rfl
theorem eq_ledger_Ledger_Len (a0 : Value) (h : Heap) (R : Value → Heap → Prop) : sh_ledger_Ledger_Len a0 h R = cFunc Try.prog ((Try.f26.body).getD .skip) an_ledger_Ledger_Len Try.f26.results.toList #[a0].toList h R := by kernel_rfl
theorem ok_ledger_Ledger_Len {a0 : Value} {h : Heap} {R : Value → Heap → Prop} (H : sh_ledger_Ledger_Len a0 h R) : FCall Try.prog F_ledger_Ledger_Len #[a0] h R :=
  fcall_of (by kernel_rfl) (fn := Try.f26) (c := (Try.f26.body).getD .skip) (an := an_ledger_Ledger_Len) (by kernel_rfl) (by kernel_rfl) (by kernel_rfl) oc_ledger_Ledger_Len (by kernel_rfl) (Eq.mp (eq_ledger_Ledger_Len a0 h R) H)

/-! ### (*smalto|ledger.Ledger).At: function 27 -/
def sh_ledger_Ledger_At (a0 a1 : Value) (h : Heap) (R : Value → Heap → Prop) : Prop :=
 newK #[(.int .i64 0), (.slice none 0 0), (.int .i64 0), (.int .i64 0), (.int .i64 0), (.bool false)] 25 h fun v1 h2 =>
 vK (binV .i .lss a1 (.int .i64 0)) fun v3 =>
 vK (gV v3 false (some a1)) fun v4 =>
 vK (gV v3 false (some a0)) fun v5 =>
 vK (gV v3 false (nilV v5)) fun v6 =>
 vK (gV v3 false (fldV 0 v6)) fun v7 =>
 vK (gV v3 false (ldV h2 v7)) fun v8 =>
 vK (gV v3 false (lenslV v8)) fun v9 =>
 vK (gV v3 false (binV .i .geq v4 v9)) fun v10 =>
 vK (pickV v3 (.bool true) v10) fun v11 =>
 iteK v11 (
 vK ((fillL #[(.int .i64 0), (.slice none 0 0), (.int .i64 0), (.int .i64 0), (.int .i64 0), (.bool false)] []).map .agg) fun v12 =>
 stK 6 v1 v12 h2 fun v13 h14 =>
 vK (ldsV 6 h14 v1) fun v15 =>
 R (.tuple #[v15, (.bool false)]) h14) (
 vK (nilV a0) fun v16 =>
 vK (fldV 0 v16) fun v17 =>
 vK (ldV h2 v17) fun v18 =>
 vK (idxV 6 v18 a1) fun v19 =>
 vK (ldsV 6 h2 v19) fun v20 =>
 FCall Try.prog F_ledger_apart #[v20] h2 fun v21 h22 =>
 stK 6 v1 v21 h22 fun v23 h24 =>
 vK (ldsV 6 h24 v1) fun v25 =>
 R (.tuple #[v25, (.bool true)]) h24)
noncomputable def an_ledger_Ledger_At : Ann := (.s .z (.s (.s .z (.s (.s .z .z) .z)) (.s .z .z)))
theorem oc_ledger_Ledger_At : okCode Try.f27.ntmps ((Try.f27.body).getD .skip) an_ledger_Ledger_At = true := by kernel_rfl
theorem eq_ledger_Ledger_At (a0 a1 : Value) (h : Heap) (R : Value → Heap → Prop) : sh_ledger_Ledger_At a0 a1 h R = cFunc Try.prog ((Try.f27.body).getD .skip) an_ledger_Ledger_At Try.f27.results.toList #[a0, a1].toList h R := by kernel_rfl
theorem ok_ledger_Ledger_At {a0 a1 : Value} {h : Heap} {R : Value → Heap → Prop} (H : sh_ledger_Ledger_At a0 a1 h R) : FCall Try.prog F_ledger_Ledger_At #[a0, a1] h R :=
  fcall_of (by kernel_rfl) (fn := Try.f27) (c := (Try.f27.body).getD .skip) (an := an_ledger_Ledger_At) (by kernel_rfl) (by kernel_rfl) (by kernel_rfl) oc_ledger_Ledger_At (by kernel_rfl) (Eq.mp (eq_ledger_Ledger_At a0 a1 h R) H)

/-! ### smalto|smaltolaw16.lives: function 28 -/
def sh_law16_lives (h : Heap) (R : Value → Heap → Prop) : Prop :=
 FCall Try.prog F_ring_New #[(.int .i64 2), (.int .i64 1)] h fun v1 h2 =>
 vK (binV .p .eql v1 (.pointer none)) fun v3 =>
 iteK v3 (
 R (.bool false) h2) (
 loopK [(.int .i64 0)] h2 fun x4 j5 h6 again7 =>
 vK (binV .i .lss (ix x4 0) (.int .i64 3)) fun v8 =>
 iteK v8 (
 vK (binV .i .add (.int .i64 5) (ix x4 0)) fun v9 =>
 rowK #[(.int .i64 0)] 2 1 [(0, 1, (ix x4 0))] h6 fun v10 h11 =>
 FCall Try.prog F_ring_Ring_Put #[v1, v9, v10] h11 fun v12 h13 =>
 vK (unV .not v12) fun v14 =>
 iteK v14 (
 R (.bool false) h13) (
 vK (binV .i .add (ix x4 0) (.int .i64 1)) fun v15 =>
 again7 [v15] h13)) (
 FCall Try.prog F_ring_Ring_Next #[v1, (.int .i64 5), (.int .i64 9)] h6 fun v16 h17 =>
 vK (extV v16 0) fun v18 =>
 vK (extV v16 1) fun v19 =>
 FCall Try.prog F_ring_Ring_Has #[v1, (.int .i64 5)] h17 fun v20 h21 =>
 vK (unV .not v20) fun v22 =>
 vK (gV v22 true (some v1)) fun v23 =>
 gK v22 true (fun k37 => FCall Try.prog F_ring_Ring_Has #[v23, (.int .i64 6)] h21 k37) h21 fun v24 h25 =>
 vK (pickV v22 v24 (.bool false)) fun v26 =>
 vK (gV v26 true (some v1)) fun v27 =>
 gK v26 true (fun k36 => FCall Try.prog F_ring_Ring_Has #[v27, (.int .i64 7)] h25 k36) h25 fun v28 h29 =>
 vK (pickV v26 v28 (.bool false)) fun v30 =>
 vK (gV v30 true (some v19)) fun v31 =>
 vK (pickV v30 v31 (.bool false)) fun v32 =>
 vK (gV v32 true (some v18)) fun v33 =>
 vK (gV v32 true (binV .i .eql v33 (.int .i64 5))) fun v34 =>
 vK (pickV v32 v34 (.bool false)) fun v35 =>
 R v35 h29))
noncomputable def an_law16_lives : Ann := (.s .z (.s .z (.s (.s .z (.s (.s .z .z) .z)) (.s (.s .z (.l 524037 [8] (.s .z (.s (.s .z .z) (.s (.s .z (.s .z (.s (.s .z .z) .z))) .z))))) (.s .z (.s .z .z))))))
theorem oc_law16_lives : okCode Try.f28.ntmps ((Try.f28.body).getD .skip) an_law16_lives = true := by kernel_rfl
theorem eq_law16_lives (h : Heap) (R : Value → Heap → Prop) : sh_law16_lives h R = cFunc Try.prog ((Try.f28.body).getD .skip) an_law16_lives Try.f28.results.toList #[].toList h R := by kernel_rfl
theorem ok_law16_lives {h : Heap} {R : Value → Heap → Prop} (H : sh_law16_lives h R) : FCall Try.prog F_law16_lives #[] h R :=
  fcall_of (by kernel_rfl) (fn := Try.f28) (c := (Try.f28.body).getD .skip) (an := an_law16_lives) (by kernel_rfl) (by kernel_rfl) (by kernel_rfl) oc_law16_lives (by kernel_rfl) (Eq.mp (eq_law16_lives h R) H)

/-! ### smalto|ring.New: function 29 -/
def sh_ring_New (a0 a1 : Value) (h : Heap) (R : Value → Heap → Prop) : Prop :=
 vK (maxV (.int .i64 1) a0) fun v1 =>
 vK (minV v1 (.int .i64 65536)) fun v2 =>
 vK (maxV (.int .i64 0) a1) fun v3 =>
 vK (minV v3 (.int .i64 262144)) fun v4 =>
 newmK h fun v5 h6 =>
 vK ((fillL #[(.int .i64 0), (.int .i64 0), (.map none), (.slice none 0 0)] [(0, 1, v2), (1, 1, v4), (2, 1, v5)]).map .agg) fun v7 =>
 newK (Value.cells v7) 95 h6 fun v8 h9 =>
 R v8 h9
noncomputable def an_ring_New : Ann := (.s .z (.s .z .z))
theorem oc_ring_New : okCode Try.f29.ntmps ((Try.f29.body).getD .skip) an_ring_New = true := by kernel_rfl
theorem eq_ring_New (a0 a1 : Value) (h : Heap) (R : Value → Heap → Prop) : sh_ring_New a0 a1 h R = cFunc Try.prog ((Try.f29.body).getD .skip) an_ring_New Try.f29.results.toList #[a0, a1].toList h R := by kernel_rfl
theorem ok_ring_New {a0 a1 : Value} {h : Heap} {R : Value → Heap → Prop} (H : sh_ring_New a0 a1 h R) : FCall Try.prog F_ring_New #[a0, a1] h R :=
  fcall_of (by kernel_rfl) (fn := Try.f29) (c := (Try.f29.body).getD .skip) (an := an_ring_New) (by kernel_rfl) (by kernel_rfl) (by kernel_rfl) oc_ring_New (by kernel_rfl) (Eq.mp (eq_ring_New a0 a1 h R) H)

/-! ### (*smalto|ring.Ring).Put: function 30 -/
def sh_ring_Ring_Put (a0 a1 a2 : Value) (h : Heap) (R : Value → Heap → Prop) : Prop :=
 vK (lenslV a2) fun v1 =>
 vK (nilV a0) fun v2 =>
 vK (fldV 1 v2) fun v3 =>
 vK (ldV h v3) fun v4 =>
 vK (binV .i .neq v1 v4) fun v5 =>
 vK (gV v5 false (some a0)) fun v6 =>
 vK (gV v5 false (some a1)) fun v7 =>
 gK v5 false (fun k39 => FCall Try.prog F_ring_Ring_Has #[v6, v7] h k39) h fun v8 h9 =>
 vK (pickV v5 (.bool true) v8) fun v10 =>
 iteK v10 (
 R (.bool false) h9) (
 joinK (fun J11 =>
 FCall Try.prog F_ring_Ring_First #[a0] h9 fun v15 h16 =>
 vK (extV v15 0) fun v17 =>
 vK (extV v15 1) fun v18 =>
 vK (nilV a0) fun v19 =>
 vK (fldV 2 v19) fun v20 =>
 vK (ldV h16 v20) fun v21 =>
 vK (lenmV h16 v21) fun v22 =>
 vK (nilV a0) fun v23 =>
 vK (fldV 0 v23) fun v24 =>
 vK (ldV h16 v24) fun v25 =>
 vK (binV .i .geq v22 v25) fun v26 =>
 iteK v26 (
 vK (binV .i .lss a1 v17) fun v27 =>
 iteK v27 (
 R (.bool false) h16) (
 FCall Try.prog F_ring_Ring_drop #[a0, v17] h16 fun v28 h29 =>
 J11 [] h29)) (
 J11 [] h16))
 fun x12 j13 h14 =>
 FCall Try.prog F_ring_Ring_space #[a0] h14 fun v30 h31 =>
 cpyK 1 v30 a2 h31 fun v32 h33 =>
 vK (nilV a0) fun v34 =>
 vK (fldV 2 v34) fun v35 =>
 vK (ldV h33 v35) fun v36 =>
 mapPutK (.int .i64) v36 a1 v30 h33 fun v37 h38 =>
 R (.bool true) h38)
noncomputable def an_ring_Ring_Put : Ann := (.s .z (.s (.s .z (.s (.s .z .z) .z)) (.j 8796088828352 [] (.s .z (.s .z (.s (.s (.s .z (.s (.s .z .z) .z)) .z) .z))) (.s .z (.s .z (.s .z (.s .z .z)))))))
theorem oc_ring_Ring_Put : okCode Try.f30.ntmps ((Try.f30.body).getD .skip) an_ring_Ring_Put = true := by kernel_rfl
theorem eq_ring_Ring_Put (a0 a1 a2 : Value) (h : Heap) (R : Value → Heap → Prop) : sh_ring_Ring_Put a0 a1 a2 h R = cFunc Try.prog ((Try.f30.body).getD .skip) an_ring_Ring_Put Try.f30.results.toList #[a0, a1, a2].toList h R := by kernel_rfl
theorem ok_ring_Ring_Put {a0 a1 a2 : Value} {h : Heap} {R : Value → Heap → Prop} (H : sh_ring_Ring_Put a0 a1 a2 h R) : FCall Try.prog F_ring_Ring_Put #[a0, a1, a2] h R :=
  fcall_of (by kernel_rfl) (fn := Try.f30) (c := (Try.f30.body).getD .skip) (an := an_ring_Ring_Put) (by kernel_rfl) (by kernel_rfl) (by kernel_rfl) oc_ring_Ring_Put (by kernel_rfl) (Eq.mp (eq_ring_Ring_Put a0 a1 a2 h R) H)

/-! ### (*smalto|ring.Ring).Len: function 31 -/
def sh_ring_Ring_Len (a0 : Value) (h : Heap) (R : Value → Heap → Prop) : Prop :=
 vK (nilV a0) fun v1 =>
 vK (fldV 2 v1) fun v2 =>
 vK (ldV h v2) fun v3 =>
 vK (lenmV h v3) fun v4 =>
 R v4 h
noncomputable def an_ring_Ring_Len : Ann := (.s .z (.s .z .z))
theorem oc_ring_Ring_Len : okCode Try.f31.ntmps ((Try.f31.body).getD .skip) an_ring_Ring_Len = true := by kernel_rfl
theorem eq_ring_Ring_Len (a0 : Value) (h : Heap) (R : Value → Heap → Prop) : sh_ring_Ring_Len a0 h R = cFunc Try.prog ((Try.f31.body).getD .skip) an_ring_Ring_Len Try.f31.results.toList #[a0].toList h R := by kernel_rfl
theorem ok_ring_Ring_Len {a0 : Value} {h : Heap} {R : Value → Heap → Prop} (H : sh_ring_Ring_Len a0 h R) : FCall Try.prog F_ring_Ring_Len #[a0] h R :=
  fcall_of (by kernel_rfl) (fn := Try.f31) (c := (Try.f31.body).getD .skip) (an := an_ring_Ring_Len) (by kernel_rfl) (by kernel_rfl) (by kernel_rfl) oc_ring_Ring_Len (by kernel_rfl) (Eq.mp (eq_ring_Ring_Len a0 h R) H)

/-! ### (*smalto|ring.Ring).First: function 32 -/
def sh_ring_Ring_First (a0 : Value) (h : Heap) (R : Value → Heap → Prop) : Prop :=
 vK (nilV a0) fun v1 =>
 vK (fldV 2 v1) fun v2 =>
 vK (ldV h v2) fun v3 =>
 vK (lenmV h v3) fun v4 =>
 vK (binV .i .eql v4 (.int .i64 0)) fun v5 =>
 iteK v5 (
 R (.tuple #[(.int .i64 0), (.bool false)]) h) (
 vK (nilV a0) fun v6 =>
 vK (fldV 2 v6) fun v7 =>
 vK (ldV h v7) fun v8 =>
 FCall Try.prog F_maps_Keys_map_int64_sl_int64_int64_sl_int64 #[v8] h fun v9 h10 =>
 FCall Try.prog F_slices_Collect_int64 #[v9] h10 fun v11 h12 =>
 FCall Try.prog F_slices_Min_sl_int64_int64 #[v11] h12 fun v13 h14 =>
 R (.tuple #[v13, (.bool true)]) h14)
noncomputable def an_ring_Ring_First : Ann := (.s .z (.s (.s .z (.s (.s .z .z) .z)) (.s .z .z)))
theorem oc_ring_Ring_First : okCode Try.f32.ntmps ((Try.f32.body).getD .skip) an_ring_Ring_First = true := by kernel_rfl
theorem eq_ring_Ring_First (a0 : Value) (h : Heap) (R : Value → Heap → Prop) : sh_ring_Ring_First a0 h R = cFunc Try.prog ((Try.f32.body).getD .skip) an_ring_Ring_First Try.f32.results.toList #[a0].toList h R := by kernel_rfl
theorem ok_ring_Ring_First {a0 : Value} {h : Heap} {R : Value → Heap → Prop} (H : sh_ring_Ring_First a0 h R) : FCall Try.prog F_ring_Ring_First #[a0] h R :=
  fcall_of (by kernel_rfl) (fn := Try.f32) (c := (Try.f32.body).getD .skip) (an := an_ring_Ring_First) (by kernel_rfl) (by kernel_rfl) (by kernel_rfl) oc_ring_Ring_First (by kernel_rfl) (Eq.mp (eq_ring_Ring_First a0 h R) H)

/-! ### smalto|smaltoref16.New: function 33 -/
def sh_ref16_New (a0 a1 : Value) (h : Heap) (R : Value → Heap → Prop) : Prop :=
 newK #[(.int .i64 0), (.int .i64 0), (.slice none 0 0)] 57 h fun v1 h2 =>
 joinK (fun J3 =>
 vK (binV .i .lss a0 (.int .i64 1)) fun v7 =>
 iteK v7 (
 J3 [(.int .i64 1)] h2) (
 J3 [a0] h2))
 fun x4 j5 h6 =>
 vK (binV .i .gtr (ix x4 0) (.int .i64 65536)) fun v8 =>
 iteK v8 (
 vK (binV .i .lss a1 (.int .i64 0)) fun v9 =>
 iteK v9 (
 vK (binV .i .gtr (.int .i64 0) (.int .i64 262144)) fun v10 =>
 iteK v10 (
 vK ((fillL #[(.int .i64 0), (.int .i64 0), (.slice none 0 0)] [(0, 1, (.int .i64 65536)), (1, 1, (.int .i64 262144))]).map .agg) fun v11 =>
 stK 3 v1 v11 h6 fun v12 h13 =>
 vK (ldsV 3 h13 v1) fun v14 =>
 R v14 h13) (
 vK ((fillL #[(.int .i64 0), (.int .i64 0), (.slice none 0 0)] [(0, 1, (.int .i64 65536)), (1, 1, (.int .i64 0))]).map .agg) fun v15 =>
 stK 3 v1 v15 h6 fun v16 h17 =>
 vK (ldsV 3 h17 v1) fun v18 =>
 R v18 h17)) (
 vK (binV .i .gtr a1 (.int .i64 262144)) fun v19 =>
 iteK v19 (
 vK ((fillL #[(.int .i64 0), (.int .i64 0), (.slice none 0 0)] [(0, 1, (.int .i64 65536)), (1, 1, (.int .i64 262144))]).map .agg) fun v20 =>
 stK 3 v1 v20 h6 fun v21 h22 =>
 vK (ldsV 3 h22 v1) fun v23 =>
 R v23 h22) (
 vK ((fillL #[(.int .i64 0), (.int .i64 0), (.slice none 0 0)] [(0, 1, (.int .i64 65536)), (1, 1, a1)]).map .agg) fun v24 =>
 stK 3 v1 v24 h6 fun v25 h26 =>
 vK (ldsV 3 h26 v1) fun v27 =>
 R v27 h26))) (
 vK (binV .i .lss a1 (.int .i64 0)) fun v28 =>
 iteK v28 (
 vK (binV .i .gtr (.int .i64 0) (.int .i64 262144)) fun v29 =>
 iteK v29 (
 vK ((fillL #[(.int .i64 0), (.int .i64 0), (.slice none 0 0)] [(0, 1, (ix x4 0)), (1, 1, (.int .i64 262144))]).map .agg) fun v30 =>
 stK 3 v1 v30 h6 fun v31 h32 =>
 vK (ldsV 3 h32 v1) fun v33 =>
 R v33 h32) (
 vK ((fillL #[(.int .i64 0), (.int .i64 0), (.slice none 0 0)] [(0, 1, (ix x4 0)), (1, 1, (.int .i64 0))]).map .agg) fun v34 =>
 stK 3 v1 v34 h6 fun v35 h36 =>
 vK (ldsV 3 h36 v1) fun v37 =>
 R v37 h36)) (
 vK (binV .i .gtr a1 (.int .i64 262144)) fun v38 =>
 iteK v38 (
 vK ((fillL #[(.int .i64 0), (.int .i64 0), (.slice none 0 0)] [(0, 1, (ix x4 0)), (1, 1, (.int .i64 262144))]).map .agg) fun v39 =>
 stK 3 v1 v39 h6 fun v40 h41 =>
 vK (ldsV 3 h41 v1) fun v42 =>
 R v42 h41) (
 vK ((fillL #[(.int .i64 0), (.int .i64 0), (.slice none 0 0)] [(0, 1, (ix x4 0)), (1, 1, a1)]).map .agg) fun v43 =>
 stK 3 v1 v43 h6 fun v44 h45 =>
 vK (ldsV 3 h45 v1) fun v46 =>
 R v46 h45)))
noncomputable def an_ref16_New : Ann := (.s .z (.j 97 [0] (.s .z (.s .z .z)) (.s (.s .z (.s .z .z)) (.s (.s .z (.s .z .z)) (.s (.s .z (.s .z .z)) (.s .z .z))))))
theorem oc_ref16_New : okCode Try.f33.ntmps ((Try.f33.body).getD .skip) an_ref16_New = true := by kernel_rfl
theorem eq_ref16_New (a0 a1 : Value) (h : Heap) (R : Value → Heap → Prop) : sh_ref16_New a0 a1 h R = cFunc Try.prog ((Try.f33.body).getD .skip) an_ref16_New Try.f33.results.toList #[a0, a1].toList h R := by kernel_rfl
theorem ok_ref16_New {a0 a1 : Value} {h : Heap} {R : Value → Heap → Prop} (H : sh_ref16_New a0 a1 h R) : FCall Try.prog F_ref16_New #[a0, a1] h R :=
  fcall_of (by kernel_rfl) (fn := Try.f33) (c := (Try.f33.body).getD .skip) (an := an_ref16_New) (by kernel_rfl) (by kernel_rfl) (by kernel_rfl) oc_ref16_New (by kernel_rfl) (Eq.mp (eq_ref16_New a0 a1 h R) H)

/-! ### (*smalto|ring.Ring).Room: function 34 -/
def sh_ring_Ring_Room (a0 : Value) (h : Heap) (R : Value → Heap → Prop) : Prop :=
 vK (nilV a0) fun v1 =>
 vK (fldV 0 v1) fun v2 =>
 vK (ldV h v2) fun v3 =>
 R v3 h
noncomputable def an_ring_Ring_Room : Ann := (.s .z (.s .z .z))
theorem oc_ring_Ring_Room : okCode Try.f34.ntmps ((Try.f34.body).getD .skip) an_ring_Ring_Room = true := by kernel_rfl
theorem eq_ring_Ring_Room (a0 : Value) (h : Heap) (R : Value → Heap → Prop) : sh_ring_Ring_Room a0 h R = cFunc Try.prog ((Try.f34.body).getD .skip) an_ring_Ring_Room Try.f34.results.toList #[a0].toList h R := by kernel_rfl
theorem ok_ring_Ring_Room {a0 : Value} {h : Heap} {R : Value → Heap → Prop} (H : sh_ring_Ring_Room a0 h R) : FCall Try.prog F_ring_Ring_Room #[a0] h R :=
  fcall_of (by kernel_rfl) (fn := Try.f34) (c := (Try.f34.body).getD .skip) (an := an_ring_Ring_Room) (by kernel_rfl) (by kernel_rfl) (by kernel_rfl) oc_ring_Ring_Room (by kernel_rfl) (Eq.mp (eq_ring_Ring_Room a0 h R) H)

/-! ### (*smalto|ring.Ring).Width: function 35 -/
def sh_ring_Ring_Width (a0 : Value) (h : Heap) (R : Value → Heap → Prop) : Prop :=
 vK (nilV a0) fun v1 =>
 vK (fldV 1 v1) fun v2 =>
 vK (ldV h v2) fun v3 =>
 R v3 h
noncomputable def an_ring_Ring_Width : Ann := (.s .z (.s .z .z))
theorem oc_ring_Ring_Width : okCode Try.f35.ntmps ((Try.f35.body).getD .skip) an_ring_Ring_Width = true := by kernel_rfl
theorem eq_ring_Ring_Width (a0 : Value) (h : Heap) (R : Value → Heap → Prop) : sh_ring_Ring_Width a0 h R = cFunc Try.prog ((Try.f35.body).getD .skip) an_ring_Ring_Width Try.f35.results.toList #[a0].toList h R := by kernel_rfl
theorem ok_ring_Ring_Width {a0 : Value} {h : Heap} {R : Value → Heap → Prop} (H : sh_ring_Ring_Width a0 h R) : FCall Try.prog F_ring_Ring_Width #[a0] h R :=
  fcall_of (by kernel_rfl) (fn := Try.f35) (c := (Try.f35.body).getD .skip) (an := an_ring_Ring_Width) (by kernel_rfl) (by kernel_rfl) (by kernel_rfl) oc_ring_Ring_Width (by kernel_rfl) (Eq.mp (eq_ring_Ring_Width a0 h R) H)

end Go.Proofs.Ytmmcgbilnnaggaa
