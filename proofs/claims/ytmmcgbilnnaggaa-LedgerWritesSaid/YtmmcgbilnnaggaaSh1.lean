/- What the functions of the program do, read over the heap alone, each tied to the model (written by a program of this session, shal.py). Conditions: none. -/
import Derived.Test.YtmmcgbilnnaggaaSh0
set_option linter.unusedVariables false
set_option maxRecDepth 100000
namespace Go.Proofs.Ytmmcgbilnnaggaa
open Go Go.Crisp
/-! ### (*smalto|ring.Ring).Words: function 36 -/
def sh_ring_Ring_Words (a0 : Value) (h : Heap) (R : Value → Heap → Prop) : Prop :=
 vK (nilV a0) fun v1 =>
 vK (fldV 0 v1) fun v2 =>
 vK (ldV h v2) fun v3 =>
 vK (nilV a0) fun v4 =>
 vK (fldV 1 v4) fun v5 =>
 vK (ldV h v5) fun v6 =>
 vK (binV .i .mul v3 v6) fun v7 =>
 R v7 h
noncomputable def an_ring_Ring_Words : Ann := (.s .z (.s .z .z))
theorem oc_ring_Ring_Words : okCode Try.f36.ntmps ((Try.f36.body).getD .skip) an_ring_Ring_Words = true := by kernel_rfl
theorem eq_ring_Ring_Words (a0 : Value) (h : Heap) (R : Value → Heap → Prop) : sh_ring_Ring_Words a0 h R = cFunc Try.prog ((Try.f36.body).getD .skip) an_ring_Ring_Words Try.f36.results.toList #[a0].toList h R := by kernel_rfl
theorem ok_ring_Ring_Words {a0 : Value} {h : Heap} {R : Value → Heap → Prop} (H : sh_ring_Ring_Words a0 h R) : FCall Try.prog F_ring_Ring_Words #[a0] h R :=
  fcall_of (by kernel_rfl) (fn := Try.f36) (c := (Try.f36.body).getD .skip) (an := an_ring_Ring_Words) (by kernel_rfl) (by kernel_rfl) (by kernel_rfl) oc_ring_Ring_Words (by kernel_rfl) (Eq.mp (eq_ring_Ring_Words a0 h R) H)

/-! ### smalto|clock.Ahead: function 37 -/
def sh_clock_Ahead (a0 a1 : Value) (h : Heap) (R : Value → Heap → Prop) : Prop :=
 FCall Try.prog F_clock_below #[a0, a1] h fun v1 h2 =>
 vK (gV v1 true (some a0)) fun v3 =>
 vK (gV v1 true (some a1)) fun v4 =>
 gK v1 true (fun k9 => FCall Try.prog F_clock_Equal #[v3, v4] h2 k9) h2 fun v5 h6 =>
 vK (gV v1 true (unV .not v5)) fun v7 =>
 vK (pickV v1 v7 (.bool false)) fun v8 =>
 R v8 h6
noncomputable def an_clock_Ahead : Ann := (.s .z (.s .z .z))
theorem oc_clock_Ahead : okCode Try.f37.ntmps ((Try.f37.body).getD .skip) an_clock_Ahead = true := by kernel_rfl
theorem eq_clock_Ahead (a0 a1 : Value) (h : Heap) (R : Value → Heap → Prop) : sh_clock_Ahead a0 a1 h R = cFunc Try.prog ((Try.f37.body).getD .skip) an_clock_Ahead Try.f37.results.toList #[a0, a1].toList h R := by kernel_rfl
theorem ok_clock_Ahead {a0 a1 : Value} {h : Heap} {R : Value → Heap → Prop} (H : sh_clock_Ahead a0 a1 h R) : FCall Try.prog F_clock_Ahead #[a0, a1] h R :=
  fcall_of (by kernel_rfl) (fn := Try.f37) (c := (Try.f37.body).getD .skip) (an := an_clock_Ahead) (by kernel_rfl) (by kernel_rfl) (by kernel_rfl) oc_clock_Ahead (by kernel_rfl) (Eq.mp (eq_clock_Ahead a0 a1 h R) H)

/-! ### smalto|smaltoref19.Ahead: function 38 -/
def sh_ref19_Ahead (a0 a1 : Value) (h : Heap) (R : Value → Heap → Prop) : Prop :=
 vK (lenslV a0) fun v1 =>
 vK (lenslV a1) fun v2 =>
 vK (binV .i .neq v1 v2) fun v3 =>
 iteK v3 (
 R (.bool false) h) (
 vK (lenslV a0) fun v4 =>
 loopK [(.bool false), (.int .i64 0)] h fun x5 j6 h7 again8 =>
 vK (binV .i .lss (ix x5 1) v4) fun v9 =>
 iteK v9 (
 vK (idxV 1 a0 (ix x5 1)) fun v10 =>
 vK (ldV h7 v10) fun v11 =>
 vK (idxV 1 a1 (ix x5 1)) fun v12 =>
 vK (ldV h7 v12) fun v13 =>
 vK (binV .i .gtr v11 v13) fun v14 =>
 iteK v14 (
 R (.bool false) h7) (
 vK (idxV 1 a0 (ix x5 1)) fun v15 =>
 vK (ldV h7 v15) fun v16 =>
 vK (idxV 1 a1 (ix x5 1)) fun v17 =>
 vK (ldV h7 v17) fun v18 =>
 vK (binV .i .lss v16 v18) fun v19 =>
 iteK v19 (
 vK (binV .i .add (ix x5 1) (.int .i64 1)) fun v20 =>
 again8 [(.bool true), v20] h7) (
 vK (binV .i .add (ix x5 1) (.int .i64 1)) fun v21 =>
 again8 [(ix x5 0), v21] h7))) (
 R (ix x5 0) h7))
noncomputable def an_ref19_Ahead : Ann := (.s .z (.s (.s .z (.s (.s .z .z) .z)) (.s .z (.s (.s .z (.l 68719460464 [5, 14] (.s .z (.s (.s .z .z) (.s (.s .z (.s (.s .z (.s (.s .z .z) .z)) (.s .z (.s .z .z)))) .z))))) (.s .z .z)))))
theorem oc_ref19_Ahead : okCode Try.f38.ntmps ((Try.f38.body).getD .skip) an_ref19_Ahead = true := by kernel_rfl
theorem eq_ref19_Ahead (a0 a1 : Value) (h : Heap) (R : Value → Heap → Prop) : sh_ref19_Ahead a0 a1 h R = cFunc Try.prog ((Try.f38.body).getD .skip) an_ref19_Ahead Try.f38.results.toList #[a0, a1].toList h R := by kernel_rfl
theorem ok_ref19_Ahead {a0 a1 : Value} {h : Heap} {R : Value → Heap → Prop} (H : sh_ref19_Ahead a0 a1 h R) : FCall Try.prog F_ref19_Ahead #[a0, a1] h R :=
  fcall_of (by kernel_rfl) (fn := Try.f38) (c := (Try.f38.body).getD .skip) (an := an_ref19_Ahead) (by kernel_rfl) (by kernel_rfl) (by kernel_rfl) oc_ref19_Ahead (by kernel_rfl) (Eq.mp (eq_ref19_Ahead a0 a1 h R) H)

/-! ### smalto|clock.Apart: function 39 -/
def sh_clock_Apart (a0 a1 : Value) (h : Heap) (R : Value → Heap → Prop) : Prop :=
 vK (lenslV a0) fun v1 =>
 vK (lenslV a1) fun v2 =>
 vK (binV .i .eql v1 v2) fun v3 =>
 vK (gV v3 true (some a0)) fun v4 =>
 vK (gV v3 true (some a1)) fun v5 =>
 gK v3 true (fun k17 => FCall Try.prog F_clock_below #[v4, v5] h k17) h fun v6 h7 =>
 vK (gV v3 true (unV .not v6)) fun v8 =>
 vK (pickV v3 v8 (.bool false)) fun v9 =>
 vK (gV v9 true (some a1)) fun v10 =>
 vK (gV v9 true (some a0)) fun v11 =>
 gK v9 true (fun k16 => FCall Try.prog F_clock_below #[v10, v11] h7 k16) h7 fun v12 h13 =>
 vK (gV v9 true (unV .not v12)) fun v14 =>
 vK (pickV v9 v14 (.bool false)) fun v15 =>
 R v15 h13
noncomputable def an_clock_Apart : Ann := (.s .z (.s .z .z))
theorem oc_clock_Apart : okCode Try.f39.ntmps ((Try.f39.body).getD .skip) an_clock_Apart = true := by kernel_rfl
theorem eq_clock_Apart (a0 a1 : Value) (h : Heap) (R : Value → Heap → Prop) : sh_clock_Apart a0 a1 h R = cFunc Try.prog ((Try.f39.body).getD .skip) an_clock_Apart Try.f39.results.toList #[a0, a1].toList h R := by kernel_rfl
theorem ok_clock_Apart {a0 a1 : Value} {h : Heap} {R : Value → Heap → Prop} (H : sh_clock_Apart a0 a1 h R) : FCall Try.prog F_clock_Apart #[a0, a1] h R :=
  fcall_of (by kernel_rfl) (fn := Try.f39) (c := (Try.f39.body).getD .skip) (an := an_clock_Apart) (by kernel_rfl) (by kernel_rfl) (by kernel_rfl) oc_clock_Apart (by kernel_rfl) (Eq.mp (eq_clock_Apart a0 a1 h R) H)

/-! ### smalto|smaltoref19.Apart: function 40 -/
def sh_ref19_Apart (a0 a1 : Value) (h : Heap) (R : Value → Heap → Prop) : Prop :=
 vK (lenslV a0) fun v1 =>
 vK (lenslV a1) fun v2 =>
 vK (binV .i .eql v1 v2) fun v3 =>
 vK (gV v3 true (some a0)) fun v4 =>
 vK (gV v3 true (some a1)) fun v5 =>
 gK v3 true (fun k24 => FCall Try.prog F_ref19_Equal #[v4, v5] h k24) h fun v6 h7 =>
 vK (gV v3 true (unV .not v6)) fun v8 =>
 vK (pickV v3 v8 (.bool false)) fun v9 =>
 vK (gV v9 true (some a0)) fun v10 =>
 vK (gV v9 true (some a1)) fun v11 =>
 gK v9 true (fun k23 => FCall Try.prog F_ref19_Ahead #[v10, v11] h7 k23) h7 fun v12 h13 =>
 vK (gV v9 true (unV .not v12)) fun v14 =>
 vK (pickV v9 v14 (.bool false)) fun v15 =>
 vK (gV v15 true (some a1)) fun v16 =>
 vK (gV v15 true (some a0)) fun v17 =>
 gK v15 true (fun k22 => FCall Try.prog F_ref19_Ahead #[v16, v17] h13 k22) h13 fun v18 h19 =>
 vK (gV v15 true (unV .not v18)) fun v20 =>
 vK (pickV v15 v20 (.bool false)) fun v21 =>
 R v21 h19
noncomputable def an_ref19_Apart : Ann := (.s .z (.s .z .z))
theorem oc_ref19_Apart : okCode Try.f40.ntmps ((Try.f40.body).getD .skip) an_ref19_Apart = true := by kernel_rfl
theorem eq_ref19_Apart (a0 a1 : Value) (h : Heap) (R : Value → Heap → Prop) : sh_ref19_Apart a0 a1 h R = cFunc Try.prog ((Try.f40.body).getD .skip) an_ref19_Apart Try.f40.results.toList #[a0, a1].toList h R := by kernel_rfl
theorem ok_ref19_Apart {a0 a1 : Value} {h : Heap} {R : Value → Heap → Prop} (H : sh_ref19_Apart a0 a1 h R) : FCall Try.prog F_ref19_Apart #[a0, a1] h R :=
  fcall_of (by kernel_rfl) (fn := Try.f40) (c := (Try.f40.body).getD .skip) (an := an_ref19_Apart) (by kernel_rfl) (by kernel_rfl) (by kernel_rfl) oc_ref19_Apart (by kernel_rfl) (Eq.mp (eq_ref19_Apart a0 a1 h R) H)

/-! ### smalto|clock.Equal: function 41 -/
def sh_clock_Equal (a0 a1 : Value) (h : Heap) (R : Value → Heap → Prop) : Prop :=
 FCall Try.prog F_slices_Equal_clock_Stamp_int #[a0, a1] h fun v1 h2 =>
 R v1 h2
noncomputable def an_clock_Equal : Ann := (.s .z (.s .z .z))
theorem oc_clock_Equal : okCode Try.f41.ntmps ((Try.f41.body).getD .skip) an_clock_Equal = true := by kernel_rfl
theorem eq_clock_Equal (a0 a1 : Value) (h : Heap) (R : Value → Heap → Prop) : sh_clock_Equal a0 a1 h R = cFunc Try.prog ((Try.f41.body).getD .skip) an_clock_Equal Try.f41.results.toList #[a0, a1].toList h R := by kernel_rfl
theorem ok_clock_Equal {a0 a1 : Value} {h : Heap} {R : Value → Heap → Prop} (H : sh_clock_Equal a0 a1 h R) : FCall Try.prog F_clock_Equal #[a0, a1] h R :=
  fcall_of (by kernel_rfl) (fn := Try.f41) (c := (Try.f41.body).getD .skip) (an := an_clock_Equal) (by kernel_rfl) (by kernel_rfl) (by kernel_rfl) oc_clock_Equal (by kernel_rfl) (Eq.mp (eq_clock_Equal a0 a1 h R) H)

/-! ### smalto|smaltoref19.Join: function 42 -/
def sh_ref19_Join (a0 a1 : Value) (h : Heap) (R : Value → Heap → Prop) : Prop :=
 loopK [(.slice none 0 0), (.int .i64 0)] h fun x1 j2 h3 again4 =>
 vK (lenslV a0) fun v5 =>
 vK (binV .i .lss (ix x1 1) v5) fun v6 =>
 vK (gV v6 false (some (ix x1 1))) fun v7 =>
 vK (gV v6 false (some a1)) fun v8 =>
 vK (gV v6 false (lenslV v8)) fun v9 =>
 vK (gV v6 false (binV .i .lss v7 v9)) fun v10 =>
 vK (pickV v6 (.bool true) v10) fun v11 =>
 iteK v11 (
 FCall Try.prog F_ref19_at #[a0, (ix x1 1)] h3 fun v12 h13 =>
 FCall Try.prog F_ref19_at #[a1, (ix x1 1)] h13 fun v14 h15 =>
 vK (binV .i .gtr v14 v12) fun v16 =>
 iteK v16 (
 FCall Try.prog F_ref19_at #[a1, (ix x1 1)] h15 fun v17 h18 =>
 rowK #[(.int .i64 0)] 3 1 [(0, 1, v17)] h18 fun v19 h20 =>
 appK (.int .i64 0) 3 1 8 (ix x1 0) v19 h20 fun v21 h22 =>
 vK (binV .i .add (ix x1 1) (.int .i64 1)) fun v23 =>
 again4 [v21, v23] h22) (
 rowK #[(.int .i64 0)] 3 1 [(0, 1, v12)] h15 fun v24 h25 =>
 appK (.int .i64 0) 3 1 8 (ix x1 0) v24 h25 fun v26 h27 =>
 vK (binV .i .add (ix x1 1) (.int .i64 1)) fun v28 =>
 again4 [v26, v28] h27)) (
 R (ix x1 0) h3)
noncomputable def an_ref19_Join : Ann := (.s .z (.s .z (.s (.s .z (.l 34359738336 [5, 6] (.s (.s .z (.s .z .z)) (.s (.s .z (.s (.s .z (.s .z .z)) .z)) .z)))) (.s .z .z))))
theorem oc_ref19_Join : okCode Try.f42.ntmps ((Try.f42.body).getD .skip) an_ref19_Join = true := by kernel_rfl
theorem eq_ref19_Join (a0 a1 : Value) (h : Heap) (R : Value → Heap → Prop) : sh_ref19_Join a0 a1 h R = cFunc Try.prog ((Try.f42.body).getD .skip) an_ref19_Join Try.f42.results.toList #[a0, a1].toList h R := by kernel_rfl
theorem ok_ref19_Join {a0 a1 : Value} {h : Heap} {R : Value → Heap → Prop} (H : sh_ref19_Join a0 a1 h R) : FCall Try.prog F_ref19_Join #[a0, a1] h R :=
  fcall_of (by kernel_rfl) (fn := Try.f42) (c := (Try.f42.body).getD .skip) (an := an_ref19_Join) (by kernel_rfl) (by kernel_rfl) (by kernel_rfl) oc_ref19_Join (by kernel_rfl) (Eq.mp (eq_ref19_Join a0 a1 h R) H)

/-! ### smalto|clock.New: function 43 -/
def sh_clock_New (a0 : Value) (h : Heap) (R : Value → Heap → Prop) : Prop :=
 vK (maxV (.int .i64 1) a0) fun v1 =>
 vK (minV v1 (.int .i64 512)) fun v2 =>
 mkK (.slice none 0 0) 23 1 24 v2 v2 h fun v3 h4 =>
 vK ((fillL #[(.slice none 0 0)] [(0, 1, v3)]).map .agg) fun v5 =>
 newK (Value.cells v5) 106 h4 fun v6 h7 =>
 vK (nilV v6) fun v8 =>
 vK (fldV 0 v8) fun v9 =>
 vK (ldV h7 v9) fun v10 =>
 vK (lenslV v10) fun v11 =>
 loopK [(.int .i64 0)] h7 fun x12 j13 h14 again15 =>
 vK (binV .i .lss (ix x12 0) v11) fun v16 =>
 iteK v16 (
 drawK h14 fun S =>
 vK (nilV v6) fun v17 =>
 vK (fldV 0 v17) fun v18 =>
 qK S (fun h14 => ldV h14 v18) fun v19 =>
 mkK (.int .i64 0) 3 1 8 v2 v2 h14 fun v20 h21 =>
 S h21 ∧ (vK (idxV 1 v19 (ix x12 0)) fun v22 =>
 stK 1 v22 v20 h21 fun v23 h24 =>
 vK (nilV v6) fun v25 =>
 vK (fldV 0 v25) fun v26 =>
 vK (ldV h24 v26) fun v27 =>
 vK (idxV 1 v27 (ix x12 0)) fun v28 =>
 vK (ldV h24 v28) fun v29 =>
 vK (idxV 1 v29 (ix x12 0)) fun v30 =>
 stK 1 v30 (.int .i64 1) h24 fun v31 h32 =>
 vK (binV .i .add (ix x12 0) (.int .i64 1)) fun v33 =>
 again15 [v33] h32)) (
 R v6 h14)
noncomputable def an_clock_New : Ann := (.s .z (.s .z (.s .z (.s (.s .z (.l 274877775888 [17] (.s .z (.s (.s .z .z) (.s (.s .z (.s (.d [(0, .r), (1, .r), (2, .r), (3, .r), (4, .r), (5, .r), (6, .e), (7, .r), (8, .n)]) .z)) .z))))) (.s .z .z)))))
theorem oc_clock_New : okCode Try.f43.ntmps ((Try.f43.body).getD .skip) an_clock_New = true := by kernel_rfl
theorem eq_clock_New (a0 : Value) (h : Heap) (R : Value → Heap → Prop) : sh_clock_New a0 h R = cFunc Try.prog ((Try.f43.body).getD .skip) an_clock_New Try.f43.results.toList #[a0].toList h R := by kernel_rfl
theorem ok_clock_New {a0 : Value} {h : Heap} {R : Value → Heap → Prop} (H : sh_clock_New a0 h R) : FCall Try.prog F_clock_New #[a0] h R :=
  fcall_of (by kernel_rfl) (fn := Try.f43) (c := (Try.f43.body).getD .skip) (an := an_clock_New) (by kernel_rfl) (by kernel_rfl) (by kernel_rfl) oc_clock_New (by kernel_rfl) (Eq.mp (eq_clock_New a0 h R) H)

/-! ### (*smalto|clock.Clock).Tick: function 44 -/
def sh_clock_Clock_Tick (a0 a1 : Value) (h : Heap) (R : Value → Heap → Prop) : Prop :=
 FCall Try.prog F_clock_Clock_Now #[a0, a1] h fun v1 h2 =>
 FCall Try.prog F_clock_Clock_in #[a0, a1] h2 fun v3 h4 =>
 iteK v3 (
 vK (nilV a0) fun v5 =>
 vK (fldV 0 v5) fun v6 =>
 vK (ldV h4 v6) fun v7 =>
 vK (idxV 1 v7 a1) fun v8 =>
 vK (ldV h4 v8) fun v9 =>
 vK (idxV 1 v9 a1) fun v10 =>
 vK (ldV h4 v10) fun v11 =>
 vK (binV .i .add v11 (.int .i64 1)) fun v12 =>
 vK (idxV 1 v9 a1) fun v13 =>
 stK 1 v13 v12 h4 fun v14 h15 =>
 R v1 h15) (
 R v1 h4)
noncomputable def an_clock_Clock_Tick : Ann := (.s .z (.s .z (.s (.s .z (.s .z .z)) (.s .z .z))))
theorem oc_clock_Clock_Tick : okCode Try.f44.ntmps ((Try.f44.body).getD .skip) an_clock_Clock_Tick = true := by kernel_rfl
theorem eq_clock_Clock_Tick (a0 a1 : Value) (h : Heap) (R : Value → Heap → Prop) : sh_clock_Clock_Tick a0 a1 h R = cFunc Try.prog ((Try.f44.body).getD .skip) an_clock_Clock_Tick Try.f44.results.toList #[a0, a1].toList h R := by kernel_rfl
theorem ok_clock_Clock_Tick {a0 a1 : Value} {h : Heap} {R : Value → Heap → Prop} (H : sh_clock_Clock_Tick a0 a1 h R) : FCall Try.prog F_clock_Clock_Tick #[a0, a1] h R :=
  fcall_of (by kernel_rfl) (fn := Try.f44) (c := (Try.f44.body).getD .skip) (an := an_clock_Clock_Tick) (by kernel_rfl) (by kernel_rfl) (by kernel_rfl) oc_clock_Clock_Tick (by kernel_rfl) (Eq.mp (eq_clock_Clock_Tick a0 a1 h R) H)

/-! ### (*smalto|clock.Clock).Meet: function 45 -/
def sh_clock_Clock_Meet (a0 a1 a2 : Value) (h : Heap) (R : Value → Heap → Prop) : Prop :=
 FCall Try.prog F_clock_Clock_in #[a0, a1] h fun v1 h2 =>
 vK (unV .not v1) fun v3 =>
 vK (gV v3 false (some a2)) fun v4 =>
 vK (gV v3 false (lenslV v4)) fun v5 =>
 vK (gV v3 false (some a0)) fun v6 =>
 vK (gV v3 false (nilV v6)) fun v7 =>
 vK (gV v3 false (fldV 0 v7)) fun v8 =>
 vK (gV v3 false (ldV h2 v8)) fun v9 =>
 vK (gV v3 false (lenslV v9)) fun v10 =>
 vK (gV v3 false (binV .i .neq v5 v10)) fun v11 =>
 vK (pickV v3 (.bool true) v11) fun v12 =>
 vK (gV v12 false (some a2)) fun v13 =>
 gK v12 false (fun k31 => FCall Try.prog F_slices_Min_clock_Stamp_int #[v13] h2 k31) h2 fun v14 h15 =>
 vK (gV v12 false (binV .i .lss v14 (.int .i64 0))) fun v16 =>
 vK (pickV v12 (.bool true) v16) fun v17 =>
 iteK v17 (
 R (.bool false) h15) (
 drawK h15 fun S =>
 vK (nilV a0) fun v18 =>
 vK (fldV 0 v18) fun v19 =>
 qK S (fun h15 => ldV h15 v19) fun v20 =>
 vK (nilV a0) fun v21 =>
 vK (fldV 0 v21) fun v22 =>
 qK S (fun h15 => ldV h15 v22) fun v23 =>
 vK (idxV 1 v23 a1) fun v24 =>
 qK S (fun h15 => ldV h15 v24) fun v25 =>
 FCall Try.prog F_clock_Join #[v25, a2] h15 fun v26 h27 =>
 S h27 ∧ (vK (idxV 1 v20 a1) fun v28 =>
 stK 1 v28 v26 h27 fun v29 h30 =>
 R (.bool true) h30))
noncomputable def an_clock_Clock_Meet : Ann := (.s .z (.s (.s .z (.s (.s .z .z) .z)) (.s (.d [(0, .r), (1, .r), (2, .r), (3, .r), (4, .r), (5, .r), (6, .r), (7, .r), (8, .r), (9, .r), (10, .r), (11, .r), (12, .r), (13, .e), (14, .r), (15, .n)]) (.s .z .z))))
theorem oc_clock_Clock_Meet : okCode Try.f45.ntmps ((Try.f45.body).getD .skip) an_clock_Clock_Meet = true := by kernel_rfl
theorem eq_clock_Clock_Meet (a0 a1 a2 : Value) (h : Heap) (R : Value → Heap → Prop) : sh_clock_Clock_Meet a0 a1 a2 h R = cFunc Try.prog ((Try.f45.body).getD .skip) an_clock_Clock_Meet Try.f45.results.toList #[a0, a1, a2].toList h R := by kernel_rfl
theorem ok_clock_Clock_Meet {a0 a1 a2 : Value} {h : Heap} {R : Value → Heap → Prop} (H : sh_clock_Clock_Meet a0 a1 a2 h R) : FCall Try.prog F_clock_Clock_Meet #[a0, a1, a2] h R :=
  fcall_of (by kernel_rfl) (fn := Try.f45) (c := (Try.f45.body).getD .skip) (an := an_clock_Clock_Meet) (by kernel_rfl) (by kernel_rfl) (by kernel_rfl) oc_clock_Clock_Meet (by kernel_rfl) (Eq.mp (eq_clock_Clock_Meet a0 a1 a2 h R) H)

/-! ### (*smalto|clock.Clock).Now: function 46 -/
def sh_clock_Clock_Now (a0 a1 : Value) (h : Heap) (R : Value → Heap → Prop) : Prop :=
 FCall Try.prog F_clock_Clock_in #[a0, a1] h fun v1 h2 =>
 vK (unV .not v1) fun v3 =>
 iteK v3 (
 R (.slice none 0 0) h2) (
 vK (nilV a0) fun v4 =>
 vK (fldV 0 v4) fun v5 =>
 vK (ldV h2 v5) fun v6 =>
 vK (idxV 1 v6 a1) fun v7 =>
 vK (ldV h2 v7) fun v8 =>
 FCall Try.prog F_slices_Clone_clock_Stamp_int #[v8] h2 fun v9 h10 =>
 R v9 h10)
noncomputable def an_clock_Clock_Now : Ann := (.s .z (.s (.s .z (.s (.s .z .z) .z)) (.s .z .z)))
theorem oc_clock_Clock_Now : okCode Try.f46.ntmps ((Try.f46.body).getD .skip) an_clock_Clock_Now = true := by kernel_rfl
theorem eq_clock_Clock_Now (a0 a1 : Value) (h : Heap) (R : Value → Heap → Prop) : sh_clock_Clock_Now a0 a1 h R = cFunc Try.prog ((Try.f46.body).getD .skip) an_clock_Clock_Now Try.f46.results.toList #[a0, a1].toList h R := by kernel_rfl
theorem ok_clock_Clock_Now {a0 a1 : Value} {h : Heap} {R : Value → Heap → Prop} (H : sh_clock_Clock_Now a0 a1 h R) : FCall Try.prog F_clock_Clock_Now #[a0, a1] h R :=
  fcall_of (by kernel_rfl) (fn := Try.f46) (c := (Try.f46.body).getD .skip) (an := an_clock_Clock_Now) (by kernel_rfl) (by kernel_rfl) (by kernel_rfl) oc_clock_Clock_Now (by kernel_rfl) (Eq.mp (eq_clock_Clock_Now a0 a1 h R) H)

/-! ### (*smalto|ring.Ring).Row: function 47 -/
def sh_ring_Ring_Row (a0 a1 : Value) (h : Heap) (R : Value → Heap → Prop) : Prop :=
 vK (nilV a0) fun v1 =>
 vK (fldV 2 v1) fun v2 =>
 vK (ldV h v2) fun v3 =>
 vK (lookV (.int .i64) (.slice none 0 0) true h v3 a1) fun v4 =>
 vK (extV v4 0) fun v5 =>
 vK (extV v4 1) fun v6 =>
 FCall Try.prog F_slices_Clone_sl_int64_int64 #[v5] h fun v7 h8 =>
 R (.tuple #[v7, v6]) h8
noncomputable def an_ring_Ring_Row : Ann := (.s .z (.s .z (.s .z .z)))
theorem oc_ring_Ring_Row : okCode Try.f47.ntmps ((Try.f47.body).getD .skip) an_ring_Ring_Row = true := by kernel_rfl
theorem eq_ring_Ring_Row (a0 a1 : Value) (h : Heap) (R : Value → Heap → Prop) : sh_ring_Ring_Row a0 a1 h R = cFunc Try.prog ((Try.f47.body).getD .skip) an_ring_Ring_Row Try.f47.results.toList #[a0, a1].toList h R := by kernel_rfl
theorem ok_ring_Ring_Row {a0 a1 : Value} {h : Heap} {R : Value → Heap → Prop} (H : sh_ring_Ring_Row a0 a1 h R) : FCall Try.prog F_ring_Ring_Row #[a0, a1] h R :=
  fcall_of (by kernel_rfl) (fn := Try.f47) (c := (Try.f47.body).getD .skip) (an := an_ring_Ring_Row) (by kernel_rfl) (by kernel_rfl) (by kernel_rfl) oc_ring_Ring_Row (by kernel_rfl) (Eq.mp (eq_ring_Ring_Row a0 a1 h R) H)

/-! ### (*smalto|ring.Ring).Reset: function 48 -/
def sh_ring_Ring_Reset (a0 : Value) (h : Heap) (R : Value → Heap → Prop) : Prop :=
 vK (nilV a0) fun v1 =>
 vK (fldV 2 v1) fun v2 =>
 vK (ldV h v2) fun v3 =>
 rangeMapK v3 h fun v4 h5 =>
 loopK [] h5 fun x6 j7 h8 again9 =>
 nextMapK v4 h8 fun v10 h11 =>
 vK (extV v10 0) fun v12 =>
 iteK v12 (
 entryK v4 h11 fun v13 h14 =>
 vK (extV v13 0) fun v15 =>
 FCall Try.prog F_ring_Ring_drop #[a0, v15] h14 fun v16 h17 =>
 again9 [] h17) (
 R (.tuple #[]) h11)
noncomputable def an_ring_Ring_Reset : Ann := (.s .z (.l 32516 [] (.s .z (.s (.s .z .z) (.s .z .z)))))
theorem oc_ring_Ring_Reset : okCode Try.f48.ntmps ((Try.f48.body).getD .skip) an_ring_Ring_Reset = true := by kernel_rfl
theorem eq_ring_Ring_Reset (a0 : Value) (h : Heap) (R : Value → Heap → Prop) : sh_ring_Ring_Reset a0 h R = cFunc Try.prog ((Try.f48.body).getD .skip) an_ring_Ring_Reset Try.f48.results.toList #[a0].toList h R := by kernel_rfl
theorem ok_ring_Ring_Reset {a0 : Value} {h : Heap} {R : Value → Heap → Prop} (H : sh_ring_Ring_Reset a0 h R) : FCall Try.prog F_ring_Ring_Reset #[a0] h R :=
  fcall_of (by kernel_rfl) (fn := Try.f48) (c := (Try.f48.body).getD .skip) (an := an_ring_Ring_Reset) (by kernel_rfl) (by kernel_rfl) (by kernel_rfl) oc_ring_Ring_Reset (by kernel_rfl) (Eq.mp (eq_ring_Ring_Reset a0 h R) H)

/-! ### (*smalto|ring.Ring).Next: function 49 -/
def sh_ring_Ring_Next (a0 a1 a2 : Value) (h : Heap) (R : Value → Heap → Prop) : Prop :=
 loopK [a1] h fun x1 j2 h3 again4 =>
 vK (binV .i .lss (ix x1 0) a2) fun v5 =>
 iteK v5 (
 FCall Try.prog F_ring_Ring_Has #[a0, (ix x1 0)] h3 fun v6 h7 =>
 vK (unV .not v6) fun v8 =>
 iteK v8 (
 R (.tuple #[(ix x1 0), (.bool true)]) h7) (
 vK (binV .i .add (ix x1 0) (.int .i64 1)) fun v9 =>
 again4 [v9] h7)) (
 R (.tuple #[(.int .i64 0), (.bool false)]) h3)
noncomputable def an_ring_Ring_Next : Ann := (.s .z (.s (.s .z (.l 1048000 [8] (.s (.s .z (.s .z .z)) (.s (.s .z (.s (.s .z .z) .z)) .z)))) (.s .z .z)))
theorem oc_ring_Ring_Next : okCode Try.f49.ntmps ((Try.f49.body).getD .skip) an_ring_Ring_Next = true := by kernel_rfl
theorem eq_ring_Ring_Next (a0 a1 a2 : Value) (h : Heap) (R : Value → Heap → Prop) : sh_ring_Ring_Next a0 a1 a2 h R = cFunc Try.prog ((Try.f49.body).getD .skip) an_ring_Ring_Next Try.f49.results.toList #[a0, a1, a2].toList h R := by kernel_rfl
theorem ok_ring_Ring_Next {a0 a1 a2 : Value} {h : Heap} {R : Value → Heap → Prop} (H : sh_ring_Ring_Next a0 a1 a2 h R) : FCall Try.prog F_ring_Ring_Next #[a0, a1, a2] h R :=
  fcall_of (by kernel_rfl) (fn := Try.f49) (c := (Try.f49.body).getD .skip) (an := an_ring_Ring_Next) (by kernel_rfl) (by kernel_rfl) (by kernel_rfl) oc_ring_Ring_Next (by kernel_rfl) (Eq.mp (eq_ring_Ring_Next a0 a1 a2 h R) H)

/-! ### smalto|smaltoref06.Same: function 50 -/
def sh_ref06_Same (a0 a1 : Value) (h : Heap) (R : Value → Heap → Prop) : Prop :=
 vK (lenslV a0) fun v1 =>
 vK (lenslV a1) fun v2 =>
 vK (binV .i .neq v1 v2) fun v3 =>
 iteK v3 (
 R (.bool false) h) (
 vK (lenslV a0) fun v4 =>
 loopK [(.int .i64 0)] h fun x5 j6 h7 again8 =>
 vK (binV .i .lss (ix x5 0) v4) fun v9 =>
 iteK v9 (
 vK (idxV 1 a0 (ix x5 0)) fun v10 =>
 vK (ldV h7 v10) fun v11 =>
 vK (idxV 1 a1 (ix x5 0)) fun v12 =>
 vK (ldV h7 v12) fun v13 =>
 vK (binV .i .neq v11 v13) fun v14 =>
 iteK v14 (
 R (.bool false) h7) (
 vK (binV .i .add (ix x5 0) (.int .i64 1)) fun v15 =>
 again8 [v15] h7)) (
 R (.bool true) h7))
noncomputable def an_ref06_Same : Ann := (.s .z (.s (.s .z (.s (.s .z .z) .z)) (.s (.s .z (.l 67100720 [13] (.s .z (.s (.s .z .z) (.s (.s .z (.s .z (.s (.s .z .z) .z))) .z))))) (.s .z .z))))
theorem oc_ref06_Same : okCode Try.f50.ntmps ((Try.f50.body).getD .skip) an_ref06_Same = true := by kernel_rfl
theorem eq_ref06_Same (a0 a1 : Value) (h : Heap) (R : Value → Heap → Prop) : sh_ref06_Same a0 a1 h R = cFunc Try.prog ((Try.f50.body).getD .skip) an_ref06_Same Try.f50.results.toList #[a0, a1].toList h R := by kernel_rfl
theorem ok_ref06_Same {a0 a1 : Value} {h : Heap} {R : Value → Heap → Prop} (H : sh_ref06_Same a0 a1 h R) : FCall Try.prog F_ref06_Same #[a0, a1] h R :=
  fcall_of (by kernel_rfl) (fn := Try.f50) (c := (Try.f50.body).getD .skip) (an := an_ref06_Same) (by kernel_rfl) (by kernel_rfl) (by kernel_rfl) oc_ref06_Same (by kernel_rfl) (Eq.mp (eq_ref06_Same a0 a1 h R) H)

/-! ### smalto|smaltolaw16.row: function 51 -/
def sh_law16_row (a0 a1 : Value) (h : Heap) (R : Value → Heap → Prop) : Prop :=
 loopK [(.slice none 0 0), (.int .i64 0)] h fun x1 j2 h3 again4 =>
 vK (binV .i .lss (ix x1 1) a0) fun v5 =>
 iteK v5 (
 vK (binV .i .add a1 (ix x1 1)) fun v6 =>
 rowK #[(.int .i64 0)] 2 1 [(0, 1, v6)] h3 fun v7 h8 =>
 appK (.int .i64 0) 2 1 8 (ix x1 0) v7 h8 fun v9 h10 =>
 vK (binV .i .add (ix x1 1) (.int .i64 1)) fun v11 =>
 again4 [v9, v11] h10) (
 R (ix x1 0) h3)
noncomputable def an_law16_row : Ann := (.s .z (.s .z (.s (.s .z (.l 261984 [5, 8] (.s .z (.s (.s .z .z) (.s (.s .z .z) .z))))) (.s .z .z))))
theorem oc_law16_row : okCode Try.f51.ntmps ((Try.f51.body).getD .skip) an_law16_row = true := by kernel_rfl
theorem eq_law16_row (a0 a1 : Value) (h : Heap) (R : Value → Heap → Prop) : sh_law16_row a0 a1 h R = cFunc Try.prog ((Try.f51.body).getD .skip) an_law16_row Try.f51.results.toList #[a0, a1].toList h R := by kernel_rfl
theorem ok_law16_row {a0 a1 : Value} {h : Heap} {R : Value → Heap → Prop} (H : sh_law16_row a0 a1 h R) : FCall Try.prog F_law16_row #[a0, a1] h R :=
  fcall_of (by kernel_rfl) (fn := Try.f51) (c := (Try.f51.body).getD .skip) (an := an_law16_row) (by kernel_rfl) (by kernel_rfl) (by kernel_rfl) oc_law16_row (by kernel_rfl) (Eq.mp (eq_law16_row a0 a1 h R) H)

/-! ### smalto|smaltoref16.Put: function 52 -/
def sh_ref16_Put (a0 a1 a2 : Value) (h : Heap) (R : Value → Heap → Prop) : Prop :=
 newK (Value.cells a0) 57 h fun v1 h2 =>
 newK #[(.int .i64 0), (.int .i64 0), (.slice none 0 0)] 57 h2 fun v3 h4 =>
 vK (lenslV a2) fun v5 =>
 vK (fldV 1 v1) fun v6 =>
 vK (ldV h4 v6) fun v7 =>
 vK (binV .i .neq v5 v7) fun v8 =>
 vK (gV v8 false (ldsV 3 h4 v1)) fun v9 =>
 vK (gV v8 false (some a1)) fun v10 =>
 gK v8 false (fun k111 => FCall Try.prog F_ref16_Find #[v9, v10] h4 k111) h4 fun v11 h12 =>
 vK (gV v8 false (binV .i .geq v11 (.int .i64 0))) fun v13 =>
 vK (pickV v8 (.bool true) v13) fun v14 =>
 iteK v14 (
 vK (ldsV 3 h12 v1) fun v15 =>
 stK 3 v3 v15 h12 fun v16 h17 =>
 vK (ldsV 3 h17 v3) fun v18 =>
 R (.tuple #[v18, (.bool false)]) h17) (
 vK (fldV 2 v1) fun v19 =>
 vK (ldV h12 v19) fun v20 =>
 vK (lenslV v20) fun v21 =>
 vK (fldV 0 v1) fun v22 =>
 vK (ldV h12 v22) fun v23 =>
 vK (binV .i .eql v21 v23) fun v24 =>
 vK (gV v24 true (some a1)) fun v25 =>
 vK (gV v24 true (fldV 2 v1)) fun v26 =>
 vK (gV v24 true (ldV h12 v26)) fun v27 =>
 vK (gV v24 true (idxV 2 v27 (.int .i64 0))) fun v28 =>
 vK (gV v24 true (fldV 0 v28)) fun v29 =>
 vK (gV v24 true (ldV h12 v29)) fun v30 =>
 vK (gV v24 true (binV .i .lss v25 v30)) fun v31 =>
 vK (pickV v24 v31 (.bool false)) fun v32 =>
 iteK v32 (
 vK (ldsV 3 h12 v1) fun v33 =>
 stK 3 v3 v33 h12 fun v34 h35 =>
 vK (ldsV 3 h35 v3) fun v36 =>
 R (.tuple #[v36, (.bool false)]) h35) (
 vK (fldV 2 v1) fun v37 =>
 vK (ldV h12 v37) fun v38 =>
 vK (lenslV v38) fun v39 =>
 loopK [(.slice none 0 0), (.bool false), (.int .i64 0)] h12 fun x40 j41 h42 again43 =>
 vK (binV .i .lss (ix x40 2) v39) fun v44 =>
 iteK v44 (
 vK (idxV 2 v38 (ix x40 2)) fun v45 =>
 vK (ldsV 2 h42 v45) fun v46 =>
 newK #[(.int .i64 0), (.slice none 0 0)] 112 h42 fun v47 h48 =>
 stK 2 v47 v46 h48 fun v49 h50 =>
 vK (binV .i .eql (ix x40 2) (.int .i64 0)) fun v51 =>
 vK (gV v51 true (fldV 2 v1)) fun v52 =>
 vK (gV v51 true (ldV h50 v52)) fun v53 =>
 vK (gV v51 true (lenslV v53)) fun v54 =>
 vK (gV v51 true (fldV 0 v1)) fun v55 =>
 vK (gV v51 true (ldV h50 v55)) fun v56 =>
 vK (gV v51 true (binV .i .eql v54 v56)) fun v57 =>
 vK (pickV v51 v57 (.bool false)) fun v58 =>
 iteK v58 (
 vK (binV .i .add (ix x40 2) (.int .i64 1)) fun v59 =>
 again43 [(ix x40 0), (ix x40 1), v59] h50) (
 vK (unV .not (ix x40 1)) fun v60 =>
 vK (gV v60 true (some a1)) fun v61 =>
 vK (gV v60 true (fldV 0 v47)) fun v62 =>
 vK (gV v60 true (ldV h50 v62)) fun v63 =>
 vK (gV v60 true (binV .i .lss v61 v63)) fun v64 =>
 vK (pickV v60 v64 (.bool false)) fun v65 =>
 iteK v65 (
 rowK #[] 2 0 [] h50 fun v66 h67 =>
 appK (.int .i64 0) 2 1 8 v66 a2 h67 fun v68 h69 =>
 vK ((fillL #[(.int .i64 0), (.slice none 0 0)] [(0, 1, a1), (1, 1, v68)]).map .agg) fun v70 =>
 rowK #[(.int .i64 0), (.slice none 0 0)] 112 1 [(0, 2, v70)] h69 fun v71 h72 =>
 appK (.agg #[.int .i64 0, .slice none 0 0]) 112 2 32 (ix x40 0) v71 h72 fun v73 h74 =>
 vK (ldsV 2 h74 v47) fun v75 =>
 rowK #[(.int .i64 0), (.slice none 0 0)] 112 1 [(0, 2, v75)] h74 fun v76 h77 =>
 appK (.agg #[.int .i64 0, .slice none 0 0]) 112 2 32 v73 v76 h77 fun v78 h79 =>
 vK (binV .i .add (ix x40 2) (.int .i64 1)) fun v80 =>
 again43 [v78, (.bool true), v80] h79) (
 vK (ldsV 2 h50 v47) fun v81 =>
 rowK #[(.int .i64 0), (.slice none 0 0)] 112 1 [(0, 2, v81)] h50 fun v82 h83 =>
 appK (.agg #[.int .i64 0, .slice none 0 0]) 112 2 32 (ix x40 0) v82 h83 fun v84 h85 =>
 vK (binV .i .add (ix x40 2) (.int .i64 1)) fun v86 =>
 again43 [v84, (ix x40 1), v86] h85))) (
 vK (unV .not (ix x40 1)) fun v87 =>
 iteK v87 (
 rowK #[] 2 0 [] h42 fun v88 h89 =>
 appK (.int .i64 0) 2 1 8 v88 a2 h89 fun v90 h91 =>
 vK ((fillL #[(.int .i64 0), (.slice none 0 0)] [(0, 1, a1), (1, 1, v90)]).map .agg) fun v92 =>
 rowK #[(.int .i64 0), (.slice none 0 0)] 112 1 [(0, 2, v92)] h91 fun v93 h94 =>
 appK (.agg #[.int .i64 0, .slice none 0 0]) 112 2 32 (ix x40 0) v93 h94 fun v95 h96 =>
 vK (fldV 2 v1) fun v97 =>
 stK 1 v97 v95 h96 fun v98 h99 =>
 vK (ldsV 3 h99 v1) fun v100 =>
 stK 3 v3 v100 h99 fun v101 h102 =>
 vK (ldsV 3 h102 v3) fun v103 =>
 R (.tuple #[v103, (.bool true)]) h102) (
 vK (fldV 2 v1) fun v104 =>
 stK 1 v104 (ix x40 0) h42 fun v105 h106 =>
 vK (ldsV 3 h106 v1) fun v107 =>
 stK 3 v3 v107 h106 fun v108 h109 =>
 vK (ldsV 3 h109 v3) fun v110 =>
 R (.tuple #[v110, (.bool true)]) h109))))
noncomputable def an_ref16_Put : Ann := (.s .z (.s (.s .z (.s (.s .z .z) .z)) (.s (.s .z (.s (.s .z .z) .z)) (.s .z (.s .z (.s (.s .z (.l 604462909798518494334720 [8, 9, 43] (.s .z (.s (.s .z .z) (.s (.s .z (.s (.s .z (.s .z .z)) (.s (.s .z (.s (.s .z .z) .z)) .z))) .z))))) (.s (.s .z (.s .z .z)) (.s .z (.s .z .z)))))))))
theorem oc_ref16_Put : okCode Try.f52.ntmps ((Try.f52.body).getD .skip) an_ref16_Put = true := by kernel_rfl
theorem eq_ref16_Put (a0 a1 a2 : Value) (h : Heap) (R : Value → Heap → Prop) : sh_ref16_Put a0 a1 a2 h R = cFunc Try.prog ((Try.f52.body).getD .skip) an_ref16_Put Try.f52.results.toList #[a0, a1, a2].toList h R := by kernel_rfl
theorem ok_ref16_Put {a0 a1 a2 : Value} {h : Heap} {R : Value → Heap → Prop} (H : sh_ref16_Put a0 a1 a2 h R) : FCall Try.prog F_ref16_Put #[a0, a1, a2] h R :=
  fcall_of (by kernel_rfl) (fn := Try.f52) (c := (Try.f52.body).getD .skip) (an := an_ref16_Put) (by kernel_rfl) (by kernel_rfl) (by kernel_rfl) oc_ref16_Put (by kernel_rfl) (Eq.mp (eq_ref16_Put a0 a1 a2 h R) H)

/-! ### smalto|smaltoref16.Next: function 53 -/
def sh_ref16_Next (a0 a1 a2 : Value) (h : Heap) (R : Value → Heap → Prop) : Prop :=
 newK (Value.cells a0) 57 h fun v1 h2 =>
 vK (fldV 2 v1) fun v3 =>
 vK (ldV h2 v3) fun v4 =>
 vK (lenslV v4) fun v5 =>
 loopK [a1, (.int .i64 0)] h2 fun x6 j7 h8 again9 =>
 vK (binV .i .lss (ix x6 1) v5) fun v10 =>
 iteK v10 (
 vK (idxV 2 v4 (ix x6 1)) fun v11 =>
 vK (ldsV 2 h8 v11) fun v12 =>
 newK #[(.int .i64 0), (.slice none 0 0)] 112 h8 fun v13 h14 =>
 stK 2 v13 v12 h14 fun v15 h16 =>
 vK (fldV 0 v13) fun v17 =>
 vK (ldV h16 v17) fun v18 =>
 vK (binV .i .eql v18 (ix x6 0)) fun v19 =>
 vK (gV v19 true (some (ix x6 0))) fun v20 =>
 vK (gV v19 true (some a2)) fun v21 =>
 vK (gV v19 true (binV .i .lss v20 v21)) fun v22 =>
 vK (pickV v19 v22 (.bool false)) fun v23 =>
 iteK v23 (
 vK (binV .i .add (ix x6 0) (.int .i64 1)) fun v24 =>
 vK (binV .i .add (ix x6 1) (.int .i64 1)) fun v25 =>
 again9 [v24, v25] h16) (
 vK (binV .i .add (ix x6 1) (.int .i64 1)) fun v26 =>
 again9 [(ix x6 0), v26] h16)) (
 vK (binV .i .geq (ix x6 0) a2) fun v27 =>
 iteK v27 (
 R (.tuple #[(.int .i64 0), (.bool false)]) h8) (
 R (.tuple #[(ix x6 0), (.bool true)]) h8))
noncomputable def an_ref16_Next : Ann := (.s .z (.s .z (.s (.s .z (.l 2147452160 [8, 15] (.s .z (.s (.s .z .z) (.s (.s .z (.s .z (.s .z .z))) .z))))) (.s (.s .z (.s (.s .z .z) .z)) (.s .z .z)))))
theorem oc_ref16_Next : okCode Try.f53.ntmps ((Try.f53.body).getD .skip) an_ref16_Next = true := by kernel_rfl
theorem eq_ref16_Next (a0 a1 a2 : Value) (h : Heap) (R : Value → Heap → Prop) : sh_ref16_Next a0 a1 a2 h R = cFunc Try.prog ((Try.f53.body).getD .skip) an_ref16_Next Try.f53.results.toList #[a0, a1, a2].toList h R := by kernel_rfl
theorem ok_ref16_Next {a0 a1 a2 : Value} {h : Heap} {R : Value → Heap → Prop} (H : sh_ref16_Next a0 a1 a2 h R) : FCall Try.prog F_ref16_Next #[a0, a1, a2] h R :=
  fcall_of (by kernel_rfl) (fn := Try.f53) (c := (Try.f53.body).getD .skip) (an := an_ref16_Next) (by kernel_rfl) (by kernel_rfl) (by kernel_rfl) oc_ref16_Next (by kernel_rfl) (Eq.mp (eq_ref16_Next a0 a1 a2 h R) H)

/-! ### smalto|smaltolaw16.same: function 54 -/
def sh_law16_same (a0 a1 : Value) (h : Heap) (R : Value → Heap → Prop) : Prop :=
 newK (Value.cells a1) 57 h fun v1 h2 =>
 drawK h2 fun S =>
 vK (fldV 2 v1) fun v3 =>
 qK S (fun h2 => ldV h2 v3) fun v4 =>
 qK S (fun h2 => lenslV v4) fun v5 =>
 FCall Try.prog F_ring_Ring_Len #[a0] h2 fun v6 h7 =>
 S h7 ∧ (vK (binV .i .neq v6 v5) fun v8 =>
 vK (gV v8 false (some a0)) fun v9 =>
 vK (gV v8 false (fldV 0 v1)) fun v10 =>
 qK S (fun h7 => gV v8 false (ldV h7 v10)) fun v11 =>
 gK v8 false (fun k110 => FCall Try.prog F_ring_Ring_Room #[v9] h7 k110) h7 fun v12 h13 =>
 S h13 ∧ (vK (gV v8 false (binV .i .neq v12 v11)) fun v14 =>
 vK (pickV v8 (.bool true) v14) fun v15 =>
 vK (gV v15 false (some a0)) fun v16 =>
 vK (gV v15 false (fldV 1 v1)) fun v17 =>
 qK S (fun h13 => gV v15 false (ldV h13 v17)) fun v18 =>
 gK v15 false (fun k109 => FCall Try.prog F_ring_Ring_Width #[v16] h13 k109) h13 fun v19 h20 =>
 S h20 ∧ (vK (gV v15 false (binV .i .neq v19 v18)) fun v21 =>
 vK (pickV v15 (.bool true) v21) fun v22 =>
 vK (gV v22 false (some a0)) fun v23 =>
 vK (gV v22 false (fldV 0 v1)) fun v24 =>
 qK S (fun h20 => gV v22 false (ldV h20 v24)) fun v25 =>
 vK (gV v22 false (fldV 1 v1)) fun v26 =>
 qK S (fun h20 => gV v22 false (ldV h20 v26)) fun v27 =>
 vK (gV v22 false (binV .i .mul v25 v27)) fun v28 =>
 gK v22 false (fun k108 => FCall Try.prog F_ring_Ring_Words #[v23] h20 k108) h20 fun v29 h30 =>
 S h30 ∧ (vK (gV v22 false (binV .i .neq v29 v28)) fun v31 =>
 vK (pickV v22 (.bool true) v31) fun v32 =>
 vK (gV v32 false (some a0)) fun v33 =>
 vK (gV v32 false (some a0)) fun v34 =>
 gK v32 false (fun k107 => FCall Try.prog F_ring_Ring_Len #[v33] h30 k107) h30 fun v35 h36 =>
 S h36 ∧ (gK v32 false (fun k106 => FCall Try.prog F_ring_Ring_Room #[v34] h36 k106) h36 fun v37 h38 =>
 vK (gV v32 false (binV .i .gtr v35 v37)) fun v39 =>
 vK (pickV v32 (.bool true) v39) fun v40 =>
 iteK v40 (
 R (.bool false) h38) (
 FCall Try.prog F_ring_Ring_First #[a0] h38 fun v41 h42 =>
 vK (extV v41 0) fun v43 =>
 vK (extV v41 1) fun v44 =>
 vK (fldV 2 v1) fun v45 =>
 vK (ldV h42 v45) fun v46 =>
 vK (lenslV v46) fun v47 =>
 vK (binV .i .gtr v47 (.int .i64 0)) fun v48 =>
 vK (binV .b .neq v44 v48) fun v49 =>
 vK (gV v49 false (some v44)) fun v50 =>
 vK (gV v49 false (some v50)) fun v51 =>
 vK (gV v51 true (some v43)) fun v52 =>
 vK (gV v51 true (fldV 2 v1)) fun v53 =>
 vK (gV v51 true (ldV h42 v53)) fun v54 =>
 vK (gV v51 true (idxV 2 v54 (.int .i64 0))) fun v55 =>
 vK (gV v51 true (fldV 0 v55)) fun v56 =>
 vK (gV v51 true (ldV h42 v56)) fun v57 =>
 vK (gV v51 true (binV .i .neq v52 v57)) fun v58 =>
 vK (gV v49 false (pickV v51 v58 (.bool false))) fun v59 =>
 vK (pickV v49 (.bool true) v59) fun v60 =>
 vK (gV v60 false (some v44)) fun v61 =>
 vK (gV v60 false (unV .not v61)) fun v62 =>
 vK (gV v60 false (some v62)) fun v63 =>
 vK (gV v63 true (some v43)) fun v64 =>
 vK (gV v63 true (binV .i .neq v64 (.int .i64 0))) fun v65 =>
 vK (gV v60 false (pickV v63 v65 (.bool false))) fun v66 =>
 vK (pickV v60 (.bool true) v66) fun v67 =>
 iteK v67 (
 R (.bool false) h42) (
 vK (fldV 2 v1) fun v68 =>
 vK (ldV h42 v68) fun v69 =>
 vK (lenslV v69) fun v70 =>
 loopK [(.int .i64 0)] h42 fun x71 j72 h73 again74 =>
 vK (binV .i .lss (ix x71 0) v70) fun v75 =>
 iteK v75 (
 vK (idxV 2 v69 (ix x71 0)) fun v76 =>
 vK (ldsV 2 h73 v76) fun v77 =>
 newK #[(.int .i64 0), (.slice none 0 0)] 112 h73 fun v78 h79 =>
 stK 2 v78 v77 h79 fun v80 h81 =>
 vK (fldV 0 v78) fun v82 =>
 vK (ldV h81 v82) fun v83 =>
 FCall Try.prog F_ring_Ring_Row #[a0, v83] h81 fun v84 h85 =>
 vK (extV v84 0) fun v86 =>
 vK (extV v84 1) fun v87 =>
 vK (unV .not v87) fun v88 =>
 vK (gV v88 false (some a0)) fun v89 =>
 vK (gV v88 false (fldV 0 v78)) fun v90 =>
 vK (gV v88 false (ldV h85 v90)) fun v91 =>
 gK v88 false (fun k105 => FCall Try.prog F_ring_Ring_Has #[v89, v91] h85 k105) h85 fun v92 h93 =>
 vK (gV v88 false (unV .not v92)) fun v94 =>
 vK (pickV v88 (.bool true) v94) fun v95 =>
 vK (gV v95 false (some v86)) fun v96 =>
 vK (gV v95 false (fldV 1 v78)) fun v97 =>
 vK (gV v95 false (ldV h93 v97)) fun v98 =>
 gK v95 false (fun k104 => FCall Try.prog F_ref06_Same #[v96, v98] h93 k104) h93 fun v99 h100 =>
 vK (gV v95 false (unV .not v99)) fun v101 =>
 vK (pickV v95 (.bool true) v101) fun v102 =>
 iteK v102 (
 R (.bool false) h100) (
 vK (binV .i .add (ix x71 0) (.int .i64 1)) fun v103 =>
 again74 [v103] h100)) (
 R (.bool true) h73))))))))
noncomputable def an_law16_same : Ann := (.s .z (.s (.s (.d [(0, .r), (2, .r), (3, .r), (4, .r), (1, .e), (5, .r), (6, .r), (7, .r), (9, .r), (10, .r), (8, .e), (11, .r), (12, .r), (13, .r), (14, .r), (16, .r), (17, .r), (15, .e), (18, .r), (19, .r), (20, .r), (21, .r), (23, .r), (24, .r), (25, .r), (26, .r), (27, .r), (22, .e), (28, .r), (29, .r), (30, .r), (31, .r), (33, .r), (32, .e), (34, .n), (35, .r), (36, .r)]) (.s (.s .z .z) .z)) (.s .z (.s (.s .z (.s (.s .z .z) .z)) (.s (.s .z (.l 1298074209798003628674107383482128 [82] (.s .z (.s (.s .z .z) (.s (.s .z (.s .z (.s .z (.s (.s .z .z) .z)))) .z))))) (.s .z .z))))))
theorem oc_law16_same : okCode Try.f54.ntmps ((Try.f54.body).getD .skip) an_law16_same = true := by kernel_rfl
theorem eq_law16_same (a0 a1 : Value) (h : Heap) (R : Value → Heap → Prop) : sh_law16_same a0 a1 h R = cFunc Try.prog ((Try.f54.body).getD .skip) an_law16_same Try.f54.results.toList #[a0, a1].toList h R := by kernel_rfl
theorem ok_law16_same {a0 a1 : Value} {h : Heap} {R : Value → Heap → Prop} (H : sh_law16_same a0 a1 h R) : FCall Try.prog F_law16_same #[a0, a1] h R :=
  fcall_of (by kernel_rfl) (fn := Try.f54) (c := (Try.f54.body).getD .skip) (an := an_law16_same) (by kernel_rfl) (by kernel_rfl) (by kernel_rfl) oc_law16_same (by kernel_rfl) (Eq.mp (eq_law16_same a0 a1 h R) H)

/-! ### smalto|smaltoref16.Find: function 55 -/
def sh_ref16_Find (a0 a1 : Value) (h : Heap) (R : Value → Heap → Prop) : Prop :=
 newK (Value.cells a0) 57 h fun v1 h2 =>
 vK (fldV 2 v1) fun v3 =>
 vK (ldV h2 v3) fun v4 =>
 vK (lenslV v4) fun v5 =>
 loopK [(.int .i64 0)] h2 fun x6 j7 h8 again9 =>
 vK (binV .i .lss (ix x6 0) v5) fun v10 =>
 iteK v10 (
 vK (idxV 2 v4 (ix x6 0)) fun v11 =>
 vK (ldsV 2 h8 v11) fun v12 =>
 newK #[(.int .i64 0), (.slice none 0 0)] 112 h8 fun v13 h14 =>
 stK 2 v13 v12 h14 fun v15 h16 =>
 vK (fldV 0 v13) fun v17 =>
 vK (ldV h16 v17) fun v18 =>
 vK (binV .i .eql v18 a1) fun v19 =>
 iteK v19 (
 R (ix x6 0) h16) (
 vK (binV .i .add (ix x6 0) (.int .i64 1)) fun v20 =>
 again9 [v20] h16)) (
 R (.int .i64 (-1)) h8)
noncomputable def an_ref16_Find : Ann := (.s .z (.s (.s .z (.l 2096240 [10] (.s .z (.s (.s .z .z) (.s (.s .z (.s .z (.s (.s .z .z) .z))) .z))))) (.s .z .z)))
theorem oc_ref16_Find : okCode Try.f55.ntmps ((Try.f55.body).getD .skip) an_ref16_Find = true := by kernel_rfl
theorem eq_ref16_Find (a0 a1 : Value) (h : Heap) (R : Value → Heap → Prop) : sh_ref16_Find a0 a1 h R = cFunc Try.prog ((Try.f55.body).getD .skip) an_ref16_Find Try.f55.results.toList #[a0, a1].toList h R := by kernel_rfl
theorem ok_ref16_Find {a0 a1 : Value} {h : Heap} {R : Value → Heap → Prop} (H : sh_ref16_Find a0 a1 h R) : FCall Try.prog F_ref16_Find #[a0, a1] h R :=
  fcall_of (by kernel_rfl) (fn := Try.f55) (c := (Try.f55.body).getD .skip) (an := an_ref16_Find) (by kernel_rfl) (by kernel_rfl) (by kernel_rfl) oc_ref16_Find (by kernel_rfl) (Eq.mp (eq_ref16_Find a0 a1 h R) H)

/-! ### (*smalto|ledger.Ledger).Writers: function 56 -/
def sh_ledger_Ledger_Writers (a0 a1 : Value) (h : Heap) (R : Value → Heap → Prop) : Prop :=
 newmK h fun v1 h2 =>
 vK (nilV a0) fun v3 =>
 vK (fldV 0 v3) fun v4 =>
 vK (ldV h2 v4) fun v5 =>
 vK (lenslV v5) fun v6 =>
 loopK [(.int .i64 0)] h2 fun x7 j8 h9 again10 =>
 vK (binV .i .lss (ix x7 0) v6) fun v11 =>
 iteK v11 (
 vK (idxV 6 v5 (ix x7 0)) fun v12 =>
 vK (ldsV 6 h9 v12) fun v13 =>
 newK #[(.int .i64 0), (.slice none 0 0), (.int .i64 0), (.int .i64 0), (.int .i64 0), (.bool false)] 25 h9 fun v14 h15 =>
 stK 6 v14 v13 h15 fun v16 h17 =>
 vK (fldV 5 v14) fun v18 =>
 vK (ldV h17 v18) fun v19 =>
 vK (gV v19 true (fldV 2 v14)) fun v20 =>
 vK (gV v19 true (ldV h17 v20)) fun v21 =>
 vK (gV v19 true (some a1)) fun v22 =>
 vK (gV v19 true (binV .i .eql v21 v22)) fun v23 =>
 vK (pickV v19 v23 (.bool false)) fun v24 =>
 iteK v24 (
 vK (fldV 0 v14) fun v25 =>
 vK (ldV h17 v25) fun v26 =>
 mapPutK (.int .i64) v1 v26 (.bool true) h17 fun v27 h28 =>
 vK (binV .i .add (ix x7 0) (.int .i64 1)) fun v29 =>
 again10 [v29] h28) (
 vK (binV .i .add (ix x7 0) (.int .i64 1)) fun v30 =>
 again10 [v30] h17)) (
 FCall Try.prog F_maps_Keys_map_int_bool_int_bool #[v1] h9 fun v31 h32 =>
 FCall Try.prog F_slices_Sorted_int #[v31] h32 fun v33 h34 =>
 R v33 h34)
noncomputable def an_ledger_Ledger_Writers : Ann := (.s .z (.s .z (.s (.s .z (.l 1073725568 [14] (.s .z (.s (.s .z .z) (.s (.s .z (.s .z (.s .z .z))) .z))))) (.s .z .z))))
theorem oc_ledger_Ledger_Writers : okCode Try.f56.ntmps ((Try.f56.body).getD .skip) an_ledger_Ledger_Writers = true := by kernel_rfl
theorem eq_ledger_Ledger_Writers (a0 a1 : Value) (h : Heap) (R : Value → Heap → Prop) : sh_ledger_Ledger_Writers a0 a1 h R = cFunc Try.prog ((Try.f56.body).getD .skip) an_ledger_Ledger_Writers Try.f56.results.toList #[a0, a1].toList h R := by kernel_rfl
theorem ok_ledger_Ledger_Writers {a0 a1 : Value} {h : Heap} {R : Value → Heap → Prop} (H : sh_ledger_Ledger_Writers a0 a1 h R) : FCall Try.prog F_ledger_Ledger_Writers #[a0, a1] h R :=
  fcall_of (by kernel_rfl) (fn := Try.f56) (c := (Try.f56.body).getD .skip) (an := an_ledger_Ledger_Writers) (by kernel_rfl) (by kernel_rfl) (by kernel_rfl) oc_ledger_Ledger_Writers (by kernel_rfl) (Eq.mp (eq_ledger_Ledger_Writers a0 a1 h R) H)

/-! ### (*smalto|ledger.Ledger).Written: function 57 -/
def sh_ledger_Ledger_Written (a0 a1 a2 : Value) (h : Heap) (R : Value → Heap → Prop) : Prop :=
 vK (nilV a0) fun v1 =>
 vK (fldV 0 v1) fun v2 =>
 vK (ldV h v2) fun v3 =>
 vK (lenslV v3) fun v4 =>
 loopK [(.int .i64 0), (.int .i64 0)] h fun x5 j6 h7 again8 =>
 vK (binV .i .lss (ix x5 1) v4) fun v9 =>
 iteK v9 (
 vK (idxV 6 v3 (ix x5 1)) fun v10 =>
 vK (ldsV 6 h7 v10) fun v11 =>
 newK #[(.int .i64 0), (.slice none 0 0), (.int .i64 0), (.int .i64 0), (.int .i64 0), (.bool false)] 25 h7 fun v12 h13 =>
 stK 6 v12 v11 h13 fun v14 h15 =>
 vK (fldV 5 v12) fun v16 =>
 vK (ldV h15 v16) fun v17 =>
 vK (gV v17 true (fldV 2 v12)) fun v18 =>
 vK (gV v17 true (ldV h15 v18)) fun v19 =>
 vK (gV v17 true (some a1)) fun v20 =>
 vK (gV v17 true (binV .i .eql v19 v20)) fun v21 =>
 vK (pickV v17 v21 (.bool false)) fun v22 =>
 vK (gV v22 true (some a2)) fun v23 =>
 vK (gV v22 true (fldV 3 v12)) fun v24 =>
 vK (gV v22 true (ldV h15 v24)) fun v25 =>
 vK (gV v22 true (binV .i .geq v23 v25)) fun v26 =>
 vK (pickV v22 v26 (.bool false)) fun v27 =>
 vK (gV v27 true (some a2)) fun v28 =>
 vK (gV v27 true (fldV 4 v12)) fun v29 =>
 vK (gV v27 true (ldV h15 v29)) fun v30 =>
 vK (gV v27 true (binV .i .lss v28 v30)) fun v31 =>
 vK (pickV v27 v31 (.bool false)) fun v32 =>
 iteK v32 (
 vK (binV .i .add (ix x5 0) (.int .i64 1)) fun v33 =>
 vK (binV .i .add (ix x5 1) (.int .i64 1)) fun v34 =>
 again8 [v33, v34] h15) (
 vK (binV .i .add (ix x5 1) (.int .i64 1)) fun v35 =>
 again8 [(ix x5 0), v35] h15)) (
 R (ix x5 0) h7)
noncomputable def an_ledger_Ledger_Written : Ann := (.s .z (.s .z (.s (.s .z (.l 4398046478976 [7, 15] (.s .z (.s (.s .z .z) (.s (.s .z (.s .z (.s .z .z))) .z))))) (.s .z .z))))
theorem oc_ledger_Ledger_Written : okCode Try.f57.ntmps ((Try.f57.body).getD .skip) an_ledger_Ledger_Written = true := by kernel_rfl
theorem eq_ledger_Ledger_Written (a0 a1 a2 : Value) (h : Heap) (R : Value → Heap → Prop) : sh_ledger_Ledger_Written a0 a1 a2 h R = cFunc Try.prog ((Try.f57.body).getD .skip) an_ledger_Ledger_Written Try.f57.results.toList #[a0, a1, a2].toList h R := by kernel_rfl
theorem ok_ledger_Ledger_Written {a0 a1 a2 : Value} {h : Heap} {R : Value → Heap → Prop} (H : sh_ledger_Ledger_Written a0 a1 a2 h R) : FCall Try.prog F_ledger_Ledger_Written #[a0, a1, a2] h R :=
  fcall_of (by kernel_rfl) (fn := Try.f57) (c := (Try.f57.body).getD .skip) (an := an_ledger_Ledger_Written) (by kernel_rfl) (by kernel_rfl) (by kernel_rfl) oc_ledger_Ledger_Written (by kernel_rfl) (Eq.mp (eq_ledger_Ledger_Written a0 a1 a2 h R) H)

/-! ### smalto|ledger.meets: function 58 -/
def sh_ledger_meets (a0 a1 : Value) (h : Heap) (R : Value → Heap → Prop) : Prop :=
 newK (Value.cells a0) 25 h fun v1 h2 =>
 newK (Value.cells a1) 25 h2 fun v3 h4 =>
 vK (fldV 2 v1) fun v5 =>
 vK (ldV h4 v5) fun v6 =>
 vK (fldV 2 v3) fun v7 =>
 vK (ldV h4 v7) fun v8 =>
 vK (binV .i .eql v6 v8) fun v9 =>
 vK (gV v9 true (fldV 3 v1)) fun v10 =>
 vK (gV v9 true (ldV h4 v10)) fun v11 =>
 vK (gV v9 true (fldV 3 v3)) fun v12 =>
 vK (gV v9 true (ldV h4 v12)) fun v13 =>
 vK (gV v9 true (maxV v11 v13)) fun v14 =>
 vK (gV v9 true (fldV 4 v1)) fun v15 =>
 vK (gV v9 true (ldV h4 v15)) fun v16 =>
 vK (gV v9 true (fldV 4 v3)) fun v17 =>
 vK (gV v9 true (ldV h4 v17)) fun v18 =>
 vK (gV v9 true (minV v16 v18)) fun v19 =>
 vK (gV v9 true (binV .i .lss v14 v19)) fun v20 =>
 vK (pickV v9 v20 (.bool false)) fun v21 =>
 R v21 h4
noncomputable def an_ledger_meets : Ann := (.s .z (.s .z .z))
theorem oc_ledger_meets : okCode Try.f58.ntmps ((Try.f58.body).getD .skip) an_ledger_meets = true := by kernel_rfl
theorem eq_ledger_meets (a0 a1 : Value) (h : Heap) (R : Value → Heap → Prop) : sh_ledger_meets a0 a1 h R = cFunc Try.prog ((Try.f58.body).getD .skip) an_ledger_meets Try.f58.results.toList #[a0, a1].toList h R := by kernel_rfl
theorem ok_ledger_meets {a0 a1 : Value} {h : Heap} {R : Value → Heap → Prop} (H : sh_ledger_meets a0 a1 h R) : FCall Try.prog F_ledger_meets #[a0, a1] h R :=
  fcall_of (by kernel_rfl) (fn := Try.f58) (c := (Try.f58.body).getD .skip) (an := an_ledger_meets) (by kernel_rfl) (by kernel_rfl) (by kernel_rfl) oc_ledger_meets (by kernel_rfl) (Eq.mp (eq_ledger_meets a0 a1 h R) H)

/-! ### smalto|ledger.may: function 59 -/
def sh_ledger_may (a0 : Value) (h : Heap) (R : Value → Heap → Prop) : Prop :=
 newK (Value.cells a0) 25 h fun v1 h2 =>
 vK (fldV 0 v1) fun v3 =>
 vK (ldV h2 v3) fun v4 =>
 vK (binV .i .geq v4 (.int .i64 0)) fun v5 =>
 vK (gV v5 true (fldV 2 v1)) fun v6 =>
 vK (gV v5 true (ldV h2 v6)) fun v7 =>
 vK (gV v5 true (binV .i .geq v7 (.int .i64 0))) fun v8 =>
 vK (pickV v5 v8 (.bool false)) fun v9 =>
 vK (gV v9 true (fldV 3 v1)) fun v10 =>
 vK (gV v9 true (ldV h2 v10)) fun v11 =>
 vK (gV v9 true (binV .i .geq v11 (.int .i64 0))) fun v12 =>
 vK (pickV v9 v12 (.bool false)) fun v13 =>
 vK (gV v13 true (fldV 3 v1)) fun v14 =>
 vK (gV v13 true (ldV h2 v14)) fun v15 =>
 vK (gV v13 true (fldV 4 v1)) fun v16 =>
 vK (gV v13 true (ldV h2 v16)) fun v17 =>
 vK (gV v13 true (binV .i .lss v15 v17)) fun v18 =>
 vK (pickV v13 v18 (.bool false)) fun v19 =>
 R v19 h2
noncomputable def an_ledger_may : Ann := (.s .z (.s .z .z))
theorem oc_ledger_may : okCode Try.f59.ntmps ((Try.f59.body).getD .skip) an_ledger_may = true := by kernel_rfl
theorem eq_ledger_may (a0 : Value) (h : Heap) (R : Value → Heap → Prop) : sh_ledger_may a0 h R = cFunc Try.prog ((Try.f59.body).getD .skip) an_ledger_may Try.f59.results.toList #[a0].toList h R := by kernel_rfl
theorem ok_ledger_may {a0 : Value} {h : Heap} {R : Value → Heap → Prop} (H : sh_ledger_may a0 h R) : FCall Try.prog F_ledger_may #[a0] h R :=
  fcall_of (by kernel_rfl) (fn := Try.f59) (c := (Try.f59.body).getD .skip) (an := an_ledger_may) (by kernel_rfl) (by kernel_rfl) (by kernel_rfl) oc_ledger_may (by kernel_rfl) (Eq.mp (eq_ledger_may a0 h R) H)

/-! ### smalto|ledger.apart: function 60 -/
def sh_ledger_apart (a0 : Value) (h : Heap) (R : Value → Heap → Prop) : Prop :=
 newK (Value.cells a0) 25 h fun v1 h2 =>
 newK #[(.int .i64 0), (.slice none 0 0), (.int .i64 0), (.int .i64 0), (.int .i64 0), (.bool false)] 25 h2 fun v3 h4 =>
 vK (fldV 1 v1) fun v5 =>
 vK (ldV h4 v5) fun v6 =>
 FCall Try.prog F_slices_Clone_clock_Stamp_int #[v6] h4 fun v7 h8 =>
 vK (fldV 1 v1) fun v9 =>
 stK 1 v9 v7 h8 fun v10 h11 =>
 vK (ldsV 6 h11 v1) fun v12 =>
 stK 6 v3 v12 h11 fun v13 h14 =>
 vK (ldsV 6 h14 v3) fun v15 =>
 R v15 h14
noncomputable def an_ledger_apart : Ann := (.s .z (.s .z (.s .z .z)))
theorem oc_ledger_apart : okCode Try.f60.ntmps ((Try.f60.body).getD .skip) an_ledger_apart = true := by kernel_rfl
theorem eq_ledger_apart (a0 : Value) (h : Heap) (R : Value → Heap → Prop) : sh_ledger_apart a0 h R = cFunc Try.prog ((Try.f60.body).getD .skip) an_ledger_apart Try.f60.results.toList #[a0].toList h R := by kernel_rfl
theorem ok_ledger_apart {a0 : Value} {h : Heap} {R : Value → Heap → Prop} (H : sh_ledger_apart a0 h R) : FCall Try.prog F_ledger_apart #[a0] h R :=
  fcall_of (by kernel_rfl) (fn := Try.f60) (c := (Try.f60.body).getD .skip) (an := an_ledger_apart) (by kernel_rfl) (by kernel_rfl) (by kernel_rfl) oc_ledger_apart (by kernel_rfl) (Eq.mp (eq_ledger_apart a0 h R) H)

/-! ### (*smalto|ring.Ring).Has: function 61 -/
def sh_ring_Ring_Has (a0 a1 : Value) (h : Heap) (R : Value → Heap → Prop) : Prop :=
 vK (nilV a0) fun v1 =>
 vK (fldV 2 v1) fun v2 =>
 vK (ldV h v2) fun v3 =>
 vK (lookV (.int .i64) (.slice none 0 0) true h v3 a1) fun v4 =>
 vK (extV v4 0) fun v5 =>
 vK (extV v4 1) fun v6 =>
 R v6 h
noncomputable def an_ring_Ring_Has : Ann := (.s .z (.s .z (.s .z .z)))
theorem oc_ring_Ring_Has : okCode Try.f61.ntmps ((Try.f61.body).getD .skip) an_ring_Ring_Has = true := by kernel_rfl
theorem eq_ring_Ring_Has (a0 a1 : Value) (h : Heap) (R : Value → Heap → Prop) : sh_ring_Ring_Has a0 a1 h R = cFunc Try.prog ((Try.f61.body).getD .skip) an_ring_Ring_Has Try.f61.results.toList #[a0, a1].toList h R := by kernel_rfl
theorem ok_ring_Ring_Has {a0 a1 : Value} {h : Heap} {R : Value → Heap → Prop} (H : sh_ring_Ring_Has a0 a1 h R) : FCall Try.prog F_ring_Ring_Has #[a0, a1] h R :=
  fcall_of (by kernel_rfl) (fn := Try.f61) (c := (Try.f61.body).getD .skip) (an := an_ring_Ring_Has) (by kernel_rfl) (by kernel_rfl) (by kernel_rfl) oc_ring_Ring_Has (by kernel_rfl) (Eq.mp (eq_ring_Ring_Has a0 a1 h R) H)

/-! ### (*smalto|ring.Ring).drop: function 62 -/
def sh_ring_Ring_drop (a0 a1 : Value) (h : Heap) (R : Value → Heap → Prop) : Prop :=
 drawK h fun S =>
 vK (nilV a0) fun v1 =>
 vK (fldV 3 v1) fun v2 =>
 qK S (fun h => ldV h v2) fun v3 =>
 vK (nilV a0) fun v4 =>
 vK (fldV 2 v4) fun v5 =>
 qK S (fun h => ldV h v5) fun v6 =>
 qK S (fun h => lookV (.int .i64) (.slice none 0 0) false h v6 a1) fun v7 =>
 rowK #[(.slice none 0 0)] 51 1 [(0, 1, v7)] h fun v8 h9 =>
 S h9 ∧ (appK (.slice none 0 0) 51 1 24 v3 v8 h9 fun v10 h11 =>
 S h11 ∧ (vK (nilV a0) fun v12 =>
 vK (fldV 3 v12) fun v13 =>
 stK 1 v13 v10 h11 fun v14 h15 =>
 vK (nilV a0) fun v16 =>
 vK (fldV 2 v16) fun v17 =>
 vK (ldV h15 v17) fun v18 =>
 mapDelK (.int .i64) v18 a1 h15 fun v19 h20 =>
 R (.tuple #[]) h20))
noncomputable def an_ring_Ring_drop : Ann := (.s (.d [(0, .r), (1, .r), (2, .r), (3, .r), (4, .r), (5, .r), (6, .r), (7, .r), (8, .r), (9, .r), (10, .r), (11, .e), (12, .e), (13, .r), (14, .r), (15, .n)]) .z)
theorem oc_ring_Ring_drop : okCode Try.f62.ntmps ((Try.f62.body).getD .skip) an_ring_Ring_drop = true := by kernel_rfl
theorem eq_ring_Ring_drop (a0 a1 : Value) (h : Heap) (R : Value → Heap → Prop) : sh_ring_Ring_drop a0 a1 h R = cFunc Try.prog ((Try.f62.body).getD .skip) an_ring_Ring_drop Try.f62.results.toList #[a0, a1].toList h R := by kernel_rfl
theorem ok_ring_Ring_drop {a0 a1 : Value} {h : Heap} {R : Value → Heap → Prop} (H : sh_ring_Ring_drop a0 a1 h R) : FCall Try.prog F_ring_Ring_drop #[a0, a1] h R :=
  fcall_of (by kernel_rfl) (fn := Try.f62) (c := (Try.f62.body).getD .skip) (an := an_ring_Ring_drop) (by kernel_rfl) (by kernel_rfl) (by kernel_rfl) oc_ring_Ring_drop (by kernel_rfl) (Eq.mp (eq_ring_Ring_drop a0 a1 h R) H)

/-! ### (*smalto|ring.Ring).space: function 63 -/
def sh_ring_Ring_space (a0 : Value) (h : Heap) (R : Value → Heap → Prop) : Prop :=
 vK (nilV a0) fun v1 =>
 vK (fldV 3 v1) fun v2 =>
 vK (ldV h v2) fun v3 =>
 vK (lenslV v3) fun v4 =>
 vK (binV .i .gtr v4 (.int .i64 0)) fun v5 =>
 iteK v5 (
 vK (nilV a0) fun v6 =>
 vK (fldV 3 v6) fun v7 =>
 vK (ldV h v7) fun v8 =>
 vK (binV .i .sub v4 (.int .i64 1)) fun v9 =>
 vK (idxV 1 v8 v9) fun v10 =>
 vK (ldV h v10) fun v11 =>
 vK (nilV a0) fun v12 =>
 vK (fldV 3 v12) fun v13 =>
 vK (ldV h v13) fun v14 =>
 vK (binV .i .sub v4 (.int .i64 1)) fun v15 =>
 vK (slcV 1 v14 none (some v15)) fun v16 =>
 vK (nilV a0) fun v17 =>
 vK (fldV 3 v17) fun v18 =>
 stK 1 v18 v16 h fun v19 h20 =>
 R v11 h20) (
 vK (nilV a0) fun v21 =>
 vK (fldV 1 v21) fun v22 =>
 vK (ldV h v22) fun v23 =>
 mkK (.int .i64 0) 2 1 8 v23 v23 h fun v24 h25 =>
 R v24 h25)
noncomputable def an_ring_Ring_space : Ann := (.s .z (.s (.s .z (.s .z (.s (.s .z (.s .z (.s .z .z))) .z))) (.s .z .z)))
theorem oc_ring_Ring_space : okCode Try.f63.ntmps ((Try.f63.body).getD .skip) an_ring_Ring_space = true := by kernel_rfl
theorem eq_ring_Ring_space (a0 : Value) (h : Heap) (R : Value → Heap → Prop) : sh_ring_Ring_space a0 h R = cFunc Try.prog ((Try.f63.body).getD .skip) an_ring_Ring_space Try.f63.results.toList #[a0].toList h R := by kernel_rfl
theorem ok_ring_Ring_space {a0 : Value} {h : Heap} {R : Value → Heap → Prop} (H : sh_ring_Ring_space a0 h R) : FCall Try.prog F_ring_Ring_space #[a0] h R :=
  fcall_of (by kernel_rfl) (fn := Try.f63) (c := (Try.f63.body).getD .skip) (an := an_ring_Ring_space) (by kernel_rfl) (by kernel_rfl) (by kernel_rfl) oc_ring_Ring_space (by kernel_rfl) (Eq.mp (eq_ring_Ring_space a0 h R) H)

/-! ### slices.Min[[]int64,int64]: function 64 -/
def sh_slices_Min_sl_int64_int64 (a0 : Value) (h : Heap) (R : Value → Heap → Prop) : Prop :=
 joinK (fun J1 =>
 vK (lenslV a0) fun v5 =>
 vK (binV .i .lss v5 (.int .i64 1)) fun v6 =>
 iteK v6 (
 failK h fun v7 h8 =>
 J1 [] h8) (
 J1 [] h))
 fun x2 j3 h4 =>
 vK (idxV 1 a0 (.int .i64 0)) fun v9 =>
 vK (ldV h4 v9) fun v10 =>
 loopK [v10, (.int .i64 1)] h4 fun x11 j12 h13 again14 =>
 vK (lenslV a0) fun v15 =>
 vK (binV .i .lss (ix x11 1) v15) fun v16 =>
 iteK v16 (
 vK (idxV 1 a0 (ix x11 1)) fun v17 =>
 vK (ldV h13 v17) fun v18 =>
 vK (minV (ix x11 0) v18) fun v19 =>
 vK (binV .i .add (ix x11 1) (.int .i64 1)) fun v20 =>
 again14 [v19, v20] h13) (
 R (ix x11 0) h13)
noncomputable def an_slices_Min_sl_int64_int64 : Ann := (.s .z (.j 480 [] (.s .z (.s .z .z)) (.s .z (.s (.s .z (.l 16773144 [3, 4] (.s (.s .z (.s .z .z)) (.s .z .z)))) (.s .z .z)))))
theorem oc_slices_Min_sl_int64_int64 : okCode Try.f64.ntmps ((Try.f64.body).getD .skip) an_slices_Min_sl_int64_int64 = true := by kernel_rfl
theorem eq_slices_Min_sl_int64_int64 (a0 : Value) (h : Heap) (R : Value → Heap → Prop) : sh_slices_Min_sl_int64_int64 a0 h R = cFunc Try.prog ((Try.f64.body).getD .skip) an_slices_Min_sl_int64_int64 Try.f64.results.toList #[a0].toList h R := by kernel_rfl
theorem ok_slices_Min_sl_int64_int64 {a0 : Value} {h : Heap} {R : Value → Heap → Prop} (H : sh_slices_Min_sl_int64_int64 a0 h R) : FCall Try.prog F_slices_Min_sl_int64_int64 #[a0] h R :=
  fcall_of (by kernel_rfl) (fn := Try.f64) (c := (Try.f64.body).getD .skip) (an := an_slices_Min_sl_int64_int64) (by kernel_rfl) (by kernel_rfl) (by kernel_rfl) oc_slices_Min_sl_int64_int64 (by kernel_rfl) (Eq.mp (eq_slices_Min_sl_int64_int64 a0 h R) H)

/-! ### slices.Collect[int64]: function 65 -/
def sh_slices_Collect_int64 (a0 : Value) (h : Heap) (R : Value → Heap → Prop) : Prop :=
 FCall Try.prog F_slices_AppendSeq_sl_int64_int64 #[(.slice none 0 0), a0] h fun v1 h2 =>
 R v1 h2
noncomputable def an_slices_Collect_int64 : Ann := (.s .z (.s .z .z))
theorem oc_slices_Collect_int64 : okCode Try.f65.ntmps ((Try.f65.body).getD .skip) an_slices_Collect_int64 = true := by kernel_rfl
theorem eq_slices_Collect_int64 (a0 : Value) (h : Heap) (R : Value → Heap → Prop) : sh_slices_Collect_int64 a0 h R = cFunc Try.prog ((Try.f65.body).getD .skip) an_slices_Collect_int64 Try.f65.results.toList #[a0].toList h R := by kernel_rfl
theorem ok_slices_Collect_int64 {a0 : Value} {h : Heap} {R : Value → Heap → Prop} (H : sh_slices_Collect_int64 a0 h R) : FCall Try.prog F_slices_Collect_int64 #[a0] h R :=
  fcall_of (by kernel_rfl) (fn := Try.f65) (c := (Try.f65.body).getD .skip) (an := an_slices_Collect_int64) (by kernel_rfl) (by kernel_rfl) (by kernel_rfl) oc_slices_Collect_int64 (by kernel_rfl) (Eq.mp (eq_slices_Collect_int64 a0 h R) H)

/-! ### maps.Keys[map[int64][]int64,int64,[]int64]: function 66 -/
def sh_maps_Keys_map_int64_sl_int64_int64_sl_int64 (a0 : Value) (h : Heap) (R : Value → Heap → Prop) : Prop :=
 newK (Value.cells a0) 92 h fun v1 h2 =>
 R (.func (.func F_maps_Keys_map_int64_sl_int64_int64_sl_int64__c1) #[] #[v1]) h2
noncomputable def an_maps_Keys_map_int64_sl_int64_int64_sl_int64 : Ann := (.s .z (.s .z .z))
theorem oc_maps_Keys_map_int64_sl_int64_int64_sl_int64 : okCode Try.f66.ntmps ((Try.f66.body).getD .skip) an_maps_Keys_map_int64_sl_int64_int64_sl_int64 = true := by kernel_rfl
theorem eq_maps_Keys_map_int64_sl_int64_int64_sl_int64 (a0 : Value) (h : Heap) (R : Value → Heap → Prop) : sh_maps_Keys_map_int64_sl_int64_int64_sl_int64 a0 h R = cFunc Try.prog ((Try.f66.body).getD .skip) an_maps_Keys_map_int64_sl_int64_int64_sl_int64 Try.f66.results.toList #[a0].toList h R := by kernel_rfl
theorem ok_maps_Keys_map_int64_sl_int64_int64_sl_int64 {a0 : Value} {h : Heap} {R : Value → Heap → Prop} (H : sh_maps_Keys_map_int64_sl_int64_int64_sl_int64 a0 h R) : FCall Try.prog F_maps_Keys_map_int64_sl_int64_int64_sl_int64 #[a0] h R :=
  fcall_of (by kernel_rfl) (fn := Try.f66) (c := (Try.f66.body).getD .skip) (an := an_maps_Keys_map_int64_sl_int64_int64_sl_int64) (by kernel_rfl) (by kernel_rfl) (by kernel_rfl) oc_maps_Keys_map_int64_sl_int64_int64_sl_int64 (by kernel_rfl) (Eq.mp (eq_maps_Keys_map_int64_sl_int64_int64_sl_int64 a0 h R) H)

/-! ### smalto|clock.below: function 67 -/
def sh_clock_below (a0 a1 : Value) (h : Heap) (R : Value → Heap → Prop) : Prop :=
 vK (lenslV a0) fun v1 =>
 vK (lenslV a1) fun v2 =>
 vK (binV .i .neq v1 v2) fun v3 =>
 iteK v3 (
 R (.bool false) h) (
 vK (lenslV a0) fun v4 =>
 loopK [(.int .i64 0)] h fun x5 j6 h7 again8 =>
 vK (binV .i .lss (ix x5 0) v4) fun v9 =>
 iteK v9 (
 vK (idxV 1 a0 (ix x5 0)) fun v10 =>
 vK (ldV h7 v10) fun v11 =>
 vK (idxV 1 a1 (ix x5 0)) fun v12 =>
 vK (ldV h7 v12) fun v13 =>
 vK (binV .i .gtr v11 v13) fun v14 =>
 iteK v14 (
 R (.bool false) h7) (
 vK (binV .i .add (ix x5 0) (.int .i64 1)) fun v15 =>
 again8 [v15] h7)) (
 R (.bool true) h7))
noncomputable def an_clock_below : Ann := (.s .z (.s (.s .z (.s (.s .z .z) .z)) (.s (.s .z (.l 67100720 [13] (.s .z (.s (.s .z .z) (.s (.s .z (.s .z (.s (.s .z .z) .z))) .z))))) (.s .z .z))))
theorem oc_clock_below : okCode Try.f67.ntmps ((Try.f67.body).getD .skip) an_clock_below = true := by kernel_rfl
theorem eq_clock_below (a0 a1 : Value) (h : Heap) (R : Value → Heap → Prop) : sh_clock_below a0 a1 h R = cFunc Try.prog ((Try.f67.body).getD .skip) an_clock_below Try.f67.results.toList #[a0, a1].toList h R := by kernel_rfl
theorem ok_clock_below {a0 a1 : Value} {h : Heap} {R : Value → Heap → Prop} (H : sh_clock_below a0 a1 h R) : FCall Try.prog F_clock_below #[a0, a1] h R :=
  fcall_of (by kernel_rfl) (fn := Try.f67) (c := (Try.f67.body).getD .skip) (an := an_clock_below) (by kernel_rfl) (by kernel_rfl) (by kernel_rfl) oc_clock_below (by kernel_rfl) (Eq.mp (eq_clock_below a0 a1 h R) H)

/-! ### slices.Equal[smalto|clock.Stamp,int]: function 68 -/
def sh_slices_Equal_clock_Stamp_int (a0 a1 : Value) (h : Heap) (R : Value → Heap → Prop) : Prop :=
 vK (lenslV a0) fun v1 =>
 vK (lenslV a1) fun v2 =>
 vK (binV .i .neq v1 v2) fun v3 =>
 iteK v3 (
 R (.bool false) h) (
 vK (lenslV a0) fun v4 =>
 loopK [(.int .i64 0)] h fun x5 j6 h7 again8 =>
 vK (binV .i .lss (ix x5 0) v4) fun v9 =>
 iteK v9 (
 vK (idxV 1 a0 (ix x5 0)) fun v10 =>
 vK (ldV h7 v10) fun v11 =>
 vK (idxV 1 a1 (ix x5 0)) fun v12 =>
 vK (ldV h7 v12) fun v13 =>
 vK (binV .i .neq v11 v13) fun v14 =>
 iteK v14 (
 R (.bool false) h7) (
 vK (binV .i .add (ix x5 0) (.int .i64 1)) fun v15 =>
 again8 [v15] h7)) (
 R (.bool true) h7))
noncomputable def an_slices_Equal_clock_Stamp_int : Ann := (.s .z (.s (.s .z (.s (.s .z .z) .z)) (.s (.s .z (.l 67100720 [13] (.s .z (.s (.s .z .z) (.s (.s .z (.s .z (.s (.s .z .z) .z))) .z))))) (.s .z .z))))
theorem oc_slices_Equal_clock_Stamp_int : okCode Try.f68.ntmps ((Try.f68.body).getD .skip) an_slices_Equal_clock_Stamp_int = true := by kernel_rfl
theorem eq_slices_Equal_clock_Stamp_int (a0 a1 : Value) (h : Heap) (R : Value → Heap → Prop) : sh_slices_Equal_clock_Stamp_int a0 a1 h R = cFunc Try.prog ((Try.f68.body).getD .skip) an_slices_Equal_clock_Stamp_int Try.f68.results.toList #[a0, a1].toList h R := by kernel_rfl
theorem ok_slices_Equal_clock_Stamp_int {a0 a1 : Value} {h : Heap} {R : Value → Heap → Prop} (H : sh_slices_Equal_clock_Stamp_int a0 a1 h R) : FCall Try.prog F_slices_Equal_clock_Stamp_int #[a0, a1] h R :=
  fcall_of (by kernel_rfl) (fn := Try.f68) (c := (Try.f68.body).getD .skip) (an := an_slices_Equal_clock_Stamp_int) (by kernel_rfl) (by kernel_rfl) (by kernel_rfl) oc_slices_Equal_clock_Stamp_int (by kernel_rfl) (Eq.mp (eq_slices_Equal_clock_Stamp_int a0 a1 h R) H)

/-! ### smalto|smaltoref19.at: function 69 -/
def sh_ref19_at (a0 a1 : Value) (h : Heap) (R : Value → Heap → Prop) : Prop :=
 vK (lenslV a0) fun v1 =>
 vK (binV .i .lss a1 v1) fun v2 =>
 iteK v2 (
 vK (idxV 1 a0 a1) fun v3 =>
 vK (ldV h v3) fun v4 =>
 R v4 h) (
 R (.int .i64 0) h)
noncomputable def an_ref19_at : Ann := (.s .z (.s (.s .z (.s (.s .z .z) .z)) (.s .z .z)))
theorem oc_ref19_at : okCode Try.f69.ntmps ((Try.f69.body).getD .skip) an_ref19_at = true := by kernel_rfl
theorem eq_ref19_at (a0 a1 : Value) (h : Heap) (R : Value → Heap → Prop) : sh_ref19_at a0 a1 h R = cFunc Try.prog ((Try.f69.body).getD .skip) an_ref19_at Try.f69.results.toList #[a0, a1].toList h R := by kernel_rfl
theorem ok_ref19_at {a0 a1 : Value} {h : Heap} {R : Value → Heap → Prop} (H : sh_ref19_at a0 a1 h R) : FCall Try.prog F_ref19_at #[a0, a1] h R :=
  fcall_of (by kernel_rfl) (fn := Try.f69) (c := (Try.f69.body).getD .skip) (an := an_ref19_at) (by kernel_rfl) (by kernel_rfl) (by kernel_rfl) oc_ref19_at (by kernel_rfl) (Eq.mp (eq_ref19_at a0 a1 h R) H)

/-! ### (*smalto|clock.Clock).in: function 70 -/
def sh_clock_Clock_in (a0 a1 : Value) (h : Heap) (R : Value → Heap → Prop) : Prop :=
 vK (binV .i .geq a1 (.int .i64 0)) fun v1 =>
 vK (gV v1 true (some a1)) fun v2 =>
 vK (gV v1 true (some a0)) fun v3 =>
 vK (gV v1 true (nilV v3)) fun v4 =>
 vK (gV v1 true (fldV 0 v4)) fun v5 =>
 vK (gV v1 true (ldV h v5)) fun v6 =>
 vK (gV v1 true (lenslV v6)) fun v7 =>
 vK (gV v1 true (binV .i .lss v2 v7)) fun v8 =>
 vK (pickV v1 v8 (.bool false)) fun v9 =>
 R v9 h
noncomputable def an_clock_Clock_in : Ann := (.s .z (.s .z .z))
theorem oc_clock_Clock_in : okCode Try.f70.ntmps ((Try.f70.body).getD .skip) an_clock_Clock_in = true := by kernel_rfl
theorem eq_clock_Clock_in (a0 a1 : Value) (h : Heap) (R : Value → Heap → Prop) : sh_clock_Clock_in a0 a1 h R = cFunc Try.prog ((Try.f70.body).getD .skip) an_clock_Clock_in Try.f70.results.toList #[a0, a1].toList h R := by kernel_rfl
theorem ok_clock_Clock_in {a0 a1 : Value} {h : Heap} {R : Value → Heap → Prop} (H : sh_clock_Clock_in a0 a1 h R) : FCall Try.prog F_clock_Clock_in #[a0, a1] h R :=
  fcall_of (by kernel_rfl) (fn := Try.f70) (c := (Try.f70.body).getD .skip) (an := an_clock_Clock_in) (by kernel_rfl) (by kernel_rfl) (by kernel_rfl) oc_clock_Clock_in (by kernel_rfl) (Eq.mp (eq_clock_Clock_in a0 a1 h R) H)

/-! ### slices.Min[smalto|clock.Stamp,int]: function 71 -/
def sh_slices_Min_clock_Stamp_int (a0 : Value) (h : Heap) (R : Value → Heap → Prop) : Prop :=
 joinK (fun J1 =>
 vK (lenslV a0) fun v5 =>
 vK (binV .i .lss v5 (.int .i64 1)) fun v6 =>
 iteK v6 (
 failK h fun v7 h8 =>
 J1 [] h8) (
 J1 [] h))
 fun x2 j3 h4 =>
 vK (idxV 1 a0 (.int .i64 0)) fun v9 =>
 vK (ldV h4 v9) fun v10 =>
 loopK [v10, (.int .i64 1)] h4 fun x11 j12 h13 again14 =>
 vK (lenslV a0) fun v15 =>
 vK (binV .i .lss (ix x11 1) v15) fun v16 =>
 iteK v16 (
 vK (idxV 1 a0 (ix x11 1)) fun v17 =>
 vK (ldV h13 v17) fun v18 =>
 vK (minV (ix x11 0) v18) fun v19 =>
 vK (binV .i .add (ix x11 1) (.int .i64 1)) fun v20 =>
 again14 [v19, v20] h13) (
 R (ix x11 0) h13)
noncomputable def an_slices_Min_clock_Stamp_int : Ann := (.s .z (.j 480 [] (.s .z (.s .z .z)) (.s .z (.s (.s .z (.l 16773144 [3, 4] (.s (.s .z (.s .z .z)) (.s .z .z)))) (.s .z .z)))))
theorem oc_slices_Min_clock_Stamp_int : okCode Try.f71.ntmps ((Try.f71.body).getD .skip) an_slices_Min_clock_Stamp_int = true := by kernel_rfl
theorem eq_slices_Min_clock_Stamp_int (a0 : Value) (h : Heap) (R : Value → Heap → Prop) : sh_slices_Min_clock_Stamp_int a0 h R = cFunc Try.prog ((Try.f71.body).getD .skip) an_slices_Min_clock_Stamp_int Try.f71.results.toList #[a0].toList h R := by kernel_rfl
theorem ok_slices_Min_clock_Stamp_int {a0 : Value} {h : Heap} {R : Value → Heap → Prop} (H : sh_slices_Min_clock_Stamp_int a0 h R) : FCall Try.prog F_slices_Min_clock_Stamp_int #[a0] h R :=
  fcall_of (by kernel_rfl) (fn := Try.f71) (c := (Try.f71.body).getD .skip) (an := an_slices_Min_clock_Stamp_int) (by kernel_rfl) (by kernel_rfl) (by kernel_rfl) oc_slices_Min_clock_Stamp_int (by kernel_rfl) (Eq.mp (eq_slices_Min_clock_Stamp_int a0 h R) H)

/-! ### slices.Clone[smalto|clock.Stamp,int]: function 72 -/
def sh_slices_Clone_clock_Stamp_int (a0 : Value) (h : Heap) (R : Value → Heap → Prop) : Prop :=
 vK (binV .sl .eql a0 (.slice none 0 0)) fun v1 =>
 iteK v1 (
 R (.slice none 0 0) h) (
 rowK #[] 3 0 [] h fun v2 h3 =>
 appK (.int .i64 0) 3 1 8 v2 a0 h3 fun v4 h5 =>
 R v4 h5)
noncomputable def an_slices_Clone_clock_Stamp_int : Ann := (.s .z (.s (.s .z (.s (.s .z .z) .z)) (.s .z .z)))
theorem oc_slices_Clone_clock_Stamp_int : okCode Try.f72.ntmps ((Try.f72.body).getD .skip) an_slices_Clone_clock_Stamp_int = true := by kernel_rfl
theorem eq_slices_Clone_clock_Stamp_int (a0 : Value) (h : Heap) (R : Value → Heap → Prop) : sh_slices_Clone_clock_Stamp_int a0 h R = cFunc Try.prog ((Try.f72.body).getD .skip) an_slices_Clone_clock_Stamp_int Try.f72.results.toList #[a0].toList h R := by kernel_rfl
theorem ok_slices_Clone_clock_Stamp_int {a0 : Value} {h : Heap} {R : Value → Heap → Prop} (H : sh_slices_Clone_clock_Stamp_int a0 h R) : FCall Try.prog F_slices_Clone_clock_Stamp_int #[a0] h R :=
  fcall_of (by kernel_rfl) (fn := Try.f72) (c := (Try.f72.body).getD .skip) (an := an_slices_Clone_clock_Stamp_int) (by kernel_rfl) (by kernel_rfl) (by kernel_rfl) oc_slices_Clone_clock_Stamp_int (by kernel_rfl) (Eq.mp (eq_slices_Clone_clock_Stamp_int a0 h R) H)

/-! ### slices.Clone[[]int64,int64]: function 73 -/
def sh_slices_Clone_sl_int64_int64 (a0 : Value) (h : Heap) (R : Value → Heap → Prop) : Prop :=
 vK (binV .sl .eql a0 (.slice none 0 0)) fun v1 =>
 iteK v1 (
 R (.slice none 0 0) h) (
 rowK #[] 2 0 [] h fun v2 h3 =>
 appK (.int .i64 0) 2 1 8 v2 a0 h3 fun v4 h5 =>
 R v4 h5)
noncomputable def an_slices_Clone_sl_int64_int64 : Ann := (.s .z (.s (.s .z (.s (.s .z .z) .z)) (.s .z .z)))
theorem oc_slices_Clone_sl_int64_int64 : okCode Try.f73.ntmps ((Try.f73.body).getD .skip) an_slices_Clone_sl_int64_int64 = true := by kernel_rfl
theorem eq_slices_Clone_sl_int64_int64 (a0 : Value) (h : Heap) (R : Value → Heap → Prop) : sh_slices_Clone_sl_int64_int64 a0 h R = cFunc Try.prog ((Try.f73.body).getD .skip) an_slices_Clone_sl_int64_int64 Try.f73.results.toList #[a0].toList h R := by kernel_rfl
theorem ok_slices_Clone_sl_int64_int64 {a0 : Value} {h : Heap} {R : Value → Heap → Prop} (H : sh_slices_Clone_sl_int64_int64 a0 h R) : FCall Try.prog F_slices_Clone_sl_int64_int64 #[a0] h R :=
  fcall_of (by kernel_rfl) (fn := Try.f73) (c := (Try.f73.body).getD .skip) (an := an_slices_Clone_sl_int64_int64) (by kernel_rfl) (by kernel_rfl) (by kernel_rfl) oc_slices_Clone_sl_int64_int64 (by kernel_rfl) (Eq.mp (eq_slices_Clone_sl_int64_int64 a0 h R) H)

/-! ### slices.Sorted[int]: function 74 -/
def sh_slices_Sorted_int (a0 : Value) (h : Heap) (R : Value → Heap → Prop) : Prop :=
 FCall Try.prog F_slices_Collect_int #[a0] h fun v1 h2 =>
 FCall Try.prog F_slices_Sort_sl_int_int #[v1] h2 fun v3 h4 =>
 R v1 h4
noncomputable def an_slices_Sorted_int : Ann := (.s .z (.s .z (.s .z (.s .z .z))))
theorem oc_slices_Sorted_int : okCode Try.f74.ntmps ((Try.f74.body).getD .skip) an_slices_Sorted_int = true := by kernel_rfl
theorem eq_slices_Sorted_int (a0 : Value) (h : Heap) (R : Value → Heap → Prop) : sh_slices_Sorted_int a0 h R = cFunc Try.prog ((Try.f74.body).getD .skip) an_slices_Sorted_int Try.f74.results.toList #[a0].toList h R := by kernel_rfl
theorem ok_slices_Sorted_int {a0 : Value} {h : Heap} {R : Value → Heap → Prop} (H : sh_slices_Sorted_int a0 h R) : FCall Try.prog F_slices_Sorted_int #[a0] h R :=
  fcall_of (by kernel_rfl) (fn := Try.f74) (c := (Try.f74.body).getD .skip) (an := an_slices_Sorted_int) (by kernel_rfl) (by kernel_rfl) (by kernel_rfl) oc_slices_Sorted_int (by kernel_rfl) (Eq.mp (eq_slices_Sorted_int a0 h R) H)

/-! ### maps.Keys[map[int]bool,int,bool]: function 75 -/
def sh_maps_Keys_map_int_bool_int_bool (a0 : Value) (h : Heap) (R : Value → Heap → Prop) : Prop :=
 newK (Value.cells a0) 113 h fun v1 h2 =>
 R (.func (.func F_maps_Keys_map_int_bool_int_bool__c1) #[] #[v1]) h2
noncomputable def an_maps_Keys_map_int_bool_int_bool : Ann := (.s .z (.s .z .z))
theorem oc_maps_Keys_map_int_bool_int_bool : okCode Try.f75.ntmps ((Try.f75.body).getD .skip) an_maps_Keys_map_int_bool_int_bool = true := by kernel_rfl
theorem eq_maps_Keys_map_int_bool_int_bool (a0 : Value) (h : Heap) (R : Value → Heap → Prop) : sh_maps_Keys_map_int_bool_int_bool a0 h R = cFunc Try.prog ((Try.f75.body).getD .skip) an_maps_Keys_map_int_bool_int_bool Try.f75.results.toList #[a0].toList h R := by kernel_rfl
theorem ok_maps_Keys_map_int_bool_int_bool {a0 : Value} {h : Heap} {R : Value → Heap → Prop} (H : sh_maps_Keys_map_int_bool_int_bool a0 h R) : FCall Try.prog F_maps_Keys_map_int_bool_int_bool #[a0] h R :=
  fcall_of (by kernel_rfl) (fn := Try.f75) (c := (Try.f75.body).getD .skip) (an := an_maps_Keys_map_int_bool_int_bool) (by kernel_rfl) (by kernel_rfl) (by kernel_rfl) oc_maps_Keys_map_int_bool_int_bool (by kernel_rfl) (Eq.mp (eq_maps_Keys_map_int_bool_int_bool a0 h R) H)

/-! ### maps.Keys[map[int64][]int64,int64,[]int64]$1: function 77 -/
def sh_maps_Keys_map_int64_sl_int64_int64_sl_int64__c1 (a0 a1 : Value) (h : Heap) (R : Value → Heap → Prop) : Prop :=
 vK (ldV h a1) fun v1 =>
 rangeMapK v1 h fun v2 h3 =>
 loopK [] h3 fun x4 j5 h6 again7 =>
 nextMapK v2 h6 fun v8 h9 =>
 vK (extV v8 0) fun v10 =>
 iteK v10 (
 entryK v2 h9 fun v11 h12 =>
 vK (extV v11 0) fun v13 =>
 clK Try.prog a0 #[v13] h12 fun v14 h15 =>
 vK (unV .not v14) fun v16 =>
 iteK v16 (
 R (.tuple #[]) h15) (
 again7 [] h15)) (
 R (.tuple #[]) h9)
noncomputable def an_maps_Keys_map_int64_sl_int64_int64_sl_int64__c1 : Ann := (.s .z (.l 16328 [] (.s .z (.s (.s .z .z) (.s .z (.s .z (.s .z .z)))))))
theorem oc_maps_Keys_map_int64_sl_int64_int64_sl_int64__c1 : okCode Try.f77.ntmps ((Try.f77.body).getD .skip) an_maps_Keys_map_int64_sl_int64_int64_sl_int64__c1 = true := by kernel_rfl
theorem eq_maps_Keys_map_int64_sl_int64_int64_sl_int64__c1 (a0 a1 : Value) (h : Heap) (R : Value → Heap → Prop) : sh_maps_Keys_map_int64_sl_int64_int64_sl_int64__c1 a0 a1 h R = cFunc Try.prog ((Try.f77.body).getD .skip) an_maps_Keys_map_int64_sl_int64_int64_sl_int64__c1 Try.f77.results.toList #[a0, a1].toList h R := by kernel_rfl
theorem ok_maps_Keys_map_int64_sl_int64_int64_sl_int64__c1 {a0 a1 : Value} {h : Heap} {R : Value → Heap → Prop} (H : sh_maps_Keys_map_int64_sl_int64_int64_sl_int64__c1 a0 a1 h R) : FCall Try.prog F_maps_Keys_map_int64_sl_int64_int64_sl_int64__c1 #[a0, a1] h R :=
  fcall_of (by kernel_rfl) (fn := Try.f77) (c := (Try.f77.body).getD .skip) (an := an_maps_Keys_map_int64_sl_int64_int64_sl_int64__c1) (by kernel_rfl) (by kernel_rfl) (by kernel_rfl) oc_maps_Keys_map_int64_sl_int64_int64_sl_int64__c1 (by kernel_rfl) (Eq.mp (eq_maps_Keys_map_int64_sl_int64_int64_sl_int64__c1 a0 a1 h R) H)

/-! ### slices.Collect[int]: function 78 -/
def sh_slices_Collect_int (a0 : Value) (h : Heap) (R : Value → Heap → Prop) : Prop :=
 FCall Try.prog F_slices_AppendSeq_sl_int_int #[(.slice none 0 0), a0] h fun v1 h2 =>
 R v1 h2
noncomputable def an_slices_Collect_int : Ann := (.s .z (.s .z .z))
theorem oc_slices_Collect_int : okCode Try.f78.ntmps ((Try.f78.body).getD .skip) an_slices_Collect_int = true := by kernel_rfl
theorem eq_slices_Collect_int (a0 : Value) (h : Heap) (R : Value → Heap → Prop) : sh_slices_Collect_int a0 h R = cFunc Try.prog ((Try.f78.body).getD .skip) an_slices_Collect_int Try.f78.results.toList #[a0].toList h R := by kernel_rfl
theorem ok_slices_Collect_int {a0 : Value} {h : Heap} {R : Value → Heap → Prop} (H : sh_slices_Collect_int a0 h R) : FCall Try.prog F_slices_Collect_int #[a0] h R :=
  fcall_of (by kernel_rfl) (fn := Try.f78) (c := (Try.f78.body).getD .skip) (an := an_slices_Collect_int) (by kernel_rfl) (by kernel_rfl) (by kernel_rfl) oc_slices_Collect_int (by kernel_rfl) (Eq.mp (eq_slices_Collect_int a0 h R) H)

/-! ### slices.Sort[[]int,int]: function 79 -/
def sh_slices_Sort_sl_int_int (a0 : Value) (h : Heap) (R : Value → Heap → Prop) : Prop :=
 vK (lenslV a0) fun v1 =>
 vK (cviV .u64 v1) fun v2 =>
 FCall Try.prog F_math_bits_Len #[v2] h fun v3 h4 =>
 FCall Try.prog F_slices_pdqsortOrdered_int #[a0, (.int .i64 0), v1, v3] h4 fun v5 h6 =>
 R (.tuple #[]) h6
noncomputable def an_slices_Sort_sl_int_int : Ann := (.s .z .z)
theorem oc_slices_Sort_sl_int_int : okCode Try.f79.ntmps ((Try.f79.body).getD .skip) an_slices_Sort_sl_int_int = true := by kernel_rfl
theorem eq_slices_Sort_sl_int_int (a0 : Value) (h : Heap) (R : Value → Heap → Prop) : sh_slices_Sort_sl_int_int a0 h R = cFunc Try.prog ((Try.f79.body).getD .skip) an_slices_Sort_sl_int_int Try.f79.results.toList #[a0].toList h R := by kernel_rfl
theorem ok_slices_Sort_sl_int_int {a0 : Value} {h : Heap} {R : Value → Heap → Prop} (H : sh_slices_Sort_sl_int_int a0 h R) : FCall Try.prog F_slices_Sort_sl_int_int #[a0] h R :=
  fcall_of (by kernel_rfl) (fn := Try.f79) (c := (Try.f79.body).getD .skip) (an := an_slices_Sort_sl_int_int) (by kernel_rfl) (by kernel_rfl) (by kernel_rfl) oc_slices_Sort_sl_int_int (by kernel_rfl) (Eq.mp (eq_slices_Sort_sl_int_int a0 h R) H)

/-! ### maps.Keys[map[int]bool,int,bool]$1: function 80 -/
def sh_maps_Keys_map_int_bool_int_bool__c1 (a0 a1 : Value) (h : Heap) (R : Value → Heap → Prop) : Prop :=
 vK (ldV h a1) fun v1 =>
 rangeMapK v1 h fun v2 h3 =>
 loopK [] h3 fun x4 j5 h6 again7 =>
 nextMapK v2 h6 fun v8 h9 =>
 vK (extV v8 0) fun v10 =>
 iteK v10 (
 entryK v2 h9 fun v11 h12 =>
 vK (extV v11 0) fun v13 =>
 clK Try.prog a0 #[v13] h12 fun v14 h15 =>
 vK (unV .not v14) fun v16 =>
 iteK v16 (
 R (.tuple #[]) h15) (
 again7 [] h15)) (
 R (.tuple #[]) h9)
noncomputable def an_maps_Keys_map_int_bool_int_bool__c1 : Ann := (.s .z (.l 16328 [] (.s .z (.s (.s .z .z) (.s .z (.s .z (.s .z .z)))))))
theorem oc_maps_Keys_map_int_bool_int_bool__c1 : okCode Try.f80.ntmps ((Try.f80.body).getD .skip) an_maps_Keys_map_int_bool_int_bool__c1 = true := by kernel_rfl
theorem eq_maps_Keys_map_int_bool_int_bool__c1 (a0 a1 : Value) (h : Heap) (R : Value → Heap → Prop) : sh_maps_Keys_map_int_bool_int_bool__c1 a0 a1 h R = cFunc Try.prog ((Try.f80.body).getD .skip) an_maps_Keys_map_int_bool_int_bool__c1 Try.f80.results.toList #[a0, a1].toList h R := by kernel_rfl
theorem ok_maps_Keys_map_int_bool_int_bool__c1 {a0 a1 : Value} {h : Heap} {R : Value → Heap → Prop} (H : sh_maps_Keys_map_int_bool_int_bool__c1 a0 a1 h R) : FCall Try.prog F_maps_Keys_map_int_bool_int_bool__c1 #[a0, a1] h R :=
  fcall_of (by kernel_rfl) (fn := Try.f80) (c := (Try.f80.body).getD .skip) (an := an_maps_Keys_map_int_bool_int_bool__c1) (by kernel_rfl) (by kernel_rfl) (by kernel_rfl) oc_maps_Keys_map_int_bool_int_bool__c1 (by kernel_rfl) (Eq.mp (eq_maps_Keys_map_int_bool_int_bool__c1 a0 a1 h R) H)

/-! ### slices.pdqsortOrdered[int]: function 82 -/
def sh_slices_pdqsortOrdered_int (a0 a1 a2 a3 : Value) (h : Heap) (R : Value → Heap → Prop) : Prop :=
 loopK [a1, a2, a3, (.bool true), (.bool true)] h fun x1 j2 h3 again4 =>
 vK (binV .i .sub (ix x1 1) (ix x1 0)) fun v5 =>
 vK (binV .i .leq v5 (.int .i64 12)) fun v6 =>
 iteK v6 (
 FCall Try.prog F_slices_insertionSortOrdered_int #[a0, (ix x1 0), (ix x1 1)] h3 fun v7 h8 =>
 R (.tuple #[]) h8) (
 vK (binV .i .eql (ix x1 2) (.int .i64 0)) fun v9 =>
 iteK v9 (
 FCall Try.prog F_slices_heapSortOrdered_int #[a0, (ix x1 0), (ix x1 1)] h3 fun v10 h11 =>
 R (.tuple #[]) h11) (
 joinK (fun J12 =>
 vK (unV .not (ix x1 3)) fun v16 =>
 iteK v16 (
 FCall Try.prog F_slices_breakPatternsOrdered_int #[a0, (ix x1 0), (ix x1 1)] h3 fun v17 h18 =>
 vK (binV .i .sub (ix x1 2) (.int .i64 1)) fun v19 =>
 J12 [v19] h18) (
 J12 [(ix x1 2)] h3))
 fun x13 j14 h15 =>
 FCall Try.prog F_slices_choosePivotOrdered_int #[a0, (ix x1 0), (ix x1 1)] h15 fun v20 h21 =>
 vK (extV v20 0) fun v22 =>
 vK (extV v20 1) fun v23 =>
 joinK (fun J24 =>
 vK (binV .i .eql v23 (.int .i64 2)) fun v28 =>
 iteK v28 (
 FCall Try.prog F_slices_reverseRangeOrdered_int #[a0, (ix x1 0), (ix x1 1)] h21 fun v29 h30 =>
 vK (binV .i .sub (ix x1 1) (.int .i64 1)) fun v31 =>
 vK (binV .i .sub v22 (ix x1 0)) fun v32 =>
 vK (binV .i .sub v31 v32) fun v33 =>
 J24 [v33, (.int .i64 1)] h30) (
 J24 [v22, v23] h21))
 fun x25 j26 h27 =>
 joinK (fun J34 =>
 vK (gV (ix x1 3) true (some (ix x1 4))) fun v38 =>
 vK (pickV (ix x1 3) v38 (.bool false)) fun v39 =>
 vK (gV v39 true (some (ix x25 1))) fun v40 =>
 vK (gV v39 true (binV .i .eql v40 (.int .i64 1))) fun v41 =>
 vK (pickV v39 v41 (.bool false)) fun v42 =>
 iteK v42 (
 FCall Try.prog F_slices_partialInsertionSortOrdered_int #[a0, (ix x1 0), (ix x1 1)] h27 fun v43 h44 =>
 iteK v43 (
 R (.tuple #[]) h44) (
 J34 [] h44)) (
 J34 [] h27))
 fun x35 j36 h37 =>
 drawK h37 fun S =>
 vK (binV .i .gtr (ix x1 0) (.int .i64 0)) fun v45 =>
 vK (gV v45 true (some a0)) fun v46 =>
 vK (gV v45 true (some (ix x1 0))) fun v47 =>
 vK (gV v45 true (binV .i .sub v47 (.int .i64 1))) fun v48 =>
 vK (gV v45 true (idxV 1 v46 v48)) fun v49 =>
 qK S (fun h37 => gV v45 true (ldV h37 v49)) fun v50 =>
 vK (gV v45 true (some a0)) fun v51 =>
 vK (gV v45 true (some (ix x25 0))) fun v52 =>
 vK (gV v45 true (idxV 1 v51 v52)) fun v53 =>
 qK S (fun h37 => gV v45 true (ldV h37 v53)) fun v54 =>
 gK v45 true (fun k77 => FCall Try.prog F_cmp_Less_int #[v50, v54] h37 k77) h37 fun v55 h56 =>
 vK (gV v45 true (unV .not v55)) fun v57 =>
 vK (pickV v45 v57 (.bool false)) fun v58 =>
 iteK v58 (
 FCall Try.prog F_slices_partitionEqualOrdered_int #[a0, (ix x1 0), (ix x1 1), (ix x25 0)] h56 fun v59 h60 =>
 again4 [v59, (ix x1 1), (ix x13 0), (ix x1 3), (ix x1 4)] h60) (
 FCall Try.prog F_slices_partitionOrdered_int #[a0, (ix x1 0), (ix x1 1), (ix x25 0)] h56 fun v61 h62 =>
 vK (extV v61 0) fun v63 =>
 vK (extV v61 1) fun v64 =>
 vK (binV .i .sub v63 (ix x1 0)) fun v65 =>
 vK (binV .i .sub (ix x1 1) v63) fun v66 =>
 vK (binV .i .quo v5 (.int .i64 8)) fun v67 =>
 vK (binV .i .lss v65 v66) fun v68 =>
 iteK v68 (
 vK (binV .i .geq v65 v67) fun v69 =>
 FCall Try.prog F_slices_pdqsortOrdered_int #[a0, (ix x1 0), v63, (ix x13 0)] h62 fun v70 h71 =>
 vK (binV .i .add v63 (.int .i64 1)) fun v72 =>
 again4 [v72, (ix x1 1), (ix x13 0), v69, v64] h71) (
 vK (binV .i .geq v66 v67) fun v73 =>
 vK (binV .i .add v63 (.int .i64 1)) fun v74 =>
 FCall Try.prog F_slices_pdqsortOrdered_int #[a0, v74, (ix x1 1), (ix x13 0)] h62 fun v75 h76 =>
 again4 [(ix x1 0), v63, (ix x13 0), v73, v64] h76))))
noncomputable def an_slices_pdqsortOrdered_int : Ann := (.s .z (.s .z (.l 21778071482940061661655974875633165532942 [1, 2, 3, 8, 9] (.s .z (.s (.s .z (.s (.s .z .z) .z)) (.s (.s .z (.s (.s .z .z) .z)) (.j 4380866641928 [3] (.s .z (.s (.s .z .z) .z)) (.s .z (.j 2305280059260278784 [11, 12] (.s .z (.s (.s .z (.s .z .z)) .z)) (.j 9442427122730076733440 [] (.s .z (.s (.s .z (.s .z .z)) .z)) (.s (.s (.d [(0, .r), (1, .r), (2, .r), (3, .r), (4, .r), (5, .r), (6, .r), (7, .r), (8, .r), (9, .r), (10, .r), (11, .r), (12, .n), (13, .r), (14, .r)]) (.s (.s .z (.s .z .z)) .z)) (.s .z (.s .z (.s .z (.s .z (.s .z (.s (.s .z (.s .z .z)) (.s .z (.s .z .z)))))))))))))))))))
theorem oc_slices_pdqsortOrdered_int : okCode Try.f82.ntmps ((Try.f82.body).getD .skip) an_slices_pdqsortOrdered_int = true := by kernel_rfl
theorem eq_slices_pdqsortOrdered_int (a0 a1 a2 a3 : Value) (h : Heap) (R : Value → Heap → Prop) : sh_slices_pdqsortOrdered_int a0 a1 a2 a3 h R = cFunc Try.prog ((Try.f82.body).getD .skip) an_slices_pdqsortOrdered_int Try.f82.results.toList #[a0, a1, a2, a3].toList h R := by kernel_rfl
theorem ok_slices_pdqsortOrdered_int {a0 a1 a2 a3 : Value} {h : Heap} {R : Value → Heap → Prop} (H : sh_slices_pdqsortOrdered_int a0 a1 a2 a3 h R) : FCall Try.prog F_slices_pdqsortOrdered_int #[a0, a1, a2, a3] h R :=
  fcall_of (by kernel_rfl) (fn := Try.f82) (c := (Try.f82.body).getD .skip) (an := an_slices_pdqsortOrdered_int) (by kernel_rfl) (by kernel_rfl) (by kernel_rfl) oc_slices_pdqsortOrdered_int (by kernel_rfl) (Eq.mp (eq_slices_pdqsortOrdered_int a0 a1 a2 a3 h R) H)

/-! ### math|bits.Len: function 83 -/
def sh_math_bits_Len (a0 : Value) (h : Heap) (R : Value → Heap → Prop) : Prop :=
 iteK (.bool false) (
 vK (cviV .u32 a0) fun v1 =>
 FCall Try.prog F_math_bits_Len32 #[v1] h fun v2 h3 =>
 R v2 h3) (
 FCall Try.prog F_math_bits_Len64 #[a0] h fun v4 h5 =>
 R v4 h5)
noncomputable def an_math_bits_Len : Ann := (.s .z (.s (.s (.s .z .z) .z) (.s .z .z)))
theorem oc_math_bits_Len : okCode Try.f83.ntmps ((Try.f83.body).getD .skip) an_math_bits_Len = true := by kernel_rfl
theorem eq_math_bits_Len (a0 : Value) (h : Heap) (R : Value → Heap → Prop) : sh_math_bits_Len a0 h R = cFunc Try.prog ((Try.f83.body).getD .skip) an_math_bits_Len Try.f83.results.toList #[a0].toList h R := by kernel_rfl
theorem ok_math_bits_Len {a0 : Value} {h : Heap} {R : Value → Heap → Prop} (H : sh_math_bits_Len a0 h R) : FCall Try.prog F_math_bits_Len #[a0] h R :=
  fcall_of (by kernel_rfl) (fn := Try.f83) (c := (Try.f83.body).getD .skip) (an := an_math_bits_Len) (by kernel_rfl) (by kernel_rfl) (by kernel_rfl) oc_math_bits_Len (by kernel_rfl) (Eq.mp (eq_math_bits_Len a0 h R) H)

/-! ### slices.insertionSortOrdered[int]: function 84 -/
def sh_slices_insertionSortOrdered_int (a0 a1 a2 : Value) (h : Heap) (R : Value → Heap → Prop) : Prop :=
 vK (binV .i .add a1 (.int .i64 1)) fun v1 =>
 loopK [v1] h fun x2 j3 h4 again5 =>
 vK (binV .i .lss (ix x2 0) a2) fun v6 =>
 iteK v6 (
 loopK [(ix x2 0)] h4 fun x7 j8 h9 again10 =>
 drawK h9 fun S =>
 vK (binV .i .gtr (ix x7 0) a1) fun v11 =>
 vK (gV v11 true (some a0)) fun v12 =>
 vK (gV v11 true (some (ix x7 0))) fun v13 =>
 vK (gV v11 true (idxV 1 v12 v13)) fun v14 =>
 qK S (fun h9 => gV v11 true (ldV h9 v14)) fun v15 =>
 vK (gV v11 true (some a0)) fun v16 =>
 vK (gV v11 true (some (ix x7 0))) fun v17 =>
 vK (gV v11 true (binV .i .sub v17 (.int .i64 1))) fun v18 =>
 vK (gV v11 true (idxV 1 v16 v18)) fun v19 =>
 qK S (fun h9 => gV v11 true (ldV h9 v19)) fun v20 =>
 gK v11 true (fun k38 => FCall Try.prog F_cmp_Less_int #[v15, v20] h9 k38) h9 fun v21 h22 =>
 vK (pickV v11 v21 (.bool false)) fun v23 =>
 iteK v23 (
 drawK h22 fun S =>
 vK (binV .i .sub (ix x7 0) (.int .i64 1)) fun v24 =>
 vK (binV .i .sub (ix x7 0) (.int .i64 1)) fun v25 =>
 vK (idxV 1 a0 v25) fun v26 =>
 qK S (fun h22 => ldV h22 v26) fun v27 =>
 vK (idxV 1 a0 (ix x7 0)) fun v28 =>
 qK S (fun h22 => ldV h22 v28) fun v29 =>
 vK (idxV 1 a0 (ix x7 0)) fun v30 =>
 stK 1 v30 v27 h22 fun v31 h32 =>
 S h32 ∧ (vK (idxV 1 a0 v24) fun v33 =>
 stK 1 v33 v29 h32 fun v34 h35 =>
 vK (binV .i .sub (ix x7 0) (.int .i64 1)) fun v36 =>
 again10 [v36] h35)) (
 vK (binV .i .add (ix x2 0) (.int .i64 1)) fun v37 =>
 again5 [v37] h22)) (
 R (.tuple #[]) h4)
noncomputable def an_slices_insertionSortOrdered_int : Ann := (.s .z (.l 562949953420480 [6] (.s (.s .z (.s .z .z)) (.s (.s .z (.l 562949953355904 [7] (.s (.s (.d [(0, .r), (1, .r), (2, .r), (3, .r), (4, .r), (5, .r), (6, .r), (7, .r), (8, .r), (9, .r), (10, .r), (11, .r), (12, .r), (13, .n), (14, .r)]) (.s .z .z)) (.s (.d [(0, .r), (1, .r), (2, .r), (3, .r), (4, .r), (5, .r), (6, .r), (7, .r), (8, .r), (9, .r), (10, .r), (11, .r), (12, .r), (13, .r), (14, .r), (15, .e), (16, .r), (17, .n)]) .z)))) .z))))
theorem oc_slices_insertionSortOrdered_int : okCode Try.f84.ntmps ((Try.f84.body).getD .skip) an_slices_insertionSortOrdered_int = true := by kernel_rfl
theorem eq_slices_insertionSortOrdered_int (a0 a1 a2 : Value) (h : Heap) (R : Value → Heap → Prop) : sh_slices_insertionSortOrdered_int a0 a1 a2 h R = cFunc Try.prog ((Try.f84.body).getD .skip) an_slices_insertionSortOrdered_int Try.f84.results.toList #[a0, a1, a2].toList h R := by kernel_rfl
theorem ok_slices_insertionSortOrdered_int {a0 a1 a2 : Value} {h : Heap} {R : Value → Heap → Prop} (H : sh_slices_insertionSortOrdered_int a0 a1 a2 h R) : FCall Try.prog F_slices_insertionSortOrdered_int #[a0, a1, a2] h R :=
  fcall_of (by kernel_rfl) (fn := Try.f84) (c := (Try.f84.body).getD .skip) (an := an_slices_insertionSortOrdered_int) (by kernel_rfl) (by kernel_rfl) (by kernel_rfl) oc_slices_insertionSortOrdered_int (by kernel_rfl) (Eq.mp (eq_slices_insertionSortOrdered_int a0 a1 a2 h R) H)

/-! ### slices.heapSortOrdered[int]: function 85 -/
def sh_slices_heapSortOrdered_int (a0 a1 a2 : Value) (h : Heap) (R : Value → Heap → Prop) : Prop :=
 vK (binV .i .sub a2 a1) fun v1 =>
 vK (binV .i .sub v1 (.int .i64 1)) fun v2 =>
 vK (binV .i .quo v2 (.int .i64 2)) fun v3 =>
 loopK [v3] h fun x4 j5 h6 again7 =>
 vK (binV .i .geq (ix x4 0) (.int .i64 0)) fun v8 =>
 iteK v8 (
 FCall Try.prog F_slices_siftDownOrdered_int #[a0, (ix x4 0), v1, a1] h6 fun v9 h10 =>
 vK (binV .i .sub (ix x4 0) (.int .i64 1)) fun v11 =>
 again7 [v11] h10) (
 vK (binV .i .sub v1 (.int .i64 1)) fun v12 =>
 loopK [v12] h6 fun x13 j14 h15 again16 =>
 vK (binV .i .geq (ix x13 0) (.int .i64 0)) fun v17 =>
 iteK v17 (
 drawK h15 fun S =>
 vK (binV .i .add a1 (ix x13 0)) fun v18 =>
 vK (binV .i .add a1 (ix x13 0)) fun v19 =>
 vK (idxV 1 a0 v19) fun v20 =>
 qK S (fun h15 => ldV h15 v20) fun v21 =>
 vK (idxV 1 a0 a1) fun v22 =>
 qK S (fun h15 => ldV h15 v22) fun v23 =>
 vK (idxV 1 a0 a1) fun v24 =>
 stK 1 v24 v21 h15 fun v25 h26 =>
 S h26 ∧ (vK (idxV 1 a0 v18) fun v27 =>
 stK 1 v27 v23 h26 fun v28 h29 =>
 FCall Try.prog F_slices_siftDownOrdered_int #[a0, (.int .i64 0), (ix x13 0), a1] h29 fun v30 h31 =>
 vK (binV .i .sub (ix x13 0) (.int .i64 1)) fun v32 =>
 again16 [v32] h31)) (
 R (.tuple #[]) h15))
noncomputable def an_slices_heapSortOrdered_int : Ann := (.s .z (.s .z (.s .z (.s (.s .z (.l 133956096 [9] (.s (.s .z (.s .z .z)) (.s .z .z)))) (.s .z (.l 72057593501058048 [10] (.s (.s .z (.s .z .z)) (.s (.s (.d [(0, .r), (1, .r), (2, .r), (3, .r), (4, .r), (5, .r), (6, .r), (7, .r), (8, .r), (9, .r), (10, .r), (11, .r), (12, .r), (13, .r), (14, .r), (15, .r), (16, .r), (17, .e), (18, .r), (19, .n)]) .z) .z))))))))
theorem oc_slices_heapSortOrdered_int : okCode Try.f85.ntmps ((Try.f85.body).getD .skip) an_slices_heapSortOrdered_int = true := by kernel_rfl
theorem eq_slices_heapSortOrdered_int (a0 a1 a2 : Value) (h : Heap) (R : Value → Heap → Prop) : sh_slices_heapSortOrdered_int a0 a1 a2 h R = cFunc Try.prog ((Try.f85.body).getD .skip) an_slices_heapSortOrdered_int Try.f85.results.toList #[a0, a1, a2].toList h R := by kernel_rfl
theorem ok_slices_heapSortOrdered_int {a0 a1 a2 : Value} {h : Heap} {R : Value → Heap → Prop} (H : sh_slices_heapSortOrdered_int a0 a1 a2 h R) : FCall Try.prog F_slices_heapSortOrdered_int #[a0, a1, a2] h R :=
  fcall_of (by kernel_rfl) (fn := Try.f85) (c := (Try.f85.body).getD .skip) (an := an_slices_heapSortOrdered_int) (by kernel_rfl) (by kernel_rfl) (by kernel_rfl) oc_slices_heapSortOrdered_int (by kernel_rfl) (Eq.mp (eq_slices_heapSortOrdered_int a0 a1 a2 h R) H)

/-! ### slices.breakPatternsOrdered[int]: function 86 -/
def sh_slices_breakPatternsOrdered_int (a0 a1 a2 : Value) (h : Heap) (R : Value → Heap → Prop) : Prop :=
 vK (binV .i .sub a2 a1) fun v1 =>
 vK (binV .i .geq v1 (.int .i64 8)) fun v2 =>
 iteK v2 (
 vK (cviV .u64 v1) fun v3 =>
 newK #[(.int .u64 0)] 136 h fun v4 h5 =>
 stK 1 v4 v3 h5 fun v6 h7 =>
 FCall Try.prog F_slices_nextPowerOfTwo #[v1] h7 fun v8 h9 =>
 vK (binV .i .quo v1 (.int .i64 4)) fun v10 =>
 vK (binV .i .mul v10 (.int .i64 2)) fun v11 =>
 vK (binV .i .add a1 v11) fun v12 =>
 vK (binV .i .sub v12 (.int .i64 1)) fun v13 =>
 loopK [v13] h9 fun x14 j15 h16 again17 =>
 vK (binV .i .quo v1 (.int .i64 4)) fun v18 =>
 vK (binV .i .mul v18 (.int .i64 2)) fun v19 =>
 vK (binV .i .add a1 v19) fun v20 =>
 vK (binV .i .add v20 (.int .i64 1)) fun v21 =>
 vK (binV .i .leq (ix x14 0) v21) fun v22 =>
 iteK v22 (
 FCall Try.prog F_slices_xorshift_Next #[v4] h16 fun v23 h24 =>
 vK (binV .i .sub v8 (.int .u64 1)) fun v25 =>
 vK (binV .i .and v23 v25) fun v26 =>
 vK (cviV .i64 v26) fun v27 =>
 joinK (fun J28 =>
 vK (binV .i .geq v27 v1) fun v32 =>
 iteK v32 (
 vK (binV .i .sub v27 v1) fun v33 =>
 J28 [v33] h24) (
 J28 [v27] h24))
 fun x29 j30 h31 =>
 drawK h31 fun S =>
 vK (binV .i .add a1 (ix x29 0)) fun v34 =>
 vK (binV .i .add a1 (ix x29 0)) fun v35 =>
 vK (idxV 1 a0 v35) fun v36 =>
 qK S (fun h31 => ldV h31 v36) fun v37 =>
 vK (idxV 1 a0 (ix x14 0)) fun v38 =>
 qK S (fun h31 => ldV h31 v38) fun v39 =>
 vK (idxV 1 a0 (ix x14 0)) fun v40 =>
 stK 1 v40 v37 h31 fun v41 h42 =>
 S h42 ∧ (vK (idxV 1 a0 v34) fun v43 =>
 stK 1 v43 v39 h42 fun v44 h45 =>
 vK (binV .i .add (ix x14 0) (.int .i64 1)) fun v46 =>
 again17 [v46] h45)) (
 R (.tuple #[]) h16)) (
 R (.tuple #[]) h)
noncomputable def an_slices_breakPatternsOrdered_int : Ann := (.s .z (.s .z (.s (.s .z (.s .z (.s .z (.l 36893488147351995904 [9] (.s (.s .z (.s .z .z)) (.s (.s .z (.j 138538465100800 [10] (.s .z (.s .z .z)) (.d [(0, .r), (1, .r), (2, .r), (3, .r), (4, .r), (5, .r), (6, .r), (7, .r), (8, .r), (9, .r), (10, .r), (11, .r), (12, .r), (13, .r), (14, .r), (15, .r), (16, .r), (17, .e), (18, .r), (19, .n)]))) .z)))))) .z)))
theorem oc_slices_breakPatternsOrdered_int : okCode Try.f86.ntmps ((Try.f86.body).getD .skip) an_slices_breakPatternsOrdered_int = true := by kernel_rfl
theorem eq_slices_breakPatternsOrdered_int (a0 a1 a2 : Value) (h : Heap) (R : Value → Heap → Prop) : sh_slices_breakPatternsOrdered_int a0 a1 a2 h R = cFunc Try.prog ((Try.f86.body).getD .skip) an_slices_breakPatternsOrdered_int Try.f86.results.toList #[a0, a1, a2].toList h R := by kernel_rfl
theorem ok_slices_breakPatternsOrdered_int {a0 a1 a2 : Value} {h : Heap} {R : Value → Heap → Prop} (H : sh_slices_breakPatternsOrdered_int a0 a1 a2 h R) : FCall Try.prog F_slices_breakPatternsOrdered_int #[a0, a1, a2] h R :=
  fcall_of (by kernel_rfl) (fn := Try.f86) (c := (Try.f86.body).getD .skip) (an := an_slices_breakPatternsOrdered_int) (by kernel_rfl) (by kernel_rfl) (by kernel_rfl) oc_slices_breakPatternsOrdered_int (by kernel_rfl) (Eq.mp (eq_slices_breakPatternsOrdered_int a0 a1 a2 h R) H)

/-! ### slices.choosePivotOrdered[int]: function 87 -/
def sh_slices_choosePivotOrdered_int (a0 a1 a2 : Value) (h : Heap) (R : Value → Heap → Prop) : Prop :=
 vK (binV .i .sub a2 a1) fun v1 =>
 newK #[(.int .i64 0)] 3 h fun v2 h3 =>
 vK (binV .i .quo v1 (.int .i64 4)) fun v4 =>
 vK (binV .i .mul v4 (.int .i64 1)) fun v5 =>
 vK (binV .i .add a1 v5) fun v6 =>
 vK (binV .i .quo v1 (.int .i64 4)) fun v7 =>
 vK (binV .i .mul v7 (.int .i64 2)) fun v8 =>
 vK (binV .i .add a1 v8) fun v9 =>
 vK (binV .i .quo v1 (.int .i64 4)) fun v10 =>
 vK (binV .i .mul v10 (.int .i64 3)) fun v11 =>
 vK (binV .i .add a1 v11) fun v12 =>
 vK (binV .i .geq v1 (.int .i64 8)) fun v13 =>
 iteK v13 (
 vK (binV .i .geq v1 (.int .i64 50)) fun v14 =>
 iteK v14 (
 FCall Try.prog F_slices_medianAdjacentOrdered_int #[a0, v6, v2] h3 fun v15 h16 =>
 FCall Try.prog F_slices_medianAdjacentOrdered_int #[a0, v9, v2] h16 fun v17 h18 =>
 FCall Try.prog F_slices_medianAdjacentOrdered_int #[a0, v12, v2] h18 fun v19 h20 =>
 FCall Try.prog F_slices_medianOrdered_int #[a0, v15, v17, v19, v2] h20 fun v21 h22 =>
 vK (ldV h22 v2) fun v23 =>
 vK (binV .i .eql v23 (.int .i64 0)) fun v24 =>
 iteK v24 (
 R (.tuple #[v21, (.int .i64 1)]) h22) (
 vK (binV .i .eql v23 (.int .i64 12)) fun v25 =>
 iteK v25 (
 R (.tuple #[v21, (.int .i64 2)]) h22) (
 R (.tuple #[v21, (.int .i64 0)]) h22))) (
 FCall Try.prog F_slices_medianOrdered_int #[a0, v6, v9, v12, v2] h3 fun v26 h27 =>
 vK (ldV h27 v2) fun v28 =>
 vK (binV .i .eql v28 (.int .i64 0)) fun v29 =>
 iteK v29 (
 R (.tuple #[v26, (.int .i64 1)]) h27) (
 vK (binV .i .eql v28 (.int .i64 12)) fun v30 =>
 iteK v30 (
 R (.tuple #[v26, (.int .i64 2)]) h27) (
 R (.tuple #[v26, (.int .i64 0)]) h27)))) (
 vK (ldV h3 v2) fun v31 =>
 vK (binV .i .eql v31 (.int .i64 0)) fun v32 =>
 iteK v32 (
 R (.tuple #[v9, (.int .i64 1)]) h3) (
 vK (binV .i .eql v31 (.int .i64 12)) fun v33 =>
 iteK v33 (
 R (.tuple #[v9, (.int .i64 2)]) h3) (
 R (.tuple #[v9, (.int .i64 0)]) h3)))
noncomputable def an_slices_choosePivotOrdered_int : Ann := (.s .z (.s .z (.s .z (.s .z (.s .z (.s .z (.s (.s .z (.s (.s (.s .z (.s (.s .z (.s .z .z)) .z)) .z) .z)) (.s .z (.s .z (.s (.s .z .z) (.s .z (.s (.s .z .z) (.s .z .z)))))))))))))
theorem oc_slices_choosePivotOrdered_int : okCode Try.f87.ntmps ((Try.f87.body).getD .skip) an_slices_choosePivotOrdered_int = true := by kernel_rfl
theorem eq_slices_choosePivotOrdered_int (a0 a1 a2 : Value) (h : Heap) (R : Value → Heap → Prop) : sh_slices_choosePivotOrdered_int a0 a1 a2 h R = cFunc Try.prog ((Try.f87.body).getD .skip) an_slices_choosePivotOrdered_int Try.f87.results.toList #[a0, a1, a2].toList h R := by kernel_rfl
theorem ok_slices_choosePivotOrdered_int {a0 a1 a2 : Value} {h : Heap} {R : Value → Heap → Prop} (H : sh_slices_choosePivotOrdered_int a0 a1 a2 h R) : FCall Try.prog F_slices_choosePivotOrdered_int #[a0, a1, a2] h R :=
  fcall_of (by kernel_rfl) (fn := Try.f87) (c := (Try.f87.body).getD .skip) (an := an_slices_choosePivotOrdered_int) (by kernel_rfl) (by kernel_rfl) (by kernel_rfl) oc_slices_choosePivotOrdered_int (by kernel_rfl) (Eq.mp (eq_slices_choosePivotOrdered_int a0 a1 a2 h R) H)

/-! ### slices.reverseRangeOrdered[int]: function 88 -/
def sh_slices_reverseRangeOrdered_int (a0 a1 a2 : Value) (h : Heap) (R : Value → Heap → Prop) : Prop :=
 vK (binV .i .sub a2 (.int .i64 1)) fun v1 =>
 loopK [a1, v1] h fun x2 j3 h4 again5 =>
 vK (binV .i .lss (ix x2 0) (ix x2 1)) fun v6 =>
 iteK v6 (
 drawK h4 fun S =>
 vK (idxV 1 a0 (ix x2 1)) fun v7 =>
 qK S (fun h4 => ldV h4 v7) fun v8 =>
 vK (idxV 1 a0 (ix x2 0)) fun v9 =>
 qK S (fun h4 => ldV h4 v9) fun v10 =>
 vK (idxV 1 a0 (ix x2 0)) fun v11 =>
 stK 1 v11 v8 h4 fun v12 h13 =>
 S h13 ∧ (vK (idxV 1 a0 (ix x2 1)) fun v14 =>
 stK 1 v14 v10 h13 fun v15 h16 =>
 vK (binV .i .add (ix x2 0) (.int .i64 1)) fun v17 =>
 vK (binV .i .sub (ix x2 1) (.int .i64 1)) fun v18 =>
 again5 [v17, v18] h16)) (
 R (.tuple #[]) h4)
noncomputable def an_slices_reverseRangeOrdered_int : Ann := (.s .z (.s .z (.l 4294965440 [6, 7] (.s (.s .z (.s .z .z)) (.s (.d [(0, .r), (1, .r), (2, .r), (3, .r), (4, .r), (5, .r), (6, .r), (7, .r), (8, .r), (9, .r), (10, .r), (11, .r), (12, .r), (13, .e), (14, .r), (15, .n)]) (.s .z .z))))))
theorem oc_slices_reverseRangeOrdered_int : okCode Try.f88.ntmps ((Try.f88.body).getD .skip) an_slices_reverseRangeOrdered_int = true := by kernel_rfl
theorem eq_slices_reverseRangeOrdered_int (a0 a1 a2 : Value) (h : Heap) (R : Value → Heap → Prop) : sh_slices_reverseRangeOrdered_int a0 a1 a2 h R = cFunc Try.prog ((Try.f88.body).getD .skip) an_slices_reverseRangeOrdered_int Try.f88.results.toList #[a0, a1, a2].toList h R := by kernel_rfl
theorem ok_slices_reverseRangeOrdered_int {a0 a1 a2 : Value} {h : Heap} {R : Value → Heap → Prop} (H : sh_slices_reverseRangeOrdered_int a0 a1 a2 h R) : FCall Try.prog F_slices_reverseRangeOrdered_int #[a0, a1, a2] h R :=
  fcall_of (by kernel_rfl) (fn := Try.f88) (c := (Try.f88.body).getD .skip) (an := an_slices_reverseRangeOrdered_int) (by kernel_rfl) (by kernel_rfl) (by kernel_rfl) oc_slices_reverseRangeOrdered_int (by kernel_rfl) (Eq.mp (eq_slices_reverseRangeOrdered_int a0 a1 a2 h R) H)

/-! ### slices.partialInsertionSortOrdered[int]: function 89 -/
def sh_slices_partialInsertionSortOrdered_int (a0 a1 a2 : Value) (h : Heap) (R : Value → Heap → Prop) : Prop :=
 vK (binV .i .add a1 (.int .i64 1)) fun v1 =>
 loopK [v1, (.int .i64 0)] h fun x2 j3 h4 again5 =>
 vK (binV .i .lss (ix x2 1) (.int .i64 5)) fun v6 =>
 iteK v6 (
 loopK [(ix x2 0)] h4 fun x7 j8 h9 again10 =>
 drawK h9 fun S =>
 vK (binV .i .lss (ix x7 0) a2) fun v11 =>
 vK (gV v11 true (some a0)) fun v12 =>
 vK (gV v11 true (some (ix x7 0))) fun v13 =>
 vK (gV v11 true (idxV 1 v12 v13)) fun v14 =>
 qK S (fun h9 => gV v11 true (ldV h9 v14)) fun v15 =>
 vK (gV v11 true (some a0)) fun v16 =>
 vK (gV v11 true (some (ix x7 0))) fun v17 =>
 vK (gV v11 true (binV .i .sub v17 (.int .i64 1))) fun v18 =>
 vK (gV v11 true (idxV 1 v16 v18)) fun v19 =>
 qK S (fun h9 => gV v11 true (ldV h9 v19)) fun v20 =>
 gK v11 true (fun k110 => FCall Try.prog F_cmp_Less_int #[v15, v20] h9 k110) h9 fun v21 h22 =>
 vK (gV v11 true (unV .not v21)) fun v23 =>
 vK (pickV v11 v23 (.bool false)) fun v24 =>
 iteK v24 (
 vK (binV .i .add (ix x7 0) (.int .i64 1)) fun v25 =>
 again10 [v25] h22) (
 vK (binV .i .eql (ix x7 0) a2) fun v26 =>
 iteK v26 (
 R (.bool true) h22) (
 vK (binV .i .sub a2 a1) fun v27 =>
 vK (binV .i .lss v27 (.int .i64 50)) fun v28 =>
 iteK v28 (
 R (.bool false) h22) (
 drawK h22 fun S =>
 vK (binV .i .sub (ix x7 0) (.int .i64 1)) fun v29 =>
 vK (binV .i .sub (ix x7 0) (.int .i64 1)) fun v30 =>
 vK (idxV 1 a0 v30) fun v31 =>
 qK S (fun h22 => ldV h22 v31) fun v32 =>
 vK (idxV 1 a0 (ix x7 0)) fun v33 =>
 qK S (fun h22 => ldV h22 v33) fun v34 =>
 vK (idxV 1 a0 (ix x7 0)) fun v35 =>
 stK 1 v35 v32 h22 fun v36 h37 =>
 S h37 ∧ (vK (idxV 1 a0 v29) fun v38 =>
 stK 1 v38 v34 h37 fun v39 h40 =>
 joinK (fun J41 =>
 vK (binV .i .sub (ix x7 0) a1) fun v45 =>
 vK (binV .i .geq v45 (.int .i64 2)) fun v46 =>
 iteK v46 (
 vK (binV .i .sub (ix x7 0) (.int .i64 1)) fun v47 =>
 joinK (fun J48 =>
 loopK [v47] h40 fun x52 j53 h54 again55 =>
 vK (binV .i .geq (ix x52 0) (.int .i64 1)) fun v56 =>
 iteK v56 (
 drawK h54 fun S =>
 vK (idxV 1 a0 (ix x52 0)) fun v57 =>
 qK S (fun h54 => ldV h54 v57) fun v58 =>
 vK (binV .i .sub (ix x52 0) (.int .i64 1)) fun v59 =>
 vK (idxV 1 a0 v59) fun v60 =>
 qK S (fun h54 => ldV h54 v60) fun v61 =>
 FCall Try.prog F_cmp_Less_int #[v58, v61] h54 fun v62 h63 =>
 vK (unV .not v62) fun v64 =>
 iteK v64 (
 J48 [] h63) (
 drawK h63 fun S =>
 vK (binV .i .sub (ix x52 0) (.int .i64 1)) fun v65 =>
 vK (binV .i .sub (ix x52 0) (.int .i64 1)) fun v66 =>
 vK (idxV 1 a0 v66) fun v67 =>
 qK S (fun h63 => ldV h63 v67) fun v68 =>
 vK (idxV 1 a0 (ix x52 0)) fun v69 =>
 qK S (fun h63 => ldV h63 v69) fun v70 =>
 vK (idxV 1 a0 (ix x52 0)) fun v71 =>
 stK 1 v71 v68 h63 fun v72 h73 =>
 S h73 ∧ (vK (idxV 1 a0 v65) fun v74 =>
 stK 1 v74 v70 h73 fun v75 h76 =>
 vK (binV .i .sub (ix x52 0) (.int .i64 1)) fun v77 =>
 again55 [v77] h76))) (
 J48 [] h54))
 fun x49 j50 h51 =>
 J41 [] h51) (
 J41 [] h40))
 fun x42 j43 h44 =>
 vK (binV .i .sub a2 (ix x7 0)) fun v78 =>
 vK (binV .i .geq v78 (.int .i64 2)) fun v79 =>
 iteK v79 (
 vK (binV .i .add (ix x7 0) (.int .i64 1)) fun v80 =>
 loopK [v80] h44 fun x81 j82 h83 again84 =>
 vK (binV .i .lss (ix x81 0) a2) fun v85 =>
 iteK v85 (
 drawK h83 fun S =>
 vK (idxV 1 a0 (ix x81 0)) fun v86 =>
 qK S (fun h83 => ldV h83 v86) fun v87 =>
 vK (binV .i .sub (ix x81 0) (.int .i64 1)) fun v88 =>
 vK (idxV 1 a0 v88) fun v89 =>
 qK S (fun h83 => ldV h83 v89) fun v90 =>
 FCall Try.prog F_cmp_Less_int #[v87, v90] h83 fun v91 h92 =>
 vK (unV .not v91) fun v93 =>
 iteK v93 (
 vK (binV .i .add (ix x2 1) (.int .i64 1)) fun v94 =>
 again5 [(ix x7 0), v94] h92) (
 drawK h92 fun S =>
 vK (binV .i .sub (ix x81 0) (.int .i64 1)) fun v95 =>
 vK (binV .i .sub (ix x81 0) (.int .i64 1)) fun v96 =>
 vK (idxV 1 a0 v96) fun v97 =>
 qK S (fun h92 => ldV h92 v97) fun v98 =>
 vK (idxV 1 a0 (ix x81 0)) fun v99 =>
 qK S (fun h92 => ldV h92 v99) fun v100 =>
 vK (idxV 1 a0 (ix x81 0)) fun v101 =>
 stK 1 v101 v98 h92 fun v102 h103 =>
 S h103 ∧ (vK (idxV 1 a0 v95) fun v104 =>
 stK 1 v104 v100 h103 fun v105 h106 =>
 vK (binV .i .add (ix x81 0) (.int .i64 1)) fun v107 =>
 again84 [v107] h106))) (
 vK (binV .i .add (ix x2 1) (.int .i64 1)) fun v108 =>
 again5 [(ix x7 0), v108] h83)) (
 vK (binV .i .add (ix x2 1) (.int .i64 1)) fun v109 =>
 again5 [(ix x7 0), v109] h44)))))) (
 R (.bool false) h4)
noncomputable def an_slices_partialInsertionSortOrdered_int : Ann := (.s .z (.s .z (.s (.s .z (.l 10889035741470030830827987437816582760384 [7, 8] (.s (.s .z (.s .z .z)) (.s (.s (.l 34359607424 [7] (.s (.s (.d [(0, .r), (1, .r), (2, .r), (3, .r), (4, .r), (5, .r), (6, .r), (7, .r), (8, .r), (9, .r), (10, .r), (11, .r), (12, .r), (13, .n), (14, .r), (15, .r)]) (.s .z .z)) .z)) (.s (.s .z (.s (.s .z .z) .z)) (.s (.s .z (.s (.s .z .z) .z)) (.s (.d [(0, .r), (1, .r), (2, .r), (3, .r), (4, .r), (5, .r), (6, .r), (7, .r), (8, .r), (9, .r), (10, .r), (11, .r), (12, .r), (13, .r), (14, .r), (15, .e), (16, .r), (17, .n)]) (.j 39614081256843938420620263936 [] (.s .z (.s (.s .z (.m 39614081238685424723062424064 [] (.l 39614081238685424723062424064 [9] (.s (.s .z (.s .z .z)) (.s (.s (.s (.d [(0, .r), (1, .r), (2, .r), (3, .r), (4, .r), (5, .r), (6, .r), (7, .r), (8, .r), (9, .n), (10, .r)]) (.s .z .z)) (.d [(0, .r), (1, .r), (2, .r), (3, .r), (4, .r), (5, .r), (6, .r), (7, .r), (8, .r), (9, .r), (10, .r), (11, .r), (12, .r), (13, .r), (14, .r), (15, .e), (16, .r), (17, .n)])) .z))))) .z)) (.s .z (.s (.s .z (.l 10889035738934729630371528634823176356864 [10] (.s (.s .z (.s .z .z)) (.s (.s (.s (.d [(0, .r), (1, .r), (2, .r), (3, .r), (4, .r), (5, .r), (6, .r), (7, .r), (8, .r), (9, .n), (10, .r)]) (.s .z .z)) (.d [(0, .r), (1, .r), (2, .r), (3, .r), (4, .r), (5, .r), (6, .r), (7, .r), (8, .r), (9, .r), (10, .r), (11, .r), (12, .r), (13, .r), (14, .r), (15, .e), (16, .r), (17, .n)])) .z)))) .z))))))) .z)))) (.s .z .z))))
theorem oc_slices_partialInsertionSortOrdered_int : okCode Try.f89.ntmps ((Try.f89.body).getD .skip) an_slices_partialInsertionSortOrdered_int = true := by kernel_rfl
theorem eq_slices_partialInsertionSortOrdered_int (a0 a1 a2 : Value) (h : Heap) (R : Value → Heap → Prop) : sh_slices_partialInsertionSortOrdered_int a0 a1 a2 h R = cFunc Try.prog ((Try.f89.body).getD .skip) an_slices_partialInsertionSortOrdered_int Try.f89.results.toList #[a0, a1, a2].toList h R := by kernel_rfl
theorem ok_slices_partialInsertionSortOrdered_int {a0 a1 a2 : Value} {h : Heap} {R : Value → Heap → Prop} (H : sh_slices_partialInsertionSortOrdered_int a0 a1 a2 h R) : FCall Try.prog F_slices_partialInsertionSortOrdered_int #[a0, a1, a2] h R :=
  fcall_of (by kernel_rfl) (fn := Try.f89) (c := (Try.f89.body).getD .skip) (an := an_slices_partialInsertionSortOrdered_int) (by kernel_rfl) (by kernel_rfl) (by kernel_rfl) oc_slices_partialInsertionSortOrdered_int (by kernel_rfl) (Eq.mp (eq_slices_partialInsertionSortOrdered_int a0 a1 a2 h R) H)

end Go.Proofs.Ytmmcgbilnnaggaa
