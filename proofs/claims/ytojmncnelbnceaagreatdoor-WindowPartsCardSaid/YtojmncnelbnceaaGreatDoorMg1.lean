/- Several texts of this session, one behind the other, without what this claim does not need (put together by its program pack.py). Conditions: none. -/
import Derived.Test.YtojmncnelbnceaaGreatDoorMg0
import Derived.Test.YtojmncnelbnceaaGreatDoorProg
set_option linter.unusedVariables false
set_option linter.unusedSimpArgs false
set_option maxRecDepth 100000
namespace Go.Proofs.YtojmncnelbnceaaGreatDoor
open Go Go.Crisp
open _root_.Go.Proofs.Tryz
section
variable {a0 a1 a2 a3 a4 a5 a6 a7 : Value} {h : Heap} {R : Value → Heap → Prop}
abbrev zdA : FuncId := 3
abbrev zdV : FuncId := 4
abbrev zcO : FuncId := 5
abbrev zc8 : FuncId := 6
abbrev zc7 : FuncId := 7
abbrev zbR : FuncId := 8
abbrev zbQ : FuncId := 9
abbrev za8 : FuncId := 10
abbrev zaH : FuncId := 11
abbrev zaZ : FuncId := 12
abbrev zap : FuncId := 13
abbrev zcl : FuncId := 14
abbrev zbv : FuncId := 15
abbrev zaj : FuncId := 16
abbrev zay : FuncId := 17
abbrev zaw : FuncId := 18
abbrev zas : FuncId := 19
abbrev za7 : FuncId := 20
abbrev zg9 : FuncId := 21
abbrev zbp : FuncId := 22
abbrev zg0 : FuncId := 23
abbrev ziD : FuncId := 24
abbrev zbd : FuncId := 25
abbrev zhb : FuncId := 26
abbrev zc6 : FuncId := 27
abbrev zc5 : FuncId := 28
abbrev zdP : FuncId := 29
abbrev zdu : FuncId := 30
abbrev zaQ : FuncId := 31
abbrev zgY : FuncId := 32
abbrev zcF : FuncId := 33
abbrev zfx : FuncId := 34
abbrev zg8 : FuncId := 35
abbrev zg7 : FuncId := 36
abbrev zcP : FuncId := 37
abbrev zgf : FuncId := 38
abbrev zbT : FuncId := 39
abbrev zds : FuncId := 40
abbrev zlM : FuncId := 41
abbrev zc2 : FuncId := 42
abbrev zdt : FuncId := 43
abbrev zdO : FuncId := 44
abbrev zcE : FuncId := 45
abbrev zer : FuncId := 46
abbrev zai : FuncId := 47
abbrev zdy : FuncId := 48
abbrev zb0 : FuncId := 49
abbrev zbG : FuncId := 50
abbrev zgZ : FuncId := 51
abbrev zjI : FuncId := 52
abbrev zlO : FuncId := 53
abbrev zif : FuncId := 54
abbrev zaN : FuncId := 55
abbrev zbc : FuncId := 56
abbrev zdR : FuncId := 57
abbrev zlN : FuncId := 58
abbrev zfu : FuncId := 59
abbrev zq5 : FuncId := 60
abbrev zgB : FuncId := 61
abbrev zjP : FuncId := 62
abbrev zeS : FuncId := 63
abbrev zlP : FuncId := 64
abbrev zeu : FuncId := 65
abbrev zcI : FuncId := 66
abbrev zg5 : FuncId := 67
abbrev zha : FuncId := 68
abbrev zgh : FuncId := 69
abbrev zil : FuncId := 70
abbrev zgg : FuncId := 71
abbrev zq6 : FuncId := 72
abbrev zjJ : FuncId := 73
abbrev zik : FuncId := 74
abbrev zbU : FuncId := 75
abbrev zdW : FuncId := 76
abbrev zc3 : FuncId := 77
abbrev zft : FuncId := 78
abbrev zdS : FuncId := 79
abbrev zfs : FuncId := 80
abbrev zd7 : FuncId := 81
abbrev zdx : FuncId := 82
abbrev zaF : FuncId := 83
abbrev zcH : FuncId := 84
abbrev ziE : FuncId := 85
abbrev zeU : FuncId := 86
abbrev ziG : FuncId := 87
abbrev zcV : FuncId := 88
abbrev zij : FuncId := 89
abbrev zd3 : FuncId := 90
abbrev zhc : FuncId := 91
abbrev zbk : FuncId := 92
abbrev zg6 : FuncId := 93
abbrev zdz : FuncId := 94
abbrev zbD : FuncId := 95
abbrev zbF : FuncId := 96
abbrev zf8 : FuncId := 97
abbrev zbq : FuncId := 98
abbrev zio : FuncId := 99
abbrev zog : FuncId := 100
abbrev zf3 : FuncId := 101
abbrev zie : FuncId := 102
abbrev zid : FuncId := 103
abbrev zjQ : FuncId := 104
abbrev zeT : FuncId := 105
abbrev zfz : FuncId := 106
abbrev zdT : FuncId := 107
abbrev zeq : FuncId := 108
abbrev zdQ : FuncId := 109
abbrev zcK : FuncId := 110
abbrev zbf : FuncId := 111
abbrev zbu : FuncId := 112
abbrev zcf : FuncId := 113
abbrev zeQ : FuncId := 114
abbrev zcz : FuncId := 115
abbrev zb8 : FuncId := 116
abbrev za0 : FuncId := 117
abbrev zeh : FuncId := 118
abbrev zld : FuncId := 119
abbrev zci : FuncId := 120
abbrev zcG : FuncId := 121
abbrev zdw : FuncId := 122
abbrev zjH : FuncId := 123
abbrev zfr : FuncId := 124
abbrev zhe : FuncId := 125
abbrev zhd : FuncId := 126
abbrev zf6 : FuncId := 127
abbrev zdf : FuncId := 128
abbrev zd4 : FuncId := 129
abbrev zes : FuncId := 130
abbrev zig : FuncId := 131
abbrev zej : FuncId := 132
abbrev zd5 : FuncId := 133
abbrev zbE : FuncId := 134
abbrev zdG : FuncId := 135
abbrev za1 : FuncId := 136
abbrev zii : FuncId := 137
abbrev zjO : FuncId := 138
abbrev zic : FuncId := 139
abbrev ziC : FuncId := 140
abbrev zcL : FuncId := 141
abbrev za3 : FuncId := 142
abbrev zc4 : FuncId := 143
abbrev zc9 : FuncId := 144
abbrev zgW : FuncId := 145
abbrev zin : FuncId := 146
abbrev zbi : FuncId := 147
abbrev za6 : FuncId := 148
abbrev zgA : FuncId := 149
abbrev zei : FuncId := 150
abbrev zg2 : FuncId := 151
abbrev zb3 : FuncId := 152
abbrev zg4 : FuncId := 153
abbrev zg1 : FuncId := 154
abbrev zaK : FuncId := 155
abbrev zaO : FuncId := 157
abbrev zof : FuncId := 158
abbrev ziF : FuncId := 159
abbrev zgd : FuncId := 160
abbrev zaU : FuncId := 161
abbrev zdv : FuncId := 162
abbrev zgV : FuncId := 163
abbrev zhf : FuncId := 164
abbrev zb9 : FuncId := 165
abbrev zdg : FuncId := 166
abbrev zbL : FuncId := 167
abbrev zcM : FuncId := 168
abbrev zlR : FuncId := 169
abbrev zim : FuncId := 170
abbrev zfy : FuncId := 171
abbrev zd2 : FuncId := 172
abbrev zfp : FuncId := 173
abbrev za5 : FuncId := 174
abbrev zdU : FuncId := 175
abbrev zbw : FuncId := 176
abbrev zjL : FuncId := 177
abbrev ze0 : FuncId := 178
abbrev zge : FuncId := 179
abbrev zf5 : FuncId := 180
abbrev zjK : FuncId := 181
abbrev zeR : FuncId := 182
abbrev zjN : FuncId := 183
abbrev zg3 : FuncId := 184
abbrev zf4 : FuncId := 185
abbrev zeP : FuncId := 186
abbrev zfw : FuncId := 187
abbrev zlL : FuncId := 188
abbrev zgX : FuncId := 189
abbrev zfq : FuncId := 190
abbrev zeO : FuncId := 191
abbrev zbP : FuncId := 192
abbrev zjR : FuncId := 193
abbrev zaI : FuncId := 194
abbrev zav : FuncId := 195
abbrev zlQ : FuncId := 196
abbrev zcJ : FuncId := 197
abbrev zbN : FuncId := 198
abbrev zcW : FuncId := 199
abbrev zih : FuncId := 200
abbrev zfv : FuncId := 201
abbrev zf7 : FuncId := 202
abbrev zf2 : FuncId := 203
abbrev zib : FuncId := 204
abbrev zbM : FuncId := 205
abbrev zgC : FuncId := 206
abbrev zjM : FuncId := 207
abbrev zet : FuncId := 208
abbrev zd6 : FuncId := 209
abbrev zaE : FuncId := 210
abbrev zd1 : Nat := 0
abbrev zbo : Nat := 1
abbrev zgU : Nat := 2
abbrev zgc : Nat := 3
theorem flat_ok : flatOkB prog = true := rfl
instance : zeg prog := ⟨flat_ok⟩
def zfb (a0 a1 a2 a3 a4 a5 : Value) (h : Heap) (R : Value → Heap → Prop) : Prop :=
 newK (Value.cells a0) 25 h fun v1 h2 =>
 newK (Value.cells a1) 31 h2 fun v3 h4 =>
 FCall prog zbR #[] h4 fun v5 h6 =>
 vK (unV .not v5) fun v7 =>
 iteK v7 (
 R (.bool false) h6) (
 vK (ldsV 5 h6 v1) fun v8 =>
 vK (ldsV 9 h6 v3) fun v9 =>
 FCall prog zbQ #[v8, v9, a2, a3, a4, a5] h6 fun v10 h11 =>
 vK (extV v10 0) fun v12 =>
 vK (extV v10 1) fun v13 =>
 newK #[(.pointer none), (.pointer none), (.pointer none), (.pointer none), (.int .i64 0), (.slice none 0 0), (.slice none 0 0), (.int .i64 0), (.int .i64 0), (.int .i64 0), (.int .i64 0), (.int .i64 0), (.int .i64 0), (.int .i64 0), (.int .i64 0), (.int .i64 0), (.int .i64 0), (.int .i64 0), (.int .i64 0), (.int .i64 0)] 45 h11 fun v14 h15 =>
 stK 20 v14 v12 h15 fun v16 h17 =>
 vK (unV .not v13) fun v18 =>
 iteK v18 (
 R (.bool true) h17) (
 vK (fldV 0 v14) fun v19 =>
 vK (ldV h17 v19) fun v20 =>
 vK (fldV 1 v14) fun v21 =>
 vK (ldV h17 v21) fun v22 =>
 vK (fldV 2 v14) fun v23 =>
 vK (ldsV 3 h17 v23) fun v24 =>
 vK (fldV 10 v14) fun v25 =>
 vK (ldsV 10 h17 v25) fun v26 =>
 FCall prog za8 #[v20, v22, v24, v26] h17 fun v27 h28 =>
 vK (extV v27 0) fun v29 =>
 vK (extV v27 1) fun v30 =>
 vK (binV .i .neq v30 (.int .i64 0)) fun v31 =>
 vK (gV v31 false (some v29)) fun v32 =>
 vK (gV v31 false (binV .p .eql v32 (.pointer none))) fun v33 =>
 vK (pickV v31 (.bool true) v33) fun v34 =>
 iteK v34 (
 R (.bool false) h28) (
 newmK h28 fun v35 h36 =>
 vK (fldV 10 v14) fun v37 =>
 vK (fldV 1 v37) fun v38 =>
 vK (fldV 1 v38) fun v39 =>
 vK (ldV h36 v39) fun v40 =>
 joinK (fun J41 =>
 loopK [v40, (.int .i64 0), (.bool true), (.int .i64 0)] h36 fun x45 j46 h47 again48 =>
 vK (binV .i .lss (ix x45 3) (.int .i64 20000)) fun v49 =>
 iteK v49 (
 FCall prog zaH #[v29] h47 fun v50 h51 =>
 newK #[(.int .i64 0), (.int .i64 0)] 55 h51 fun v52 h53 =>
 stK 2 v52 v50 h53 fun v54 h55 =>
 vK (fldV 0 v52) fun v56 =>
 vK (ldV h55 v56) fun v57 =>
 vK (binV .i .eql v57 (.int .i64 0)) fun v58 =>
 iteK v58 (
 J41 [(ix x45 0)] h55) (
 vK (fldV 0 v52) fun v59 =>
 vK (ldV h55 v59) fun v60 =>
 vK (binV .i .eql v60 (.int .i64 2)) fun v61 =>
 iteK v61 (
 vK (fldV 1 v52) fun v62 =>
 vK (ldV h55 v62) fun v63 =>
 vK (binV .i .neq v63 (ix x45 0)) fun v64 =>
 iteK v64 (
 R (.bool false) h55) (
 vK (binV .i .add (ix x45 0) (.int .i64 1)) fun v65 =>
 vK (binV .i .add (ix x45 3) (.int .i64 1)) fun v66 =>
 again48 [v65, (ix x45 1), (ix x45 2), v66] h55)) (
 vK (fldV 1 v52) fun v67 =>
 vK (ldV h55 v67) fun v68 =>
 vK (lookV (.int .i64) (.int .i64 0) false h55 v35 v68) fun v69 =>
 vK (binV .i .add v69 (.int .i64 1)) fun v70 =>
 zgP (.int .i64) v35 v68 v70 h55 fun v71 h72 =>
 vK (fldV 0 v52) fun v73 =>
 vK (ldV h72 v73) fun v74 =>
 vK (binV .i .neq v74 (.int .i64 1)) fun v75 =>
 vK (gV v75 false (some v35)) fun v76 =>
 vK (gV v75 false (fldV 1 v52)) fun v77 =>
 vK (gV v75 false (ldV h72 v77)) fun v78 =>
 vK (gV v75 false (lookV (.int .i64) (.int .i64 0) false h72 v76 v78)) fun v79 =>
 vK (gV v75 false (binV .i .gtr v79 (.int .i64 1))) fun v80 =>
 vK (pickV v75 (.bool true) v80) fun v81 =>
 vK (gV v81 false (some (ix x45 2))) fun v82 =>
 vK (gV v81 false (unV .not v82)) fun v83 =>
 vK (gV v81 false (some v83)) fun v84 =>
 vK (gV v84 true (fldV 1 v52)) fun v85 =>
 vK (gV v84 true (ldV h72 v85)) fun v86 =>
 vK (gV v84 true (some (ix x45 1))) fun v87 =>
 vK (gV v84 true (binV .i .leq v86 v87)) fun v88 =>
 vK (gV v81 false (pickV v84 v88 (.bool false))) fun v89 =>
 vK (pickV v81 (.bool true) v89) fun v90 =>
 iteK v90 (
 R (.bool false) h72) (
 vK (fldV 1 v52) fun v91 =>
 vK (ldV h72 v91) fun v92 =>
 vK (binV .i .add (ix x45 3) (.int .i64 1)) fun v93 =>
 again48 [(ix x45 0), v92, (.bool false), v93] h72)))) (
 J41 [(ix x45 0)] h47))
 fun x42 j43 h44 =>
 vK (fldV 10 v14) fun v94 =>
 vK (fldV 1 v94) fun v95 =>
 vK (fldV 1 v95) fun v96 =>
 vK (ldV h44 v96) fun v97 =>
 vK (fldV 10 v14) fun v98 =>
 vK (fldV 1 v98) fun v99 =>
 vK (fldV 3 v99) fun v100 =>
 vK (ldV h44 v100) fun v101 =>
 vK (binV .i .add v97 v101) fun v102 =>
 vK (binV .i .eql (ix x42 0) v102) fun v103 =>
 vK (gV v103 true (some v29)) fun v104 =>
 gK v103 true (fun k110 => FCall prog zaZ #[v104] h44 k110) h44 fun v105 h106 =>
 vK (gV v103 true (partV false 1 0 v105)) fun v107 =>
 vK (gV v103 true (binV .i .eql v107 (.int .i64 0))) fun v108 =>
 vK (pickV v103 v108 (.bool false)) fun v109 =>
 R v109 h106)))
theorem zjz (H : zfb a0 a1 a2 a3 a4 a5 h R) : FCall prog zdA #[a0, a1, a2, a3, a4, a5] h R := fk f3 (.s .z (.s (.s .z (.s (.s .z .z) .z)) (.s .z (.s (.s .z (.s (.s .z .z) .z)) (.s .z (.s (.s .z (.s (.s .z .z) .z)) (.s .z (.s .z (.s (.s .z (.m 10141204801825258751221326155776 [18] (.l 10141204801825258751221326155776 [18, 19, 20, 59] (.s .z (.s (.s .z .z) (.s (.s .z (.s (.s .z (.s .z .z)) (.s (.s .z (.s (.s (.s .z (.s (.s .z .z) .z)) (.s .z .z)) .z)) (.s .z (.s (.s .z (.s (.s .z .z) .z)) .z))))) .z)))))) (.s .z .z)))))))))) H
def zfP (a0 a1 a2 a3 a4 a5 a6 : Value) (h : Heap) (R : Value → Heap → Prop) : Prop :=
 newK (Value.cells a0) 25 h fun v1 h2 =>
 newK (Value.cells a1) 31 h2 fun v3 h4 =>
 FCall prog zbR #[] h4 fun v5 h6 =>
 vK (unV .not v5) fun v7 =>
 iteK v7 (
 R (.bool false) h6) (
 vK (ldsV 5 h6 v1) fun v8 =>
 vK (ldsV 9 h6 v3) fun v9 =>
 FCall prog zbQ #[v8, v9, (.int .u8 0), (.int .u8 0), (.int .u8 0), (.int .u8 0)] h6 fun v10 h11 =>
 vK (extV v10 0) fun v12 =>
 vK (extV v10 1) fun v13 =>
 newK #[(.pointer none), (.pointer none), (.pointer none), (.pointer none), (.int .i64 0), (.slice none 0 0), (.slice none 0 0), (.int .i64 0), (.int .i64 0), (.int .i64 0), (.int .i64 0), (.int .i64 0), (.int .i64 0), (.int .i64 0), (.int .i64 0), (.int .i64 0), (.int .i64 0), (.int .i64 0), (.int .i64 0), (.int .i64 0)] 45 h11 fun v14 h15 =>
 stK 20 v14 v12 h15 fun v16 h17 =>
 vK (unV .not v13) fun v18 =>
 iteK v18 (
 R (.bool true) h17) (
 vK ((fillL #[(.int .i64 0), (.int .i64 0), (.int .i64 0), (.int .i64 0)] [(0, 1, a2), (1, 1, a3), (2, 1, a4), (3, 1, a5)]).map .agg) fun v19 =>
 vK ((fillL #[(.int .i64 0), (.int .i64 0), (.int .i64 0), (.int .i64 0), (.int .i64 0), (.int .i64 0), (.int .i64 0), (.int .i64 0), (.int .i64 0), (.int .i64 0)] [(1, 4, v19)]).map .agg) fun v20 =>
 newK #[(.int .i64 0), (.int .i64 0), (.int .i64 0), (.int .i64 0), (.int .i64 0), (.int .i64 0), (.int .i64 0), (.int .i64 0), (.int .i64 0), (.int .i64 0)] 43 h17 fun v21 h22 =>
 stK 10 v21 v20 h22 fun v23 h24 =>
 drawK h24 fun S =>
 vK (fldV 2 v14) fun v25 =>
 vK (fldV 0 v25) fun v26 =>
 qK S (fun h24 => ldV h24 v26) fun v27 =>
 vK (fldV 2 v14) fun v28 =>
 vK (fldV 1 v28) fun v29 =>
 qK S (fun h24 => ldV h24 v29) fun v30 =>
 FCall prog zap #[v27] h24 fun v31 h32 =>
 S h32 ∧ (FCall prog zap #[v30] h32 fun v33 h34 =>
 vK (binV .i .geq a2 (.int .i64 0)) fun v35 =>
 vK (gV v35 true (some a3)) fun v36 =>
 vK (gV v35 true (binV .i .geq v36 (.int .i64 0))) fun v37 =>
 vK (pickV v35 v37 (.bool false)) fun v38 =>
 vK (gV v38 true (some a4)) fun v39 =>
 vK (gV v38 true (binV .i .geq v39 (.int .i64 1))) fun v40 =>
 vK (pickV v38 v40 (.bool false)) fun v41 =>
 vK (gV v41 true (some a5)) fun v42 =>
 vK (gV v41 true (binV .i .geq v42 (.int .i64 1))) fun v43 =>
 vK (pickV v41 v43 (.bool false)) fun v44 =>
 vK (gV v44 true (some a2)) fun v45 =>
 vK (gV v44 true (some v31)) fun v46 =>
 vK (gV v44 true (binV .i .lss v45 v46)) fun v47 =>
 vK (pickV v44 v47 (.bool false)) fun v48 =>
 vK (gV v48 true (some a3)) fun v49 =>
 vK (gV v48 true (some v33)) fun v50 =>
 vK (gV v48 true (binV .i .lss v49 v50)) fun v51 =>
 vK (pickV v48 v51 (.bool false)) fun v52 =>
 vK (gV v52 true (some a4)) fun v53 =>
 vK (gV v52 true (some v31)) fun v54 =>
 vK (gV v52 true (some a2)) fun v55 =>
 vK (gV v52 true (binV .i .sub v54 v55)) fun v56 =>
 vK (gV v52 true (binV .i .leq v53 v56)) fun v57 =>
 vK (pickV v52 v57 (.bool false)) fun v58 =>
 vK (gV v58 true (some a5)) fun v59 =>
 vK (gV v58 true (some v33)) fun v60 =>
 vK (gV v58 true (some a3)) fun v61 =>
 vK (gV v58 true (binV .i .sub v60 v61)) fun v62 =>
 vK (gV v58 true (binV .i .leq v59 v62)) fun v63 =>
 vK (pickV v58 v63 (.bool false)) fun v64 =>
 vK (fldV 0 v14) fun v65 =>
 vK (ldV h34 v65) fun v66 =>
 vK (fldV 1 v14) fun v67 =>
 vK (ldV h34 v67) fun v68 =>
 vK (fldV 2 v14) fun v69 =>
 vK (ldsV 3 h34 v69) fun v70 =>
 vK (ldsV 10 h34 v21) fun v71 =>
 FCall prog za8 #[v66, v68, v70, v71] h34 fun v72 h73 =>
 vK (extV v72 0) fun v74 =>
 vK (extV v72 1) fun v75 =>
 vK (binV .i .eql v75 (.int .i64 0)) fun v76 =>
 vK (binV .b .neq v64 v76) fun v77 =>
 vK (gV v77 false (some v64)) fun v78 =>
 vK (gV v77 false (some v74)) fun v79 =>
 vK (gV v77 false (binV .p .neq v79 (.pointer none))) fun v80 =>
 vK (gV v77 false (binV .b .neq v78 v80)) fun v81 =>
 vK (pickV v77 (.bool true) v81) fun v82 =>
 vK (gV v82 false (some v64)) fun v83 =>
 vK (gV v82 false (unV .not v83)) fun v84 =>
 vK (gV v82 false (some v84)) fun v85 =>
 vK (gV v85 true (some v75)) fun v86 =>
 vK (gV v85 true (binV .i .neq v86 (.int .i64 9))) fun v87 =>
 vK (gV v82 false (pickV v85 v87 (.bool false))) fun v88 =>
 vK (pickV v82 (.bool true) v88) fun v89 =>
 vK (gV v89 false (fldV 2 v14)) fun v90 =>
 vK (gV v89 false (ldsV 3 h73 v90)) fun v91 =>
 vK (gV v89 false (ldsV 10 h73 v21)) fun v92 =>
 gK v89 false (fun k165 => FCall prog zcl #[v91, v92] h73 k165) h73 fun v93 h94 =>
 vK (gV v89 false (binV .i .gtr v93 (.int .i64 0))) fun v95 =>
 vK (gV v89 false (some v64)) fun v96 =>
 vK (gV v89 false (binV .b .neq v95 v96)) fun v97 =>
 vK (pickV v89 (.bool true) v97) fun v98 =>
 iteK v98 (
 R (.bool false) h94) (
 drawK h94 fun S =>
 vK (fldV 0 v14) fun v99 =>
 qK S (fun h94 => ldV h94 v99) fun v100 =>
 vK (fldV 1 v14) fun v101 =>
 qK S (fun h94 => ldV h94 v101) fun v102 =>
 vK (fldV 2 v14) fun v103 =>
 qK S (fun h94 => ldsV 3 h94 v103) fun v104 =>
 newK #[(.pointer none), (.pointer none), (.int .i64 0)] 36 h94 fun v105 h106 =>
 S h106 ∧ (stK 3 v105 v104 h106 fun v107 h108 =>
 drawK h108 fun S =>
 vK (fldV 0 v14) fun v109 =>
 qK S (fun h108 => ldV h108 v109) fun v110 =>
 vK (fldV 0 v14) fun v111 =>
 qK S (fun h108 => ldV h108 v111) fun v112 =>
 FCall prog zaj #[v110] h108 fun v113 h114 =>
 S h114 ∧ (vK (binV .i .sub (.int .i64 4) v113) fun v115 =>
 FCall prog zay #[v112] h114 fun v116 h117 =>
 FCall prog zbv #[v31, v33, v115, v116] h117 fun v118 h119 =>
 vK (extV v118 0) fun v120 =>
 vK (extV v118 1) fun v121 =>
 drawK h119 fun S =>
 vK (binV .i .add v31 (.int .i64 1)) fun v122 =>
 vK (fldV 0 v14) fun v123 =>
 qK S (fun h119 => ldV h119 v123) fun v124 =>
 vK (fldV 0 v14) fun v125 =>
 qK S (fun h119 => ldV h119 v125) fun v126 =>
 FCall prog zaj #[v124] h119 fun v127 h128 =>
 S h128 ∧ (FCall prog zay #[v126] h128 fun v129 h130 =>
 FCall prog zbv #[v122, v33, v127, v129] h130 fun v131 h132 =>
 vK (extV v131 0) fun v133 =>
 vK (extV v131 1) fun v134 =>
 vK (binV .i .neq v121 (.int .i64 0)) fun v135 =>
 vK (gV v135 false (some v134)) fun v136 =>
 vK (gV v135 false (binV .i .neq v136 (.int .i64 0))) fun v137 =>
 vK (pickV v135 (.bool true) v137) fun v138 =>
 iteK v138 (
 R (.bool false) h132) (
 vK (binV .i .rem a6 (.int .u8 6)) fun v139 =>
 joinK (fun J140 =>
 vK (binV .i .eql v139 (.int .u8 0)) fun v144 =>
 iteK v144 (
 J140 [(.pointer none), v102] h132) (
 vK (binV .i .eql v139 (.int .u8 1)) fun v145 =>
 iteK v145 (
 J140 [v100, (.pointer none)] h132) (
 vK (binV .i .eql v139 (.int .u8 2)) fun v146 =>
 iteK v146 (
 vK (fldV 0 v105) fun v147 =>
 stK 1 v147 (.pointer none) h132 fun v148 h149 =>
 J140 [v100, v102] h149) (
 vK (binV .i .eql v139 (.int .u8 3)) fun v150 =>
 iteK v150 (
 J140 [v100, v120] h132) (
 vK (binV .i .eql v139 (.int .u8 4)) fun v151 =>
 iteK v151 (
 J140 [v100, v133] h132) (
 vK (fldV 2 v105) fun v152 =>
 stK 1 v152 (.int .i64 3) h132 fun v153 h154 =>
 J140 [v100, v102] h154))))))
 fun x141 j142 h143 =>
 vK (ldsV 3 h143 v105) fun v155 =>
 vK (ldsV 10 h143 v21) fun v156 =>
 FCall prog za8 #[(ix x141 0), (ix x141 1), v155, v156] h143 fun v157 h158 =>
 vK (extV v157 0) fun v159 =>
 vK (extV v157 1) fun v160 =>
 vK (binV .p .eql v159 (.pointer none)) fun v161 =>
 vK (gV v161 true (some v160)) fun v162 =>
 vK (gV v161 true (binV .i .eql v162 (.int .i64 6))) fun v163 =>
 vK (pickV v161 v163 (.bool false)) fun v164 =>
 R v164 h158))))))))
theorem zkQ (H : zfP a0 a1 a2 a3 a4 a5 a6 h R) : FCall prog zdV #[a0, a1, a2, a3, a4, a5, a6] h R := fk f4 (.s .z (.s (.s .z (.s (.s .z .z) .z)) (.s .z (.s (.s .z (.s (.s .z .z) .z)) (.s .z (.s (.d (.op 0 .r (.op 1 .r (.op 2 .r (.op 4 .r (.op 5 .r (.op 6 .r (.op 3 .e (.op 7 .n (.op 8 .r (.op 9 .r .nil))))))))))) (.s .z (.s .z (.s (.s .z (.s (.s .z .z) .z)) (.s (.d (.op 0 .r (.op 1 .r (.op 2 .r (.op 3 .r (.op 4 .r (.op 5 .r (.op 6 .e (.op 7 .r (.op 8 .r (.op 9 .n .nil))))))))))) (.s (.d (.op 0 .r (.op 1 .r (.op 2 .r (.op 3 .r (.op 6 .r (.op 7 .r (.op 4 .e (.op 5 .r (.op 8 .n (.op 9 .n (.op 10 .r (.op 11 .r (.op 12 .r (.op 13 .r (.op 14 .r .nil)))))))))))))))) (.s (.d (.op 0 .r (.op 1 .r (.op 2 .r (.op 3 .r (.op 4 .r (.op 6 .r (.op 7 .r (.op 5 .e (.op 8 .n (.op 9 .n (.op 10 .r (.op 11 .r (.op 12 .r (.op 13 .r (.op 14 .r .nil)))))))))))))))) (.s (.s .z (.s (.s .z .z) .z)) (.s (.s .z (.m 98073728304710379556581247444544981856350793120079675392 [23, 24] (.s .z (.s .z (.s .z (.s .z (.s .z (.s .z (.s .z (.s .z (.s .z (.s .z .z)))))))))))) (.s .z (.s .z .z)))))))))))))))) H
def zea (a0 a1 a2 a3 a4 a5 a6 : Value) (h : Heap) (R : Value → Heap → Prop) : Prop :=
 newK (Value.cells a0) 25 h fun v1 h2 =>
 newK (Value.cells a1) 31 h2 fun v3 h4 =>
 FCall prog zbR #[] h4 fun v5 h6 =>
 vK (unV .not v5) fun v7 =>
 iteK v7 (
 R (.bool false) h6) (
 vK (ldsV 5 h6 v1) fun v8 =>
 vK (ldsV 9 h6 v3) fun v9 =>
 FCall prog zbQ #[v8, v9, a2, a3, a4, a5] h6 fun v10 h11 =>
 vK (extV v10 0) fun v12 =>
 vK (extV v10 1) fun v13 =>
 newK #[(.pointer none), (.pointer none), (.pointer none), (.pointer none), (.int .i64 0), (.slice none 0 0), (.slice none 0 0), (.int .i64 0), (.int .i64 0), (.int .i64 0), (.int .i64 0), (.int .i64 0), (.int .i64 0), (.int .i64 0), (.int .i64 0), (.int .i64 0), (.int .i64 0), (.int .i64 0), (.int .i64 0), (.int .i64 0)] 45 h11 fun v14 h15 =>
 stK 20 v14 v12 h15 fun v16 h17 =>
 vK (unV .not v13) fun v18 =>
 iteK v18 (
 R (.bool true) h17) (
 vK (cviV .i64 a6) fun v19 =>
 vK (fldV 1 v14) fun v20 =>
 vK (ldV h17 v20) fun v21 =>
 FCall prog zay #[v21] h17 fun v22 h23 =>
 vK (binV .i .add v22 (.int .i64 1)) fun v24 =>
 vK (binV .i .rem v19 v24) fun v25 =>
 vK (cviV .u16 v25) fun v26 =>
 vK (fldV 1 v14) fun v27 =>
 vK (ldV h23 v27) fun v28 =>
 FCall prog zaw #[v28] h23 fun v29 h30 =>
 loopK [(.int .i64 0)] h30 fun x31 j32 h33 again34 =>
 vK (binV .i .lss (ix x31 0) v29) fun v35 =>
 iteK v35 (
 vK (fldV 1 v14) fun v36 =>
 vK (ldV h33 v36) fun v37 =>
 FCall prog zas #[v37] h33 fun v38 h39 =>
 loopK [(.int .i64 0)] h39 fun x40 j41 h42 again43 =>
 vK (binV .i .lss (ix x40 0) v38) fun v44 =>
 iteK v44 (
 vK (fldV 1 v14) fun v45 =>
 vK (ldV h42 v45) fun v46 =>
 FCall prog zaj #[v46] h42 fun v47 h48 =>
 loopK [(.int .i64 0)] h48 fun x49 j50 h51 again52 =>
 vK (binV .i .lss (ix x49 0) v47) fun v53 =>
 iteK v53 (
 vK (fldV 1 v14) fun v54 =>
 vK (ldV h51 v54) fun v55 =>
 FCall prog za7 #[v55, (ix x31 0), (ix x40 0), (ix x49 0), v26] h51 fun v56 h57 =>
 vK (binV .i .add (ix x49 0) (.int .i64 1)) fun v58 =>
 again52 [v58] h57) (
 vK (binV .i .add (ix x40 0) (.int .i64 1)) fun v59 =>
 again43 [v59] h51)) (
 vK (binV .i .add (ix x31 0) (.int .i64 1)) fun v60 =>
 again34 [v60] h42)) (
 vK (fldV 0 v14) fun v61 =>
 vK (ldV h33 v61) fun v62 =>
 FCall prog zg9 #[v62] h33 fun v63 h64 =>
 newK #[(.int .i64 0), (.int .i64 0), (.int .i64 0), (.int .i64 0), (.slice none 0 0)] 65 h64 fun v65 h66 =>
 stK 5 v65 v63 h66 fun v67 h68 =>
 vK (fldV 0 v14) fun v69 =>
 vK (ldV h68 v69) fun v70 =>
 vK (fldV 1 v14) fun v71 =>
 vK (ldV h68 v71) fun v72 =>
 vK (fldV 2 v14) fun v73 =>
 vK (ldsV 3 h68 v73) fun v74 =>
 vK (fldV 10 v14) fun v75 =>
 vK (ldsV 10 h68 v75) fun v76 =>
 FCall prog za8 #[v70, v72, v74, v76] h68 fun v77 h78 =>
 vK (extV v77 0) fun v79 =>
 vK (extV v77 1) fun v80 =>
 drawK h78 fun S =>
 vK (binV .i .neq v80 (.int .i64 0)) fun v81 =>
 vK (gV v81 false (some v79)) fun v82 =>
 vK (gV v81 false (binV .p .eql v82 (.pointer none))) fun v83 =>
 vK (pickV v81 (.bool true) v83) fun v84 =>
 vK (gV v84 false (some v79)) fun v85 =>
 vK (gV v84 false (fldV 2 v14)) fun v86 =>
 qK S (fun h78 => gV v84 false (ldsV 3 h78 v86)) fun v87 =>
 vK (gV v84 false (fldV 10 v14)) fun v88 =>
 qK S (fun h78 => gV v84 false (ldsV 10 h78 v88)) fun v89 =>
 gK v84 false (fun k182 => FCall prog zbp #[v85] h78 k182) h78 fun v90 h91 =>
 S h91 ∧ (gK v84 false (fun k181 => FCall prog zcl #[v87, v89] h91 k181) h91 fun v92 h93 =>
 vK (gV v84 false (binV .i .neq v90 v92)) fun v94 =>
 vK (pickV v84 (.bool true) v94) fun v95 =>
 iteK v95 (
 R (.bool false) h93) (
 vK (ldsV 5 h93 v65) fun v96 =>
 vK (fldV 5 v14) fun v97 =>
 vK (ldsV 5 h93 v97) fun v98 =>
 FCall prog zg0 #[v96, v98] h93 fun v99 h100 =>
 newK #[(.int .i64 0), (.int .i64 0), (.int .i64 0), (.int .i64 0), (.slice none 0 0)] 65 h100 fun v101 h102 =>
 stK 5 v101 v99 h102 fun v103 h104 =>
 vK (fldV 10 v14) fun v105 =>
 vK (fldV 1 v105) fun v106 =>
 vK (ldsV 4 h104 v106) fun v107 =>
 newK #[(.int .i64 0), (.int .i64 0), (.int .i64 0), (.int .i64 0)] 41 h104 fun v108 h109 =>
 stK 4 v108 v107 h109 fun v110 h111 =>
 vK (fldV 0 v101) fun v112 =>
 vK (ldV h111 v112) fun v113 =>
 loopK [(.int .i64 0)] h111 fun x114 j115 h116 again117 =>
 vK (binV .i .lss (ix x114 0) v113) fun v118 =>
 iteK v118 (
 vK (fldV 1 v101) fun v119 =>
 vK (ldV h116 v119) fun v120 =>
 loopK [(.int .i64 0)] h116 fun x121 j122 h123 again124 =>
 vK (binV .i .lss (ix x121 0) v120) fun v125 =>
 iteK v125 (
 vK (fldV 2 v101) fun v126 =>
 vK (ldV h123 v126) fun v127 =>
 loopK [(.int .i64 0)] h123 fun x128 j129 h130 again131 =>
 vK (binV .i .lss (ix x128 0) v127) fun v132 =>
 iteK v132 (
 vK (fldV 0 v108) fun v133 =>
 vK (ldV h130 v133) fun v134 =>
 vK (binV .i .geq (ix x114 0) v134) fun v135 =>
 vK (gV v135 true (some (ix x114 0))) fun v136 =>
 vK (gV v135 true (fldV 0 v108)) fun v137 =>
 vK (gV v135 true (ldV h130 v137)) fun v138 =>
 vK (gV v135 true (fldV 2 v108)) fun v139 =>
 vK (gV v135 true (ldV h130 v139)) fun v140 =>
 vK (gV v135 true (binV .i .add v138 v140)) fun v141 =>
 vK (gV v135 true (binV .i .lss v136 v141)) fun v142 =>
 vK (pickV v135 v142 (.bool false)) fun v143 =>
 vK (gV v143 true (some (ix x121 0))) fun v144 =>
 vK (gV v143 true (fldV 1 v108)) fun v145 =>
 vK (gV v143 true (ldV h130 v145)) fun v146 =>
 vK (gV v143 true (binV .i .geq v144 v146)) fun v147 =>
 vK (pickV v143 v147 (.bool false)) fun v148 =>
 vK (gV v148 true (some (ix x121 0))) fun v149 =>
 vK (gV v148 true (fldV 1 v108)) fun v150 =>
 vK (gV v148 true (ldV h130 v150)) fun v151 =>
 vK (gV v148 true (fldV 3 v108)) fun v152 =>
 vK (gV v148 true (ldV h130 v152)) fun v153 =>
 vK (gV v148 true (binV .i .add v151 v153)) fun v154 =>
 vK (gV v148 true (binV .i .lss v149 v154)) fun v155 =>
 vK (pickV v148 v155 (.bool false)) fun v156 =>
 iteK v156 (
 vK (ldsV 5 h130 v101) fun v157 =>
 FCall prog ziD #[v157, (ix x114 0), (ix x121 0), (ix x128 0)] h130 fun v158 h159 =>
 vK (fldV 1 v14) fun v160 =>
 vK (ldV h159 v160) fun v161 =>
 FCall prog zbd #[v161, (ix x114 0), (ix x121 0), (ix x128 0)] h159 fun v162 h163 =>
 vK (binV .i .neq v162 v158) fun v164 =>
 iteK v164 (
 R (.bool false) h163) (
 vK (binV .i .add (ix x128 0) (.int .i64 1)) fun v165 =>
 again131 [v165] h163)) (
 vK (fldV 1 v14) fun v166 =>
 vK (ldV h130 v166) fun v167 =>
 FCall prog zbd #[v167, (ix x114 0), (ix x121 0), (ix x128 0)] h130 fun v168 h169 =>
 vK (binV .i .neq v168 v26) fun v170 =>
 iteK v170 (
 R (.bool false) h169) (
 vK (binV .i .add (ix x128 0) (.int .i64 1)) fun v171 =>
 again131 [v171] h169))) (
 vK (binV .i .add (ix x121 0) (.int .i64 1)) fun v172 =>
 again124 [v172] h130)) (
 vK (binV .i .add (ix x114 0) (.int .i64 1)) fun v173 =>
 again117 [v173] h123)) (
 drawK h116 fun S =>
 vK (fldV 0 v14) fun v174 =>
 qK S (fun h116 => ldV h116 v174) fun v175 =>
 qK S (fun h116 => ldsV 5 h116 v65) fun v176 =>
 FCall prog zg9 #[v175] h116 fun v177 h178 =>
 S h178 ∧ (FCall prog zhb #[v177, v176] h178 fun v179 h180 =>
 R v179 h180)))))))
theorem zhY (H : zea a0 a1 a2 a3 a4 a5 a6 h R) : FCall prog zcO #[a0, a1, a2, a3, a4, a5, a6] h R := fk f5 (.s .z (.s (.s .z (.s (.s .z .z) .z)) (.s .z (.s (.s .z (.s (.s .z .z) .z)) (.s .z (.s (.s .z (.l 1208925783585832157577216 [55] (.s .z (.s (.s .z .z) (.s (.s .z (.s .z (.l 604460603964305375232000 [61] (.s .z (.s (.s .z .z) (.s (.s .z (.s .z (.l 302083880951067618312192 [67] (.s .z (.s (.s .z .z) (.s (.s .z .z) .z)))))) .z)))))) .z))))) (.s .z (.s .z (.s (.s (.d (.op 0 .r (.op 1 .r (.op 2 .r (.op 3 .r (.op 4 .r (.op 5 .r (.op 6 .r (.op 7 .r (.op 9 .r (.op 10 .r (.op 11 .r (.op 12 .r (.op 8 .e (.op 13 .n (.op 14 .r (.op 15 .r .nil))))))))))))))))) (.s (.s .z .z) .z)) (.s .z (.s .z (.s (.s .z (.l 383123885216472213260358761002661423000877721272205312 [120] (.s .z (.s (.s .z .z) (.s (.s .z (.s .z (.l 191561942608236064759497513276480715030516462241464320 [125] (.s .z (.s (.s .z .z) (.s (.s .z (.s .z (.l 95780971304116692517929005443040470477741468868952064 [130] (.s .z (.s (.s .z .z) (.s (.s .z (.s .z (.s (.s .z (.s .z .z)) (.s .z (.s (.s .z .z) .z))))) .z)))))) .z)))))) .z))))) (.s (.d (.op 0 .r (.op 1 .r (.op 3 .r (.op 2 .e (.op 4 .n (.op 5 .r .nil))))))) .z))))))))))))) H
def zeF (a0 a1 a2 a3 a4 a5 a6 a7 : Value) (h : Heap) (R : Value → Heap → Prop) : Prop :=
 newK (Value.cells a0) 25 h fun v1 h2 =>
 newK (Value.cells a1) 31 h2 fun v3 h4 =>
 FCall prog zbR #[] h4 fun v5 h6 =>
 vK (unV .not v5) fun v7 =>
 iteK v7 (
 R (.bool false) h6) (
 vK (ldsV 5 h6 v1) fun v8 =>
 vK (ldsV 9 h6 v3) fun v9 =>
 FCall prog zbQ #[v8, v9, a2, a3, a4, a5] h6 fun v10 h11 =>
 vK (extV v10 0) fun v12 =>
 vK (extV v10 1) fun v13 =>
 newK #[(.pointer none), (.pointer none), (.pointer none), (.pointer none), (.int .i64 0), (.slice none 0 0), (.slice none 0 0), (.int .i64 0), (.int .i64 0), (.int .i64 0), (.int .i64 0), (.int .i64 0), (.int .i64 0), (.int .i64 0), (.int .i64 0), (.int .i64 0), (.int .i64 0), (.int .i64 0), (.int .i64 0), (.int .i64 0)] 45 h11 fun v14 h15 =>
 stK 20 v14 v12 h15 fun v16 h17 =>
 vK (unV .not v13) fun v18 =>
 iteK v18 (
 R (.bool true) h17) (
 vK (fldV 1 v14) fun v19 =>
 vK (ldV h17 v19) fun v20 =>
 FCall prog zc6 #[v20] h17 fun v21 h22 =>
 vK (fldV 0 v14) fun v23 =>
 vK (ldV h22 v23) fun v24 =>
 vK (fldV 2 v14) fun v25 =>
 vK (ldsV 3 h22 v25) fun v26 =>
 vK (fldV 10 v14) fun v27 =>
 vK (ldsV 10 h22 v27) fun v28 =>
 FCall prog za8 #[v24, v21, v26, v28] h22 fun v29 h30 =>
 vK (extV v29 0) fun v31 =>
 vK (extV v29 1) fun v32 =>
 vK (binV .i .neq v32 (.int .i64 0)) fun v33 =>
 vK (gV v33 false (some v31)) fun v34 =>
 vK (gV v33 false (binV .p .eql v34 (.pointer none))) fun v35 =>
 vK (pickV v33 (.bool true) v35) fun v36 =>
 iteK v36 (
 R (.bool false) h30) (
 FCall prog zbp #[v31] h30 fun v37 h38 =>
 joinK (fun J39 =>
 drawK h38 fun S =>
 vK (fldV 10 v14) fun v43 =>
 qK S (fun h38 => ldsV 10 h38 v43) fun v44 =>
 vK (fldV 10 v14) fun v45 =>
 qK S (fun h38 => ldsV 10 h38 v45) fun v46 =>
 (newK #[(.int .i64 0), (.int .i64 0), (.int .i64 0), (.int .i64 0), (.int .i64 0), (.int .i64 0), (.int .i64 0), (.int .i64 0), (.int .i64 0), (.int .i64 0)] 43 h38 fun v47 h48 =>
 S h48 ∧ (newK #[(.int .i64 0), (.int .i64 0), (.int .i64 0), (.int .i64 0), (.int .i64 0), (.int .i64 0), (.int .i64 0), (.int .i64 0), (.int .i64 0), (.int .i64 0)] 43 h48 fun v49 h50 =>
 S h50 ∧ (stK 10 v47 v44 h50 fun v51 h52 =>
 S h52 ∧ (stK 10 v49 v46 h52 fun v53 h54 =>
 S h54 ∧ (J39 [v47, v49] h54))))) ∧ (newK #[(.int .i64 0), (.int .i64 0), (.int .i64 0), (.int .i64 0), (.int .i64 0), (.int .i64 0), (.int .i64 0), (.int .i64 0), (.int .i64 0), (.int .i64 0)] 43 h38 fun v55 h56 =>
 S h56 ∧ (newK #[(.int .i64 0), (.int .i64 0), (.int .i64 0), (.int .i64 0), (.int .i64 0), (.int .i64 0), (.int .i64 0), (.int .i64 0), (.int .i64 0), (.int .i64 0)] 43 h56 fun v57 h58 =>
 S h58 ∧ (stK 10 v57 v44 h58 fun v59 h60 =>
 S h60 ∧ (stK 10 v55 v46 h60 fun v61 h62 =>
 S h62 ∧ (J39 [v57, v55] h62))))))
 fun x40 j41 h42 =>
 vK (cviV .i64 a6) fun v63 =>
 vK (fldV 10 v14) fun v64 =>
 vK (fldV 1 v64) fun v65 =>
 vK (fldV 3 v65) fun v66 =>
 vK (ldV h42 v66) fun v67 =>
 vK (binV .i .add v67 (.int .i64 1)) fun v68 =>
 vK (binV .i .rem v63 v68) fun v69 =>
 drawK h42 fun S =>
 vK (fldV 10 v14) fun v70 =>
 vK (fldV 1 v70) fun v71 =>
 vK (fldV 1 v71) fun v72 =>
 qK S (fun h42 => ldV h42 v72) fun v73 =>
 vK (binV .i .add v73 v69) fun v74 =>
 vK (fldV 10 v14) fun v75 =>
 vK (fldV 1 v75) fun v76 =>
 vK (fldV 3 v76) fun v77 =>
 qK S (fun h42 => ldV h42 v77) fun v78 =>
 vK (binV .i .sub v78 v69) fun v79 =>
 vK (fldV 1 (ix x40 0)) fun v80 =>
 vK (fldV 3 v80) fun v81 =>
 stK 1 v81 v69 h42 fun v82 h83 =>
 S h83 ∧ (vK (fldV 1 (ix x40 1)) fun v84 =>
 vK (fldV 1 v84) fun v85 =>
 stK 1 v85 v74 h83 fun v86 h87 =>
 S h87 ∧ (vK (fldV 1 (ix x40 1)) fun v88 =>
 vK (fldV 3 v88) fun v89 =>
 stK 1 v89 v79 h87 fun v90 h91 =>
 vK (ldsV 10 h91 (ix x40 0)) fun v92 =>
 vK (ldsV 10 h91 (ix x40 1)) fun v93 =>
 rowK #[(.int .i64 0), (.int .i64 0), (.int .i64 0), (.int .i64 0), (.int .i64 0), (.int .i64 0), (.int .i64 0), (.int .i64 0), (.int .i64 0), (.int .i64 0), (.int .i64 0), (.int .i64 0), (.int .i64 0), (.int .i64 0), (.int .i64 0), (.int .i64 0), (.int .i64 0), (.int .i64 0), (.int .i64 0), (.int .i64 0)] 43 2 [(0, 10, v92), (10, 10, v93)] h91 fun v94 h95 =>
 joinK (fun J96 =>
 iteK a7 (
 vK (ldsV 10 h95 (ix x40 1)) fun v100 =>
 vK (ldsV 10 h95 (ix x40 0)) fun v101 =>
 rowK #[(.int .i64 0), (.int .i64 0), (.int .i64 0), (.int .i64 0), (.int .i64 0), (.int .i64 0), (.int .i64 0), (.int .i64 0), (.int .i64 0), (.int .i64 0), (.int .i64 0), (.int .i64 0), (.int .i64 0), (.int .i64 0), (.int .i64 0), (.int .i64 0), (.int .i64 0), (.int .i64 0), (.int .i64 0), (.int .i64 0)] 43 2 [(0, 10, v100), (10, 10, v101)] h95 fun v102 h103 =>
 J96 [v102] h103) (
 J96 [v94] h95))
 fun x97 j98 h99 =>
 vK (zaf (ix x97 0)) fun v104 =>
 loopK [(.int .i64 0)] h99 fun x105 j106 h107 again108 =>
 vK (binV .i .lss (ix x105 0) v104) fun v109 =>
 iteK v109 (
 vK (idxV 10 (ix x97 0) (ix x105 0)) fun v110 =>
 vK (ldsV 10 h107 v110) fun v111 =>
 newK #[(.int .i64 0), (.int .i64 0), (.int .i64 0), (.int .i64 0), (.int .i64 0), (.int .i64 0), (.int .i64 0), (.int .i64 0), (.int .i64 0), (.int .i64 0)] 43 h107 fun v112 h113 =>
 stK 10 v112 v111 h113 fun v114 h115 =>
 vK (fldV 1 v112) fun v116 =>
 vK (fldV 3 v116) fun v117 =>
 vK (ldV h115 v117) fun v118 =>
 vK (binV .i .eql v118 (.int .i64 0)) fun v119 =>
 iteK v119 (
 vK (binV .i .add (ix x105 0) (.int .i64 1)) fun v120 =>
 again108 [v120] h115) (
 vK (fldV 0 v14) fun v121 =>
 vK (ldV h115 v121) fun v122 =>
 vK (fldV 1 v14) fun v123 =>
 vK (ldV h115 v123) fun v124 =>
 vK (fldV 2 v14) fun v125 =>
 vK (ldsV 3 h115 v125) fun v126 =>
 vK (ldsV 10 h115 v112) fun v127 =>
 FCall prog za8 #[v122, v124, v126, v127] h115 fun v128 h129 =>
 vK (extV v128 0) fun v130 =>
 vK (extV v128 1) fun v131 =>
 vK (binV .i .neq v131 (.int .i64 0)) fun v132 =>
 vK (gV v132 false (some v130)) fun v133 =>
 vK (gV v132 false (binV .p .eql v133 (.pointer none))) fun v134 =>
 vK (pickV v132 (.bool true) v134) fun v135 =>
 iteK v135 (
 R (.bool false) h129) (
 FCall prog zbp #[v130] h129 fun v136 h137 =>
 vK (binV .i .add (ix x105 0) (.int .i64 1)) fun v138 =>
 again108 [v138] h137))) (
 vK (fldV 1 v14) fun v139 =>
 vK (ldV h107 v139) fun v140 =>
 FCall prog zc5 #[v140, v21] h107 fun v141 h142 =>
 R v141 h142))))))
theorem ziQ (H : zeF a0 a1 a2 a3 a4 a5 a6 a7 h R) : FCall prog zc8 #[a0, a1, a2, a3, a4, a5, a6, a7] h R := fk f6 (.s .z (.s (.s .z (.s (.s .z .z) .z)) (.s .z (.s (.s .z (.s (.s .z .z) .z)) (.s .z (.s .z (.s (.s .z (.s (.s .z .z) .z)) (.s .z (.j 1106804644422585679872 [22, 23] (.d (.op 0 .r (.op 1 .r (.op 2 .r (.op 3 .r (.alt (.op 4 .e (.op 5 .e (.op 6 .e (.op 7 .e .nil)))) (.op 5 .e (.op 4 .e (.op 6 .e (.op 7 .e .nil)))))))))) (.s .z (.s (.d (.op 0 .r (.op 1 .r (.op 2 .r (.op 3 .r (.op 4 .r (.op 5 .r (.op 6 .r (.op 7 .r (.op 8 .r (.op 9 .r (.op 10 .r (.op 11 .r (.op 12 .r (.op 13 .r (.op 14 .r (.op 15 .e (.op 16 .r (.op 17 .r (.op 18 .e (.op 19 .r (.op 20 .r (.op 21 .n .nil))))))))))))))))))))))) (.s .z (.j 19014759003423441022450581635072 [25] (.s .z (.s .z .z)) (.s (.s .z (.l 21778071401810423247049293179845099978752 [106] (.s .z (.s (.s .z .z) (.s (.s .z (.s (.s .z (.s .z .z)) (.s .z (.s (.s .z (.s (.s .z .z) .z)) .z)))) .z))))) (.s .z .z))))))))))))))) H
def zeE (a0 a1 a2 a3 a4 a5 : Value) (h : Heap) (R : Value → Heap → Prop) : Prop :=
 newK (Value.cells a0) 25 h fun v1 h2 =>
 newK (Value.cells a1) 31 h2 fun v3 h4 =>
 FCall prog zbR #[] h4 fun v5 h6 =>
 vK (unV .not v5) fun v7 =>
 iteK v7 (
 R (.bool false) h6) (
 vK (ldsV 5 h6 v1) fun v8 =>
 vK (ldsV 9 h6 v3) fun v9 =>
 FCall prog zbQ #[v8, v9, a2, a3, a4, a5] h6 fun v10 h11 =>
 vK (extV v10 0) fun v12 =>
 vK (extV v10 1) fun v13 =>
 newK #[(.pointer none), (.pointer none), (.pointer none), (.pointer none), (.int .i64 0), (.slice none 0 0), (.slice none 0 0), (.int .i64 0), (.int .i64 0), (.int .i64 0), (.int .i64 0), (.int .i64 0), (.int .i64 0), (.int .i64 0), (.int .i64 0), (.int .i64 0), (.int .i64 0), (.int .i64 0), (.int .i64 0), (.int .i64 0)] 45 h11 fun v14 h15 =>
 stK 20 v14 v12 h15 fun v16 h17 =>
 vK (unV .not v13) fun v18 =>
 iteK v18 (
 R (.bool true) h17) (
 vK (fldV 0 v14) fun v19 =>
 vK (ldV h17 v19) fun v20 =>
 vK (fldV 1 v14) fun v21 =>
 vK (ldV h17 v21) fun v22 =>
 vK (fldV 2 v14) fun v23 =>
 vK (ldsV 3 h17 v23) fun v24 =>
 vK (fldV 10 v14) fun v25 =>
 vK (ldsV 10 h17 v25) fun v26 =>
 FCall prog za8 #[v20, v22, v24, v26] h17 fun v27 h28 =>
 vK (extV v27 0) fun v29 =>
 vK (extV v27 1) fun v30 =>
 drawK h28 fun S =>
 vK (binV .i .neq v30 (.int .i64 0)) fun v31 =>
 vK (gV v31 false (some v29)) fun v32 =>
 vK (gV v31 false (binV .p .eql v32 (.pointer none))) fun v33 =>
 vK (pickV v31 (.bool true) v33) fun v34 =>
 vK (gV v34 false (some v29)) fun v35 =>
 vK (gV v34 false (fldV 10 v14)) fun v36 =>
 qK S (fun h28 => gV v34 false (ldsV 10 h28 v36)) fun v37 =>
 gK v34 false (fun k151 => FCall prog zdP #[v35] h28 k151) h28 fun v38 h39 =>
 S h39 ∧ (vK (gV v34 false (binV (.st [(0, 1, .i), (1, 4, (.st [(0, 1, .i), (1, 1, .i), (2, 1, .i), (3, 1, .i)])), (5, 1, .i), (6, 1, .i), (7, 1, .i), (8, 1, .i), (9, 1, .i)]) .neq v38 v37)) fun v40 =>
 vK (pickV v34 (.bool true) v40) fun v41 =>
 vK (gV v41 false (some v29)) fun v42 =>
 vK (gV v41 false (fldV 2 v14)) fun v43 =>
 vK (gV v41 false (fldV 1 v43)) fun v44 =>
 qK S (fun h39 => gV v41 false (ldV h39 v44)) fun v45 =>
 vK (gV v41 false (fldV 10 v14)) fun v46 =>
 vK (gV v41 false (fldV 1 v46)) fun v47 =>
 vK (gV v41 false (fldV 2 v47)) fun v48 =>
 qK S (fun h39 => gV v41 false (ldV h39 v48)) fun v49 =>
 vK (gV v41 false (fldV 0 v14)) fun v50 =>
 qK S (fun h39 => gV v41 false (ldV h39 v50)) fun v51 =>
 gK v41 false (fun k150 => FCall prog zdu #[v42] h39 k150) h39 fun v52 h53 =>
 S h53 ∧ (gK v41 false (fun k149 => FCall prog zaQ #[v45] h53 k149) h53 fun v54 h55 =>
 S h55 ∧ (vK (gV v41 false (binV .i .mul v54 v49)) fun v56 =>
 gK v41 false (fun k148 => FCall prog zaj #[v51] h55 k148) h55 fun v57 h58 =>
 S h58 ∧ (vK (gV v41 false (binV .i .mul v56 v57)) fun v59 =>
 vK (gV v41 false (binV .i .neq v52 v59)) fun v60 =>
 vK (pickV v41 (.bool true) v60) fun v61 =>
 iteK v61 (
 R (.bool false) h58) (
 vK (fldV 5 v14) fun v62 =>
 vK (ldsV 5 h58 v62) fun v63 =>
 vK (fldV 10 v14) fun v64 =>
 vK (fldV 1 v64) fun v65 =>
 vK (fldV 1 v65) fun v66 =>
 vK (ldV h58 v66) fun v67 =>
 vK (fldV 10 v14) fun v68 =>
 vK (fldV 1 v68) fun v69 =>
 vK (fldV 3 v69) fun v70 =>
 vK (ldV h58 v70) fun v71 =>
 FCall prog zgY #[v63, v67, v71] h58 fun v72 h73 =>
 vK (fldV 2 v14) fun v74 =>
 vK (ldsV 3 h73 v74) fun v75 =>
 vK (fldV 10 v14) fun v76 =>
 vK (ldsV 10 h73 v76) fun v77 =>
 FCall prog zcl #[v75, v77] h73 fun v78 h79 =>
 vK (zaf v72) fun v80 =>
 vK (binV .i .neq v78 v80) fun v81 =>
 iteK v81 (
 R (.bool false) h79) (
 vK (zaf v72) fun v82 =>
 loopK [(.int .i64 0)] h79 fun x83 j84 h85 again86 =>
 vK (binV .i .lss (ix x83 0) v82) fun v87 =>
 iteK v87 (
 vK (idxV 2 v72 (ix x83 0)) fun v88 =>
 vK (ldsV 2 h85 v88) fun v89 =>
 newK #[(.int .i64 0), (.int .i64 0)] 80 h85 fun v90 h91 =>
 stK 2 v90 v89 h91 fun v92 h93 =>
 FCall prog zaZ #[v29] h93 fun v94 h95 =>
 newK #[(.int .i64 0), (.int .i64 0)] 55 h95 fun v96 h97 =>
 stK 2 v96 v94 h97 fun v98 h99 =>
 drawK h99 fun S =>
 vK (fldV 0 v96) fun v100 =>
 qK S (fun h99 => ldV h99 v100) fun v101 =>
 vK (fldV 0 v90) fun v102 =>
 qK S (fun h99 => ldV h99 v102) fun v103 =>
 vK (binV .i .neq v101 v103) fun v104 =>
 vK (gV v104 false (fldV 1 v96)) fun v105 =>
 qK S (fun h99 => gV v104 false (ldV h99 v105)) fun v106 =>
 vK (gV v104 false (fldV 1 v90)) fun v107 =>
 qK S (fun h99 => gV v104 false (ldV h99 v107)) fun v108 =>
 vK (gV v104 false (binV .i .neq v106 v108)) fun v109 =>
 vK (pickV v104 (.bool true) v109) fun v110 =>
 vK (gV v110 false (some v29)) fun v111 =>
 qK S (fun h99 => gV v110 false (ldsV 2 h99 v96)) fun v112 =>
 gK v110 false (fun k130 => FCall prog zaH #[v111] h99 k130) h99 fun v113 h114 =>
 S h114 ∧ (vK (gV v110 false (binV (.st [(0, 1, .i), (1, 1, .i)]) .neq v113 v112)) fun v115 =>
 vK (pickV v110 (.bool true) v115) fun v116 =>
 vK (gV v116 false (some v29)) fun v117 =>
 vK (gV v116 false (fldV 2 v14)) fun v118 =>
 vK (gV v116 false (fldV 1 v118)) fun v119 =>
 qK S (fun h114 => gV v116 false (ldV h114 v119)) fun v120 =>
 gK v116 false (fun k129 => FCall prog zcF #[v117] h114 k129) h114 fun v121 h122 =>
 S h122 ∧ (gK v116 false (fun k128 => FCall prog zaQ #[v120] h122 k128) h122 fun v123 h124 =>
 vK (gV v116 false (binV .i .gtr v121 v123)) fun v125 =>
 vK (pickV v116 (.bool true) v125) fun v126 =>
 iteK v126 (
 R (.bool false) h124) (
 vK (binV .i .add (ix x83 0) (.int .i64 1)) fun v127 =>
 again86 [v127] h124)))) (
 FCall prog zaZ #[v29] h85 fun v131 h132 =>
 vK ((fillL #[(.int .i64 0), (.int .i64 0)] []).map .agg) fun v133 =>
 vK (binV (.st [(0, 1, .i), (1, 1, .i)]) .eql v131 v133) fun v134 =>
 vK (gV v134 true (some v29)) fun v135 =>
 gK v134 true (fun k147 => FCall prog zaH #[v135] h132 k147) h132 fun v136 h137 =>
 vK (gV v134 true ((fillL #[(.int .i64 0), (.int .i64 0)] []).map .agg)) fun v138 =>
 vK (gV v134 true (binV (.st [(0, 1, .i), (1, 1, .i)]) .eql v136 v138)) fun v139 =>
 vK (pickV v134 v139 (.bool false)) fun v140 =>
 vK (gV v140 true (some v29)) fun v141 =>
 gK v140 true (fun k146 => FCall prog zbp #[v141] h137 k146) h137 fun v142 h143 =>
 vK (gV v140 true (binV .i .eql v142 (.int .i64 0))) fun v144 =>
 vK (pickV v140 v144 (.bool false)) fun v145 =>
 R v145 h143)))))))))
theorem ziP (H : zeE a0 a1 a2 a3 a4 a5 h R) : FCall prog zc7 #[a0, a1, a2, a3, a4, a5] h R := fk f7 (.s .z (.s (.s .z (.s (.s .z .z) .z)) (.s .z (.s (.s .z (.s (.s .z .z) .z)) (.s .z (.s (.s (.d (.op 0 .r (.op 1 .r (.op 2 .r (.op 3 .r (.op 4 .r (.op 5 .r (.op 6 .r (.op 7 .r (.op 9 .r (.op 10 .r (.op 8 .e (.op 11 .r (.op 12 .r (.op 13 .r (.op 14 .r (.op 16 .r (.op 17 .r (.op 18 .r (.op 20 .r (.op 21 .r (.op 22 .r (.op 23 .r (.op 25 .r (.op 26 .r (.op 15 .e (.op 19 .e (.op 24 .r (.op 27 .e (.op 28 .r (.op 29 .r (.op 30 .r .nil)))))))))))))))))))))))))))))))) (.s (.s .z .z) .z)) (.s .z (.s (.s .z (.s (.s .z .z) .z)) (.s (.s .z (.l 10889035740836205530713872737068232740864 [99] (.s .z (.s (.s .z .z) (.s (.s .z (.s .z (.s (.d (.op 0 .r (.op 1 .r (.op 2 .r (.op 3 .r (.op 4 .r (.op 5 .r (.op 6 .r (.op 7 .r (.op 8 .r (.op 9 .r (.op 10 .r (.op 11 .r (.op 12 .r (.op 13 .r (.op 15 .r (.op 14 .e (.op 16 .r (.op 17 .r (.op 18 .r (.op 19 .r (.op 21 .r (.op 22 .r (.op 23 .r (.op 20 .e (.op 24 .n (.op 25 .r (.op 26 .r .nil)))))))))))))))))))))))))))) (.s (.s .z .z) .z)))) .z))))) (.s .z .z)))))))))) H
def zi9 (h : Heap) (R : Value → Heap → Prop) : Prop :=
 FCall prog zbv #[(.int .i64 3), (.int .i64 1), (.int .i64 1), (.int .i64 255)] h fun v1 h2 =>
 vK (extV v1 0) fun v3 =>
 vK (extV v1 1) fun v4 =>
 vK ((fillL #[(.int .i64 0), (.int .i64 0), (.int .i64 0), (.int .i64 0), (.slice none 0 0), (.slice none 0 0), (.int .i64 0), (.int .i64 0), (.int .i64 0)] [(0, 1, (.int .i64 1)), (3, 1, (.int .i64 1))]).map .agg) fun v5 =>
 FCall prog zfx #[v5, (.int .i64 3), (.int .i64 1)] h2 fun v6 h7 =>
 vK (extV v6 0) fun v8 =>
 vK (extV v6 1) fun v9 =>
 newK #[(.pointer none), (.pointer none), (.int .i64 0)] 36 h7 fun v10 h11 =>
 stK 3 v10 v8 h11 fun v12 h13 =>
 FCall prog zbv #[(.int .i64 3), (.int .i64 1), (.int .i64 1), (.int .i64 255)] h13 fun v14 h15 =>
 vK (extV v14 0) fun v16 =>
 vK (extV v14 1) fun v17 =>
 FCall prog zg8 #[] h15 fun v18 h19 =>
 vK (unV .not v18) fun v20 =>
 gK v20 false (fun k66 => FCall prog zg7 #[] h19 k66) h19 fun v21 h22 =>
 vK (gV v20 false (unV .not v21)) fun v23 =>
 vK (pickV v20 (.bool true) v23) fun v24 =>
 vK (gV v24 false (some v4)) fun v25 =>
 vK (gV v24 false (binV .i .neq v25 (.int .i64 0))) fun v26 =>
 vK (pickV v24 (.bool true) v26) fun v27 =>
 vK (gV v27 false (some v9)) fun v28 =>
 vK (gV v27 false (binV .i .neq v28 (.int .i64 0))) fun v29 =>
 vK (pickV v27 (.bool true) v29) fun v30 =>
 vK (gV v30 false (some v17)) fun v31 =>
 vK (gV v30 false (binV .i .neq v31 (.int .i64 0))) fun v32 =>
 vK (pickV v30 (.bool true) v32) fun v33 =>
 iteK v33 (
 R (.bool false) h22) (
 vK (ldsV 3 h22 v10) fun v34 =>
 vK ((fillL #[(.int .i64 0), (.int .i64 0), (.int .i64 0), (.int .i64 0)] [(2, 1, (.int .i64 3)), (3, 1, (.int .i64 1))]).map .agg) fun v35 =>
 vK ((fillL #[(.int .i64 0), (.int .i64 0), (.int .i64 0), (.int .i64 0), (.int .i64 0), (.int .i64 0), (.int .i64 0), (.int .i64 0), (.int .i64 0), (.int .i64 0)] [(1, 4, v35)]).map .agg) fun v36 =>
 FCall prog za8 #[v3, v16, v34, v36] h22 fun v37 h38 =>
 vK (extV v37 0) fun v39 =>
 vK (extV v37 1) fun v40 =>
 vK (binV .i .neq v40 (.int .i64 0)) fun v41 =>
 vK (gV v41 false (some v39)) fun v42 =>
 vK (gV v41 false (binV .p .eql v42 (.pointer none))) fun v43 =>
 vK (pickV v41 (.bool true) v43) fun v44 =>
 iteK v44 (
 R (.bool false) h38) (
 loopK [(.int .i64 (-1))] h38 fun x45 j46 h47 again48 =>
 vK (binV .i .lss (ix x45 0) (.int .i64 2)) fun v49 =>
 iteK v49 (
 FCall prog zaH #[v39] h47 fun v50 h51 =>
 vK ((fillL #[(.int .i64 0), (.int .i64 0)] [(0, 1, (.int .i64 1)), (1, 1, (ix x45 0))]).map .agg) fun v52 =>
 vK (binV (.st [(0, 1, .i), (1, 1, .i)]) .neq v50 v52) fun v53 =>
 iteK v53 (
 R (.bool false) h51) (
 vK (binV .i .add (ix x45 0) (.int .i64 1)) fun v54 =>
 again48 [v54] h51)) (
 FCall prog zaH #[v39] h47 fun v55 h56 =>
 vK ((fillL #[(.int .i64 0), (.int .i64 0)] [(0, 1, (.int .i64 2))]).map .agg) fun v57 =>
 vK (binV (.st [(0, 1, .i), (1, 1, .i)]) .eql v55 v57) fun v58 =>
 vK (gV v58 true (some v39)) fun v59 =>
 gK v58 true (fun k65 => FCall prog zaH #[v59] h56 k65) h56 fun v60 h61 =>
 vK (gV v58 true ((fillL #[(.int .i64 0), (.int .i64 0)] []).map .agg)) fun v62 =>
 vK (gV v58 true (binV (.st [(0, 1, .i), (1, 1, .i)]) .eql v60 v62)) fun v63 =>
 vK (pickV v58 v63 (.bool false)) fun v64 =>
 R v64 h61)))
theorem zoz (H : zi9 h R) : FCall prog zbR #[] h R := fk f8 (.s .z (.s .z (.s .z (.s .z (.s (.s .z (.s (.s .z .z) .z)) (.s .z (.s (.s .z (.s (.s .z .z) .z)) (.s (.s .z (.l 36821430553381175809 [9] (.s (.s .z (.s .z .z)) (.s (.s .z (.s (.s .z .z) .z)) .z)))) (.s .z .z))))))))) H
def zi8 (a0 a1 a2 a3 a4 a5 : Value) (h : Heap) (R : Value → Heap → Prop) : Prop :=
 newK (Value.cells a0) 25 h fun v1 h2 =>
 newK (Value.cells a1) 31 h2 fun v3 h4 =>
 newK #[(.pointer none), (.pointer none), (.pointer none), (.pointer none), (.int .i64 0), (.slice none 0 0), (.slice none 0 0), (.int .i64 0), (.int .i64 0), (.int .i64 0), (.int .i64 0), (.int .i64 0), (.int .i64 0), (.int .i64 0), (.int .i64 0), (.int .i64 0), (.int .i64 0), (.int .i64 0), (.int .i64 0), (.int .i64 0)] 45 h4 fun v5 h6 =>
 vK (ldsV 5 h6 v1) fun v7 =>
 FCall prog zcP #[v7] h6 fun v8 h9 =>
 vK (ldsV 9 h9 v3) fun v10 =>
 rowK #[(.int .i64 0), (.int .i64 0), (.int .i64 0), (.int .i64 0), (.slice none 0 0), (.slice none 0 0), (.int .i64 0), (.int .i64 0), (.int .i64 0)] 31 1 [(0, 9, v10)] h9 fun v11 h12 =>
 FCall prog zgf #[v11, v8] h12 fun v13 h14 =>
 vK (extV v13 0) fun v15 =>
 vK (extV v13 1) fun v16 =>
 vK (extV v13 2) fun v17 =>
 vK (unV .not v17) fun v18 =>
 iteK v18 (
 vK ((fillL #[(.pointer none), (.pointer none), (.pointer none), (.pointer none), (.int .i64 0), (.slice none 0 0), (.slice none 0 0), (.int .i64 0), (.int .i64 0), (.int .i64 0), (.int .i64 0), (.int .i64 0), (.int .i64 0), (.int .i64 0), (.int .i64 0), (.int .i64 0), (.int .i64 0), (.int .i64 0), (.int .i64 0), (.int .i64 0)] []).map .agg) fun v19 =>
 stK 20 v5 v19 h14 fun v20 h21 =>
 vK (ldsV 20 h21 v5) fun v22 =>
 R (.tuple #[v22, (.bool false)]) h21) (
 drawK h14 fun S =>
 vK (idxV 3 v15 (.int .i64 0)) fun v23 =>
 vK (fldV 0 v23) fun v24 =>
 qK S (fun h14 => ldV h14 v24) fun v25 =>
 vK (idxV 3 v15 (.int .i64 0)) fun v26 =>
 vK (fldV 1 v26) fun v27 =>
 qK S (fun h14 => ldV h14 v27) fun v28 =>
 FCall prog zap #[v25] h14 fun v29 h30 =>
 S h30 ∧ (FCall prog zap #[v28] h30 fun v31 h32 =>
 FCall prog zaj #[v8] h32 fun v33 h34 =>
 FCall prog zay #[v8] h34 fun v35 h36 =>
 FCall prog zbv #[v29, v31, v33, v35] h36 fun v37 h38 =>
 vK (extV v37 0) fun v39 =>
 vK (extV v37 1) fun v40 =>
 drawK h38 fun S =>
 vK (cviV .i64 a2) fun v41 =>
 vK (binV .i .rem v41 v29) fun v42 =>
 vK (cviV .i64 a3) fun v43 =>
 vK (binV .i .rem v43 v31) fun v44 =>
 vK ((fillL #[(.int .i64 0), (.int .i64 0), (.int .i64 0), (.int .i64 0)] [(0, 1, v42), (1, 1, v44)]).map .agg) fun v45 =>
 vK ((fillL #[(.int .i64 0), (.int .i64 0), (.int .i64 0), (.int .i64 0), (.int .i64 0), (.int .i64 0), (.int .i64 0), (.int .i64 0), (.int .i64 0), (.int .i64 0)] [(1, 4, v45)]).map .agg) fun v46 =>
 newK #[(.int .i64 0), (.int .i64 0), (.int .i64 0), (.int .i64 0), (.int .i64 0), (.int .i64 0), (.int .i64 0), (.int .i64 0), (.int .i64 0), (.int .i64 0)] 43 h38 fun v47 h48 =>
 stK 10 v47 v46 h48 fun v49 h50 =>
 drawK h50 fun S =>
 vK (cviV .i64 a4) fun v51 =>
 vK (fldV 1 v47) fun v52 =>
 vK (fldV 0 v52) fun v53 =>
 qK S (fun h50 => ldV h50 v53) fun v54 =>
 vK (binV .i .sub v29 v54) fun v55 =>
 vK (binV .i .rem v51 v55) fun v56 =>
 vK (binV .i .add (.int .i64 1) v56) fun v57 =>
 vK (cviV .i64 a5) fun v58 =>
 vK (fldV 1 v47) fun v59 =>
 vK (fldV 1 v59) fun v60 =>
 qK S (fun h50 => ldV h50 v60) fun v61 =>
 vK (binV .i .sub v31 v61) fun v62 =>
 vK (binV .i .rem v58 v62) fun v63 =>
 vK (binV .i .add (.int .i64 1) v63) fun v64 =>
 vK (fldV 1 v47) fun v65 =>
 vK (fldV 2 v65) fun v66 =>
 stK 1 v66 v57 h50 fun v67 h68 =>
 vK (fldV 1 v47) fun v69 =>
 vK (fldV 3 v69) fun v70 =>
 stK 1 v70 v64 h68 fun v71 h72 =>
 drawK h72 fun S =>
 vK (idxV 3 v15 (.int .i64 0)) fun v73 =>
 qK S (fun h72 => ldsV 3 h72 v73) fun v74 =>
 vK (idxV 5 v16 (.int .i64 0)) fun v75 =>
 qK S (fun h72 => ldsV 5 h72 v75) fun v76 =>
 qK S (fun h72 => ldsV 10 h72 v47) fun v77 =>
 vK ((fillL #[(.pointer none), (.pointer none), (.pointer none), (.pointer none), (.int .i64 0), (.slice none 0 0), (.slice none 0 0), (.int .i64 0), (.int .i64 0), (.int .i64 0), (.int .i64 0), (.int .i64 0), (.int .i64 0), (.int .i64 0), (.int .i64 0), (.int .i64 0), (.int .i64 0), (.int .i64 0), (.int .i64 0), (.int .i64 0)] [(0, 1, v8), (1, 1, v39), (2, 3, v74), (5, 5, v76), (10, 10, v77)]).map .agg) fun v78 =>
 vK (binV .i .eql v40 (.int .i64 0)) fun v79 =>
 stK 20 v5 v78 h72 fun v80 h81 =>
 vK (ldsV 20 h81 v5) fun v82 =>
 R (.tuple #[v82, v79]) h81))
theorem zoy (H : zi8 a0 a1 a2 a3 a4 a5 h R) : FCall prog zbQ #[a0, a1, a2, a3, a4, a5] h R := fk f9 (.s .z (.s .z (.s .z (.s (.s .z (.s (.s .z .z) .z)) (.s (.d (.op 0 .r (.op 1 .r (.op 2 .r (.op 3 .r (.op 5 .r (.op 6 .r (.op 7 .r (.op 8 .r (.op 4 .e (.op 9 .n (.op 10 .r (.op 11 .r .nil))))))))))))) (.s .z (.s (.d (.op 0 .r (.op 1 .r (.op 2 .r (.op 3 .r (.op 4 .r (.op 5 .r (.op 6 .r (.op 7 .r (.op 8 .r (.op 9 .r (.op 10 .n (.op 11 .n .nil))))))))))))) (.s (.d (.op 0 .r (.op 1 .r (.op 2 .r (.op 3 .r (.op 4 .r (.op 5 .r (.op 6 .r (.op 7 .r (.op 8 .r (.op 9 .r (.op 10 .r (.op 11 .r (.op 12 .r (.op 13 .r (.op 14 .r (.op 15 .r (.op 16 .r (.op 17 .r (.op 18 .r (.op 19 .r (.op 20 .n (.op 21 .r (.op 22 .r (.op 23 .n .nil))))))))))))))))))))))))) (.s (.d (.op 0 .r (.op 1 .r (.op 2 .r (.op 3 .r (.op 4 .r (.op 5 .r (.op 6 .r (.op 7 .r (.op 8 .r (.op 9 .r (.op 10 .r (.op 11 .r (.op 12 .n (.op 13 .r .nil))))))))))))))) .z))))))))) H
def zgG (a0 a1 a2 a3 : Value) (h : Heap) (R : Value → Heap → Prop) : Prop :=
 newK (Value.cells a2) 36 h fun v1 h2 =>
 newK (Value.cells a3) 43 h2 fun v3 h4 =>
 vK (ldsV 3 h4 v1) fun v5 =>
 FCall prog zbT #[a0, a1, v5] h4 fun v6 h7 =>
 vK (unV .not v6) fun v8 =>
 iteK v8 (
 R (.tuple #[(.pointer none), (.int .i64 6)]) h7) (
 vK (ldsV 3 h7 v1) fun v9 =>
 vK (fldV 1 v3) fun v10 =>
 vK (ldsV 4 h7 v10) fun v11 =>
 FCall prog zds #[v9, v11] h7 fun v12 h13 =>
 vK (unV .not v12) fun v14 =>
 iteK v14 (
 R (.tuple #[(.pointer none), (.int .i64 9)]) h13) (
 drawK h13 fun S =>
 qK S (fun h13 => ldsV 3 h13 v1) fun v15 =>
 qK S (fun h13 => ldsV 10 h13 v3) fun v16 =>
 vK (fldV 1 v1) fun v17 =>
 qK S (fun h13 => ldV h13 v17) fun v18 =>
 vK (fldV 1 v3) fun v19 =>
 vK (fldV 2 v19) fun v20 =>
 qK S (fun h13 => ldV h13 v20) fun v21 =>
 vK (fldV 1 v3) fun v22 =>
 vK (fldV 1 v22) fun v23 =>
 qK S (fun h13 => ldV h13 v23) fun v24 =>
 FCall prog zaQ #[v18] h13 fun v25 h26 =>
 S h26 ∧ (FCall prog zaj #[a0] h26 fun v27 h28 =>
 S h28 ∧ (vK (binV .i .mul v21 v27) fun v29 =>
 FCall prog zlM #[v25, v29] h28 fun v30 h31 =>
 S h31 ∧ (vK ((fillL #[(.pointer none), (.pointer none), (.pointer none), (.pointer none), (.int .i64 0), (.int .i64 0), (.int .i64 0), (.int .i64 0), (.int .i64 0), (.int .i64 0), (.int .i64 0), (.int .i64 0), (.int .i64 0), (.int .i64 0), (.int .i64 0), (.pointer none), (.int .i64 0)] [(0, 1, a0), (1, 1, a1), (2, 3, v15), (5, 10, v16), (15, 1, v30), (16, 1, v24)]).map .agg) fun v32 =>
 newK (Value.cells v32) 93 h31 fun v33 h34 =>
 R (.tuple #[v33, (.int .i64 0)]) h34)))))
theorem zkA (H : zgG a0 a1 a2 a3 h R) : FCall prog za8 #[a0, a1, a2, a3] h R := fk f10 (.s .z (.s (.s .z (.s (.s .z .z) (.s .z (.s (.s .z .z) .z)))) (.s (.d (.op 0 .r (.op 1 .r (.op 2 .r (.op 3 .r (.op 4 .r (.op 5 .r (.op 7 .r (.op 8 .r (.op 9 .r (.op 10 .r (.op 14 .r (.op 15 .r (.op 16 .r (.op 6 .e (.op 11 .e (.op 12 .r (.op 13 .e (.op 17 .r (.op 18 .n (.op 19 .r (.op 20 .r .nil)))))))))))))))))))))) .z))) H
def zfD (a0 : Value) (h : Heap) (R : Value → Heap → Prop) : Prop :=
 newK #[(.int .i64 0), (.int .i64 0)] 55 h fun v1 h2 =>
 FCall prog zaZ #[a0] h2 fun v3 h4 =>
 newK #[(.int .i64 0), (.int .i64 0)] 55 h4 fun v5 h6 =>
 stK 2 v5 v3 h6 fun v7 h8 =>
 vK (fldV 0 v5) fun v9 =>
 vK (ldV h8 v9) fun v10 =>
 vK (binV .i .eql v10 (.int .i64 1)) fun v11 =>
 iteK v11 (
 vK (fldV 1 v5) fun v12 =>
 vK (ldV h8 v12) fun v13 =>
 FCall prog zc2 #[a0, v13] h8 fun v14 h15 =>
 vK (ldsV 2 h15 v5) fun v16 =>
 stK 2 v1 v16 h15 fun v17 h18 =>
 vK (ldsV 2 h18 v1) fun v19 =>
 R v19 h18) (
 vK (binV .i .eql v10 (.int .i64 2)) fun v20 =>
 iteK v20 (
 FCall prog zdt #[a0] h8 fun v21 h22 =>
 vK (ldsV 2 h22 v5) fun v23 =>
 stK 2 v1 v23 h22 fun v24 h25 =>
 vK (ldsV 2 h25 v1) fun v26 =>
 R v26 h25) (
 vK (ldsV 2 h8 v5) fun v27 =>
 stK 2 v1 v27 h8 fun v28 h29 =>
 vK (ldsV 2 h29 v1) fun v30 =>
 R v30 h29))
theorem zkE (H : zfD a0 h R) : FCall prog zaH #[a0] h R := fk f11 (.s .z (.s .z (.s (.s .z (.s .z (.s .z (.s .z (.s .z .z))))) (.s .z .z)))) H
def zfE (a0 : Value) (h : Heap) (R : Value → Heap → Prop) : Prop :=
 newK #[(.int .i64 0), (.int .i64 0)] 55 h fun v1 h2 =>
 FCall prog zdO #[a0] h2 fun v3 h4 =>
 iteK v3 (
 vK ((fillL #[(.int .i64 0), (.int .i64 0)] []).map .agg) fun v5 =>
 stK 2 v1 v5 h4 fun v6 h7 =>
 vK (ldsV 2 h7 v1) fun v8 =>
 R v8 h7) (
 FCall prog zcE #[a0] h4 fun v9 h10 =>
 newK #[(.int .i64 0), (.slice none 0 0)] 96 h10 fun v11 h12 =>
 stK 2 v11 v9 h12 fun v13 h14 =>
 drawK h14 fun S =>
 vK (nilV a0) fun v15 =>
 vK (fldV 15 v15) fun v16 =>
 qK S (fun h14 => ldV h14 v16) fun v17 =>
 vK (fldV 0 v11) fun v18 =>
 qK S (fun h14 => ldV h14 v18) fun v19 =>
 vK (fldV 0 v11) fun v20 =>
 qK S (fun h14 => ldV h14 v20) fun v21 =>
 vK (fldV 1 v11) fun v22 =>
 qK S (fun h14 => ldV h14 v22) fun v23 =>
 qK S (fun h14 => zaf v23) fun v24 =>
 vK (binV .i .add v21 v24) fun v25 =>
 FCall prog zer #[v17, v19, v25] h14 fun v26 h27 =>
 vK (extV v26 0) fun v28 =>
 vK (extV v26 1) fun v29 =>
 iteK v29 (
 vK ((fillL #[(.int .i64 0), (.int .i64 0)] [(0, 1, (.int .i64 1)), (1, 1, v28)]).map .agg) fun v30 =>
 stK 2 v1 v30 h27 fun v31 h32 =>
 vK (ldsV 2 h32 v1) fun v33 =>
 R v33 h32) (
 vK (nilV a0) fun v34 =>
 vK (fldV 16 v34) fun v35 =>
 vK (ldV h27 v35) fun v36 =>
 vK ((fillL #[(.int .i64 0), (.int .i64 0)] [(0, 1, (.int .i64 2)), (1, 1, v36)]).map .agg) fun v37 =>
 stK 2 v1 v37 h27 fun v38 h39 =>
 vK (ldsV 2 h39 v1) fun v40 =>
 R v40 h39))
theorem zkF (H : zfE a0 h R) : FCall prog zaZ #[a0] h R := fk f12 (.s .z (.s (.s .z (.s (.s .z .z) .z)) (.s .z (.s (.s (.d (.op 0 .r (.op 1 .r (.op 2 .r (.op 3 .r (.op 4 .r (.op 5 .r (.op 6 .r (.op 7 .r (.op 8 .r (.op 9 .r (.op 10 .r (.op 11 .r (.op 12 .n (.op 13 .r (.op 14 .r (.op 15 .r (.op 16 .r (.op 17 .r .nil))))))))))))))))))) (.s .z (.s (.s .z .z) .z))) (.s .z .z))))) H
def zgn (a0 : Value) (h : Heap) (R : Value → Heap → Prop) : Prop :=
 vK (nilV a0) fun v1 =>
 vK (fldV 1 v1) fun v2 =>
 vK (ldV h v2) fun v3 =>
 vK (zaf v3) fun v4 =>
 R v4 h
theorem zlq (H : zgn a0 h R) : FCall prog zap #[a0] h R := fk f13 (.s .z (.s .z .z)) H
def zhD (a0 a1 : Value) (h : Heap) (R : Value → Heap → Prop) : Prop :=
 newK (Value.cells a0) 36 h fun v1 h2 =>
 newK (Value.cells a1) 43 h2 fun v3 h4 =>
 vK (ldsV 3 h4 v1) fun v5 =>
 vK (fldV 1 v3) fun v6 =>
 vK (ldsV 4 h4 v6) fun v7 =>
 FCall prog zds #[v5, v7] h4 fun v8 h9 =>
 vK (unV .not v8) fun v10 =>
 iteK v10 (
 R (.int .i64 0) h9) (
 vK (fldV 1 v3) fun v11 =>
 vK (fldV 3 v11) fun v12 =>
 vK (ldV h9 v12) fun v13 =>
 vK (fldV 1 v1) fun v14 =>
 vK (ldV h9 v14) fun v15 =>
 vK (fldV 1 v3) fun v16 =>
 vK (fldV 1 v16) fun v17 =>
 vK (ldV h9 v17) fun v18 =>
 FCall prog zai #[v15, v18] h9 fun v19 h20 =>
 vK (partV false 1 0 v19) fun v21 =>
 vK (fldV 1 v3) fun v22 =>
 vK (fldV 3 v22) fun v23 =>
 vK (ldV h20 v23) fun v24 =>
 loopK [v13, v21, (.int .i64 0)] h20 fun x25 j26 h27 again28 =>
 vK (binV .i .lss (ix x25 2) v24) fun v29 =>
 iteK v29 (
 vK (fldV 1 v1) fun v30 =>
 vK (ldV h27 v30) fun v31 =>
 vK (fldV 1 v3) fun v32 =>
 vK (fldV 1 v32) fun v33 =>
 vK (ldV h27 v33) fun v34 =>
 vK (binV .i .add v34 (ix x25 2)) fun v35 =>
 FCall prog zai #[v31, v35] h27 fun v36 h37 =>
 newK #[(.int .i64 0), (.slice none 0 0)] 96 h37 fun v38 h39 =>
 stK 2 v38 v36 h39 fun v40 h41 =>
 vK (fldV 0 v38) fun v42 =>
 vK (ldV h41 v42) fun v43 =>
 vK (fldV 1 v38) fun v44 =>
 vK (ldV h41 v44) fun v45 =>
 vK (zaf v45) fun v46 =>
 vK (binV .i .add v43 v46) fun v47 =>
 vK (fldV 0 v38) fun v48 =>
 vK (ldV h41 v48) fun v49 =>
 vK (maxV (ix x25 1) v49) fun v50 =>
 vK (binV .i .sub v47 v50) fun v51 =>
 vK (maxV (.int .i64 0) v51) fun v52 =>
 vK (binV .i .add (ix x25 0) v52) fun v53 =>
 vK (maxV (ix x25 1) v47) fun v54 =>
 vK (binV .i .add (ix x25 2) (.int .i64 1)) fun v55 =>
 again28 [v53, v54, v55] h41) (
 R (ix x25 0) h27))
theorem znu (H : zhD a0 a1 h R) : FCall prog zcl #[a0, a1] h R := fk f14 (.s .z (.s (.s .z (.s (.s .z .z) .z)) (.s .z (.s .z (.s (.s .z (.l 288230375883277280 [5, 6, 28] (.s .z (.s (.s .z .z) (.s (.s .z (.s .z (.s .z (.s .z .z)))) .z))))) (.s .z .z)))))) H
def zkk (a0 a1 a2 a3 : Value) (h : Heap) (R : Value → Heap → Prop) : Prop :=
 vK (binV .i .lss a3 (.int .i64 1)) fun v1 =>
 vK (gV v1 false (some a3)) fun v2 =>
 vK (gV v1 false (binV .i .gtr v2 (.int .i64 65535))) fun v3 =>
 vK (pickV v1 (.bool true) v3) fun v4 =>
 vK (gV v4 false (some a2)) fun v5 =>
 vK (gV v4 false (binV .i .neq v5 (.int .i64 1))) fun v6 =>
 vK (gV v4 false (some v6)) fun v7 =>
 vK (gV v7 true (some a2)) fun v8 =>
 vK (gV v7 true (binV .i .neq v8 (.int .i64 3))) fun v9 =>
 vK (gV v4 false (pickV v7 v9 (.bool false))) fun v10 =>
 vK (pickV v4 (.bool true) v10) fun v11 =>
 iteK v11 (
 R (.tuple #[(.pointer none), (.int .i64 2)]) h) (
 FCall prog zdy #[a0, a1, a2] h fun v12 h13 =>
 vK (unV .not v12) fun v14 =>
 iteK v14 (
 R (.tuple #[(.pointer none), (.int .i64 5)]) h13) (
 vK (binV .i .mul a0 a1) fun v15 =>
 vK (binV .i .mul v15 a2) fun v16 =>
 mkK (.int .u16 0) 22 1 2 v16 v16 h13 fun v17 h18 =>
 vK ((fillL #[(.int .i64 0), (.int .i64 0), (.int .i64 0), (.int .i64 0), (.slice none 0 0)] [(0, 1, a0), (1, 1, a1), (2, 1, a2), (3, 1, a3), (4, 1, v17)]).map .agg) fun v19 =>
 newK (Value.cells v19) 106 h18 fun v20 h21 =>
 R (.tuple #[v20, (.int .i64 0)]) h21))
theorem zqj (H : zkk a0 a1 a2 a3 h R) : FCall prog zbv #[a0, a1, a2, a3] h R := fk f15 (.s .z (.s (.s .z (.s (.s .z .z) (.s .z (.s (.s .z .z) .z)))) (.s .z .z))) H
def zdb (a0 : Value) (h : Heap) (R : Value → Heap → Prop) : Prop :=
 vK (nilV a0) fun v1 =>
 vK (fldV 2 v1) fun v2 =>
 vK (ldV h v2) fun v3 =>
 R v3 h
theorem zgw (H : zdb a0 h R) : FCall prog zaj #[a0] h R := fk f16 (.s .z (.s .z .z)) H
def zeB (a0 : Value) (h : Heap) (R : Value → Heap → Prop) : Prop :=
 vK (nilV a0) fun v1 =>
 vK (fldV 3 v1) fun v2 =>
 vK (ldV h v2) fun v3 =>
 R v3 h
theorem ziM (H : zeB a0 h R) : FCall prog zay #[a0] h R := fk f17 (.s .z (.s .z .z)) H
def zd9 (a0 : Value) (h : Heap) (R : Value → Heap → Prop) : Prop :=
 vK (nilV a0) fun v1 =>
 vK (fldV 0 v1) fun v2 =>
 vK (ldV h v2) fun v3 =>
 R v3 h
theorem zhX (H : zd9 a0 h R) : FCall prog zaw #[a0] h R := fk f18 (.s .z (.s .z .z)) H
def zdF (a0 : Value) (h : Heap) (R : Value → Heap → Prop) : Prop :=
 vK (nilV a0) fun v1 =>
 vK (fldV 1 v1) fun v2 =>
 vK (ldV h v2) fun v3 =>
 R v3 h
theorem zhw (H : zdF a0 h R) : FCall prog zas #[a0] h R := fk f19 (.s .z (.s .z .z)) H
def zfa (a0 a1 a2 a3 a4 : Value) (h : Heap) (R : Value → Heap → Prop) : Prop :=
 FCall prog zb0 #[a0, a1, a2, a3] h fun v1 h2 =>
 vK (binV .i .lss v1 (.int .i64 0)) fun v3 =>
 vK (gV v3 false (some a4)) fun v4 =>
 vK (gV v3 false (cviV .i64 v4)) fun v5 =>
 vK (gV v3 false (some a0)) fun v6 =>
 vK (gV v3 false (nilV v6)) fun v7 =>
 vK (gV v3 false (fldV 3 v7)) fun v8 =>
 vK (gV v3 false (ldV h2 v8)) fun v9 =>
 vK (gV v3 false (binV .i .gtr v5 v9)) fun v10 =>
 vK (pickV v3 (.bool true) v10) fun v11 =>
 iteK v11 (
 R (.bool false) h2) (
 vK (nilV a0) fun v12 =>
 vK (fldV 4 v12) fun v13 =>
 vK (ldV h2 v13) fun v14 =>
 vK (idxV 1 v14 v1) fun v15 =>
 stK 1 v15 a4 h2 fun v16 h17 =>
 R (.bool true) h17)
theorem zjy (H : zfa a0 a1 a2 a3 a4 h R) : FCall prog za7 #[a0, a1, a2, a3, a4] h R := fk f20 (.s .z (.s .z (.s (.s .z (.s (.s .z .z) .z)) (.s .z (.s .z .z))))) H
def zmd (a0 : Value) (h : Heap) (R : Value → Heap → Prop) : Prop :=
 newK #[(.int .i64 0), (.int .i64 0), (.int .i64 0), (.int .i64 0), (.slice none 0 0)] 65 h fun v1 h2 =>
 FCall prog zaw #[a0] h2 fun v3 h4 =>
 FCall prog zas #[a0] h4 fun v5 h6 =>
 FCall prog zaj #[a0] h6 fun v7 h8 =>
 FCall prog zay #[a0] h8 fun v9 h10 =>
 FCall prog zbG #[a0] h10 fun v11 h12 =>
 vK ((fillL #[(.int .i64 0), (.int .i64 0), (.int .i64 0), (.int .i64 0), (.slice none 0 0)] [(0, 1, v3), (1, 1, v5), (2, 1, v7), (3, 1, v9), (4, 1, v11)]).map .agg) fun v13 =>
 stK 5 v1 v13 h12 fun v14 h15 =>
 vK (ldsV 5 h15 v1) fun v16 =>
 R v16 h15
theorem ok_law09_Ref (H : zmd a0 h R) : FCall prog zg9 #[a0] h R := fk f21 (.s .z (.s .z .z)) H
def zgl (a0 : Value) (h : Heap) (R : Value → Heap → Prop) : Prop :=
 loopK [(.int .i64 0)] h fun x1 j2 h3 again4 =>
 FCall prog zaH #[a0] h3 fun v5 h6 =>
 vK (partV false 1 0 v5) fun v7 =>
 vK (binV .i .neq v7 (.int .i64 0)) fun v8 =>
 iteK v8 (
 vK (binV .i .add (ix x1 0) (.int .i64 1)) fun v9 =>
 again4 [v9] h6) (
 R (ix x1 0) h6)
theorem zlo (H : zgl a0 h R) : FCall prog zbp #[a0] h R := fk f22 (.s .z (.s .z (.s (.l 1016 [3] (.s (.s .z (.s .z .z)) .z)) (.s .z .z)))) H
def ziY (a0 a1 : Value) (h : Heap) (R : Value → Heap → Prop) : Prop :=
 newK (Value.cells a0) 65 h fun v1 h2 =>
 newK (Value.cells a1) 39 h2 fun v3 h4 =>
 newK #[(.int .i64 0), (.int .i64 0), (.int .i64 0), (.int .i64 0), (.slice none 0 0)] 65 h4 fun v5 h6 =>
 vK (fldV 0 v3) fun v7 =>
 vK (ldV h6 v7) fun v8 =>
 vK (zaf v8) fun v9 =>
 vK (fldV 1 v3) fun v10 =>
 vK (ldV h6 v10) fun v11 =>
 vK (zaf v11) fun v12 =>
 vK (fldV 2 v1) fun v13 =>
 vK (ldV h6 v13) fun v14 =>
 vK (fldV 3 v1) fun v15 =>
 vK (ldV h6 v15) fun v16 =>
 vK ((fillL #[(.int .i64 0), (.int .i64 0), (.int .i64 0), (.int .i64 0), (.slice none 0 0)] [(0, 1, v9), (1, 1, v12), (2, 1, v14), (3, 1, v16)]).map .agg) fun v17 =>
 newK #[(.int .i64 0), (.int .i64 0), (.int .i64 0), (.int .i64 0), (.slice none 0 0)] 65 h6 fun v18 h19 =>
 stK 5 v18 v17 h19 fun v20 h21 =>
 vK (fldV 1 v3) fun v22 =>
 vK (ldV h21 v22) fun v23 =>
 vK (zaf v23) fun v24 =>
 loopK [(.int .i64 0)] h21 fun x25 j26 h27 again28 =>
 vK (binV .i .lss (ix x25 0) v24) fun v29 =>
 iteK v29 (
 vK (fldV 0 v3) fun v30 =>
 vK (ldV h27 v30) fun v31 =>
 vK (zaf v31) fun v32 =>
 loopK [(.int .i64 0)] h27 fun x33 j34 h35 again36 =>
 vK (binV .i .lss (ix x33 0) v32) fun v37 =>
 iteK v37 (
 vK (fldV 2 v1) fun v38 =>
 vK (ldV h35 v38) fun v39 =>
 loopK [(.int .i64 0)] h35 fun x40 j41 h42 again43 =>
 vK (binV .i .lss (ix x40 0) v39) fun v44 =>
 iteK v44 (
 drawK h42 fun S =>
 vK (fldV 4 v18) fun v45 =>
 qK S (fun h42 => ldV h42 v45) fun v46 =>
 qK S (fun h42 => ldsV 5 h42 v1) fun v47 =>
 qK S (fun h42 => ldsV 5 h42 v3) fun v48 =>
 vK (fldV 3 v1) fun v49 =>
 qK S (fun h42 => ldV h42 v49) fun v50 =>
 FCall prog zjI #[v47, v48, (ix x33 0), (ix x25 0), (ix x40 0)] h42 fun v51 h52 =>
 S h52 ∧ (FCall prog zgZ #[v51, v50] h52 fun v53 h54 =>
 S h54 ∧ (rowK #[(.int .u16 0)] 22 1 [(0, 1, v53)] h54 fun v55 h56 =>
 S h56 ∧ (appK (.int .u16 0) 22 1 2 v46 v55 h56 fun v57 h58 =>
 vK (fldV 4 v18) fun v59 =>
 stK 1 v59 v57 h58 fun v60 h61 =>
 vK (binV .i .add (ix x40 0) (.int .i64 1)) fun v62 =>
 again43 [v62] h61)))) (
 vK (binV .i .add (ix x33 0) (.int .i64 1)) fun v63 =>
 again36 [v63] h42)) (
 vK (binV .i .add (ix x25 0) (.int .i64 1)) fun v64 =>
 again28 [v64] h35)) (
 vK (ldsV 5 h27 v18) fun v65 =>
 stK 5 v5 v65 h27 fun v66 h67 =>
 vK (ldsV 5 h67 v5) fun v68 =>
 R v68 h67)
theorem zoo (H : ziY a0 a1 h R) : FCall prog zg0 #[a0, a1] h R := fk f23 (.s .z (.s .z (.s (.s .z (.l 18014398501093824 [23] (.s .z (.s (.s .z .z) (.s (.s .z (.s .z (.l 9007198717870464 [29] (.s .z (.s (.s .z .z) (.s (.s .z (.s .z (.l 4503582447501568 [34] (.s .z (.s (.s .z .z) (.s (.s .z (.d (.op 0 .r (.op 1 .r (.op 2 .r (.op 3 .r (.op 4 .r (.op 5 .r (.op 6 .r (.op 8 .r (.op 9 .r (.op 7 .e (.op 10 .e (.op 11 .e (.op 12 .n (.op 13 .r (.op 14 .n .nil))))))))))))))))) .z)))))) .z)))))) .z))))) (.s .z .z)))) H
def zm9 (a0 a1 a2 a3 : Value) (h : Heap) (R : Value → Heap → Prop) : Prop :=
 newK (Value.cells a0) 65 h fun v1 h2 =>
 vK (ldsV 5 h2 v1) fun v3 =>
 FCall prog zlO #[v3, a1, a2, a3] h2 fun v4 h5 =>
 vK (unV .not v4) fun v6 =>
 iteK v6 (
 R (.int .u16 0) h5) (
 vK (fldV 4 v1) fun v7 =>
 vK (ldV h5 v7) fun v8 =>
 vK (fldV 0 v1) fun v9 =>
 vK (ldV h5 v9) fun v10 =>
 vK (binV .i .mul a2 v10) fun v11 =>
 vK (fldV 2 v1) fun v12 =>
 vK (ldV h5 v12) fun v13 =>
 vK (binV .i .mul v11 v13) fun v14 =>
 vK (fldV 2 v1) fun v15 =>
 vK (ldV h5 v15) fun v16 =>
 vK (binV .i .mul a1 v16) fun v17 =>
 vK (binV .i .add v14 v17) fun v18 =>
 vK (binV .i .add v18 a3) fun v19 =>
 vK (idxV 1 v8 v19) fun v20 =>
 vK (ldV h5 v20) fun v21 =>
 R v21 h5)
theorem ok_ref09_At (H : zm9 a0 a1 a2 a3 h R) : FCall prog ziD #[a0, a1, a2, a3] h R := fk f24 (.s .z (.s (.s .z (.s (.s .z .z) .z)) (.s .z .z))) H
def zfM (a0 a1 a2 a3 : Value) (h : Heap) (R : Value → Heap → Prop) : Prop :=
 FCall prog zb0 #[a0, a1, a2, a3] h fun v1 h2 =>
 vK (binV .i .geq v1 (.int .i64 0)) fun v3 =>
 iteK v3 (
 vK (nilV a0) fun v4 =>
 vK (fldV 4 v4) fun v5 =>
 vK (ldV h2 v5) fun v6 =>
 vK (idxV 1 v6 v1) fun v7 =>
 vK (ldV h2 v7) fun v8 =>
 R v8 h2) (
 R (.int .u16 0) h2)
theorem zkN (H : zfM a0 a1 a2 a3 h R) : FCall prog zbd #[a0, a1, a2, a3] h R := fk f25 (.s .z (.s (.s .z (.s .z (.s (.s .z .z) .z))) (.s .z .z))) H
def zje (a0 a1 : Value) (h : Heap) (R : Value → Heap → Prop) : Prop :=
 newK (Value.cells a0) 65 h fun v1 h2 =>
 newK (Value.cells a1) 65 h2 fun v3 h4 =>
 vK (fldV 0 v1) fun v5 =>
 vK (ldV h4 v5) fun v6 =>
 vK (fldV 0 v3) fun v7 =>
 vK (ldV h4 v7) fun v8 =>
 vK (binV .i .eql v6 v8) fun v9 =>
 vK (gV v9 true (fldV 1 v1)) fun v10 =>
 vK (gV v9 true (ldV h4 v10)) fun v11 =>
 vK (gV v9 true (fldV 1 v3)) fun v12 =>
 vK (gV v9 true (ldV h4 v12)) fun v13 =>
 vK (gV v9 true (binV .i .eql v11 v13)) fun v14 =>
 vK (pickV v9 v14 (.bool false)) fun v15 =>
 vK (gV v15 true (fldV 2 v1)) fun v16 =>
 vK (gV v15 true (ldV h4 v16)) fun v17 =>
 vK (gV v15 true (fldV 2 v3)) fun v18 =>
 vK (gV v15 true (ldV h4 v18)) fun v19 =>
 vK (gV v15 true (binV .i .eql v17 v19)) fun v20 =>
 vK (pickV v15 v20 (.bool false)) fun v21 =>
 vK (gV v21 true (fldV 3 v1)) fun v22 =>
 vK (gV v21 true (ldV h4 v22)) fun v23 =>
 vK (gV v21 true (fldV 3 v3)) fun v24 =>
 vK (gV v21 true (ldV h4 v24)) fun v25 =>
 vK (gV v21 true (binV .i .eql v23 v25)) fun v26 =>
 vK (pickV v21 v26 (.bool false)) fun v27 =>
 vK (gV v27 true (fldV 4 v1)) fun v28 =>
 vK (gV v27 true (ldV h4 v28)) fun v29 =>
 vK (gV v27 true (fldV 4 v3)) fun v30 =>
 vK (gV v27 true (ldV h4 v30)) fun v31 =>
 gK v27 true (fun k35 => FCall prog zif #[v29, v31] h4 k35) h4 fun v32 h33 =>
 vK (pickV v27 v32 (.bool false)) fun v34 =>
 R v34 h33
theorem zoE (H : zje a0 a1 h R) : FCall prog zhb #[a0, a1] h R := fk f26 (.s .z (.s .z .z)) H
def zeC (a0 : Value) (h : Heap) (R : Value → Heap → Prop) : Prop :=
 drawK h fun S =>
 vK (nilV a0) fun v1 =>
 vK (fldV 0 v1) fun v2 =>
 qK S (fun h => ldV h v2) fun v3 =>
 vK (nilV a0) fun v4 =>
 vK (fldV 1 v4) fun v5 =>
 qK S (fun h => ldV h v5) fun v6 =>
 vK (nilV a0) fun v7 =>
 vK (fldV 2 v7) fun v8 =>
 qK S (fun h => ldV h v8) fun v9 =>
 vK (nilV a0) fun v10 =>
 vK (fldV 3 v10) fun v11 =>
 qK S (fun h => ldV h v11) fun v12 =>
 vK (nilV a0) fun v13 =>
 vK (fldV 4 v13) fun v14 =>
 qK S (fun h => ldV h v14) fun v15 =>
 FCall prog zaN #[v15] h fun v16 h17 =>
 S h17 ∧ (vK ((fillL #[(.int .i64 0), (.int .i64 0), (.int .i64 0), (.int .i64 0), (.slice none 0 0)] [(0, 1, v3), (1, 1, v6), (2, 1, v9), (3, 1, v12), (4, 1, v16)]).map .agg) fun v18 =>
 newK (Value.cells v18) 106 h17 fun v19 h20 =>
 R v19 h20)
theorem ziN (H : zeC a0 h R) : FCall prog zc6 #[a0] h R := fk f27 (.s .z (.s (.d (.op 0 .r (.op 1 .r (.op 2 .r (.op 3 .r (.op 4 .r (.op 5 .r (.op 6 .r (.op 7 .r (.op 8 .r (.op 9 .r (.op 10 .r (.op 11 .r (.op 12 .r (.op 13 .r (.op 14 .r (.op 15 .r (.op 16 .r (.op 17 .r (.op 18 .r (.op 19 .r (.op 20 .e (.op 21 .r (.op 22 .n (.op 23 .r .nil))))))))))))))))))))))))) .z)) H
def zeA (a0 a1 : Value) (h : Heap) (R : Value → Heap → Prop) : Prop :=
 vK (binV .p .eql a0 (.pointer none)) fun v1 =>
 vK (gV v1 false (some a1)) fun v2 =>
 vK (gV v1 false (binV .p .eql v2 (.pointer none))) fun v3 =>
 vK (pickV v1 (.bool true) v3) fun v4 =>
 iteK v4 (
 vK (peV h .eql a0 a1) fun v5 =>
 R v5 h) (
 drawK h fun S =>
 vK (nilV a0) fun v6 =>
 vK (fldV 0 v6) fun v7 =>
 qK S (fun h => ldV h v7) fun v8 =>
 vK (nilV a1) fun v9 =>
 vK (fldV 0 v9) fun v10 =>
 qK S (fun h => ldV h v10) fun v11 =>
 vK (binV .i .eql v8 v11) fun v12 =>
 vK (gV v12 true (some a0)) fun v13 =>
 vK (gV v12 true (nilV v13)) fun v14 =>
 vK (gV v12 true (fldV 1 v14)) fun v15 =>
 qK S (fun h => gV v12 true (ldV h v15)) fun v16 =>
 vK (gV v12 true (some a1)) fun v17 =>
 vK (gV v12 true (nilV v17)) fun v18 =>
 vK (gV v12 true (fldV 1 v18)) fun v19 =>
 qK S (fun h => gV v12 true (ldV h v19)) fun v20 =>
 vK (gV v12 true (binV .i .eql v16 v20)) fun v21 =>
 vK (pickV v12 v21 (.bool false)) fun v22 =>
 vK (gV v22 true (some a0)) fun v23 =>
 vK (gV v22 true (nilV v23)) fun v24 =>
 vK (gV v22 true (fldV 2 v24)) fun v25 =>
 qK S (fun h => gV v22 true (ldV h v25)) fun v26 =>
 vK (gV v22 true (some a1)) fun v27 =>
 vK (gV v22 true (nilV v27)) fun v28 =>
 vK (gV v22 true (fldV 2 v28)) fun v29 =>
 qK S (fun h => gV v22 true (ldV h v29)) fun v30 =>
 vK (gV v22 true (binV .i .eql v26 v30)) fun v31 =>
 vK (pickV v22 v31 (.bool false)) fun v32 =>
 vK (gV v32 true (some a0)) fun v33 =>
 vK (gV v32 true (nilV v33)) fun v34 =>
 vK (gV v32 true (fldV 3 v34)) fun v35 =>
 qK S (fun h => gV v32 true (ldV h v35)) fun v36 =>
 vK (gV v32 true (some a1)) fun v37 =>
 vK (gV v32 true (nilV v37)) fun v38 =>
 vK (gV v32 true (fldV 3 v38)) fun v39 =>
 qK S (fun h => gV v32 true (ldV h v39)) fun v40 =>
 vK (gV v32 true (binV .i .eql v36 v40)) fun v41 =>
 vK (pickV v32 v41 (.bool false)) fun v42 =>
 vK (gV v42 true (some a0)) fun v43 =>
 vK (gV v42 true (nilV v43)) fun v44 =>
 vK (gV v42 true (fldV 4 v44)) fun v45 =>
 qK S (fun h => gV v42 true (ldV h v45)) fun v46 =>
 vK (gV v42 true (some a1)) fun v47 =>
 vK (gV v42 true (nilV v47)) fun v48 =>
 vK (gV v42 true (fldV 4 v48)) fun v49 =>
 qK S (fun h => gV v42 true (ldV h v49)) fun v50 =>
 gK v42 true (fun k54 => FCall prog zbc #[v46, v50] h k54) h fun v51 h52 =>
 vK (pickV v42 v51 (.bool false)) fun v53 =>
 R v53 h52)
theorem ziL (H : zeA a0 a1 h R) : FCall prog zc5 #[a0, a1] h R := fk f28 (.s .z (.s (.s .z (.s (.s .z .z) .z)) (.s (.d (.op 0 .r (.op 1 .r (.op 2 .r (.op 3 .r (.op 4 .r (.op 5 .r (.op 6 .r (.op 7 .r (.op 8 .r (.op 9 .r (.op 10 .r (.op 11 .r (.op 12 .r (.op 13 .r (.op 14 .r (.op 15 .r (.op 16 .r (.op 17 .r (.op 18 .r (.op 19 .r (.op 20 .r (.op 21 .r (.op 22 .r (.op 23 .r (.op 24 .r (.op 25 .r (.op 26 .r (.op 27 .r (.op 28 .r (.op 29 .r (.op 30 .r (.op 31 .r (.op 32 .r (.op 33 .r (.op 34 .r (.op 35 .r (.op 36 .r (.op 37 .r (.op 38 .r (.op 39 .r (.op 40 .r (.op 41 .r (.op 42 .r (.op 43 .r (.op 44 .r (.op 45 .r (.op 46 .r (.op 47 .r (.op 48 .r (.op 49 .r (.op 50 .r (.op 51 .n (.op 52 .r (.op 53 .r .nil))))))))))))))))))))))))))))))))))))))))))))))))))))))) .z))) H
def zfC (a0 : Value) (h : Heap) (R : Value → Heap → Prop) : Prop :=
 newK #[(.int .i64 0), (.int .i64 0), (.int .i64 0), (.int .i64 0), (.int .i64 0), (.int .i64 0), (.int .i64 0), (.int .i64 0), (.int .i64 0), (.int .i64 0)] 43 h fun v1 h2 =>
 vK (nilV a0) fun v3 =>
 vK (fldV 5 v3) fun v4 =>
 vK (ldsV 10 h2 v4) fun v5 =>
 stK 10 v1 v5 h2 fun v6 h7 =>
 vK (ldsV 10 h7 v1) fun v8 =>
 R v8 h7
theorem zkD (H : zfC a0 h R) : FCall prog zdP #[a0] h R := fk f29 (.s .z (.s .z .z)) H
def ze6 (a0 : Value) (h : Heap) (R : Value → Heap → Prop) : Prop :=
 vK (nilV a0) fun v1 =>
 vK (fldV 15 v1) fun v2 =>
 vK (ldV h v2) fun v3 =>
 FCall prog zdR #[v3] h fun v4 h5 =>
 R v4 h5
theorem zju (H : ze6 a0 h R) : FCall prog zdu #[a0] h R := fk f30 (.s .z (.s .z .z)) H
def ze7 (a0 : Value) (h : Heap) (R : Value → Heap → Prop) : Prop :=
 vK (nilV a0) fun v1 =>
 vK (fldV 2 v1) fun v2 =>
 vK (ldV h v2) fun v3 =>
 R v3 h
theorem zjv (H : ze7 a0 h R) : FCall prog zaQ #[a0] h R := fk f31 (.s .z (.s .z .z)) H
def ziW (a0 a1 a2 : Value) (h : Heap) (R : Value → Heap → Prop) : Prop :=
 newK (Value.cells a0) 39 h fun v1 h2 =>
 vK (fldV 1 v1) fun v3 =>
 vK (ldV h2 v3) fun v4 =>
 vK (zaf v4) fun v5 =>
 loopK [(.int .i64 0), (.int .i64 0)] h2 fun x6 j7 h8 again9 =>
 vK (binV .i .lss (ix x6 1) v5) fun v10 =>
 iteK v10 (
 vK (idxV 2 v4 (ix x6 1)) fun v11 =>
 vK (ldsV 2 h8 v11) fun v12 =>
 newK #[(.int .i64 0), (.slice none 0 0)] 114 h8 fun v13 h14 =>
 stK 2 v13 v12 h14 fun v15 h16 =>
 vK (fldV 1 v13) fun v17 =>
 vK (ldV h16 v17) fun v18 =>
 vK (zaf v18) fun v19 =>
 vK (binV .i .gtr v19 (ix x6 0)) fun v20 =>
 iteK v20 (
 vK (fldV 1 v13) fun v21 =>
 vK (ldV h16 v21) fun v22 =>
 vK (zaf v22) fun v23 =>
 vK (binV .i .add (ix x6 1) (.int .i64 1)) fun v24 =>
 again9 [v23, v24] h16) (
 vK (binV .i .add (ix x6 1) (.int .i64 1)) fun v25 =>
 again9 [(ix x6 0), v25] h16)) (
 loopK [(.slice none 0 0), (.slice none 0 0), (.int .i64 0)] h8 fun x26 j27 h28 again29 =>
 vK (binV .i .lss (ix x26 2) a2) fun v30 =>
 iteK v30 (
 vK (fldV 1 v1) fun v31 =>
 vK (ldV h28 v31) fun v32 =>
 vK (binV .i .add a1 (ix x26 2)) fun v33 =>
 vK (idxV 2 v32 v33) fun v34 =>
 vK (ldsV 2 h28 v34) fun v35 =>
 newK #[(.int .i64 0), (.slice none 0 0)] 114 h28 fun v36 h37 =>
 stK 2 v36 v35 h37 fun v38 h39 =>
 vK (fldV 1 v36) fun v40 =>
 vK (ldV h39 v40) fun v41 =>
 vK (zaf v41) fun v42 =>
 loopK [(ix x26 0), (ix x26 1), (.int .i64 0)] h39 fun x43 j44 h45 again46 =>
 vK (binV .i .lss (ix x43 2) v42) fun v47 =>
 iteK v47 (
 vK (fldV 0 v36) fun v48 =>
 vK (ldV h45 v48) fun v49 =>
 vK (binV .i .add v49 (ix x43 2)) fun v50 =>
 FCall prog zlN #[(ix x43 1), v50] h45 fun v51 h52 =>
 iteK v51 (
 vK (binV .i .add (ix x43 2) (.int .i64 1)) fun v53 =>
 again46 [(ix x43 0), (ix x43 1), v53] h52) (
 vK ((fillL #[(.int .i64 0), (.int .i64 0)] [(0, 1, (.int .i64 1)), (1, 1, v50)]).map .agg) fun v54 =>
 rowK #[(.int .i64 0), (.int .i64 0)] 80 1 [(0, 2, v54)] h52 fun v55 h56 =>
 appK (.agg #[.int .i64 0, .int .i64 0]) 80 2 16 (ix x43 0) v55 h56 fun v57 h58 =>
 rowK #[(.int .i64 0)] 2 1 [(0, 1, v50)] h58 fun v59 h60 =>
 appK (.int .i64 0) 2 1 8 (ix x43 1) v59 h60 fun v61 h62 =>
 vK (zaf v61) fun v63 =>
 vK (binV .i .gtr v63 (ix x6 0)) fun v64 =>
 iteK v64 (
 vK (slcV 1 v61 (some (.int .i64 1)) none) fun v65 =>
 vK (binV .i .add (ix x43 2) (.int .i64 1)) fun v66 =>
 again46 [v57, v65, v66] h62) (
 vK (binV .i .add (ix x43 2) (.int .i64 1)) fun v67 =>
 again46 [v57, v61, v67] h62))) (
 vK (binV .i .add a1 (ix x26 2)) fun v68 =>
 vK ((fillL #[(.int .i64 0), (.int .i64 0)] [(0, 1, (.int .i64 2)), (1, 1, v68)]).map .agg) fun v69 =>
 rowK #[(.int .i64 0), (.int .i64 0)] 80 1 [(0, 2, v69)] h45 fun v70 h71 =>
 appK (.agg #[.int .i64 0, .int .i64 0]) 80 2 16 (ix x43 0) v70 h71 fun v72 h73 =>
 vK (binV .i .add (ix x26 2) (.int .i64 1)) fun v74 =>
 again29 [v72, (ix x43 1), v74] h73)) (
 R (ix x26 0) h28))
theorem zom (H : ziW a0 a1 a2 h R) : FCall prog zgY #[a0, a1, a2] h R := fk f32 (.s .z (.s .z (.s (.s .z (.l 4294443648 [7, 19] (.s .z (.s (.s .z .z) (.s (.s .z (.s .z (.s .z .z))) .z))))) (.s .z (.s .z (.s (.s .z (.l 1208925819614620584836096 [10, 11, 33] (.s .z (.s (.s .z .z) (.s (.s .z (.s .z (.s (.s .z (.l 4722366412500901088256 [10, 11, 46] (.s .z (.s (.s .z .z) (.s (.s .z (.s .z (.s (.s .z (.s .z .z)) (.s .z (.s .z (.s .z (.s .z .z))))))) .z))))) .z))) .z))))) (.s .z .z))))))) H
def zfF (a0 : Value) (h : Heap) (R : Value → Heap → Prop) : Prop :=
 vK (nilV a0) fun v1 =>
 vK (fldV 15 v1) fun v2 =>
 vK (ldV h v2) fun v3 =>
 FCall prog zfu #[v3] h fun v4 h5 =>
 R v4 h5
theorem zkG (H : zfF a0 h R) : FCall prog zcF #[a0] h R := fk f33 (.s .z (.s .z .z)) H
def zoZ (a0 a1 a2 : Value) (h : Heap) (R : Value → Heap → Prop) : Prop :=
 newK (Value.cells a0) 31 h fun v1 h2 =>
 newK #[(.pointer none), (.pointer none), (.int .i64 0)] 36 h2 fun v3 h4 =>
 vK (ldsV 9 h4 v1) fun v5 =>
 FCall prog zq5 #[v5] h4 fun v6 h7 =>
 vK (unV .not v6) fun v8 =>
 vK (gV v8 false (some a1)) fun v9 =>
 gK v8 false (fun k41 => FCall prog zgB #[v9] h7 k41) h7 fun v10 h11 =>
 vK (gV v8 false (unV .not v10)) fun v12 =>
 vK (pickV v8 (.bool true) v12) fun v13 =>
 vK (gV v13 false (some a2)) fun v14 =>
 gK v13 false (fun k40 => FCall prog zgB #[v14] h11 k40) h11 fun v15 h16 =>
 vK (gV v13 false (unV .not v15)) fun v17 =>
 vK (pickV v13 (.bool true) v17) fun v18 =>
 iteK v18 (
 vK ((fillL #[(.pointer none), (.pointer none), (.int .i64 0)] []).map .agg) fun v19 =>
 stK 3 v3 v19 h16 fun v20 h21 =>
 vK (ldsV 3 h21 v3) fun v22 =>
 R (.tuple #[v22, (.int .i64 6)]) h21) (
 vK (ldsV 9 h16 v1) fun v23 =>
 FCall prog zjP #[v23, a1, a2] h16 fun v24 h25 =>
 vK (extV v24 0) fun v26 =>
 vK (extV v24 1) fun v27 =>
 vK (extV v24 2) fun v28 =>
 vK (binV .i .neq v28 (.int .i64 0)) fun v29 =>
 iteK v29 (
 vK ((fillL #[(.pointer none), (.pointer none), (.int .i64 0)] []).map .agg) fun v30 =>
 stK 3 v3 v30 h25 fun v31 h32 =>
 vK (ldsV 3 h32 v3) fun v33 =>
 R (.tuple #[v33, v28]) h32) (
 vK (fldV 1 v1) fun v34 =>
 vK (ldV h25 v34) fun v35 =>
 vK ((fillL #[(.pointer none), (.pointer none), (.int .i64 0)] [(0, 1, v26), (1, 1, v27), (2, 1, v35)]).map .agg) fun v36 =>
 stK 3 v3 v36 h25 fun v37 h38 =>
 vK (ldsV 3 h38 v3) fun v39 =>
 R (.tuple #[v39, (.int .i64 0)]) h38))
theorem ok_op_Make (H : zoZ a0 a1 a2 h R) : FCall prog zfx #[a0, a1, a2] h R := fk f34 (.s .z (.s (.s .z (.s (.s .z .z) .z)) (.s .z (.s (.s .z (.s (.s .z .z) .z)) (.s .z .z))))) H
def zjb (h : Heap) (R : Value → Heap → Prop) : Prop :=
 vK ((fillL #[(.int .i64 0), (.int .i64 0), (.int .i64 0), (.int .i64 0), (.slice none 0 0), (.slice none 0 0), (.int .i64 0), (.int .i64 0), (.int .i64 0)] [(0, 1, (.int .i64 3)), (7, 1, (.int .i64 5)), (8, 1, (.int .i64 3)), (6, 1, (.int .i64 0))]).map .agg) fun v1 =>
 FCall prog zfx #[v1, (.int .i64 9), (.int .i64 9)] h fun v2 h3 =>
 vK (extV v2 0) fun v4 =>
 vK (extV v2 1) fun v5 =>
 newK #[(.pointer none), (.pointer none), (.int .i64 0)] 36 h3 fun v6 h7 =>
 stK 3 v6 v4 h7 fun v8 h9 =>
 FCall prog zeS #[] h9 fun v10 h11 =>
 vK (unV .not v10) fun v12 =>
 vK (gV v12 false (some v5)) fun v13 =>
 vK (gV v12 false (binV .i .neq v13 (.int .i64 0))) fun v14 =>
 vK (pickV v12 (.bool true) v14) fun v15 =>
 iteK v15 (
 R (.bool false) h11) (
 vK (ldsV 3 h11 v6) fun v16 =>
 FCall prog zlP #[v16, (.int .i64 2), (.int .i64 2)] h11 fun v17 h18 =>
 vK (extV v17 0) fun v19 =>
 vK (extV v17 1) fun v20 =>
 vK (binV .i .neq v20 (.int .i64 0)) fun v21 =>
 vK (gV v21 false (some v19)) fun v22 =>
 vK (gV v21 false (binV .p .eql v22 (.pointer none))) fun v23 =>
 vK (pickV v21 (.bool true) v23) fun v24 =>
 iteK v24 (
 R (.bool false) h18) (
 FCall prog zeu #[v19, (.int .i64 5)] h18 fun v25 h26 =>
 vK (extV v25 0) fun v27 =>
 vK (extV v25 1) fun v28 =>
 newK #[(.int .i64 0), (.int .i64 0), (.int .i64 0), (.int .i64 0), (.int .i64 0), (.int .i64 0), (.int .i64 0), (.int .i64 0), (.int .i64 0), (.int .i64 0)] 43 h26 fun v29 h30 =>
 stK 10 v29 v27 h30 fun v31 h32 =>
 FCall prog zcI #[v19] h32 fun v33 h34 =>
 vK (binV .i .eql v33 (.int .i64 6)) fun v35 =>
 vK (gV v35 true (some v28)) fun v36 =>
 vK (pickV v35 v36 (.bool false)) fun v37 =>
 vK (gV v37 true (fldV 1 v29)) fun v38 =>
 vK (gV v37 true (ldsV 4 h34 v38)) fun v39 =>
 vK (gV v37 true ((fillL #[(.int .i64 0), (.int .i64 0), (.int .i64 0), (.int .i64 0)] [(0, 1, (.int .i64 4)), (1, 1, (.int .i64 2)), (2, 1, (.int .i64 1)), (3, 1, (.int .i64 1))]).map .agg)) fun v40 =>
 vK (gV v37 true (binV (.st [(0, 1, .i), (1, 1, .i), (2, 1, .i), (3, 1, .i)]) .eql v39 v40)) fun v41 =>
 vK (pickV v37 v41 (.bool false)) fun v42 =>
 R v42 h34))
theorem zoB (H : zjb h R) : FCall prog zg8 #[] h R := fk f35 (.s .z (.s .z (.s (.s .z (.s (.s .z .z) .z)) (.s .z (.s (.s .z (.s (.s .z .z) .z)) (.s .z (.s .z .z))))))) H
def zja (h : Heap) (R : Value → Heap → Prop) : Prop :=
 rowK #[(.int .u16 0)] 22 1 [(0, 1, (.int .u16 7))] h fun v1 h2 =>
 FCall prog zg5 #[(.int .i64 1), (.int .i64 1), (.int .i64 1), (.int .i64 255), v1] h2 fun v3 h4 =>
 vK (extV v3 0) fun v5 =>
 vK (extV v3 1) fun v6 =>
 vK ((fillL #[(.int .i64 0), (.int .i64 0), (.int .i64 0), (.int .i64 0), (.slice none 0 0), (.slice none 0 0), (.int .i64 0), (.int .i64 0), (.int .i64 0)] [(0, 1, (.int .i64 1)), (3, 1, (.int .i64 2))]).map .agg) fun v7 =>
 FCall prog zfx #[v7, (.int .i64 1), (.int .i64 1)] h4 fun v8 h9 =>
 vK (extV v8 0) fun v10 =>
 vK (extV v8 1) fun v11 =>
 newK #[(.pointer none), (.pointer none), (.int .i64 0)] 36 h9 fun v12 h13 =>
 stK 3 v12 v10 h13 fun v14 h15 =>
 FCall prog zha #[] h15 fun v16 h17 =>
 vK (unV .not v16) fun v18 =>
 gK v18 false (fun k47 => FCall prog zeS #[] h17 k47) h17 fun v19 h20 =>
 vK (gV v18 false (unV .not v19)) fun v21 =>
 vK (pickV v18 (.bool true) v21) fun v22 =>
 vK (gV v22 false (some v6)) fun v23 =>
 vK (gV v22 false (binV .i .neq v23 (.int .i64 0))) fun v24 =>
 vK (pickV v22 (.bool true) v24) fun v25 =>
 vK (gV v25 false (some v11)) fun v26 =>
 vK (gV v25 false (binV .i .neq v26 (.int .i64 0))) fun v27 =>
 vK (pickV v25 (.bool true) v27) fun v28 =>
 vK (gV v28 false (some v5)) fun v29 =>
 vK (gV v28 false (binV .p .eql v29 (.pointer none))) fun v30 =>
 vK (pickV v28 (.bool true) v30) fun v31 =>
 iteK v31 (
 R (.bool false) h20) (
 vK (ldsV 3 h20 v12) fun v32 =>
 FCall prog zgh #[v5, v32] h20 fun v33 h34 =>
 vK (extV v33 0) fun v35 =>
 vK (extV v33 1) fun v36 =>
 vK (binV .i .eql v36 (.int .i64 0)) fun v37 =>
 vK (gV v37 true (some v35)) fun v38 =>
 vK (gV v37 true (binV .p .neq v38 (.pointer none))) fun v39 =>
 vK (pickV v37 v39 (.bool false)) fun v40 =>
 vK (gV v40 true (some v35)) fun v41 =>
 gK v40 true (fun k46 => FCall prog zbd #[v41, (.int .i64 0), (.int .i64 0), (.int .i64 0)] h34 k46) h34 fun v42 h43 =>
 vK (gV v40 true (binV .i .eql v42 (.int .u16 7))) fun v44 =>
 vK (pickV v40 v44 (.bool false)) fun v45 =>
 R v45 h43)
theorem zoA (H : zja h R) : FCall prog zg7 #[] h R := fk f36 (.s .z (.s .z (.s .z (.s (.s .z (.s (.s .z .z) .z)) (.s .z (.s .z .z)))))) H
def zeb (a0 : Value) (h : Heap) (R : Value → Heap → Prop) : Prop :=
 newK (Value.cells a0) 25 h fun v1 h2 =>
 vK (fldV 0 v1) fun v3 =>
 vK (ldV h2 v3) fun v4 =>
 vK (binV .i .rem v4 (.int .u16 12)) fun v5 =>
 vK (fldV 1 v1) fun v6 =>
 vK (ldV h2 v6) fun v7 =>
 vK (binV .i .rem v7 (.int .u16 12)) fun v8 =>
 vK (fldV 2 v1) fun v9 =>
 vK (ldV h2 v9) fun v10 =>
 vK (fldV 3 v1) fun v11 =>
 vK (ldV h2 v11) fun v12 =>
 vK (fldV 4 v1) fun v13 =>
 vK (ldV h2 v13) fun v14 =>
 FCall prog zil #[v5, v8, v10, v12, v14] h2 fun v15 h16 =>
 R v15 h16
theorem zhZ (H : zeb a0 h R) : FCall prog zcP #[a0] h R := fk f37 (.s .z (.s .z .z)) H
def zhN (a0 a1 : Value) (h : Heap) (R : Value → Heap → Prop) : Prop :=
 vK (binV .p .eql a1 (.pointer none)) fun v1 =>
 vK (gV v1 false (some a0)) fun v2 =>
 vK (gV v1 false (zaf v2)) fun v3 =>
 vK (gV v1 false (binV .i .gtr v3 (.int .i64 4))) fun v4 =>
 vK (pickV v1 (.bool true) v4) fun v5 =>
 vK (gV v5 false (some a0)) fun v6 =>
 gK v5 false (fun k43 => FCall prog zgg #[v6, (.int .i64 12)] h k43) h fun v7 h8 =>
 vK (gV v5 false (unV .not v7)) fun v9 =>
 vK (pickV v5 (.bool true) v9) fun v10 =>
 iteK v10 (
 R (.tuple #[(.slice none 0 0), (.slice none 0 0), (.bool false)]) h8) (
 FCall prog zaw #[a1] h8 fun v11 h12 =>
 FCall prog zas #[a1] h12 fun v13 h14 =>
 FCall prog zaj #[a1] h14 fun v15 h16 =>
 FCall prog zq6 #[a0, v11, v13, v15] h16 fun v17 h18 =>
 vK (extV v17 0) fun v19 =>
 vK (extV v17 1) fun v20 =>
 FCall prog zik #[a0] h18 fun v21 h22 =>
 FCall prog zaw #[a1] h22 fun v23 h24 =>
 FCall prog zas #[a1] h24 fun v25 h26 =>
 FCall prog zaj #[a1] h26 fun v27 h28 =>
 FCall prog zjJ #[v21, v23, v25, v27] h28 fun v29 h30 =>
 vK (extV v29 0) fun v31 =>
 vK (extV v29 1) fun v32 =>
 vK (binV .i .eql v20 (.int .i64 0)) fun v33 =>
 vK (gV v33 true (some v32)) fun v34 =>
 vK (gV v33 true (binV .i .eql v34 (.int .i64 0))) fun v35 =>
 vK (pickV v33 v35 (.bool false)) fun v36 =>
 vK (gV v36 true (some v19)) fun v37 =>
 vK (gV v36 true (zaf v37)) fun v38 =>
 vK (gV v36 true (some v31)) fun v39 =>
 vK (gV v36 true (zaf v39)) fun v40 =>
 vK (gV v36 true (binV .i .eql v38 v40)) fun v41 =>
 vK (pickV v36 v41 (.bool false)) fun v42 =>
 R (.tuple #[v19, v31, v42]) h30)
theorem znE (H : zhN a0 a1 h R) : FCall prog zgf #[a0, a1] h R := fk f38 (.s .z (.s (.s .z (.s (.s .z .z) .z)) (.s .z (.s .z (.s .z .z))))) H
def zdl (a0 a1 a2 : Value) (h : Heap) (R : Value → Heap → Prop) : Prop :=
 newK (Value.cells a2) 36 h fun v1 h2 =>
 drawK h2 fun S =>
 vK (binV .p .neq a0 (.pointer none)) fun v3 =>
 vK (gV v3 true (some a1)) fun v4 =>
 vK (gV v3 true (binV .p .neq v4 (.pointer none))) fun v5 =>
 vK (pickV v3 v5 (.bool false)) fun v6 =>
 vK (gV v6 true (some a0)) fun v7 =>
 vK (gV v6 true (some a1)) fun v8 =>
 qK S (fun h2 => gV v6 true (peV h2 .neq v7 v8)) fun v9 =>
 vK (pickV v6 v9 (.bool false)) fun v10 =>
 vK (gV v10 true (some a0)) fun v11 =>
 qK S (fun h2 => gV v10 true (ldsV 3 h2 v1)) fun v12 =>
 gK v10 true (fun k58 => FCall prog zbU #[v11, v12] h2 k58) h2 fun v13 h14 =>
 drawK h14 fun S =>
 vK (pickV v10 v13 (.bool false)) fun v15 =>
 vK (gV v15 true (some a1)) fun v16 =>
 vK (gV v15 true (fldV 0 v1)) fun v17 =>
 qK S (fun h14 => gV v15 true (ldV h14 v17)) fun v18 =>
 gK v15 true (fun k57 => FCall prog zaw #[v16] h14 k57) h14 fun v19 h20 =>
 S h20 ∧ (gK v15 true (fun k56 => FCall prog zap #[v18] h20 k56) h20 fun v21 h22 =>
 drawK h22 fun S =>
 vK (gV v15 true (binV .i .eql v19 v21)) fun v23 =>
 vK (pickV v15 v23 (.bool false)) fun v24 =>
 vK (gV v24 true (some a1)) fun v25 =>
 vK (gV v24 true (fldV 1 v1)) fun v26 =>
 qK S (fun h22 => gV v24 true (ldV h22 v26)) fun v27 =>
 gK v24 true (fun k55 => FCall prog zas #[v25] h22 k55) h22 fun v28 h29 =>
 S h29 ∧ (gK v24 true (fun k54 => FCall prog zap #[v27] h29 k54) h29 fun v30 h31 =>
 vK (gV v24 true (binV .i .eql v28 v30)) fun v32 =>
 vK (pickV v24 v32 (.bool false)) fun v33 =>
 vK (gV v33 true (some a1)) fun v34 =>
 vK (gV v33 true (some a0)) fun v35 =>
 gK v33 true (fun k53 => FCall prog zaj #[v34] h31 k53) h31 fun v36 h37 =>
 gK v33 true (fun k52 => FCall prog zaj #[v35] h37 k52) h37 fun v38 h39 =>
 vK (gV v33 true (binV .i .eql v36 v38)) fun v40 =>
 vK (pickV v33 v40 (.bool false)) fun v41 =>
 vK (gV v41 true (some a1)) fun v42 =>
 vK (gV v41 true (some a0)) fun v43 =>
 gK v41 true (fun k51 => FCall prog zay #[v42] h39 k51) h39 fun v44 h45 =>
 gK v41 true (fun k50 => FCall prog zay #[v43] h45 k50) h45 fun v46 h47 =>
 vK (gV v41 true (binV .i .eql v44 v46)) fun v48 =>
 vK (pickV v41 v48 (.bool false)) fun v49 =>
 R v49 h47))
theorem zfe (H : zdl a0 a1 a2 h R) : FCall prog zbT #[a0, a1, a2] h R := fk f39 (.s .z (.s (.d (.op 0 .r (.op 1 .r (.op 2 .r (.op 3 .r (.op 4 .r (.op 5 .r (.op 6 .r (.op 7 .r (.op 8 .r (.op 9 .r (.op 10 .r (.op 11 .r (.op 12 .r (.op 13 .r (.op 14 .f (.op 15 .r (.op 16 .r (.op 17 .r (.op 19 .r (.op 20 .r (.op 18 .e (.op 21 .f (.op 22 .r (.op 23 .r (.op 24 .r (.op 25 .r (.op 27 .r (.op 28 .r (.op 26 .e (.op 29 .n (.op 30 .r (.op 31 .r (.op 32 .r (.op 33 .r (.op 35 .r (.op 34 .n (.op 36 .n (.op 37 .r (.op 38 .r (.op 39 .r (.op 40 .r (.op 42 .r (.op 41 .n (.op 43 .n (.op 44 .r (.op 45 .r (.op 46 .r .nil)))))))))))))))))))))))))))))))))))))))))))))))) .z)) H
def zhg (a0 a1 : Value) (h : Heap) (R : Value → Heap → Prop) : Prop :=
 newK (Value.cells a0) 36 h fun v1 h2 =>
 newK (Value.cells a1) 41 h2 fun v3 h4 =>
 drawK h4 fun S =>
 vK (fldV 0 v1) fun v5 =>
 qK S (fun h4 => ldV h4 v5) fun v6 =>
 vK (binV .p .neq v6 (.pointer none)) fun v7 =>
 vK (gV v7 true (fldV 1 v1)) fun v8 =>
 qK S (fun h4 => gV v7 true (ldV h4 v8)) fun v9 =>
 vK (gV v7 true (binV .p .neq v9 (.pointer none))) fun v10 =>
 vK (pickV v7 v10 (.bool false)) fun v11 =>
 vK (gV v11 true (fldV 2 v3)) fun v12 =>
 qK S (fun h4 => gV v11 true (ldV h4 v12)) fun v13 =>
 vK (gV v11 true (binV .i .geq v13 (.int .i64 1))) fun v14 =>
 vK (pickV v11 v14 (.bool false)) fun v15 =>
 vK (gV v15 true (fldV 3 v3)) fun v16 =>
 qK S (fun h4 => gV v15 true (ldV h4 v16)) fun v17 =>
 vK (gV v15 true (binV .i .geq v17 (.int .i64 1))) fun v18 =>
 vK (pickV v15 v18 (.bool false)) fun v19 =>
 vK (gV v19 true (fldV 0 v3)) fun v20 =>
 qK S (fun h4 => gV v19 true (ldV h4 v20)) fun v21 =>
 vK (gV v19 true (binV .i .geq v21 (.int .i64 0))) fun v22 =>
 vK (pickV v19 v22 (.bool false)) fun v23 =>
 vK (gV v23 true (fldV 1 v3)) fun v24 =>
 qK S (fun h4 => gV v23 true (ldV h4 v24)) fun v25 =>
 vK (gV v23 true (binV .i .geq v25 (.int .i64 0))) fun v26 =>
 vK (pickV v23 v26 (.bool false)) fun v27 =>
 vK (gV v27 true (fldV 0 v3)) fun v28 =>
 qK S (fun h4 => gV v27 true (ldV h4 v28)) fun v29 =>
 vK (gV v27 true (fldV 0 v1)) fun v30 =>
 qK S (fun h4 => gV v27 true (ldV h4 v30)) fun v31 =>
 gK v27 true (fun k69 => FCall prog zap #[v31] h4 k69) h4 fun v32 h33 =>
 S h33 ∧ (vK (gV v27 true (binV .i .lss v29 v32)) fun v34 =>
 vK (pickV v27 v34 (.bool false)) fun v35 =>
 vK (gV v35 true (fldV 1 v3)) fun v36 =>
 qK S (fun h33 => gV v35 true (ldV h33 v36)) fun v37 =>
 vK (gV v35 true (fldV 1 v1)) fun v38 =>
 qK S (fun h33 => gV v35 true (ldV h33 v38)) fun v39 =>
 gK v35 true (fun k68 => FCall prog zap #[v39] h33 k68) h33 fun v40 h41 =>
 S h41 ∧ (vK (gV v35 true (binV .i .lss v37 v40)) fun v42 =>
 vK (pickV v35 v42 (.bool false)) fun v43 =>
 vK (gV v43 true (fldV 2 v3)) fun v44 =>
 qK S (fun h41 => gV v43 true (ldV h41 v44)) fun v45 =>
 vK (gV v43 true (fldV 0 v1)) fun v46 =>
 qK S (fun h41 => gV v43 true (ldV h41 v46)) fun v47 =>
 vK (gV v43 true (fldV 0 v3)) fun v48 =>
 qK S (fun h41 => gV v43 true (ldV h41 v48)) fun v49 =>
 gK v43 true (fun k67 => FCall prog zap #[v47] h41 k67) h41 fun v50 h51 =>
 S h51 ∧ (vK (gV v43 true (binV .i .sub v50 v49)) fun v52 =>
 vK (gV v43 true (binV .i .leq v45 v52)) fun v53 =>
 vK (pickV v43 v53 (.bool false)) fun v54 =>
 vK (gV v54 true (fldV 3 v3)) fun v55 =>
 qK S (fun h51 => gV v54 true (ldV h51 v55)) fun v56 =>
 vK (gV v54 true (fldV 1 v1)) fun v57 =>
 qK S (fun h51 => gV v54 true (ldV h51 v57)) fun v58 =>
 vK (gV v54 true (fldV 1 v3)) fun v59 =>
 qK S (fun h51 => gV v54 true (ldV h51 v59)) fun v60 =>
 gK v54 true (fun k66 => FCall prog zap #[v58] h51 k66) h51 fun v61 h62 =>
 S h62 ∧ (vK (gV v54 true (binV .i .sub v61 v60)) fun v63 =>
 vK (gV v54 true (binV .i .leq v56 v63)) fun v64 =>
 vK (pickV v54 v64 (.bool false)) fun v65 =>
 R v65 h62))))
theorem zmu (H : zhg a0 a1 h R) : FCall prog zds #[a0, a1] h R := fk f40 (.s .z (.s (.d (.op 0 .r (.op 1 .r (.op 2 .r (.op 3 .r (.op 4 .r (.op 5 .r (.op 6 .r (.op 7 .r (.op 8 .r (.op 9 .r (.op 10 .r (.op 11 .r (.op 12 .r (.op 13 .r (.op 14 .r (.op 15 .r (.op 16 .r (.op 17 .r (.op 18 .r (.op 19 .r (.op 20 .r (.op 21 .r (.op 22 .r (.op 23 .r (.op 24 .r (.op 25 .r (.op 26 .r (.op 27 .r (.op 28 .r (.op 29 .r (.op 30 .r (.op 31 .r (.op 32 .r (.op 33 .e (.op 34 .r (.op 35 .r (.op 36 .r (.op 37 .r (.op 38 .r (.op 39 .r (.op 40 .r (.op 41 .e (.op 42 .r (.op 43 .r (.op 44 .r (.op 45 .r (.op 46 .r (.op 47 .r (.op 48 .r (.op 50 .r (.op 51 .r (.op 49 .e (.op 52 .r (.op 53 .r (.op 54 .r (.op 55 .r (.op 56 .r (.op 57 .r (.op 58 .r (.op 59 .r (.op 61 .r (.op 62 .r (.op 60 .e (.op 63 .r (.op 64 .r (.op 65 .r (.op 66 .r .nil)))))))))))))))))))))))))))))))))))))))))))))))))))))))))))))))))))) .z)) H
def zm6 (a0 a1 : Value) (h : Heap) (R : Value → Heap → Prop) : Prop :=
 vK (maxV (.int .i64 1) a0) fun v1 =>
 vK (minV v1 (.int .i64 65536)) fun v2 =>
 vK (maxV (.int .i64 0) a1) fun v3 =>
 vK (minV v3 (.int .i64 262144)) fun v4 =>
 newmK h fun v5 h6 =>
 vK ((fillL #[(.int .i64 0), (.int .i64 0), (.map none), (.slice none 0 0)] [(0, 1, v2), (1, 1, v4), (2, 1, v5)]).map .agg) fun v7 =>
 newK (Value.cells v7) 139 h6 fun v8 h9 =>
 R v8 h9
theorem ok_ring_New (H : zm6 a0 a1 h R) : FCall prog zlM #[a0, a1] h R := fk f41 (.s .z (.s .z .z)) H
def zew (a0 a1 : Value) (h : Heap) (R : Value → Heap → Prop) : Prop :=
 drawK h fun S =>
 vK (nilV a0) fun v1 =>
 vK (fldV 2 v1) fun v2 =>
 vK (fldV 2 v2) fun v3 =>
 qK S (fun h => ldV h v3) fun v4 =>
 vK (nilV a0) fun v5 =>
 vK (fldV 0 v5) fun v6 =>
 qK S (fun h => ldV h v6) fun v7 =>
 FCall prog zas #[v7] h fun v8 h9 =>
 S h9 ∧ (FCall prog zdW #[v4, a1, v8] h9 fun v10 h11 =>
 vK (nilV a0) fun v12 =>
 vK (fldV 5 v12) fun v13 =>
 vK (fldV 1 v13) fun v14 =>
 vK (fldV 2 v14) fun v15 =>
 vK (ldV h11 v15) fun v16 =>
 loopK [(.slice none 0 0), (.int .i64 0)] h11 fun x17 j18 h19 again20 =>
 vK (binV .i .lss (ix x17 1) v16) fun v21 =>
 iteK v21 (
 vK (nilV a0) fun v22 =>
 vK (fldV 5 v22) fun v23 =>
 vK (fldV 1 v23) fun v24 =>
 vK (fldV 0 v24) fun v25 =>
 vK (ldV h19 v25) fun v26 =>
 vK (binV .i .add v26 (ix x17 1)) fun v27 =>
 FCall prog zc3 #[a0, v27, v10, (ix x17 0)] h19 fun v28 h29 =>
 vK (binV .i .add (ix x17 1) (.int .i64 1)) fun v30 =>
 again20 [v28, v30] h29) (
 vK (nilV a0) fun v31 =>
 vK (fldV 15 v31) fun v32 =>
 vK (ldV h19 v32) fun v33 =>
 FCall prog zft #[v33, a1, (ix x17 0)] h19 fun v34 h35 =>
 R (.tuple #[]) h35))
theorem ziH (H : zew a0 a1 h R) : FCall prog zc2 #[a0, a1] h R := fk f42 (.s (.d (.op 0 .r (.op 1 .r (.op 2 .r (.op 3 .r (.op 4 .r (.op 5 .r (.op 6 .r (.op 7 .r (.op 8 .r (.op 9 .r (.op 10 .e (.op 11 .n (.op 12 .r .nil)))))))))))))) (.s .z (.s (.s .z (.l 2198989701216 [5, 25] (.s .z (.s (.s .z .z) (.s (.s .z .z) .z))))) .z))) H
def ze5 (a0 : Value) (h : Heap) (R : Value → Heap → Prop) : Prop :=
 FCall prog zcE #[a0] h fun v1 h2 =>
 newK #[(.int .i64 0), (.slice none 0 0)] 96 h2 fun v3 h4 =>
 stK 2 v3 v1 h4 fun v5 h6 =>
 vK (nilV a0) fun v7 =>
 vK (fldV 15 v7) fun v8 =>
 vK (ldV h6 v8) fun v9 =>
 FCall prog zdS #[v9] h6 fun v10 h11 =>
 mkK (.int .i64 0) 2 1 8 v10 v10 h11 fun v12 h13 =>
 vK (fldV 1 v3) fun v14 =>
 vK (ldV h13 v14) fun v15 =>
 vK (zaf v15) fun v16 =>
 loopK [(.int .i64 0)] h13 fun x17 j18 h19 again20 =>
 vK (binV .i .lss (ix x17 0) v16) fun v21 =>
 iteK v21 (
 vK (idxV 1 v15 (ix x17 0)) fun v22 =>
 vK (ldV h19 v22) fun v23 =>
 drawK h19 fun S =>
 vK (nilV a0) fun v24 =>
 vK (fldV 15 v24) fun v25 =>
 qK S (fun h19 => ldV h19 v25) fun v26 =>
 vK (fldV 0 v3) fun v27 =>
 qK S (fun h19 => ldV h19 v27) fun v28 =>
 vK (binV .i .add v28 (ix x17 0)) fun v29 =>
 FCall prog zfs #[v26, v29] h19 fun v30 h31 =>
 vK (extV v30 0) fun v32 =>
 vK (extV v30 1) fun v33 =>
 vK (zaf v32) fun v34 =>
 loopK [(.int .i64 0)] h31 fun x35 j36 h37 again38 =>
 vK (binV .i .lss (ix x35 0) v34) fun v39 =>
 iteK v39 (
 vK (idxV 1 v32 (ix x35 0)) fun v40 =>
 vK (ldV h37 v40) fun v41 =>
 vK (idxV 1 v12 (ix x35 0)) fun v42 =>
 vK (ldV h37 v42) fun v43 =>
 vK (binV .i .mul v23 v41) fun v44 =>
 vK (binV .i .add v43 v44) fun v45 =>
 vK (idxV 1 v12 (ix x35 0)) fun v46 =>
 stK 1 v46 v45 h37 fun v47 h48 =>
 vK (binV .i .add (ix x35 0) (.int .i64 1)) fun v49 =>
 again38 [v49] h48) (
 vK (binV .i .add (ix x17 0) (.int .i64 1)) fun v50 =>
 again20 [v50] h37)) (
 vK (nilV a0) fun v51 =>
 vK (fldV 1 v51) fun v52 =>
 vK (ldV h19 v52) fun v53 =>
 FCall prog zaj #[v53] h19 fun v54 h55 =>
 vK (zaf v12) fun v56 =>
 loopK [(.int .i64 0)] h55 fun x57 j58 h59 again60 =>
 vK (binV .i .lss (ix x57 0) v56) fun v61 =>
 iteK v61 (
 vK (idxV 1 v12 (ix x57 0)) fun v62 =>
 vK (ldV h59 v62) fun v63 =>
 drawK h59 fun S =>
 vK (nilV a0) fun v64 =>
 vK (fldV 1 v64) fun v65 =>
 qK S (fun h59 => ldV h59 v65) fun v66 =>
 vK (nilV a0) fun v67 =>
 vK (fldV 5 v67) fun v68 =>
 vK (fldV 1 v68) fun v69 =>
 vK (fldV 0 v69) fun v70 =>
 qK S (fun h59 => ldV h59 v70) fun v71 =>
 vK (binV .i .quo (ix x57 0) v54) fun v72 =>
 vK (binV .i .add v71 v72) fun v73 =>
 vK (nilV a0) fun v74 =>
 vK (fldV 16 v74) fun v75 =>
 qK S (fun h59 => ldV h59 v75) fun v76 =>
 vK (binV .i .rem (ix x57 0) v54) fun v77 =>
 vK (nilV a0) fun v78 =>
 vK (fldV 1 v78) fun v79 =>
 qK S (fun h59 => ldV h59 v79) fun v80 =>
 FCall prog zay #[v80] h59 fun v81 h82 =>
 S h82 ∧ (FCall prog zd7 #[v63, v81] h82 fun v83 h84 =>
 S h84 ∧ (FCall prog za7 #[v66, v73, v76, v77, v83] h84 fun v85 h86 =>
 vK (binV .i .add (ix x57 0) (.int .i64 1)) fun v87 =>
 again60 [v87] h86))) (
 vK (nilV a0) fun v88 =>
 vK (fldV 16 v88) fun v89 =>
 vK (ldV h59 v89) fun v90 =>
 vK (binV .i .add v90 (.int .i64 1)) fun v91 =>
 vK (nilV a0) fun v92 =>
 vK (fldV 16 v92) fun v93 =>
 stK 1 v93 v91 h59 fun v94 h95 =>
 R (.tuple #[]) h95))
theorem zjt (H : ze5 a0 h R) : FCall prog zdt #[a0] h R := fk f43 (.s .z (.s .z (.s (.s .z (.l 576460752286647280 [24] (.s .z (.s (.s .z .z) (.s (.s .z (.s (.d (.op 0 .r (.op 1 .r (.op 2 .r (.op 3 .r (.op 4 .r (.op 5 .r (.op 6 .r (.op 7 .r (.op 8 .n (.op 9 .r (.op 10 .r (.op 11 .r (.op 12 .r (.op 13 .r .nil))))))))))))))) (.s .z (.l 288221580058690304 [43] (.s .z (.s (.s .z .z) (.s (.s .z .z) .z))))))) .z))))) (.s .z (.s (.s .z (.l 2535301200382671826698568210432 [66] (.s .z (.s (.s .z .z) (.s (.s .z (.d (.op 0 .r (.op 1 .r (.op 2 .r (.op 3 .r (.op 4 .r (.op 5 .r (.op 6 .r (.op 7 .r (.op 8 .r (.op 9 .r (.op 10 .r (.op 11 .r (.op 12 .r (.op 13 .r (.op 14 .r (.op 15 .r (.op 16 .r (.op 17 .r (.op 18 .r (.op 19 .r (.op 20 .r (.op 21 .r (.op 22 .r (.op 23 .r (.op 24 .r (.op 25 .r (.op 26 .e (.op 27 .e (.op 28 .n .nil))))))))))))))))))))))))))))))) .z))))) .z))))) H
def zfA (a0 : Value) (h : Heap) (R : Value → Heap → Prop) : Prop :=
 vK (nilV a0) fun v1 =>
 vK (fldV 16 v1) fun v2 =>
 vK (ldV h v2) fun v3 =>
 vK (nilV a0) fun v4 =>
 vK (fldV 5 v4) fun v5 =>
 vK (fldV 1 v5) fun v6 =>
 vK (fldV 1 v6) fun v7 =>
 vK (ldV h v7) fun v8 =>
 vK (nilV a0) fun v9 =>
 vK (fldV 5 v9) fun v10 =>
 vK (fldV 1 v10) fun v11 =>
 vK (fldV 3 v11) fun v12 =>
 vK (ldV h v12) fun v13 =>
 vK (binV .i .add v8 v13) fun v14 =>
 vK (binV .i .geq v3 v14) fun v15 =>
 R v15 h
theorem zkB (H : zfA a0 h R) : FCall prog zdO #[a0] h R := fk f44 (.s .z (.s .z .z)) H
end
section
variable {a0 a1 a2 a3 a4 a5 a6 a7 : Value} {h : Heap} {R : Value → Heap → Prop}
def zfB (a0 : Value) (h : Heap) (R : Value → Heap → Prop) : Prop :=
 newK #[(.int .i64 0), (.slice none 0 0)] 96 h fun v1 h2 =>
 drawK h2 fun S =>
 vK (nilV a0) fun v3 =>
 vK (fldV 2 v3) fun v4 =>
 vK (fldV 1 v4) fun v5 =>
 qK S (fun h2 => ldV h2 v5) fun v6 =>
 vK (nilV a0) fun v7 =>
 vK (fldV 16 v7) fun v8 =>
 qK S (fun h2 => ldV h2 v8) fun v9 =>
 FCall prog zai #[v6, v9] h2 fun v10 h11 =>
 stK 2 v1 v10 h11 fun v12 h13 =>
 vK (ldsV 2 h13 v1) fun v14 =>
 R v14 h13
theorem zkC (H : zfB a0 h R) : FCall prog zcE #[a0] h R := fk f45 (.s .z (.s (.d (.op 0 .r (.op 1 .r (.op 2 .r (.op 3 .r (.op 4 .r (.op 5 .r (.op 6 .r (.op 7 .r (.op 8 .r (.op 9 .n (.op 10 .n .nil)))))))))))) .z)) H
def zgp (a0 a1 a2 : Value) (h : Heap) (R : Value → Heap → Prop) : Prop :=
 loopK [a1] h fun x1 j2 h3 again4 =>
 vK (binV .i .lss (ix x1 0) a2) fun v5 =>
 iteK v5 (
 FCall prog zdx #[a0, (ix x1 0)] h3 fun v6 h7 =>
 vK (unV .not v6) fun v8 =>
 iteK v8 (
 R (.tuple #[(ix x1 0), (.bool true)]) h7) (
 vK (binV .i .add (ix x1 0) (.int .i64 1)) fun v9 =>
 again4 [v9] h7)) (
 R (.tuple #[(.int .i64 0), (.bool false)]) h3)
theorem zls (H : zgp a0 a1 a2 h R) : FCall prog zer #[a0, a1, a2] h R := fk f46 (.s .z (.s (.s .z (.l 1048000 [8] (.s (.s .z (.s .z .z)) (.s (.s .z (.s (.s .z .z) .z)) .z)))) (.s .z .z))) H
def ze8 (a0 a1 : Value) (h : Heap) (R : Value → Heap → Prop) : Prop :=
 newK #[(.int .i64 0), (.slice none 0 0)] 96 h fun v1 h2 =>
 vK (binV .i .lss a1 (.int .i64 0)) fun v3 =>
 vK (gV v3 false (some a1)) fun v4 =>
 vK (gV v3 false (some a0)) fun v5 =>
 vK (gV v3 false (nilV v5)) fun v6 =>
 vK (gV v3 false (fldV 1 v6)) fun v7 =>
 vK (gV v3 false (ldV h2 v7)) fun v8 =>
 vK (gV v3 false (zaf v8)) fun v9 =>
 vK (gV v3 false (binV .i .geq v4 v9)) fun v10 =>
 vK (pickV v3 (.bool true) v10) fun v11 =>
 iteK v11 (
 vK ((fillL #[(.int .i64 0), (.slice none 0 0)] []).map .agg) fun v12 =>
 stK 2 v1 v12 h2 fun v13 h14 =>
 vK (ldsV 2 h14 v1) fun v15 =>
 R v15 h14) (
 drawK h2 fun S =>
 vK (nilV a0) fun v16 =>
 vK (fldV 1 v16) fun v17 =>
 qK S (fun h2 => ldV h2 v17) fun v18 =>
 vK (idxV 2 v18 a1) fun v19 =>
 vK (fldV 0 v19) fun v20 =>
 qK S (fun h2 => ldV h2 v20) fun v21 =>
 vK (nilV a0) fun v22 =>
 vK (fldV 1 v22) fun v23 =>
 qK S (fun h2 => ldV h2 v23) fun v24 =>
 vK (idxV 2 v24 a1) fun v25 =>
 vK (fldV 1 v25) fun v26 =>
 qK S (fun h2 => ldV h2 v26) fun v27 =>
 FCall prog zaF #[v27] h2 fun v28 h29 =>
 S h29 ∧ (vK ((fillL #[(.int .i64 0), (.slice none 0 0)] [(0, 1, v21), (1, 1, v28)]).map .agg) fun v30 =>
 stK 2 v1 v30 h29 fun v31 h32 =>
 vK (ldsV 2 h32 v1) fun v33 =>
 R v33 h32))
theorem zjw (H : ze8 a0 a1 h R) : FCall prog zai #[a0, a1] h R := fk f47 (.s .z (.s (.s .z (.s (.s .z .z) .z)) (.s (.d (.op 0 .r (.op 1 .r (.op 2 .r (.op 3 .r (.op 4 .r (.op 5 .r (.op 6 .r (.op 7 .r (.op 8 .r (.op 9 .r (.op 10 .r (.op 11 .r (.op 12 .r (.op 13 .r (.op 14 .r (.op 15 .r (.op 16 .e (.op 17 .r (.op 18 .n .nil)))))))))))))))))))) .z))) H
def zi7 (a0 a1 a2 : Value) (h : Heap) (R : Value → Heap → Prop) : Prop :=
 vK (binV .i .geq a0 (.int .i64 1)) fun v1 =>
 vK (gV v1 true (some a0)) fun v2 =>
 vK (gV v1 true (binV .i .leq v2 (.int .i64 65536))) fun v3 =>
 vK (pickV v1 v3 (.bool false)) fun v4 =>
 vK (gV v4 true (some a1)) fun v5 =>
 vK (gV v4 true (binV .i .geq v5 (.int .i64 1))) fun v6 =>
 vK (pickV v4 v6 (.bool false)) fun v7 =>
 vK (gV v7 true (some a1)) fun v8 =>
 vK (gV v7 true (binV .i .leq v8 (.int .i64 65536))) fun v9 =>
 vK (pickV v7 v9 (.bool false)) fun v10 =>
 vK (gV v10 true (some a2)) fun v11 =>
 vK (gV v10 true (binV .i .eql v11 (.int .i64 1))) fun v12 =>
 vK (gV v10 true (some v12)) fun v13 =>
 vK (gV v13 false (some a2)) fun v14 =>
 vK (gV v13 false (binV .i .eql v14 (.int .i64 3))) fun v15 =>
 vK (gV v10 true (pickV v13 (.bool true) v15)) fun v16 =>
 vK (pickV v10 v16 (.bool false)) fun v17 =>
 vK (gV v17 true (some a0)) fun v18 =>
 vK (gV v17 true (some a1)) fun v19 =>
 vK (gV v17 true (binV .i .mul v18 v19)) fun v20 =>
 vK (gV v17 true (some a2)) fun v21 =>
 vK (gV v17 true (binV .i .mul v20 v21)) fun v22 =>
 vK (gV v17 true (binV .i .leq v22 (.int .i64 268435456))) fun v23 =>
 vK (pickV v17 v23 (.bool false)) fun v24 =>
 R v24 h
theorem zox (H : zi7 a0 a1 a2 h R) : FCall prog zdy #[a0, a1, a2] h R := fk f48 (.s .z (.s .z .z)) H
def zd8 (a0 a1 a2 a3 : Value) (h : Heap) (R : Value → Heap → Prop) : Prop :=
 vK (binV .i .lss a1 (.int .i64 0)) fun v1 =>
 vK (gV v1 false (some a1)) fun v2 =>
 vK (gV v1 false (some a0)) fun v3 =>
 vK (gV v1 false (nilV v3)) fun v4 =>
 vK (gV v1 false (fldV 0 v4)) fun v5 =>
 vK (gV v1 false (ldV h v5)) fun v6 =>
 vK (gV v1 false (binV .i .geq v2 v6)) fun v7 =>
 vK (pickV v1 (.bool true) v7) fun v8 =>
 vK (gV v8 false (some a2)) fun v9 =>
 vK (gV v8 false (binV .i .lss v9 (.int .i64 0))) fun v10 =>
 vK (pickV v8 (.bool true) v10) fun v11 =>
 vK (gV v11 false (some a2)) fun v12 =>
 vK (gV v11 false (some a0)) fun v13 =>
 vK (gV v11 false (nilV v13)) fun v14 =>
 vK (gV v11 false (fldV 1 v14)) fun v15 =>
 vK (gV v11 false (ldV h v15)) fun v16 =>
 vK (gV v11 false (binV .i .geq v12 v16)) fun v17 =>
 vK (pickV v11 (.bool true) v17) fun v18 =>
 vK (gV v18 false (some a3)) fun v19 =>
 vK (gV v18 false (binV .i .lss v19 (.int .i64 0))) fun v20 =>
 vK (pickV v18 (.bool true) v20) fun v21 =>
 vK (gV v21 false (some a3)) fun v22 =>
 vK (gV v21 false (some a0)) fun v23 =>
 vK (gV v21 false (nilV v23)) fun v24 =>
 vK (gV v21 false (fldV 2 v24)) fun v25 =>
 vK (gV v21 false (ldV h v25)) fun v26 =>
 vK (gV v21 false (binV .i .geq v22 v26)) fun v27 =>
 vK (pickV v21 (.bool true) v27) fun v28 =>
 iteK v28 (
 R (.int .i64 (-1)) h) (
 vK (nilV a0) fun v29 =>
 vK (fldV 0 v29) fun v30 =>
 vK (ldV h v30) fun v31 =>
 vK (binV .i .mul a2 v31) fun v32 =>
 vK (binV .i .add v32 a1) fun v33 =>
 vK (nilV a0) fun v34 =>
 vK (fldV 2 v34) fun v35 =>
 vK (ldV h v35) fun v36 =>
 vK (binV .i .mul v33 v36) fun v37 =>
 vK (binV .i .add v37 a3) fun v38 =>
 R v38 h)
theorem zhW (H : zd8 a0 a1 a2 a3 h R) : FCall prog zb0 #[a0, a1, a2, a3] h R := fk f49 (.s .z (.s (.s .z (.s (.s .z .z) .z)) (.s .z .z))) H
def zdm (a0 : Value) (h : Heap) (R : Value → Heap → Prop) : Prop :=
 vK (nilV a0) fun v1 =>
 vK (fldV 4 v1) fun v2 =>
 vK (ldV h v2) fun v3 =>
 FCall prog zaN #[v3] h fun v4 h5 =>
 R v4 h5
theorem zgM (H : zdm a0 h R) : FCall prog zbG #[a0] h R := fk f50 (.s .z (.s .z .z)) H
def ziX (a0 a1 : Value) (h : Heap) (R : Value → Heap → Prop) : Prop :=
 FCall prog zcH #[a0, (.int .i64 28)] h fun v1 h2 =>
 joinK (fun J3 =>
 vK (binV .i .lss a1 (.int .i64 0)) fun v7 =>
 iteK v7 (
 J3 [(.int .i64 0)] h2) (
 J3 [a1] h2))
 fun x4 j5 h6 =>
 vK (binV .i .gtr (ix x4 0) (.int .i64 65535)) fun v8 =>
 iteK v8 (
 vK (binV .i .lss v1 (.int .i64 0)) fun v9 =>
 iteK v9 (
 R (.int .u16 0) h6) (
 vK (binV .i .gtr v1 (.int .i64 65535)) fun v10 =>
 iteK v10 (
 vK (cviV .u16 (.int .i64 65535)) fun v11 =>
 R v11 h6) (
 vK (cviV .u16 v1) fun v12 =>
 R v12 h6))) (
 vK (binV .i .lss v1 (.int .i64 0)) fun v13 =>
 iteK v13 (
 R (.int .u16 0) h6) (
 vK (binV .i .gtr v1 (ix x4 0)) fun v14 =>
 iteK v14 (
 vK (cviV .u16 (ix x4 0)) fun v15 =>
 R v15 h6) (
 vK (cviV .u16 v1) fun v16 =>
 R v16 h6)))
theorem zon (H : ziX a0 a1 h R) : FCall prog zgZ #[a0, a1] h R := fk f51 (.s .z (.s .z (.j 770 [1] (.s .z (.s .z .z)) (.s (.s .z (.s .z .z)) (.s (.s .z (.s (.s .z .z) .z)) (.s (.s .z (.s (.s .z .z) .z)) (.s .z .z))))))) H
def zl0 (a0 a1 a2 a3 a4 : Value) (h : Heap) (R : Value → Heap → Prop) : Prop :=
 newK (Value.cells a0) 65 h fun v1 h2 =>
 newK (Value.cells a1) 39 h2 fun v3 h4 =>
 vK (fldV 0 v3) fun v5 =>
 vK (ldV h4 v5) fun v6 =>
 vK (idxV 2 v6 a2) fun v7 =>
 vK (fldV 1 v7) fun v8 =>
 vK (ldV h4 v8) fun v9 =>
 vK (zaf v9) fun v10 =>
 loopK [(.int .i64 0), (.int .i64 0)] h4 fun x11 j12 h13 again14 =>
 vK (binV .i .lss (ix x11 1) v10) fun v15 =>
 iteK v15 (
 vK (idxV 1 v9 (ix x11 1)) fun v16 =>
 vK (ldV h13 v16) fun v17 =>
 drawK h13 fun S =>
 vK (fldV 4 v3) fun v18 =>
 qK S (fun h13 => ldV h13 v18) fun v19 =>
 vK (fldV 0 v3) fun v20 =>
 qK S (fun h13 => ldV h13 v20) fun v21 =>
 vK (idxV 2 v21 a2) fun v22 =>
 vK (fldV 0 v22) fun v23 =>
 qK S (fun h13 => ldV h13 v23) fun v24 =>
 vK (binV .i .add v24 (ix x11 1)) fun v25 =>
 vK (fldV 0 v1) fun v26 =>
 qK S (fun h13 => ldV h13 v26) fun v27 =>
 FCall prog ziE #[v19, v25, v27] h13 fun v28 h29 =>
 vK (fldV 1 v3) fun v30 =>
 vK (ldV h29 v30) fun v31 =>
 vK (idxV 2 v31 a3) fun v32 =>
 vK (fldV 1 v32) fun v33 =>
 vK (ldV h29 v33) fun v34 =>
 vK (zaf v34) fun v35 =>
 loopK [(.int .i64 0), (.int .i64 0)] h29 fun x36 j37 h38 again39 =>
 vK (binV .i .lss (ix x36 1) v35) fun v40 =>
 iteK v40 (
 vK (idxV 1 v34 (ix x36 1)) fun v41 =>
 vK (ldV h38 v41) fun v42 =>
 drawK h38 fun S =>
 vK (fldV 4 v3) fun v43 =>
 qK S (fun h38 => ldV h38 v43) fun v44 =>
 vK (fldV 1 v3) fun v45 =>
 qK S (fun h38 => ldV h38 v45) fun v46 =>
 vK (idxV 2 v46 a3) fun v47 =>
 vK (fldV 0 v47) fun v48 =>
 qK S (fun h38 => ldV h38 v48) fun v49 =>
 vK (binV .i .add v49 (ix x36 1)) fun v50 =>
 vK (fldV 1 v1) fun v51 =>
 qK S (fun h38 => ldV h38 v51) fun v52 =>
 FCall prog ziE #[v44, v50, v52] h38 fun v53 h54 =>
 vK (ldsV 5 h54 v1) fun v55 =>
 FCall prog ziD #[v55, v28, v53, a4] h54 fun v56 h57 =>
 vK (cviV .i64 v56) fun v58 =>
 vK (binV .i .mul v42 v58) fun v59 =>
 vK (binV .i .add (ix x36 0) v59) fun v60 =>
 vK (binV .i .add (ix x36 1) (.int .i64 1)) fun v61 =>
 again39 [v60, v61] h57) (
 vK (binV .i .mul v17 (ix x36 0)) fun v62 =>
 vK (binV .i .add (ix x11 0) v62) fun v63 =>
 vK (binV .i .add (ix x11 1) (.int .i64 1)) fun v64 =>
 again14 [v63, v64] h38)) (
 R (ix x11 0) h13)
theorem ok_ref15_Sum (H : zl0 a0 a1 a2 a3 a4 h R) : FCall prog zjI #[a0, a1, a2, a3, a4] h R := fk f52 (.s .z (.s .z (.s (.s .z (.l 77371252455336267114608640 [11, 26] (.s .z (.s (.s .z .z) (.s (.s .z (.s (.d (.op 0 .r (.op 1 .r (.op 2 .r (.op 3 .r (.op 4 .r (.op 5 .r (.op 6 .r (.op 7 .r (.op 8 .r (.op 9 .r (.op 10 .r (.op 11 .r (.op 12 .n (.op 13 .r .nil))))))))))))))) (.s .z (.s (.s .z (.l 1208925817362829361512448 [15, 51] (.s .z (.s (.s .z .z) (.s (.s .z (.s (.d (.op 0 .r (.op 1 .r (.op 2 .r (.op 3 .r (.op 4 .r (.op 5 .r (.op 6 .r (.op 7 .r (.op 8 .r (.op 9 .r (.op 10 .r (.op 11 .r (.op 12 .n (.op 13 .r .nil))))))))))))))) .z)) .z))))) .z)))) .z))))) (.s .z .z)))) H
def zm8 (a0 a1 a2 a3 : Value) (h : Heap) (R : Value → Heap → Prop) : Prop :=
 newK (Value.cells a0) 65 h fun v1 h2 =>
 vK (binV .i .geq a1 (.int .i64 0)) fun v3 =>
 vK (gV v3 true (some a2)) fun v4 =>
 vK (gV v3 true (binV .i .geq v4 (.int .i64 0))) fun v5 =>
 vK (pickV v3 v5 (.bool false)) fun v6 =>
 vK (gV v6 true (some a3)) fun v7 =>
 vK (gV v6 true (binV .i .geq v7 (.int .i64 0))) fun v8 =>
 vK (pickV v6 v8 (.bool false)) fun v9 =>
 vK (gV v9 true (some a1)) fun v10 =>
 vK (gV v9 true (fldV 0 v1)) fun v11 =>
 vK (gV v9 true (ldV h2 v11)) fun v12 =>
 vK (gV v9 true (binV .i .lss v10 v12)) fun v13 =>
 vK (pickV v9 v13 (.bool false)) fun v14 =>
 vK (gV v14 true (some a2)) fun v15 =>
 vK (gV v14 true (fldV 1 v1)) fun v16 =>
 vK (gV v14 true (ldV h2 v16)) fun v17 =>
 vK (gV v14 true (binV .i .lss v15 v17)) fun v18 =>
 vK (pickV v14 v18 (.bool false)) fun v19 =>
 vK (gV v19 true (some a3)) fun v20 =>
 vK (gV v19 true (fldV 2 v1)) fun v21 =>
 vK (gV v19 true (ldV h2 v21)) fun v22 =>
 vK (gV v19 true (binV .i .lss v20 v22)) fun v23 =>
 vK (pickV v19 v23 (.bool false)) fun v24 =>
 R v24 h2
theorem ok_ref09_In (H : zm8 a0 a1 a2 a3 h R) : FCall prog zlO #[a0, a1, a2, a3] h R := fk f53 (.s .z (.s .z .z)) H
def zj5 (a0 a1 : Value) (h : Heap) (R : Value → Heap → Prop) : Prop :=
 vK (zaf a0) fun v1 =>
 vK (zaf a1) fun v2 =>
 vK (binV .i .neq v1 v2) fun v3 =>
 iteK v3 (
 R (.bool false) h) (
 vK (zaf a0) fun v4 =>
 loopK [(.int .i64 0)] h fun x5 j6 h7 again8 =>
 vK (binV .i .lss (ix x5 0) v4) fun v9 =>
 iteK v9 (
 vK (idxV 1 a0 (ix x5 0)) fun v10 =>
 vK (ldV h7 v10) fun v11 =>
 vK (idxV 1 a1 (ix x5 0)) fun v12 =>
 vK (ldV h7 v12) fun v13 =>
 vK (binV .i .neq v11 v13) fun v14 =>
 iteK v14 (
 R (.bool false) h7) (
 vK (binV .i .add (ix x5 0) (.int .i64 1)) fun v15 =>
 again8 [v15] h7)) (
 R (.bool true) h7))
theorem zp4 (H : zj5 a0 a1 h R) : FCall prog zif #[a0, a1] h R := fk f54 (.s .z (.s (.s .z (.s (.s .z .z) .z)) (.s (.s .z (.l 67100720 [13] (.s .z (.s (.s .z .z) (.s (.s .z (.s .z (.s (.s .z .z) .z))) .z))))) (.s .z .z)))) H
def zbX (a0 : Value) (h : Heap) (R : Value → Heap → Prop) : Prop :=
 vK (binV .sl .eql a0 (.slice none 0 0)) fun v1 =>
 iteK v1 (
 R (.slice none 0 0) h) (
 rowK #[] 22 0 [] h fun v2 h3 =>
 appK (.int .u16 0) 22 1 2 v2 a0 h3 fun v4 h5 =>
 R v4 h5)
theorem zdD (H : zbX a0 h R) : FCall prog zaN #[a0] h R := fk f55 (.s .z (.s (.s .z (.s (.s .z .z) .z)) (.s .z .z))) H
def zbW (a0 a1 : Value) (h : Heap) (R : Value → Heap → Prop) : Prop :=
 vK (zaf a0) fun v1 =>
 vK (zaf a1) fun v2 =>
 vK (binV .i .neq v1 v2) fun v3 =>
 iteK v3 (
 R (.bool false) h) (
 vK (zaf a0) fun v4 =>
 loopK [(.int .i64 0)] h fun x5 j6 h7 again8 =>
 vK (binV .i .lss (ix x5 0) v4) fun v9 =>
 iteK v9 (
 vK (idxV 1 a0 (ix x5 0)) fun v10 =>
 vK (ldV h7 v10) fun v11 =>
 vK (idxV 1 a1 (ix x5 0)) fun v12 =>
 vK (ldV h7 v12) fun v13 =>
 vK (binV .i .neq v11 v13) fun v14 =>
 iteK v14 (
 R (.bool false) h7) (
 vK (binV .i .add (ix x5 0) (.int .i64 1)) fun v15 =>
 again8 [v15] h7)) (
 R (.bool true) h7))
theorem zdC (H : zbW a0 a1 h R) : FCall prog zbc #[a0, a1] h R := fk f56 (.s .z (.s (.s .z (.s (.s .z .z) .z)) (.s (.s .z (.l 67100720 [13] (.s .z (.s (.s .z .z) (.s (.s .z (.s .z (.s (.s .z .z) .z))) .z))))) (.s .z .z)))) H
def zfI (a0 : Value) (h : Heap) (R : Value → Heap → Prop) : Prop :=
 vK (nilV a0) fun v1 =>
 vK (fldV 0 v1) fun v2 =>
 vK (ldV h v2) fun v3 =>
 vK (nilV a0) fun v4 =>
 vK (fldV 1 v4) fun v5 =>
 vK (ldV h v5) fun v6 =>
 vK (binV .i .mul v3 v6) fun v7 =>
 R v7 h
theorem zkJ (H : zfI a0 h R) : FCall prog zdR #[a0] h R := fk f57 (.s .z (.s .z .z)) H
def zm7 (a0 a1 : Value) (h : Heap) (R : Value → Heap → Prop) : Prop :=
 vK (zaf a0) fun v1 =>
 loopK [(.int .i64 0)] h fun x2 j3 h4 again5 =>
 vK (binV .i .lss (ix x2 0) v1) fun v6 =>
 iteK v6 (
 vK (idxV 1 a0 (ix x2 0)) fun v7 =>
 vK (ldV h4 v7) fun v8 =>
 vK (binV .i .eql v8 a1) fun v9 =>
 iteK v9 (
 R (.bool true) h4) (
 vK (binV .i .add (ix x2 0) (.int .i64 1)) fun v10 =>
 again5 [v10] h4)) (
 R (.bool false) h4)
theorem ok_ref17_in (H : zm7 a0 a1 h R) : FCall prog zlN #[a0, a1] h R := fk f58 (.s .z (.s (.s .z (.l 130640 [9] (.s .z (.s (.s .z .z) (.s (.s .z (.s .z (.s (.s .z .z) .z))) .z))))) (.s .z .z))) H
def zhm (a0 : Value) (h : Heap) (R : Value → Heap → Prop) : Prop :=
 vK (nilV a0) fun v1 =>
 vK (fldV 2 v1) fun v2 =>
 vK (ldV h v2) fun v3 =>
 vK (lenmV h v3) fun v4 =>
 R v4 h
theorem zmA (H : zhm a0 h R) : FCall prog zfu #[a0] h R := fk f59 (.s .z (.s .z .z)) H
def sh_op_may (a0 : Value) (h : Heap) (R : Value → Heap → Prop) : Prop :=
 newK (Value.cells a0) 31 h fun v1 h2 =>
 vK (fldV 0 v1) fun v3 =>
 vK (ldV h2 v3) fun v4 =>
 vK (binV .i .lss v4 (.int .i64 0)) fun v5 =>
 vK (gV v5 false (fldV 0 v1)) fun v6 =>
 vK (gV v5 false (ldV h2 v6)) fun v7 =>
 vK (gV v5 false (binV .i .geq v7 (.int .i64 4))) fun v8 =>
 vK (pickV v5 (.bool true) v8) fun v9 =>
 vK (gV v9 false (fldV 1 v1)) fun v10 =>
 vK (gV v9 false (ldV h2 v10)) fun v11 =>
 gK v9 false (fun k40 => FCall prog zeU #[v11] h2 k40) h2 fun v12 h13 =>
 vK (gV v9 false (binV .s .eql v12 (.string ⟨#[]⟩))) fun v14 =>
 vK (pickV v9 (.bool true) v14) fun v15 =>
 iteK v15 (
 R (.bool false) h13) (
 vK (fldV 0 v1) fun v16 =>
 vK (ldV h13 v16) fun v17 =>
 vK (binV .i .neq v17 (.int .i64 3)) fun v18 =>
 vK (gV v18 false (fldV 7 v1)) fun v19 =>
 vK (gV v18 false (ldV h13 v19)) fun v20 =>
 gK v18 false (fun k39 => FCall prog zgB #[v20] h13 k39) h13 fun v21 h22 =>
 vK (gV v18 false (some v21)) fun v23 =>
 vK (gV v23 true (fldV 8 v1)) fun v24 =>
 vK (gV v23 true (ldV h22 v24)) fun v25 =>
 gK v23 true (fun k38 => FCall prog zgB #[v25] h22 k38) h22 fun v26 h27 =>
 vK (gV v18 false (pickV v23 v26 (.bool false))) fun v28 =>
 vK (gV v18 false (some v28)) fun v29 =>
 vK (gV v29 true (fldV 6 v1)) fun v30 =>
 vK (gV v29 true (ldV h27 v30)) fun v31 =>
 gK v29 true (fun k37 => FCall prog ziG #[v31] h27 k37) h27 fun v32 h33 =>
 vK (gV v29 true (binV .s .neq v32 (.string ⟨#[]⟩))) fun v34 =>
 vK (gV v18 false (pickV v29 v34 (.bool false))) fun v35 =>
 vK (pickV v18 (.bool true) v35) fun v36 =>
 R v36 h33)
theorem ok_op_may (H : sh_op_may a0 h R) : FCall prog zq5 #[a0] h R := fk f60 (.s .z (.s (.s .z (.s (.s .z .z) .z)) (.s .z .z))) H
def zoX (a0 : Value) (h : Heap) (R : Value → Heap → Prop) : Prop :=
 vK (binV .i .geq a0 (.int .i64 1)) fun v1 =>
 vK (gV v1 true (some a0)) fun v2 =>
 vK (gV v1 true (binV .i .leq v2 (.int .i64 65536))) fun v3 =>
 vK (pickV v1 v3 (.bool false)) fun v4 =>
 R v4 h
theorem ok_op_side (H : zoX a0 h R) : FCall prog zgB #[a0] h R := fk f61 (.s .z (.s .z .z)) H
def zmb (a0 a1 a2 : Value) (h : Heap) (R : Value → Heap → Prop) : Prop :=
 newK (Value.cells a0) 31 h fun v1 h2 =>
 vK (fldV 0 v1) fun v3 =>
 vK (ldV h2 v3) fun v4 =>
 vK (binV .i .eql v4 (.int .i64 3)) fun v5 =>
 iteK v5 (
 vK (fldV 6 v1) fun v6 =>
 vK (ldV h2 v6) fun v7 =>
 vK (fldV 7 v1) fun v8 =>
 vK (ldV h2 v8) fun v9 =>
 FCall prog zcV #[v7, a1, v9] h2 fun v10 h11 =>
 vK (extV v10 0) fun v12 =>
 vK (extV v10 1) fun v13 =>
 vK (binV .i .eql v13 (.int .i64 0)) fun v14 =>
 iteK v14 (
 vK (fldV 6 v1) fun v15 =>
 vK (ldV h11 v15) fun v16 =>
 vK (fldV 8 v1) fun v17 =>
 vK (ldV h11 v17) fun v18 =>
 FCall prog zcV #[v16, a2, v18] h11 fun v19 h20 =>
 vK (extV v19 0) fun v21 =>
 vK (extV v19 1) fun v22 =>
 R (.tuple #[v12, v21, v22]) h20) (
 R (.tuple #[v12, (.pointer none), v13]) h11)) (
 vK (ldsV 9 h2 v1) fun v23 =>
 FCall prog zij #[v23] h2 fun v24 h25 =>
 vK (extV v24 0) fun v26 =>
 vK (extV v24 1) fun v27 =>
 vK (extV v24 2) fun v28 =>
 vK (binV .i .neq v28 (.int .i64 0)) fun v29 =>
 iteK v29 (
 R (.tuple #[(.pointer none), (.pointer none), v28]) h25) (
 FCall prog zd3 #[v26, a1] h25 fun v30 h31 =>
 vK (extV v30 0) fun v32 =>
 vK (extV v30 1) fun v33 =>
 vK (binV .i .eql v33 (.int .i64 0)) fun v34 =>
 iteK v34 (
 FCall prog zd3 #[v27, a2] h31 fun v35 h36 =>
 vK (extV v35 0) fun v37 =>
 vK (extV v35 1) fun v38 =>
 R (.tuple #[v32, v37, v38]) h36) (
 R (.tuple #[v32, (.pointer none), v33]) h31)))
theorem ok_op_tables (H : zmb a0 a1 a2 h R) : FCall prog zjP #[a0, a1, a2] h R := fk f62 (.s .z (.s (.s .z (.s (.s (.s .z (.s .z (.s .z .z))) (.s .z .z)) .z)) (.s .z (.s (.s .z (.s (.s .z .z) .z)) (.s (.s .z (.s .z (.s .z .z))) (.s .z .z)))))) H
def zjc (h : Heap) (R : Value → Heap → Prop) : Prop :=
 vK ((fillL #[(.int .i64 0), (.int .i64 0), (.int .i64 0), (.int .i64 0), (.slice none 0 0), (.slice none 0 0), (.int .i64 0), (.int .i64 0), (.int .i64 0)] [(0, 1, (.int .i64 3)), (7, 1, (.int .i64 2)), (8, 1, (.int .i64 1)), (6, 1, (.int .i64 0))]).map .agg) fun v1 =>
 FCall prog zfx #[v1, (.int .i64 4), (.int .i64 3)] h fun v2 h3 =>
 vK (extV v2 0) fun v4 =>
 vK (extV v2 1) fun v5 =>
 newK #[(.pointer none), (.pointer none), (.int .i64 0)] 36 h3 fun v6 h7 =>
 stK 3 v6 v4 h7 fun v8 h9 =>
 FCall prog zhc #[] h9 fun v10 h11 =>
 vK (gV v10 true (some v5)) fun v12 =>
 vK (gV v10 true (binV .i .eql v12 (.int .i64 0))) fun v13 =>
 vK (pickV v10 v13 (.bool false)) fun v14 =>
 vK (gV v14 true (fldV 0 v6)) fun v15 =>
 vK (gV v14 true (ldV h11 v15)) fun v16 =>
 vK (gV v14 true (binV .p .neq v16 (.pointer none))) fun v17 =>
 vK (pickV v14 v17 (.bool false)) fun v18 =>
 vK (gV v18 true (fldV 1 v6)) fun v19 =>
 vK (gV v18 true (ldV h11 v19)) fun v20 =>
 vK (gV v18 true (binV .p .neq v20 (.pointer none))) fun v21 =>
 vK (pickV v18 v21 (.bool false)) fun v22 =>
 vK (gV v22 true (fldV 0 v6)) fun v23 =>
 vK (gV v22 true (ldV h11 v23)) fun v24 =>
 gK v22 true (fun k50 => FCall prog zbk #[v24] h11 k50) h11 fun v25 h26 =>
 vK (gV v22 true (binV .i .eql v25 (.int .i64 4))) fun v27 =>
 vK (pickV v22 v27 (.bool false)) fun v28 =>
 vK (gV v28 true (fldV 0 v6)) fun v29 =>
 vK (gV v28 true (ldV h26 v29)) fun v30 =>
 gK v28 true (fun k49 => FCall prog zap #[v30] h26 k49) h26 fun v31 h32 =>
 vK (gV v28 true (binV .i .eql v31 (.int .i64 2))) fun v33 =>
 vK (pickV v28 v33 (.bool false)) fun v34 =>
 vK (gV v34 true (fldV 1 v6)) fun v35 =>
 vK (gV v34 true (ldV h32 v35)) fun v36 =>
 gK v34 true (fun k48 => FCall prog zbk #[v36] h32 k48) h32 fun v37 h38 =>
 vK (gV v34 true (binV .i .eql v37 (.int .i64 3))) fun v39 =>
 vK (pickV v34 v39 (.bool false)) fun v40 =>
 vK (gV v40 true (fldV 1 v6)) fun v41 =>
 vK (gV v40 true (ldV h38 v41)) fun v42 =>
 gK v40 true (fun k47 => FCall prog zap #[v42] h38 k47) h38 fun v43 h44 =>
 vK (gV v40 true (binV .i .eql v43 (.int .i64 1))) fun v45 =>
 vK (pickV v40 v45 (.bool false)) fun v46 =>
 R v46 h44
theorem zoC (H : zjc h R) : FCall prog zeS #[] h R := fk f63 (.s .z (.s .z (.s .z .z))) H
def znf (a0 a1 a2 : Value) (h : Heap) (R : Value → Heap → Prop) : Prop :=
 newK (Value.cells a0) 36 h fun v1 h2 =>
 vK (fldV 0 v1) fun v3 =>
 vK (ldV h2 v3) fun v4 =>
 vK (binV .p .eql v4 (.pointer none)) fun v5 =>
 vK (gV v5 false (fldV 1 v1)) fun v6 =>
 vK (gV v5 false (ldV h2 v6)) fun v7 =>
 vK (gV v5 false (binV .p .eql v7 (.pointer none))) fun v8 =>
 vK (pickV v5 (.bool true) v8) fun v9 =>
 iteK v9 (
 R (.tuple #[(.pointer none), (.int .i64 6)]) h2) (
 FCall prog zg6 #[a1] h2 fun v10 h11 =>
 vK (unV .not v10) fun v12 =>
 vK (gV v12 false (some a2)) fun v13 =>
 gK v12 false (fun k22 => FCall prog zg6 #[v13] h11 k22) h11 fun v14 h15 =>
 vK (gV v12 false (unV .not v14)) fun v16 =>
 vK (pickV v12 (.bool true) v16) fun v17 =>
 iteK v17 (
 R (.tuple #[(.pointer none), (.int .i64 9)]) h15) (
 vK (ldsV 3 h15 v1) fun v18 =>
 vK ((fillL #[(.pointer none), (.pointer none), (.int .i64 0), (.int .i64 0), (.int .i64 0)] [(0, 3, v18), (3, 1, a1), (4, 1, a2)]).map .agg) fun v19 =>
 newK (Value.cells v19) 157 h15 fun v20 h21 =>
 R (.tuple #[v20, (.int .i64 0)]) h21))
theorem ok_plan_New (H : znf a0 a1 a2 h R) : FCall prog zlP #[a0, a1, a2] h R := fk f64 (.s .z (.s (.s .z (.s (.s .z .z) (.s .z (.s (.s .z .z) .z)))) (.s .z .z))) H
def zgt (a0 a1 : Value) (h : Heap) (R : Value → Heap → Prop) : Prop :=
 newK #[(.int .i64 0), (.int .i64 0), (.int .i64 0), (.int .i64 0), (.int .i64 0), (.int .i64 0), (.int .i64 0), (.int .i64 0), (.int .i64 0), (.int .i64 0)] 43 h fun v1 h2 =>
 vK (binV .i .lss a1 (.int .i64 0)) fun v3 =>
 vK (gV v3 false (some a1)) fun v4 =>
 vK (gV v3 false (some a0)) fun v5 =>
 gK v3 false (fun k99 => FCall prog zcI #[v5] h2 k99) h2 fun v6 h7 =>
 vK (gV v3 false (binV .i .geq v4 v6)) fun v8 =>
 vK (pickV v3 (.bool true) v8) fun v9 =>
 iteK v9 (
 vK ((fillL #[(.int .i64 0), (.int .i64 0), (.int .i64 0), (.int .i64 0), (.int .i64 0), (.int .i64 0), (.int .i64 0), (.int .i64 0), (.int .i64 0), (.int .i64 0)] []).map .agg) fun v10 =>
 stK 10 v1 v10 h7 fun v11 h12 =>
 vK (ldsV 10 h12 v1) fun v13 =>
 R (.tuple #[v13, (.bool false)]) h12) (
 joinK (fun J14 =>
 drawK h7 fun S =>
 vK (nilV a0) fun v18 =>
 vK (fldV 0 v18) fun v19 =>
 vK (fldV 1 v19) fun v20 =>
 qK S (fun h7 => ldV h7 v20) fun v21 =>
 (FCall prog zdz #[a0, a1] h7 fun v22 h23 =>
 S h23 ∧ ((FCall prog zaQ #[v21] h23 fun v24 h25 =>
 S h25 ∧ (vK ((fillL #[(.int .i64 0), (.int .i64 0), (.int .i64 0), (.int .i64 0), (.int .i64 0), (.int .i64 0), (.int .i64 0), (.int .i64 0), (.int .i64 0), (.int .i64 0)] [(0, 1, a1), (1, 4, v22), (9, 1, v24)]).map .agg) fun v26 =>
 newK #[(.int .i64 0), (.int .i64 0), (.int .i64 0), (.int .i64 0), (.int .i64 0), (.int .i64 0), (.int .i64 0), (.int .i64 0), (.int .i64 0), (.int .i64 0)] 43 h25 fun v27 h28 =>
 S h28 ∧ (stK 10 v27 v26 h28 fun v29 h30 =>
 S h30 ∧ (J14 [v27] h30)))) ∧ (newK #[(.int .i64 0), (.int .i64 0), (.int .i64 0), (.int .i64 0), (.int .i64 0), (.int .i64 0), (.int .i64 0), (.int .i64 0), (.int .i64 0), (.int .i64 0)] 43 h23 fun v31 h32 =>
 S h32 ∧ (FCall prog zaQ #[v21] h32 fun v33 h34 =>
 S h34 ∧ (vK ((fillL #[(.int .i64 0), (.int .i64 0), (.int .i64 0), (.int .i64 0), (.int .i64 0), (.int .i64 0), (.int .i64 0), (.int .i64 0), (.int .i64 0), (.int .i64 0)] [(0, 1, a1), (1, 4, v22), (9, 1, v33)]).map .agg) fun v35 =>
 stK 10 v31 v35 h34 fun v36 h37 =>
 S h37 ∧ (J14 [v31] h37)))))) ∧ (newK #[(.int .i64 0), (.int .i64 0), (.int .i64 0), (.int .i64 0), (.int .i64 0), (.int .i64 0), (.int .i64 0), (.int .i64 0), (.int .i64 0), (.int .i64 0)] 43 h7 fun v38 h39 =>
 S h39 ∧ (FCall prog zdz #[a0, a1] h39 fun v40 h41 =>
 S h41 ∧ (FCall prog zaQ #[v21] h41 fun v42 h43 =>
 S h43 ∧ (vK ((fillL #[(.int .i64 0), (.int .i64 0), (.int .i64 0), (.int .i64 0), (.int .i64 0), (.int .i64 0), (.int .i64 0), (.int .i64 0), (.int .i64 0), (.int .i64 0)] [(0, 1, a1), (1, 4, v40), (9, 1, v42)]).map .agg) fun v44 =>
 stK 10 v38 v44 h43 fun v45 h46 =>
 S h46 ∧ (J14 [v38] h46))))))
 fun x15 j16 h17 =>
 drawK h17 fun S =>
 vK (nilV a0) fun v47 =>
 vK (fldV 0 v47) fun v48 =>
 vK (fldV 0 v48) fun v49 =>
 qK S (fun h17 => ldV h17 v49) fun v50 =>
 vK (fldV 1 (ix x15 0)) fun v51 =>
 vK (fldV 0 v51) fun v52 =>
 qK S (fun h17 => ldV h17 v52) fun v53 =>
 vK (fldV 1 (ix x15 0)) fun v54 =>
 vK (fldV 0 v54) fun v55 =>
 qK S (fun h17 => ldV h17 v55) fun v56 =>
 vK (fldV 1 (ix x15 0)) fun v57 =>
 vK (fldV 2 v57) fun v58 =>
 qK S (fun h17 => ldV h17 v58) fun v59 =>
 vK (binV .i .add v56 v59) fun v60 =>
 FCall prog zbD #[v50, v53, v60] h17 fun v61 h62 =>
 vK (extV v61 0) fun v63 =>
 vK (extV v61 1) fun v64 =>
 vK (fldV 5 (ix x15 0)) fun v65 =>
 stK 1 v65 v63 h62 fun v66 h67 =>
 vK (fldV 7 (ix x15 0)) fun v68 =>
 stK 1 v68 v64 h67 fun v69 h70 =>
 drawK h70 fun S =>
 vK (nilV a0) fun v71 =>
 vK (fldV 0 v71) fun v72 =>
 vK (fldV 1 v72) fun v73 =>
 qK S (fun h70 => ldV h70 v73) fun v74 =>
 vK (fldV 1 (ix x15 0)) fun v75 =>
 vK (fldV 1 v75) fun v76 =>
 qK S (fun h70 => ldV h70 v76) fun v77 =>
 vK (fldV 1 (ix x15 0)) fun v78 =>
 vK (fldV 1 v78) fun v79 =>
 qK S (fun h70 => ldV h70 v79) fun v80 =>
 vK (fldV 1 (ix x15 0)) fun v81 =>
 vK (fldV 3 v81) fun v82 =>
 qK S (fun h70 => ldV h70 v82) fun v83 =>
 vK (binV .i .add v80 v83) fun v84 =>
 FCall prog zbD #[v74, v77, v84] h70 fun v85 h86 =>
 vK (extV v85 0) fun v87 =>
 vK (extV v85 1) fun v88 =>
 vK (fldV 6 (ix x15 0)) fun v89 =>
 stK 1 v89 v87 h86 fun v90 h91 =>
 vK (fldV 8 (ix x15 0)) fun v92 =>
 stK 1 v92 v88 h91 fun v93 h94 =>
 vK (ldsV 10 h94 (ix x15 0)) fun v95 =>
 stK 10 v1 v95 h94 fun v96 h97 =>
 vK (ldsV 10 h97 v1) fun v98 =>
 R (.tuple #[v98, (.bool true)]) h97)
theorem zlw (H : zgt a0 a1 h R) : FCall prog zeu #[a0, a1] h R := fk f65 (.s .z (.s (.s .z (.s (.s .z .z) .z)) (.j 134152256 [6] (.d (.op 0 .r (.op 1 .r (.op 2 .r (.op 4 .r (.op 5 .r (.op 6 .r (.op 7 .r (.op 8 .r (.alt (.op 3 .e (.alt (.op 9 .e (.op 10 .r (.op 11 .e (.op 12 .e .nil)))) (.op 11 .e (.op 9 .e (.op 10 .r (.op 12 .e .nil)))))) (.op 11 .e (.op 3 .e (.op 9 .e (.op 10 .r (.op 12 .e .nil))))))))))))))) (.s (.d (.op 0 .r (.op 1 .r (.op 2 .r (.op 3 .r (.op 4 .r (.op 5 .r (.op 6 .r (.op 7 .r (.op 8 .r (.op 9 .r (.op 10 .r (.op 11 .r (.op 12 .r (.op 13 .r (.op 14 .r (.op 15 .n (.op 16 .r (.op 17 .r (.op 18 .r (.op 19 .r (.op 20 .n (.op 21 .r (.op 22 .n .nil)))))))))))))))))))))))) (.s (.d (.op 0 .r (.op 1 .r (.op 2 .r (.op 3 .r (.op 4 .r (.op 5 .r (.op 6 .r (.op 7 .r (.op 8 .r (.op 9 .r (.op 10 .r (.op 11 .r (.op 12 .r (.op 13 .r (.op 14 .r (.op 15 .n (.op 16 .r (.op 17 .r (.op 18 .r (.op 19 .r (.op 20 .n (.op 21 .r (.op 22 .n .nil)))))))))))))))))))))))) (.s .z .z)))))) H
def zfN (a0 : Value) (h : Heap) (R : Value → Heap → Prop) : Prop :=
 drawK h fun S =>
 vK (nilV a0) fun v1 =>
 vK (fldV 0 v1) fun v2 =>
 vK (fldV 1 v2) fun v3 =>
 qK S (fun h => ldV h v3) fun v4 =>
 vK (nilV a0) fun v5 =>
 vK (fldV 4 v5) fun v6 =>
 qK S (fun h => ldV h v6) fun v7 =>
 FCall prog zbF #[a0] h fun v8 h9 =>
 S h9 ∧ (FCall prog zap #[v4] h9 fun v10 h11 =>
 S h11 ∧ (FCall prog zf8 #[v10, v7] h11 fun v12 h13 =>
 vK (binV .i .mul v8 v12) fun v14 =>
 R v14 h13))
theorem zkO (H : zfN a0 h R) : FCall prog zcI #[a0] h R := fk f66 (.s .z (.s (.d (.op 0 .r (.op 2 .r (.op 3 .r (.op 4 .r (.op 5 .r (.op 6 .r (.op 8 .r (.op 9 .r (.op 10 .r (.op 11 .r (.op 1 .e (.op 7 .e (.op 12 .n (.op 13 .r (.op 14 .r .nil)))))))))))))))) .z)) H
def zl9 (a0 a1 a2 a3 a4 : Value) (h : Heap) (R : Value → Heap → Prop) : Prop :=
 FCall prog zbv #[a0, a1, a2, a3] h fun v1 h2 =>
 vK (extV v1 0) fun v3 =>
 vK (extV v1 1) fun v4 =>
 vK (binV .i .neq v4 (.int .i64 0)) fun v5 =>
 iteK v5 (
 R (.tuple #[(.pointer none), v4]) h2) (
 vK (zaf a4) fun v6 =>
 vK (nilV v3) fun v7 =>
 vK (fldV 4 v7) fun v8 =>
 vK (ldV h2 v8) fun v9 =>
 vK (zaf v9) fun v10 =>
 vK (binV .i .neq v6 v10) fun v11 =>
 iteK v11 (
 R (.tuple #[(.pointer none), (.int .i64 2)]) h2) (
 FCall prog zbq #[a4] h2 fun v12 h13 =>
 vK (cviV .i64 v12) fun v14 =>
 vK (binV .i .gtr v14 a3) fun v15 =>
 iteK v15 (
 R (.tuple #[(.pointer none), (.int .i64 4)]) h13) (
 vK (nilV v3) fun v16 =>
 vK (fldV 4 v16) fun v17 =>
 vK (ldV h13 v17) fun v18 =>
 cpyK 1 v18 a4 h13 fun v19 h20 =>
 R (.tuple #[v3, (.int .i64 0)]) h20)))
theorem ok_raster_Of (H : zl9 a0 a1 a2 a3 a4 h R) : FCall prog zg5 #[a0, a1, a2, a3, a4] h R := fk f67 (.s .z (.s .z (.s (.s .z (.s (.s .z .z) (.s .z (.s (.s .z .z) (.s .z (.s (.s .z .z) .z)))))) (.s .z (.s .z .z))))) H
def zjd (h : Heap) (R : Value → Heap → Prop) : Prop :=
 FCall prog zbv #[(.int .i64 2), (.int .i64 1), (.int .i64 3), (.int .i64 255)] h fun v1 h2 =>
 vK (extV v1 0) fun v3 =>
 vK (extV v1 1) fun v4 =>
 vK (binV .i .eql v4 (.int .i64 0)) fun v5 =>
 vK (gV v5 true (some v3)) fun v6 =>
 vK (gV v5 true (binV .p .neq v6 (.pointer none))) fun v7 =>
 vK (pickV v5 v7 (.bool false)) fun v8 =>
 vK (gV v8 true (some v3)) fun v9 =>
 gK v8 true (fun k26 => FCall prog zbG #[v9] h2 k26) h2 fun v10 h11 =>
 vK (gV v8 true (zaf v10)) fun v12 =>
 vK (gV v8 true (binV .i .eql v12 (.int .i64 6))) fun v13 =>
 vK (pickV v8 v13 (.bool false)) fun v14 =>
 vK (gV v14 true (some v3)) fun v15 =>
 gK v14 true (fun k25 => FCall prog za7 #[v15, (.int .i64 1), (.int .i64 0), (.int .i64 2), (.int .u16 256)] h11 k25) h11 fun v16 h17 =>
 vK (gV v14 true (unV .not v16)) fun v18 =>
 vK (pickV v14 v18 (.bool false)) fun v19 =>
 vK (gV v19 true (some v3)) fun v20 =>
 gK v19 true (fun k24 => FCall prog za7 #[v20, (.int .i64 1), (.int .i64 0), (.int .i64 2), (.int .u16 255)] h17 k24) h17 fun v21 h22 =>
 vK (pickV v19 v21 (.bool false)) fun v23 =>
 R v23 h22
theorem zoD (H : zjd h R) : FCall prog zha #[] h R := fk f68 (.s .z (.s .z (.s .z .z))) H
def zhQ (a0 a1 : Value) (h : Heap) (R : Value → Heap → Prop) : Prop :=
 newK (Value.cells a1) 36 h fun v1 h2 =>
 vK (ldsV 3 h2 v1) fun v3 =>
 FCall prog zbU #[a0, v3] h2 fun v4 h5 =>
 vK (unV .not v4) fun v6 =>
 iteK v6 (
 R (.tuple #[(.pointer none), (.int .i64 6)]) h5) (
 drawK h5 fun S =>
 vK (fldV 0 v1) fun v7 =>
 qK S (fun h5 => ldV h5 v7) fun v8 =>
 vK (fldV 1 v1) fun v9 =>
 qK S (fun h5 => ldV h5 v9) fun v10 =>
 FCall prog zap #[v8] h5 fun v11 h12 =>
 S h12 ∧ (FCall prog zap #[v10] h12 fun v13 h14 =>
 FCall prog zaj #[a0] h14 fun v15 h16 =>
 FCall prog zay #[a0] h16 fun v17 h18 =>
 FCall prog zbv #[v11, v13, v15, v17] h18 fun v19 h20 =>
 vK (extV v19 0) fun v21 =>
 vK (extV v19 1) fun v22 =>
 vK (binV .i .neq v22 (.int .i64 0)) fun v23 =>
 iteK v23 (
 R (.tuple #[(.pointer none), v22]) h20) (
 FCall prog zas #[v21] h20 fun v24 h25 =>
 loopK [(.int .i64 0)] h25 fun x26 j27 h28 again29 =>
 vK (binV .i .lss (ix x26 0) v24) fun v30 =>
 iteK v30 (
 FCall prog zaw #[v21] h28 fun v31 h32 =>
 loopK [(.int .i64 0)] h32 fun x33 j34 h35 again36 =>
 vK (binV .i .lss (ix x33 0) v31) fun v37 =>
 iteK v37 (
 FCall prog zaj #[v21] h35 fun v38 h39 =>
 loopK [(.int .i64 0)] h39 fun x40 j41 h42 again43 =>
 vK (binV .i .lss (ix x40 0) v38) fun v44 =>
 iteK v44 (
 vK (ldsV 3 h42 v1) fun v45 =>
 FCall prog zio #[a0, v45, (ix x33 0), (ix x26 0), (ix x40 0)] h42 fun v46 h47 =>
 FCall prog zay #[a0] h47 fun v48 h49 =>
 FCall prog zd7 #[v46, v48] h49 fun v50 h51 =>
 FCall prog za7 #[v21, (ix x33 0), (ix x26 0), (ix x40 0), v50] h51 fun v52 h53 =>
 vK (binV .i .add (ix x40 0) (.int .i64 1)) fun v54 =>
 again43 [v54] h53) (
 vK (binV .i .add (ix x33 0) (.int .i64 1)) fun v55 =>
 again36 [v55] h42)) (
 vK (binV .i .add (ix x26 0) (.int .i64 1)) fun v56 =>
 again29 [v56] h35)) (
 R (.tuple #[v21, (.int .i64 0)]) h28))))
theorem znH (H : zhQ a0 a1 h R) : FCall prog zgh #[a0, a1] h R := fk f69 (.s .z (.s (.s .z (.s (.s .z .z) .z)) (.s (.d (.op 0 .r (.op 1 .r (.op 3 .r (.op 4 .r (.op 6 .r (.op 8 .r (.op 2 .e (.op 5 .n (.op 7 .n (.op 9 .n (.op 10 .n (.op 11 .r (.op 12 .r (.op 13 .r (.op 14 .r (.op 15 .r .nil))))))))))))))))) (.s (.s .z (.s (.s .z .z) .z)) (.s (.s .z (.l 18446744056529684224 [34] (.s .z (.s (.s .z .z) (.s (.s .z (.s .z (.l 9223371487098963456 [39] (.s .z (.s (.s .z .z) (.s (.s .z (.s .z (.l 4611668426241344512 [44] (.s .z (.s (.s .z .z) (.s (.s .z .z) .z)))))) .z)))))) .z))))) (.s .z .z)))))) H
def zko (a0 a1 a2 a3 a4 : Value) (h : Heap) (R : Value → Heap → Prop) : Prop :=
 vK (binV .i .rem a0 (.int .u16 20)) fun v1 =>
 vK (cviV .i64 v1) fun v2 =>
 vK (binV .i .add (.int .i64 1) v2) fun v3 =>
 vK (binV .i .rem a1 (.int .u16 20)) fun v4 =>
 vK (cviV .i64 v4) fun v5 =>
 vK (binV .i .add (.int .i64 1) v5) fun v6 =>
 vK (binV .i .rem a2 (.int .u16 2)) fun v7 =>
 vK (cviV .i64 v7) fun v8 =>
 vK (binV .i .mul (.int .i64 2) v8) fun v9 =>
 vK (binV .i .add (.int .i64 1) v9) fun v10 =>
 vK (cviV .i64 a3) fun v11 =>
 vK (binV .i .rem v11 (.int .i64 65535)) fun v12 =>
 vK (binV .i .add (.int .i64 1) v12) fun v13 =>
 vK (binV .i .mul v3 v6) fun v14 =>
 vK (binV .i .mul v14 v10) fun v15 =>
 mkK (.int .u16 0) 22 1 2 v15 v15 h fun v16 h17 =>
 vK (zaf v16) fun v18 =>
 loopK [(.int .i64 0)] h17 fun x19 j20 h21 again22 =>
 vK (binV .i .lss (ix x19 0) v18) fun v23 =>
 iteK v23 (
 vK (zaf a4) fun v24 =>
 vK (binV .i .gtr v24 (.int .i64 0)) fun v25 =>
 iteK v25 (
 drawK h21 fun S =>
 qK S (fun h21 => zaf a4) fun v26 =>
 vK (binV .i .rem (ix x19 0) v26) fun v27 =>
 vK (idxV 1 a4 v27) fun v28 =>
 qK S (fun h21 => ldV h21 v28) fun v29 =>
 vK (cviV .i64 v29) fun v30 =>
 qK S (fun h21 => zaf a4) fun v31 =>
 vK (binV .i .quo (ix x19 0) v31) fun v32 =>
 vK (binV .i .add v30 v32) fun v33 =>
 vK (binV .i .add v13 (.int .i64 1)) fun v34 =>
 vK (binV .i .rem v33 v34) fun v35 =>
 vK (cviV .u16 v35) fun v36 =>
 vK (idxV 1 v16 (ix x19 0)) fun v37 =>
 stK 1 v37 v36 h21 fun v38 h39 =>
 vK (binV .i .add (ix x19 0) (.int .i64 1)) fun v40 =>
 again22 [v40] h39) (
 vK (binV .i .add (ix x19 0) (.int .i64 1)) fun v41 =>
 again22 [v41] h21)) (
 FCall prog zg5 #[v3, v6, v10, v13, v16] h21 fun v42 h43 =>
 vK (extV v42 0) fun v44 =>
 vK (extV v42 1) fun v45 =>
 vK (binV .i .neq v45 (.int .i64 0)) fun v46 =>
 iteK v46 (
 R (.pointer none) h43) (
 R v44 h43))
theorem zqn (H : zko a0 a1 a2 a3 a4 h R) : FCall prog zil #[a0, a1, a2, a3, a4] h R := fk f70 (.s .z (.s .z (.s .z (.s .z (.s (.s .z (.l 2361183223842636627968 [44] (.s .z (.s (.s .z .z) (.s (.s .z (.s .z (.s (.d (.op 0 .r (.op 1 .r (.op 2 .r (.op 3 .r (.op 4 .r (.op 5 .r (.op 6 .r (.op 7 .r (.op 8 .r (.op 9 .r (.op 10 .r (.op 11 .r (.op 12 .r (.op 13 .r (.op 14 .r (.op 15 .r (.op 16 .r (.op 17 .r (.op 18 .r (.op 19 .r (.op 20 .n .nil)))))))))))))))))))))) .z))) .z))))) (.s .z (.s (.s .z (.s (.s .z .z) .z)) (.s .z .z)))))))) H
def zhO (a0 a1 : Value) (h : Heap) (R : Value → Heap → Prop) : Prop :=
 vK (zaf a0) fun v1 =>
 loopK [(.int .i64 0)] h fun x2 j3 h4 again5 =>
 vK (binV .i .lss (ix x2 0) v1) fun v6 =>
 iteK v6 (
 vK (idxV 9 a0 (ix x2 0)) fun v7 =>
 vK (ldsV 9 h4 v7) fun v8 =>
 newK #[(.int .i64 0), (.int .i64 0), (.int .i64 0), (.int .i64 0), (.slice none 0 0), (.slice none 0 0), (.int .i64 0), (.int .i64 0), (.int .i64 0)] 31 h4 fun v9 h10 =>
 stK 9 v9 v8 h10 fun v11 h12 =>
 vK (fldV 4 v9) fun v13 =>
 vK (ldV h12 v13) fun v14 =>
 vK (zaf v14) fun v15 =>
 vK (binV .i .gtr v15 (.int .i64 40)) fun v16 =>
 vK (gV v16 false (fldV 5 v9)) fun v17 =>
 vK (gV v16 false (ldV h12 v17)) fun v18 =>
 vK (gV v16 false (zaf v18)) fun v19 =>
 vK (gV v16 false (binV .i .gtr v19 (.int .i64 40))) fun v20 =>
 vK (pickV v16 (.bool true) v20) fun v21 =>
 vK (gV v21 false (fldV 2 v9)) fun v22 =>
 vK (gV v21 false (ldV h12 v22)) fun v23 =>
 vK (gV v21 false (binV .i .gtr v23 (.int .i64 262144))) fun v24 =>
 vK (gV v21 false (some v24)) fun v25 =>
 vK (gV v25 true (fldV 2 v9)) fun v26 =>
 vK (gV v25 true (ldV h12 v26)) fun v27 =>
 vK (gV v25 true (binV .i .leq v27 (.int .i64 4194304))) fun v28 =>
 vK (gV v21 false (pickV v25 v28 (.bool false))) fun v29 =>
 vK (pickV v21 (.bool true) v29) fun v30 =>
 vK (gV v30 false (fldV 3 v9)) fun v31 =>
 vK (gV v30 false (ldV h12 v31)) fun v32 =>
 vK (gV v30 false (binV .i .gtr v32 (.int .i64 20))) fun v33 =>
 vK (gV v30 false (some v33)) fun v34 =>
 vK (gV v34 true (fldV 3 v9)) fun v35 =>
 vK (gV v34 true (ldV h12 v35)) fun v36 =>
 vK (gV v34 true (binV .i .lss v36 (.int .i64 512))) fun v37 =>
 vK (gV v30 false (pickV v34 v37 (.bool false))) fun v38 =>
 vK (pickV v30 (.bool true) v38) fun v39 =>
 vK (gV v39 false (fldV 7 v9)) fun v40 =>
 vK (gV v39 false (ldV h12 v40)) fun v41 =>
 vK (gV v39 false (some a1)) fun v42 =>
 vK (gV v39 false (binV .i .gtr v41 v42)) fun v43 =>
 vK (gV v39 false (some v43)) fun v44 =>
 vK (gV v44 true (fldV 7 v9)) fun v45 =>
 vK (gV v44 true (ldV h12 v45)) fun v46 =>
 vK (gV v44 true (binV .i .leq v46 (.int .i64 65536))) fun v47 =>
 vK (gV v39 false (pickV v44 v47 (.bool false))) fun v48 =>
 vK (pickV v39 (.bool true) v48) fun v49 =>
 vK (gV v49 false (fldV 8 v9)) fun v50 =>
 vK (gV v49 false (ldV h12 v50)) fun v51 =>
 vK (gV v49 false (some a1)) fun v52 =>
 vK (gV v49 false (binV .i .gtr v51 v52)) fun v53 =>
 vK (gV v49 false (some v53)) fun v54 =>
 vK (gV v54 true (fldV 8 v9)) fun v55 =>
 vK (gV v54 true (ldV h12 v55)) fun v56 =>
 vK (gV v54 true (binV .i .leq v56 (.int .i64 65536))) fun v57 =>
 vK (gV v49 false (pickV v54 v57 (.bool false))) fun v58 =>
 vK (pickV v49 (.bool true) v58) fun v59 =>
 iteK v59 (
 R (.bool false) h12) (
 vK (binV .i .add (ix x2 0) (.int .i64 1)) fun v60 =>
 again5 [v60] h12)) (
 R (.bool true) h4)
theorem znF (H : zhO a0 a1 h R) : FCall prog zgg #[a0, a1] h R := fk f71 (.s .z (.s (.s .z (.l 73786976294838206032 [9] (.s .z (.s (.s .z .z) (.s (.s .z (.s .z (.s (.s .z .z) .z))) .z))))) (.s .z .z))) H
def sh_op_All (a0 a1 a2 a3 : Value) (h : Heap) (R : Value → Heap → Prop) : Prop :=
 vK (zaf a0) fun v1 =>
 vK (binV .i .gtr v1 (.int .i64 16)) fun v2 =>
 iteK v2 (
 R (.tuple #[(.slice none 0 0), (.int .i64 6)]) h) (
 FCall prog zdy #[a1, a2, a3] h fun v3 h4 =>
 vK (unV .not v3) fun v5 =>
 iteK v5 (
 R (.tuple #[(.slice none 0 0), (.int .i64 5)]) h4) (
 vK (zaf a0) fun v6 =>
 loopK [a1, a2, (.slice none 0 0), (.int .i64 0)] h4 fun x7 j8 h9 again10 =>
 vK (binV .i .lss (ix x7 3) v6) fun v11 =>
 iteK v11 (
 vK (idxV 9 a0 (ix x7 3)) fun v12 =>
 vK (ldsV 9 h9 v12) fun v13 =>
 newK #[(.int .i64 0), (.int .i64 0), (.int .i64 0), (.int .i64 0), (.slice none 0 0), (.slice none 0 0), (.int .i64 0), (.int .i64 0), (.int .i64 0)] 31 h9 fun v14 h15 =>
 stK 9 v14 v13 h15 fun v16 h17 =>
 vK (ldsV 9 h17 v14) fun v18 =>
 FCall prog zfx #[v18, (ix x7 0), (ix x7 1)] h17 fun v19 h20 =>
 vK (extV v19 0) fun v21 =>
 vK (extV v19 1) fun v22 =>
 newK #[(.pointer none), (.pointer none), (.int .i64 0)] 36 h20 fun v23 h24 =>
 stK 3 v23 v21 h24 fun v25 h26 =>
 vK (binV .i .neq v22 (.int .i64 0)) fun v27 =>
 iteK v27 (
 R (.tuple #[(.slice none 0 0), v22]) h26) (
 vK (ldsV 9 h26 v14) fun v28 =>
 FCall prog zog #[v28, (ix x7 0), (ix x7 1)] h26 fun v29 h30 =>
 vK (extV v29 0) fun v31 =>
 vK (extV v29 1) fun v32 =>
 FCall prog zdy #[v31, v32, a3] h30 fun v33 h34 =>
 vK (unV .not v33) fun v35 =>
 iteK v35 (
 R (.tuple #[(.slice none 0 0), (.int .i64 5)]) h34) (
 vK (ldsV 3 h34 v23) fun v36 =>
 rowK #[(.pointer none), (.pointer none), (.int .i64 0)] 36 1 [(0, 3, v36)] h34 fun v37 h38 =>
 appK (.agg #[.pointer none, .pointer none, .int .i64 0]) 36 3 24 (ix x7 2) v37 h38 fun v39 h40 =>
 vK (binV .i .add (ix x7 3) (.int .i64 1)) fun v41 =>
 again10 [v31, v32, v39, v41] h40))) (
 R (.tuple #[(ix x7 2), (.int .i64 0)]) h9)))
theorem ok_op_All (H : sh_op_All a0 a1 a2 a3 h R) : FCall prog zq6 #[a0, a1, a2, a3] h R := fk f72 (.s .z (.s (.s .z (.s (.s .z .z) (.s .z (.s (.s .z .z) .z)))) (.s .z (.s (.s .z (.l 288230376017524486 [1, 2, 10, 27] (.s .z (.s (.s .z .z) (.s (.s .z (.s .z (.s (.s .z (.s (.s .z .z) .z)) (.s (.s .z (.s .z (.s (.s .z .z) .z))) .z)))) .z))))) (.s .z .z))))) H
def zl1 (a0 a1 a2 a3 : Value) (h : Heap) (R : Value → Heap → Prop) : Prop :=
 vK (zaf a0) fun v1 =>
 vK (binV .i .gtr v1 (.int .i64 16)) fun v2 =>
 iteK v2 (
 R (.tuple #[(.slice none 0 0), (.int .i64 6)]) h) (
 FCall prog zf3 #[a1, a2, a3] h fun v3 h4 =>
 vK (unV .not v3) fun v5 =>
 iteK v5 (
 R (.tuple #[(.slice none 0 0), (.int .i64 5)]) h4) (
 vK (zaf a0) fun v6 =>
 loopK [a1, a2, (.slice none 0 0), (.int .i64 0)] h4 fun x7 j8 h9 again10 =>
 vK (binV .i .lss (ix x7 3) v6) fun v11 =>
 iteK v11 (
 vK (idxV 9 a0 (ix x7 3)) fun v12 =>
 vK (ldsV 9 h9 v12) fun v13 =>
 newK #[(.int .i64 0), (.int .i64 0), (.int .i64 0), (.int .i64 0), (.slice none 0 0), (.slice none 0 0), (.int .i64 0), (.int .i64 0), (.int .i64 0)] 167 h9 fun v14 h15 =>
 stK 9 v14 v13 h15 fun v16 h17 =>
 vK (ldsV 9 h17 v14) fun v18 =>
 FCall prog zie #[v18, (ix x7 0), (ix x7 1)] h17 fun v19 h20 =>
 vK (extV v19 0) fun v21 =>
 vK (extV v19 1) fun v22 =>
 newK #[(.slice none 0 0), (.slice none 0 0), (.int .i64 0), (.int .i64 0), (.int .i64 0)] 39 h20 fun v23 h24 =>
 stK 5 v23 v21 h24 fun v25 h26 =>
 vK (binV .i .neq v22 (.int .i64 0)) fun v27 =>
 iteK v27 (
 R (.tuple #[(.slice none 0 0), v22]) h26) (
 vK (ldsV 9 h26 v14) fun v28 =>
 FCall prog zid #[v28, (ix x7 0), (ix x7 1)] h26 fun v29 h30 =>
 vK (extV v29 0) fun v31 =>
 vK (extV v29 1) fun v32 =>
 FCall prog zf3 #[v31, v32, a3] h30 fun v33 h34 =>
 vK (unV .not v33) fun v35 =>
 iteK v35 (
 R (.tuple #[(.slice none 0 0), (.int .i64 5)]) h34) (
 vK (ldsV 5 h34 v23) fun v36 =>
 rowK #[(.slice none 0 0), (.slice none 0 0), (.int .i64 0), (.int .i64 0), (.int .i64 0)] 39 1 [(0, 5, v36)] h34 fun v37 h38 =>
 appK (.agg #[.slice none 0 0, .slice none 0 0, .int .i64 0, .int .i64 0, .int .i64 0]) 39 5 72 (ix x7 2) v37 h38 fun v39 h40 =>
 vK (binV .i .add (ix x7 3) (.int .i64 1)) fun v41 =>
 again10 [v31, v32, v39, v41] h40))) (
 R (.tuple #[(ix x7 2), (.int .i64 0)]) h9)))
theorem ok_ref12_All (H : zl1 a0 a1 a2 a3 h R) : FCall prog zjJ #[a0, a1, a2, a3] h R := fk f73 (.s .z (.s (.s .z (.s (.s .z .z) .z)) (.s (.s .z (.s (.s .z .z) .z)) (.s .z (.s (.s .z (.l 72057594004403974 [1, 2, 10, 25] (.s .z (.s (.s .z .z) (.s (.s .z (.s .z (.s (.s .z (.s (.s .z .z) .z)) (.s .z (.s (.s .z (.s (.s .z .z) .z)) .z))))) .z))))) (.s .z .z)))))) H
def zkn (a0 : Value) (h : Heap) (R : Value → Heap → Prop) : Prop :=
 vK (zaf a0) fun v1 =>
 loopK [(.slice none 0 0), (.int .i64 0)] h fun x2 j3 h4 again5 =>
 vK (binV .i .lss (ix x2 1) v1) fun v6 =>
 iteK v6 (
 vK (idxV 9 a0 (ix x2 1)) fun v7 =>
 vK (ldsV 9 h4 v7) fun v8 =>
 newK #[(.int .i64 0), (.int .i64 0), (.int .i64 0), (.int .i64 0), (.slice none 0 0), (.slice none 0 0), (.int .i64 0), (.int .i64 0), (.int .i64 0)] 31 h4 fun v9 h10 =>
 stK 9 v9 v8 h10 fun v11 h12 =>
 vK (ldsV 9 h12 v9) fun v13 =>
 FCall prog zjQ #[v13] h12 fun v14 h15 =>
 rowK #[(.int .i64 0), (.int .i64 0), (.int .i64 0), (.int .i64 0), (.slice none 0 0), (.slice none 0 0), (.int .i64 0), (.int .i64 0), (.int .i64 0)] 167 1 [(0, 9, v14)] h15 fun v16 h17 =>
 appK (.agg #[.int .i64 0, .int .i64 0, .int .i64 0, .int .i64 0, .slice none 0 0, .slice none 0 0, .int .i64 0, .int .i64 0, .int .i64 0]) 167 9 104 (ix x2 0) v16 h17 fun v18 h19 =>
 vK (binV .i .add (ix x2 1) (.int .i64 1)) fun v20 =>
 again5 [v18, v20] h19) (
 R (ix x2 0) h4)
theorem zqm (H : zkn a0 h R) : FCall prog zik #[a0] h R := fk f74 (.s .z (.s .z (.s (.s .z (.l 261928 [3, 8] (.s .z (.s (.s .z .z) (.s (.s .z .z) .z))))) (.s .z .z)))) H
def zfc (a0 a1 : Value) (h : Heap) (R : Value → Heap → Prop) : Prop :=
 newK (Value.cells a1) 36 h fun v1 h2 =>
 vK (fldV 0 v1) fun v3 =>
 vK (ldV h2 v3) fun v4 =>
 vK (binV .p .neq v4 (.pointer none)) fun v5 =>
 vK (gV v5 true (fldV 1 v1)) fun v6 =>
 vK (gV v5 true (ldV h2 v6)) fun v7 =>
 vK (gV v5 true (binV .p .neq v7 (.pointer none))) fun v8 =>
 vK (pickV v5 v8 (.bool false)) fun v9 =>
 vK (gV v9 true (fldV 0 v1)) fun v10 =>
 vK (gV v9 true (ldV h2 v10)) fun v11 =>
 gK v9 true (fun k38 => FCall prog zbk #[v11] h2 k38) h2 fun v12 h13 =>
 vK (gV v9 true (some a0)) fun v14 =>
 gK v9 true (fun k37 => FCall prog zaw #[v14] h13 k37) h13 fun v15 h16 =>
 vK (gV v9 true (binV .i .eql v12 v15)) fun v17 =>
 vK (pickV v9 v17 (.bool false)) fun v18 =>
 vK (gV v18 true (fldV 1 v1)) fun v19 =>
 vK (gV v18 true (ldV h16 v19)) fun v20 =>
 gK v18 true (fun k36 => FCall prog zbk #[v20] h16 k36) h16 fun v21 h22 =>
 vK (gV v18 true (some a0)) fun v23 =>
 gK v18 true (fun k35 => FCall prog zas #[v23] h22 k35) h22 fun v24 h25 =>
 vK (gV v18 true (binV .i .eql v21 v24)) fun v26 =>
 vK (pickV v18 v26 (.bool false)) fun v27 =>
 vK (gV v27 true (fldV 2 v1)) fun v28 =>
 vK (gV v27 true (ldV h25 v28)) fun v29 =>
 gK v27 true (fun k34 => FCall prog zeU #[v29] h25 k34) h25 fun v30 h31 =>
 vK (gV v27 true (binV .s .neq v30 (.string ⟨#[]⟩))) fun v32 =>
 vK (pickV v27 v32 (.bool false)) fun v33 =>
 R v33 h31
theorem zh0 (H : zfc a0 a1 h R) : FCall prog zbU #[a0, a1] h R := fk f75 (.s .z (.s .z .z)) H
def zmh (a0 a1 a2 : Value) (h : Heap) (R : Value → Heap → Prop) : Prop :=
 vK (binV .i .lss a2 (.int .i64 1)) fun v1 =>
 vK (gV v1 false (some a2)) fun v2 =>
 vK (gV v1 false (binV .i .gtr v2 (.int .i64 65536))) fun v3 =>
 vK (pickV v1 (.bool true) v3) fun v4 =>
 iteK v4 (
 R (.int .i64 0) h) (
 vK (binV .i .eql a0 (.int .i64 0)) fun v5 =>
 iteK v5 (
 vK (binV .i .sub a2 (.int .i64 1)) fun v6 =>
 FCall prog zeT #[a1, (.int .i64 0), v6] h fun v7 h8 =>
 R v7 h8) (
 vK (binV .i .eql a0 (.int .i64 1)) fun v9 =>
 iteK v9 (
 vK (binV .i .mul (.int .i64 2) a2) fun v10 =>
 FCall prog zfz #[a1, v10] h fun v11 h12 =>
 vK (binV .i .mul (.int .i64 2) a2) fun v13 =>
 vK (binV .i .sub v13 (.int .i64 1)) fun v14 =>
 vK (binV .i .sub v14 v11) fun v15 =>
 vK (minV v11 v15) fun v16 =>
 R v16 h12) (
 vK (binV .i .eql a0 (.int .i64 2)) fun v17 =>
 iteK v17 (
 FCall prog zfz #[a1, a2] h fun v18 h19 =>
 R v18 h19) (
 R (.int .i64 0) h))))
theorem ok_border_At (H : zmh a0 a1 a2 h R) : FCall prog zdW #[a0, a1, a2] h R := fk f76 (.s .z (.s (.s .z (.s (.s .z .z) .z)) (.s (.s .z (.s .z (.s (.s .z .z) (.s .z (.s (.s .z (.s .z .z)) (.s .z (.s (.s .z .z) .z))))))) (.s .z .z)))) H
def zex (a0 a1 a2 a3 : Value) (h : Heap) (R : Value → Heap → Prop) : Prop :=
 vK (nilV a0) fun v1 =>
 vK (fldV 2 v1) fun v2 =>
 vK (fldV 0 v2) fun v3 =>
 vK (ldV h v3) fun v4 =>
 FCall prog zai #[v4, a1] h fun v5 h6 =>
 newK #[(.int .i64 0), (.slice none 0 0)] 96 h6 fun v7 h8 =>
 stK 2 v7 v5 h8 fun v9 h10 =>
 vK (nilV a0) fun v11 =>
 vK (fldV 0 v11) fun v12 =>
 vK (ldV h10 v12) fun v13 =>
 FCall prog zaj #[v13] h10 fun v14 h15 =>
 loopK [a3, (.int .i64 0)] h15 fun x16 j17 h18 again19 =>
 vK (binV .i .lss (ix x16 1) v14) fun v20 =>
 iteK v20 (
 vK (fldV 1 v7) fun v21 =>
 vK (ldV h18 v21) fun v22 =>
 vK (zaf v22) fun v23 =>
 loopK [(.int .i64 0), (.int .i64 0)] h18 fun x24 j25 h26 again27 =>
 vK (binV .i .lss (ix x24 1) v23) fun v28 =>
 iteK v28 (
 vK (idxV 1 v22 (ix x24 1)) fun v29 =>
 vK (ldV h26 v29) fun v30 =>
 drawK h26 fun S =>
 vK (nilV a0) fun v31 =>
 vK (fldV 2 v31) fun v32 =>
 vK (fldV 2 v32) fun v33 =>
 qK S (fun h26 => ldV h26 v33) fun v34 =>
 vK (fldV 0 v7) fun v35 =>
 qK S (fun h26 => ldV h26 v35) fun v36 =>
 vK (binV .i .add v36 (ix x24 1)) fun v37 =>
 vK (nilV a0) fun v38 =>
 vK (fldV 0 v38) fun v39 =>
 qK S (fun h26 => ldV h26 v39) fun v40 =>
 FCall prog zaw #[v40] h26 fun v41 h42 =>
 S h42 ∧ (FCall prog zdW #[v34, v37, v41] h42 fun v43 h44 =>
 vK (nilV a0) fun v45 =>
 vK (fldV 0 v45) fun v46 =>
 vK (ldV h44 v46) fun v47 =>
 FCall prog zbd #[v47, v43, a2, (ix x16 1)] h44 fun v48 h49 =>
 vK (cviV .i64 v48) fun v50 =>
 vK (binV .i .mul v30 v50) fun v51 =>
 vK (binV .i .add (ix x24 0) v51) fun v52 =>
 vK (binV .i .add (ix x24 1) (.int .i64 1)) fun v53 =>
 again27 [v52, v53] h49)) (
 rowK #[(.int .i64 0)] 2 1 [(0, 1, (ix x24 0))] h26 fun v54 h55 =>
 appK (.int .i64 0) 2 1 8 (ix x16 0) v54 h55 fun v56 h57 =>
 vK (binV .i .add (ix x16 1) (.int .i64 1)) fun v58 =>
 again19 [v56, v58] h57)) (
 R (ix x16 0) h18)
theorem ziI (H : zex a0 a1 a2 a3 h R) : FCall prog zc3 #[a0, a1, a2, a3] h R := fk f77 (.s .z (.s .z (.s (.s .z (.l 4722366482869511027720 [3, 27] (.s .z (.s (.s .z .z) (.s (.s .z (.s .z (.s (.s .z (.l 147573952581086509056 [11, 33] (.s .z (.s (.s .z .z) (.s (.s .z (.s (.d (.op 0 .r (.op 1 .r (.op 2 .r (.op 3 .r (.op 4 .r (.op 5 .r (.op 6 .r (.op 7 .r (.op 8 .r (.op 9 .r (.op 10 .r (.op 11 .r (.op 12 .r (.op 13 .e (.op 14 .n (.op 15 .r .nil))))))))))))))))) .z)) .z))))) .z))) .z))))) (.s .z .z)))) H
def zhl (a0 a1 a2 : Value) (h : Heap) (R : Value → Heap → Prop) : Prop :=
 vK (zaf a2) fun v1 =>
 vK (nilV a0) fun v2 =>
 vK (fldV 1 v2) fun v3 =>
 vK (ldV h v3) fun v4 =>
 vK (binV .i .neq v1 v4) fun v5 =>
 vK (gV v5 false (some a0)) fun v6 =>
 vK (gV v5 false (some a1)) fun v7 =>
 gK v5 false (fun k39 => FCall prog zdx #[v6, v7] h k39) h fun v8 h9 =>
 vK (pickV v5 (.bool true) v8) fun v10 =>
 iteK v10 (
 R (.bool false) h9) (
 joinK (fun J11 =>
 FCall prog zdT #[a0] h9 fun v15 h16 =>
 vK (extV v15 0) fun v17 =>
 vK (extV v15 1) fun v18 =>
 vK (nilV a0) fun v19 =>
 vK (fldV 2 v19) fun v20 =>
 vK (ldV h16 v20) fun v21 =>
 vK (lenmV h16 v21) fun v22 =>
 vK (nilV a0) fun v23 =>
 vK (fldV 0 v23) fun v24 =>
 vK (ldV h16 v24) fun v25 =>
 vK (binV .i .geq v22 v25) fun v26 =>
 iteK v26 (
 vK (binV .i .lss a1 v17) fun v27 =>
 iteK v27 (
 R (.bool false) h16) (
 FCall prog zeq #[a0, v17] h16 fun v28 h29 =>
 J11 [] h29)) (
 J11 [] h16))
 fun x12 j13 h14 =>
 FCall prog zdQ #[a0] h14 fun v30 h31 =>
 cpyK 1 v30 a2 h31 fun v32 h33 =>
 vK (nilV a0) fun v34 =>
 vK (fldV 2 v34) fun v35 =>
 vK (ldV h33 v35) fun v36 =>
 zgP (.int .i64) v36 a1 v30 h33 fun v37 h38 =>
 R (.bool true) h38)
theorem zmz (H : zhl a0 a1 a2 h R) : FCall prog zft #[a0, a1, a2] h R := fk f78 (.s .z (.s (.s .z (.s (.s .z .z) .z)) (.j 8796088828352 [] (.s .z (.s .z (.s (.s (.s .z (.s (.s .z .z) .z)) .z) .z))) (.s .z (.s .z (.s .z (.s .z .z))))))) H
def zfJ (a0 : Value) (h : Heap) (R : Value → Heap → Prop) : Prop :=
 vK (nilV a0) fun v1 =>
 vK (fldV 1 v1) fun v2 =>
 vK (ldV h v2) fun v3 =>
 R v3 h
theorem zkK (H : zfJ a0 h R) : FCall prog zdS #[a0] h R := fk f79 (.s .z (.s .z .z)) H
def zhk (a0 a1 : Value) (h : Heap) (R : Value → Heap → Prop) : Prop :=
 vK (nilV a0) fun v1 =>
 vK (fldV 2 v1) fun v2 =>
 vK (ldV h v2) fun v3 =>
 vK (lookV (.int .i64) (.slice none 0 0) true h v3 a1) fun v4 =>
 vK (extV v4 0) fun v5 =>
 vK (extV v4 1) fun v6 =>
 FCall prog zaF #[v5] h fun v7 h8 =>
 R (.tuple #[v7, v6]) h8
theorem zmy (H : zhk a0 a1 h R) : FCall prog zfs #[a0, a1] h R := fk f80 (.s .z (.s .z (.s .z .z))) H
def zhP (a0 a1 : Value) (h : Heap) (R : Value → Heap → Prop) : Prop :=
 FCall prog zcK #[a0, (.int .i64 28)] h fun v1 h2 =>
 vK (minV a1 (.int .i64 65535)) fun v3 =>
 vK (maxV (.int .i64 0) v3) fun v4 =>
 FCall prog zeT #[v1, (.int .i64 0), v4] h2 fun v5 h6 =>
 vK (cviV .u16 v5) fun v7 =>
 R v7 h6
theorem znG (H : zhP a0 a1 h R) : FCall prog zd7 #[a0, a1] h R := fk f81 (.s .z (.s .z .z)) H
def zhn (a0 a1 : Value) (h : Heap) (R : Value → Heap → Prop) : Prop :=
 vK (nilV a0) fun v1 =>
 vK (fldV 2 v1) fun v2 =>
 vK (ldV h v2) fun v3 =>
 vK (lookV (.int .i64) (.slice none 0 0) true h v3 a1) fun v4 =>
 vK (extV v4 0) fun v5 =>
 vK (extV v4 1) fun v6 =>
 R v6 h
theorem zmB (H : zhn a0 a1 h R) : FCall prog zdx #[a0, a1] h R := fk f82 (.s .z (.s .z (.s .z .z))) H
def zbg (a0 : Value) (h : Heap) (R : Value → Heap → Prop) : Prop :=
 vK (binV .sl .eql a0 (.slice none 0 0)) fun v1 =>
 iteK v1 (
 R (.slice none 0 0) h) (
 rowK #[] 2 0 [] h fun v2 h3 =>
 appK (.int .i64 0) 2 1 8 v2 a0 h3 fun v4 h5 =>
 R v4 h5)
theorem zb6 (H : zbg a0 h R) : FCall prog zaF #[a0] h R := fk f83 (.s .z (.s (.s .z (.s (.s .z .z) .z)) (.s .z .z))) H
def zi4 (a0 a1 : Value) (h : Heap) (R : Value → Heap → Prop) : Prop :=
 vK (binV .i .lss a1 (.int .i64 1)) fun v1 =>
 iteK v1 (
 R a0 h) (
 vK (binV .i .gtr a1 (.int .i64 64)) fun v2 =>
 iteK v2 (
 R (.int .i64 0) h) (
 vK ((fillL #[(.int .u64 0), (.int .u64 0)] [(0, 1, (.int .u64 0)), (1, 1, (.int .u64 1))]).map .agg) fun v3 =>
 newK #[(.int .u64 0), (.int .u64 0)] 178 h fun v4 h5 =>
 stK 2 v4 v3 h5 fun v6 h7 =>
 vK (binV .i .sub a1 (.int .i64 1)) fun v8 =>
 loopK [(.int .i64 0)] h7 fun x9 j10 h11 again12 =>
 vK (binV .i .lss (ix x9 0) v8) fun v13 =>
 iteK v13 (
 vK (ldsV 2 h11 v4) fun v14 =>
 FCall prog zbf #[v14, (.int .u64 0)] h11 fun v15 h16 =>
 stK 2 v4 v15 h16 fun v17 h18 =>
 vK (binV .i .add (ix x9 0) (.int .i64 1)) fun v19 =>
 again12 [v19] h18) (
 FCall prog zbu #[a0] h11 fun v20 h21 =>
 vK ((fillL #[(.int .u64 0), (.int .u64 0)] [(0, 1, (.int .u64 0)), (1, 1, v20)]).map .agg) fun v22 =>
 newK #[(.int .u64 0), (.int .u64 0)] 178 h21 fun v23 h24 =>
 stK 2 v23 v22 h24 fun v25 h26 =>
 vK ((fillL #[(.int .u64 0), (.int .u64 0)] []).map .agg) fun v27 =>
 newK #[(.int .u64 0), (.int .u64 0)] 178 h26 fun v28 h29 =>
 stK 2 v28 v27 h29 fun v30 h31 =>
 loopK [(.int .i64 127)] h31 fun x32 j33 h34 again35 =>
 vK (binV .i .geq (ix x32 0) a1) fun v36 =>
 iteK v36 (
 drawK h34 fun S =>
 qK S (fun h34 => ldsV 2 h34 v28) fun v37 =>
 qK S (fun h34 => ldsV 2 h34 v23) fun v38 =>
 FCall prog zcf #[v38, (ix x32 0)] h34 fun v39 h40 =>
 S h40 ∧ (FCall prog zbf #[v37, v39] h40 fun v41 h42 =>
 stK 2 v28 v41 h42 fun v43 h44 =>
 vK (binV .i .sub (ix x32 0) (.int .i64 1)) fun v45 =>
 again35 [v45] h44)) (
 vK (ldsV 2 h34 v23) fun v46 =>
 newK #[(.int .u64 0), (.int .u64 0)] 178 h34 fun v47 h48 =>
 stK 2 v47 v46 h48 fun v49 h50 =>
 loopK [a1] h50 fun x51 j52 h53 again54 =>
 vK (binV .i .lss (ix x51 0) (.int .i64 128)) fun v55 =>
 iteK v55 (
 vK (ldsV 2 h53 v23) fun v56 =>
 FCall prog zcf #[v56, (ix x51 0)] h53 fun v57 h58 =>
 vK (binV .i .eql v57 (.int .u64 1)) fun v59 =>
 iteK v59 (
 vK ((fillL #[(.int .u64 0), (.int .u64 0)] [(0, 1, (.int .u64 0)), (1, 1, (.int .u64 1))]).map .agg) fun v60 =>
 newK #[(.int .u64 0), (.int .u64 0)] 178 h58 fun v61 h62 =>
 stK 2 v61 v60 h62 fun v63 h64 =>
 loopK [(.int .i64 0)] h64 fun x65 j66 h67 again68 =>
 vK (binV .i .lss (ix x65 0) (ix x51 0)) fun v69 =>
 iteK v69 (
 vK (ldsV 2 h67 v61) fun v70 =>
 FCall prog zbf #[v70, (.int .u64 0)] h67 fun v71 h72 =>
 stK 2 v61 v71 h72 fun v73 h74 =>
 vK (binV .i .add (ix x65 0) (.int .i64 1)) fun v75 =>
 again68 [v75] h74) (
 vK (ldsV 2 h67 v47) fun v76 =>
 vK (ldsV 2 h67 v61) fun v77 =>
 FCall prog zeQ #[v76, v77] h67 fun v78 h79 =>
 stK 2 v47 v78 h79 fun v80 h81 =>
 vK (binV .i .add (ix x51 0) (.int .i64 1)) fun v82 =>
 again54 [v82] h81)) (
 vK (binV .i .add (ix x51 0) (.int .i64 1)) fun v83 =>
 again54 [v83] h58)) (
 vK (ldsV 2 h53 v47) fun v84 =>
 vK (ldsV 2 h53 v4) fun v85 =>
 FCall prog zcz #[v84, v85] h53 fun v86 h87 =>
 vK (unV .not v86) fun v88 =>
 joinK (fun J89 =>
 vK (binV .i .lss a0 (.int .i64 0)) fun v93 =>
 iteK v93 (
 vK (ldsV 2 h87 v4) fun v94 =>
 vK (ldsV 2 h87 v47) fun v95 =>
 FCall prog zcz #[v94, v95] h87 fun v96 h97 =>
 J89 [v96] h97) (
 J89 [v88] h87))
 fun x90 j91 h92 =>
 iteK (ix x90 0) (
 vK (ldsV 2 h92 v28) fun v98 =>
 vK ((fillL #[(.int .u64 0), (.int .u64 0)] [(0, 1, (.int .u64 0)), (1, 1, (.int .u64 1))]).map .agg) fun v99 =>
 FCall prog zb8 #[v98, v99] h92 fun v100 h101 =>
 stK 2 v28 v100 h101 fun v102 h103 =>
 vK (ldsV 2 h103 v28) fun v104 =>
 vK (binV .i .lss a0 (.int .i64 0)) fun v105 =>
 FCall prog za0 #[v104, v105] h103 fun v106 h107 =>
 R v106 h107) (
 vK (ldsV 2 h92 v28) fun v108 =>
 vK (binV .i .lss a0 (.int .i64 0)) fun v109 =>
 FCall prog za0 #[v108, v109] h92 fun v110 h111 =>
 R v110 h111))))))
theorem zou (H : zi4 a0 a1 h R) : FCall prog zcH #[a0, a1] h R := fk f84 (.s .z (.s (.s .z (.s (.s .z .z) .z)) (.s (.s .z (.s (.s .z .z) .z)) (.s .z (.s (.s .z (.l 65011712 [21] (.s .z (.s (.s .z .z) (.s .z .z))))) (.s .z (.s .z (.s (.s .z (.l 1098437886208 [8] (.s (.s .z (.s .z .z)) (.s (.d (.op 0 .r (.op 1 .r (.op 2 .r (.op 3 .e (.op 4 .n (.op 5 .n .nil))))))) .z)))) (.s .z (.s (.s .z (.l 1152917106560338944 [10] (.s (.s .z (.s .z .z)) (.s (.s .z (.s (.s .z (.s (.s .z (.l 139611588448485376 [52] (.s .z (.s (.s .z .z) (.s .z .z))))) .z)) .z)) .z)))) (.s .z (.j 571849066284996104192 [12] (.s .z (.s .z .z)) (.s (.s .z (.s .z .z)) (.s .z .z)))))))))))))) H
def zna (a0 a1 a2 : Value) (h : Heap) (R : Value → Heap → Prop) : Prop :=
 vK (binV .i .lss a2 (.int .i64 1)) fun v1 =>
 vK (gV v1 false (some a2)) fun v2 =>
 vK (gV v1 false (binV .i .gtr v2 (.int .i64 65536))) fun v3 =>
 vK (pickV v1 (.bool true) v3) fun v4 =>
 vK (gV v4 false (some a0)) fun v5 =>
 vK (gV v4 false (binV .i .lss v5 (.int .i64 0))) fun v6 =>
 vK (pickV v4 (.bool true) v6) fun v7 =>
 vK (gV v7 false (some a0)) fun v8 =>
 vK (gV v7 false (binV .i .gtr v8 (.int .i64 2))) fun v9 =>
 vK (pickV v7 (.bool true) v9) fun v10 =>
 iteK v10 (
 R (.int .i64 0) h) (
 vK (binV .i .geq a1 (.int .i64 0)) fun v11 =>
 vK (gV v11 true (some a1)) fun v12 =>
 vK (gV v11 true (some a2)) fun v13 =>
 vK (gV v11 true (binV .i .lss v12 v13)) fun v14 =>
 vK (pickV v11 v14 (.bool false)) fun v15 =>
 iteK v15 (
 R a1 h) (
 vK (binV .i .eql a0 (.int .i64 0)) fun v16 =>
 iteK v16 (
 vK (binV .i .lss a1 (.int .i64 0)) fun v17 =>
 iteK v17 (
 R (.int .i64 0) h) (
 vK (binV .i .sub a2 (.int .i64 1)) fun v18 =>
 R v18 h)) (
 vK (binV .i .mul (.int .i64 2) a2) fun v19 =>
 vK (binV .i .rem a1 v19) fun v20 =>
 loopK [v20] h fun x21 j22 h23 again24 =>
 vK (binV .i .lss (ix x21 0) (.int .i64 0)) fun v25 =>
 iteK v25 (
 vK (binV .i .mul (.int .i64 2) a2) fun v26 =>
 vK (binV .i .add (ix x21 0) v26) fun v27 =>
 again24 [v27] h23) (
 vK (binV .i .lss (ix x21 0) a2) fun v28 =>
 iteK v28 (
 R (ix x21 0) h23) (
 vK (binV .i .eql a0 (.int .i64 2)) fun v29 =>
 iteK v29 (
 vK (binV .i .sub (ix x21 0) a2) fun v30 =>
 R v30 h23) (
 vK (binV .i .mul (.int .i64 2) a2) fun v31 =>
 vK (binV .i .sub v31 (.int .i64 1)) fun v32 =>
 vK (binV .i .sub v32 (ix x21 0)) fun v33 =>
 R v33 h23))))))
theorem ok_ref07_At (H : zna a0 a1 a2 h R) : FCall prog ziE #[a0, a1, a2] h R := fk f85 (.s .z (.s (.s .z (.s (.s .z .z) .z)) (.s (.s .z (.s (.s .z .z) .z)) (.s (.s .z (.s (.s (.s .z (.s (.s .z .z) .z)) (.s .z .z)) .z)) (.s .z (.s (.l 69269232550016 [7] (.s (.s .z (.s .z .z)) .z)) (.s (.s .z (.s (.s .z .z) .z)) (.s (.s .z (.s (.s .z .z) .z)) (.s .z .z))))))))) H
def zjl (a0 : Value) (h : Heap) (R : Value → Heap → Prop) : Prop :=
 vK (binV .i .lss a0 (.int .i64 0)) fun v1 =>
 vK (gV v1 false (some a0)) fun v2 =>
 vK (gV v1 false (ldV h (.pointer (some ⟨zd1, 0, none⟩)))) fun v3 =>
 vK (gV v1 false (zaf v3)) fun v4 =>
 vK (gV v1 false (binV .i .geq v2 v4)) fun v5 =>
 vK (pickV v1 (.bool true) v5) fun v6 =>
 iteK v6 (
 R (.string ⟨#[]⟩) h) (
 vK (ldV h (.pointer (some ⟨zd1, 0, none⟩))) fun v7 =>
 vK (idxV 1 v7 a0) fun v8 =>
 vK (ldV h v8) fun v9 =>
 R v9 h)
theorem zoL (H : zjl a0 h R) : FCall prog zeU #[a0] h R := fk f86 (.s .z (.s (.s .z (.s (.s .z .z) .z)) (.s .z .z))) H
def znd (a0 : Value) (h : Heap) (R : Value → Heap → Prop) : Prop :=
 vK (binV .i .lss a0 (.int .i64 0)) fun v1 =>
 vK (gV v1 false (some a0)) fun v2 =>
 vK (gV v1 false (binV .i .geq v2 (.int .i64 3))) fun v3 =>
 vK (pickV v1 (.bool true) v3) fun v4 =>
 iteK v4 (
 R (.string ⟨#[]⟩) h) (
 vK (idxaV 3 2 (.pointer (some ⟨zbo, 0, none⟩)) a0) fun v5 =>
 vK (fldV 0 v5) fun v6 =>
 vK (ldV h v6) fun v7 =>
 R v7 h)
theorem ok_raw_Name (H : znd a0 h R) : FCall prog ziG #[a0] h R := fk f87 (.s .z (.s (.s .z (.s (.s .z .z) .z)) (.s .z .z))) H
def zhF (a0 a1 a2 : Value) (h : Heap) (R : Value → Heap → Prop) : Prop :=
 FCall prog ziG #[a0] h fun v1 h2 =>
 vK (binV .s .eql v1 (.string ⟨#[]⟩)) fun v3 =>
 vK (gV v3 false (some a1)) fun v4 =>
 gK v3 false (fun k35 => FCall prog zeh #[v4] h2 k35) h2 fun v5 h6 =>
 vK (gV v3 false (unV .not v5)) fun v7 =>
 vK (pickV v3 (.bool true) v7) fun v8 =>
 vK (gV v8 false (some a2)) fun v9 =>
 gK v8 false (fun k34 => FCall prog zeh #[v9] h6 k34) h6 fun v10 h11 =>
 vK (gV v8 false (unV .not v10)) fun v12 =>
 vK (pickV v8 (.bool true) v12) fun v13 =>
 iteK v13 (
 R (.tuple #[(.pointer none), (.int .i64 6)]) h11) (
 vK ((fillL #[(.int .i64 0), (.slice none 0 0), (.int .i64 0), (.int .i64 0)] [(0, 1, a1)]).map .agg) fun v14 =>
 newK (Value.cells v14) 102 h11 fun v15 h16 =>
 loopK [(.int .i64 0)] h16 fun x17 j18 h19 again20 =>
 vK (binV .i .lss (ix x17 0) a2) fun v21 =>
 iteK v21 (
 FCall prog zld #[a0, a1, a2, (ix x17 0)] h19 fun v22 h23 =>
 vK (extV v22 0) fun v24 =>
 vK (extV v22 1) fun v25 =>
 FCall prog zci #[v25] h23 fun v26 h27 =>
 vK (extV v26 0) fun v28 =>
 vK (extV v26 1) fun v29 =>
 vK (binV .i .neq v29 (.int .i64 0)) fun v30 =>
 iteK v30 (
 R (.tuple #[(.pointer none), v29]) h27) (
 FCall prog zcG #[v15, v24, v28] h27 fun v31 h32 =>
 vK (binV .i .add (ix x17 0) (.int .i64 1)) fun v33 =>
 again20 [v33] h32)) (
 R (.tuple #[v15, (.int .i64 0)]) h19))
theorem znw (H : zhF a0 a1 a2 h R) : FCall prog zcV #[a0, a1, a2] h R := fk f88 (.s .z (.s (.s .z (.s (.s .z .z) .z)) (.s .z (.s (.s .z (.l 36028794871496384 [31] (.s .z (.s (.s .z .z) (.s (.s .z (.s .z (.s .z (.s (.s .z (.s (.s .z .z) .z)) .z)))) .z))))) (.s .z .z))))) H
def zkm (a0 : Value) (h : Heap) (R : Value → Heap → Prop) : Prop :=
 newK (Value.cells a0) 31 h fun v1 h2 =>
 vK (fldV 0 v1) fun v3 =>
 vK (ldV h2 v3) fun v4 =>
 vK (binV .i .eql v4 (.int .i64 0)) fun v5 =>
 iteK v5 (
 vK (fldV 2 v1) fun v6 =>
 vK (ldV h2 v6) fun v7 =>
 FCall prog zdw #[v7] h2 fun v8 h9 =>
 vK (extV v8 0) fun v10 =>
 vK (extV v8 1) fun v11 =>
 R (.tuple #[v10, v10, v11]) h9) (
 vK (binV .i .eql v4 (.int .i64 1)) fun v12 =>
 iteK v12 (
 vK (fldV 3 v1) fun v13 =>
 vK (ldV h2 v13) fun v14 =>
 FCall prog zjH #[v14] h2 fun v15 h16 =>
 vK (extV v15 0) fun v17 =>
 vK (extV v15 1) fun v18 =>
 R (.tuple #[v17, v17, v18]) h16) (
 vK (fldV 4 v1) fun v19 =>
 vK (ldV h2 v19) fun v20 =>
 FCall prog zfr #[v20] h2 fun v21 h22 =>
 vK (extV v21 0) fun v23 =>
 vK (extV v21 1) fun v24 =>
 vK (binV .i .neq v24 (.int .i64 0)) fun v25 =>
 iteK v25 (
 R (.tuple #[(.slice none 0 0), (.slice none 0 0), v24]) h22) (
 vK (fldV 5 v1) fun v26 =>
 vK (ldV h22 v26) fun v27 =>
 FCall prog zfr #[v27] h22 fun v28 h29 =>
 vK (extV v28 0) fun v30 =>
 vK (extV v28 1) fun v31 =>
 R (.tuple #[v23, v30, v31]) h29)))
theorem zql (H : zkm a0 h R) : FCall prog zij #[a0] h R := fk f89 (.s .z (.s (.s .z (.s .z (.s (.s .z (.s .z .z)) (.s .z (.s (.s .z (.s .z .z)) .z))))) (.s (.s .z (.s .z (.s (.s .z .z) .z))) (.s .z (.s .z .z))))) H
def zhG (a0 a1 : Value) (h : Heap) (R : Value → Heap → Prop) : Prop :=
 FCall prog zeh #[a1] h fun v1 h2 =>
 vK (unV .not v1) fun v3 =>
 iteK v3 (
 R (.tuple #[(.pointer none), (.int .i64 6)]) h2) (
 vK (zaf a0) fun v4 =>
 vK (binV .i .rem v4 (.int .i64 2)) fun v5 =>
 vK (binV .i .eql v5 (.int .i64 0)) fun v6 =>
 iteK v6 (
 R (.tuple #[(.pointer none), (.int .i64 7)]) h2) (
 FCall prog zci #[a0] h2 fun v7 h8 =>
 vK (extV v7 0) fun v9 =>
 vK (extV v7 1) fun v10 =>
 vK (binV .i .neq v10 (.int .i64 0)) fun v11 =>
 iteK v11 (
 R (.tuple #[(.pointer none), v10]) h8) (
 vK ((fillL #[(.int .i64 0), (.slice none 0 0), (.int .i64 0), (.int .i64 0)] [(0, 1, a1)]).map .agg) fun v12 =>
 newK (Value.cells v12) 102 h8 fun v13 h14 =>
 loopK [(.int .i64 0)] h14 fun x15 j16 h17 again18 =>
 vK (binV .i .lss (ix x15 0) a1) fun v19 =>
 iteK v19 (
 vK (zaf v9) fun v20 =>
 vK (binV .i .quo v20 (.int .i64 2)) fun v21 =>
 vK (binV .i .sub (ix x15 0) v21) fun v22 =>
 FCall prog zcG #[v13, v22, v9] h17 fun v23 h24 =>
 vK (binV .i .add (ix x15 0) (.int .i64 1)) fun v25 =>
 again18 [v25] h24) (
 R (.tuple #[v13, (.int .i64 0)]) h17))))
theorem znx (H : zhG a0 a1 h R) : FCall prog zd3 #[a0, a1] h R := fk f90 (.s .z (.s (.s .z (.s (.s .z .z) (.s .z (.s (.s .z .z) .z)))) (.s .z (.s (.s .z (.s (.s .z .z) .z)) (.s .z (.s (.s .z (.l 8793945539072 [31] (.s .z (.s (.s .z .z) (.s (.s .z .z) .z))))) (.s .z .z))))))) H
def zjf (h : Heap) (R : Value → Heap → Prop) : Prop :=
 FCall prog zhe #[] h fun v1 h2 =>
 vK (unV .not v1) fun v3 =>
 gK v3 false (fun k49 => FCall prog zhd #[] h2 k49) h2 fun v4 h5 =>
 vK (gV v3 false (unV .not v4)) fun v6 =>
 vK (pickV v3 (.bool true) v6) fun v7 =>
 iteK v7 (
 R (.bool false) h5) (
 FCall prog zcV #[(.int .i64 0), (.int .i64 4), (.int .i64 2)] h5 fun v8 h9 =>
 vK (extV v8 0) fun v10 =>
 vK (extV v8 1) fun v11 =>
 vK (binV .i .neq v11 (.int .i64 0)) fun v12 =>
 vK (gV v12 false (some v10)) fun v13 =>
 vK (gV v12 false (binV .p .eql v13 (.pointer none))) fun v14 =>
 vK (pickV v12 (.bool true) v14) fun v15 =>
 iteK v15 (
 R (.bool false) h9) (
 FCall prog zai #[v10, (.int .i64 1)] h9 fun v16 h17 =>
 newK #[(.int .i64 0), (.slice none 0 0)] 96 h17 fun v18 h19 =>
 stK 2 v18 v16 h19 fun v20 h21 =>
 FCall prog zbD #[v10, (.int .i64 0), (.int .i64 2)] h21 fun v22 h23 =>
 vK (extV v22 0) fun v24 =>
 vK (extV v22 1) fun v25 =>
 FCall prog zai #[v10, (.int .i64 0)] h23 fun v26 h27 =>
 vK (partV false 1 0 v26) fun v28 =>
 vK (binV .i .eql v28 (.int .i64 0)) fun v29 =>
 vK (gV v29 true (fldV 0 v18)) fun v30 =>
 vK (gV v29 true (ldV h27 v30)) fun v31 =>
 vK (gV v29 true (binV .i .eql v31 (.int .i64 2))) fun v32 =>
 vK (pickV v29 v32 (.bool false)) fun v33 =>
 vK (gV v33 true (fldV 1 v18)) fun v34 =>
 vK (gV v33 true (ldV h27 v34)) fun v35 =>
 gK v33 true (fun k48 => rowK #[(.int .i64 0), (.int .i64 0)] 2 2 [(0, 1, (.int .i64 8192)), (1, 1, (.int .i64 8192))] h27 k48) h27 fun v36 h37 =>
 gK v33 true (fun k47 => FCall prog zf6 #[v35, v36] h37 k47) h37 fun v38 h39 =>
 vK (pickV v33 v38 (.bool false)) fun v40 =>
 vK (gV v40 true (some v24)) fun v41 =>
 vK (gV v40 true (binV .i .eql v41 (.int .i64 0))) fun v42 =>
 vK (pickV v40 v42 (.bool false)) fun v43 =>
 vK (gV v43 true (some v25)) fun v44 =>
 vK (gV v43 true (binV .i .eql v44 (.int .i64 4))) fun v45 =>
 vK (pickV v43 v45 (.bool false)) fun v46 =>
 R v46 h39))
theorem zoF (H : zjf h R) : FCall prog zhc #[] h R := fk f91 (.s .z (.s (.s .z (.s (.s .z .z) .z)) (.s .z (.s (.s .z (.s (.s .z .z) .z)) (.s .z (.s .z (.s .z .z))))))) H
def ze9 (a0 : Value) (h : Heap) (R : Value → Heap → Prop) : Prop :=
 vK (nilV a0) fun v1 =>
 vK (fldV 0 v1) fun v2 =>
 vK (ldV h v2) fun v3 =>
 R v3 h
theorem zjx (H : ze9 a0 h R) : FCall prog zbk #[a0] h R := fk f92 (.s .z (.s .z .z)) H
def zma (a0 : Value) (h : Heap) (R : Value → Heap → Prop) : Prop :=
 vK (binV .i .geq a0 (.int .i64 1)) fun v1 =>
 vK (gV v1 true (some a0)) fun v2 =>
 vK (gV v1 true (binV .i .leq v2 (.int .i64 4096))) fun v3 =>
 vK (pickV v1 v3 (.bool false)) fun v4 =>
 R v4 h
theorem ok_plan_side (H : zma a0 h R) : FCall prog zg6 #[a0] h R := fk f93 (.s .z (.s .z .z)) H
def zhq (a0 a1 : Value) (h : Heap) (R : Value → Heap → Prop) : Prop :=
 newK #[(.int .i64 0), (.int .i64 0), (.int .i64 0), (.int .i64 0)] 41 h fun v1 h2 =>
 drawK h2 fun S =>
 vK (nilV a0) fun v3 =>
 vK (fldV 3 v3) fun v4 =>
 qK S (fun h2 => ldV h2 v4) fun v5 =>
 vK (nilV a0) fun v6 =>
 vK (fldV 4 v6) fun v7 =>
 qK S (fun h2 => ldV h2 v7) fun v8 =>
 FCall prog zbF #[a0] h2 fun v9 h10 =>
 S h10 ∧ (vK (binV .i .rem a1 v9) fun v11 =>
 vK (binV .i .mul v11 v5) fun v12 =>
 FCall prog zbF #[a0] h10 fun v13 h14 =>
 S h14 ∧ (vK (binV .i .quo a1 v13) fun v15 =>
 vK (binV .i .mul v15 v8) fun v16 =>
 drawK h14 fun S =>
 vK (nilV a0) fun v17 =>
 vK (fldV 3 v17) fun v18 =>
 qK S (fun h14 => ldV h14 v18) fun v19 =>
 vK (nilV a0) fun v20 =>
 vK (fldV 0 v20) fun v21 =>
 vK (fldV 0 v21) fun v22 =>
 qK S (fun h14 => ldV h14 v22) fun v23 =>
 vK (nilV a0) fun v24 =>
 vK (fldV 4 v24) fun v25 =>
 qK S (fun h14 => ldV h14 v25) fun v26 =>
 vK (nilV a0) fun v27 =>
 vK (fldV 0 v27) fun v28 =>
 vK (fldV 1 v28) fun v29 =>
 qK S (fun h14 => ldV h14 v29) fun v30 =>
 FCall prog zap #[v23] h14 fun v31 h32 =>
 S h32 ∧ (vK (binV .i .sub v31 v12) fun v33 =>
 qK S (fun h32 => minV v19 v33) fun v34 =>
 FCall prog zap #[v30] h32 fun v35 h36 =>
 S h36 ∧ (vK (binV .i .sub v35 v16) fun v37 =>
 qK S (fun h36 => minV v26 v37) fun v38 =>
 vK ((fillL #[(.int .i64 0), (.int .i64 0), (.int .i64 0), (.int .i64 0)] [(0, 1, v12), (1, 1, v16), (2, 1, v34), (3, 1, v38)]).map .agg) fun v39 =>
 stK 4 v1 v39 h36 fun v40 h41 =>
 vK (ldsV 4 h41 v1) fun v42 =>
 R v42 h41))))
theorem zmE (H : zhq a0 a1 h R) : FCall prog zdz #[a0, a1] h R := fk f94 (.s .z (.s (.d (.op 0 .r (.op 1 .r (.op 4 .r (.op 5 .r (.op 6 .r (.op 7 .r (.op 9 .r (.op 10 .r (.op 13 .r (.op 14 .r (.op 15 .r (.op 16 .r (.op 2 .e (.op 3 .r (.op 8 .r (.op 11 .e (.op 12 .r (.op 17 .r (.op 18 .r (.op 19 .r .nil))))))))))))))))))))) (.s (.d (.op 0 .r (.op 1 .r (.op 2 .r (.op 3 .r (.op 4 .r (.op 5 .r (.op 6 .r (.op 7 .r (.op 8 .r (.op 9 .r (.op 10 .r (.op 12 .r (.op 15 .r (.op 16 .r (.op 17 .r (.op 18 .r (.op 19 .r (.op 20 .r (.op 21 .r (.op 22 .r (.op 23 .r (.op 25 .r (.op 11 .e (.op 13 .r (.op 14 .r (.op 24 .e (.op 26 .r (.op 27 .r (.op 28 .r (.op 29 .n .nil))))))))))))))))))))))))))))))) .z))) H
def zez (a0 a1 a2 : Value) (h : Heap) (R : Value → Heap → Prop) : Prop :=
 vK (maxV a1 (.int .i64 0)) fun v1 =>
 vK (nilV a0) fun v2 =>
 vK (fldV 1 v2) fun v3 =>
 vK (ldV h v3) fun v4 =>
 vK (zaf v4) fun v5 =>
 vK (minV a2 v5) fun v6 =>
 vK (binV .i .geq v1 v6) fun v7 =>
 iteK v7 (
 R (.tuple #[(.int .i64 0), (.int .i64 0)]) h) (
 vK (nilV a0) fun v8 =>
 vK (fldV 1 v8) fun v9 =>
 vK (ldV h v9) fun v10 =>
 vK (idxV 2 v10 v1) fun v11 =>
 vK (fldV 0 v11) fun v12 =>
 vK (ldV h v12) fun v13 =>
 vK (nilV a0) fun v14 =>
 vK (fldV 1 v14) fun v15 =>
 vK (ldV h v15) fun v16 =>
 vK (slcV 2 v16 (some v1) (some v6)) fun v17 =>
 vK (zaf v17) fun v18 =>
 loopK [v13, v13, (.int .i64 0)] h fun x19 j20 h21 again22 =>
 vK (binV .i .lss (ix x19 2) v18) fun v23 =>
 iteK v23 (
 vK (idxV 2 v17 (ix x19 2)) fun v24 =>
 vK (ldsV 2 h21 v24) fun v25 =>
 newK #[(.int .i64 0), (.slice none 0 0)] 96 h21 fun v26 h27 =>
 stK 2 v26 v25 h27 fun v28 h29 =>
 vK (fldV 0 v26) fun v30 =>
 vK (ldV h29 v30) fun v31 =>
 vK (minV (ix x19 0) v31) fun v32 =>
 vK (fldV 0 v26) fun v33 =>
 vK (ldV h29 v33) fun v34 =>
 vK (fldV 1 v26) fun v35 =>
 vK (ldV h29 v35) fun v36 =>
 vK (zaf v36) fun v37 =>
 vK (binV .i .add v34 v37) fun v38 =>
 vK (maxV (ix x19 1) v38) fun v39 =>
 vK (binV .i .add (ix x19 2) (.int .i64 1)) fun v40 =>
 again22 [v32, v39, v40] h29) (
 vK (binV .i .sub (ix x19 1) (ix x19 0)) fun v41 =>
 R (.tuple #[(ix x19 0), v41]) h21))
theorem ziK (H : zez a0 a1 a2 h R) : FCall prog zbD #[a0, a1, a2] h R := fk f95 (.s .z (.s .z (.s (.s .z (.s (.s .z .z) .z)) (.s .z (.s .z (.s (.s .z (.l 144114088564229440 [6, 8, 40] (.s .z (.s (.s .z .z) (.s (.s .z (.s .z .z)) .z))))) (.s .z .z))))))) H
def zeD (a0 : Value) (h : Heap) (R : Value → Heap → Prop) : Prop :=
 drawK h fun S =>
 vK (nilV a0) fun v1 =>
 vK (fldV 0 v1) fun v2 =>
 vK (fldV 0 v2) fun v3 =>
 qK S (fun h => ldV h v3) fun v4 =>
 vK (nilV a0) fun v5 =>
 vK (fldV 3 v5) fun v6 =>
 qK S (fun h => ldV h v6) fun v7 =>
 FCall prog zap #[v4] h fun v8 h9 =>
 S h9 ∧ (FCall prog zf8 #[v8, v7] h9 fun v10 h11 =>
 R v10 h11)
theorem ziO (H : zeD a0 h R) : FCall prog zbF #[a0] h R := fk f96 (.s .z (.s (.d (.op 0 .r (.op 1 .r (.op 2 .r (.op 3 .r (.op 4 .r (.op 6 .r (.op 7 .r (.op 8 .r (.op 9 .r (.op 5 .e (.op 10 .n (.op 11 .r .nil))))))))))))) .z)) H
def zkl (a0 a1 : Value) (h : Heap) (R : Value → Heap → Prop) : Prop :=
 vK (binV .i .add a0 a1) fun v1 =>
 vK (binV .i .sub v1 (.int .i64 1)) fun v2 =>
 vK (binV .i .quo v2 a1) fun v3 =>
 R v3 h
theorem zqk (H : zkl a0 a1 h R) : FCall prog zf8 #[a0, a1] h R := fk f97 (.s .z (.s .z .z)) H
def zb5 (a0 : Value) (h : Heap) (R : Value → Heap → Prop) : Prop :=
 joinK (fun J1 =>
 vK (zaf a0) fun v5 =>
 vK (binV .i .lss v5 (.int .i64 1)) fun v6 =>
 iteK v6 (
 failK h fun v7 h8 =>
 J1 [] h8) (
 J1 [] h))
 fun x2 j3 h4 =>
 vK (idxV 1 a0 (.int .i64 0)) fun v9 =>
 vK (ldV h4 v9) fun v10 =>
 loopK [v10, (.int .i64 1)] h4 fun x11 j12 h13 again14 =>
 vK (zaf a0) fun v15 =>
 vK (binV .i .lss (ix x11 1) v15) fun v16 =>
 iteK v16 (
 vK (idxV 1 a0 (ix x11 1)) fun v17 =>
 vK (ldV h13 v17) fun v18 =>
 vK (maxV (ix x11 0) v18) fun v19 =>
 vK (binV .i .add (ix x11 1) (.int .i64 1)) fun v20 =>
 again14 [v19, v20] h13) (
 R (ix x11 0) h13)
theorem zed (H : zb5 a0 h R) : FCall prog zbq #[a0] h R := fk f98 (.s .z (.j 480 [] (.s .z (.s .z .z)) (.s .z (.s (.s .z (.l 16773144 [3, 4] (.s (.s .z (.s .z .z)) (.s .z .z)))) (.s .z .z))))) H
def zkt (a0 a1 a2 a3 a4 : Value) (h : Heap) (R : Value → Heap → Prop) : Prop :=
 newK (Value.cells a1) 36 h fun v1 h2 =>
 vK (ldsV 3 h2 v1) fun v3 =>
 FCall prog zbU #[a0, v3] h2 fun v4 h5 =>
 vK (unV .not v4) fun v6 =>
 vK (gV v6 false (some a4)) fun v7 =>
 vK (gV v6 false (binV .i .lss v7 (.int .i64 0))) fun v8 =>
 vK (pickV v6 (.bool true) v8) fun v9 =>
 vK (gV v9 false (some a4)) fun v10 =>
 vK (gV v9 false (some a0)) fun v11 =>
 gK v9 false (fun k186 => FCall prog zaj #[v11] h5 k186) h5 fun v12 h13 =>
 vK (gV v9 false (binV .i .geq v10 v12)) fun v14 =>
 vK (pickV v9 (.bool true) v14) fun v15 =>
 iteK v15 (
 R (.int .i64 0) h13) (
 joinK (fun J16 =>
 drawK h13 fun S =>
 vK (fldV 0 v1) fun v20 =>
 qK S (fun h13 => ldV h13 v20) fun v21 =>
 vK (fldV 1 v1) fun v22 =>
 qK S (fun h13 => ldV h13 v22) fun v23 =>
 (FCall prog zai #[v21, a2] h13 fun v24 h25 =>
 S h25 ∧ ((FCall prog zai #[v23, a3] h25 fun v26 h27 =>
 S h27 ∧ ((newK #[(.int .i64 0), (.slice none 0 0)] 96 h27 fun v28 h29 =>
 S h29 ∧ (newK #[(.int .i64 0), (.slice none 0 0)] 96 h29 fun v30 h31 =>
 S h31 ∧ (stK 2 v28 v24 h31 fun v32 h33 =>
 S h33 ∧ (stK 2 v30 v26 h33 fun v34 h35 =>
 S h35 ∧ (J16 [v28, v30] h35))))) ∧ (newK #[(.int .i64 0), (.slice none 0 0)] 96 h27 fun v36 h37 =>
 S h37 ∧ (newK #[(.int .i64 0), (.slice none 0 0)] 96 h37 fun v38 h39 =>
 S h39 ∧ (stK 2 v38 v24 h39 fun v40 h41 =>
 S h41 ∧ (stK 2 v36 v26 h41 fun v42 h43 =>
 S h43 ∧ (J16 [v38, v36] h43))))))) ∧ ((newK #[(.int .i64 0), (.slice none 0 0)] 96 h25 fun v44 h45 =>
 S h45 ∧ ((FCall prog zai #[v23, a3] h45 fun v46 h47 =>
 S h47 ∧ (newK #[(.int .i64 0), (.slice none 0 0)] 96 h47 fun v48 h49 =>
 S h49 ∧ (stK 2 v44 v24 h49 fun v50 h51 =>
 S h51 ∧ (stK 2 v48 v46 h51 fun v52 h53 =>
 S h53 ∧ (J16 [v44, v48] h53))))) ∧ (newK #[(.int .i64 0), (.slice none 0 0)] 96 h45 fun v54 h55 =>
 S h55 ∧ (FCall prog zai #[v23, a3] h55 fun v56 h57 =>
 S h57 ∧ (stK 2 v44 v24 h57 fun v58 h59 =>
 S h59 ∧ (stK 2 v54 v56 h59 fun v60 h61 =>
 S h61 ∧ (J16 [v44, v54] h61))))))) ∧ (newK #[(.int .i64 0), (.slice none 0 0)] 96 h25 fun v62 h63 =>
 S h63 ∧ ((FCall prog zai #[v23, a3] h63 fun v64 h65 =>
 S h65 ∧ (newK #[(.int .i64 0), (.slice none 0 0)] 96 h65 fun v66 h67 =>
 S h67 ∧ (stK 2 v66 v24 h67 fun v68 h69 =>
 S h69 ∧ (stK 2 v62 v64 h69 fun v70 h71 =>
 S h71 ∧ (J16 [v66, v62] h71))))) ∧ (newK #[(.int .i64 0), (.slice none 0 0)] 96 h63 fun v72 h73 =>
 S h73 ∧ (FCall prog zai #[v23, a3] h73 fun v74 h75 =>
 S h75 ∧ (stK 2 v72 v24 h75 fun v76 h77 =>
 S h77 ∧ (stK 2 v62 v74 h77 fun v78 h79 =>
 S h79 ∧ (J16 [v72, v62] h79)))))))))) ∧ ((newK #[(.int .i64 0), (.slice none 0 0)] 96 h13 fun v80 h81 =>
 S h81 ∧ ((FCall prog zai #[v21, a2] h81 fun v82 h83 =>
 S h83 ∧ ((FCall prog zai #[v23, a3] h83 fun v84 h85 =>
 S h85 ∧ (newK #[(.int .i64 0), (.slice none 0 0)] 96 h85 fun v86 h87 =>
 S h87 ∧ (stK 2 v80 v82 h87 fun v88 h89 =>
 S h89 ∧ (stK 2 v86 v84 h89 fun v90 h91 =>
 S h91 ∧ (J16 [v80, v86] h91))))) ∧ (newK #[(.int .i64 0), (.slice none 0 0)] 96 h83 fun v92 h93 =>
 S h93 ∧ (FCall prog zai #[v23, a3] h93 fun v94 h95 =>
 S h95 ∧ (stK 2 v80 v82 h95 fun v96 h97 =>
 S h97 ∧ (stK 2 v92 v94 h97 fun v98 h99 =>
 S h99 ∧ (J16 [v80, v92] h99))))))) ∧ (newK #[(.int .i64 0), (.slice none 0 0)] 96 h81 fun v100 h101 =>
 S h101 ∧ (FCall prog zai #[v21, a2] h101 fun v102 h103 =>
 S h103 ∧ (FCall prog zai #[v23, a3] h103 fun v104 h105 =>
 S h105 ∧ (stK 2 v80 v102 h105 fun v106 h107 =>
 S h107 ∧ (stK 2 v100 v104 h107 fun v108 h109 =>
 S h109 ∧ (J16 [v80, v100] h109)))))))) ∧ (newK #[(.int .i64 0), (.slice none 0 0)] 96 h13 fun v110 h111 =>
 S h111 ∧ ((FCall prog zai #[v21, a2] h111 fun v112 h113 =>
 S h113 ∧ ((FCall prog zai #[v23, a3] h113 fun v114 h115 =>
 S h115 ∧ (newK #[(.int .i64 0), (.slice none 0 0)] 96 h115 fun v116 h117 =>
 S h117 ∧ (stK 2 v116 v112 h117 fun v118 h119 =>
 S h119 ∧ (stK 2 v110 v114 h119 fun v120 h121 =>
 S h121 ∧ (J16 [v116, v110] h121))))) ∧ (newK #[(.int .i64 0), (.slice none 0 0)] 96 h113 fun v122 h123 =>
 S h123 ∧ (FCall prog zai #[v23, a3] h123 fun v124 h125 =>
 S h125 ∧ (stK 2 v122 v112 h125 fun v126 h127 =>
 S h127 ∧ (stK 2 v110 v124 h127 fun v128 h129 =>
 S h129 ∧ (J16 [v122, v110] h129))))))) ∧ (newK #[(.int .i64 0), (.slice none 0 0)] 96 h111 fun v130 h131 =>
 S h131 ∧ (FCall prog zai #[v21, a2] h131 fun v132 h133 =>
 S h133 ∧ (FCall prog zai #[v23, a3] h133 fun v134 h135 =>
 S h135 ∧ (stK 2 v130 v132 h135 fun v136 h137 =>
 S h137 ∧ (stK 2 v110 v134 h137 fun v138 h139 =>
 S h139 ∧ (J16 [v130, v110] h139))))))))))
 fun x17 j18 h19 =>
 vK (fldV 1 (ix x17 1)) fun v140 =>
 vK (ldV h19 v140) fun v141 =>
 vK (zaf v141) fun v142 =>
 loopK [(.int .i64 0), (.int .i64 0)] h19 fun x143 j144 h145 again146 =>
 vK (binV .i .lss (ix x143 1) v142) fun v147 =>
 iteK v147 (
 vK (idxV 1 v141 (ix x143 1)) fun v148 =>
 vK (ldV h145 v148) fun v149 =>
 drawK h145 fun S =>
 vK (fldV 2 v1) fun v150 =>
 qK S (fun h145 => ldV h145 v150) fun v151 =>
 vK (fldV 0 (ix x17 1)) fun v152 =>
 qK S (fun h145 => ldV h145 v152) fun v153 =>
 vK (binV .i .add v153 (ix x143 1)) fun v154 =>
 FCall prog zas #[a0] h145 fun v155 h156 =>
 S h156 ∧ (FCall prog zdW #[v151, v154, v155] h156 fun v157 h158 =>
 vK (fldV 1 (ix x17 0)) fun v159 =>
 vK (ldV h158 v159) fun v160 =>
 vK (zaf v160) fun v161 =>
 loopK [(ix x143 0), (.int .i64 0)] h158 fun x162 j163 h164 again165 =>
 vK (binV .i .lss (ix x162 1) v161) fun v166 =>
 iteK v166 (
 vK (idxV 1 v160 (ix x162 1)) fun v167 =>
 vK (ldV h164 v167) fun v168 =>
 drawK h164 fun S =>
 vK (fldV 2 v1) fun v169 =>
 qK S (fun h164 => ldV h164 v169) fun v170 =>
 vK (fldV 0 (ix x17 0)) fun v171 =>
 qK S (fun h164 => ldV h164 v171) fun v172 =>
 vK (binV .i .add v172 (ix x162 1)) fun v173 =>
 FCall prog zaw #[a0] h164 fun v174 h175 =>
 S h175 ∧ (FCall prog zdW #[v170, v173, v174] h175 fun v176 h177 =>
 vK (binV .i .mul v168 v149) fun v178 =>
 FCall prog zbd #[a0, v176, v157, a4] h177 fun v179 h180 =>
 vK (cviV .i64 v179) fun v181 =>
 vK (binV .i .mul v178 v181) fun v182 =>
 vK (binV .i .add (ix x162 0) v182) fun v183 =>
 vK (binV .i .add (ix x162 1) (.int .i64 1)) fun v184 =>
 again165 [v183, v184] h180)) (
 vK (binV .i .add (ix x143 1) (.int .i64 1)) fun v185 =>
 again146 [(ix x162 0), v185] h164))) (
 R (ix x143 0) h145))
theorem zqs (H : zkt a0 a1 a2 a3 a4 h R) : FCall prog zio #[a0, a1, a2, a3, a4] h R := fk f99 (.s .z (.s (.s .z (.s (.s .z .z) .z)) (.j 4380866648064 [11, 12] (.d (.op 0 .r (.op 1 .r (.op 2 .r (.op 4 .r (.op 5 .r (.op 6 .r (.alt (.op 3 .e (.alt (.op 7 .e (.alt (.op 8 .e (.op 9 .e (.op 10 .e (.op 11 .e .nil)))) (.op 9 .e (.op 8 .e (.op 10 .e (.op 11 .e .nil)))))) (.alt (.op 8 .e (.alt (.op 7 .e (.op 9 .e (.op 10 .e (.op 11 .e .nil)))) (.op 9 .e (.op 7 .e (.op 10 .e (.op 11 .e .nil)))))) (.op 9 .e (.alt (.op 7 .e (.op 8 .e (.op 10 .e (.op 11 .e .nil)))) (.op 8 .e (.op 7 .e (.op 10 .e (.op 11 .e .nil))))))))) (.alt (.op 8 .e (.alt (.op 3 .e (.alt (.op 7 .e (.op 9 .e (.op 10 .e (.op 11 .e .nil)))) (.op 9 .e (.op 7 .e (.op 10 .e (.op 11 .e .nil)))))) (.op 9 .e (.op 3 .e (.op 7 .e (.op 10 .e (.op 11 .e .nil))))))) (.op 9 .e (.alt (.op 3 .e (.alt (.op 7 .e (.op 8 .e (.op 10 .e (.op 11 .e .nil)))) (.op 8 .e (.op 7 .e (.op 10 .e (.op 11 .e .nil)))))) (.op 8 .e (.op 3 .e (.op 7 .e (.op 10 .e (.op 11 .e .nil)))))))))))))))) (.s .z (.s (.s .z (.l 1237940039285345090528075776 [13, 45] (.s .z (.s (.s .z .z) (.s (.s .z (.s (.d (.op 0 .r (.op 1 .r (.op 2 .r (.op 3 .r (.op 4 .r (.op 5 .r (.op 6 .r (.op 7 .e (.op 8 .n (.op 9 .r .nil))))))))))) (.s .z (.l 618970015031004119023099904 [13, 62] (.s .z (.s (.s .z .z) (.s (.s .z (.s (.d (.op 0 .r (.op 1 .r (.op 2 .r (.op 3 .r (.op 4 .r (.op 5 .r (.op 6 .r (.op 7 .e (.op 8 .n (.op 9 .r .nil))))))))))) .z)) .z))))))) .z))))) (.s .z .z)))))) H
def zoY (a0 a1 a2 : Value) (h : Heap) (R : Value → Heap → Prop) : Prop :=
 newK (Value.cells a0) 31 h fun v1 h2 =>
 vK (fldV 0 v1) fun v3 =>
 vK (ldV h2 v3) fun v4 =>
 vK (binV .i .eql v4 (.int .i64 3)) fun v5 =>
 iteK v5 (
 vK (fldV 7 v1) fun v6 =>
 vK (ldV h2 v6) fun v7 =>
 vK (fldV 8 v1) fun v8 =>
 vK (ldV h2 v8) fun v9 =>
 R (.tuple #[v7, v9]) h2) (
 R (.tuple #[a1, a2]) h2)
theorem ok_op_Size (H : zoY a0 a1 a2 h R) : FCall prog zog #[a0, a1, a2] h R := fk f100 (.s .z (.s (.s .z (.s (.s .z .z) .z)) (.s .z .z))) H
def zj6 (a0 a1 a2 : Value) (h : Heap) (R : Value → Heap → Prop) : Prop :=
 vK (binV .i .lss a0 (.int .i64 1)) fun v1 =>
 vK (gV v1 false (some a0)) fun v2 =>
 vK (gV v1 false (binV .i .gtr v2 (.int .i64 65536))) fun v3 =>
 vK (pickV v1 (.bool true) v3) fun v4 =>
 vK (gV v4 false (some a1)) fun v5 =>
 vK (gV v4 false (binV .i .lss v5 (.int .i64 1))) fun v6 =>
 vK (pickV v4 (.bool true) v6) fun v7 =>
 vK (gV v7 false (some a1)) fun v8 =>
 vK (gV v7 false (binV .i .gtr v8 (.int .i64 65536))) fun v9 =>
 vK (pickV v7 (.bool true) v9) fun v10 =>
 iteK v10 (
 R (.bool false) h) (
 vK (binV .i .neq a2 (.int .i64 1)) fun v11 =>
 vK (gV v11 true (some a2)) fun v12 =>
 vK (gV v11 true (binV .i .neq v12 (.int .i64 3))) fun v13 =>
 vK (pickV v11 v13 (.bool false)) fun v14 =>
 iteK v14 (
 R (.bool false) h) (
 vK (binV .i .mul a0 a1) fun v15 =>
 vK (binV .i .quo (.int .i64 268435456) a2) fun v16 =>
 vK (binV .i .leq v15 v16) fun v17 =>
 R v17 h))
theorem zp5 (H : zj6 a0 a1 a2 h R) : FCall prog zf3 #[a0, a1, a2] h R := fk f101 (.s .z (.s (.s .z (.s (.s .z .z) .z)) (.s (.s .z (.s (.s .z .z) .z)) (.s .z .z)))) H
def zj4 (a0 a1 a2 : Value) (h : Heap) (R : Value → Heap → Prop) : Prop :=
 newK (Value.cells a0) 167 h fun v1 h2 =>
 newK #[(.slice none 0 0), (.slice none 0 0), (.int .i64 0), (.int .i64 0), (.int .i64 0)] 39 h2 fun v3 h4 =>
 vK (fldV 0 v1) fun v5 =>
 vK (ldV h4 v5) fun v6 =>
 vK (binV .i .lss v6 (.int .i64 0)) fun v7 =>
 vK (gV v7 false (fldV 0 v1)) fun v8 =>
 vK (gV v7 false (ldV h4 v8)) fun v9 =>
 vK (gV v7 false (binV .i .gtr v9 (.int .i64 3))) fun v10 =>
 vK (pickV v7 (.bool true) v10) fun v11 =>
 vK (gV v11 false (fldV 1 v1)) fun v12 =>
 vK (gV v11 false (ldV h4 v12)) fun v13 =>
 vK (gV v11 false (binV .i .lss v13 (.int .i64 0))) fun v14 =>
 vK (pickV v11 (.bool true) v14) fun v15 =>
 vK (gV v15 false (fldV 1 v1)) fun v16 =>
 vK (gV v15 false (ldV h4 v16)) fun v17 =>
 vK (gV v15 false (binV .i .gtr v17 (.int .i64 2))) fun v18 =>
 vK (pickV v15 (.bool true) v18) fun v19 =>
 vK (gV v19 false (some a1)) fun v20 =>
 gK v19 false (fun k172 => FCall prog zdf #[v20] h4 k172) h4 fun v21 h22 =>
 vK (gV v19 false (unV .not v21)) fun v23 =>
 vK (pickV v19 (.bool true) v23) fun v24 =>
 vK (gV v24 false (some a2)) fun v25 =>
 gK v24 false (fun k171 => FCall prog zdf #[v25] h22 k171) h22 fun v26 h27 =>
 vK (gV v24 false (unV .not v26)) fun v28 =>
 vK (pickV v24 (.bool true) v28) fun v29 =>
 iteK v29 (
 vK ((fillL #[(.slice none 0 0), (.slice none 0 0), (.int .i64 0), (.int .i64 0), (.int .i64 0)] []).map .agg) fun v30 =>
 stK 5 v3 v30 h27 fun v31 h32 =>
 vK (ldsV 5 h32 v3) fun v33 =>
 R (.tuple #[v33, (.int .i64 6)]) h32) (
 vK (fldV 1 v1) fun v34 =>
 vK (ldV h27 v34) fun v35 =>
 vK ((fillL #[(.slice none 0 0), (.slice none 0 0), (.int .i64 0), (.int .i64 0), (.int .i64 0)] [(2, 1, a1), (3, 1, a2), (4, 1, v35)]).map .agg) fun v36 =>
 newK #[(.slice none 0 0), (.slice none 0 0), (.int .i64 0), (.int .i64 0), (.int .i64 0)] 39 h27 fun v37 h38 =>
 stK 5 v37 v36 h38 fun v39 h40 =>
 vK (fldV 0 v1) fun v41 =>
 vK (ldV h40 v41) fun v42 =>
 vK (binV .i .eql v42 (.int .i64 3)) fun v43 =>
 iteK v43 (
 vK (fldV 7 v1) fun v44 =>
 vK (ldV h40 v44) fun v45 =>
 FCall prog zdf #[v45] h40 fun v46 h47 =>
 vK (unV .not v46) fun v48 =>
 vK (gV v48 false (fldV 8 v1)) fun v49 =>
 vK (gV v48 false (ldV h47 v49)) fun v50 =>
 gK v48 false (fun k103 => FCall prog zdf #[v50] h47 k103) h47 fun v51 h52 =>
 vK (gV v48 false (unV .not v51)) fun v53 =>
 vK (pickV v48 (.bool true) v53) fun v54 =>
 vK (gV v54 false (fldV 6 v1)) fun v55 =>
 vK (gV v54 false (ldV h52 v55)) fun v56 =>
 vK (gV v54 false (binV .i .lss v56 (.int .i64 0))) fun v57 =>
 vK (pickV v54 (.bool true) v57) fun v58 =>
 vK (gV v58 false (fldV 6 v1)) fun v59 =>
 vK (gV v58 false (ldV h52 v59)) fun v60 =>
 vK (gV v58 false (binV .i .gtr v60 (.int .i64 2))) fun v61 =>
 vK (pickV v58 (.bool true) v61) fun v62 =>
 iteK v62 (
 vK ((fillL #[(.slice none 0 0), (.slice none 0 0), (.int .i64 0), (.int .i64 0), (.int .i64 0)] []).map .agg) fun v63 =>
 stK 5 v3 v63 h52 fun v64 h65 =>
 vK (ldsV 5 h65 v3) fun v66 =>
 R (.tuple #[v66, (.int .i64 6)]) h65) (
 vK (fldV 6 v1) fun v67 =>
 vK (ldV h52 v67) fun v68 =>
 vK (fldV 7 v1) fun v69 =>
 vK (ldV h52 v69) fun v70 =>
 FCall prog zd4 #[v68, a1, v70] h52 fun v71 h72 =>
 vK (extV v71 0) fun v73 =>
 vK (extV v71 1) fun v74 =>
 vK (fldV 0 v37) fun v75 =>
 stK 1 v75 v73 h72 fun v76 h77 =>
 vK (binV .i .neq v74 (.int .i64 0)) fun v78 =>
 iteK v78 (
 vK ((fillL #[(.slice none 0 0), (.slice none 0 0), (.int .i64 0), (.int .i64 0), (.int .i64 0)] []).map .agg) fun v79 =>
 stK 5 v3 v79 h77 fun v80 h81 =>
 vK (ldsV 5 h81 v3) fun v82 =>
 R (.tuple #[v82, v74]) h81) (
 vK (fldV 6 v1) fun v83 =>
 vK (ldV h77 v83) fun v84 =>
 vK (fldV 8 v1) fun v85 =>
 vK (ldV h77 v85) fun v86 =>
 FCall prog zd4 #[v84, a2, v86] h77 fun v87 h88 =>
 vK (extV v87 0) fun v89 =>
 vK (extV v87 1) fun v90 =>
 vK (fldV 1 v37) fun v91 =>
 stK 1 v91 v89 h88 fun v92 h93 =>
 vK (binV .i .neq v90 (.int .i64 0)) fun v94 =>
 iteK v94 (
 vK ((fillL #[(.slice none 0 0), (.slice none 0 0), (.int .i64 0), (.int .i64 0), (.int .i64 0)] []).map .agg) fun v95 =>
 stK 5 v3 v95 h93 fun v96 h97 =>
 vK (ldsV 5 h97 v3) fun v98 =>
 R (.tuple #[v98, v90]) h97) (
 vK (ldsV 5 h93 v37) fun v99 =>
 stK 5 v3 v99 h93 fun v100 h101 =>
 vK (ldsV 5 h101 v3) fun v102 =>
 R (.tuple #[v102, (.int .i64 0)]) h101)))) (
 vK (fldV 0 v1) fun v104 =>
 vK (ldV h40 v104) fun v105 =>
 joinK (fun J106 =>
 vK (binV .i .eql v105 (.int .i64 0)) fun v110 =>
 iteK v110 (
 vK (fldV 2 v1) fun v111 =>
 vK (ldV h40 v111) fun v112 =>
 FCall prog zes #[v112] h40 fun v113 h114 =>
 vK (extV v113 0) fun v115 =>
 vK (extV v113 1) fun v116 =>
 J106 [v116, v115, v115] h114) (
 vK (binV .i .eql v105 (.int .i64 1)) fun v117 =>
 iteK v117 (
 vK (fldV 3 v1) fun v118 =>
 vK (ldV h40 v118) fun v119 =>
 FCall prog zig #[v119] h40 fun v120 h121 =>
 vK (extV v120 0) fun v122 =>
 vK (extV v120 1) fun v123 =>
 J106 [v123, v122, v122] h121) (
 vK (binV .i .eql v105 (.int .i64 2)) fun v124 =>
 iteK v124 (
 vK (fldV 4 v1) fun v125 =>
 vK (ldV h40 v125) fun v126 =>
 FCall prog zej #[v126] h40 fun v127 h128 =>
 vK (extV v127 0) fun v129 =>
 vK (extV v127 1) fun v130 =>
 vK (fldV 5 v1) fun v131 =>
 vK (ldV h128 v131) fun v132 =>
 FCall prog zej #[v132] h128 fun v133 h134 =>
 vK (extV v133 0) fun v135 =>
 vK (extV v133 1) fun v136 =>
 vK (binV .i .eql v130 (.int .i64 0)) fun v137 =>
 iteK v137 (
 J106 [v136, v129, v135] h134) (
 J106 [v130, v129, v135] h134)) (
 J106 [(.int .i64 0), (.slice none 0 0), (.slice none 0 0)] h40))))
 fun x107 j108 h109 =>
 vK (binV .i .neq (ix x107 0) (.int .i64 0)) fun v138 =>
 iteK v138 (
 vK ((fillL #[(.slice none 0 0), (.slice none 0 0), (.int .i64 0), (.int .i64 0), (.int .i64 0)] []).map .agg) fun v139 =>
 stK 5 v3 v139 h109 fun v140 h141 =>
 vK (ldsV 5 h141 v3) fun v142 =>
 R (.tuple #[v142, (ix x107 0)]) h141) (
 FCall prog zd5 #[(ix x107 1), a1] h109 fun v143 h144 =>
 vK (extV v143 0) fun v145 =>
 vK (extV v143 1) fun v146 =>
 vK (fldV 0 v37) fun v147 =>
 stK 1 v147 v145 h144 fun v148 h149 =>
 vK (binV .i .neq v146 (.int .i64 0)) fun v150 =>
 iteK v150 (
 vK ((fillL #[(.slice none 0 0), (.slice none 0 0), (.int .i64 0), (.int .i64 0), (.int .i64 0)] []).map .agg) fun v151 =>
 stK 5 v3 v151 h149 fun v152 h153 =>
 vK (ldsV 5 h153 v3) fun v154 =>
 R (.tuple #[v154, v146]) h153) (
 FCall prog zd5 #[(ix x107 2), a2] h149 fun v155 h156 =>
 vK (extV v155 0) fun v157 =>
 vK (extV v155 1) fun v158 =>
 vK (fldV 1 v37) fun v159 =>
 stK 1 v159 v157 h156 fun v160 h161 =>
 vK (binV .i .neq v158 (.int .i64 0)) fun v162 =>
 iteK v162 (
 vK ((fillL #[(.slice none 0 0), (.slice none 0 0), (.int .i64 0), (.int .i64 0), (.int .i64 0)] []).map .agg) fun v163 =>
 stK 5 v3 v163 h161 fun v164 h165 =>
 vK (ldsV 5 h165 v3) fun v166 =>
 R (.tuple #[v166, v158]) h165) (
 vK (ldsV 5 h161 v37) fun v167 =>
 stK 5 v3 v167 h161 fun v168 h169 =>
 vK (ldsV 5 h169 v3) fun v170 =>
 R (.tuple #[v170, (.int .i64 0)]) h169)))))
theorem zp3 (H : zj4 a0 a1 a2 h R) : FCall prog zie #[a0, a1, a2] h R := fk f102 (.s .z (.s (.s .z (.s (.s .z .z) .z)) (.s .z (.s .z (.s (.s .z (.s (.s (.s .z (.s (.s .z .z) .z)) (.s .z (.s (.s .z (.s (.s .z .z) .z)) (.s .z (.s (.s .z (.s (.s .z .z) .z)) (.s .z .z)))))) .z)) (.s .z (.s .z (.s (.s .z (.m 174224571858449890892334881399078511451648 [9, 10, 11] (.s .z (.s (.s .z .z) (.s .z (.s (.s .z .z) (.s .z (.s (.s .z (.s .z (.s .z (.s .z (.s .z .z))))) .z)))))))) (.s (.s .z (.s (.s .z .z) .z)) (.s .z (.s (.s .z (.s (.s .z .z) .z)) (.s .z (.s (.s .z (.s (.s .z .z) .z)) (.s .z .z)))))))))))))) H
def zj3 (a0 a1 a2 : Value) (h : Heap) (R : Value → Heap → Prop) : Prop :=
 newK (Value.cells a0) 167 h fun v1 h2 =>
 vK (fldV 0 v1) fun v3 =>
 vK (ldV h2 v3) fun v4 =>
 vK (binV .i .eql v4 (.int .i64 3)) fun v5 =>
 iteK v5 (
 vK (fldV 7 v1) fun v6 =>
 vK (ldV h2 v6) fun v7 =>
 vK (fldV 8 v1) fun v8 =>
 vK (ldV h2 v8) fun v9 =>
 R (.tuple #[v7, v9]) h2) (
 R (.tuple #[a1, a2]) h2)
theorem zp2 (H : zj3 a0 a1 a2 h R) : FCall prog zid #[a0, a1, a2] h R := fk f103 (.s .z (.s (.s .z (.s (.s .z .z) .z)) (.s .z .z))) H
def zmc (a0 : Value) (h : Heap) (R : Value → Heap → Prop) : Prop :=
 newK (Value.cells a0) 31 h fun v1 h2 =>
 newK #[(.int .i64 0), (.int .i64 0), (.int .i64 0), (.int .i64 0), (.slice none 0 0), (.slice none 0 0), (.int .i64 0), (.int .i64 0), (.int .i64 0)] 167 h2 fun v3 h4 =>
 vK (fldV 0 v1) fun v5 =>
 vK (ldV h4 v5) fun v6 =>
 vK (fldV 1 v1) fun v7 =>
 vK (ldV h4 v7) fun v8 =>
 vK (fldV 2 v1) fun v9 =>
 vK (ldV h4 v9) fun v10 =>
 vK (fldV 3 v1) fun v11 =>
 vK (ldV h4 v11) fun v12 =>
 vK (fldV 4 v1) fun v13 =>
 vK (ldV h4 v13) fun v14 =>
 vK (fldV 5 v1) fun v15 =>
 vK (ldV h4 v15) fun v16 =>
 vK (fldV 6 v1) fun v17 =>
 vK (ldV h4 v17) fun v18 =>
 vK (fldV 7 v1) fun v19 =>
 vK (ldV h4 v19) fun v20 =>
 vK (fldV 8 v1) fun v21 =>
 vK (ldV h4 v21) fun v22 =>
 vK ((fillL #[(.int .i64 0), (.int .i64 0), (.int .i64 0), (.int .i64 0), (.slice none 0 0), (.slice none 0 0), (.int .i64 0), (.int .i64 0), (.int .i64 0)] [(0, 1, v6), (1, 1, v8), (2, 1, v10), (3, 1, v12), (4, 1, v14), (5, 1, v16), (6, 1, v18), (7, 1, v20), (8, 1, v22)]).map .agg) fun v23 =>
 stK 9 v3 v23 h4 fun v24 h25 =>
 vK (ldsV 9 h25 v3) fun v26 =>
 R v26 h25
theorem ok_law12_Ref (H : zmc a0 h R) : FCall prog zjQ #[a0] h R := fk f104 (.s .z (.s .z .z)) H
end
end Go.Proofs.YtojmncnelbnceaaGreatDoor
