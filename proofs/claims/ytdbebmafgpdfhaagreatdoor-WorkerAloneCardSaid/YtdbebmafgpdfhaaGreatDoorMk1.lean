/- Several texts of this session, one behind the other, without what this claim does not need (put together by its program pack.py). Conditions: none. -/
import Derived.Test.YtdbebmafgpdfhaaGreatDoorMk0
import Derived.Test.YtdbebmafgpdfhaaGreatDoorProg
set_option linter.unusedVariables false
set_option linter.unusedSimpArgs false
set_option maxRecDepth 100000
namespace Go.Proofs.YtdbebmafgpdfhaaGreatDoor
open Go Go.Crisp
open _root_.Go.Proofs.Tryz
section
variable {a0 a1 a2 a3 a4 a5 : Value} {h : Heap} {R : Value → Heap → Prop}
abbrev zdT : FuncId := 3
abbrev zcM : FuncId := 5
abbrev zdm : FuncId := 6
abbrev zcV : FuncId := 7
abbrev zdt : FuncId := 8
abbrev zee : FuncId := 9
abbrev zbr : FuncId := 10
abbrev zbh : FuncId := 11
abbrev zbY : FuncId := 12
abbrev zas : FuncId := 13
abbrev zaQ : FuncId := 14
abbrev zaI : FuncId := 15
abbrev zaP : FuncId := 16
abbrev zbx : FuncId := 17
abbrev zdc : FuncId := 18
abbrev zat : FuncId := 19
abbrev zaj : FuncId := 20
abbrev zae : FuncId := 21
abbrev zal : FuncId := 22
abbrev zfj : FuncId := 23
abbrev zbv : FuncId := 27
abbrev zdu : FuncId := 28
abbrev zbo : FuncId := 32
abbrev zaT : FuncId := 33
abbrev za4 : FuncId := 34
abbrev zcx : FuncId := 35
abbrev zcq : FuncId := 36
abbrev zbf : FuncId := 37
abbrev zfT : FuncId := 38
abbrev zgB : FuncId := 39
abbrev zhA : FuncId := 40
abbrev zhy : FuncId := 41
abbrev zho : FuncId := 42
abbrev zhv : FuncId := 43
abbrev zcL : FuncId := 44
abbrev zbB : FuncId := 45
abbrev zaV : FuncId := 46
abbrev zcK : FuncId := 47
abbrev zc3 : FuncId := 48
abbrev zb0 : FuncId := 49
abbrev ziP : FuncId := 50
abbrev zgE : FuncId := 51
abbrev zrE : FuncId := 52
abbrev zaB : FuncId := 53
abbrev zaz : FuncId := 54
abbrev zkh : FuncId := 55
abbrev ziO : FuncId := 56
abbrev zdR : FuncId := 57
abbrev zhu : FuncId := 58
abbrev zdS : FuncId := 62
abbrev zbb : FuncId := 63
abbrev zbJ : FuncId := 64
abbrev zgA : FuncId := 65
abbrev zdM : FuncId := 66
abbrev zmj : FuncId := 67
abbrev zch : FuncId := 69
abbrev zbL : FuncId := 70
abbrev zgt : FuncId := 71
abbrev zeb : FuncId := 72
abbrev zak : FuncId := 73
abbrev ziJ : FuncId := 74
abbrev zbN : FuncId := 75
abbrev zhn : FuncId := 76
abbrev zkg : FuncId := 77
abbrev zfU : FuncId := 78
abbrev zhx : FuncId := 79
abbrev zhw : FuncId := 80
abbrev zce : FuncId := 81
abbrev zdj : FuncId := 82
abbrev zdN : FuncId := 83
abbrev zc0 : FuncId := 84
abbrev zht : FuncId := 85
abbrev zoS : FuncId := 86
abbrev zgo : FuncId := 87
abbrev ziI : FuncId := 88
abbrev ziH : FuncId := 89
abbrev zko : FuncId := 90
abbrev zdd : FuncId := 91
abbrev zaL : FuncId := 92
abbrev zbg : FuncId := 93
abbrev zcT : FuncId := 94
abbrev zja : FuncId := 95
abbrev zml : FuncId := 96
abbrev zrD : FuncId := 97
abbrev zgZ : FuncId := 98
abbrev zkn : FuncId := 99
abbrev ze8 : FuncId := 100
abbrev zhz : FuncId := 101
abbrev zgF : FuncId := 102
abbrev zcg : FuncId := 103
abbrev zd9 : FuncId := 104
abbrev zcR : FuncId := 105
abbrev zeM : FuncId := 106
abbrev zeg : FuncId := 107
abbrev zdk : FuncId := 108
abbrev zfQ : FuncId := 109
abbrev zec : FuncId := 110
abbrev zfP : FuncId := 111
abbrev zbq : FuncId := 112
abbrev zes : FuncId := 113
abbrev zbu : FuncId := 114
abbrev zdv : FuncId := 115
abbrev zep : FuncId := 116
abbrev zeN : FuncId := 117
abbrev ziK : FuncId := 118
abbrev zeE : FuncId := 119
abbrev zeq : FuncId := 120
abbrev zbp : FuncId := 121
abbrev zfa : FuncId := 122
abbrev zbj : FuncId := 123
abbrev zbA : FuncId := 124
abbrev zcp : FuncId := 125
abbrev ze6 : FuncId := 126
abbrev zcJ : FuncId := 127
abbrev zcl : FuncId := 128
abbrev za2 : FuncId := 129
abbrev zmk : FuncId := 130
abbrev zjc : FuncId := 131
abbrev zdb : FuncId := 132
abbrev ziN : FuncId := 133
abbrev zeo : FuncId := 134
abbrev zhB : FuncId := 135
abbrev ziS : FuncId := 136
abbrev zb7 : FuncId := 137
abbrev zdQ : FuncId := 138
abbrev ze9 : FuncId := 139
abbrev zfW : FuncId := 140
abbrev zed : FuncId := 141
abbrev zeL : FuncId := 142
abbrev zea : FuncId := 143
abbrev zcW : FuncId := 144
abbrev zeD : FuncId := 145
abbrev zhq : FuncId := 146
abbrev zcf : FuncId := 147
abbrev zhs : FuncId := 148
abbrev zhp : FuncId := 149
abbrev zaR : FuncId := 150
abbrev zeC : FuncId := 151
abbrev zlI : FuncId := 152
abbrev zct : FuncId := 153
abbrev zcS : FuncId := 154
abbrev zdP : FuncId := 155
abbrev zkf : FuncId := 156
abbrev zfO : FuncId := 157
abbrev zhD : FuncId := 158
abbrev zhC : FuncId := 159
abbrev zgr : FuncId := 160
abbrev zbK : FuncId := 161
abbrev zd3 : FuncId := 162
abbrev za3 : FuncId := 163
abbrev zkj : FuncId := 164
abbrev zfi : FuncId := 165
abbrev zgD : FuncId := 166
abbrev zgq : FuncId := 167
abbrev zki : FuncId := 168
abbrev ze7 : FuncId := 169
abbrev zkl : FuncId := 170
abbrev zhr : FuncId := 171
abbrev zgp : FuncId := 172
abbrev ze5 : FuncId := 173
abbrev zfS : FuncId := 174
abbrev ziM : FuncId := 175
abbrev zkm : FuncId := 176
abbrev ziG : FuncId := 177
abbrev zi9 : FuncId := 178
abbrev zcX : FuncId := 179
abbrev za5 : FuncId := 180
abbrev zdl : FuncId := 181
abbrev zdn : FuncId := 182
abbrev zhl : FuncId := 183
abbrev ziR : FuncId := 184
abbrev zbm : FuncId := 185
abbrev zba : FuncId := 186
abbrev zgY : FuncId := 187
abbrev zaU : FuncId := 189
abbrev zdf : FuncId := 190
abbrev ziL : FuncId := 191
abbrev zfR : FuncId := 192
abbrev zgs : FuncId := 193
abbrev zoR : FuncId := 194
abbrev zjb : FuncId := 195
abbrev zgC : FuncId := 196
abbrev zaX : FuncId := 197
abbrev zdO : FuncId := 198
abbrev zhk : FuncId := 199
abbrev zhE : FuncId := 200
abbrev zcm : FuncId := 201
abbrev zdw : FuncId := 202
abbrev zbS : FuncId := 203
abbrev zcY : FuncId := 204
abbrev zmn : FuncId := 205
abbrev ziQ : FuncId := 206
abbrev zfV : FuncId := 207
abbrev zen : FuncId := 208
abbrev zfM : FuncId := 209
abbrev za9 : FuncId := 210
abbrev zef : FuncId := 211
abbrev zbC : FuncId := 212
abbrev zkk : FuncId := 213
abbrev zeO : FuncId := 214
abbrev zer : FuncId := 215
abbrev zmi : FuncId := 216
abbrev zhm : FuncId := 217
abbrev zfN : FuncId := 218
abbrev ze4 : FuncId := 219
abbrev zbX : FuncId := 220
abbrev zkp : FuncId := 221
abbrev zaN : FuncId := 222
abbrev zax : FuncId := 223
abbrev zmm : FuncId := 224
abbrev zcU : FuncId := 225
abbrev zbU : FuncId := 226
abbrev zgn : FuncId := 227
abbrev ziF : FuncId := 228
abbrev zbT : FuncId := 229
abbrev zg0 : FuncId := 230
abbrev zaK : FuncId := 231
abbrev zem : Nat := 0
abbrev zbt : Nat := 1
abbrev zhj : Nat := 2
abbrev zgz : Nat := 3
theorem flat_ok : flatOkB prog = true := rfl
instance : zeB prog := ⟨flat_ok⟩
def zfw (a0 a1 : Value) (h : Heap) (R : Value → Heap → Prop) : Prop :=
 FCall prog zcV #[] h fun v1 h2 =>
 vK (unV .not v1) fun v3 =>
 vK (gV v3 false (some a0)) fun v4 =>
 vK (gV v3 false (zag v4)) fun v5 =>
 vK (gV v3 false (binV .i .gtr v5 (.int .i64 60))) fun v6 =>
 vK (pickV v3 (.bool true) v6) fun v7 =>
 iteK v7 (
 FCall prog zcV #[] h2 fun v8 h9 =>
 R v8 h9) (
 FCall prog zdt #[] h2 fun v10 h11 =>
 FCall prog zee #[(.int .i64 60)] h11 fun v12 h13 =>
 vK (zag a0) fun v14 =>
 loopK [(.int .i64 0)] h13 fun x15 j16 h17 again18 =>
 vK (binV .i .lss (ix x15 0) v14) fun v19 =>
 iteK v19 (
 vK (idxV 1 a0 (ix x15 0)) fun v20 =>
 vK (ldV h17 v20) fun v21 =>
 FCall prog zbr #[v12, v21] h17 fun v22 h23 =>
 vK (binV .i .add (ix x15 0) (.int .i64 1)) fun v24 =>
 again18 [v24] h23) (
 FCall prog zbh #[v12] h17 fun v25 h26 =>
 newK #[(.int .i64 0)] 3 h26 fun v27 h28 =>
 stK 1 v27 (.int .i64 0) h28 fun v29 h30 =>
 vK (zag a0) fun v31 =>
 loopK [(.int .i64 0)] h30 fun x32 j33 h34 again35 =>
 vK (binV .i .lss (ix x32 0) v31) fun v36 =>
 iteK v36 (
 vK (idxV 1 a0 (ix x32 0)) fun v37 =>
 vK (ldV h34 v37) fun v38 =>
 newK #[(.int .i64 0), (.int .i64 0), (.int .i64 0), (.int .i64 0)] 37 h34 fun v39 h40 =>
 joinK (fun J41 =>
 iteK a1 (
 FCall prog zas #[v10, v12, .nilFunc] h40 fun v45 h46 =>
 stK 4 v39 v45 h46 fun v47 h48 =>
 J41 [] h48) (
 FCall prog zas #[v10, v12, (.func (.func zbY) #[] #[v27])] h40 fun v49 h50 =>
 stK 4 v39 v49 h50 fun v51 h52 =>
 J41 [] h52))
 fun x42 j43 h44 =>
 vK (ldsV 4 h44 v39) fun v53 =>
 vK ((fillL #[(.int .i64 0), (.int .i64 0), (.int .i64 0), (.int .i64 0)] [(0, 1, (.int .i64 1)), (1, 1, v38)]).map .agg) fun v54 =>
 vK (binV (.st [(0, 1, .i), (1, 1, .i), (2, 2, (.st [(0, 1, .i), (1, 1, .i)]))]) .neq v53 v54) fun v55 =>
 vK (gV v55 false (some v10)) fun v56 =>
 gK v55 false (fun k68 => FCall prog zaQ #[v56] h44 k68) h44 fun v57 h58 =>
 vK (gV v55 false (binV .i .neq v57 (.int .i64 0))) fun v59 =>
 vK (pickV v55 (.bool true) v59) fun v60 =>
 vK (gV v60 false (some v10)) fun v61 =>
 gK v60 false (fun k67 => FCall prog zaI #[v61] h58 k67) h58 fun v62 h63 =>
 vK (gV v60 false (binV .i .neq v62 (.int .i64 0))) fun v64 =>
 vK (pickV v60 (.bool true) v64) fun v65 =>
 iteK v65 (
 R (.bool false) h63) (
 vK (binV .i .add (ix x32 0) (.int .i64 1)) fun v66 =>
 again35 [v66] h63)) (
 FCall prog zas #[v10, v12, (.func (.func zbY) #[] #[v27])] h34 fun v69 h70 =>
 vK (partV false 1 0 v69) fun v71 =>
 vK (binV .i .eql v71 (.int .i64 3)) fun v72 =>
 vK (gV v72 true (some a1)) fun v73 =>
 vK (gV v72 true (some v73)) fun v74 =>
 vK (gV v74 true (ldV h70 v27)) fun v75 =>
 vK (gV v74 true (binV .i .eql v75 (.int .i64 0))) fun v76 =>
 vK (gV v72 true (pickV v74 v76 (.bool false))) fun v77 =>
 vK (gV v72 true (some v77)) fun v78 =>
 vK (gV v78 false (some a1)) fun v79 =>
 vK (gV v78 false (unV .not v79)) fun v80 =>
 vK (gV v78 false (some v80)) fun v81 =>
 vK (gV v81 true (ldV h70 v27)) fun v82 =>
 vK (gV v81 true (some a0)) fun v83 =>
 vK (gV v81 true (zag v83)) fun v84 =>
 vK (gV v81 true (binV .i .eql v82 v84)) fun v85 =>
 vK (gV v78 false (pickV v81 v85 (.bool false))) fun v86 =>
 vK (gV v72 true (pickV v78 (.bool true) v86)) fun v87 =>
 vK (pickV v72 v87 (.bool false)) fun v88 =>
 vK (gV v88 true (some v10)) fun v89 =>
 gK v88 true (fun k97 => FCall prog zaP #[v89] h70 k97) h70 fun v90 h91 =>
 vK (gV v88 true (zag v90)) fun v92 =>
 vK (gV v88 true (some a0)) fun v93 =>
 vK (gV v88 true (zag v93)) fun v94 =>
 vK (gV v88 true (binV .i .eql v92 v94)) fun v95 =>
 vK (pickV v88 v95 (.bool false)) fun v96 =>
 R v96 h91)))
theorem zj6 (H : zfw a0 a1 h R) : FCall prog zdT #[a0, a1] h R := fk f3 (.s .z (.s (.s .z (.s (.s .z .z) .z)) (.s .z (.s (.s .z (.l 17112760576 [26] (.s .z (.s (.s .z .z) (.s (.s .z .z) .z))))) (.s .z (.s .z (.s .z (.s (.s .z (.l 73786975745082404880 [39] (.s .z (.s (.s .z .z) (.s (.s .z (.s .z (.j 2243003720663040 [] (.s .z (.s .z .z)) (.s .z (.s (.s .z .z) .z))))) .z))))) (.s .z .z))))))))) H
def zd1 (a0 a1 a2 a3 : Value) (h : Heap) (R : Value → Heap → Prop) : Prop :=
 newK (Value.cells a0) 47 h fun v1 h2 =>
 newK (Value.cells a1) 53 h2 fun v3 h4 =>
 FCall prog zcV #[] h4 fun v5 h6 =>
 vK (unV .not v5) fun v7 =>
 iteK v7 (
 R (.bool false) h6) (
 vK (ldsV 5 h6 v1) fun v8 =>
 FCall prog zbx #[v8] h6 fun v9 h10 =>
 newK #[(.pointer none)] 55 h10 fun v11 h12 =>
 stK 1 v11 v9 h12 fun v13 h14 =>
 vK (ldsV 9 h14 v3) fun v15 =>
 rowK #[(.int .i64 0), (.int .i64 0), (.int .i64 0), (.int .i64 0), (.slice none 0 0), (.slice none 0 0), (.int .i64 0), (.int .i64 0), (.int .i64 0)] 53 1 [(0, 9, v15)] h14 fun v16 h17 =>
 vK (ldV h17 v11) fun v18 =>
 FCall prog zdc #[v16, v18] h17 fun v19 h20 =>
 vK (extV v19 0) fun v21 =>
 vK (extV v19 1) fun v22 =>
 vK (extV v19 2) fun v23 =>
 newK #[(.slice none 0 0)] 57 h20 fun v24 h25 =>
 stK 1 v24 v21 h25 fun v26 h27 =>
 vK (unV .not v23) fun v28 =>
 iteK v28 (
 vK (ldV h27 v11) fun v29 =>
 vK (binV .p .neq v29 (.pointer none)) fun v30 =>
 R v30 h27) (
 joinK (fun J31 =>
 drawK h27 fun S =>
 qK S (fun h27 => ldV h27 v24) fun v35 =>
 vK (idxV 3 v35 (.int .i64 0)) fun v36 =>
 vK (fldV 0 v36) fun v37 =>
 qK S (fun h27 => ldV h27 v37) fun v38 =>
 qK S (fun h27 => ldV h27 v24) fun v39 =>
 vK (idxV 3 v39 (.int .i64 0)) fun v40 =>
 vK (fldV 1 v40) fun v41 =>
 qK S (fun h27 => ldV h27 v41) fun v42 =>
 qK S (fun h27 => ldV h27 v11) fun v43 =>
 qK S (fun h27 => ldV h27 v11) fun v44 =>
 (FCall prog zaj #[v38] h27 fun v45 h46 =>
 S h46 ∧ ((FCall prog zaj #[v42] h46 fun v47 h48 =>
 S h48 ∧ ((FCall prog zae #[v43] h48 fun v49 h50 =>
 S h50 ∧ ((FCall prog zal #[v44] h50 fun v51 h52 =>
 S h52 ∧ ((FCall prog zat #[v45, v47, v49, v51] h52 fun v53 h54 =>
 S h54 ∧ (vK (extV v53 0) fun v55 =>
 vK (extV v53 1) fun v56 =>
 newK #[(.pointer none)] 55 h54 fun v57 h58 =>
 S h58 ∧ (stK 1 v57 v55 h58 fun v59 h60 =>
 S h60 ∧ (J31 [v57, v56] h60)))) ∧ (newK #[(.pointer none)] 55 h52 fun v61 h62 =>
 S h62 ∧ (FCall prog zat #[v45, v47, v49, v51] h62 fun v63 h64 =>
 S h64 ∧ (vK (extV v63 0) fun v65 =>
 vK (extV v63 1) fun v66 =>
 stK 1 v61 v65 h64 fun v67 h68 =>
 S h68 ∧ (J31 [v61, v66] h68)))))) ∧ (newK #[(.pointer none)] 55 h50 fun v69 h70 =>
 S h70 ∧ (FCall prog zal #[v44] h70 fun v71 h72 =>
 S h72 ∧ (FCall prog zat #[v45, v47, v49, v71] h72 fun v73 h74 =>
 S h74 ∧ (vK (extV v73 0) fun v75 =>
 vK (extV v73 1) fun v76 =>
 stK 1 v69 v75 h74 fun v77 h78 =>
 S h78 ∧ (J31 [v69, v76] h78))))))) ∧ (newK #[(.pointer none)] 55 h48 fun v79 h80 =>
 S h80 ∧ (FCall prog zae #[v43] h80 fun v81 h82 =>
 S h82 ∧ (FCall prog zal #[v44] h82 fun v83 h84 =>
 S h84 ∧ (FCall prog zat #[v45, v47, v81, v83] h84 fun v85 h86 =>
 S h86 ∧ (vK (extV v85 0) fun v87 =>
 vK (extV v85 1) fun v88 =>
 stK 1 v79 v87 h86 fun v89 h90 =>
 S h90 ∧ (J31 [v79, v88] h90)))))))) ∧ (newK #[(.pointer none)] 55 h46 fun v91 h92 =>
 S h92 ∧ (FCall prog zaj #[v42] h92 fun v93 h94 =>
 S h94 ∧ (FCall prog zae #[v43] h94 fun v95 h96 =>
 S h96 ∧ (FCall prog zal #[v44] h96 fun v97 h98 =>
 S h98 ∧ (FCall prog zat #[v45, v93, v95, v97] h98 fun v99 h100 =>
 S h100 ∧ (vK (extV v99 0) fun v101 =>
 vK (extV v99 1) fun v102 =>
 stK 1 v91 v101 h100 fun v103 h104 =>
 S h104 ∧ (J31 [v91, v102] h104))))))))) ∧ (newK #[(.pointer none)] 55 h27 fun v105 h106 =>
 S h106 ∧ (FCall prog zaj #[v38] h106 fun v107 h108 =>
 S h108 ∧ (FCall prog zaj #[v42] h108 fun v109 h110 =>
 S h110 ∧ (FCall prog zae #[v43] h110 fun v111 h112 =>
 S h112 ∧ (FCall prog zal #[v44] h112 fun v113 h114 =>
 S h114 ∧ (FCall prog zat #[v107, v109, v111, v113] h114 fun v115 h116 =>
 S h116 ∧ (vK (extV v115 0) fun v117 =>
 vK (extV v115 1) fun v118 =>
 stK 1 v105 v117 h116 fun v119 h120 =>
 S h120 ∧ (J31 [v105, v118] h120)))))))))
 fun x32 j33 h34 =>
 vK (ldV h34 v24) fun v121 =>
 vK (idxV 3 v121 (.int .i64 0)) fun v122 =>
 vK (ldsV 3 h34 v122) fun v123 =>
 vK (binV .i .rem a2 (.int .u8 13)) fun v124 =>
 vK (cviV .i64 v124) fun v125 =>
 vK (binV .i .add (.int .i64 1) v125) fun v126 =>
 vK (binV .i .rem a3 (.int .u8 13)) fun v127 =>
 vK (cviV .i64 v127) fun v128 =>
 vK (binV .i .add (.int .i64 1) v128) fun v129 =>
 FCall prog zfj #[v123, v126, v129] h34 fun v130 h131 =>
 vK (extV v130 0) fun v132 =>
 vK (extV v130 1) fun v133 =>
 newK #[(.pointer none)] 68 h131 fun v134 h135 =>
 stK 1 v134 v132 h135 fun v136 h137 =>
 vK (binV .i .neq (ix x32 1) (.int .i64 0)) fun v138 =>
 vK (gV v138 false (some v133)) fun v139 =>
 vK (gV v138 false (binV .i .neq v139 (.int .i64 0))) fun v140 =>
 vK (pickV v138 (.bool true) v140) fun v141 =>
 vK (gV v141 false (ldV h137 (ix x32 0))) fun v142 =>
 vK (gV v141 false (binV .p .eql v142 (.pointer none))) fun v143 =>
 vK (pickV v141 (.bool true) v143) fun v144 =>
 vK (gV v144 false (ldV h137 v134)) fun v145 =>
 vK (gV v144 false (binV .p .eql v145 (.pointer none))) fun v146 =>
 vK (pickV v144 (.bool true) v146) fun v147 =>
 iteK v147 (
 R (.bool false) h137) (
 FCall prog zdt #[] h137 fun v148 h149 =>
 FCall prog zee #[(.int .i64 4096)] h149 fun v150 h151 =>
 FCall prog zaI #[v148] h151 fun v152 h153 =>
 vK (binV .i .neq v152 (.int .i64 0)) fun v154 =>
 iteK v154 (
 R (.bool false) h153) (
 vK (ldV h153 v134) fun v155 =>
 FCall prog zaT #[v155] h153 fun v156 h157 =>
 loopK [(.int .i64 0)] h157 fun x158 j159 h160 again161 =>
 vK (binV .i .lss (ix x158 0) v156) fun v162 =>
 iteK v162 (
 FCall prog zbr #[v150, (ix x158 0)] h160 fun v163 h164 =>
 vK (binV .i .add (ix x158 0) (.int .i64 1)) fun v165 =>
 again161 [v165] h164) (
 FCall prog zbh #[v150] h160 fun v166 h167 =>
 newK #[(.int .i64 0)] 3 h167 fun v168 h169 =>
 stK 1 v168 (.int .i64 0) h169 fun v170 h171 =>
 joinK (fun J172 =>
 loopK [(.int .i64 0)] h171 fun x176 j177 h178 again179 =>
 vK (binV .i .lss (ix x176 0) (.int .i64 100000)) fun v180 =>
 iteK v180 (
 FCall prog zas #[v148, v150, (.func (.func za4) #[] #[v134, v11, (ix x32 0), v24, v168])] h178 fun v181 h182 =>
 newK #[(.int .i64 0), (.int .i64 0), (.int .i64 0), (.int .i64 0)] 37 h182 fun v183 h184 =>
 stK 4 v183 v181 h184 fun v185 h186 =>
 vK (fldV 0 v183) fun v187 =>
 vK (ldV h186 v187) fun v188 =>
 vK (binV .i .eql v188 (.int .i64 3)) fun v189 =>
 iteK v189 (
 J172 [] h186) (
 drawK h186 fun S =>
 qK S (fun h186 => ldV h186 v168) fun v190 =>
 FCall prog zaI #[v148] h186 fun v191 h192 =>
 S h192 ∧ (vK (binV .i .neq v191 v190) fun v193 =>
 qK S (fun h192 => gV v193 false (ldV h192 v168)) fun v194 =>
 qK S (fun h192 => gV v193 false (ldV h192 v134)) fun v195 =>
 qK S (fun h192 => gV v193 false (ldV h192 v11)) fun v196 =>
 gK v193 false (fun k205 => FCall prog zae #[v196] h192 k205) h192 fun v197 h198 =>
 S h198 ∧ (gK v193 false (fun k204 => FCall prog zcq #[v195, v197] h198 k204) h198 fun v199 h200 =>
 S h200 ∧ (vK (gV v193 false (binV .i .gtr v194 v199)) fun v201 =>
 vK (pickV v193 (.bool true) v201) fun v202 =>
 iteK v202 (
 R (.bool false) h200) (
 vK (binV .i .add (ix x176 0) (.int .i64 1)) fun v203 =>
 again179 [v203] h200)))))) (
 J172 [] h178))
 fun x173 j174 h175 =>
 drawK h175 fun S =>
 FCall prog zaQ #[v148] h175 fun v206 h207 =>
 drawK h207 fun S =>
 vK (binV .i .eql v206 (.int .i64 2)) fun v208 =>
 vK (gV v208 true (some v148)) fun v209 =>
 qK S (fun h207 => gV v208 true (ldV h207 v134)) fun v210 =>
 gK v208 true (fun k222 => FCall prog zaP #[v209] h207 k222) h207 fun v211 h212 =>
 S h212 ∧ (qK S (fun h212 => gV v208 true (zag v211)) fun v213 =>
 gK v208 true (fun k221 => FCall prog zaT #[v210] h212 k221) h212 fun v214 h215 =>
 S h215 ∧ (vK (gV v208 true (binV .i .eql v213 v214)) fun v216 =>
 vK (pickV v208 v216 (.bool false)) fun v217 =>
 qK S (fun h215 => gV v217 true (ldV h215 v168)) fun v218 =>
 vK (gV v217 true (binV .i .gtr v218 (.int .i64 0))) fun v219 =>
 vK (pickV v217 v219 (.bool false)) fun v220 =>
 R v220 h215)))))))
theorem zh1 (H : zd1 a0 a1 a2 a3 h R) : FCall prog zcM #[a0, a1, a2, a3] h R := fk f5 (.s .z (.s (.s .z (.s (.s .z .z) .z)) (.s .z (.s .z (.s (.s .z (.s (.s .z .z) .z)) (.j 72057319160045568 [13, 14] (.d (.op 0 .r (.op 1 .r (.op 2 .r (.op 3 .r (.op 5 .r (.op 6 .r (.op 7 .r (.op 8 .r (.op 10 .r (.op 12 .r (.alt (.op 4 .e (.alt (.op 9 .e (.alt (.op 11 .e (.alt (.op 13 .e (.alt (.op 14 .e (.op 15 .r (.op 16 .r (.op 17 .r (.op 18 .e (.op 19 .e (.op 20 .r .nil))))))) (.op 18 .e (.op 14 .e (.op 15 .r (.op 16 .r (.op 17 .r (.op 19 .e (.op 20 .r .nil))))))))) (.op 18 .e (.op 13 .e (.op 14 .e (.op 15 .r (.op 16 .r (.op 17 .r (.op 19 .e (.op 20 .r .nil)))))))))) (.op 18 .e (.op 11 .e (.op 13 .e (.op 14 .e (.op 15 .r (.op 16 .r (.op 17 .r (.op 19 .e (.op 20 .r .nil))))))))))) (.op 18 .e (.op 9 .e (.op 11 .e (.op 13 .e (.op 14 .e (.op 15 .r (.op 16 .r (.op 17 .r (.op 19 .e (.op 20 .r .nil)))))))))))) (.op 18 .e (.op 4 .e (.op 9 .e (.op 11 .e (.op 13 .e (.op 14 .e (.op 15 .r (.op 16 .r (.op 17 .r (.op 19 .e (.op 20 .r .nil))))))))))))))))))))))) (.s .z (.s (.s .z (.s (.s .z .z) .z)) (.s .z (.s (.s .z (.s (.s .z .z) .z)) (.s (.s .z (.l 628873539956973179648755630080 [92] (.s .z (.s (.s .z .z) (.s (.s .z .z) .z))))) (.s .z (.s .z (.s (.s .z (.m 10633821430978126526771653488838443264 [] (.l 10633821430978126526771653488838443264 [101] (.s .z (.s (.s .z .z) (.s (.s .z (.s (.s .z (.s .z .z)) (.s (.d (.op 0 .r (.op 2 .r (.op 1 .e (.op 3 .r (.op 4 .r (.op 5 .r (.op 6 .r (.op 7 .r (.op 8 .e (.op 9 .e (.op 10 .r (.op 11 .r .nil))))))))))))) (.s (.s .z .z) .z)))) .z)))))) (.s (.d (.op 0 .r (.op 1 .f (.op 2 .r (.op 3 .r (.op 4 .r (.op 7 .r (.op 5 .e (.op 6 .r (.op 8 .e (.op 9 .r (.op 10 .r (.op 11 .r (.op 12 .r (.op 13 .r (.op 14 .r (.op 15 .r .nil))))))))))))))))) .z))))))))))))))) H
def zeX (a0 a1 a2 a3 : Value) (h : Heap) (R : Value → Heap → Prop) : Prop :=
 newK (Value.cells a0) 47 h fun v1 h2 =>
 newK (Value.cells a1) 53 h2 fun v3 h4 =>
 FCall prog zcV #[] h4 fun v5 h6 =>
 vK (unV .not v5) fun v7 =>
 iteK v7 (
 R (.bool false) h6) (
 vK (ldsV 5 h6 v1) fun v8 =>
 FCall prog zbx #[v8] h6 fun v9 h10 =>
 newK #[(.pointer none)] 55 h10 fun v11 h12 =>
 stK 1 v11 v9 h12 fun v13 h14 =>
 vK (ldsV 9 h14 v3) fun v15 =>
 rowK #[(.int .i64 0), (.int .i64 0), (.int .i64 0), (.int .i64 0), (.slice none 0 0), (.slice none 0 0), (.int .i64 0), (.int .i64 0), (.int .i64 0)] 53 1 [(0, 9, v15)] h14 fun v16 h17 =>
 vK (ldV h17 v11) fun v18 =>
 FCall prog zdc #[v16, v18] h17 fun v19 h20 =>
 vK (extV v19 0) fun v21 =>
 vK (extV v19 1) fun v22 =>
 vK (extV v19 2) fun v23 =>
 newK #[(.slice none 0 0)] 57 h20 fun v24 h25 =>
 stK 1 v24 v21 h25 fun v26 h27 =>
 vK (unV .not v23) fun v28 =>
 iteK v28 (
 vK (ldV h27 v11) fun v29 =>
 vK (binV .p .neq v29 (.pointer none)) fun v30 =>
 R v30 h27) (
 joinK (fun J31 =>
 drawK h27 fun S =>
 qK S (fun h27 => ldV h27 v24) fun v35 =>
 vK (idxV 3 v35 (.int .i64 0)) fun v36 =>
 vK (fldV 0 v36) fun v37 =>
 qK S (fun h27 => ldV h27 v37) fun v38 =>
 qK S (fun h27 => ldV h27 v24) fun v39 =>
 vK (idxV 3 v39 (.int .i64 0)) fun v40 =>
 vK (fldV 1 v40) fun v41 =>
 qK S (fun h27 => ldV h27 v41) fun v42 =>
 qK S (fun h27 => ldV h27 v11) fun v43 =>
 qK S (fun h27 => ldV h27 v11) fun v44 =>
 (FCall prog zaj #[v38] h27 fun v45 h46 =>
 S h46 ∧ ((FCall prog zaj #[v42] h46 fun v47 h48 =>
 S h48 ∧ ((FCall prog zae #[v43] h48 fun v49 h50 =>
 S h50 ∧ ((FCall prog zal #[v44] h50 fun v51 h52 =>
 S h52 ∧ ((FCall prog zat #[v45, v47, v49, v51] h52 fun v53 h54 =>
 S h54 ∧ (vK (extV v53 0) fun v55 =>
 vK (extV v53 1) fun v56 =>
 newK #[(.pointer none)] 55 h54 fun v57 h58 =>
 S h58 ∧ (stK 1 v57 v55 h58 fun v59 h60 =>
 S h60 ∧ (J31 [v57, v56] h60)))) ∧ (newK #[(.pointer none)] 55 h52 fun v61 h62 =>
 S h62 ∧ (FCall prog zat #[v45, v47, v49, v51] h62 fun v63 h64 =>
 S h64 ∧ (vK (extV v63 0) fun v65 =>
 vK (extV v63 1) fun v66 =>
 stK 1 v61 v65 h64 fun v67 h68 =>
 S h68 ∧ (J31 [v61, v66] h68)))))) ∧ (newK #[(.pointer none)] 55 h50 fun v69 h70 =>
 S h70 ∧ (FCall prog zal #[v44] h70 fun v71 h72 =>
 S h72 ∧ (FCall prog zat #[v45, v47, v49, v71] h72 fun v73 h74 =>
 S h74 ∧ (vK (extV v73 0) fun v75 =>
 vK (extV v73 1) fun v76 =>
 stK 1 v69 v75 h74 fun v77 h78 =>
 S h78 ∧ (J31 [v69, v76] h78))))))) ∧ (newK #[(.pointer none)] 55 h48 fun v79 h80 =>
 S h80 ∧ (FCall prog zae #[v43] h80 fun v81 h82 =>
 S h82 ∧ (FCall prog zal #[v44] h82 fun v83 h84 =>
 S h84 ∧ (FCall prog zat #[v45, v47, v81, v83] h84 fun v85 h86 =>
 S h86 ∧ (vK (extV v85 0) fun v87 =>
 vK (extV v85 1) fun v88 =>
 stK 1 v79 v87 h86 fun v89 h90 =>
 S h90 ∧ (J31 [v79, v88] h90)))))))) ∧ (newK #[(.pointer none)] 55 h46 fun v91 h92 =>
 S h92 ∧ (FCall prog zaj #[v42] h92 fun v93 h94 =>
 S h94 ∧ (FCall prog zae #[v43] h94 fun v95 h96 =>
 S h96 ∧ (FCall prog zal #[v44] h96 fun v97 h98 =>
 S h98 ∧ (FCall prog zat #[v45, v93, v95, v97] h98 fun v99 h100 =>
 S h100 ∧ (vK (extV v99 0) fun v101 =>
 vK (extV v99 1) fun v102 =>
 stK 1 v91 v101 h100 fun v103 h104 =>
 S h104 ∧ (J31 [v91, v102] h104))))))))) ∧ (newK #[(.pointer none)] 55 h27 fun v105 h106 =>
 S h106 ∧ (FCall prog zaj #[v38] h106 fun v107 h108 =>
 S h108 ∧ (FCall prog zaj #[v42] h108 fun v109 h110 =>
 S h110 ∧ (FCall prog zae #[v43] h110 fun v111 h112 =>
 S h112 ∧ (FCall prog zal #[v44] h112 fun v113 h114 =>
 S h114 ∧ (FCall prog zat #[v107, v109, v111, v113] h114 fun v115 h116 =>
 S h116 ∧ (vK (extV v115 0) fun v117 =>
 vK (extV v115 1) fun v118 =>
 stK 1 v105 v117 h116 fun v119 h120 =>
 S h120 ∧ (J31 [v105, v118] h120)))))))))
 fun x32 j33 h34 =>
 vK (ldV h34 v24) fun v121 =>
 vK (idxV 3 v121 (.int .i64 0)) fun v122 =>
 vK (ldsV 3 h34 v122) fun v123 =>
 vK (binV .i .rem a2 (.int .u8 13)) fun v124 =>
 vK (cviV .i64 v124) fun v125 =>
 vK (binV .i .add (.int .i64 1) v125) fun v126 =>
 vK (binV .i .rem a3 (.int .u8 13)) fun v127 =>
 vK (cviV .i64 v127) fun v128 =>
 vK (binV .i .add (.int .i64 1) v128) fun v129 =>
 FCall prog zfj #[v123, v126, v129] h34 fun v130 h131 =>
 vK (extV v130 0) fun v132 =>
 vK (extV v130 1) fun v133 =>
 newK #[(.pointer none)] 68 h131 fun v134 h135 =>
 stK 1 v134 v132 h135 fun v136 h137 =>
 vK (binV .i .neq (ix x32 1) (.int .i64 0)) fun v138 =>
 vK (gV v138 false (some v133)) fun v139 =>
 vK (gV v138 false (binV .i .neq v139 (.int .i64 0))) fun v140 =>
 vK (pickV v138 (.bool true) v140) fun v141 =>
 vK (gV v141 false (ldV h137 (ix x32 0))) fun v142 =>
 vK (gV v141 false (binV .p .eql v142 (.pointer none))) fun v143 =>
 vK (pickV v141 (.bool true) v143) fun v144 =>
 vK (gV v144 false (ldV h137 v134)) fun v145 =>
 vK (gV v144 false (binV .p .eql v145 (.pointer none))) fun v146 =>
 vK (pickV v144 (.bool true) v146) fun v147 =>
 iteK v147 (
 R (.bool false) h137) (
 FCall prog zdt #[] h137 fun v148 h149 =>
 FCall prog zee #[(.int .i64 4096)] h149 fun v150 h151 =>
 vK (ldV h151 v134) fun v152 =>
 FCall prog zaT #[v152] h151 fun v153 h154 =>
 loopK [(.int .i64 0)] h154 fun x155 j156 h157 again158 =>
 vK (binV .i .lss (ix x155 0) v153) fun v159 =>
 iteK v159 (
 FCall prog zbr #[v150, (ix x155 0)] h157 fun v160 h161 =>
 vK (binV .i .add (ix x155 0) (.int .i64 1)) fun v162 =>
 again158 [v162] h161) (
 FCall prog zbh #[v150] h157 fun v163 h164 =>
 joinK (fun J165 =>
 loopK [(.int .i64 0), (.int .i64 0)] h164 fun x169 j170 h171 again172 =>
 vK (binV .i .lss (ix x169 1) (.int .i64 100000)) fun v173 =>
 iteK v173 (
 FCall prog zas #[v148, v150, (.func (.func zbf) #[] #[v134, v11, (ix x32 0), v24])] h171 fun v174 h175 =>
 newK #[(.int .i64 0), (.int .i64 0), (.int .i64 0), (.int .i64 0)] 37 h175 fun v176 h177 =>
 stK 4 v176 v174 h177 fun v178 h179 =>
 vK (fldV 0 v176) fun v180 =>
 vK (ldV h179 v180) fun v181 =>
 vK (binV .i .eql v181 (.int .i64 3)) fun v182 =>
 iteK v182 (
 J165 [(ix x169 0)] h179) (
 vK (fldV 0 v176) fun v183 =>
 vK (ldV h179 v183) fun v184 =>
 vK (binV .i .eql v184 (.int .i64 2)) fun v185 =>
 iteK v185 (
 vK (binV .i .add (ix x169 0) (.int .i64 1)) fun v186 =>
 vK (binV .i .add (ix x169 1) (.int .i64 1)) fun v187 =>
 again172 [v186, v187] h179) (
 vK (binV .i .add (ix x169 1) (.int .i64 1)) fun v188 =>
 again172 [(ix x169 0), v188] h179))) (
 J165 [(ix x169 0)] h171))
 fun x166 j167 h168 =>
 FCall prog zaP #[v148] h168 fun v189 h190 =>
 vK (zag v189) fun v191 =>
 loopK [(.int .i64 0)] h190 fun x192 j193 h194 again195 =>
 vK (binV .i .lss (ix x192 0) v191) fun v196 =>
 iteK v196 (
 vK (idxV 1 v189 (ix x192 0)) fun v197 =>
 vK (ldV h194 v197) fun v198 =>
 vK (binV .i .neq v198 (ix x192 0)) fun v199 =>
 iteK v199 (
 R (.bool false) h194) (
 vK (binV .i .add (ix x192 0) (.int .i64 1)) fun v200 =>
 again195 [v200] h194)) (
 vK (ldV h194 v134) fun v201 =>
 FCall prog zfT #[v201] h194 fun v202 h203 =>
 vK (zag v202) fun v204 =>
 loopK [(.int .i64 0), (.int .i64 0)] h203 fun x205 j206 h207 again208 =>
 vK (binV .i .lss (ix x205 1) v204) fun v209 =>
 iteK v209 (
 vK (idxV 10 v202 (ix x205 1)) fun v210 =>
 vK (ldsV 10 h207 v210) fun v211 =>
 newK #[(.int .i64 0), (.int .i64 0), (.int .i64 0), (.int .i64 0), (.int .i64 0), (.int .i64 0), (.int .i64 0), (.int .i64 0), (.int .i64 0), (.int .i64 0)] 84 h207 fun v212 h213 =>
 stK 10 v212 v211 h213 fun v214 h215 =>
 drawK h215 fun S =>
 qK S (fun h215 => ldV h215 v24) fun v216 =>
 vK (idxV 3 v216 (.int .i64 0)) fun v217 =>
 qK S (fun h215 => ldsV 3 h215 v217) fun v218 =>
 qK S (fun h215 => ldsV 10 h215 v212) fun v219 =>
 FCall prog zgB #[v218, v219] h215 fun v220 h221 =>
 vK (binV .i .add (ix x205 0) v220) fun v222 =>
 vK (binV .i .add (ix x205 1) (.int .i64 1)) fun v223 =>
 again208 [v222, v223] h221) (
 drawK h207 fun S =>
 FCall prog zaQ #[v148] h207 fun v224 h225 =>
 drawK h225 fun S =>
 vK (binV .i .eql v224 (.int .i64 2)) fun v226 =>
 vK (gV v226 true (some v148)) fun v227 =>
 qK S (fun h225 => gV v226 true (ldV h225 v134)) fun v228 =>
 gK v226 true (fun k259 => FCall prog zaP #[v227] h225 k259) h225 fun v229 h230 =>
 S h230 ∧ (qK S (fun h230 => gV v226 true (zag v229)) fun v231 =>
 gK v226 true (fun k258 => FCall prog zaT #[v228] h230 k258) h230 fun v232 h233 =>
 S h233 ∧ (vK (gV v226 true (binV .i .eql v231 v232)) fun v234 =>
 vK (pickV v226 v234 (.bool false)) fun v235 =>
 vK (gV v235 true (some (ix x166 0))) fun v236 =>
 vK (gV v235 true (some (ix x205 0))) fun v237 =>
 vK (gV v235 true (binV .i .eql v236 v237)) fun v238 =>
 vK (pickV v235 v238 (.bool false)) fun v239 =>
 qK S (fun h233 => gV v239 true (ldV h233 (ix x32 0))) fun v240 =>
 qK S (fun h233 => gV v239 true (ldV h233 v11)) fun v241 =>
 vK (gV v239 true (some v22)) fun v242 =>
 vK (gV v239 true (idxV 5 v242 (.int .i64 0))) fun v243 =>
 qK S (fun h233 => gV v239 true (ldsV 5 h233 v243)) fun v244 =>
 gK v239 true (fun k257 => FCall prog zhy #[v240] h233 k257) h233 fun v245 h246 =>
 S h246 ∧ (gK v239 true (fun k256 => FCall prog zhy #[v241] h246 k256) h246 fun v247 h248 =>
 S h248 ∧ (gK v239 true (fun k255 => FCall prog zho #[v247, v244] h248 k255) h248 fun v249 h250 =>
 gK v239 true (fun k254 => FCall prog zhA #[v245, v249] h250 k254) h250 fun v251 h252 =>
 vK (pickV v239 v251 (.bool false)) fun v253 =>
 R v253 h252))))))))))
theorem zjl (H : zeX a0 a1 a2 a3 h R) : FCall prog zdm #[a0, a1, a2, a3] h R := fk f6 (.s .z (.s (.s .z (.s (.s .z .z) .z)) (.s .z (.s .z (.s (.s .z (.s (.s .z .z) .z)) (.j 2305834213120696320 [13, 14] (.d (.op 0 .r (.op 1 .r (.op 2 .r (.op 3 .r (.op 5 .r (.op 6 .r (.op 7 .r (.op 8 .r (.op 10 .r (.op 12 .r (.alt (.op 4 .e (.alt (.op 9 .e (.alt (.op 11 .e (.alt (.op 13 .e (.alt (.op 14 .e (.op 15 .r (.op 16 .r (.op 17 .r (.op 18 .e (.op 19 .e (.op 20 .r .nil))))))) (.op 18 .e (.op 14 .e (.op 15 .r (.op 16 .r (.op 17 .r (.op 19 .e (.op 20 .r .nil))))))))) (.op 18 .e (.op 13 .e (.op 14 .e (.op 15 .r (.op 16 .r (.op 17 .r (.op 19 .e (.op 20 .r .nil)))))))))) (.op 18 .e (.op 11 .e (.op 13 .e (.op 14 .e (.op 15 .r (.op 16 .r (.op 17 .r (.op 19 .e (.op 20 .r .nil))))))))))) (.op 18 .e (.op 9 .e (.op 11 .e (.op 13 .e (.op 14 .e (.op 15 .r (.op 16 .r (.op 17 .r (.op 19 .e (.op 20 .r .nil)))))))))))) (.op 18 .e (.op 4 .e (.op 9 .e (.op 11 .e (.op 13 .e (.op 14 .e (.op 15 .r (.op 16 .r (.op 17 .r (.op 19 .e (.op 20 .r .nil))))))))))))))))))))))) (.s .z (.s (.s .z (.s (.s .z .z) .z)) (.s .z (.s (.s .z (.l 2515494159827892718595020947456 [94] (.s .z (.s (.s .z .z) (.s (.s .z .z) .z))))) (.s .z (.s .z (.s (.s .z (.m 332296857741427142390739791447588864 [20] (.l 332296857741427142390739791447588864 [20, 103] (.s .z (.s (.s .z .z) (.s (.s .z (.s (.s .z (.s .z .z)) (.s .z (.s .z .z)))) .z)))))) (.s (.s .z (.l 1358471011692184022107690815606524739840 [121] (.s .z (.s (.s .z .z) (.s (.s .z (.s .z (.s (.s .z .z) .z))) .z))))) (.s .z (.s (.s .z (.l 44590601361319776252240608557858906513080320 [24, 133] (.s .z (.s (.s .z .z) (.s (.s .z (.d (.op 0 .r (.op 1 .r (.op 2 .r (.op 3 .r (.op 4 .r (.op 5 .n (.op 6 .r (.op 7 .r .nil)))))))))) .z))))) (.s (.d (.op 0 .r (.op 1 .f (.op 2 .r (.op 3 .r (.op 4 .r (.op 7 .r (.op 5 .e (.op 6 .r (.op 8 .e (.op 9 .r (.op 10 .r (.op 11 .r (.op 12 .r (.op 13 .r (.op 14 .r (.op 15 .r (.op 16 .r (.op 17 .r (.op 19 .r (.op 21 .r (.op 22 .r (.op 23 .r (.op 18 .e (.op 20 .e (.op 24 .n (.op 25 .n (.op 26 .r (.op 27 .r .nil))))))))))))))))))))))))))))) .z))))))))))))))))) H
def zjC (h : Heap) (R : Value → Heap → Prop) : Prop :=
 FCall prog zdt #[] h fun v1 h2 =>
 FCall prog zee #[(.int .i64 1)] h2 fun v3 h4 =>
 FCall prog zhv #[] h4 fun v5 h6 =>
 vK (unV .not v5) fun v7 =>
 vK (gV v7 false (some v1)) fun v8 =>
 vK (gV v7 false (binV .p .eql v8 (.pointer none))) fun v9 =>
 vK (pickV v7 (.bool true) v9) fun v10 =>
 vK (gV v10 false (some v3)) fun v11 =>
 vK (gV v10 false (binV .p .eql v11 (.pointer none))) fun v12 =>
 vK (pickV v10 (.bool true) v12) fun v13 =>
 vK (gV v13 false (some v1)) fun v14 =>
 vK (gV v13 false (some v3)) fun v15 =>
 gK v13 false (fun k53 => FCall prog zas #[v14, v15, .nilFunc] h6 k53) h6 fun v16 h17 =>
 vK (gV v13 false ((fillL #[(.int .i64 0), (.int .i64 0), (.int .i64 0), (.int .i64 0)] []).map .agg)) fun v18 =>
 vK (gV v13 false (binV (.st [(0, 1, .i), (1, 1, .i), (2, 2, (.st [(0, 1, .i), (1, 1, .i)]))]) .neq v16 v18)) fun v19 =>
 vK (pickV v13 (.bool true) v19) fun v20 =>
 vK (gV v20 false (some v1)) fun v21 =>
 vK (gV v20 false (some v3)) fun v22 =>
 gK v20 false (fun k52 => FCall prog zbo #[v21, v22] h17 k52) h17 fun v23 h24 =>
 vK (pickV v20 (.bool true) v23) fun v25 =>
 iteK v25 (
 R (.bool false) h24) (
 FCall prog zbh #[v3] h24 fun v26 h27 =>
 FCall prog zbo #[v1, v3] h27 fun v28 h29 =>
 vK (gV v28 true (some v1)) fun v30 =>
 vK (gV v28 true (some v3)) fun v31 =>
 gK v28 true (fun k51 => FCall prog zas #[v30, v31, .nilFunc] h29 k51) h29 fun v32 h33 =>
 vK (gV v28 true ((fillL #[(.int .i64 0), (.int .i64 0), (.int .i64 0), (.int .i64 0)] [(0, 1, (.int .i64 3))]).map .agg)) fun v34 =>
 vK (gV v28 true (binV (.st [(0, 1, .i), (1, 1, .i), (2, 2, (.st [(0, 1, .i), (1, 1, .i)]))]) .eql v32 v34)) fun v35 =>
 vK (pickV v28 v35 (.bool false)) fun v36 =>
 vK (gV v36 true (some v1)) fun v37 =>
 vK (gV v36 true (some v3)) fun v38 =>
 gK v36 true (fun k50 => FCall prog zas #[v37, v38, .nilFunc] h33 k50) h33 fun v39 h40 =>
 vK (gV v36 true ((fillL #[(.int .i64 0), (.int .i64 0), (.int .i64 0), (.int .i64 0)] []).map .agg)) fun v41 =>
 vK (gV v36 true (binV (.st [(0, 1, .i), (1, 1, .i), (2, 2, (.st [(0, 1, .i), (1, 1, .i)]))]) .eql v39 v41)) fun v42 =>
 vK (pickV v36 v42 (.bool false)) fun v43 =>
 vK (gV v43 true (some v1)) fun v44 =>
 gK v43 true (fun k49 => FCall prog zaQ #[v44] h40 k49) h40 fun v45 h46 =>
 vK (gV v43 true (binV .i .eql v45 (.int .i64 2))) fun v47 =>
 vK (pickV v43 v47 (.bool false)) fun v48 =>
 R v48 h46)
theorem zo9 (H : zjC h R) : FCall prog zcV #[] h R := fk f7 (.s .z (.s .z (.s (.s .z (.s (.s .z .z) .z)) (.s .z (.s .z .z))))) H
def zkx (h : Heap) (R : Value → Heap → Prop) : Prop :=
 vK ((fillL #[(.int .i64 0), (.slice none 0 0), (.pointer none), (.int .i64 0)] []).map .agg) fun v1 =>
 newK (Value.cells v1) 117 h fun v2 h3 =>
 R v2 h3
theorem zqy (H : zkx h R) : FCall prog zdt #[] h R := fk f8 (.s .z (.s .z .z)) H
def zmG (a0 : Value) (h : Heap) (R : Value → Heap → Prop) : Prop :=
 vK (maxV (.int .i64 1) a0) fun v1 =>
 vK (minV v1 (.int .i64 4096)) fun v2 =>
 vK ((fillL #[(.int .i64 0), (.slice none 0 0), (.bool false)] [(0, 1, v2)]).map .agg) fun v3 =>
 newK (Value.cells v3) 119 h fun v4 h5 =>
 R v4 h5
theorem ok_queue_New (H : zmG a0 h R) : FCall prog zee #[a0] h R := fk f9 (.s .z (.s .z .z)) H
def zfv (a0 a1 : Value) (h : Heap) (R : Value → Heap → Prop) : Prop :=
 vK (nilV a0) fun v1 =>
 vK (fldV 2 v1) fun v2 =>
 vK (ldV h v2) fun v3 =>
 iteK v3 (
 R (.int .i64 2) h) (
 FCall prog zcL #[a0] h fun v4 h5 =>
 vK (unV .not v4) fun v6 =>
 iteK v6 (
 R (.int .i64 1) h5) (
 vK (nilV a0) fun v7 =>
 vK (fldV 1 v7) fun v8 =>
 vK (ldV h5 v8) fun v9 =>
 rowK #[(.int .i64 0)] 3 1 [(0, 1, a1)] h5 fun v10 h11 =>
 appK (.int .i64 0) 3 1 8 v9 v10 h11 fun v12 h13 =>
 vK (nilV a0) fun v14 =>
 vK (fldV 1 v14) fun v15 =>
 stK 1 v15 v12 h13 fun v16 h17 =>
 R (.int .i64 0) h17))
theorem zj5 (H : zfv a0 a1 h R) : FCall prog zbr #[a0, a1] h R := fk f10 (.s .z (.s (.s .z (.s (.s .z .z) (.s .z (.s (.s .z .z) .z)))) (.s .z (.s .z .z)))) H
def zeU (a0 : Value) (h : Heap) (R : Value → Heap → Prop) : Prop :=
 vK (nilV a0) fun v1 =>
 vK (fldV 2 v1) fun v2 =>
 vK (ldV h v2) fun v3 =>
 vK (nilV a0) fun v4 =>
 vK (fldV 2 v4) fun v5 =>
 stK 1 v5 (.bool true) h fun v6 h7 =>
 vK (unV .not v3) fun v8 =>
 R v8 h7
theorem zji (H : zeU a0 h R) : FCall prog zbh #[a0] h R := fk f11 (.s .z (.s .z (.s .z (.s .z .z)))) H
def zd2 (a0 a1 : Value) (h : Heap) (R : Value → Heap → Prop) : Prop :=
 vK (ldV h a1) fun v1 =>
 vK (binV .i .add v1 (.int .i64 1)) fun v2 =>
 stK 1 a1 v2 h fun v3 h4 =>
 R (.pointer none) h4
theorem zh2 (H : zd2 a0 a1 h R) : FCall prog zbY #[a0, a1] h R := fk f12 (.s .z (.s .z (.s .z .z))) H
def zeu (a0 a1 a2 : Value) (h : Heap) (R : Value → Heap → Prop) : Prop :=
 newK #[(.int .i64 0), (.int .i64 0), (.int .i64 0), (.int .i64 0)] 37 h fun v1 h2 =>
 vK (nilV a0) fun v3 =>
 vK (fldV 0 v3) fun v4 =>
 vK (ldV h2 v4) fun v5 =>
 vK (binV .i .eql v5 (.int .i64 1)) fun v6 =>
 iteK v6 (
 vK (nilV a0) fun v7 =>
 vK (fldV 2 v7) fun v8 =>
 vK (ldV h2 v8) fun v9 =>
 FCall prog zbB #[v9] h2 fun v10 h11 =>
 newK #[(.int .i64 0), (.int .i64 0)] 35 h11 fun v12 h13 =>
 stK 2 v12 v10 h13 fun v14 h15 =>
 FCall prog zaV #[a0] h15 fun v16 h17 =>
 drawK h17 fun S =>
 vK (nilV a0) fun v18 =>
 vK (fldV 1 v18) fun v19 =>
 qK S (fun h17 => ldV h17 v19) fun v20 =>
 vK (nilV a0) fun v21 =>
 vK (fldV 1 v21) fun v22 =>
 qK S (fun h17 => ldV h17 v22) fun v23 =>
 qK S (fun h17 => zag v23) fun v24 =>
 vK (binV .i .sub v24 (.int .i64 1)) fun v25 =>
 vK (idxV 1 v20 v25) fun v26 =>
 qK S (fun h17 => ldV h17 v26) fun v27 =>
 qK S (fun h17 => ldsV 2 h17 v12) fun v28 =>
 vK ((fillL #[(.int .i64 0), (.int .i64 0), (.int .i64 0), (.int .i64 0)] [(0, 1, (.int .i64 2)), (1, 1, v27), (2, 2, v28)]).map .agg) fun v29 =>
 stK 4 v1 v29 h17 fun v30 h31 =>
 vK (ldsV 4 h31 v1) fun v32 =>
 R v32 h31) (
 vK (binV .i .eql v5 (.int .i64 2)) fun v33 =>
 iteK v33 (
 vK ((fillL #[(.int .i64 0), (.int .i64 0), (.int .i64 0), (.int .i64 0)] []).map .agg) fun v34 =>
 stK 4 v1 v34 h2 fun v35 h36 =>
 vK (ldsV 4 h36 v1) fun v37 =>
 R v37 h36) (
 FCall prog zcK #[a1] h2 fun v38 h39 =>
 vK (extV v38 0) fun v40 =>
 vK (extV v38 1) fun v41 =>
 vK (binV .i .eql v41 (.int .i64 0)) fun v42 =>
 iteK v42 (
 FCall prog zc3 #[a0, v40, a2] h39 fun v43 h44 =>
 stK 4 v1 v43 h44 fun v45 h46 =>
 vK (ldsV 4 h46 v1) fun v47 =>
 R v47 h46) (
 vK (binV .i .eql v41 (.int .i64 2)) fun v48 =>
 iteK v48 (
 vK (nilV a0) fun v49 =>
 vK (fldV 0 v49) fun v50 =>
 stK 1 v50 (.int .i64 2) h39 fun v51 h52 =>
 vK ((fillL #[(.int .i64 0), (.int .i64 0), (.int .i64 0), (.int .i64 0)] [(0, 1, (.int .i64 3))]).map .agg) fun v53 =>
 stK 4 v1 v53 h52 fun v54 h55 =>
 vK (ldsV 4 h55 v1) fun v56 =>
 R v56 h55) (
 vK ((fillL #[(.int .i64 0), (.int .i64 0), (.int .i64 0), (.int .i64 0)] []).map .agg) fun v57 =>
 stK 4 v1 v57 h39 fun v58 h59 =>
 vK (ldsV 4 h59 v1) fun v60 =>
 R v60 h59))))
theorem ziv (H : zeu a0 a1 a2 h R) : FCall prog zas #[a0, a1, a2] h R := fk f13 (.s .z (.s (.s .z (.s .z (.s (.s .z (.s .z (.s (.d (.op 0 .r (.op 1 .r (.op 2 .r (.op 3 .r (.op 4 .r (.op 5 .r (.op 6 .r (.op 7 .r (.op 8 .r (.op 9 .r (.op 10 .r (.op 11 .r (.op 12 .r (.op 13 .r (.op 14 .n .nil)))))))))))))))) .z))) (.s .z (.s (.s .z .z) .z))))) (.s .z (.s (.s .z (.s .z (.s (.s .z .z) (.s .z (.s (.s .z (.s .z .z)) .z))))) (.s .z .z))))) H
def zdX (a0 : Value) (h : Heap) (R : Value → Heap → Prop) : Prop :=
 vK (nilV a0) fun v1 =>
 vK (fldV 0 v1) fun v2 =>
 vK (ldV h v2) fun v3 =>
 R v3 h
theorem zhX (H : zdX a0 h R) : FCall prog zaQ #[a0] h R := fk f14 (.s .z (.s .z .z)) H
def zdo (a0 : Value) (h : Heap) (R : Value → Heap → Prop) : Prop :=
 vK (nilV a0) fun v1 =>
 vK (fldV 3 v1) fun v2 =>
 vK (ldV h v2) fun v3 =>
 R v3 h
theorem zgU (H : zdo a0 h R) : FCall prog zaI #[a0] h R := fk f15 (.s .z (.s .z .z)) H
def zdW (a0 : Value) (h : Heap) (R : Value → Heap → Prop) : Prop :=
 vK (nilV a0) fun v1 =>
 vK (fldV 1 v1) fun v2 =>
 vK (ldV h v2) fun v3 =>
 FCall prog zb0 #[v3] h fun v4 h5 =>
 R v4 h5
theorem zhW (H : zdW a0 h R) : FCall prog zaP #[a0] h R := fk f16 (.s .z (.s .z .z)) H
def zex (a0 : Value) (h : Heap) (R : Value → Heap → Prop) : Prop :=
 newK (Value.cells a0) 47 h fun v1 h2 =>
 vK (fldV 0 v1) fun v3 =>
 vK (ldV h2 v3) fun v4 =>
 vK (binV .i .rem v4 (.int .u16 12)) fun v5 =>
 vK (fldV 1 v1) fun v6 =>
 vK (ldV h2 v6) fun v7 =>
 vK (binV .i .rem v7 (.int .u16 12)) fun v8 =>
 vK (fldV 2 v1) fun v9 =>
 vK (ldV h2 v9) fun v10 =>
 vK (fldV 3 v1) fun v11 =>
 vK (ldV h2 v11) fun v12 =>
 vK (fldV 4 v1) fun v13 =>
 vK (ldV h2 v13) fun v14 =>
 FCall prog ziP #[v5, v8, v10, v12, v14] h2 fun v15 h16 =>
 R v15 h16
theorem ziy (H : zex a0 h R) : FCall prog zbx #[a0] h R := fk f17 (.s .z (.s .z .z)) H
def zik (a0 a1 : Value) (h : Heap) (R : Value → Heap → Prop) : Prop :=
 vK (binV .p .eql a1 (.pointer none)) fun v1 =>
 vK (gV v1 false (some a0)) fun v2 =>
 vK (gV v1 false (zag v2)) fun v3 =>
 vK (gV v1 false (binV .i .gtr v3 (.int .i64 4))) fun v4 =>
 vK (pickV v1 (.bool true) v4) fun v5 =>
 vK (gV v5 false (some a0)) fun v6 =>
 gK v5 false (fun k43 => FCall prog zgE #[v6, (.int .i64 12)] h k43) h fun v7 h8 =>
 vK (gV v5 false (unV .not v7)) fun v9 =>
 vK (pickV v5 (.bool true) v9) fun v10 =>
 iteK v10 (
 R (.tuple #[(.slice none 0 0), (.slice none 0 0), (.bool false)]) h8) (
 FCall prog zaB #[a1] h8 fun v11 h12 =>
 FCall prog zaz #[a1] h12 fun v13 h14 =>
 FCall prog zae #[a1] h14 fun v15 h16 =>
 FCall prog zrE #[a0, v11, v13, v15] h16 fun v17 h18 =>
 vK (extV v17 0) fun v19 =>
 vK (extV v17 1) fun v20 =>
 FCall prog ziO #[a0] h18 fun v21 h22 =>
 FCall prog zaB #[a1] h22 fun v23 h24 =>
 FCall prog zaz #[a1] h24 fun v25 h26 =>
 FCall prog zae #[a1] h26 fun v27 h28 =>
 FCall prog zkh #[v21, v23, v25, v27] h28 fun v29 h30 =>
 vK (extV v29 0) fun v31 =>
 vK (extV v29 1) fun v32 =>
 vK (binV .i .eql v20 (.int .i64 0)) fun v33 =>
 vK (gV v33 true (some v32)) fun v34 =>
 vK (gV v33 true (binV .i .eql v34 (.int .i64 0))) fun v35 =>
 vK (pickV v33 v35 (.bool false)) fun v36 =>
 vK (gV v36 true (some v19)) fun v37 =>
 vK (gV v36 true (zag v37)) fun v38 =>
 vK (gV v36 true (some v31)) fun v39 =>
 vK (gV v36 true (zag v39)) fun v40 =>
 vK (gV v36 true (binV .i .eql v38 v40)) fun v41 =>
 vK (pickV v36 v41 (.bool false)) fun v42 =>
 R (.tuple #[v19, v31, v42]) h30)
theorem zob (H : zik a0 a1 h R) : FCall prog zdc #[a0, a1] h R := fk f18 (.s .z (.s (.s .z (.s (.s .z .z) .z)) (.s .z (.s .z (.s .z .z))))) H
def zkV (a0 a1 a2 a3 : Value) (h : Heap) (R : Value → Heap → Prop) : Prop :=
 vK (binV .i .lss a3 (.int .i64 1)) fun v1 =>
 vK (gV v1 false (some a3)) fun v2 =>
 vK (gV v1 false (binV .i .gtr v2 (.int .i64 65535))) fun v3 =>
 vK (pickV v1 (.bool true) v3) fun v4 =>
 vK (gV v4 false (some a2)) fun v5 =>
 vK (gV v4 false (binV .i .neq v5 (.int .i64 1))) fun v6 =>
 vK (gV v4 false (some v6)) fun v7 =>
 vK (gV v7 true (some a2)) fun v8 =>
 vK (gV v7 true (binV .i .neq v8 (.int .i64 3))) fun v9 =>
 vK (gV v4 false (pickV v7 v9 (.bool false))) fun v10 =>
 vK (pickV v4 (.bool true) v10) fun v11 =>
 iteK v11 (
 R (.tuple #[(.pointer none), (.int .i64 2)]) h) (
 FCall prog zdR #[a0, a1, a2] h fun v12 h13 =>
 vK (unV .not v12) fun v14 =>
 iteK v14 (
 R (.tuple #[(.pointer none), (.int .i64 5)]) h13) (
 vK (binV .i .mul a0 a1) fun v15 =>
 vK (binV .i .mul v15 a2) fun v16 =>
 mkK (.int .u16 0) 44 1 2 v16 v16 h13 fun v17 h18 =>
 vK ((fillL #[(.int .i64 0), (.int .i64 0), (.int .i64 0), (.int .i64 0), (.slice none 0 0)] [(0, 1, a0), (1, 1, a1), (2, 1, a2), (3, 1, a3), (4, 1, v17)]).map .agg) fun v19 =>
 newK (Value.cells v19) 135 h18 fun v20 h21 =>
 R (.tuple #[v20, (.int .i64 0)]) h21))
theorem zqW (H : zkV a0 a1 a2 a3 h R) : FCall prog zat #[a0, a1, a2, a3] h R := fk f19 (.s .z (.s (.s .z (.s (.s .z .z) (.s .z (.s (.s .z .z) .z)))) (.s .z .z))) H
def zgL (a0 : Value) (h : Heap) (R : Value → Heap → Prop) : Prop :=
 vK (nilV a0) fun v1 =>
 vK (fldV 1 v1) fun v2 =>
 vK (ldV h v2) fun v3 =>
 vK (zag v3) fun v4 =>
 R v4 h
theorem zlU (H : zgL a0 h R) : FCall prog zaj #[a0] h R := fk f20 (.s .z (.s .z .z)) H
def zdp (a0 : Value) (h : Heap) (R : Value → Heap → Prop) : Prop :=
 vK (nilV a0) fun v1 =>
 vK (fldV 2 v1) fun v2 =>
 vK (ldV h v2) fun v3 =>
 R v3 h
theorem zgV (H : zdp a0 h R) : FCall prog zae #[a0] h R := fk f21 (.s .z (.s .z .z)) H
def zeT (a0 : Value) (h : Heap) (R : Value → Heap → Prop) : Prop :=
 vK (nilV a0) fun v1 =>
 vK (fldV 3 v1) fun v2 =>
 vK (ldV h v2) fun v3 =>
 R v3 h
theorem zjh (H : zeT a0 h R) : FCall prog zal #[a0] h R := fk f22 (.s .z (.s .z .z)) H
def znM (a0 a1 a2 : Value) (h : Heap) (R : Value → Heap → Prop) : Prop :=
 newK (Value.cells a0) 67 h fun v1 h2 =>
 vK (fldV 0 v1) fun v3 =>
 vK (ldV h2 v3) fun v4 =>
 vK (binV .p .eql v4 (.pointer none)) fun v5 =>
 vK (gV v5 false (fldV 1 v1)) fun v6 =>
 vK (gV v5 false (ldV h2 v6)) fun v7 =>
 vK (gV v5 false (binV .p .eql v7 (.pointer none))) fun v8 =>
 vK (pickV v5 (.bool true) v8) fun v9 =>
 iteK v9 (
 R (.tuple #[(.pointer none), (.int .i64 6)]) h2) (
 FCall prog zhu #[a1] h2 fun v10 h11 =>
 vK (unV .not v10) fun v12 =>
 vK (gV v12 false (some a2)) fun v13 =>
 gK v12 false (fun k22 => FCall prog zhu #[v13] h11 k22) h11 fun v14 h15 =>
 vK (gV v12 false (unV .not v14)) fun v16 =>
 vK (pickV v12 (.bool true) v16) fun v17 =>
 iteK v17 (
 R (.tuple #[(.pointer none), (.int .i64 9)]) h15) (
 vK (ldsV 3 h15 v1) fun v18 =>
 vK ((fillL #[(.pointer none), (.pointer none), (.int .i64 0), (.int .i64 0), (.int .i64 0)] [(0, 3, v18), (3, 1, a1), (4, 1, a2)]).map .agg) fun v19 =>
 newK (Value.cells v19) 141 h15 fun v20 h21 =>
 R (.tuple #[v20, (.int .i64 0)]) h21))
theorem ok_plan_New (H : znM a0 a1 a2 h R) : FCall prog zfj #[a0, a1, a2] h R := fk f23 (.s .z (.s (.s .z (.s (.s .z .z) (.s .z (.s (.s .z .z) .z)))) (.s .z .z))) H
def zgR (a0 a1 : Value) (h : Heap) (R : Value → Heap → Prop) : Prop :=
 newK #[(.int .i64 0), (.int .i64 0), (.int .i64 0), (.int .i64 0), (.int .i64 0), (.int .i64 0), (.int .i64 0), (.int .i64 0), (.int .i64 0), (.int .i64 0)] 84 h fun v1 h2 =>
 vK (binV .i .lss a1 (.int .i64 0)) fun v3 =>
 vK (gV v3 false (some a1)) fun v4 =>
 vK (gV v3 false (some a0)) fun v5 =>
 gK v3 false (fun k99 => FCall prog zaT #[v5] h2 k99) h2 fun v6 h7 =>
 vK (gV v3 false (binV .i .geq v4 v6)) fun v8 =>
 vK (pickV v3 (.bool true) v8) fun v9 =>
 iteK v9 (
 vK ((fillL #[(.int .i64 0), (.int .i64 0), (.int .i64 0), (.int .i64 0), (.int .i64 0), (.int .i64 0), (.int .i64 0), (.int .i64 0), (.int .i64 0), (.int .i64 0)] []).map .agg) fun v10 =>
 stK 10 v1 v10 h7 fun v11 h12 =>
 vK (ldsV 10 h12 v1) fun v13 =>
 R (.tuple #[v13, (.bool false)]) h12) (
 joinK (fun J14 =>
 drawK h7 fun S =>
 vK (nilV a0) fun v18 =>
 vK (fldV 0 v18) fun v19 =>
 vK (fldV 1 v19) fun v20 =>
 qK S (fun h7 => ldV h7 v20) fun v21 =>
 (FCall prog zdS #[a0, a1] h7 fun v22 h23 =>
 S h23 ∧ ((FCall prog zbb #[v21] h23 fun v24 h25 =>
 S h25 ∧ (vK ((fillL #[(.int .i64 0), (.int .i64 0), (.int .i64 0), (.int .i64 0), (.int .i64 0), (.int .i64 0), (.int .i64 0), (.int .i64 0), (.int .i64 0), (.int .i64 0)] [(0, 1, a1), (1, 4, v22), (9, 1, v24)]).map .agg) fun v26 =>
 newK #[(.int .i64 0), (.int .i64 0), (.int .i64 0), (.int .i64 0), (.int .i64 0), (.int .i64 0), (.int .i64 0), (.int .i64 0), (.int .i64 0), (.int .i64 0)] 84 h25 fun v27 h28 =>
 S h28 ∧ (stK 10 v27 v26 h28 fun v29 h30 =>
 S h30 ∧ (J14 [v27] h30)))) ∧ (newK #[(.int .i64 0), (.int .i64 0), (.int .i64 0), (.int .i64 0), (.int .i64 0), (.int .i64 0), (.int .i64 0), (.int .i64 0), (.int .i64 0), (.int .i64 0)] 84 h23 fun v31 h32 =>
 S h32 ∧ (FCall prog zbb #[v21] h32 fun v33 h34 =>
 S h34 ∧ (vK ((fillL #[(.int .i64 0), (.int .i64 0), (.int .i64 0), (.int .i64 0), (.int .i64 0), (.int .i64 0), (.int .i64 0), (.int .i64 0), (.int .i64 0), (.int .i64 0)] [(0, 1, a1), (1, 4, v22), (9, 1, v33)]).map .agg) fun v35 =>
 stK 10 v31 v35 h34 fun v36 h37 =>
 S h37 ∧ (J14 [v31] h37)))))) ∧ (newK #[(.int .i64 0), (.int .i64 0), (.int .i64 0), (.int .i64 0), (.int .i64 0), (.int .i64 0), (.int .i64 0), (.int .i64 0), (.int .i64 0), (.int .i64 0)] 84 h7 fun v38 h39 =>
 S h39 ∧ (FCall prog zdS #[a0, a1] h39 fun v40 h41 =>
 S h41 ∧ (FCall prog zbb #[v21] h41 fun v42 h43 =>
 S h43 ∧ (vK ((fillL #[(.int .i64 0), (.int .i64 0), (.int .i64 0), (.int .i64 0), (.int .i64 0), (.int .i64 0), (.int .i64 0), (.int .i64 0), (.int .i64 0), (.int .i64 0)] [(0, 1, a1), (1, 4, v40), (9, 1, v42)]).map .agg) fun v44 =>
 stK 10 v38 v44 h43 fun v45 h46 =>
 S h46 ∧ (J14 [v38] h46))))))
 fun x15 j16 h17 =>
 drawK h17 fun S =>
 vK (nilV a0) fun v47 =>
 vK (fldV 0 v47) fun v48 =>
 vK (fldV 0 v48) fun v49 =>
 qK S (fun h17 => ldV h17 v49) fun v50 =>
 vK (fldV 1 (ix x15 0)) fun v51 =>
 vK (fldV 0 v51) fun v52 =>
 qK S (fun h17 => ldV h17 v52) fun v53 =>
 vK (fldV 1 (ix x15 0)) fun v54 =>
 vK (fldV 0 v54) fun v55 =>
 qK S (fun h17 => ldV h17 v55) fun v56 =>
 vK (fldV 1 (ix x15 0)) fun v57 =>
 vK (fldV 2 v57) fun v58 =>
 qK S (fun h17 => ldV h17 v58) fun v59 =>
 vK (binV .i .add v56 v59) fun v60 =>
 FCall prog zbJ #[v50, v53, v60] h17 fun v61 h62 =>
 vK (extV v61 0) fun v63 =>
 vK (extV v61 1) fun v64 =>
 vK (fldV 5 (ix x15 0)) fun v65 =>
 stK 1 v65 v63 h62 fun v66 h67 =>
 vK (fldV 7 (ix x15 0)) fun v68 =>
 stK 1 v68 v64 h67 fun v69 h70 =>
 drawK h70 fun S =>
 vK (nilV a0) fun v71 =>
 vK (fldV 0 v71) fun v72 =>
 vK (fldV 1 v72) fun v73 =>
 qK S (fun h70 => ldV h70 v73) fun v74 =>
 vK (fldV 1 (ix x15 0)) fun v75 =>
 vK (fldV 1 v75) fun v76 =>
 qK S (fun h70 => ldV h70 v76) fun v77 =>
 vK (fldV 1 (ix x15 0)) fun v78 =>
 vK (fldV 1 v78) fun v79 =>
 qK S (fun h70 => ldV h70 v79) fun v80 =>
 vK (fldV 1 (ix x15 0)) fun v81 =>
 vK (fldV 3 v81) fun v82 =>
 qK S (fun h70 => ldV h70 v82) fun v83 =>
 vK (binV .i .add v80 v83) fun v84 =>
 FCall prog zbJ #[v74, v77, v84] h70 fun v85 h86 =>
 vK (extV v85 0) fun v87 =>
 vK (extV v85 1) fun v88 =>
 vK (fldV 6 (ix x15 0)) fun v89 =>
 stK 1 v89 v87 h86 fun v90 h91 =>
 vK (fldV 8 (ix x15 0)) fun v92 =>
 stK 1 v92 v88 h91 fun v93 h94 =>
 vK (ldsV 10 h94 (ix x15 0)) fun v95 =>
 stK 10 v1 v95 h94 fun v96 h97 =>
 vK (ldsV 10 h97 v1) fun v98 =>
 R (.tuple #[v98, (.bool true)]) h97)
theorem zl0 (H : zgR a0 a1 h R) : FCall prog zbv #[a0, a1] h R := fk f27 (.s .z (.s (.s .z (.s (.s .z .z) .z)) (.j 134152256 [6] (.d (.op 0 .r (.op 1 .r (.op 2 .r (.op 4 .r (.op 5 .r (.op 6 .r (.op 7 .r (.op 8 .r (.alt (.op 3 .e (.alt (.op 9 .e (.op 10 .r (.op 11 .e (.op 12 .e .nil)))) (.op 11 .e (.op 9 .e (.op 10 .r (.op 12 .e .nil)))))) (.op 11 .e (.op 3 .e (.op 9 .e (.op 10 .r (.op 12 .e .nil))))))))))))))) (.s (.d (.op 0 .r (.op 1 .r (.op 2 .r (.op 3 .r (.op 4 .r (.op 5 .r (.op 6 .r (.op 7 .r (.op 8 .r (.op 9 .r (.op 10 .r (.op 11 .r (.op 12 .r (.op 13 .r (.op 14 .r (.op 15 .n (.op 16 .r (.op 17 .r (.op 18 .r (.op 19 .r (.op 20 .n (.op 21 .r (.op 22 .n .nil)))))))))))))))))))))))) (.s (.d (.op 0 .r (.op 1 .r (.op 2 .r (.op 3 .r (.op 4 .r (.op 5 .r (.op 6 .r (.op 7 .r (.op 8 .r (.op 9 .r (.op 10 .r (.op 11 .r (.op 12 .r (.op 13 .r (.op 14 .r (.op 15 .n (.op 16 .r (.op 17 .r (.op 18 .r (.op 19 .r (.op 20 .n (.op 21 .r (.op 22 .n .nil)))))))))))))))))))))))) (.s .z .z)))))) H
def zky (a0 a1 a2 a3 : Value) (h : Heap) (R : Value → Heap → Prop) : Prop :=
 newK (Value.cells a2) 67 h fun v1 h2 =>
 newK (Value.cells a3) 84 h2 fun v3 h4 =>
 vK (ldsV 3 h4 v1) fun v5 =>
 FCall prog zgA #[a0, a1, v5] h4 fun v6 h7 =>
 vK (unV .not v6) fun v8 =>
 iteK v8 (
 R (.tuple #[(.pointer none), (.int .i64 6)]) h7) (
 vK (ldsV 3 h7 v1) fun v9 =>
 vK (fldV 1 v3) fun v10 =>
 vK (ldsV 4 h7 v10) fun v11 =>
 FCall prog zdM #[v9, v11] h7 fun v12 h13 =>
 vK (unV .not v12) fun v14 =>
 iteK v14 (
 R (.tuple #[(.pointer none), (.int .i64 9)]) h13) (
 drawK h13 fun S =>
 qK S (fun h13 => ldsV 3 h13 v1) fun v15 =>
 qK S (fun h13 => ldsV 10 h13 v3) fun v16 =>
 vK (fldV 1 v1) fun v17 =>
 qK S (fun h13 => ldV h13 v17) fun v18 =>
 vK (fldV 1 v3) fun v19 =>
 vK (fldV 2 v19) fun v20 =>
 qK S (fun h13 => ldV h13 v20) fun v21 =>
 vK (fldV 1 v3) fun v22 =>
 vK (fldV 1 v22) fun v23 =>
 qK S (fun h13 => ldV h13 v23) fun v24 =>
 FCall prog zbb #[v18] h13 fun v25 h26 =>
 S h26 ∧ (FCall prog zae #[a0] h26 fun v27 h28 =>
 S h28 ∧ (vK (binV .i .mul v21 v27) fun v29 =>
 FCall prog zmj #[v25, v29] h28 fun v30 h31 =>
 S h31 ∧ (vK ((fillL #[(.pointer none), (.pointer none), (.pointer none), (.pointer none), (.int .i64 0), (.int .i64 0), (.int .i64 0), (.int .i64 0), (.int .i64 0), (.int .i64 0), (.int .i64 0), (.int .i64 0), (.int .i64 0), (.int .i64 0), (.int .i64 0), (.pointer none), (.int .i64 0)] [(0, 1, a0), (1, 1, a1), (2, 3, v15), (5, 10, v16), (15, 1, v30), (16, 1, v24)]).map .agg) fun v32 =>
 newK (Value.cells v32) 156 h31 fun v33 h34 =>
 R (.tuple #[v33, (.int .i64 0)]) h34)))))
theorem zqz (H : zky a0 a1 a2 a3 h R) : FCall prog zdu #[a0, a1, a2, a3] h R := fk f28 (.s .z (.s (.s .z (.s (.s .z .z) (.s .z (.s (.s .z .z) .z)))) (.s (.d (.op 0 .r (.op 1 .r (.op 2 .r (.op 3 .r (.op 4 .r (.op 5 .r (.op 7 .r (.op 8 .r (.op 9 .r (.op 10 .r (.op 14 .r (.op 15 .r (.op 16 .r (.op 6 .e (.op 11 .e (.op 12 .r (.op 13 .e (.op 17 .r (.op 18 .n (.op 19 .r (.op 20 .r .nil)))))))))))))))))))))) .z))) H
end
section
variable {a0 a1 a2 a3 a4 a5 : Value} {h : Heap} {R : Value → Heap → Prop}
def zc6 (a0 a1 : Value) (h : Heap) (R : Value → Heap → Prop) : Prop :=
 vK (nilV a0) fun v1 =>
 vK (fldV 0 v1) fun v2 =>
 vK (ldV h v2) fun v3 =>
 vK (binV .i .eql v3 (.int .i64 0)) fun v4 =>
 iteK v4 (
 FCall prog zch #[a1] h fun v5 h6 =>
 R v5 h6) (
 vK (binV .i .eql v3 (.int .i64 1)) fun v7 =>
 iteK v7 (
 R (.bool true) h) (
 R (.bool false) h))
theorem zgv (H : zc6 a0 a1 h R) : FCall prog zbo #[a0, a1] h R := fk f32 (.s .z (.s (.s .z (.s .z (.s (.s .z .z) (.s .z (.s (.s .z .z) .z))))) (.s .z .z))) H
def zga (a0 : Value) (h : Heap) (R : Value → Heap → Prop) : Prop :=
 drawK h fun S =>
 vK (nilV a0) fun v1 =>
 vK (fldV 0 v1) fun v2 =>
 vK (fldV 1 v2) fun v3 =>
 qK S (fun h => ldV h v3) fun v4 =>
 vK (nilV a0) fun v5 =>
 vK (fldV 4 v5) fun v6 =>
 qK S (fun h => ldV h v6) fun v7 =>
 FCall prog zbL #[a0] h fun v8 h9 =>
 S h9 ∧ (FCall prog zaj #[v4] h9 fun v10 h11 =>
 S h11 ∧ (FCall prog zgt #[v10, v7] h11 fun v12 h13 =>
 vK (binV .i .mul v8 v12) fun v14 =>
 R v14 h13))
theorem zln (H : zga a0 h R) : FCall prog zaT #[a0] h R := fk f33 (.s .z (.s (.d (.op 0 .r (.op 2 .r (.op 3 .r (.op 4 .r (.op 5 .r (.op 6 .r (.op 8 .r (.op 9 .r (.op 10 .r (.op 11 .r (.op 1 .e (.op 7 .e (.op 12 .n (.op 13 .r (.op 14 .r .nil)))))))))))))))) .z)) H
def zc8 (a0 a1 a2 a3 a4 a5 : Value) (h : Heap) (R : Value → Heap → Prop) : Prop :=
 vK (ldV h a1) fun v1 =>
 FCall prog zbv #[v1, a0] h fun v2 h3 =>
 vK (extV v2 0) fun v4 =>
 vK (extV v2 1) fun v5 =>
 newK #[(.int .i64 0), (.int .i64 0), (.int .i64 0), (.int .i64 0), (.int .i64 0), (.int .i64 0), (.int .i64 0), (.int .i64 0), (.int .i64 0), (.int .i64 0)] 84 h3 fun v6 h7 =>
 stK 10 v6 v4 h7 fun v8 h9 =>
 drawK h9 fun S =>
 qK S (fun h9 => ldV h9 a2) fun v10 =>
 qK S (fun h9 => ldV h9 a3) fun v11 =>
 qK S (fun h9 => ldV h9 a4) fun v12 =>
 vK (idxV 3 v12 (.int .i64 0)) fun v13 =>
 qK S (fun h9 => ldsV 3 h9 v13) fun v14 =>
 qK S (fun h9 => ldsV 10 h9 v6) fun v15 =>
 FCall prog zdu #[v10, v11, v14, v15] h9 fun v16 h17 =>
 vK (extV v16 0) fun v18 =>
 vK (extV v16 1) fun v19 =>
 vK (binV .i .neq v19 (.int .i64 0)) fun v20 =>
 iteK v20 (
 R (.pointer none) h17) (
 drawK h17 fun S =>
 qK S (fun h17 => ldV h17 a5) fun v21 =>
 FCall prog zcx #[v18] h17 fun v22 h23 =>
 S h23 ∧ (qK S (fun h23 => maxV v21 v22) fun v24 =>
 stK 1 a5 v24 h23 fun v25 h26 =>
 R v18 h26))
theorem zgx (H : zc8 a0 a1 a2 a3 a4 a5 h R) : FCall prog za4 #[a0, a1, a2, a3, a4, a5] h R := fk f34 (.s .z (.s .z (.s (.d (.op 0 .r (.op 1 .r (.op 2 .r (.op 3 .r (.op 4 .r (.op 5 .r (.op 6 .n (.op 7 .r (.op 8 .r (.op 9 .r (.op 10 .r (.op 11 .r .nil))))))))))))) (.s (.s .z (.s (.s .z .z) .z)) (.s (.d (.op 0 .r (.op 1 .r (.op 2 .e (.op 3 .r (.op 4 .n .nil)))))) (.s .z .z)))))) H
def zfq (a0 : Value) (h : Heap) (R : Value → Heap → Prop) : Prop :=
 vK (nilV a0) fun v1 =>
 vK (fldV 15 v1) fun v2 =>
 vK (ldV h v2) fun v3 =>
 FCall prog zeb #[v3] h fun v4 h5 =>
 R v4 h5
theorem zj0 (H : zfq a0 h R) : FCall prog zcx #[a0] h R := fk f35 (.s .z (.s .z .z)) H
def zeW (a0 a1 : Value) (h : Heap) (R : Value → Heap → Prop) : Prop :=
 drawK h fun S =>
 vK (nilV a0) fun v1 =>
 vK (fldV 0 v1) fun v2 =>
 vK (fldV 1 v2) fun v3 =>
 qK S (fun h => ldV h v3) fun v4 =>
 vK (nilV a0) fun v5 =>
 vK (fldV 3 v5) fun v6 =>
 qK S (fun h => ldV h v6) fun v7 =>
 vK (nilV a0) fun v8 =>
 vK (fldV 0 v8) fun v9 =>
 vK (fldV 0 v9) fun v10 =>
 qK S (fun h => ldV h v10) fun v11 =>
 qK S (fun h => maxV (.int .i64 0) a1) fun v12 =>
 FCall prog zbb #[v4] h fun v13 h14 =>
 S h14 ∧ (FCall prog zaj #[v11] h14 fun v15 h16 =>
 S h16 ∧ (qK S (fun h16 => minV v7 v15) fun v17 =>
 vK (binV .i .mul v13 v17) fun v18 =>
 vK (binV .i .mul v18 v12) fun v19 =>
 R v19 h16))
theorem zjk (H : zeW a0 a1 h R) : FCall prog zcq #[a0, a1] h R := fk f36 (.s .z (.s (.d (.op 0 .r (.op 1 .r (.op 2 .r (.op 3 .r (.op 4 .r (.op 6 .r (.op 7 .r (.op 8 .r (.op 9 .r (.op 10 .r (.op 11 .r (.op 12 .r (.op 13 .r (.op 14 .r (.op 18 .r (.op 19 .r (.op 5 .e (.op 15 .e (.op 16 .r (.op 17 .r (.op 20 .r (.op 21 .r .nil))))))))))))))))))))))) .z)) H
def zdE (a0 a1 a2 a3 a4 : Value) (h : Heap) (R : Value → Heap → Prop) : Prop :=
 vK (ldV h a1) fun v1 =>
 FCall prog zbv #[v1, a0] h fun v2 h3 =>
 vK (extV v2 0) fun v4 =>
 vK (extV v2 1) fun v5 =>
 newK #[(.int .i64 0), (.int .i64 0), (.int .i64 0), (.int .i64 0), (.int .i64 0), (.int .i64 0), (.int .i64 0), (.int .i64 0), (.int .i64 0), (.int .i64 0)] 84 h3 fun v6 h7 =>
 stK 10 v6 v4 h7 fun v8 h9 =>
 drawK h9 fun S =>
 qK S (fun h9 => ldV h9 a2) fun v10 =>
 qK S (fun h9 => ldV h9 a3) fun v11 =>
 qK S (fun h9 => ldV h9 a4) fun v12 =>
 vK (idxV 3 v12 (.int .i64 0)) fun v13 =>
 qK S (fun h9 => ldsV 3 h9 v13) fun v14 =>
 qK S (fun h9 => ldsV 10 h9 v6) fun v15 =>
 FCall prog zdu #[v10, v11, v14, v15] h9 fun v16 h17 =>
 vK (extV v16 0) fun v18 =>
 vK (extV v16 1) fun v19 =>
 R v18 h17
theorem zg9 (H : zdE a0 a1 a2 a3 a4 h R) : FCall prog zbf #[a0, a1, a2, a3, a4] h R := fk f37 (.s .z (.s .z (.s (.d (.op 0 .r (.op 1 .r (.op 2 .r (.op 3 .r (.op 4 .r (.op 5 .r (.op 6 .n (.op 7 .r (.op 8 .r (.op 9 .r (.op 10 .r (.op 11 .r .nil))))))))))))) (.s .z .z)))) H
def zhQ (a0 : Value) (h : Heap) (R : Value → Heap → Prop) : Prop :=
 FCall prog zaT #[a0] h fun v1 h2 =>
 loopK [(.slice none 0 0), (.int .i64 0)] h2 fun x3 j4 h5 again6 =>
 vK (binV .i .lss (ix x3 1) v1) fun v7 =>
 iteK v7 (
 FCall prog zbv #[a0, (ix x3 1)] h5 fun v8 h9 =>
 vK (extV v8 0) fun v10 =>
 vK (extV v8 1) fun v11 =>
 newK #[(.int .i64 0), (.int .i64 0), (.int .i64 0), (.int .i64 0), (.int .i64 0), (.int .i64 0), (.int .i64 0), (.int .i64 0), (.int .i64 0), (.int .i64 0)] 84 h9 fun v12 h13 =>
 stK 10 v12 v10 h13 fun v14 h15 =>
 vK (ldsV 10 h15 v12) fun v16 =>
 rowK #[(.int .i64 0), (.int .i64 0), (.int .i64 0), (.int .i64 0), (.int .i64 0), (.int .i64 0), (.int .i64 0), (.int .i64 0), (.int .i64 0), (.int .i64 0)] 84 1 [(0, 10, v16)] h15 fun v17 h18 =>
 appK (.agg #[.int .i64 0, .int .i64 0, .int .i64 0, .int .i64 0, .int .i64 0, .int .i64 0, .int .i64 0, .int .i64 0, .int .i64 0, .int .i64 0]) 84 10 80 (ix x3 0) v17 h18 fun v19 h20 =>
 vK (binV .i .add (ix x3 1) (.int .i64 1)) fun v21 =>
 again6 [v19, v21] h20) (
 R (ix x3 0) h5)
theorem zna (H : zhQ a0 h R) : FCall prog zfT #[a0] h R := fk f38 (.s .z (.s .z (.s (.s .z (.l 8388216 [3, 9] (.s .z (.s (.s .z .z) (.s (.s .z (.s .z .z)) .z))))) (.s .z .z)))) H
def zia (a0 a1 : Value) (h : Heap) (R : Value → Heap → Prop) : Prop :=
 newK (Value.cells a0) 67 h fun v1 h2 =>
 newK (Value.cells a1) 84 h2 fun v3 h4 =>
 vK (ldsV 3 h4 v1) fun v5 =>
 vK (fldV 1 v3) fun v6 =>
 vK (ldsV 4 h4 v6) fun v7 =>
 FCall prog zdM #[v5, v7] h4 fun v8 h9 =>
 vK (unV .not v8) fun v10 =>
 iteK v10 (
 R (.int .i64 0) h9) (
 vK (fldV 1 v3) fun v11 =>
 vK (fldV 3 v11) fun v12 =>
 vK (ldV h9 v12) fun v13 =>
 vK (fldV 1 v1) fun v14 =>
 vK (ldV h9 v14) fun v15 =>
 vK (fldV 1 v3) fun v16 =>
 vK (fldV 1 v16) fun v17 =>
 vK (ldV h9 v17) fun v18 =>
 FCall prog zak #[v15, v18] h9 fun v19 h20 =>
 vK (partV false 1 0 v19) fun v21 =>
 vK (fldV 1 v3) fun v22 =>
 vK (fldV 3 v22) fun v23 =>
 vK (ldV h20 v23) fun v24 =>
 loopK [v13, v21, (.int .i64 0)] h20 fun x25 j26 h27 again28 =>
 vK (binV .i .lss (ix x25 2) v24) fun v29 =>
 iteK v29 (
 vK (fldV 1 v1) fun v30 =>
 vK (ldV h27 v30) fun v31 =>
 vK (fldV 1 v3) fun v32 =>
 vK (fldV 1 v32) fun v33 =>
 vK (ldV h27 v33) fun v34 =>
 vK (binV .i .add v34 (ix x25 2)) fun v35 =>
 FCall prog zak #[v31, v35] h27 fun v36 h37 =>
 newK #[(.int .i64 0), (.slice none 0 0)] 160 h37 fun v38 h39 =>
 stK 2 v38 v36 h39 fun v40 h41 =>
 vK (fldV 0 v38) fun v42 =>
 vK (ldV h41 v42) fun v43 =>
 vK (fldV 1 v38) fun v44 =>
 vK (ldV h41 v44) fun v45 =>
 vK (zag v45) fun v46 =>
 vK (binV .i .add v43 v46) fun v47 =>
 vK (fldV 0 v38) fun v48 =>
 vK (ldV h41 v48) fun v49 =>
 vK (maxV (ix x25 1) v49) fun v50 =>
 vK (binV .i .sub v47 v50) fun v51 =>
 vK (maxV (.int .i64 0) v51) fun v52 =>
 vK (binV .i .add (ix x25 0) v52) fun v53 =>
 vK (maxV (ix x25 1) v47) fun v54 =>
 vK (binV .i .add (ix x25 2) (.int .i64 1)) fun v55 =>
 again28 [v53, v54, v55] h41) (
 R (ix x25 0) h27))
theorem zn1 (H : zia a0 a1 h R) : FCall prog zgB #[a0, a1] h R := fk f39 (.s .z (.s (.s .z (.s (.s .z .z) .z)) (.s .z (.s .z (.s (.s .z (.l 288230375883277280 [5, 6, 28] (.s .z (.s (.s .z .z) (.s (.s .z (.s .z (.s .z (.s .z .z)))) .z))))) (.s .z .z)))))) H
def zjI (a0 a1 : Value) (h : Heap) (R : Value → Heap → Prop) : Prop :=
 newK (Value.cells a0) 113 h fun v1 h2 =>
 newK (Value.cells a1) 113 h2 fun v3 h4 =>
 vK (fldV 0 v1) fun v5 =>
 vK (ldV h4 v5) fun v6 =>
 vK (fldV 0 v3) fun v7 =>
 vK (ldV h4 v7) fun v8 =>
 vK (binV .i .eql v6 v8) fun v9 =>
 vK (gV v9 true (fldV 1 v1)) fun v10 =>
 vK (gV v9 true (ldV h4 v10)) fun v11 =>
 vK (gV v9 true (fldV 1 v3)) fun v12 =>
 vK (gV v9 true (ldV h4 v12)) fun v13 =>
 vK (gV v9 true (binV .i .eql v11 v13)) fun v14 =>
 vK (pickV v9 v14 (.bool false)) fun v15 =>
 vK (gV v15 true (fldV 2 v1)) fun v16 =>
 vK (gV v15 true (ldV h4 v16)) fun v17 =>
 vK (gV v15 true (fldV 2 v3)) fun v18 =>
 vK (gV v15 true (ldV h4 v18)) fun v19 =>
 vK (gV v15 true (binV .i .eql v17 v19)) fun v20 =>
 vK (pickV v15 v20 (.bool false)) fun v21 =>
 vK (gV v21 true (fldV 3 v1)) fun v22 =>
 vK (gV v21 true (ldV h4 v22)) fun v23 =>
 vK (gV v21 true (fldV 3 v3)) fun v24 =>
 vK (gV v21 true (ldV h4 v24)) fun v25 =>
 vK (gV v21 true (binV .i .eql v23 v25)) fun v26 =>
 vK (pickV v21 v26 (.bool false)) fun v27 =>
 vK (gV v27 true (fldV 4 v1)) fun v28 =>
 vK (gV v27 true (ldV h4 v28)) fun v29 =>
 vK (gV v27 true (fldV 4 v3)) fun v30 =>
 vK (gV v27 true (ldV h4 v30)) fun v31 =>
 gK v27 true (fun k35 => FCall prog ziJ #[v29, v31] h4 k35) h4 fun v32 h33 =>
 vK (pickV v27 v32 (.bool false)) fun v34 =>
 R v34 h33
theorem zpf (H : zjI a0 a1 h R) : FCall prog zhA #[a0, a1] h R := fk f40 (.s .z (.s .z .z)) H
def zmK (a0 : Value) (h : Heap) (R : Value → Heap → Prop) : Prop :=
 newK #[(.int .i64 0), (.int .i64 0), (.int .i64 0), (.int .i64 0), (.slice none 0 0)] 113 h fun v1 h2 =>
 FCall prog zaB #[a0] h2 fun v3 h4 =>
 FCall prog zaz #[a0] h4 fun v5 h6 =>
 FCall prog zae #[a0] h6 fun v7 h8 =>
 FCall prog zal #[a0] h8 fun v9 h10 =>
 FCall prog zbN #[a0] h10 fun v11 h12 =>
 vK ((fillL #[(.int .i64 0), (.int .i64 0), (.int .i64 0), (.int .i64 0), (.slice none 0 0)] [(0, 1, v3), (1, 1, v5), (2, 1, v7), (3, 1, v9), (4, 1, v11)]).map .agg) fun v13 =>
 stK 5 v1 v13 h12 fun v14 h15 =>
 vK (ldsV 5 h15 v1) fun v16 =>
 R v16 h15
theorem ok_law09_Ref (H : zmK a0 h R) : FCall prog zhy #[a0] h R := fk f41 (.s .z (.s .z .z)) H
def zjs (a0 a1 : Value) (h : Heap) (R : Value → Heap → Prop) : Prop :=
 newK (Value.cells a0) 113 h fun v1 h2 =>
 newK (Value.cells a1) 76 h2 fun v3 h4 =>
 newK #[(.int .i64 0), (.int .i64 0), (.int .i64 0), (.int .i64 0), (.slice none 0 0)] 113 h4 fun v5 h6 =>
 vK (fldV 0 v3) fun v7 =>
 vK (ldV h6 v7) fun v8 =>
 vK (zag v8) fun v9 =>
 vK (fldV 1 v3) fun v10 =>
 vK (ldV h6 v10) fun v11 =>
 vK (zag v11) fun v12 =>
 vK (fldV 2 v1) fun v13 =>
 vK (ldV h6 v13) fun v14 =>
 vK (fldV 3 v1) fun v15 =>
 vK (ldV h6 v15) fun v16 =>
 vK ((fillL #[(.int .i64 0), (.int .i64 0), (.int .i64 0), (.int .i64 0), (.slice none 0 0)] [(0, 1, v9), (1, 1, v12), (2, 1, v14), (3, 1, v16)]).map .agg) fun v17 =>
 newK #[(.int .i64 0), (.int .i64 0), (.int .i64 0), (.int .i64 0), (.slice none 0 0)] 113 h6 fun v18 h19 =>
 stK 5 v18 v17 h19 fun v20 h21 =>
 vK (fldV 1 v3) fun v22 =>
 vK (ldV h21 v22) fun v23 =>
 vK (zag v23) fun v24 =>
 loopK [(.int .i64 0)] h21 fun x25 j26 h27 again28 =>
 vK (binV .i .lss (ix x25 0) v24) fun v29 =>
 iteK v29 (
 vK (fldV 0 v3) fun v30 =>
 vK (ldV h27 v30) fun v31 =>
 vK (zag v31) fun v32 =>
 loopK [(.int .i64 0)] h27 fun x33 j34 h35 again36 =>
 vK (binV .i .lss (ix x33 0) v32) fun v37 =>
 iteK v37 (
 vK (fldV 2 v1) fun v38 =>
 vK (ldV h35 v38) fun v39 =>
 loopK [(.int .i64 0)] h35 fun x40 j41 h42 again43 =>
 vK (binV .i .lss (ix x40 0) v39) fun v44 =>
 iteK v44 (
 drawK h42 fun S =>
 vK (fldV 4 v18) fun v45 =>
 qK S (fun h42 => ldV h42 v45) fun v46 =>
 qK S (fun h42 => ldsV 5 h42 v1) fun v47 =>
 qK S (fun h42 => ldsV 5 h42 v3) fun v48 =>
 vK (fldV 3 v1) fun v49 =>
 qK S (fun h42 => ldV h42 v49) fun v50 =>
 FCall prog zkg #[v47, v48, (ix x33 0), (ix x25 0), (ix x40 0)] h42 fun v51 h52 =>
 S h52 ∧ (FCall prog zhn #[v51, v50] h52 fun v53 h54 =>
 S h54 ∧ (rowK #[(.int .u16 0)] 44 1 [(0, 1, v53)] h54 fun v55 h56 =>
 S h56 ∧ (appK (.int .u16 0) 44 1 2 v46 v55 h56 fun v57 h58 =>
 vK (fldV 4 v18) fun v59 =>
 stK 1 v59 v57 h58 fun v60 h61 =>
 vK (binV .i .add (ix x40 0) (.int .i64 1)) fun v62 =>
 again43 [v62] h61)))) (
 vK (binV .i .add (ix x33 0) (.int .i64 1)) fun v63 =>
 again36 [v63] h42)) (
 vK (binV .i .add (ix x25 0) (.int .i64 1)) fun v64 =>
 again28 [v64] h35)) (
 vK (ldsV 5 h27 v18) fun v65 =>
 stK 5 v5 v65 h27 fun v66 h67 =>
 vK (ldsV 5 h67 v5) fun v68 =>
 R v68 h67)
theorem zoZ (H : zjs a0 a1 h R) : FCall prog zho #[a0, a1] h R := fk f42 (.s .z (.s .z (.s (.s .z (.l 18014398501093824 [23] (.s .z (.s (.s .z .z) (.s (.s .z (.s .z (.l 9007198717870464 [29] (.s .z (.s (.s .z .z) (.s (.s .z (.s .z (.l 4503582447501568 [34] (.s .z (.s (.s .z .z) (.s (.s .z (.d (.op 0 .r (.op 1 .r (.op 2 .r (.op 3 .r (.op 4 .r (.op 5 .r (.op 6 .r (.op 8 .r (.op 9 .r (.op 7 .e (.op 10 .e (.op 11 .e (.op 12 .n (.op 13 .r (.op 14 .n .nil))))))))))))))))) .z)))))) .z)))))) .z))))) (.s .z .z)))) H
def zjD (h : Heap) (R : Value → Heap → Prop) : Prop :=
 FCall prog zat #[(.int .i64 3), (.int .i64 1), (.int .i64 1), (.int .i64 255)] h fun v1 h2 =>
 vK (extV v1 0) fun v3 =>
 vK (extV v1 1) fun v4 =>
 vK ((fillL #[(.int .i64 0), (.int .i64 0), (.int .i64 0), (.int .i64 0), (.slice none 0 0), (.slice none 0 0), (.int .i64 0), (.int .i64 0), (.int .i64 0)] [(0, 1, (.int .i64 1)), (3, 1, (.int .i64 1))]).map .agg) fun v5 =>
 FCall prog zfU #[v5, (.int .i64 3), (.int .i64 1)] h2 fun v6 h7 =>
 vK (extV v6 0) fun v8 =>
 vK (extV v6 1) fun v9 =>
 newK #[(.pointer none), (.pointer none), (.int .i64 0)] 67 h7 fun v10 h11 =>
 stK 3 v10 v8 h11 fun v12 h13 =>
 FCall prog zat #[(.int .i64 3), (.int .i64 1), (.int .i64 1), (.int .i64 255)] h13 fun v14 h15 =>
 vK (extV v14 0) fun v16 =>
 vK (extV v14 1) fun v17 =>
 FCall prog zhx #[] h15 fun v18 h19 =>
 vK (unV .not v18) fun v20 =>
 gK v20 false (fun k66 => FCall prog zhw #[] h19 k66) h19 fun v21 h22 =>
 vK (gV v20 false (unV .not v21)) fun v23 =>
 vK (pickV v20 (.bool true) v23) fun v24 =>
 vK (gV v24 false (some v4)) fun v25 =>
 vK (gV v24 false (binV .i .neq v25 (.int .i64 0))) fun v26 =>
 vK (pickV v24 (.bool true) v26) fun v27 =>
 vK (gV v27 false (some v9)) fun v28 =>
 vK (gV v27 false (binV .i .neq v28 (.int .i64 0))) fun v29 =>
 vK (pickV v27 (.bool true) v29) fun v30 =>
 vK (gV v30 false (some v17)) fun v31 =>
 vK (gV v30 false (binV .i .neq v31 (.int .i64 0))) fun v32 =>
 vK (pickV v30 (.bool true) v32) fun v33 =>
 iteK v33 (
 R (.bool false) h22) (
 vK (ldsV 3 h22 v10) fun v34 =>
 vK ((fillL #[(.int .i64 0), (.int .i64 0), (.int .i64 0), (.int .i64 0)] [(2, 1, (.int .i64 3)), (3, 1, (.int .i64 1))]).map .agg) fun v35 =>
 vK ((fillL #[(.int .i64 0), (.int .i64 0), (.int .i64 0), (.int .i64 0), (.int .i64 0), (.int .i64 0), (.int .i64 0), (.int .i64 0), (.int .i64 0), (.int .i64 0)] [(1, 4, v35)]).map .agg) fun v36 =>
 FCall prog zdu #[v3, v16, v34, v36] h22 fun v37 h38 =>
 vK (extV v37 0) fun v39 =>
 vK (extV v37 1) fun v40 =>
 vK (binV .i .neq v40 (.int .i64 0)) fun v41 =>
 vK (gV v41 false (some v39)) fun v42 =>
 vK (gV v41 false (binV .p .eql v42 (.pointer none))) fun v43 =>
 vK (pickV v41 (.bool true) v43) fun v44 =>
 iteK v44 (
 R (.bool false) h38) (
 loopK [(.int .i64 (-1))] h38 fun x45 j46 h47 again48 =>
 vK (binV .i .lss (ix x45 0) (.int .i64 2)) fun v49 =>
 iteK v49 (
 FCall prog zbB #[v39] h47 fun v50 h51 =>
 vK ((fillL #[(.int .i64 0), (.int .i64 0)] [(0, 1, (.int .i64 1)), (1, 1, (ix x45 0))]).map .agg) fun v52 =>
 vK (binV (.st [(0, 1, .i), (1, 1, .i)]) .neq v50 v52) fun v53 =>
 iteK v53 (
 R (.bool false) h51) (
 vK (binV .i .add (ix x45 0) (.int .i64 1)) fun v54 =>
 again48 [v54] h51)) (
 FCall prog zbB #[v39] h47 fun v55 h56 =>
 vK ((fillL #[(.int .i64 0), (.int .i64 0)] [(0, 1, (.int .i64 2))]).map .agg) fun v57 =>
 vK (binV (.st [(0, 1, .i), (1, 1, .i)]) .eql v55 v57) fun v58 =>
 vK (gV v58 true (some v39)) fun v59 =>
 gK v58 true (fun k65 => FCall prog zbB #[v59] h56 k65) h56 fun v60 h61 =>
 vK (gV v58 true ((fillL #[(.int .i64 0), (.int .i64 0)] []).map .agg)) fun v62 =>
 vK (gV v58 true (binV (.st [(0, 1, .i), (1, 1, .i)]) .eql v60 v62)) fun v63 =>
 vK (pickV v58 v63 (.bool false)) fun v64 =>
 R v64 h61)))
theorem zpa (H : zjD h R) : FCall prog zhv #[] h R := fk f43 (.s .z (.s .z (.s .z (.s .z (.s (.s .z (.s (.s .z .z) .z)) (.s .z (.s (.s .z (.s (.s .z .z) .z)) (.s (.s .z (.l 36821430553381175809 [9] (.s (.s .z (.s .z .z)) (.s (.s .z (.s (.s .z .z) .z)) .z)))) (.s .z .z))))))))) H
def zd0 (a0 : Value) (h : Heap) (R : Value → Heap → Prop) : Prop :=
 vK (nilV a0) fun v1 =>
 vK (fldV 2 v1) fun v2 =>
 vK (ldV h v2) fun v3 =>
 vK (gV v3 false (some a0)) fun v4 =>
 vK (gV v3 false (nilV v4)) fun v5 =>
 vK (gV v3 false (fldV 1 v5)) fun v6 =>
 vK (gV v3 false (ldV h v6)) fun v7 =>
 vK (gV v3 false (zag v7)) fun v8 =>
 vK (gV v3 false (some a0)) fun v9 =>
 vK (gV v3 false (nilV v9)) fun v10 =>
 vK (gV v3 false (fldV 0 v10)) fun v11 =>
 vK (gV v3 false (ldV h v11)) fun v12 =>
 vK (gV v3 false (binV .i .lss v8 v12)) fun v13 =>
 vK (pickV v3 (.bool true) v13) fun v14 =>
 R v14 h
theorem zh0 (H : zd0 a0 h R) : FCall prog zcL #[a0] h R := fk f44 (.s .z (.s .z .z)) H
def zf1 (a0 : Value) (h : Heap) (R : Value → Heap → Prop) : Prop :=
 newK #[(.int .i64 0), (.int .i64 0)] 35 h fun v1 h2 =>
 FCall prog zce #[a0] h2 fun v3 h4 =>
 newK #[(.int .i64 0), (.int .i64 0)] 35 h4 fun v5 h6 =>
 stK 2 v5 v3 h6 fun v7 h8 =>
 vK (fldV 0 v5) fun v9 =>
 vK (ldV h8 v9) fun v10 =>
 vK (binV .i .eql v10 (.int .i64 1)) fun v11 =>
 iteK v11 (
 vK (fldV 1 v5) fun v12 =>
 vK (ldV h8 v12) fun v13 =>
 FCall prog zdj #[a0, v13] h8 fun v14 h15 =>
 vK (ldsV 2 h15 v5) fun v16 =>
 stK 2 v1 v16 h15 fun v17 h18 =>
 vK (ldsV 2 h18 v1) fun v19 =>
 R v19 h18) (
 vK (binV .i .eql v10 (.int .i64 2)) fun v20 =>
 iteK v20 (
 FCall prog zdN #[a0] h8 fun v21 h22 =>
 vK (ldsV 2 h22 v5) fun v23 =>
 stK 2 v1 v23 h22 fun v24 h25 =>
 vK (ldsV 2 h25 v1) fun v26 =>
 R v26 h25) (
 vK (ldsV 2 h8 v5) fun v27 =>
 stK 2 v1 v27 h8 fun v28 h29 =>
 vK (ldsV 2 h29 v1) fun v30 =>
 R v30 h29))
theorem zle (H : zf1 a0 h R) : FCall prog zbB #[a0] h R := fk f45 (.s .z (.s .z (.s (.s .z (.s .z (.s .z (.s .z (.s .z .z))))) (.s .z .z)))) H
def zdC (a0 : Value) (h : Heap) (R : Value → Heap → Prop) : Prop :=
 vK (nilV a0) fun v1 =>
 vK (fldV 0 v1) fun v2 =>
 stK 1 v2 (.int .i64 1) h fun v3 h4 =>
 vK (nilV a0) fun v5 =>
 vK (fldV 2 v5) fun v6 =>
 vK (ldV h4 v6) fun v7 =>
 vK (binV .p .eql v7 (.pointer none)) fun v8 =>
 vK (gV v8 false (some a0)) fun v9 =>
 vK (gV v8 false (nilV v9)) fun v10 =>
 vK (gV v8 false (fldV 2 v10)) fun v11 =>
 vK (gV v8 false (ldV h4 v11)) fun v12 =>
 gK v8 false (fun k26 => FCall prog zce #[v12] h4 k26) h4 fun v13 h14 =>
 vK (gV v8 false (partV false 1 0 v13)) fun v15 =>
 vK (gV v8 false (binV .i .eql v15 (.int .i64 0))) fun v16 =>
 vK (pickV v8 (.bool true) v16) fun v17 =>
 iteK v17 (
 vK (nilV a0) fun v18 =>
 vK (fldV 0 v18) fun v19 =>
 stK 1 v19 (.int .i64 0) h14 fun v20 h21 =>
 vK (nilV a0) fun v22 =>
 vK (fldV 2 v22) fun v23 =>
 stK 1 v23 (.pointer none) h21 fun v24 h25 =>
 R (.tuple #[]) h25) (
 R (.tuple #[]) h14)
theorem zg7 (H : zdC a0 h R) : FCall prog zaV #[a0] h R := fk f46 (.s .z (.s .z (.s .z .z))) H
def zdZ (a0 : Value) (h : Heap) (R : Value → Heap → Prop) : Prop :=
 vK (nilV a0) fun v1 =>
 vK (fldV 1 v1) fun v2 =>
 vK (ldV h v2) fun v3 =>
 vK (zag v3) fun v4 =>
 vK (binV .i .gtr v4 (.int .i64 0)) fun v5 =>
 iteK v5 (
 vK (nilV a0) fun v6 =>
 vK (fldV 1 v6) fun v7 =>
 vK (ldV h v7) fun v8 =>
 vK (idxV 1 v8 (.int .i64 0)) fun v9 =>
 vK (ldV h v9) fun v10 =>
 vK (nilV a0) fun v11 =>
 vK (fldV 1 v11) fun v12 =>
 vK (ldV h v12) fun v13 =>
 FCall prog zc0 #[v13, (.int .i64 0), (.int .i64 1)] h fun v14 h15 =>
 vK (nilV a0) fun v16 =>
 vK (fldV 1 v16) fun v17 =>
 stK 1 v17 v14 h15 fun v18 h19 =>
 R (.tuple #[v10, (.int .i64 0)]) h19) (
 vK (nilV a0) fun v20 =>
 vK (fldV 2 v20) fun v21 =>
 vK (ldV h v21) fun v22 =>
 iteK v22 (
 R (.tuple #[(.int .i64 0), (.int .i64 2)]) h) (
 R (.tuple #[(.int .i64 0), (.int .i64 1)]) h))
theorem zhZ (H : zdZ a0 h R) : FCall prog zcK #[a0] h R := fk f47 (.s .z (.s (.s .z (.s (.s .z (.s .z (.s .z .z))) (.s .z (.s (.s .z .z) .z)))) (.s .z .z))) H
def zet (a0 a1 a2 : Value) (h : Heap) (R : Value → Heap → Prop) : Prop :=
 newK #[(.int .i64 0), (.int .i64 0), (.int .i64 0), (.int .i64 0)] 37 h fun v1 h2 =>
 vK (nilV a0) fun v3 =>
 vK (fldV 1 v3) fun v4 =>
 vK (ldV h2 v4) fun v5 =>
 rowK #[(.int .i64 0)] 3 1 [(0, 1, a1)] h2 fun v6 h7 =>
 appK (.int .i64 0) 3 1 8 v5 v6 h7 fun v8 h9 =>
 vK (nilV a0) fun v10 =>
 vK (fldV 1 v10) fun v11 =>
 stK 1 v11 v8 h9 fun v12 h13 =>
 joinK (fun J14 =>
 vK (binV .f .neq a2 .nilFunc) fun v18 =>
 iteK v18 (
 clK prog a2 #[a1] h13 fun v19 h20 =>
 vK (nilV a0) fun v21 =>
 vK (fldV 2 v21) fun v22 =>
 stK 1 v22 v19 h20 fun v23 h24 =>
 J14 [] h24) (
 J14 [] h13))
 fun x15 j16 h17 =>
 vK (nilV a0) fun v25 =>
 vK (fldV 2 v25) fun v26 =>
 vK (ldV h17 v26) fun v27 =>
 vK (binV .p .neq v27 (.pointer none)) fun v28 =>
 iteK v28 (
 drawK h17 fun S =>
 vK (nilV a0) fun v29 =>
 vK (fldV 3 v29) fun v30 =>
 qK S (fun h17 => ldV h17 v30) fun v31 =>
 vK (nilV a0) fun v32 =>
 vK (fldV 2 v32) fun v33 =>
 qK S (fun h17 => ldV h17 v33) fun v34 =>
 FCall prog zcx #[v34] h17 fun v35 h36 =>
 S h36 ∧ (qK S (fun h36 => maxV v31 v35) fun v37 =>
 vK (nilV a0) fun v38 =>
 vK (fldV 3 v38) fun v39 =>
 stK 1 v39 v37 h36 fun v40 h41 =>
 FCall prog zaV #[a0] h41 fun v42 h43 =>
 vK ((fillL #[(.int .i64 0), (.int .i64 0), (.int .i64 0), (.int .i64 0)] [(0, 1, (.int .i64 1)), (1, 1, a1)]).map .agg) fun v44 =>
 stK 4 v1 v44 h43 fun v45 h46 =>
 vK (ldsV 4 h46 v1) fun v47 =>
 R v47 h46)) (
 FCall prog zaV #[a0] h17 fun v48 h49 =>
 vK ((fillL #[(.int .i64 0), (.int .i64 0), (.int .i64 0), (.int .i64 0)] [(0, 1, (.int .i64 1)), (1, 1, a1)]).map .agg) fun v50 =>
 stK 4 v1 v50 h49 fun v51 h52 =>
 vK (ldsV 4 h52 v1) fun v53 =>
 R v53 h52)
theorem ziu (H : zet a0 a1 a2 h R) : FCall prog zc3 #[a0, a1, a2] h R := fk f48 (.s .z (.s .z (.j 33423360 [] (.s .z (.s .z .z)) (.s (.s .z (.s (.d (.op 0 .r (.op 1 .r (.op 2 .r (.op 3 .r (.op 4 .r (.op 5 .r (.op 6 .r (.op 7 .r (.op 8 .r (.op 9 .e (.op 10 .r (.op 11 .r (.op 12 .r (.op 13 .n .nil))))))))))))))) .z)) (.s .z (.s .z .z)))))) H
def zcZ (a0 : Value) (h : Heap) (R : Value → Heap → Prop) : Prop :=
 vK (binV .sl .eql a0 (.slice none 0 0)) fun v1 =>
 iteK v1 (
 R (.slice none 0 0) h) (
 rowK #[] 3 0 [] h fun v2 h3 =>
 appK (.int .i64 0) 3 1 8 v2 a0 h3 fun v4 h5 =>
 R v4 h5)
theorem zfY (H : zcZ a0 h R) : FCall prog zb0 #[a0] h R := fk f49 (.s .z (.s (.s .z (.s (.s .z .z) .z)) (.s .z .z))) H
def zkZ (a0 a1 a2 a3 a4 : Value) (h : Heap) (R : Value → Heap → Prop) : Prop :=
 vK (binV .i .rem a0 (.int .u16 20)) fun v1 =>
 vK (cviV .i64 v1) fun v2 =>
 vK (binV .i .add (.int .i64 1) v2) fun v3 =>
 vK (binV .i .rem a1 (.int .u16 20)) fun v4 =>
 vK (cviV .i64 v4) fun v5 =>
 vK (binV .i .add (.int .i64 1) v5) fun v6 =>
 vK (binV .i .rem a2 (.int .u16 2)) fun v7 =>
 vK (cviV .i64 v7) fun v8 =>
 vK (binV .i .mul (.int .i64 2) v8) fun v9 =>
 vK (binV .i .add (.int .i64 1) v9) fun v10 =>
 vK (cviV .i64 a3) fun v11 =>
 vK (binV .i .rem v11 (.int .i64 65535)) fun v12 =>
 vK (binV .i .add (.int .i64 1) v12) fun v13 =>
 vK (binV .i .mul v3 v6) fun v14 =>
 vK (binV .i .mul v14 v10) fun v15 =>
 mkK (.int .u16 0) 44 1 2 v15 v15 h fun v16 h17 =>
 vK (zag v16) fun v18 =>
 loopK [(.int .i64 0)] h17 fun x19 j20 h21 again22 =>
 vK (binV .i .lss (ix x19 0) v18) fun v23 =>
 iteK v23 (
 vK (zag a4) fun v24 =>
 vK (binV .i .gtr v24 (.int .i64 0)) fun v25 =>
 iteK v25 (
 drawK h21 fun S =>
 qK S (fun h21 => zag a4) fun v26 =>
 vK (binV .i .rem (ix x19 0) v26) fun v27 =>
 vK (idxV 1 a4 v27) fun v28 =>
 qK S (fun h21 => ldV h21 v28) fun v29 =>
 vK (cviV .i64 v29) fun v30 =>
 qK S (fun h21 => zag a4) fun v31 =>
 vK (binV .i .quo (ix x19 0) v31) fun v32 =>
 vK (binV .i .add v30 v32) fun v33 =>
 vK (binV .i .add v13 (.int .i64 1)) fun v34 =>
 vK (binV .i .rem v33 v34) fun v35 =>
 vK (cviV .u16 v35) fun v36 =>
 vK (idxV 1 v16 (ix x19 0)) fun v37 =>
 stK 1 v37 v36 h21 fun v38 h39 =>
 vK (binV .i .add (ix x19 0) (.int .i64 1)) fun v40 =>
 again22 [v40] h39) (
 vK (binV .i .add (ix x19 0) (.int .i64 1)) fun v41 =>
 again22 [v41] h21)) (
 FCall prog zht #[v3, v6, v10, v13, v16] h21 fun v42 h43 =>
 vK (extV v42 0) fun v44 =>
 vK (extV v42 1) fun v45 =>
 vK (binV .i .neq v45 (.int .i64 0)) fun v46 =>
 iteK v46 (
 R (.pointer none) h43) (
 R v44 h43))
theorem zq0 (H : zkZ a0 a1 a2 a3 a4 h R) : FCall prog ziP #[a0, a1, a2, a3, a4] h R := fk f50 (.s .z (.s .z (.s .z (.s .z (.s (.s .z (.l 2361183223842636627968 [44] (.s .z (.s (.s .z .z) (.s (.s .z (.s .z (.s (.d (.op 0 .r (.op 1 .r (.op 2 .r (.op 3 .r (.op 4 .r (.op 5 .r (.op 6 .r (.op 7 .r (.op 8 .r (.op 9 .r (.op 10 .r (.op 11 .r (.op 12 .r (.op 13 .r (.op 14 .r (.op 15 .r (.op 16 .r (.op 17 .r (.op 18 .r (.op 19 .r (.op 20 .n .nil)))))))))))))))))))))) .z))) .z))))) (.s .z (.s (.s .z (.s (.s .z .z) .z)) (.s .z .z)))))))) H
def zil (a0 a1 : Value) (h : Heap) (R : Value → Heap → Prop) : Prop :=
 vK (zag a0) fun v1 =>
 loopK [(.int .i64 0)] h fun x2 j3 h4 again5 =>
 vK (binV .i .lss (ix x2 0) v1) fun v6 =>
 iteK v6 (
 vK (idxV 9 a0 (ix x2 0)) fun v7 =>
 vK (ldsV 9 h4 v7) fun v8 =>
 newK #[(.int .i64 0), (.int .i64 0), (.int .i64 0), (.int .i64 0), (.slice none 0 0), (.slice none 0 0), (.int .i64 0), (.int .i64 0), (.int .i64 0)] 53 h4 fun v9 h10 =>
 stK 9 v9 v8 h10 fun v11 h12 =>
 vK (fldV 4 v9) fun v13 =>
 vK (ldV h12 v13) fun v14 =>
 vK (zag v14) fun v15 =>
 vK (binV .i .gtr v15 (.int .i64 40)) fun v16 =>
 vK (gV v16 false (fldV 5 v9)) fun v17 =>
 vK (gV v16 false (ldV h12 v17)) fun v18 =>
 vK (gV v16 false (zag v18)) fun v19 =>
 vK (gV v16 false (binV .i .gtr v19 (.int .i64 40))) fun v20 =>
 vK (pickV v16 (.bool true) v20) fun v21 =>
 vK (gV v21 false (fldV 2 v9)) fun v22 =>
 vK (gV v21 false (ldV h12 v22)) fun v23 =>
 vK (gV v21 false (binV .i .gtr v23 (.int .i64 262144))) fun v24 =>
 vK (gV v21 false (some v24)) fun v25 =>
 vK (gV v25 true (fldV 2 v9)) fun v26 =>
 vK (gV v25 true (ldV h12 v26)) fun v27 =>
 vK (gV v25 true (binV .i .leq v27 (.int .i64 4194304))) fun v28 =>
 vK (gV v21 false (pickV v25 v28 (.bool false))) fun v29 =>
 vK (pickV v21 (.bool true) v29) fun v30 =>
 vK (gV v30 false (fldV 3 v9)) fun v31 =>
 vK (gV v30 false (ldV h12 v31)) fun v32 =>
 vK (gV v30 false (binV .i .gtr v32 (.int .i64 20))) fun v33 =>
 vK (gV v30 false (some v33)) fun v34 =>
 vK (gV v34 true (fldV 3 v9)) fun v35 =>
 vK (gV v34 true (ldV h12 v35)) fun v36 =>
 vK (gV v34 true (binV .i .lss v36 (.int .i64 512))) fun v37 =>
 vK (gV v30 false (pickV v34 v37 (.bool false))) fun v38 =>
 vK (pickV v30 (.bool true) v38) fun v39 =>
 vK (gV v39 false (fldV 7 v9)) fun v40 =>
 vK (gV v39 false (ldV h12 v40)) fun v41 =>
 vK (gV v39 false (some a1)) fun v42 =>
 vK (gV v39 false (binV .i .gtr v41 v42)) fun v43 =>
 vK (gV v39 false (some v43)) fun v44 =>
 vK (gV v44 true (fldV 7 v9)) fun v45 =>
 vK (gV v44 true (ldV h12 v45)) fun v46 =>
 vK (gV v44 true (binV .i .leq v46 (.int .i64 65536))) fun v47 =>
 vK (gV v39 false (pickV v44 v47 (.bool false))) fun v48 =>
 vK (pickV v39 (.bool true) v48) fun v49 =>
 vK (gV v49 false (fldV 8 v9)) fun v50 =>
 vK (gV v49 false (ldV h12 v50)) fun v51 =>
 vK (gV v49 false (some a1)) fun v52 =>
 vK (gV v49 false (binV .i .gtr v51 v52)) fun v53 =>
 vK (gV v49 false (some v53)) fun v54 =>
 vK (gV v54 true (fldV 8 v9)) fun v55 =>
 vK (gV v54 true (ldV h12 v55)) fun v56 =>
 vK (gV v54 true (binV .i .leq v56 (.int .i64 65536))) fun v57 =>
 vK (gV v49 false (pickV v54 v57 (.bool false))) fun v58 =>
 vK (pickV v49 (.bool true) v58) fun v59 =>
 iteK v59 (
 R (.bool false) h12) (
 vK (binV .i .add (ix x2 0) (.int .i64 1)) fun v60 =>
 again5 [v60] h12)) (
 R (.bool true) h4)
theorem zoc (H : zil a0 a1 h R) : FCall prog zgE #[a0, a1] h R := fk f51 (.s .z (.s (.s .z (.l 73786976294838206032 [9] (.s .z (.s (.s .z .z) (.s (.s .z (.s .z (.s (.s .z .z) .z))) .z))))) (.s .z .z))) H
def sh_op_All (a0 a1 a2 a3 : Value) (h : Heap) (R : Value → Heap → Prop) : Prop :=
 vK (zag a0) fun v1 =>
 vK (binV .i .gtr v1 (.int .i64 16)) fun v2 =>
 iteK v2 (
 R (.tuple #[(.slice none 0 0), (.int .i64 6)]) h) (
 FCall prog zdR #[a1, a2, a3] h fun v3 h4 =>
 vK (unV .not v3) fun v5 =>
 iteK v5 (
 R (.tuple #[(.slice none 0 0), (.int .i64 5)]) h4) (
 vK (zag a0) fun v6 =>
 loopK [a1, a2, (.slice none 0 0), (.int .i64 0)] h4 fun x7 j8 h9 again10 =>
 vK (binV .i .lss (ix x7 3) v6) fun v11 =>
 iteK v11 (
 vK (idxV 9 a0 (ix x7 3)) fun v12 =>
 vK (ldsV 9 h9 v12) fun v13 =>
 newK #[(.int .i64 0), (.int .i64 0), (.int .i64 0), (.int .i64 0), (.slice none 0 0), (.slice none 0 0), (.int .i64 0), (.int .i64 0), (.int .i64 0)] 53 h9 fun v14 h15 =>
 stK 9 v14 v13 h15 fun v16 h17 =>
 vK (ldsV 9 h17 v14) fun v18 =>
 FCall prog zfU #[v18, (ix x7 0), (ix x7 1)] h17 fun v19 h20 =>
 vK (extV v19 0) fun v21 =>
 vK (extV v19 1) fun v22 =>
 newK #[(.pointer none), (.pointer none), (.int .i64 0)] 67 h20 fun v23 h24 =>
 stK 3 v23 v21 h24 fun v25 h26 =>
 vK (binV .i .neq v22 (.int .i64 0)) fun v27 =>
 iteK v27 (
 R (.tuple #[(.slice none 0 0), v22]) h26) (
 vK (ldsV 9 h26 v14) fun v28 =>
 FCall prog zoS #[v28, (ix x7 0), (ix x7 1)] h26 fun v29 h30 =>
 vK (extV v29 0) fun v31 =>
 vK (extV v29 1) fun v32 =>
 FCall prog zdR #[v31, v32, a3] h30 fun v33 h34 =>
 vK (unV .not v33) fun v35 =>
 iteK v35 (
 R (.tuple #[(.slice none 0 0), (.int .i64 5)]) h34) (
 vK (ldsV 3 h34 v23) fun v36 =>
 rowK #[(.pointer none), (.pointer none), (.int .i64 0)] 67 1 [(0, 3, v36)] h34 fun v37 h38 =>
 appK (.agg #[.pointer none, .pointer none, .int .i64 0]) 67 3 24 (ix x7 2) v37 h38 fun v39 h40 =>
 vK (binV .i .add (ix x7 3) (.int .i64 1)) fun v41 =>
 again10 [v31, v32, v39, v41] h40))) (
 R (.tuple #[(ix x7 2), (.int .i64 0)]) h9)))
theorem ok_op_All (H : sh_op_All a0 a1 a2 a3 h R) : FCall prog zrE #[a0, a1, a2, a3] h R := fk f52 (.s .z (.s (.s .z (.s (.s .z .z) (.s .z (.s (.s .z .z) .z)))) (.s .z (.s (.s .z (.l 288230376017524486 [1, 2, 10, 27] (.s .z (.s (.s .z .z) (.s (.s .z (.s .z (.s (.s .z (.s (.s .z .z) .z)) (.s (.s .z (.s .z (.s (.s .z .z) .z))) .z)))) .z))))) (.s .z .z))))) H
def zew (a0 : Value) (h : Heap) (R : Value → Heap → Prop) : Prop :=
 vK (nilV a0) fun v1 =>
 vK (fldV 0 v1) fun v2 =>
 vK (ldV h v2) fun v3 =>
 R v3 h
theorem zix (H : zew a0 h R) : FCall prog zaB #[a0] h R := fk f53 (.s .z (.s .z .z)) H
def zdY (a0 : Value) (h : Heap) (R : Value → Heap → Prop) : Prop :=
 vK (nilV a0) fun v1 =>
 vK (fldV 1 v1) fun v2 =>
 vK (ldV h v2) fun v3 =>
 R v3 h
theorem zhY (H : zdY a0 h R) : FCall prog zaz #[a0] h R := fk f54 (.s .z (.s .z .z)) H
def zmx (a0 a1 a2 a3 : Value) (h : Heap) (R : Value → Heap → Prop) : Prop :=
 vK (zag a0) fun v1 =>
 vK (binV .i .gtr v1 (.int .i64 16)) fun v2 =>
 iteK v2 (
 R (.tuple #[(.slice none 0 0), (.int .i64 6)]) h) (
 FCall prog zgo #[a1, a2, a3] h fun v3 h4 =>
 vK (unV .not v3) fun v5 =>
 iteK v5 (
 R (.tuple #[(.slice none 0 0), (.int .i64 5)]) h4) (
 vK (zag a0) fun v6 =>
 loopK [a1, a2, (.slice none 0 0), (.int .i64 0)] h4 fun x7 j8 h9 again10 =>
 vK (binV .i .lss (ix x7 3) v6) fun v11 =>
 iteK v11 (
 vK (idxV 9 a0 (ix x7 3)) fun v12 =>
 vK (ldsV 9 h9 v12) fun v13 =>
 newK #[(.int .i64 0), (.int .i64 0), (.int .i64 0), (.int .i64 0), (.slice none 0 0), (.slice none 0 0), (.int .i64 0), (.int .i64 0), (.int .i64 0)] 174 h9 fun v14 h15 =>
 stK 9 v14 v13 h15 fun v16 h17 =>
 vK (ldsV 9 h17 v14) fun v18 =>
 FCall prog ziI #[v18, (ix x7 0), (ix x7 1)] h17 fun v19 h20 =>
 vK (extV v19 0) fun v21 =>
 vK (extV v19 1) fun v22 =>
 newK #[(.slice none 0 0), (.slice none 0 0), (.int .i64 0), (.int .i64 0), (.int .i64 0)] 76 h20 fun v23 h24 =>
 stK 5 v23 v21 h24 fun v25 h26 =>
 vK (binV .i .neq v22 (.int .i64 0)) fun v27 =>
 iteK v27 (
 R (.tuple #[(.slice none 0 0), v22]) h26) (
 vK (ldsV 9 h26 v14) fun v28 =>
 FCall prog ziH #[v28, (ix x7 0), (ix x7 1)] h26 fun v29 h30 =>
 vK (extV v29 0) fun v31 =>
 vK (extV v29 1) fun v32 =>
 FCall prog zgo #[v31, v32, a3] h30 fun v33 h34 =>
 vK (unV .not v33) fun v35 =>
 iteK v35 (
 R (.tuple #[(.slice none 0 0), (.int .i64 5)]) h34) (
 vK (ldsV 5 h34 v23) fun v36 =>
 rowK #[(.slice none 0 0), (.slice none 0 0), (.int .i64 0), (.int .i64 0), (.int .i64 0)] 76 1 [(0, 5, v36)] h34 fun v37 h38 =>
 appK (.agg #[.slice none 0 0, .slice none 0 0, .int .i64 0, .int .i64 0, .int .i64 0]) 76 5 72 (ix x7 2) v37 h38 fun v39 h40 =>
 vK (binV .i .add (ix x7 3) (.int .i64 1)) fun v41 =>
 again10 [v31, v32, v39, v41] h40))) (
 R (.tuple #[(ix x7 2), (.int .i64 0)]) h9)))
theorem ok_ref12_All (H : zmx a0 a1 a2 a3 h R) : FCall prog zkh #[a0, a1, a2, a3] h R := fk f55 (.s .z (.s (.s .z (.s (.s .z .z) .z)) (.s (.s .z (.s (.s .z .z) .z)) (.s .z (.s (.s .z (.l 72057594004403974 [1, 2, 10, 25] (.s .z (.s (.s .z .z) (.s (.s .z (.s .z (.s (.s .z (.s (.s .z .z) .z)) (.s .z (.s (.s .z (.s (.s .z .z) .z)) .z))))) .z))))) (.s .z .z)))))) H
def zkY (a0 : Value) (h : Heap) (R : Value → Heap → Prop) : Prop :=
 vK (zag a0) fun v1 =>
 loopK [(.slice none 0 0), (.int .i64 0)] h fun x2 j3 h4 again5 =>
 vK (binV .i .lss (ix x2 1) v1) fun v6 =>
 iteK v6 (
 vK (idxV 9 a0 (ix x2 1)) fun v7 =>
 vK (ldsV 9 h4 v7) fun v8 =>
 newK #[(.int .i64 0), (.int .i64 0), (.int .i64 0), (.int .i64 0), (.slice none 0 0), (.slice none 0 0), (.int .i64 0), (.int .i64 0), (.int .i64 0)] 53 h4 fun v9 h10 =>
 stK 9 v9 v8 h10 fun v11 h12 =>
 vK (ldsV 9 h12 v9) fun v13 =>
 FCall prog zko #[v13] h12 fun v14 h15 =>
 rowK #[(.int .i64 0), (.int .i64 0), (.int .i64 0), (.int .i64 0), (.slice none 0 0), (.slice none 0 0), (.int .i64 0), (.int .i64 0), (.int .i64 0)] 174 1 [(0, 9, v14)] h15 fun v16 h17 =>
 appK (.agg #[.int .i64 0, .int .i64 0, .int .i64 0, .int .i64 0, .slice none 0 0, .slice none 0 0, .int .i64 0, .int .i64 0, .int .i64 0]) 174 9 104 (ix x2 0) v16 h17 fun v18 h19 =>
 vK (binV .i .add (ix x2 1) (.int .i64 1)) fun v20 =>
 again5 [v18, v20] h19) (
 R (ix x2 0) h4)
theorem zqZ (H : zkY a0 h R) : FCall prog ziO #[a0] h R := fk f56 (.s .z (.s .z (.s (.s .z (.l 261928 [3, 8] (.s .z (.s (.s .z .z) (.s (.s .z .z) .z))))) (.s .z .z)))) H
def zjB (a0 a1 a2 : Value) (h : Heap) (R : Value → Heap → Prop) : Prop :=
 vK (binV .i .geq a0 (.int .i64 1)) fun v1 =>
 vK (gV v1 true (some a0)) fun v2 =>
 vK (gV v1 true (binV .i .leq v2 (.int .i64 65536))) fun v3 =>
 vK (pickV v1 v3 (.bool false)) fun v4 =>
 vK (gV v4 true (some a1)) fun v5 =>
 vK (gV v4 true (binV .i .geq v5 (.int .i64 1))) fun v6 =>
 vK (pickV v4 v6 (.bool false)) fun v7 =>
 vK (gV v7 true (some a1)) fun v8 =>
 vK (gV v7 true (binV .i .leq v8 (.int .i64 65536))) fun v9 =>
 vK (pickV v7 v9 (.bool false)) fun v10 =>
 vK (gV v10 true (some a2)) fun v11 =>
 vK (gV v10 true (binV .i .eql v11 (.int .i64 1))) fun v12 =>
 vK (gV v10 true (some v12)) fun v13 =>
 vK (gV v13 false (some a2)) fun v14 =>
 vK (gV v13 false (binV .i .eql v14 (.int .i64 3))) fun v15 =>
 vK (gV v10 true (pickV v13 (.bool true) v15)) fun v16 =>
 vK (pickV v10 v16 (.bool false)) fun v17 =>
 vK (gV v17 true (some a0)) fun v18 =>
 vK (gV v17 true (some a1)) fun v19 =>
 vK (gV v17 true (binV .i .mul v18 v19)) fun v20 =>
 vK (gV v17 true (some a2)) fun v21 =>
 vK (gV v17 true (binV .i .mul v20 v21)) fun v22 =>
 vK (gV v17 true (binV .i .leq v22 (.int .i64 268435456))) fun v23 =>
 vK (pickV v17 v23 (.bool false)) fun v24 =>
 R v24 h
theorem zo8 (H : zjB a0 a1 a2 h R) : FCall prog zdR #[a0, a1, a2] h R := fk f57 (.s .z (.s .z .z)) H
def zmH (a0 : Value) (h : Heap) (R : Value → Heap → Prop) : Prop :=
 vK (binV .i .geq a0 (.int .i64 1)) fun v1 =>
 vK (gV v1 true (some a0)) fun v2 =>
 vK (gV v1 true (binV .i .leq v2 (.int .i64 4096))) fun v3 =>
 vK (pickV v1 v3 (.bool false)) fun v4 =>
 R v4 h
theorem ok_plan_side (H : zmH a0 h R) : FCall prog zhu #[a0] h R := fk f58 (.s .z (.s .z .z)) H
def zhP (a0 a1 : Value) (h : Heap) (R : Value → Heap → Prop) : Prop :=
 newK #[(.int .i64 0), (.int .i64 0), (.int .i64 0), (.int .i64 0)] 82 h fun v1 h2 =>
 drawK h2 fun S =>
 vK (nilV a0) fun v3 =>
 vK (fldV 3 v3) fun v4 =>
 qK S (fun h2 => ldV h2 v4) fun v5 =>
 vK (nilV a0) fun v6 =>
 vK (fldV 4 v6) fun v7 =>
 qK S (fun h2 => ldV h2 v7) fun v8 =>
 FCall prog zbL #[a0] h2 fun v9 h10 =>
 S h10 ∧ (vK (binV .i .rem a1 v9) fun v11 =>
 vK (binV .i .mul v11 v5) fun v12 =>
 FCall prog zbL #[a0] h10 fun v13 h14 =>
 S h14 ∧ (vK (binV .i .quo a1 v13) fun v15 =>
 vK (binV .i .mul v15 v8) fun v16 =>
 drawK h14 fun S =>
 vK (nilV a0) fun v17 =>
 vK (fldV 3 v17) fun v18 =>
 qK S (fun h14 => ldV h14 v18) fun v19 =>
 vK (nilV a0) fun v20 =>
 vK (fldV 0 v20) fun v21 =>
 vK (fldV 0 v21) fun v22 =>
 qK S (fun h14 => ldV h14 v22) fun v23 =>
 vK (nilV a0) fun v24 =>
 vK (fldV 4 v24) fun v25 =>
 qK S (fun h14 => ldV h14 v25) fun v26 =>
 vK (nilV a0) fun v27 =>
 vK (fldV 0 v27) fun v28 =>
 vK (fldV 1 v28) fun v29 =>
 qK S (fun h14 => ldV h14 v29) fun v30 =>
 FCall prog zaj #[v23] h14 fun v31 h32 =>
 S h32 ∧ (vK (binV .i .sub v31 v12) fun v33 =>
 qK S (fun h32 => minV v19 v33) fun v34 =>
 FCall prog zaj #[v30] h32 fun v35 h36 =>
 S h36 ∧ (vK (binV .i .sub v35 v16) fun v37 =>
 qK S (fun h36 => minV v26 v37) fun v38 =>
 vK ((fillL #[(.int .i64 0), (.int .i64 0), (.int .i64 0), (.int .i64 0)] [(0, 1, v12), (1, 1, v16), (2, 1, v34), (3, 1, v38)]).map .agg) fun v39 =>
 stK 4 v1 v39 h36 fun v40 h41 =>
 vK (ldsV 4 h41 v1) fun v42 =>
 R v42 h41))))
theorem zm9 (H : zhP a0 a1 h R) : FCall prog zdS #[a0, a1] h R := fk f62 (.s .z (.s (.d (.op 0 .r (.op 1 .r (.op 4 .r (.op 5 .r (.op 6 .r (.op 7 .r (.op 9 .r (.op 10 .r (.op 13 .r (.op 14 .r (.op 15 .r (.op 16 .r (.op 2 .e (.op 3 .r (.op 8 .r (.op 11 .e (.op 12 .r (.op 17 .r (.op 18 .r (.op 19 .r .nil))))))))))))))))))))) (.s (.d (.op 0 .r (.op 1 .r (.op 2 .r (.op 3 .r (.op 4 .r (.op 5 .r (.op 6 .r (.op 7 .r (.op 8 .r (.op 9 .r (.op 10 .r (.op 12 .r (.op 15 .r (.op 16 .r (.op 17 .r (.op 18 .r (.op 19 .r (.op 20 .r (.op 21 .r (.op 22 .r (.op 23 .r (.op 25 .r (.op 11 .e (.op 13 .r (.op 14 .r (.op 24 .e (.op 26 .r (.op 27 .r (.op 28 .r (.op 29 .n .nil))))))))))))))))))))))))))))))) .z))) H
def zfr (a0 : Value) (h : Heap) (R : Value → Heap → Prop) : Prop :=
 vK (nilV a0) fun v1 =>
 vK (fldV 2 v1) fun v2 =>
 vK (ldV h v2) fun v3 =>
 R v3 h
theorem zj1 (H : zfr a0 h R) : FCall prog zbb #[a0] h R := fk f63 (.s .z (.s .z .z)) H
def zeS (a0 a1 a2 : Value) (h : Heap) (R : Value → Heap → Prop) : Prop :=
 vK (maxV a1 (.int .i64 0)) fun v1 =>
 vK (nilV a0) fun v2 =>
 vK (fldV 1 v2) fun v3 =>
 vK (ldV h v3) fun v4 =>
 vK (zag v4) fun v5 =>
 vK (minV a2 v5) fun v6 =>
 vK (binV .i .geq v1 v6) fun v7 =>
 iteK v7 (
 R (.tuple #[(.int .i64 0), (.int .i64 0)]) h) (
 vK (nilV a0) fun v8 =>
 vK (fldV 1 v8) fun v9 =>
 vK (ldV h v9) fun v10 =>
 vK (idxV 2 v10 v1) fun v11 =>
 vK (fldV 0 v11) fun v12 =>
 vK (ldV h v12) fun v13 =>
 vK (nilV a0) fun v14 =>
 vK (fldV 1 v14) fun v15 =>
 vK (ldV h v15) fun v16 =>
 vK (slcV 2 v16 (some v1) (some v6)) fun v17 =>
 vK (zag v17) fun v18 =>
 loopK [v13, v13, (.int .i64 0)] h fun x19 j20 h21 again22 =>
 vK (binV .i .lss (ix x19 2) v18) fun v23 =>
 iteK v23 (
 vK (idxV 2 v17 (ix x19 2)) fun v24 =>
 vK (ldsV 2 h21 v24) fun v25 =>
 newK #[(.int .i64 0), (.slice none 0 0)] 160 h21 fun v26 h27 =>
 stK 2 v26 v25 h27 fun v28 h29 =>
 vK (fldV 0 v26) fun v30 =>
 vK (ldV h29 v30) fun v31 =>
 vK (minV (ix x19 0) v31) fun v32 =>
 vK (fldV 0 v26) fun v33 =>
 vK (ldV h29 v33) fun v34 =>
 vK (fldV 1 v26) fun v35 =>
 vK (ldV h29 v35) fun v36 =>
 vK (zag v36) fun v37 =>
 vK (binV .i .add v34 v37) fun v38 =>
 vK (maxV (ix x19 1) v38) fun v39 =>
 vK (binV .i .add (ix x19 2) (.int .i64 1)) fun v40 =>
 again22 [v32, v39, v40] h29) (
 vK (binV .i .sub (ix x19 1) (ix x19 0)) fun v41 =>
 R (.tuple #[(ix x19 0), v41]) h21))
theorem zjg (H : zeS a0 a1 a2 h R) : FCall prog zbJ #[a0, a1, a2] h R := fk f64 (.s .z (.s .z (.s (.s .z (.s (.s .z .z) .z)) (.s .z (.s .z (.s (.s .z (.l 144114088564229440 [6, 8, 40] (.s .z (.s (.s .z .z) (.s (.s .z (.s .z .z)) .z))))) (.s .z .z))))))) H
def zh9 (a0 a1 a2 : Value) (h : Heap) (R : Value → Heap → Prop) : Prop :=
 newK (Value.cells a2) 67 h fun v1 h2 =>
 drawK h2 fun S =>
 vK (binV .p .neq a0 (.pointer none)) fun v3 =>
 vK (gV v3 true (some a1)) fun v4 =>
 vK (gV v3 true (binV .p .neq v4 (.pointer none))) fun v5 =>
 vK (pickV v3 v5 (.bool false)) fun v6 =>
 vK (gV v6 true (some a0)) fun v7 =>
 vK (gV v6 true (some a1)) fun v8 =>
 qK S (fun h2 => gV v6 true (peV h2 .neq v7 v8)) fun v9 =>
 vK (pickV v6 v9 (.bool false)) fun v10 =>
 vK (gV v10 true (some a0)) fun v11 =>
 qK S (fun h2 => gV v10 true (ldsV 3 h2 v1)) fun v12 =>
 gK v10 true (fun k58 => FCall prog zdd #[v11, v12] h2 k58) h2 fun v13 h14 =>
 drawK h14 fun S =>
 vK (pickV v10 v13 (.bool false)) fun v15 =>
 vK (gV v15 true (some a1)) fun v16 =>
 vK (gV v15 true (fldV 0 v1)) fun v17 =>
 qK S (fun h14 => gV v15 true (ldV h14 v17)) fun v18 =>
 gK v15 true (fun k57 => FCall prog zaB #[v16] h14 k57) h14 fun v19 h20 =>
 S h20 ∧ (gK v15 true (fun k56 => FCall prog zaj #[v18] h20 k56) h20 fun v21 h22 =>
 drawK h22 fun S =>
 vK (gV v15 true (binV .i .eql v19 v21)) fun v23 =>
 vK (pickV v15 v23 (.bool false)) fun v24 =>
 vK (gV v24 true (some a1)) fun v25 =>
 vK (gV v24 true (fldV 1 v1)) fun v26 =>
 qK S (fun h22 => gV v24 true (ldV h22 v26)) fun v27 =>
 gK v24 true (fun k55 => FCall prog zaz #[v25] h22 k55) h22 fun v28 h29 =>
 S h29 ∧ (gK v24 true (fun k54 => FCall prog zaj #[v27] h29 k54) h29 fun v30 h31 =>
 vK (gV v24 true (binV .i .eql v28 v30)) fun v32 =>
 vK (pickV v24 v32 (.bool false)) fun v33 =>
 vK (gV v33 true (some a1)) fun v34 =>
 vK (gV v33 true (some a0)) fun v35 =>
 gK v33 true (fun k53 => FCall prog zae #[v34] h31 k53) h31 fun v36 h37 =>
 gK v33 true (fun k52 => FCall prog zae #[v35] h37 k52) h37 fun v38 h39 =>
 vK (gV v33 true (binV .i .eql v36 v38)) fun v40 =>
 vK (pickV v33 v40 (.bool false)) fun v41 =>
 vK (gV v41 true (some a1)) fun v42 =>
 vK (gV v41 true (some a0)) fun v43 =>
 gK v41 true (fun k51 => FCall prog zal #[v42] h39 k51) h39 fun v44 h45 =>
 gK v41 true (fun k50 => FCall prog zal #[v43] h45 k50) h45 fun v46 h47 =>
 vK (gV v41 true (binV .i .eql v44 v46)) fun v48 =>
 vK (pickV v41 v48 (.bool false)) fun v49 =>
 R v49 h47))
theorem zn0 (H : zh9 a0 a1 a2 h R) : FCall prog zgA #[a0, a1, a2] h R := fk f65 (.s .z (.s (.d (.op 0 .r (.op 1 .r (.op 2 .r (.op 3 .r (.op 4 .r (.op 5 .r (.op 6 .r (.op 7 .r (.op 8 .r (.op 9 .r (.op 10 .r (.op 11 .r (.op 12 .r (.op 13 .r (.op 14 .f (.op 15 .r (.op 16 .r (.op 17 .r (.op 19 .r (.op 20 .r (.op 18 .e (.op 21 .f (.op 22 .r (.op 23 .r (.op 24 .r (.op 25 .r (.op 27 .r (.op 28 .r (.op 26 .e (.op 29 .n (.op 30 .r (.op 31 .r (.op 32 .r (.op 33 .r (.op 35 .r (.op 34 .n (.op 36 .n (.op 37 .r (.op 38 .r (.op 39 .r (.op 40 .r (.op 42 .r (.op 41 .n (.op 43 .n (.op 44 .r (.op 45 .r (.op 46 .r .nil)))))))))))))))))))))))))))))))))))))))))))))))) .z)) H
def zhG (a0 a1 : Value) (h : Heap) (R : Value → Heap → Prop) : Prop :=
 newK (Value.cells a0) 67 h fun v1 h2 =>
 newK (Value.cells a1) 82 h2 fun v3 h4 =>
 drawK h4 fun S =>
 vK (fldV 0 v1) fun v5 =>
 qK S (fun h4 => ldV h4 v5) fun v6 =>
 vK (binV .p .neq v6 (.pointer none)) fun v7 =>
 vK (gV v7 true (fldV 1 v1)) fun v8 =>
 qK S (fun h4 => gV v7 true (ldV h4 v8)) fun v9 =>
 vK (gV v7 true (binV .p .neq v9 (.pointer none))) fun v10 =>
 vK (pickV v7 v10 (.bool false)) fun v11 =>
 vK (gV v11 true (fldV 2 v3)) fun v12 =>
 qK S (fun h4 => gV v11 true (ldV h4 v12)) fun v13 =>
 vK (gV v11 true (binV .i .geq v13 (.int .i64 1))) fun v14 =>
 vK (pickV v11 v14 (.bool false)) fun v15 =>
 vK (gV v15 true (fldV 3 v3)) fun v16 =>
 qK S (fun h4 => gV v15 true (ldV h4 v16)) fun v17 =>
 vK (gV v15 true (binV .i .geq v17 (.int .i64 1))) fun v18 =>
 vK (pickV v15 v18 (.bool false)) fun v19 =>
 vK (gV v19 true (fldV 0 v3)) fun v20 =>
 qK S (fun h4 => gV v19 true (ldV h4 v20)) fun v21 =>
 vK (gV v19 true (binV .i .geq v21 (.int .i64 0))) fun v22 =>
 vK (pickV v19 v22 (.bool false)) fun v23 =>
 vK (gV v23 true (fldV 1 v3)) fun v24 =>
 qK S (fun h4 => gV v23 true (ldV h4 v24)) fun v25 =>
 vK (gV v23 true (binV .i .geq v25 (.int .i64 0))) fun v26 =>
 vK (pickV v23 v26 (.bool false)) fun v27 =>
 vK (gV v27 true (fldV 0 v3)) fun v28 =>
 qK S (fun h4 => gV v27 true (ldV h4 v28)) fun v29 =>
 vK (gV v27 true (fldV 0 v1)) fun v30 =>
 qK S (fun h4 => gV v27 true (ldV h4 v30)) fun v31 =>
 gK v27 true (fun k69 => FCall prog zaj #[v31] h4 k69) h4 fun v32 h33 =>
 S h33 ∧ (vK (gV v27 true (binV .i .lss v29 v32)) fun v34 =>
 vK (pickV v27 v34 (.bool false)) fun v35 =>
 vK (gV v35 true (fldV 1 v3)) fun v36 =>
 qK S (fun h33 => gV v35 true (ldV h33 v36)) fun v37 =>
 vK (gV v35 true (fldV 1 v1)) fun v38 =>
 qK S (fun h33 => gV v35 true (ldV h33 v38)) fun v39 =>
 gK v35 true (fun k68 => FCall prog zaj #[v39] h33 k68) h33 fun v40 h41 =>
 S h41 ∧ (vK (gV v35 true (binV .i .lss v37 v40)) fun v42 =>
 vK (pickV v35 v42 (.bool false)) fun v43 =>
 vK (gV v43 true (fldV 2 v3)) fun v44 =>
 qK S (fun h41 => gV v43 true (ldV h41 v44)) fun v45 =>
 vK (gV v43 true (fldV 0 v1)) fun v46 =>
 qK S (fun h41 => gV v43 true (ldV h41 v46)) fun v47 =>
 vK (gV v43 true (fldV 0 v3)) fun v48 =>
 qK S (fun h41 => gV v43 true (ldV h41 v48)) fun v49 =>
 gK v43 true (fun k67 => FCall prog zaj #[v47] h41 k67) h41 fun v50 h51 =>
 S h51 ∧ (vK (gV v43 true (binV .i .sub v50 v49)) fun v52 =>
 vK (gV v43 true (binV .i .leq v45 v52)) fun v53 =>
 vK (pickV v43 v53 (.bool false)) fun v54 =>
 vK (gV v54 true (fldV 3 v3)) fun v55 =>
 qK S (fun h51 => gV v54 true (ldV h51 v55)) fun v56 =>
 vK (gV v54 true (fldV 1 v1)) fun v57 =>
 qK S (fun h51 => gV v54 true (ldV h51 v57)) fun v58 =>
 vK (gV v54 true (fldV 1 v3)) fun v59 =>
 qK S (fun h51 => gV v54 true (ldV h51 v59)) fun v60 =>
 gK v54 true (fun k66 => FCall prog zaj #[v58] h51 k66) h51 fun v61 h62 =>
 S h62 ∧ (vK (gV v54 true (binV .i .sub v61 v60)) fun v63 =>
 vK (gV v54 true (binV .i .leq v56 v63)) fun v64 =>
 vK (pickV v54 v64 (.bool false)) fun v65 =>
 R v65 h62))))
theorem zm0 (H : zhG a0 a1 h R) : FCall prog zdM #[a0, a1] h R := fk f66 (.s .z (.s (.d (.op 0 .r (.op 1 .r (.op 2 .r (.op 3 .r (.op 4 .r (.op 5 .r (.op 6 .r (.op 7 .r (.op 8 .r (.op 9 .r (.op 10 .r (.op 11 .r (.op 12 .r (.op 13 .r (.op 14 .r (.op 15 .r (.op 16 .r (.op 17 .r (.op 18 .r (.op 19 .r (.op 20 .r (.op 21 .r (.op 22 .r (.op 23 .r (.op 24 .r (.op 25 .r (.op 26 .r (.op 27 .r (.op 28 .r (.op 29 .r (.op 30 .r (.op 31 .r (.op 32 .r (.op 33 .e (.op 34 .r (.op 35 .r (.op 36 .r (.op 37 .r (.op 38 .r (.op 39 .r (.op 40 .r (.op 41 .e (.op 42 .r (.op 43 .r (.op 44 .r (.op 45 .r (.op 46 .r (.op 47 .r (.op 48 .r (.op 50 .r (.op 51 .r (.op 49 .e (.op 52 .r (.op 53 .r (.op 54 .r (.op 55 .r (.op 56 .r (.op 57 .r (.op 58 .r (.op 59 .r (.op 61 .r (.op 62 .r (.op 60 .e (.op 63 .r (.op 64 .r (.op 65 .r (.op 66 .r .nil)))))))))))))))))))))))))))))))))))))))))))))))))))))))))))))))))))) .z)) H
def znE (a0 a1 : Value) (h : Heap) (R : Value → Heap → Prop) : Prop :=
 vK (maxV (.int .i64 1) a0) fun v1 =>
 vK (minV v1 (.int .i64 65536)) fun v2 =>
 vK (maxV (.int .i64 0) a1) fun v3 =>
 vK (minV v3 (.int .i64 262144)) fun v4 =>
 newmK h fun v5 h6 =>
 vK ((fillL #[(.int .i64 0), (.int .i64 0), (.map none), (.slice none 0 0)] [(0, 1, v2), (1, 1, v4), (2, 1, v5)]).map .agg) fun v7 =>
 newK (Value.cells v7) 183 h6 fun v8 h9 =>
 R v8 h9
theorem ok_ring_New (H : znE a0 a1 h R) : FCall prog zmj #[a0, a1] h R := fk f67 (.s .z (.s .z .z)) H
def zc7 (a0 : Value) (h : Heap) (R : Value → Heap → Prop) : Prop :=
 vK (nilV a0) fun v1 =>
 vK (fldV 2 v1) fun v2 =>
 vK (ldV h v2) fun v3 =>
 vK (gV v3 false (some a0)) fun v4 =>
 vK (gV v3 false (nilV v4)) fun v5 =>
 vK (gV v3 false (fldV 1 v5)) fun v6 =>
 vK (gV v3 false (ldV h v6)) fun v7 =>
 vK (gV v3 false (zag v7)) fun v8 =>
 vK (gV v3 false (binV .i .gtr v8 (.int .i64 0))) fun v9 =>
 vK (pickV v3 (.bool true) v9) fun v10 =>
 R v10 h
theorem zgw (H : zc7 a0 h R) : FCall prog zch #[a0] h R := fk f69 (.s .z (.s .z .z)) H
def zeV (a0 : Value) (h : Heap) (R : Value → Heap → Prop) : Prop :=
 drawK h fun S =>
 vK (nilV a0) fun v1 =>
 vK (fldV 0 v1) fun v2 =>
 vK (fldV 0 v2) fun v3 =>
 qK S (fun h => ldV h v3) fun v4 =>
 vK (nilV a0) fun v5 =>
 vK (fldV 3 v5) fun v6 =>
 qK S (fun h => ldV h v6) fun v7 =>
 FCall prog zaj #[v4] h fun v8 h9 =>
 S h9 ∧ (FCall prog zgt #[v8, v7] h9 fun v10 h11 =>
 R v10 h11)
theorem zjj (H : zeV a0 h R) : FCall prog zbL #[a0] h R := fk f70 (.s .z (.s (.d (.op 0 .r (.op 1 .r (.op 2 .r (.op 3 .r (.op 4 .r (.op 6 .r (.op 7 .r (.op 8 .r (.op 9 .r (.op 5 .e (.op 10 .n (.op 11 .r .nil))))))))))))) .z)) H
def zkW (a0 a1 : Value) (h : Heap) (R : Value → Heap → Prop) : Prop :=
 vK (binV .i .add a0 a1) fun v1 =>
 vK (binV .i .sub v1 (.int .i64 1)) fun v2 =>
 vK (binV .i .quo v2 a1) fun v3 =>
 R v3 h
theorem zqX (H : zkW a0 a1 h R) : FCall prog zgt #[a0, a1] h R := fk f71 (.s .z (.s .z .z)) H
def zf5 (a0 : Value) (h : Heap) (R : Value → Heap → Prop) : Prop :=
 vK (nilV a0) fun v1 =>
 vK (fldV 0 v1) fun v2 =>
 vK (ldV h v2) fun v3 =>
 vK (nilV a0) fun v4 =>
 vK (fldV 1 v4) fun v5 =>
 vK (ldV h v5) fun v6 =>
 vK (binV .i .mul v3 v6) fun v7 =>
 R v7 h
theorem zli (H : zf5 a0 h R) : FCall prog zeb #[a0] h R := fk f72 (.s .z (.s .z .z)) H
def zfs (a0 a1 : Value) (h : Heap) (R : Value → Heap → Prop) : Prop :=
 newK #[(.int .i64 0), (.slice none 0 0)] 160 h fun v1 h2 =>
 vK (binV .i .lss a1 (.int .i64 0)) fun v3 =>
 vK (gV v3 false (some a1)) fun v4 =>
 vK (gV v3 false (some a0)) fun v5 =>
 vK (gV v3 false (nilV v5)) fun v6 =>
 vK (gV v3 false (fldV 1 v6)) fun v7 =>
 vK (gV v3 false (ldV h2 v7)) fun v8 =>
 vK (gV v3 false (zag v8)) fun v9 =>
 vK (gV v3 false (binV .i .geq v4 v9)) fun v10 =>
 vK (pickV v3 (.bool true) v10) fun v11 =>
 iteK v11 (
 vK ((fillL #[(.int .i64 0), (.slice none 0 0)] []).map .agg) fun v12 =>
 stK 2 v1 v12 h2 fun v13 h14 =>
 vK (ldsV 2 h14 v1) fun v15 =>
 R v15 h14) (
 drawK h2 fun S =>
 vK (nilV a0) fun v16 =>
 vK (fldV 1 v16) fun v17 =>
 qK S (fun h2 => ldV h2 v17) fun v18 =>
 vK (idxV 2 v18 a1) fun v19 =>
 vK (fldV 0 v19) fun v20 =>
 qK S (fun h2 => ldV h2 v20) fun v21 =>
 vK (nilV a0) fun v22 =>
 vK (fldV 1 v22) fun v23 =>
 qK S (fun h2 => ldV h2 v23) fun v24 =>
 vK (idxV 2 v24 a1) fun v25 =>
 vK (fldV 1 v25) fun v26 =>
 qK S (fun h2 => ldV h2 v26) fun v27 =>
 FCall prog zaL #[v27] h2 fun v28 h29 =>
 S h29 ∧ (vK ((fillL #[(.int .i64 0), (.slice none 0 0)] [(0, 1, v21), (1, 1, v28)]).map .agg) fun v30 =>
 stK 2 v1 v30 h29 fun v31 h32 =>
 vK (ldsV 2 h32 v1) fun v33 =>
 R v33 h32))
theorem zj2 (H : zfs a0 a1 h R) : FCall prog zak #[a0, a1] h R := fk f73 (.s .z (.s (.s .z (.s (.s .z .z) .z)) (.s (.d (.op 0 .r (.op 1 .r (.op 2 .r (.op 3 .r (.op 4 .r (.op 5 .r (.op 6 .r (.op 7 .r (.op 8 .r (.op 9 .r (.op 10 .r (.op 11 .r (.op 12 .r (.op 13 .r (.op 14 .r (.op 15 .r (.op 16 .e (.op 17 .r (.op 18 .n .nil)))))))))))))))))))) .z))) H
def zkG (a0 a1 : Value) (h : Heap) (R : Value → Heap → Prop) : Prop :=
 vK (zag a0) fun v1 =>
 vK (zag a1) fun v2 =>
 vK (binV .i .neq v1 v2) fun v3 =>
 iteK v3 (
 R (.bool false) h) (
 vK (zag a0) fun v4 =>
 loopK [(.int .i64 0)] h fun x5 j6 h7 again8 =>
 vK (binV .i .lss (ix x5 0) v4) fun v9 =>
 iteK v9 (
 vK (idxV 1 a0 (ix x5 0)) fun v10 =>
 vK (ldV h7 v10) fun v11 =>
 vK (idxV 1 a1 (ix x5 0)) fun v12 =>
 vK (ldV h7 v12) fun v13 =>
 vK (binV .i .neq v11 v13) fun v14 =>
 iteK v14 (
 R (.bool false) h7) (
 vK (binV .i .add (ix x5 0) (.int .i64 1)) fun v15 =>
 again8 [v15] h7)) (
 R (.bool true) h7))
theorem zqH (H : zkG a0 a1 h R) : FCall prog ziJ #[a0, a1] h R := fk f74 (.s .z (.s (.s .z (.s (.s .z .z) .z)) (.s (.s .z (.l 67100720 [13] (.s .z (.s (.s .z .z) (.s (.s .z (.s .z (.s (.s .z .z) .z))) .z))))) (.s .z .z)))) H
def zdD (a0 : Value) (h : Heap) (R : Value → Heap → Prop) : Prop :=
 vK (nilV a0) fun v1 =>
 vK (fldV 4 v1) fun v2 =>
 vK (ldV h v2) fun v3 =>
 FCall prog zbg #[v3] h fun v4 h5 =>
 R v4 h5
theorem zg8 (H : zdD a0 h R) : FCall prog zbN #[a0] h R := fk f75 (.s .z (.s .z .z)) H
def zjr (a0 a1 : Value) (h : Heap) (R : Value → Heap → Prop) : Prop :=
 FCall prog zcT #[a0, (.int .i64 28)] h fun v1 h2 =>
 joinK (fun J3 =>
 vK (binV .i .lss a1 (.int .i64 0)) fun v7 =>
 iteK v7 (
 J3 [(.int .i64 0)] h2) (
 J3 [a1] h2))
 fun x4 j5 h6 =>
 vK (binV .i .gtr (ix x4 0) (.int .i64 65535)) fun v8 =>
 iteK v8 (
 vK (binV .i .lss v1 (.int .i64 0)) fun v9 =>
 iteK v9 (
 R (.int .u16 0) h6) (
 vK (binV .i .gtr v1 (.int .i64 65535)) fun v10 =>
 iteK v10 (
 vK (cviV .u16 (.int .i64 65535)) fun v11 =>
 R v11 h6) (
 vK (cviV .u16 v1) fun v12 =>
 R v12 h6))) (
 vK (binV .i .lss v1 (.int .i64 0)) fun v13 =>
 iteK v13 (
 R (.int .u16 0) h6) (
 vK (binV .i .gtr v1 (ix x4 0)) fun v14 =>
 iteK v14 (
 vK (cviV .u16 (ix x4 0)) fun v15 =>
 R v15 h6) (
 vK (cviV .u16 v1) fun v16 =>
 R v16 h6)))
theorem zoY (H : zjr a0 a1 h R) : FCall prog zhn #[a0, a1] h R := fk f76 (.s .z (.s .z (.j 770 [1] (.s .z (.s .z .z)) (.s (.s .z (.s .z .z)) (.s (.s .z (.s (.s .z .z) .z)) (.s (.s .z (.s (.s .z .z) .z)) (.s .z .z))))))) H
def zmw (a0 a1 a2 a3 a4 : Value) (h : Heap) (R : Value → Heap → Prop) : Prop :=
 newK (Value.cells a0) 113 h fun v1 h2 =>
 newK (Value.cells a1) 76 h2 fun v3 h4 =>
 vK (fldV 0 v3) fun v5 =>
 vK (ldV h4 v5) fun v6 =>
 vK (idxV 2 v6 a2) fun v7 =>
 vK (fldV 1 v7) fun v8 =>
 vK (ldV h4 v8) fun v9 =>
 vK (zag v9) fun v10 =>
 loopK [(.int .i64 0), (.int .i64 0)] h4 fun x11 j12 h13 again14 =>
 vK (binV .i .lss (ix x11 1) v10) fun v15 =>
 iteK v15 (
 vK (idxV 1 v9 (ix x11 1)) fun v16 =>
 vK (ldV h13 v16) fun v17 =>
 drawK h13 fun S =>
 vK (fldV 4 v3) fun v18 =>
 qK S (fun h13 => ldV h13 v18) fun v19 =>
 vK (fldV 0 v3) fun v20 =>
 qK S (fun h13 => ldV h13 v20) fun v21 =>
 vK (idxV 2 v21 a2) fun v22 =>
 vK (fldV 0 v22) fun v23 =>
 qK S (fun h13 => ldV h13 v23) fun v24 =>
 vK (binV .i .add v24 (ix x11 1)) fun v25 =>
 vK (fldV 0 v1) fun v26 =>
 qK S (fun h13 => ldV h13 v26) fun v27 =>
 FCall prog zja #[v19, v25, v27] h13 fun v28 h29 =>
 vK (fldV 1 v3) fun v30 =>
 vK (ldV h29 v30) fun v31 =>
 vK (idxV 2 v31 a3) fun v32 =>
 vK (fldV 1 v32) fun v33 =>
 vK (ldV h29 v33) fun v34 =>
 vK (zag v34) fun v35 =>
 loopK [(.int .i64 0), (.int .i64 0)] h29 fun x36 j37 h38 again39 =>
 vK (binV .i .lss (ix x36 1) v35) fun v40 =>
 iteK v40 (
 vK (idxV 1 v34 (ix x36 1)) fun v41 =>
 vK (ldV h38 v41) fun v42 =>
 drawK h38 fun S =>
 vK (fldV 4 v3) fun v43 =>
 qK S (fun h38 => ldV h38 v43) fun v44 =>
 vK (fldV 1 v3) fun v45 =>
 qK S (fun h38 => ldV h38 v45) fun v46 =>
 vK (idxV 2 v46 a3) fun v47 =>
 vK (fldV 0 v47) fun v48 =>
 qK S (fun h38 => ldV h38 v48) fun v49 =>
 vK (binV .i .add v49 (ix x36 1)) fun v50 =>
 vK (fldV 1 v1) fun v51 =>
 qK S (fun h38 => ldV h38 v51) fun v52 =>
 FCall prog zja #[v44, v50, v52] h38 fun v53 h54 =>
 vK (ldsV 5 h54 v1) fun v55 =>
 FCall prog zml #[v55, v28, v53, a4] h54 fun v56 h57 =>
 vK (cviV .i64 v56) fun v58 =>
 vK (binV .i .mul v42 v58) fun v59 =>
 vK (binV .i .add (ix x36 0) v59) fun v60 =>
 vK (binV .i .add (ix x36 1) (.int .i64 1)) fun v61 =>
 again39 [v60, v61] h57) (
 vK (binV .i .mul v17 (ix x36 0)) fun v62 =>
 vK (binV .i .add (ix x11 0) v62) fun v63 =>
 vK (binV .i .add (ix x11 1) (.int .i64 1)) fun v64 =>
 again14 [v63, v64] h38)) (
 R (ix x11 0) h13)
theorem ok_ref15_Sum (H : zmw a0 a1 a2 a3 a4 h R) : FCall prog zkg #[a0, a1, a2, a3, a4] h R := fk f77 (.s .z (.s .z (.s (.s .z (.l 77371252455336267114608640 [11, 26] (.s .z (.s (.s .z .z) (.s (.s .z (.s (.d (.op 0 .r (.op 1 .r (.op 2 .r (.op 3 .r (.op 4 .r (.op 5 .r (.op 6 .r (.op 7 .r (.op 8 .r (.op 9 .r (.op 10 .r (.op 11 .r (.op 12 .n (.op 13 .r .nil))))))))))))))) (.s .z (.s (.s .z (.l 1208925817362829361512448 [15, 51] (.s .z (.s (.s .z .z) (.s (.s .z (.s (.d (.op 0 .r (.op 1 .r (.op 2 .r (.op 3 .r (.op 4 .r (.op 5 .r (.op 6 .r (.op 7 .r (.op 8 .r (.op 9 .r (.op 10 .r (.op 11 .r (.op 12 .n (.op 13 .r .nil))))))))))))))) .z)) .z))))) .z)))) .z))))) (.s .z .z)))) H
def zpA (a0 a1 a2 : Value) (h : Heap) (R : Value → Heap → Prop) : Prop :=
 newK (Value.cells a0) 53 h fun v1 h2 =>
 newK #[(.pointer none), (.pointer none), (.int .i64 0)] 67 h2 fun v3 h4 =>
 vK (ldsV 9 h4 v1) fun v5 =>
 FCall prog zrD #[v5] h4 fun v6 h7 =>
 vK (unV .not v6) fun v8 =>
 vK (gV v8 false (some a1)) fun v9 =>
 gK v8 false (fun k41 => FCall prog zgZ #[v9] h7 k41) h7 fun v10 h11 =>
 vK (gV v8 false (unV .not v10)) fun v12 =>
 vK (pickV v8 (.bool true) v12) fun v13 =>
 vK (gV v13 false (some a2)) fun v14 =>
 gK v13 false (fun k40 => FCall prog zgZ #[v14] h11 k40) h11 fun v15 h16 =>
 vK (gV v13 false (unV .not v15)) fun v17 =>
 vK (pickV v13 (.bool true) v17) fun v18 =>
 iteK v18 (
 vK ((fillL #[(.pointer none), (.pointer none), (.int .i64 0)] []).map .agg) fun v19 =>
 stK 3 v3 v19 h16 fun v20 h21 =>
 vK (ldsV 3 h21 v3) fun v22 =>
 R (.tuple #[v22, (.int .i64 6)]) h21) (
 vK (ldsV 9 h16 v1) fun v23 =>
 FCall prog zkn #[v23, a1, a2] h16 fun v24 h25 =>
 vK (extV v24 0) fun v26 =>
 vK (extV v24 1) fun v27 =>
 vK (extV v24 2) fun v28 =>
 vK (binV .i .neq v28 (.int .i64 0)) fun v29 =>
 iteK v29 (
 vK ((fillL #[(.pointer none), (.pointer none), (.int .i64 0)] []).map .agg) fun v30 =>
 stK 3 v3 v30 h25 fun v31 h32 =>
 vK (ldsV 3 h32 v3) fun v33 =>
 R (.tuple #[v33, v28]) h32) (
 vK (fldV 1 v1) fun v34 =>
 vK (ldV h25 v34) fun v35 =>
 vK ((fillL #[(.pointer none), (.pointer none), (.int .i64 0)] [(0, 1, v26), (1, 1, v27), (2, 1, v35)]).map .agg) fun v36 =>
 stK 3 v3 v36 h25 fun v37 h38 =>
 vK (ldsV 3 h38 v3) fun v39 =>
 R (.tuple #[v39, (.int .i64 0)]) h38))
theorem ok_op_Make (H : zpA a0 a1 a2 h R) : FCall prog zfU #[a0, a1, a2] h R := fk f78 (.s .z (.s (.s .z (.s (.s .z .z) .z)) (.s .z (.s (.s .z (.s (.s .z .z) .z)) (.s .z .z))))) H
def zjF (h : Heap) (R : Value → Heap → Prop) : Prop :=
 vK ((fillL #[(.int .i64 0), (.int .i64 0), (.int .i64 0), (.int .i64 0), (.slice none 0 0), (.slice none 0 0), (.int .i64 0), (.int .i64 0), (.int .i64 0)] [(0, 1, (.int .i64 3)), (7, 1, (.int .i64 5)), (8, 1, (.int .i64 3)), (6, 1, (.int .i64 0))]).map .agg) fun v1 =>
 FCall prog zfU #[v1, (.int .i64 9), (.int .i64 9)] h fun v2 h3 =>
 vK (extV v2 0) fun v4 =>
 vK (extV v2 1) fun v5 =>
 newK #[(.pointer none), (.pointer none), (.int .i64 0)] 67 h3 fun v6 h7 =>
 stK 3 v6 v4 h7 fun v8 h9 =>
 FCall prog ze8 #[] h9 fun v10 h11 =>
 vK (unV .not v10) fun v12 =>
 vK (gV v12 false (some v5)) fun v13 =>
 vK (gV v12 false (binV .i .neq v13 (.int .i64 0))) fun v14 =>
 vK (pickV v12 (.bool true) v14) fun v15 =>
 iteK v15 (
 R (.bool false) h11) (
 vK (ldsV 3 h11 v6) fun v16 =>
 FCall prog zfj #[v16, (.int .i64 2), (.int .i64 2)] h11 fun v17 h18 =>
 vK (extV v17 0) fun v19 =>
 vK (extV v17 1) fun v20 =>
 vK (binV .i .neq v20 (.int .i64 0)) fun v21 =>
 vK (gV v21 false (some v19)) fun v22 =>
 vK (gV v21 false (binV .p .eql v22 (.pointer none))) fun v23 =>
 vK (pickV v21 (.bool true) v23) fun v24 =>
 iteK v24 (
 R (.bool false) h18) (
 FCall prog zbv #[v19, (.int .i64 5)] h18 fun v25 h26 =>
 vK (extV v25 0) fun v27 =>
 vK (extV v25 1) fun v28 =>
 newK #[(.int .i64 0), (.int .i64 0), (.int .i64 0), (.int .i64 0), (.int .i64 0), (.int .i64 0), (.int .i64 0), (.int .i64 0), (.int .i64 0), (.int .i64 0)] 84 h26 fun v29 h30 =>
 stK 10 v29 v27 h30 fun v31 h32 =>
 FCall prog zaT #[v19] h32 fun v33 h34 =>
 vK (binV .i .eql v33 (.int .i64 6)) fun v35 =>
 vK (gV v35 true (some v28)) fun v36 =>
 vK (pickV v35 v36 (.bool false)) fun v37 =>
 vK (gV v37 true (fldV 1 v29)) fun v38 =>
 vK (gV v37 true (ldsV 4 h34 v38)) fun v39 =>
 vK (gV v37 true ((fillL #[(.int .i64 0), (.int .i64 0), (.int .i64 0), (.int .i64 0)] [(0, 1, (.int .i64 4)), (1, 1, (.int .i64 2)), (2, 1, (.int .i64 1)), (3, 1, (.int .i64 1))]).map .agg)) fun v40 =>
 vK (gV v37 true (binV (.st [(0, 1, .i), (1, 1, .i), (2, 1, .i), (3, 1, .i)]) .eql v39 v40)) fun v41 =>
 vK (pickV v37 v41 (.bool false)) fun v42 =>
 R v42 h34))
theorem zpc (H : zjF h R) : FCall prog zhx #[] h R := fk f79 (.s .z (.s .z (.s (.s .z (.s (.s .z .z) .z)) (.s .z (.s (.s .z (.s (.s .z .z) .z)) (.s .z (.s .z .z))))))) H
def zjE (h : Heap) (R : Value → Heap → Prop) : Prop :=
 rowK #[(.int .u16 0)] 44 1 [(0, 1, (.int .u16 7))] h fun v1 h2 =>
 FCall prog zht #[(.int .i64 1), (.int .i64 1), (.int .i64 1), (.int .i64 255), v1] h2 fun v3 h4 =>
 vK (extV v3 0) fun v5 =>
 vK (extV v3 1) fun v6 =>
 vK ((fillL #[(.int .i64 0), (.int .i64 0), (.int .i64 0), (.int .i64 0), (.slice none 0 0), (.slice none 0 0), (.int .i64 0), (.int .i64 0), (.int .i64 0)] [(0, 1, (.int .i64 1)), (3, 1, (.int .i64 2))]).map .agg) fun v7 =>
 FCall prog zfU #[v7, (.int .i64 1), (.int .i64 1)] h4 fun v8 h9 =>
 vK (extV v8 0) fun v10 =>
 vK (extV v8 1) fun v11 =>
 newK #[(.pointer none), (.pointer none), (.int .i64 0)] 67 h9 fun v12 h13 =>
 stK 3 v12 v10 h13 fun v14 h15 =>
 FCall prog zhz #[] h15 fun v16 h17 =>
 vK (unV .not v16) fun v18 =>
 gK v18 false (fun k47 => FCall prog ze8 #[] h17 k47) h17 fun v19 h20 =>
 vK (gV v18 false (unV .not v19)) fun v21 =>
 vK (pickV v18 (.bool true) v21) fun v22 =>
 vK (gV v22 false (some v6)) fun v23 =>
 vK (gV v22 false (binV .i .neq v23 (.int .i64 0))) fun v24 =>
 vK (pickV v22 (.bool true) v24) fun v25 =>
 vK (gV v25 false (some v11)) fun v26 =>
 vK (gV v25 false (binV .i .neq v26 (.int .i64 0))) fun v27 =>
 vK (pickV v25 (.bool true) v27) fun v28 =>
 vK (gV v28 false (some v5)) fun v29 =>
 vK (gV v28 false (binV .p .eql v29 (.pointer none))) fun v30 =>
 vK (pickV v28 (.bool true) v30) fun v31 =>
 iteK v31 (
 R (.bool false) h20) (
 vK (ldsV 3 h20 v12) fun v32 =>
 FCall prog zgF #[v5, v32] h20 fun v33 h34 =>
 vK (extV v33 0) fun v35 =>
 vK (extV v33 1) fun v36 =>
 vK (binV .i .eql v36 (.int .i64 0)) fun v37 =>
 vK (gV v37 true (some v35)) fun v38 =>
 vK (gV v37 true (binV .p .neq v38 (.pointer none))) fun v39 =>
 vK (pickV v37 v39 (.bool false)) fun v40 =>
 vK (gV v40 true (some v35)) fun v41 =>
 gK v40 true (fun k46 => FCall prog zcg #[v41, (.int .i64 0), (.int .i64 0), (.int .i64 0)] h34 k46) h34 fun v42 h43 =>
 vK (gV v40 true (binV .i .eql v42 (.int .u16 7))) fun v44 =>
 vK (pickV v40 v44 (.bool false)) fun v45 =>
 R v45 h43)
theorem zpb (H : zjE h R) : FCall prog zhw #[] h R := fk f80 (.s .z (.s .z (.s .z (.s (.s .z (.s (.s .z .z) .z)) (.s .z (.s .z .z)))))) H
def zf2 (a0 : Value) (h : Heap) (R : Value → Heap → Prop) : Prop :=
 newK #[(.int .i64 0), (.int .i64 0)] 35 h fun v1 h2 =>
 FCall prog zd9 #[a0] h2 fun v3 h4 =>
 iteK v3 (
 vK ((fillL #[(.int .i64 0), (.int .i64 0)] []).map .agg) fun v5 =>
 stK 2 v1 v5 h4 fun v6 h7 =>
 vK (ldsV 2 h7 v1) fun v8 =>
 R v8 h7) (
 FCall prog zcR #[a0] h4 fun v9 h10 =>
 newK #[(.int .i64 0), (.slice none 0 0)] 160 h10 fun v11 h12 =>
 stK 2 v11 v9 h12 fun v13 h14 =>
 drawK h14 fun S =>
 vK (nilV a0) fun v15 =>
 vK (fldV 15 v15) fun v16 =>
 qK S (fun h14 => ldV h14 v16) fun v17 =>
 vK (fldV 0 v11) fun v18 =>
 qK S (fun h14 => ldV h14 v18) fun v19 =>
 vK (fldV 0 v11) fun v20 =>
 qK S (fun h14 => ldV h14 v20) fun v21 =>
 vK (fldV 1 v11) fun v22 =>
 qK S (fun h14 => ldV h14 v22) fun v23 =>
 qK S (fun h14 => zag v23) fun v24 =>
 vK (binV .i .add v21 v24) fun v25 =>
 FCall prog zeM #[v17, v19, v25] h14 fun v26 h27 =>
 vK (extV v26 0) fun v28 =>
 vK (extV v26 1) fun v29 =>
 iteK v29 (
 vK ((fillL #[(.int .i64 0), (.int .i64 0)] [(0, 1, (.int .i64 1)), (1, 1, v28)]).map .agg) fun v30 =>
 stK 2 v1 v30 h27 fun v31 h32 =>
 vK (ldsV 2 h32 v1) fun v33 =>
 R v33 h32) (
 vK (nilV a0) fun v34 =>
 vK (fldV 16 v34) fun v35 =>
 vK (ldV h27 v35) fun v36 =>
 vK ((fillL #[(.int .i64 0), (.int .i64 0)] [(0, 1, (.int .i64 2)), (1, 1, v36)]).map .agg) fun v37 =>
 stK 2 v1 v37 h27 fun v38 h39 =>
 vK (ldsV 2 h39 v1) fun v40 =>
 R v40 h39))
theorem zlf (H : zf2 a0 h R) : FCall prog zce #[a0] h R := fk f81 (.s .z (.s (.s .z (.s (.s .z .z) .z)) (.s .z (.s (.s (.d (.op 0 .r (.op 1 .r (.op 2 .r (.op 3 .r (.op 4 .r (.op 5 .r (.op 6 .r (.op 7 .r (.op 8 .r (.op 9 .r (.op 10 .r (.op 11 .r (.op 12 .n (.op 13 .r (.op 14 .r (.op 15 .r (.op 16 .r (.op 17 .r .nil))))))))))))))))))) (.s .z (.s (.s .z .z) .z))) (.s .z .z))))) H
def zeP (a0 a1 : Value) (h : Heap) (R : Value → Heap → Prop) : Prop :=
 drawK h fun S =>
 vK (nilV a0) fun v1 =>
 vK (fldV 2 v1) fun v2 =>
 vK (fldV 2 v2) fun v3 =>
 qK S (fun h => ldV h v3) fun v4 =>
 vK (nilV a0) fun v5 =>
 vK (fldV 0 v5) fun v6 =>
 qK S (fun h => ldV h v6) fun v7 =>
 FCall prog zaz #[v7] h fun v8 h9 =>
 S h9 ∧ (FCall prog zeg #[v4, a1, v8] h9 fun v10 h11 =>
 vK (nilV a0) fun v12 =>
 vK (fldV 5 v12) fun v13 =>
 vK (fldV 1 v13) fun v14 =>
 vK (fldV 2 v14) fun v15 =>
 vK (ldV h11 v15) fun v16 =>
 loopK [(.slice none 0 0), (.int .i64 0)] h11 fun x17 j18 h19 again20 =>
 vK (binV .i .lss (ix x17 1) v16) fun v21 =>
 iteK v21 (
 vK (nilV a0) fun v22 =>
 vK (fldV 5 v22) fun v23 =>
 vK (fldV 1 v23) fun v24 =>
 vK (fldV 0 v24) fun v25 =>
 vK (ldV h19 v25) fun v26 =>
 vK (binV .i .add v26 (ix x17 1)) fun v27 =>
 FCall prog zdk #[a0, v27, v10, (ix x17 0)] h19 fun v28 h29 =>
 vK (binV .i .add (ix x17 1) (.int .i64 1)) fun v30 =>
 again20 [v28, v30] h29) (
 vK (nilV a0) fun v31 =>
 vK (fldV 15 v31) fun v32 =>
 vK (ldV h19 v32) fun v33 =>
 FCall prog zfQ #[v33, a1, (ix x17 0)] h19 fun v34 h35 =>
 R (.tuple #[]) h35))
theorem zjd (H : zeP a0 a1 h R) : FCall prog zdj #[a0, a1] h R := fk f82 (.s (.d (.op 0 .r (.op 1 .r (.op 2 .r (.op 3 .r (.op 4 .r (.op 5 .r (.op 6 .r (.op 7 .r (.op 8 .r (.op 9 .r (.op 10 .e (.op 11 .n (.op 12 .r .nil)))))))))))))) (.s .z (.s (.s .z (.l 2198989701216 [5, 25] (.s .z (.s (.s .z .z) (.s (.s .z .z) .z))))) .z))) H
def zfp (a0 : Value) (h : Heap) (R : Value → Heap → Prop) : Prop :=
 FCall prog zcR #[a0] h fun v1 h2 =>
 newK #[(.int .i64 0), (.slice none 0 0)] 160 h2 fun v3 h4 =>
 stK 2 v3 v1 h4 fun v5 h6 =>
 vK (nilV a0) fun v7 =>
 vK (fldV 15 v7) fun v8 =>
 vK (ldV h6 v8) fun v9 =>
 FCall prog zec #[v9] h6 fun v10 h11 =>
 mkK (.int .i64 0) 2 1 8 v10 v10 h11 fun v12 h13 =>
 vK (fldV 1 v3) fun v14 =>
 vK (ldV h13 v14) fun v15 =>
 vK (zag v15) fun v16 =>
 loopK [(.int .i64 0)] h13 fun x17 j18 h19 again20 =>
 vK (binV .i .lss (ix x17 0) v16) fun v21 =>
 iteK v21 (
 vK (idxV 1 v15 (ix x17 0)) fun v22 =>
 vK (ldV h19 v22) fun v23 =>
 drawK h19 fun S =>
 vK (nilV a0) fun v24 =>
 vK (fldV 15 v24) fun v25 =>
 qK S (fun h19 => ldV h19 v25) fun v26 =>
 vK (fldV 0 v3) fun v27 =>
 qK S (fun h19 => ldV h19 v27) fun v28 =>
 vK (binV .i .add v28 (ix x17 0)) fun v29 =>
 FCall prog zfP #[v26, v29] h19 fun v30 h31 =>
 vK (extV v30 0) fun v32 =>
 vK (extV v30 1) fun v33 =>
 vK (zag v32) fun v34 =>
 loopK [(.int .i64 0)] h31 fun x35 j36 h37 again38 =>
 vK (binV .i .lss (ix x35 0) v34) fun v39 =>
 iteK v39 (
 vK (idxV 1 v32 (ix x35 0)) fun v40 =>
 vK (ldV h37 v40) fun v41 =>
 vK (idxV 1 v12 (ix x35 0)) fun v42 =>
 vK (ldV h37 v42) fun v43 =>
 vK (binV .i .mul v23 v41) fun v44 =>
 vK (binV .i .add v43 v44) fun v45 =>
 vK (idxV 1 v12 (ix x35 0)) fun v46 =>
 stK 1 v46 v45 h37 fun v47 h48 =>
 vK (binV .i .add (ix x35 0) (.int .i64 1)) fun v49 =>
 again38 [v49] h48) (
 vK (binV .i .add (ix x17 0) (.int .i64 1)) fun v50 =>
 again20 [v50] h37)) (
 vK (nilV a0) fun v51 =>
 vK (fldV 1 v51) fun v52 =>
 vK (ldV h19 v52) fun v53 =>
 FCall prog zae #[v53] h19 fun v54 h55 =>
 vK (zag v12) fun v56 =>
 loopK [(.int .i64 0)] h55 fun x57 j58 h59 again60 =>
 vK (binV .i .lss (ix x57 0) v56) fun v61 =>
 iteK v61 (
 vK (idxV 1 v12 (ix x57 0)) fun v62 =>
 vK (ldV h59 v62) fun v63 =>
 drawK h59 fun S =>
 vK (nilV a0) fun v64 =>
 vK (fldV 1 v64) fun v65 =>
 qK S (fun h59 => ldV h59 v65) fun v66 =>
 vK (nilV a0) fun v67 =>
 vK (fldV 5 v67) fun v68 =>
 vK (fldV 1 v68) fun v69 =>
 vK (fldV 0 v69) fun v70 =>
 qK S (fun h59 => ldV h59 v70) fun v71 =>
 vK (binV .i .quo (ix x57 0) v54) fun v72 =>
 vK (binV .i .add v71 v72) fun v73 =>
 vK (nilV a0) fun v74 =>
 vK (fldV 16 v74) fun v75 =>
 qK S (fun h59 => ldV h59 v75) fun v76 =>
 vK (binV .i .rem (ix x57 0) v54) fun v77 =>
 vK (nilV a0) fun v78 =>
 vK (fldV 1 v78) fun v79 =>
 qK S (fun h59 => ldV h59 v79) fun v80 =>
 FCall prog zal #[v80] h59 fun v81 h82 =>
 S h82 ∧ (FCall prog zes #[v63, v81] h82 fun v83 h84 =>
 S h84 ∧ (FCall prog zbq #[v66, v73, v76, v77, v83] h84 fun v85 h86 =>
 vK (binV .i .add (ix x57 0) (.int .i64 1)) fun v87 =>
 again60 [v87] h86))) (
 vK (nilV a0) fun v88 =>
 vK (fldV 16 v88) fun v89 =>
 vK (ldV h59 v89) fun v90 =>
 vK (binV .i .add v90 (.int .i64 1)) fun v91 =>
 vK (nilV a0) fun v92 =>
 vK (fldV 16 v92) fun v93 =>
 stK 1 v93 v91 h59 fun v94 h95 =>
 R (.tuple #[]) h95))
theorem zjZ (H : zfp a0 h R) : FCall prog zdN #[a0] h R := fk f83 (.s .z (.s .z (.s (.s .z (.l 576460752286647280 [24] (.s .z (.s (.s .z .z) (.s (.s .z (.s (.d (.op 0 .r (.op 1 .r (.op 2 .r (.op 3 .r (.op 4 .r (.op 5 .r (.op 6 .r (.op 7 .r (.op 8 .n (.op 9 .r (.op 10 .r (.op 11 .r (.op 12 .r (.op 13 .r .nil))))))))))))))) (.s .z (.l 288221580058690304 [43] (.s .z (.s (.s .z .z) (.s (.s .z .z) .z))))))) .z))))) (.s .z (.s (.s .z (.l 2535301200382671826698568210432 [66] (.s .z (.s (.s .z .z) (.s (.s .z (.d (.op 0 .r (.op 1 .r (.op 2 .r (.op 3 .r (.op 4 .r (.op 5 .r (.op 6 .r (.op 7 .r (.op 8 .r (.op 9 .r (.op 10 .r (.op 11 .r (.op 12 .r (.op 13 .r (.op 14 .r (.op 15 .r (.op 16 .r (.op 17 .r (.op 18 .r (.op 19 .r (.op 20 .r (.op 21 .r (.op 22 .r (.op 23 .r (.op 24 .r (.op 25 .r (.op 26 .e (.op 27 .e (.op 28 .n .nil))))))))))))))))))))))))))))))) .z))))) .z))))) H
def zmF (a0 a1 a2 a3 a4 : Value) (h : Heap) (R : Value → Heap → Prop) : Prop :=
 FCall prog zat #[a0, a1, a2, a3] h fun v1 h2 =>
 vK (extV v1 0) fun v3 =>
 vK (extV v1 1) fun v4 =>
 vK (binV .i .neq v4 (.int .i64 0)) fun v5 =>
 iteK v5 (
 R (.tuple #[(.pointer none), v4]) h2) (
 vK (zag a4) fun v6 =>
 vK (nilV v3) fun v7 =>
 vK (fldV 4 v7) fun v8 =>
 vK (ldV h2 v8) fun v9 =>
 vK (zag v9) fun v10 =>
 vK (binV .i .neq v6 v10) fun v11 =>
 iteK v11 (
 R (.tuple #[(.pointer none), (.int .i64 2)]) h2) (
 FCall prog zbu #[a4] h2 fun v12 h13 =>
 vK (cviV .i64 v12) fun v14 =>
 vK (binV .i .gtr v14 a3) fun v15 =>
 iteK v15 (
 R (.tuple #[(.pointer none), (.int .i64 4)]) h13) (
 vK (nilV v3) fun v16 =>
 vK (fldV 4 v16) fun v17 =>
 vK (ldV h13 v17) fun v18 =>
 cpyK 1 v18 a4 h13 fun v19 h20 =>
 R (.tuple #[v3, (.int .i64 0)]) h20)))
theorem ok_raster_Of (H : zmF a0 a1 a2 a3 a4 h R) : FCall prog zht #[a0, a1, a2, a3, a4] h R := fk f85 (.s .z (.s .z (.s (.s .z (.s (.s .z .z) (.s .z (.s (.s .z .z) (.s .z (.s (.s .z .z) .z)))))) (.s .z (.s .z .z))))) H
def zpz (a0 a1 a2 : Value) (h : Heap) (R : Value → Heap → Prop) : Prop :=
 newK (Value.cells a0) 53 h fun v1 h2 =>
 vK (fldV 0 v1) fun v3 =>
 vK (ldV h2 v3) fun v4 =>
 vK (binV .i .eql v4 (.int .i64 3)) fun v5 =>
 iteK v5 (
 vK (fldV 7 v1) fun v6 =>
 vK (ldV h2 v6) fun v7 =>
 vK (fldV 8 v1) fun v8 =>
 vK (ldV h2 v8) fun v9 =>
 R (.tuple #[v7, v9]) h2) (
 R (.tuple #[a1, a2]) h2)
theorem ok_op_Size (H : zpz a0 a1 a2 h R) : FCall prog zoS #[a0, a1, a2] h R := fk f86 (.s .z (.s (.s .z (.s (.s .z .z) .z)) (.s .z .z))) H
def zkH (a0 a1 a2 : Value) (h : Heap) (R : Value → Heap → Prop) : Prop :=
 vK (binV .i .lss a0 (.int .i64 1)) fun v1 =>
 vK (gV v1 false (some a0)) fun v2 =>
 vK (gV v1 false (binV .i .gtr v2 (.int .i64 65536))) fun v3 =>
 vK (pickV v1 (.bool true) v3) fun v4 =>
 vK (gV v4 false (some a1)) fun v5 =>
 vK (gV v4 false (binV .i .lss v5 (.int .i64 1))) fun v6 =>
 vK (pickV v4 (.bool true) v6) fun v7 =>
 vK (gV v7 false (some a1)) fun v8 =>
 vK (gV v7 false (binV .i .gtr v8 (.int .i64 65536))) fun v9 =>
 vK (pickV v7 (.bool true) v9) fun v10 =>
 iteK v10 (
 R (.bool false) h) (
 vK (binV .i .neq a2 (.int .i64 1)) fun v11 =>
 vK (gV v11 true (some a2)) fun v12 =>
 vK (gV v11 true (binV .i .neq v12 (.int .i64 3))) fun v13 =>
 vK (pickV v11 v13 (.bool false)) fun v14 =>
 iteK v14 (
 R (.bool false) h) (
 vK (binV .i .mul a0 a1) fun v15 =>
 vK (binV .i .quo (.int .i64 268435456) a2) fun v16 =>
 vK (binV .i .leq v15 v16) fun v17 =>
 R v17 h))
theorem zqI (H : zkH a0 a1 a2 h R) : FCall prog zgo #[a0, a1, a2] h R := fk f87 (.s .z (.s (.s .z (.s (.s .z .z) .z)) (.s (.s .z (.s (.s .z .z) .z)) (.s .z .z)))) H
def zkF (a0 a1 a2 : Value) (h : Heap) (R : Value → Heap → Prop) : Prop :=
 newK (Value.cells a0) 174 h fun v1 h2 =>
 newK #[(.slice none 0 0), (.slice none 0 0), (.int .i64 0), (.int .i64 0), (.int .i64 0)] 76 h2 fun v3 h4 =>
 vK (fldV 0 v1) fun v5 =>
 vK (ldV h4 v5) fun v6 =>
 vK (binV .i .lss v6 (.int .i64 0)) fun v7 =>
 vK (gV v7 false (fldV 0 v1)) fun v8 =>
 vK (gV v7 false (ldV h4 v8)) fun v9 =>
 vK (gV v7 false (binV .i .gtr v9 (.int .i64 3))) fun v10 =>
 vK (pickV v7 (.bool true) v10) fun v11 =>
 vK (gV v11 false (fldV 1 v1)) fun v12 =>
 vK (gV v11 false (ldV h4 v12)) fun v13 =>
 vK (gV v11 false (binV .i .lss v13 (.int .i64 0))) fun v14 =>
 vK (pickV v11 (.bool true) v14) fun v15 =>
 vK (gV v15 false (fldV 1 v1)) fun v16 =>
 vK (gV v15 false (ldV h4 v16)) fun v17 =>
 vK (gV v15 false (binV .i .gtr v17 (.int .i64 2))) fun v18 =>
 vK (pickV v15 (.bool true) v18) fun v19 =>
 vK (gV v19 false (some a1)) fun v20 =>
 gK v19 false (fun k172 => FCall prog zdv #[v20] h4 k172) h4 fun v21 h22 =>
 vK (gV v19 false (unV .not v21)) fun v23 =>
 vK (pickV v19 (.bool true) v23) fun v24 =>
 vK (gV v24 false (some a2)) fun v25 =>
 gK v24 false (fun k171 => FCall prog zdv #[v25] h22 k171) h22 fun v26 h27 =>
 vK (gV v24 false (unV .not v26)) fun v28 =>
 vK (pickV v24 (.bool true) v28) fun v29 =>
 iteK v29 (
 vK ((fillL #[(.slice none 0 0), (.slice none 0 0), (.int .i64 0), (.int .i64 0), (.int .i64 0)] []).map .agg) fun v30 =>
 stK 5 v3 v30 h27 fun v31 h32 =>
 vK (ldsV 5 h32 v3) fun v33 =>
 R (.tuple #[v33, (.int .i64 6)]) h32) (
 vK (fldV 1 v1) fun v34 =>
 vK (ldV h27 v34) fun v35 =>
 vK ((fillL #[(.slice none 0 0), (.slice none 0 0), (.int .i64 0), (.int .i64 0), (.int .i64 0)] [(2, 1, a1), (3, 1, a2), (4, 1, v35)]).map .agg) fun v36 =>
 newK #[(.slice none 0 0), (.slice none 0 0), (.int .i64 0), (.int .i64 0), (.int .i64 0)] 76 h27 fun v37 h38 =>
 stK 5 v37 v36 h38 fun v39 h40 =>
 vK (fldV 0 v1) fun v41 =>
 vK (ldV h40 v41) fun v42 =>
 vK (binV .i .eql v42 (.int .i64 3)) fun v43 =>
 iteK v43 (
 vK (fldV 7 v1) fun v44 =>
 vK (ldV h40 v44) fun v45 =>
 FCall prog zdv #[v45] h40 fun v46 h47 =>
 vK (unV .not v46) fun v48 =>
 vK (gV v48 false (fldV 8 v1)) fun v49 =>
 vK (gV v48 false (ldV h47 v49)) fun v50 =>
 gK v48 false (fun k103 => FCall prog zdv #[v50] h47 k103) h47 fun v51 h52 =>
 vK (gV v48 false (unV .not v51)) fun v53 =>
 vK (pickV v48 (.bool true) v53) fun v54 =>
 vK (gV v54 false (fldV 6 v1)) fun v55 =>
 vK (gV v54 false (ldV h52 v55)) fun v56 =>
 vK (gV v54 false (binV .i .lss v56 (.int .i64 0))) fun v57 =>
 vK (pickV v54 (.bool true) v57) fun v58 =>
 vK (gV v58 false (fldV 6 v1)) fun v59 =>
 vK (gV v58 false (ldV h52 v59)) fun v60 =>
 vK (gV v58 false (binV .i .gtr v60 (.int .i64 2))) fun v61 =>
 vK (pickV v58 (.bool true) v61) fun v62 =>
 iteK v62 (
 vK ((fillL #[(.slice none 0 0), (.slice none 0 0), (.int .i64 0), (.int .i64 0), (.int .i64 0)] []).map .agg) fun v63 =>
 stK 5 v3 v63 h52 fun v64 h65 =>
 vK (ldsV 5 h65 v3) fun v66 =>
 R (.tuple #[v66, (.int .i64 6)]) h65) (
 vK (fldV 6 v1) fun v67 =>
 vK (ldV h52 v67) fun v68 =>
 vK (fldV 7 v1) fun v69 =>
 vK (ldV h52 v69) fun v70 =>
 FCall prog zep #[v68, a1, v70] h52 fun v71 h72 =>
 vK (extV v71 0) fun v73 =>
 vK (extV v71 1) fun v74 =>
 vK (fldV 0 v37) fun v75 =>
 stK 1 v75 v73 h72 fun v76 h77 =>
 vK (binV .i .neq v74 (.int .i64 0)) fun v78 =>
 iteK v78 (
 vK ((fillL #[(.slice none 0 0), (.slice none 0 0), (.int .i64 0), (.int .i64 0), (.int .i64 0)] []).map .agg) fun v79 =>
 stK 5 v3 v79 h77 fun v80 h81 =>
 vK (ldsV 5 h81 v3) fun v82 =>
 R (.tuple #[v82, v74]) h81) (
 vK (fldV 6 v1) fun v83 =>
 vK (ldV h77 v83) fun v84 =>
 vK (fldV 8 v1) fun v85 =>
 vK (ldV h77 v85) fun v86 =>
 FCall prog zep #[v84, a2, v86] h77 fun v87 h88 =>
 vK (extV v87 0) fun v89 =>
 vK (extV v87 1) fun v90 =>
 vK (fldV 1 v37) fun v91 =>
 stK 1 v91 v89 h88 fun v92 h93 =>
 vK (binV .i .neq v90 (.int .i64 0)) fun v94 =>
 iteK v94 (
 vK ((fillL #[(.slice none 0 0), (.slice none 0 0), (.int .i64 0), (.int .i64 0), (.int .i64 0)] []).map .agg) fun v95 =>
 stK 5 v3 v95 h93 fun v96 h97 =>
 vK (ldsV 5 h97 v3) fun v98 =>
 R (.tuple #[v98, v90]) h97) (
 vK (ldsV 5 h93 v37) fun v99 =>
 stK 5 v3 v99 h93 fun v100 h101 =>
 vK (ldsV 5 h101 v3) fun v102 =>
 R (.tuple #[v102, (.int .i64 0)]) h101)))) (
 vK (fldV 0 v1) fun v104 =>
 vK (ldV h40 v104) fun v105 =>
 joinK (fun J106 =>
 vK (binV .i .eql v105 (.int .i64 0)) fun v110 =>
 iteK v110 (
 vK (fldV 2 v1) fun v111 =>
 vK (ldV h40 v111) fun v112 =>
 FCall prog zeN #[v112] h40 fun v113 h114 =>
 vK (extV v113 0) fun v115 =>
 vK (extV v113 1) fun v116 =>
 J106 [v116, v115, v115] h114) (
 vK (binV .i .eql v105 (.int .i64 1)) fun v117 =>
 iteK v117 (
 vK (fldV 3 v1) fun v118 =>
 vK (ldV h40 v118) fun v119 =>
 FCall prog ziK #[v119] h40 fun v120 h121 =>
 vK (extV v120 0) fun v122 =>
 vK (extV v120 1) fun v123 =>
 J106 [v123, v122, v122] h121) (
 vK (binV .i .eql v105 (.int .i64 2)) fun v124 =>
 iteK v124 (
 vK (fldV 4 v1) fun v125 =>
 vK (ldV h40 v125) fun v126 =>
 FCall prog zeE #[v126] h40 fun v127 h128 =>
 vK (extV v127 0) fun v129 =>
 vK (extV v127 1) fun v130 =>
 vK (fldV 5 v1) fun v131 =>
 vK (ldV h128 v131) fun v132 =>
 FCall prog zeE #[v132] h128 fun v133 h134 =>
 vK (extV v133 0) fun v135 =>
 vK (extV v133 1) fun v136 =>
 vK (binV .i .eql v130 (.int .i64 0)) fun v137 =>
 iteK v137 (
 J106 [v136, v129, v135] h134) (
 J106 [v130, v129, v135] h134)) (
 J106 [(.int .i64 0), (.slice none 0 0), (.slice none 0 0)] h40))))
 fun x107 j108 h109 =>
 vK (binV .i .neq (ix x107 0) (.int .i64 0)) fun v138 =>
 iteK v138 (
 vK ((fillL #[(.slice none 0 0), (.slice none 0 0), (.int .i64 0), (.int .i64 0), (.int .i64 0)] []).map .agg) fun v139 =>
 stK 5 v3 v139 h109 fun v140 h141 =>
 vK (ldsV 5 h141 v3) fun v142 =>
 R (.tuple #[v142, (ix x107 0)]) h141) (
 FCall prog zeq #[(ix x107 1), a1] h109 fun v143 h144 =>
 vK (extV v143 0) fun v145 =>
 vK (extV v143 1) fun v146 =>
 vK (fldV 0 v37) fun v147 =>
 stK 1 v147 v145 h144 fun v148 h149 =>
 vK (binV .i .neq v146 (.int .i64 0)) fun v150 =>
 iteK v150 (
 vK ((fillL #[(.slice none 0 0), (.slice none 0 0), (.int .i64 0), (.int .i64 0), (.int .i64 0)] []).map .agg) fun v151 =>
 stK 5 v3 v151 h149 fun v152 h153 =>
 vK (ldsV 5 h153 v3) fun v154 =>
 R (.tuple #[v154, v146]) h153) (
 FCall prog zeq #[(ix x107 2), a2] h149 fun v155 h156 =>
 vK (extV v155 0) fun v157 =>
 vK (extV v155 1) fun v158 =>
 vK (fldV 1 v37) fun v159 =>
 stK 1 v159 v157 h156 fun v160 h161 =>
 vK (binV .i .neq v158 (.int .i64 0)) fun v162 =>
 iteK v162 (
 vK ((fillL #[(.slice none 0 0), (.slice none 0 0), (.int .i64 0), (.int .i64 0), (.int .i64 0)] []).map .agg) fun v163 =>
 stK 5 v3 v163 h161 fun v164 h165 =>
 vK (ldsV 5 h165 v3) fun v166 =>
 R (.tuple #[v166, v158]) h165) (
 vK (ldsV 5 h161 v37) fun v167 =>
 stK 5 v3 v167 h161 fun v168 h169 =>
 vK (ldsV 5 h169 v3) fun v170 =>
 R (.tuple #[v170, (.int .i64 0)]) h169)))))
theorem zqG (H : zkF a0 a1 a2 h R) : FCall prog ziI #[a0, a1, a2] h R := fk f88 (.s .z (.s (.s .z (.s (.s .z .z) .z)) (.s .z (.s .z (.s (.s .z (.s (.s (.s .z (.s (.s .z .z) .z)) (.s .z (.s (.s .z (.s (.s .z .z) .z)) (.s .z (.s (.s .z (.s (.s .z .z) .z)) (.s .z .z)))))) .z)) (.s .z (.s .z (.s (.s .z (.m 174224571858449890892334881399078511451648 [9, 10, 11] (.s .z (.s (.s .z .z) (.s .z (.s (.s .z .z) (.s .z (.s (.s .z (.s .z (.s .z (.s .z (.s .z .z))))) .z)))))))) (.s (.s .z (.s (.s .z .z) .z)) (.s .z (.s (.s .z (.s (.s .z .z) .z)) (.s .z (.s (.s .z (.s (.s .z .z) .z)) (.s .z .z)))))))))))))) H
def zkE (a0 a1 a2 : Value) (h : Heap) (R : Value → Heap → Prop) : Prop :=
 newK (Value.cells a0) 174 h fun v1 h2 =>
 vK (fldV 0 v1) fun v3 =>
 vK (ldV h2 v3) fun v4 =>
 vK (binV .i .eql v4 (.int .i64 3)) fun v5 =>
 iteK v5 (
 vK (fldV 7 v1) fun v6 =>
 vK (ldV h2 v6) fun v7 =>
 vK (fldV 8 v1) fun v8 =>
 vK (ldV h2 v8) fun v9 =>
 R (.tuple #[v7, v9]) h2) (
 R (.tuple #[a1, a2]) h2)
theorem zqF (H : zkE a0 a1 a2 h R) : FCall prog ziH #[a0, a1, a2] h R := fk f89 (.s .z (.s (.s .z (.s (.s .z .z) .z)) (.s .z .z))) H
def zmJ (a0 : Value) (h : Heap) (R : Value → Heap → Prop) : Prop :=
 newK (Value.cells a0) 53 h fun v1 h2 =>
 newK #[(.int .i64 0), (.int .i64 0), (.int .i64 0), (.int .i64 0), (.slice none 0 0), (.slice none 0 0), (.int .i64 0), (.int .i64 0), (.int .i64 0)] 174 h2 fun v3 h4 =>
 vK (fldV 0 v1) fun v5 =>
 vK (ldV h4 v5) fun v6 =>
 vK (fldV 1 v1) fun v7 =>
 vK (ldV h4 v7) fun v8 =>
 vK (fldV 2 v1) fun v9 =>
 vK (ldV h4 v9) fun v10 =>
 vK (fldV 3 v1) fun v11 =>
 vK (ldV h4 v11) fun v12 =>
 vK (fldV 4 v1) fun v13 =>
 vK (ldV h4 v13) fun v14 =>
 vK (fldV 5 v1) fun v15 =>
 vK (ldV h4 v15) fun v16 =>
 vK (fldV 6 v1) fun v17 =>
 vK (ldV h4 v17) fun v18 =>
 vK (fldV 7 v1) fun v19 =>
 vK (ldV h4 v19) fun v20 =>
 vK (fldV 8 v1) fun v21 =>
 vK (ldV h4 v21) fun v22 =>
 vK ((fillL #[(.int .i64 0), (.int .i64 0), (.int .i64 0), (.int .i64 0), (.slice none 0 0), (.slice none 0 0), (.int .i64 0), (.int .i64 0), (.int .i64 0)] [(0, 1, v6), (1, 1, v8), (2, 1, v10), (3, 1, v12), (4, 1, v14), (5, 1, v16), (6, 1, v18), (7, 1, v20), (8, 1, v22)]).map .agg) fun v23 =>
 stK 9 v3 v23 h4 fun v24 h25 =>
 vK (ldsV 9 h25 v3) fun v26 =>
 R v26 h25
theorem ok_law12_Ref (H : zmJ a0 h R) : FCall prog zko #[a0] h R := fk f90 (.s .z (.s .z .z)) H
def zim (a0 a1 : Value) (h : Heap) (R : Value → Heap → Prop) : Prop :=
 newK (Value.cells a1) 67 h fun v1 h2 =>
 vK (fldV 0 v1) fun v3 =>
 vK (ldV h2 v3) fun v4 =>
 vK (binV .p .neq v4 (.pointer none)) fun v5 =>
 vK (gV v5 true (fldV 1 v1)) fun v6 =>
 vK (gV v5 true (ldV h2 v6)) fun v7 =>
 vK (gV v5 true (binV .p .neq v7 (.pointer none))) fun v8 =>
 vK (pickV v5 v8 (.bool false)) fun v9 =>
 vK (gV v9 true (fldV 0 v1)) fun v10 =>
 vK (gV v9 true (ldV h2 v10)) fun v11 =>
 gK v9 true (fun k38 => FCall prog zbp #[v11] h2 k38) h2 fun v12 h13 =>
 vK (gV v9 true (some a0)) fun v14 =>
 gK v9 true (fun k37 => FCall prog zaB #[v14] h13 k37) h13 fun v15 h16 =>
 vK (gV v9 true (binV .i .eql v12 v15)) fun v17 =>
 vK (pickV v9 v17 (.bool false)) fun v18 =>
 vK (gV v18 true (fldV 1 v1)) fun v19 =>
 vK (gV v18 true (ldV h16 v19)) fun v20 =>
 gK v18 true (fun k36 => FCall prog zbp #[v20] h16 k36) h16 fun v21 h22 =>
 vK (gV v18 true (some a0)) fun v23 =>
 gK v18 true (fun k35 => FCall prog zaz #[v23] h22 k35) h22 fun v24 h25 =>
 vK (gV v18 true (binV .i .eql v21 v24)) fun v26 =>
 vK (pickV v18 v26 (.bool false)) fun v27 =>
 vK (gV v27 true (fldV 2 v1)) fun v28 =>
 vK (gV v27 true (ldV h25 v28)) fun v29 =>
 gK v27 true (fun k34 => FCall prog zfa #[v29] h25 k34) h25 fun v30 h31 =>
 vK (gV v27 true (binV .s .neq v30 (.string ⟨#[]⟩))) fun v32 =>
 vK (pickV v27 v32 (.bool false)) fun v33 =>
 R v33 h31
theorem zod (H : zim a0 a1 h R) : FCall prog zdd #[a0, a1] h R := fk f91 (.s .z (.s .z .z)) H
def zbk (a0 : Value) (h : Heap) (R : Value → Heap → Prop) : Prop :=
 vK (binV .sl .eql a0 (.slice none 0 0)) fun v1 =>
 iteK v1 (
 R (.slice none 0 0) h) (
 rowK #[] 2 0 [] h fun v2 h3 =>
 appK (.int .i64 0) 2 1 8 v2 a0 h3 fun v4 h5 =>
 R v4 h5)
theorem zck (H : zbk a0 h R) : FCall prog zaL #[a0] h R := fk f92 (.s .z (.s (.s .z (.s (.s .z .z) .z)) (.s .z .z))) H
def zb3 (a0 : Value) (h : Heap) (R : Value → Heap → Prop) : Prop :=
 vK (binV .sl .eql a0 (.slice none 0 0)) fun v1 =>
 iteK v1 (
 R (.slice none 0 0) h) (
 rowK #[] 44 0 [] h fun v2 h3 =>
 appK (.int .u16 0) 44 1 2 v2 a0 h3 fun v4 h5 =>
 R v4 h5)
theorem zdU (H : zb3 a0 h R) : FCall prog zbg #[a0] h R := fk f93 (.s .z (.s (.s .z (.s (.s .z .z) .z)) (.s .z .z))) H
def zjy (a0 a1 : Value) (h : Heap) (R : Value → Heap → Prop) : Prop :=
 vK (binV .i .lss a1 (.int .i64 1)) fun v1 =>
 iteK v1 (
 R a0 h) (
 vK (binV .i .gtr a1 (.int .i64 64)) fun v2 =>
 iteK v2 (
 R (.int .i64 0) h) (
 vK ((fillL #[(.int .u64 0), (.int .u64 0)] [(0, 1, (.int .u64 0)), (1, 1, (.int .u64 1))]).map .agg) fun v3 =>
 newK #[(.int .u64 0), (.int .u64 0)] 214 h fun v4 h5 =>
 stK 2 v4 v3 h5 fun v6 h7 =>
 vK (binV .i .sub a1 (.int .i64 1)) fun v8 =>
 loopK [(.int .i64 0)] h7 fun x9 j10 h11 again12 =>
 vK (binV .i .lss (ix x9 0) v8) fun v13 =>
 iteK v13 (
 vK (ldsV 2 h11 v4) fun v14 =>
 FCall prog zbj #[v14, (.int .u64 0)] h11 fun v15 h16 =>
 stK 2 v4 v15 h16 fun v17 h18 =>
 vK (binV .i .add (ix x9 0) (.int .i64 1)) fun v19 =>
 again12 [v19] h18) (
 FCall prog zbA #[a0] h11 fun v20 h21 =>
 vK ((fillL #[(.int .u64 0), (.int .u64 0)] [(0, 1, (.int .u64 0)), (1, 1, v20)]).map .agg) fun v22 =>
 newK #[(.int .u64 0), (.int .u64 0)] 214 h21 fun v23 h24 =>
 stK 2 v23 v22 h24 fun v25 h26 =>
 vK ((fillL #[(.int .u64 0), (.int .u64 0)] []).map .agg) fun v27 =>
 newK #[(.int .u64 0), (.int .u64 0)] 214 h26 fun v28 h29 =>
 stK 2 v28 v27 h29 fun v30 h31 =>
 loopK [(.int .i64 127)] h31 fun x32 j33 h34 again35 =>
 vK (binV .i .geq (ix x32 0) a1) fun v36 =>
 iteK v36 (
 drawK h34 fun S =>
 qK S (fun h34 => ldsV 2 h34 v28) fun v37 =>
 qK S (fun h34 => ldsV 2 h34 v23) fun v38 =>
 FCall prog zcp #[v38, (ix x32 0)] h34 fun v39 h40 =>
 S h40 ∧ (FCall prog zbj #[v37, v39] h40 fun v41 h42 =>
 stK 2 v28 v41 h42 fun v43 h44 =>
 vK (binV .i .sub (ix x32 0) (.int .i64 1)) fun v45 =>
 again35 [v45] h44)) (
 vK (ldsV 2 h34 v23) fun v46 =>
 newK #[(.int .u64 0), (.int .u64 0)] 214 h34 fun v47 h48 =>
 stK 2 v47 v46 h48 fun v49 h50 =>
 loopK [a1] h50 fun x51 j52 h53 again54 =>
 vK (binV .i .lss (ix x51 0) (.int .i64 128)) fun v55 =>
 iteK v55 (
 vK (ldsV 2 h53 v23) fun v56 =>
 FCall prog zcp #[v56, (ix x51 0)] h53 fun v57 h58 =>
 vK (binV .i .eql v57 (.int .u64 1)) fun v59 =>
 iteK v59 (
 vK ((fillL #[(.int .u64 0), (.int .u64 0)] [(0, 1, (.int .u64 0)), (1, 1, (.int .u64 1))]).map .agg) fun v60 =>
 newK #[(.int .u64 0), (.int .u64 0)] 214 h58 fun v61 h62 =>
 stK 2 v61 v60 h62 fun v63 h64 =>
 loopK [(.int .i64 0)] h64 fun x65 j66 h67 again68 =>
 vK (binV .i .lss (ix x65 0) (ix x51 0)) fun v69 =>
 iteK v69 (
 vK (ldsV 2 h67 v61) fun v70 =>
 FCall prog zbj #[v70, (.int .u64 0)] h67 fun v71 h72 =>
 stK 2 v61 v71 h72 fun v73 h74 =>
 vK (binV .i .add (ix x65 0) (.int .i64 1)) fun v75 =>
 again68 [v75] h74) (
 vK (ldsV 2 h67 v47) fun v76 =>
 vK (ldsV 2 h67 v61) fun v77 =>
 FCall prog ze6 #[v76, v77] h67 fun v78 h79 =>
 stK 2 v47 v78 h79 fun v80 h81 =>
 vK (binV .i .add (ix x51 0) (.int .i64 1)) fun v82 =>
 again54 [v82] h81)) (
 vK (binV .i .add (ix x51 0) (.int .i64 1)) fun v83 =>
 again54 [v83] h58)) (
 vK (ldsV 2 h53 v47) fun v84 =>
 vK (ldsV 2 h53 v4) fun v85 =>
 FCall prog zcJ #[v84, v85] h53 fun v86 h87 =>
 vK (unV .not v86) fun v88 =>
 joinK (fun J89 =>
 vK (binV .i .lss a0 (.int .i64 0)) fun v93 =>
 iteK v93 (
 vK (ldsV 2 h87 v4) fun v94 =>
 vK (ldsV 2 h87 v47) fun v95 =>
 FCall prog zcJ #[v94, v95] h87 fun v96 h97 =>
 J89 [v96] h97) (
 J89 [v88] h87))
 fun x90 j91 h92 =>
 iteK (ix x90 0) (
 vK (ldsV 2 h92 v28) fun v98 =>
 vK ((fillL #[(.int .u64 0), (.int .u64 0)] [(0, 1, (.int .u64 0)), (1, 1, (.int .u64 1))]).map .agg) fun v99 =>
 FCall prog zcl #[v98, v99] h92 fun v100 h101 =>
 stK 2 v28 v100 h101 fun v102 h103 =>
 vK (ldsV 2 h103 v28) fun v104 =>
 vK (binV .i .lss a0 (.int .i64 0)) fun v105 =>
 FCall prog za2 #[v104, v105] h103 fun v106 h107 =>
 R v106 h107) (
 vK (ldsV 2 h92 v28) fun v108 =>
 vK (binV .i .lss a0 (.int .i64 0)) fun v109 =>
 FCall prog za2 #[v108, v109] h92 fun v110 h111 =>
 R v110 h111))))))
theorem zo5 (H : zjy a0 a1 h R) : FCall prog zcT #[a0, a1] h R := fk f94 (.s .z (.s (.s .z (.s (.s .z .z) .z)) (.s (.s .z (.s (.s .z .z) .z)) (.s .z (.s (.s .z (.l 65011712 [21] (.s .z (.s (.s .z .z) (.s .z .z))))) (.s .z (.s .z (.s (.s .z (.l 1098437886208 [8] (.s (.s .z (.s .z .z)) (.s (.d (.op 0 .r (.op 1 .r (.op 2 .r (.op 3 .e (.op 4 .n (.op 5 .n .nil))))))) .z)))) (.s .z (.s (.s .z (.l 1152917106560338944 [10] (.s (.s .z (.s .z .z)) (.s (.s .z (.s (.s .z (.s (.s .z (.l 139611588448485376 [52] (.s .z (.s (.s .z .z) (.s .z .z))))) .z)) .z)) .z)))) (.s .z (.j 571849066284996104192 [12] (.s .z (.s .z .z)) (.s (.s .z (.s .z .z)) (.s .z .z)))))))))))))) H
end
section
variable {a0 a1 a2 a3 a4 a5 : Value} {h : Heap} {R : Value → Heap → Prop}
def znH (a0 a1 a2 : Value) (h : Heap) (R : Value → Heap → Prop) : Prop :=
 vK (binV .i .lss a2 (.int .i64 1)) fun v1 =>
 vK (gV v1 false (some a2)) fun v2 =>
 vK (gV v1 false (binV .i .gtr v2 (.int .i64 65536))) fun v3 =>
 vK (pickV v1 (.bool true) v3) fun v4 =>
 vK (gV v4 false (some a0)) fun v5 =>
 vK (gV v4 false (binV .i .lss v5 (.int .i64 0))) fun v6 =>
 vK (pickV v4 (.bool true) v6) fun v7 =>
 vK (gV v7 false (some a0)) fun v8 =>
 vK (gV v7 false (binV .i .gtr v8 (.int .i64 2))) fun v9 =>
 vK (pickV v7 (.bool true) v9) fun v10 =>
 iteK v10 (
 R (.int .i64 0) h) (
 vK (binV .i .geq a1 (.int .i64 0)) fun v11 =>
 vK (gV v11 true (some a1)) fun v12 =>
 vK (gV v11 true (some a2)) fun v13 =>
 vK (gV v11 true (binV .i .lss v12 v13)) fun v14 =>
 vK (pickV v11 v14 (.bool false)) fun v15 =>
 iteK v15 (
 R a1 h) (
 vK (binV .i .eql a0 (.int .i64 0)) fun v16 =>
 iteK v16 (
 vK (binV .i .lss a1 (.int .i64 0)) fun v17 =>
 iteK v17 (
 R (.int .i64 0) h) (
 vK (binV .i .sub a2 (.int .i64 1)) fun v18 =>
 R v18 h)) (
 vK (binV .i .mul (.int .i64 2) a2) fun v19 =>
 vK (binV .i .rem a1 v19) fun v20 =>
 loopK [v20] h fun x21 j22 h23 again24 =>
 vK (binV .i .lss (ix x21 0) (.int .i64 0)) fun v25 =>
 iteK v25 (
 vK (binV .i .mul (.int .i64 2) a2) fun v26 =>
 vK (binV .i .add (ix x21 0) v26) fun v27 =>
 again24 [v27] h23) (
 vK (binV .i .lss (ix x21 0) a2) fun v28 =>
 iteK v28 (
 R (ix x21 0) h23) (
 vK (binV .i .eql a0 (.int .i64 2)) fun v29 =>
 iteK v29 (
 vK (binV .i .sub (ix x21 0) a2) fun v30 =>
 R v30 h23) (
 vK (binV .i .mul (.int .i64 2) a2) fun v31 =>
 vK (binV .i .sub v31 (.int .i64 1)) fun v32 =>
 vK (binV .i .sub v32 (ix x21 0)) fun v33 =>
 R v33 h23))))))
theorem ok_ref07_At (H : znH a0 a1 a2 h R) : FCall prog zja #[a0, a1, a2] h R := fk f95 (.s .z (.s (.s .z (.s (.s .z .z) .z)) (.s (.s .z (.s (.s .z .z) .z)) (.s (.s .z (.s (.s (.s .z (.s (.s .z .z) .z)) (.s .z .z)) .z)) (.s .z (.s (.l 69269232550016 [7] (.s (.s .z (.s .z .z)) .z)) (.s (.s .z (.s (.s .z .z) .z)) (.s (.s .z (.s (.s .z .z) .z)) (.s .z .z))))))))) H
def znG (a0 a1 a2 a3 : Value) (h : Heap) (R : Value → Heap → Prop) : Prop :=
 newK (Value.cells a0) 113 h fun v1 h2 =>
 vK (ldsV 5 h2 v1) fun v3 =>
 FCall prog zmk #[v3, a1, a2, a3] h2 fun v4 h5 =>
 vK (unV .not v4) fun v6 =>
 iteK v6 (
 R (.int .u16 0) h5) (
 vK (fldV 4 v1) fun v7 =>
 vK (ldV h5 v7) fun v8 =>
 vK (fldV 0 v1) fun v9 =>
 vK (ldV h5 v9) fun v10 =>
 vK (binV .i .mul a2 v10) fun v11 =>
 vK (fldV 2 v1) fun v12 =>
 vK (ldV h5 v12) fun v13 =>
 vK (binV .i .mul v11 v13) fun v14 =>
 vK (fldV 2 v1) fun v15 =>
 vK (ldV h5 v15) fun v16 =>
 vK (binV .i .mul a1 v16) fun v17 =>
 vK (binV .i .add v14 v17) fun v18 =>
 vK (binV .i .add v18 a3) fun v19 =>
 vK (idxV 1 v8 v19) fun v20 =>
 vK (ldV h5 v20) fun v21 =>
 R v21 h5)
theorem ok_ref09_At (H : znG a0 a1 a2 a3 h R) : FCall prog zml #[a0, a1, a2, a3] h R := fk f96 (.s .z (.s (.s .z (.s (.s .z .z) .z)) (.s .z .z))) H
def sh_op_may (a0 : Value) (h : Heap) (R : Value → Heap → Prop) : Prop :=
 newK (Value.cells a0) 53 h fun v1 h2 =>
 vK (fldV 0 v1) fun v3 =>
 vK (ldV h2 v3) fun v4 =>
 vK (binV .i .lss v4 (.int .i64 0)) fun v5 =>
 vK (gV v5 false (fldV 0 v1)) fun v6 =>
 vK (gV v5 false (ldV h2 v6)) fun v7 =>
 vK (gV v5 false (binV .i .geq v7 (.int .i64 4))) fun v8 =>
 vK (pickV v5 (.bool true) v8) fun v9 =>
 vK (gV v9 false (fldV 1 v1)) fun v10 =>
 vK (gV v9 false (ldV h2 v10)) fun v11 =>
 gK v9 false (fun k40 => FCall prog zfa #[v11] h2 k40) h2 fun v12 h13 =>
 vK (gV v9 false (binV .s .eql v12 (.string ⟨#[]⟩))) fun v14 =>
 vK (pickV v9 (.bool true) v14) fun v15 =>
 iteK v15 (
 R (.bool false) h13) (
 vK (fldV 0 v1) fun v16 =>
 vK (ldV h13 v16) fun v17 =>
 vK (binV .i .neq v17 (.int .i64 3)) fun v18 =>
 vK (gV v18 false (fldV 7 v1)) fun v19 =>
 vK (gV v18 false (ldV h13 v19)) fun v20 =>
 gK v18 false (fun k39 => FCall prog zgZ #[v20] h13 k39) h13 fun v21 h22 =>
 vK (gV v18 false (some v21)) fun v23 =>
 vK (gV v23 true (fldV 8 v1)) fun v24 =>
 vK (gV v23 true (ldV h22 v24)) fun v25 =>
 gK v23 true (fun k38 => FCall prog zgZ #[v25] h22 k38) h22 fun v26 h27 =>
 vK (gV v18 false (pickV v23 v26 (.bool false))) fun v28 =>
 vK (gV v18 false (some v28)) fun v29 =>
 vK (gV v29 true (fldV 6 v1)) fun v30 =>
 vK (gV v29 true (ldV h27 v30)) fun v31 =>
 gK v29 true (fun k37 => FCall prog zjc #[v31] h27 k37) h27 fun v32 h33 =>
 vK (gV v29 true (binV .s .neq v32 (.string ⟨#[]⟩))) fun v34 =>
 vK (gV v18 false (pickV v29 v34 (.bool false))) fun v35 =>
 vK (pickV v18 (.bool true) v35) fun v36 =>
 R v36 h33)
theorem ok_op_may (H : sh_op_may a0 h R) : FCall prog zrD #[a0] h R := fk f97 (.s .z (.s (.s .z (.s (.s .z .z) .z)) (.s .z .z))) H
def zpy (a0 : Value) (h : Heap) (R : Value → Heap → Prop) : Prop :=
 vK (binV .i .geq a0 (.int .i64 1)) fun v1 =>
 vK (gV v1 true (some a0)) fun v2 =>
 vK (gV v1 true (binV .i .leq v2 (.int .i64 65536))) fun v3 =>
 vK (pickV v1 v3 (.bool false)) fun v4 =>
 R v4 h
theorem ok_op_side (H : zpy a0 h R) : FCall prog zgZ #[a0] h R := fk f98 (.s .z (.s .z .z)) H
def zmI (a0 a1 a2 : Value) (h : Heap) (R : Value → Heap → Prop) : Prop :=
 newK (Value.cells a0) 53 h fun v1 h2 =>
 vK (fldV 0 v1) fun v3 =>
 vK (ldV h2 v3) fun v4 =>
 vK (binV .i .eql v4 (.int .i64 3)) fun v5 =>
 iteK v5 (
 vK (fldV 6 v1) fun v6 =>
 vK (ldV h2 v6) fun v7 =>
 vK (fldV 7 v1) fun v8 =>
 vK (ldV h2 v8) fun v9 =>
 FCall prog zdb #[v7, a1, v9] h2 fun v10 h11 =>
 vK (extV v10 0) fun v12 =>
 vK (extV v10 1) fun v13 =>
 vK (binV .i .eql v13 (.int .i64 0)) fun v14 =>
 iteK v14 (
 vK (fldV 6 v1) fun v15 =>
 vK (ldV h11 v15) fun v16 =>
 vK (fldV 8 v1) fun v17 =>
 vK (ldV h11 v17) fun v18 =>
 FCall prog zdb #[v16, a2, v18] h11 fun v19 h20 =>
 vK (extV v19 0) fun v21 =>
 vK (extV v19 1) fun v22 =>
 R (.tuple #[v12, v21, v22]) h20) (
 R (.tuple #[v12, (.pointer none), v13]) h11)) (
 vK (ldsV 9 h2 v1) fun v23 =>
 FCall prog ziN #[v23] h2 fun v24 h25 =>
 vK (extV v24 0) fun v26 =>
 vK (extV v24 1) fun v27 =>
 vK (extV v24 2) fun v28 =>
 vK (binV .i .neq v28 (.int .i64 0)) fun v29 =>
 iteK v29 (
 R (.tuple #[(.pointer none), (.pointer none), v28]) h25) (
 FCall prog zeo #[v26, a1] h25 fun v30 h31 =>
 vK (extV v30 0) fun v32 =>
 vK (extV v30 1) fun v33 =>
 vK (binV .i .eql v33 (.int .i64 0)) fun v34 =>
 iteK v34 (
 FCall prog zeo #[v27, a2] h31 fun v35 h36 =>
 vK (extV v35 0) fun v37 =>
 vK (extV v35 1) fun v38 =>
 R (.tuple #[v32, v37, v38]) h36) (
 R (.tuple #[v32, (.pointer none), v33]) h31)))
theorem ok_op_tables (H : zmI a0 a1 a2 h R) : FCall prog zkn #[a0, a1, a2] h R := fk f99 (.s .z (.s (.s .z (.s (.s (.s .z (.s .z (.s .z .z))) (.s .z .z)) .z)) (.s .z (.s (.s .z (.s (.s .z .z) .z)) (.s (.s .z (.s .z (.s .z .z))) (.s .z .z)))))) H
def zjG (h : Heap) (R : Value → Heap → Prop) : Prop :=
 vK ((fillL #[(.int .i64 0), (.int .i64 0), (.int .i64 0), (.int .i64 0), (.slice none 0 0), (.slice none 0 0), (.int .i64 0), (.int .i64 0), (.int .i64 0)] [(0, 1, (.int .i64 3)), (7, 1, (.int .i64 2)), (8, 1, (.int .i64 1)), (6, 1, (.int .i64 0))]).map .agg) fun v1 =>
 FCall prog zfU #[v1, (.int .i64 4), (.int .i64 3)] h fun v2 h3 =>
 vK (extV v2 0) fun v4 =>
 vK (extV v2 1) fun v5 =>
 newK #[(.pointer none), (.pointer none), (.int .i64 0)] 67 h3 fun v6 h7 =>
 stK 3 v6 v4 h7 fun v8 h9 =>
 FCall prog zhB #[] h9 fun v10 h11 =>
 vK (gV v10 true (some v5)) fun v12 =>
 vK (gV v10 true (binV .i .eql v12 (.int .i64 0))) fun v13 =>
 vK (pickV v10 v13 (.bool false)) fun v14 =>
 vK (gV v14 true (fldV 0 v6)) fun v15 =>
 vK (gV v14 true (ldV h11 v15)) fun v16 =>
 vK (gV v14 true (binV .p .neq v16 (.pointer none))) fun v17 =>
 vK (pickV v14 v17 (.bool false)) fun v18 =>
 vK (gV v18 true (fldV 1 v6)) fun v19 =>
 vK (gV v18 true (ldV h11 v19)) fun v20 =>
 vK (gV v18 true (binV .p .neq v20 (.pointer none))) fun v21 =>
 vK (pickV v18 v21 (.bool false)) fun v22 =>
 vK (gV v22 true (fldV 0 v6)) fun v23 =>
 vK (gV v22 true (ldV h11 v23)) fun v24 =>
 gK v22 true (fun k50 => FCall prog zbp #[v24] h11 k50) h11 fun v25 h26 =>
 vK (gV v22 true (binV .i .eql v25 (.int .i64 4))) fun v27 =>
 vK (pickV v22 v27 (.bool false)) fun v28 =>
 vK (gV v28 true (fldV 0 v6)) fun v29 =>
 vK (gV v28 true (ldV h26 v29)) fun v30 =>
 gK v28 true (fun k49 => FCall prog zaj #[v30] h26 k49) h26 fun v31 h32 =>
 vK (gV v28 true (binV .i .eql v31 (.int .i64 2))) fun v33 =>
 vK (pickV v28 v33 (.bool false)) fun v34 =>
 vK (gV v34 true (fldV 1 v6)) fun v35 =>
 vK (gV v34 true (ldV h32 v35)) fun v36 =>
 gK v34 true (fun k48 => FCall prog zbp #[v36] h32 k48) h32 fun v37 h38 =>
 vK (gV v34 true (binV .i .eql v37 (.int .i64 3))) fun v39 =>
 vK (pickV v34 v39 (.bool false)) fun v40 =>
 vK (gV v40 true (fldV 1 v6)) fun v41 =>
 vK (gV v40 true (ldV h38 v41)) fun v42 =>
 gK v40 true (fun k47 => FCall prog zaj #[v42] h38 k47) h38 fun v43 h44 =>
 vK (gV v40 true (binV .i .eql v43 (.int .i64 1))) fun v45 =>
 vK (pickV v40 v45 (.bool false)) fun v46 =>
 R v46 h44
theorem zpd (H : zjG h R) : FCall prog ze8 #[] h R := fk f100 (.s .z (.s .z (.s .z .z))) H
def zjH (h : Heap) (R : Value → Heap → Prop) : Prop :=
 FCall prog zat #[(.int .i64 2), (.int .i64 1), (.int .i64 3), (.int .i64 255)] h fun v1 h2 =>
 vK (extV v1 0) fun v3 =>
 vK (extV v1 1) fun v4 =>
 vK (binV .i .eql v4 (.int .i64 0)) fun v5 =>
 vK (gV v5 true (some v3)) fun v6 =>
 vK (gV v5 true (binV .p .neq v6 (.pointer none))) fun v7 =>
 vK (pickV v5 v7 (.bool false)) fun v8 =>
 vK (gV v8 true (some v3)) fun v9 =>
 gK v8 true (fun k26 => FCall prog zbN #[v9] h2 k26) h2 fun v10 h11 =>
 vK (gV v8 true (zag v10)) fun v12 =>
 vK (gV v8 true (binV .i .eql v12 (.int .i64 6))) fun v13 =>
 vK (pickV v8 v13 (.bool false)) fun v14 =>
 vK (gV v14 true (some v3)) fun v15 =>
 gK v14 true (fun k25 => FCall prog zbq #[v15, (.int .i64 1), (.int .i64 0), (.int .i64 2), (.int .u16 256)] h11 k25) h11 fun v16 h17 =>
 vK (gV v14 true (unV .not v16)) fun v18 =>
 vK (pickV v14 v18 (.bool false)) fun v19 =>
 vK (gV v19 true (some v3)) fun v20 =>
 gK v19 true (fun k24 => FCall prog zbq #[v20, (.int .i64 1), (.int .i64 0), (.int .i64 2), (.int .u16 255)] h17 k24) h17 fun v21 h22 =>
 vK (pickV v19 v21 (.bool false)) fun v23 =>
 R v23 h22
theorem zpe (H : zjH h R) : FCall prog zhz #[] h R := fk f101 (.s .z (.s .z (.s .z .z))) H
def zio (a0 a1 : Value) (h : Heap) (R : Value → Heap → Prop) : Prop :=
 newK (Value.cells a1) 67 h fun v1 h2 =>
 vK (ldsV 3 h2 v1) fun v3 =>
 FCall prog zdd #[a0, v3] h2 fun v4 h5 =>
 vK (unV .not v4) fun v6 =>
 iteK v6 (
 R (.tuple #[(.pointer none), (.int .i64 6)]) h5) (
 drawK h5 fun S =>
 vK (fldV 0 v1) fun v7 =>
 qK S (fun h5 => ldV h5 v7) fun v8 =>
 vK (fldV 1 v1) fun v9 =>
 qK S (fun h5 => ldV h5 v9) fun v10 =>
 FCall prog zaj #[v8] h5 fun v11 h12 =>
 S h12 ∧ (FCall prog zaj #[v10] h12 fun v13 h14 =>
 FCall prog zae #[a0] h14 fun v15 h16 =>
 FCall prog zal #[a0] h16 fun v17 h18 =>
 FCall prog zat #[v11, v13, v15, v17] h18 fun v19 h20 =>
 vK (extV v19 0) fun v21 =>
 vK (extV v19 1) fun v22 =>
 vK (binV .i .neq v22 (.int .i64 0)) fun v23 =>
 iteK v23 (
 R (.tuple #[(.pointer none), v22]) h20) (
 FCall prog zaz #[v21] h20 fun v24 h25 =>
 loopK [(.int .i64 0)] h25 fun x26 j27 h28 again29 =>
 vK (binV .i .lss (ix x26 0) v24) fun v30 =>
 iteK v30 (
 FCall prog zaB #[v21] h28 fun v31 h32 =>
 loopK [(.int .i64 0)] h32 fun x33 j34 h35 again36 =>
 vK (binV .i .lss (ix x33 0) v31) fun v37 =>
 iteK v37 (
 FCall prog zae #[v21] h35 fun v38 h39 =>
 loopK [(.int .i64 0)] h39 fun x40 j41 h42 again43 =>
 vK (binV .i .lss (ix x40 0) v38) fun v44 =>
 iteK v44 (
 vK (ldsV 3 h42 v1) fun v45 =>
 FCall prog ziS #[a0, v45, (ix x33 0), (ix x26 0), (ix x40 0)] h42 fun v46 h47 =>
 FCall prog zal #[a0] h47 fun v48 h49 =>
 FCall prog zes #[v46, v48] h49 fun v50 h51 =>
 FCall prog zbq #[v21, (ix x33 0), (ix x26 0), (ix x40 0), v50] h51 fun v52 h53 =>
 vK (binV .i .add (ix x40 0) (.int .i64 1)) fun v54 =>
 again43 [v54] h53) (
 vK (binV .i .add (ix x33 0) (.int .i64 1)) fun v55 =>
 again36 [v55] h42)) (
 vK (binV .i .add (ix x26 0) (.int .i64 1)) fun v56 =>
 again29 [v56] h35)) (
 R (.tuple #[v21, (.int .i64 0)]) h28))))
theorem zof (H : zio a0 a1 h R) : FCall prog zgF #[a0, a1] h R := fk f102 (.s .z (.s (.s .z (.s (.s .z .z) .z)) (.s (.d (.op 0 .r (.op 1 .r (.op 3 .r (.op 4 .r (.op 6 .r (.op 8 .r (.op 2 .e (.op 5 .n (.op 7 .n (.op 9 .n (.op 10 .n (.op 11 .r (.op 12 .r (.op 13 .r (.op 14 .r (.op 15 .r .nil))))))))))))))))) (.s (.s .z (.s (.s .z .z) .z)) (.s (.s .z (.l 18446744056529684224 [34] (.s .z (.s (.s .z .z) (.s (.s .z (.s .z (.l 9223371487098963456 [39] (.s .z (.s (.s .z .z) (.s (.s .z (.s .z (.l 4611668426241344512 [44] (.s .z (.s (.s .z .z) (.s (.s .z .z) .z)))))) .z)))))) .z))))) (.s .z .z)))))) H
def zf9 (a0 a1 a2 a3 : Value) (h : Heap) (R : Value → Heap → Prop) : Prop :=
 FCall prog zb7 #[a0, a1, a2, a3] h fun v1 h2 =>
 vK (binV .i .geq v1 (.int .i64 0)) fun v3 =>
 iteK v3 (
 vK (nilV a0) fun v4 =>
 vK (fldV 4 v4) fun v5 =>
 vK (ldV h2 v5) fun v6 =>
 vK (idxV 1 v6 v1) fun v7 =>
 vK (ldV h2 v7) fun v8 =>
 R v8 h2) (
 R (.int .u16 0) h2)
theorem zlm (H : zf9 a0 a1 a2 a3 h R) : FCall prog zcg #[a0, a1, a2, a3] h R := fk f103 (.s .z (.s (.s .z (.s .z (.s (.s .z .z) .z))) (.s .z .z))) H
def zfZ (a0 : Value) (h : Heap) (R : Value → Heap → Prop) : Prop :=
 vK (nilV a0) fun v1 =>
 vK (fldV 16 v1) fun v2 =>
 vK (ldV h v2) fun v3 =>
 vK (nilV a0) fun v4 =>
 vK (fldV 5 v4) fun v5 =>
 vK (fldV 1 v5) fun v6 =>
 vK (fldV 1 v6) fun v7 =>
 vK (ldV h v7) fun v8 =>
 vK (nilV a0) fun v9 =>
 vK (fldV 5 v9) fun v10 =>
 vK (fldV 1 v10) fun v11 =>
 vK (fldV 3 v11) fun v12 =>
 vK (ldV h v12) fun v13 =>
 vK (binV .i .add v8 v13) fun v14 =>
 vK (binV .i .geq v3 v14) fun v15 =>
 R v15 h
theorem zlc (H : zfZ a0 h R) : FCall prog zd9 #[a0] h R := fk f104 (.s .z (.s .z .z)) H
def zf0 (a0 : Value) (h : Heap) (R : Value → Heap → Prop) : Prop :=
 newK #[(.int .i64 0), (.slice none 0 0)] 160 h fun v1 h2 =>
 drawK h2 fun S =>
 vK (nilV a0) fun v3 =>
 vK (fldV 2 v3) fun v4 =>
 vK (fldV 1 v4) fun v5 =>
 qK S (fun h2 => ldV h2 v5) fun v6 =>
 vK (nilV a0) fun v7 =>
 vK (fldV 16 v7) fun v8 =>
 qK S (fun h2 => ldV h2 v8) fun v9 =>
 FCall prog zak #[v6, v9] h2 fun v10 h11 =>
 stK 2 v1 v10 h11 fun v12 h13 =>
 vK (ldsV 2 h13 v1) fun v14 =>
 R v14 h13
theorem zld (H : zf0 a0 h R) : FCall prog zcR #[a0] h R := fk f105 (.s .z (.s (.d (.op 0 .r (.op 1 .r (.op 2 .r (.op 3 .r (.op 4 .r (.op 5 .r (.op 6 .r (.op 7 .r (.op 8 .r (.op 9 .n (.op 10 .n .nil)))))))))))) .z)) H
def zgN (a0 a1 a2 : Value) (h : Heap) (R : Value → Heap → Prop) : Prop :=
 loopK [a1] h fun x1 j2 h3 again4 =>
 vK (binV .i .lss (ix x1 0) a2) fun v5 =>
 iteK v5 (
 FCall prog zdQ #[a0, (ix x1 0)] h3 fun v6 h7 =>
 vK (unV .not v6) fun v8 =>
 iteK v8 (
 R (.tuple #[(ix x1 0), (.bool true)]) h7) (
 vK (binV .i .add (ix x1 0) (.int .i64 1)) fun v9 =>
 again4 [v9] h7)) (
 R (.tuple #[(.int .i64 0), (.bool false)]) h3)
theorem zlW (H : zgN a0 a1 a2 h R) : FCall prog zeM #[a0, a1, a2] h R := fk f106 (.s .z (.s (.s .z (.l 1048000 [8] (.s (.s .z (.s .z .z)) (.s (.s .z (.s (.s .z .z) .z)) .z)))) (.s .z .z))) H
def zmO (a0 a1 a2 : Value) (h : Heap) (R : Value → Heap → Prop) : Prop :=
 vK (binV .i .lss a2 (.int .i64 1)) fun v1 =>
 vK (gV v1 false (some a2)) fun v2 =>
 vK (gV v1 false (binV .i .gtr v2 (.int .i64 65536))) fun v3 =>
 vK (pickV v1 (.bool true) v3) fun v4 =>
 iteK v4 (
 R (.int .i64 0) h) (
 vK (binV .i .eql a0 (.int .i64 0)) fun v5 =>
 iteK v5 (
 vK (binV .i .sub a2 (.int .i64 1)) fun v6 =>
 FCall prog ze9 #[a1, (.int .i64 0), v6] h fun v7 h8 =>
 R v7 h8) (
 vK (binV .i .eql a0 (.int .i64 1)) fun v9 =>
 iteK v9 (
 vK (binV .i .mul (.int .i64 2) a2) fun v10 =>
 FCall prog zfW #[a1, v10] h fun v11 h12 =>
 vK (binV .i .mul (.int .i64 2) a2) fun v13 =>
 vK (binV .i .sub v13 (.int .i64 1)) fun v14 =>
 vK (binV .i .sub v14 v11) fun v15 =>
 vK (minV v11 v15) fun v16 =>
 R v16 h12) (
 vK (binV .i .eql a0 (.int .i64 2)) fun v17 =>
 iteK v17 (
 FCall prog zfW #[a1, a2] h fun v18 h19 =>
 R v18 h19) (
 R (.int .i64 0) h))))
theorem ok_border_At (H : zmO a0 a1 a2 h R) : FCall prog zeg #[a0, a1, a2] h R := fk f107 (.s .z (.s (.s .z (.s (.s .z .z) .z)) (.s (.s .z (.s .z (.s (.s .z .z) (.s .z (.s (.s .z (.s .z .z)) (.s .z (.s (.s .z .z) .z))))))) (.s .z .z)))) H
def zeQ (a0 a1 a2 a3 : Value) (h : Heap) (R : Value → Heap → Prop) : Prop :=
 vK (nilV a0) fun v1 =>
 vK (fldV 2 v1) fun v2 =>
 vK (fldV 0 v2) fun v3 =>
 vK (ldV h v3) fun v4 =>
 FCall prog zak #[v4, a1] h fun v5 h6 =>
 newK #[(.int .i64 0), (.slice none 0 0)] 160 h6 fun v7 h8 =>
 stK 2 v7 v5 h8 fun v9 h10 =>
 vK (nilV a0) fun v11 =>
 vK (fldV 0 v11) fun v12 =>
 vK (ldV h10 v12) fun v13 =>
 FCall prog zae #[v13] h10 fun v14 h15 =>
 loopK [a3, (.int .i64 0)] h15 fun x16 j17 h18 again19 =>
 vK (binV .i .lss (ix x16 1) v14) fun v20 =>
 iteK v20 (
 vK (fldV 1 v7) fun v21 =>
 vK (ldV h18 v21) fun v22 =>
 vK (zag v22) fun v23 =>
 loopK [(.int .i64 0), (.int .i64 0)] h18 fun x24 j25 h26 again27 =>
 vK (binV .i .lss (ix x24 1) v23) fun v28 =>
 iteK v28 (
 vK (idxV 1 v22 (ix x24 1)) fun v29 =>
 vK (ldV h26 v29) fun v30 =>
 drawK h26 fun S =>
 vK (nilV a0) fun v31 =>
 vK (fldV 2 v31) fun v32 =>
 vK (fldV 2 v32) fun v33 =>
 qK S (fun h26 => ldV h26 v33) fun v34 =>
 vK (fldV 0 v7) fun v35 =>
 qK S (fun h26 => ldV h26 v35) fun v36 =>
 vK (binV .i .add v36 (ix x24 1)) fun v37 =>
 vK (nilV a0) fun v38 =>
 vK (fldV 0 v38) fun v39 =>
 qK S (fun h26 => ldV h26 v39) fun v40 =>
 FCall prog zaB #[v40] h26 fun v41 h42 =>
 S h42 ∧ (FCall prog zeg #[v34, v37, v41] h42 fun v43 h44 =>
 vK (nilV a0) fun v45 =>
 vK (fldV 0 v45) fun v46 =>
 vK (ldV h44 v46) fun v47 =>
 FCall prog zcg #[v47, v43, a2, (ix x16 1)] h44 fun v48 h49 =>
 vK (cviV .i64 v48) fun v50 =>
 vK (binV .i .mul v30 v50) fun v51 =>
 vK (binV .i .add (ix x24 0) v51) fun v52 =>
 vK (binV .i .add (ix x24 1) (.int .i64 1)) fun v53 =>
 again27 [v52, v53] h49)) (
 rowK #[(.int .i64 0)] 2 1 [(0, 1, (ix x24 0))] h26 fun v54 h55 =>
 appK (.int .i64 0) 2 1 8 (ix x16 0) v54 h55 fun v56 h57 =>
 vK (binV .i .add (ix x16 1) (.int .i64 1)) fun v58 =>
 again19 [v56, v58] h57)) (
 R (ix x16 0) h18)
theorem zje (H : zeQ a0 a1 a2 a3 h R) : FCall prog zdk #[a0, a1, a2, a3] h R := fk f108 (.s .z (.s .z (.s (.s .z (.l 4722366482869511027720 [3, 27] (.s .z (.s (.s .z .z) (.s (.s .z (.s .z (.s (.s .z (.l 147573952581086509056 [11, 33] (.s .z (.s (.s .z .z) (.s (.s .z (.s (.d (.op 0 .r (.op 1 .r (.op 2 .r (.op 3 .r (.op 4 .r (.op 5 .r (.op 6 .r (.op 7 .r (.op 8 .r (.op 9 .r (.op 10 .r (.op 11 .r (.op 12 .r (.op 13 .e (.op 14 .n (.op 15 .r .nil))))))))))))))))) .z)) .z))))) .z))) .z))))) (.s .z .z)))) H
def zhL (a0 a1 a2 : Value) (h : Heap) (R : Value → Heap → Prop) : Prop :=
 vK (zag a2) fun v1 =>
 vK (nilV a0) fun v2 =>
 vK (fldV 1 v2) fun v3 =>
 vK (ldV h v3) fun v4 =>
 vK (binV .i .neq v1 v4) fun v5 =>
 vK (gV v5 false (some a0)) fun v6 =>
 vK (gV v5 false (some a1)) fun v7 =>
 gK v5 false (fun k39 => FCall prog zdQ #[v6, v7] h k39) h fun v8 h9 =>
 vK (pickV v5 (.bool true) v8) fun v10 =>
 iteK v10 (
 R (.bool false) h9) (
 joinK (fun J11 =>
 FCall prog zed #[a0] h9 fun v15 h16 =>
 vK (extV v15 0) fun v17 =>
 vK (extV v15 1) fun v18 =>
 vK (nilV a0) fun v19 =>
 vK (fldV 2 v19) fun v20 =>
 vK (ldV h16 v20) fun v21 =>
 vK (lenmV h16 v21) fun v22 =>
 vK (nilV a0) fun v23 =>
 vK (fldV 0 v23) fun v24 =>
 vK (ldV h16 v24) fun v25 =>
 vK (binV .i .geq v22 v25) fun v26 =>
 iteK v26 (
 vK (binV .i .lss a1 v17) fun v27 =>
 iteK v27 (
 R (.bool false) h16) (
 FCall prog zeL #[a0, v17] h16 fun v28 h29 =>
 J11 [] h29)) (
 J11 [] h16))
 fun x12 j13 h14 =>
 FCall prog zea #[a0] h14 fun v30 h31 =>
 cpyK 1 v30 a2 h31 fun v32 h33 =>
 vK (nilV a0) fun v34 =>
 vK (fldV 2 v34) fun v35 =>
 vK (ldV h33 v35) fun v36 =>
 zhc (.int .i64) v36 a1 v30 h33 fun v37 h38 =>
 R (.bool true) h38)
theorem zm5 (H : zhL a0 a1 a2 h R) : FCall prog zfQ #[a0, a1, a2] h R := fk f109 (.s .z (.s (.s .z (.s (.s .z .z) .z)) (.j 8796088828352 [] (.s .z (.s .z (.s (.s (.s .z (.s (.s .z .z) .z)) .z) .z))) (.s .z (.s .z (.s .z (.s .z .z))))))) H
def zf6 (a0 : Value) (h : Heap) (R : Value → Heap → Prop) : Prop :=
 vK (nilV a0) fun v1 =>
 vK (fldV 1 v1) fun v2 =>
 vK (ldV h v2) fun v3 =>
 R v3 h
theorem zlj (H : zf6 a0 h R) : FCall prog zec #[a0] h R := fk f110 (.s .z (.s .z .z)) H
def zhK (a0 a1 : Value) (h : Heap) (R : Value → Heap → Prop) : Prop :=
 vK (nilV a0) fun v1 =>
 vK (fldV 2 v1) fun v2 =>
 vK (ldV h v2) fun v3 =>
 vK (lookV (.int .i64) (.slice none 0 0) true h v3 a1) fun v4 =>
 vK (extV v4 0) fun v5 =>
 vK (extV v4 1) fun v6 =>
 FCall prog zaL #[v5] h fun v7 h8 =>
 R (.tuple #[v7, v6]) h8
theorem zm4 (H : zhK a0 a1 h R) : FCall prog zfP #[a0, a1] h R := fk f111 (.s .z (.s .z (.s .z .z))) H
def zfu (a0 a1 a2 a3 a4 : Value) (h : Heap) (R : Value → Heap → Prop) : Prop :=
 FCall prog zb7 #[a0, a1, a2, a3] h fun v1 h2 =>
 vK (binV .i .lss v1 (.int .i64 0)) fun v3 =>
 vK (gV v3 false (some a4)) fun v4 =>
 vK (gV v3 false (cviV .i64 v4)) fun v5 =>
 vK (gV v3 false (some a0)) fun v6 =>
 vK (gV v3 false (nilV v6)) fun v7 =>
 vK (gV v3 false (fldV 3 v7)) fun v8 =>
 vK (gV v3 false (ldV h2 v8)) fun v9 =>
 vK (gV v3 false (binV .i .gtr v5 v9)) fun v10 =>
 vK (pickV v3 (.bool true) v10) fun v11 =>
 iteK v11 (
 R (.bool false) h2) (
 vK (nilV a0) fun v12 =>
 vK (fldV 4 v12) fun v13 =>
 vK (ldV h2 v13) fun v14 =>
 vK (idxV 1 v14 v1) fun v15 =>
 stK 1 v15 a4 h2 fun v16 h17 =>
 R (.bool true) h17)
theorem zj4 (H : zfu a0 a1 a2 a3 a4 h R) : FCall prog zbq #[a0, a1, a2, a3, a4] h R := fk f112 (.s .z (.s .z (.s (.s .z (.s (.s .z .z) .z)) (.s .z (.s .z .z))))) H
def zin (a0 a1 : Value) (h : Heap) (R : Value → Heap → Prop) : Prop :=
 FCall prog zcW #[a0, (.int .i64 28)] h fun v1 h2 =>
 vK (minV a1 (.int .i64 65535)) fun v3 =>
 vK (maxV (.int .i64 0) v3) fun v4 =>
 FCall prog ze9 #[v1, (.int .i64 0), v4] h2 fun v5 h6 =>
 vK (cviV .u16 v5) fun v7 =>
 R v7 h6
theorem zoe (H : zin a0 a1 h R) : FCall prog zes #[a0, a1] h R := fk f113 (.s .z (.s .z .z)) H
def zcj (a0 : Value) (h : Heap) (R : Value → Heap → Prop) : Prop :=
 joinK (fun J1 =>
 vK (zag a0) fun v5 =>
 vK (binV .i .lss v5 (.int .i64 1)) fun v6 =>
 iteK v6 (
 failK h fun v7 h8 =>
 J1 [] h8) (
 J1 [] h))
 fun x2 j3 h4 =>
 vK (idxV 1 a0 (.int .i64 0)) fun v9 =>
 vK (ldV h4 v9) fun v10 =>
 loopK [v10, (.int .i64 1)] h4 fun x11 j12 h13 again14 =>
 vK (zag a0) fun v15 =>
 vK (binV .i .lss (ix x11 1) v15) fun v16 =>
 iteK v16 (
 vK (idxV 1 a0 (ix x11 1)) fun v17 =>
 vK (ldV h13 v17) fun v18 =>
 vK (maxV (ix x11 0) v18) fun v19 =>
 vK (binV .i .add (ix x11 1) (.int .i64 1)) fun v20 =>
 again14 [v19, v20] h13) (
 R (ix x11 0) h13)
theorem zez (H : zcj a0 h R) : FCall prog zbu #[a0] h R := fk f114 (.s .z (.j 480 [] (.s .z (.s .z .z)) (.s .z (.s (.s .z (.l 16773144 [3, 4] (.s (.s .z (.s .z .z)) (.s .z .z)))) (.s .z .z))))) H
def zkD (a0 : Value) (h : Heap) (R : Value → Heap → Prop) : Prop :=
 vK (binV .i .geq a0 (.int .i64 1)) fun v1 =>
 vK (gV v1 true (some a0)) fun v2 =>
 vK (gV v1 true (binV .i .leq v2 (.int .i64 65536))) fun v3 =>
 vK (pickV v1 v3 (.bool false)) fun v4 =>
 R v4 h
theorem zqE (H : zkD a0 h R) : FCall prog zdv #[a0] h R := fk f115 (.s .z (.s .z .z)) H
def zif (a0 a1 a2 : Value) (h : Heap) (R : Value → Heap → Prop) : Prop :=
 vK (binV .i .lss a0 (.int .i64 0)) fun v1 =>
 vK (gV v1 false (some a0)) fun v2 =>
 vK (gV v1 false (binV .i .gtr v2 (.int .i64 2))) fun v3 =>
 vK (pickV v1 (.bool true) v3) fun v4 =>
 vK (gV v4 false (some a1)) fun v5 =>
 gK v4 false (fun k36 => FCall prog zeD #[v5] h k36) h fun v6 h7 =>
 vK (gV v4 false (unV .not v6)) fun v8 =>
 vK (pickV v4 (.bool true) v8) fun v9 =>
 vK (gV v9 false (some a2)) fun v10 =>
 gK v9 false (fun k35 => FCall prog zeD #[v10] h7 k35) h7 fun v11 h12 =>
 vK (gV v9 false (unV .not v11)) fun v13 =>
 vK (pickV v9 (.bool true) v13) fun v14 =>
 iteK v14 (
 R (.tuple #[(.slice none 0 0), (.int .i64 6)]) h12) (
 loopK [(.slice none 0 0), (.int .i64 0)] h12 fun x15 j16 h17 again18 =>
 vK (binV .i .lss (ix x15 1) a2) fun v19 =>
 iteK v19 (
 FCall prog zhq #[a0, a1, a2, (ix x15 1)] h17 fun v20 h21 =>
 vK (extV v20 0) fun v22 =>
 vK (extV v20 1) fun v23 =>
 FCall prog zcf #[v23] h21 fun v24 h25 =>
 vK (extV v24 0) fun v26 =>
 vK (extV v24 1) fun v27 =>
 vK (binV .i .neq v27 (.int .i64 0)) fun v28 =>
 iteK v28 (
 R (.tuple #[(.slice none 0 0), v27]) h25) (
 vK ((fillL #[(.int .i64 0), (.slice none 0 0)] [(0, 1, v22), (1, 1, v26)]).map .agg) fun v29 =>
 rowK #[(.int .i64 0), (.slice none 0 0)] 146 1 [(0, 2, v29)] h25 fun v30 h31 =>
 appK (.agg #[.int .i64 0, .slice none 0 0]) 146 2 32 (ix x15 0) v30 h31 fun v32 h33 =>
 vK (binV .i .add (ix x15 1) (.int .i64 1)) fun v34 =>
 again18 [v32, v34] h33)) (
 R (.tuple #[(ix x15 0), (.int .i64 0)]) h17))
theorem zn6 (H : zif a0 a1 a2 h R) : FCall prog zep #[a0, a1, a2] h R := fk f116 (.s .z (.s (.s .z (.s (.s .z .z) .z)) (.s .z (.s (.s .z (.l 144115185928388544 [8, 31] (.s .z (.s (.s .z .z) (.s (.s .z (.s .z (.s .z (.s (.s .z (.s (.s .z .z) .z)) .z)))) .z))))) (.s .z .z))))) H
def zgO (a0 : Value) (h : Heap) (R : Value → Heap → Prop) : Prop :=
 vK (binV .i .lss a0 (.int .i64 1)) fun v1 =>
 vK (gV v1 false (some a0)) fun v2 =>
 vK (gV v1 false (binV .i .gtr v2 (.int .i64 4194304))) fun v3 =>
 vK (pickV v1 (.bool true) v3) fun v4 =>
 iteK v4 (
 R (.tuple #[(.slice none 0 0), (.int .i64 7)]) h) (
 loopK [(.int .i64 0)] h fun x5 j6 h7 again8 =>
 vK (binV .i .mul (ix x5 0) (.int .i64 65536)) fun v9 =>
 vK (binV .i .mul (.int .i64 3) a0) fun v10 =>
 vK (binV .i .lss v9 v10) fun v11 =>
 iteK v11 (
 vK (binV .i .add (ix x5 0) (.int .i64 1)) fun v12 =>
 again8 [v12] h7) (
 vK (unV .neg (ix x5 0)) fun v13 =>
 loopK [(.slice none 0 0), v13] h7 fun x14 j15 h16 again17 =>
 vK (binV .i .leq (ix x14 1) (ix x5 0)) fun v18 =>
 iteK v18 (
 FCall prog zhs #[(ix x14 1), a0] h16 fun v19 h20 =>
 rowK #[(.int .i64 0)] 2 1 [(0, 1, v19)] h20 fun v21 h22 =>
 appK (.int .i64 0) 2 1 8 (ix x14 0) v21 h22 fun v23 h24 =>
 vK (binV .i .add (ix x14 1) (.int .i64 1)) fun v25 =>
 again17 [v23, v25] h24) (
 R (.tuple #[(ix x14 0), (.int .i64 0)]) h16)))
theorem zlX (H : zgO a0 h R) : FCall prog zeN #[a0] h R := fk f117 (.s .z (.s (.s .z (.s (.s .z .z) .z)) (.s .z (.s (.l 1040400 [4] (.s (.s .z (.s .z .z)) .z)) (.s .z (.s (.s .z (.l 8585740384 [5, 6] (.s (.s .z (.s .z .z)) (.s .z .z)))) (.s .z .z))))))) H
def zkN (a0 : Value) (h : Heap) (R : Value → Heap → Prop) : Prop :=
 vK (binV .i .lss a0 (.int .i64 0)) fun v1 =>
 vK (gV v1 false (some a0)) fun v2 =>
 vK (gV v1 false (binV .i .gtr v2 (.int .i64 511))) fun v3 =>
 vK (pickV v1 (.bool true) v3) fun v4 =>
 iteK v4 (
 R (.tuple #[(.slice none 0 0), (.int .i64 7)]) h) (
 vK (binV .i .mul (.int .i64 2) a0) fun v5 =>
 vK (binV .i .add v5 (.int .i64 1)) fun v6 =>
 loopK [(.slice none 0 0), (.int .i64 0)] h fun x7 j8 h9 again10 =>
 vK (binV .i .lss (ix x7 1) v6) fun v11 =>
 iteK v11 (
 rowK #[(.int .i64 0)] 2 1 [(0, 1, (.int .i64 1))] h9 fun v12 h13 =>
 appK (.int .i64 0) 2 1 8 (ix x7 0) v12 h13 fun v14 h15 =>
 vK (binV .i .add (ix x7 1) (.int .i64 1)) fun v16 =>
 again10 [v14, v16] h15) (
 FCall prog zeE #[(ix x7 0)] h9 fun v17 h18 =>
 vK (extV v17 0) fun v19 =>
 vK (extV v17 1) fun v20 =>
 R (.tuple #[v19, v20]) h18))
theorem zqO (H : zkN a0 h R) : FCall prog ziK #[a0] h R := fk f118 (.s .z (.s (.s .z (.s (.s .z .z) .z)) (.s .z (.s (.s .z (.l 1032208 [4, 14] (.s .z (.s (.s .z .z) (.s .z .z))))) (.s .z .z))))) H
def zkK (a0 : Value) (h : Heap) (R : Value → Heap → Prop) : Prop :=
 FCall prog zhp #[a0] h fun v1 h2 =>
 vK (zag a0) fun v3 =>
 vK (binV .i .rem v3 (.int .i64 2)) fun v4 =>
 vK (binV .i .eql v4 (.int .i64 0)) fun v5 =>
 vK (gV v5 false (some a0)) fun v6 =>
 vK (gV v5 false (zag v6)) fun v7 =>
 vK (gV v5 false (binV .i .gtr v7 (.int .i64 1024))) fun v8 =>
 vK (pickV v5 (.bool true) v8) fun v9 =>
 vK (gV v9 false (some v1)) fun v10 =>
 vK (gV v9 false (binV .i .eql v10 (.int .i64 0))) fun v11 =>
 vK (pickV v9 (.bool true) v11) fun v12 =>
 vK (gV v12 false (some v1)) fun v13 =>
 vK (gV v12 false (binV .i .gtr v13 (.int .i64 1048576))) fun v14 =>
 vK (pickV v12 (.bool true) v14) fun v15 =>
 iteK v15 (
 R (.tuple #[(.slice none 0 0), (.int .i64 7)]) h2) (
 vK (zag a0) fun v16 =>
 loopK [(.slice none 0 0), (.int .i64 0)] h2 fun x17 j18 h19 again20 =>
 vK (binV .i .lss (ix x17 1) v16) fun v21 =>
 iteK v21 (
 vK (idxV 1 a0 (ix x17 1)) fun v22 =>
 vK (ldV h19 v22) fun v23 =>
 FCall prog zaR #[v23, (.int .i64 1073741824), v1] h19 fun v24 h25 =>
 rowK #[(.int .i64 0)] 2 1 [(0, 1, v24)] h25 fun v26 h27 =>
 appK (.int .i64 0) 2 1 8 (ix x17 0) v26 h27 fun v28 h29 =>
 vK (binV .i .add (ix x17 1) (.int .i64 1)) fun v30 =>
 again20 [v28, v30] h29) (
 R (.tuple #[(ix x17 0), (.int .i64 0)]) h19))
theorem zqL (H : zkK a0 h R) : FCall prog zeE #[a0] h R := fk f119 (.s .z (.s .z (.s (.s .z (.s (.s .z .z) .z)) (.s .z (.s (.s .z (.l 1098974757024 [5, 29] (.s .z (.s (.s .z .z) (.s (.s .z .z) .z))))) (.s .z .z)))))) H
def zig (a0 a1 : Value) (h : Heap) (R : Value → Heap → Prop) : Prop :=
 FCall prog zeD #[a1] h fun v1 h2 =>
 vK (unV .not v1) fun v3 =>
 iteK v3 (
 R (.tuple #[(.slice none 0 0), (.int .i64 6)]) h2) (
 vK (zag a0) fun v4 =>
 vK (binV .i .rem v4 (.int .i64 2)) fun v5 =>
 vK (binV .i .eql v5 (.int .i64 0)) fun v6 =>
 iteK v6 (
 R (.tuple #[(.slice none 0 0), (.int .i64 7)]) h2) (
 FCall prog zcf #[a0] h2 fun v7 h8 =>
 vK (extV v7 0) fun v9 =>
 vK (extV v7 1) fun v10 =>
 vK (binV .i .neq v10 (.int .i64 0)) fun v11 =>
 iteK v11 (
 R (.tuple #[(.slice none 0 0), v10]) h8) (
 loopK [(.slice none 0 0), (.int .i64 0)] h8 fun x12 j13 h14 again15 =>
 vK (binV .i .lss (ix x12 1) a1) fun v16 =>
 iteK v16 (
 vK (zag a0) fun v17 =>
 vK (binV .i .quo v17 (.int .i64 2)) fun v18 =>
 vK (binV .i .sub (ix x12 1) v18) fun v19 =>
 vK ((fillL #[(.int .i64 0), (.slice none 0 0)] [(0, 1, v19), (1, 1, v9)]).map .agg) fun v20 =>
 rowK #[(.int .i64 0), (.slice none 0 0)] 146 1 [(0, 2, v20)] h14 fun v21 h22 =>
 appK (.agg #[.int .i64 0, .slice none 0 0]) 146 2 32 (ix x12 0) v21 h22 fun v23 h24 =>
 vK (binV .i .add (ix x12 1) (.int .i64 1)) fun v25 =>
 again15 [v23, v25] h24) (
 R (.tuple #[(ix x12 0), (.int .i64 0)]) h14))))
theorem zn7 (H : zig a0 a1 h R) : FCall prog zeq #[a0, a1] h R := fk f120 (.s .z (.s (.s .z (.s (.s .z .z) .z)) (.s (.s .z (.s (.s .z .z) .z)) (.s .z (.s (.s .z (.s (.s .z .z) .z)) (.s .z (.s (.s .z (.l 1099444519680 [8, 26] (.s .z (.s (.s .z .z) (.s (.s .z .z) .z))))) (.s .z .z)))))))) H
def zft (a0 : Value) (h : Heap) (R : Value → Heap → Prop) : Prop :=
 vK (nilV a0) fun v1 =>
 vK (fldV 0 v1) fun v2 =>
 vK (ldV h v2) fun v3 =>
 R v3 h
theorem zj3 (H : zft a0 h R) : FCall prog zbp #[a0] h R := fk f121 (.s .z (.s .z .z)) H
def zjP (a0 : Value) (h : Heap) (R : Value → Heap → Prop) : Prop :=
 vK (binV .i .lss a0 (.int .i64 0)) fun v1 =>
 vK (gV v1 false (some a0)) fun v2 =>
 vK (gV v1 false (ldV h (.pointer (some ⟨zem, 0, none⟩)))) fun v3 =>
 vK (gV v1 false (zag v3)) fun v4 =>
 vK (gV v1 false (binV .i .geq v2 v4)) fun v5 =>
 vK (pickV v1 (.bool true) v5) fun v6 =>
 iteK v6 (
 R (.string ⟨#[]⟩) h) (
 vK (ldV h (.pointer (some ⟨zem, 0, none⟩))) fun v7 =>
 vK (idxV 1 v7 a0) fun v8 =>
 vK (ldV h v8) fun v9 =>
 R v9 h)
theorem zpm (H : zjP a0 h R) : FCall prog zfa #[a0] h R := fk f122 (.s .z (.s (.s .z (.s (.s .z .z) .z)) (.s .z .z))) H
def zjw (a0 a1 : Value) (h : Heap) (R : Value → Heap → Prop) : Prop :=
 newK (Value.cells a0) 214 h fun v1 h2 =>
 newK #[(.int .u64 0), (.int .u64 0)] 214 h2 fun v3 h4 =>
 vK (fldV 0 v1) fun v5 =>
 vK (ldV h4 v5) fun v6 =>
 vK (binV .i .shl v6 (.int .u64 1)) fun v7 =>
 vK (fldV 1 v1) fun v8 =>
 vK (ldV h4 v8) fun v9 =>
 vK (binV .i .shr v9 (.int .u64 63)) fun v10 =>
 vK (binV .i .add v7 v10) fun v11 =>
 vK (fldV 1 v1) fun v12 =>
 vK (ldV h4 v12) fun v13 =>
 vK (binV .i .shl v13 (.int .u64 1)) fun v14 =>
 vK (binV .i .add v14 a1) fun v15 =>
 vK ((fillL #[(.int .u64 0), (.int .u64 0)] [(0, 1, v11), (1, 1, v15)]).map .agg) fun v16 =>
 stK 2 v3 v16 h4 fun v17 h18 =>
 vK (ldsV 2 h18 v3) fun v19 =>
 R v19 h18
theorem zo3 (H : zjw a0 a1 h R) : FCall prog zbj #[a0, a1] h R := fk f123 (.s .z (.s .z .z)) H
def zkP (a0 : Value) (h : Heap) (R : Value → Heap → Prop) : Prop :=
 vK (binV .i .lss a0 (.int .i64 0)) fun v1 =>
 iteK v1 (
 vK (binV .i .add a0 (.int .i64 1)) fun v2 =>
 vK (unV .neg v2) fun v3 =>
 vK (cviV .u64 v3) fun v4 =>
 vK (binV .i .add v4 (.int .u64 1)) fun v5 =>
 R v5 h) (
 vK (cviV .u64 a0) fun v6 =>
 R v6 h)
theorem zqQ (H : zkP a0 h R) : FCall prog zbA #[a0] h R := fk f124 (.s .z (.s (.s .z (.s (.s .z .z) .z)) (.s .z .z))) H
def zmD (a0 a1 : Value) (h : Heap) (R : Value → Heap → Prop) : Prop :=
 newK (Value.cells a0) 214 h fun v1 h2 =>
 vK (binV .i .geq a1 (.int .i64 64)) fun v3 =>
 iteK v3 (
 vK (fldV 0 v1) fun v4 =>
 vK (ldV h2 v4) fun v5 =>
 vK (binV .i .sub a1 (.int .i64 64)) fun v6 =>
 vK (binV .i .shr v5 v6) fun v7 =>
 vK (binV .i .and v7 (.int .u64 1)) fun v8 =>
 R v8 h2) (
 vK (fldV 1 v1) fun v9 =>
 vK (ldV h2 v9) fun v10 =>
 vK (binV .i .shr v10 a1) fun v11 =>
 vK (binV .i .and v11 (.int .u64 1)) fun v12 =>
 R v12 h2)
theorem ok_ref01_Bit (H : zmD a0 a1 h R) : FCall prog zcp #[a0, a1] h R := fk f125 (.s .z (.s (.s .z (.s (.s .z .z) .z)) (.s .z .z))) H
def zjz (a0 a1 : Value) (h : Heap) (R : Value → Heap → Prop) : Prop :=
 newK (Value.cells a0) 214 h fun v1 h2 =>
 newK (Value.cells a1) 214 h2 fun v3 h4 =>
 newK #[(.int .u64 0), (.int .u64 0)] 214 h4 fun v5 h6 =>
 vK (fldV 0 v1) fun v7 =>
 vK (ldV h6 v7) fun v8 =>
 vK (fldV 0 v3) fun v9 =>
 vK (ldV h6 v9) fun v10 =>
 vK (binV .i .sub v8 v10) fun v11 =>
 vK (fldV 1 v1) fun v12 =>
 vK (ldV h6 v12) fun v13 =>
 vK (fldV 1 v3) fun v14 =>
 vK (ldV h6 v14) fun v15 =>
 vK (binV .i .sub v13 v15) fun v16 =>
 vK ((fillL #[(.int .u64 0), (.int .u64 0)] [(0, 1, v11), (1, 1, v16)]).map .agg) fun v17 =>
 newK #[(.int .u64 0), (.int .u64 0)] 214 h6 fun v18 h19 =>
 stK 2 v18 v17 h19 fun v20 h21 =>
 vK (fldV 1 v1) fun v22 =>
 vK (ldV h21 v22) fun v23 =>
 vK (fldV 1 v3) fun v24 =>
 vK (ldV h21 v24) fun v25 =>
 vK (binV .i .lss v23 v25) fun v26 =>
 iteK v26 (
 vK (fldV 0 v18) fun v27 =>
 vK (ldV h21 v27) fun v28 =>
 vK (binV .i .sub v28 (.int .u64 1)) fun v29 =>
 vK (fldV 0 v18) fun v30 =>
 stK 1 v30 v29 h21 fun v31 h32 =>
 vK (ldsV 2 h32 v18) fun v33 =>
 stK 2 v5 v33 h32 fun v34 h35 =>
 vK (ldsV 2 h35 v5) fun v36 =>
 R v36 h35) (
 vK (ldsV 2 h21 v18) fun v37 =>
 stK 2 v5 v37 h21 fun v38 h39 =>
 vK (ldsV 2 h39 v5) fun v40 =>
 R v40 h39)
theorem zo6 (H : zjz a0 a1 h R) : FCall prog ze6 #[a0, a1] h R := fk f126 (.s .z (.s .z (.s (.s .z (.s .z .z)) (.s .z .z)))) H
def zkS (a0 a1 : Value) (h : Heap) (R : Value → Heap → Prop) : Prop :=
 newK (Value.cells a0) 214 h fun v1 h2 =>
 newK (Value.cells a1) 214 h2 fun v3 h4 =>
 vK (fldV 0 v1) fun v5 =>
 vK (ldV h4 v5) fun v6 =>
 vK (fldV 0 v3) fun v7 =>
 vK (ldV h4 v7) fun v8 =>
 vK (binV .i .neq v6 v8) fun v9 =>
 iteK v9 (
 vK (fldV 0 v1) fun v10 =>
 vK (ldV h4 v10) fun v11 =>
 vK (fldV 0 v3) fun v12 =>
 vK (ldV h4 v12) fun v13 =>
 vK (binV .i .lss v11 v13) fun v14 =>
 R v14 h4) (
 vK (fldV 1 v1) fun v15 =>
 vK (ldV h4 v15) fun v16 =>
 vK (fldV 1 v3) fun v17 =>
 vK (ldV h4 v17) fun v18 =>
 vK (binV .i .lss v16 v18) fun v19 =>
 R v19 h4)
theorem zqT (H : zkS a0 a1 h R) : FCall prog zcJ #[a0, a1] h R := fk f127 (.s .z (.s (.s .z (.s (.s .z .z) .z)) (.s .z .z))) H
def zkQ (a0 a1 : Value) (h : Heap) (R : Value → Heap → Prop) : Prop :=
 newK (Value.cells a0) 214 h fun v1 h2 =>
 newK (Value.cells a1) 214 h2 fun v3 h4 =>
 newK #[(.int .u64 0), (.int .u64 0)] 214 h4 fun v5 h6 =>
 vK (fldV 0 v1) fun v7 =>
 vK (ldV h6 v7) fun v8 =>
 vK (fldV 0 v3) fun v9 =>
 vK (ldV h6 v9) fun v10 =>
 vK (binV .i .add v8 v10) fun v11 =>
 vK (fldV 1 v1) fun v12 =>
 vK (ldV h6 v12) fun v13 =>
 vK (fldV 1 v3) fun v14 =>
 vK (ldV h6 v14) fun v15 =>
 vK (binV .i .add v13 v15) fun v16 =>
 vK ((fillL #[(.int .u64 0), (.int .u64 0)] [(0, 1, v11), (1, 1, v16)]).map .agg) fun v17 =>
 newK #[(.int .u64 0), (.int .u64 0)] 214 h6 fun v18 h19 =>
 stK 2 v18 v17 h19 fun v20 h21 =>
 vK (fldV 1 v18) fun v22 =>
 vK (ldV h21 v22) fun v23 =>
 vK (fldV 1 v1) fun v24 =>
 vK (ldV h21 v24) fun v25 =>
 vK (binV .i .lss v23 v25) fun v26 =>
 iteK v26 (
 vK (fldV 0 v18) fun v27 =>
 vK (ldV h21 v27) fun v28 =>
 vK (binV .i .add v28 (.int .u64 1)) fun v29 =>
 vK (fldV 0 v18) fun v30 =>
 stK 1 v30 v29 h21 fun v31 h32 =>
 vK (ldsV 2 h32 v18) fun v33 =>
 stK 2 v5 v33 h32 fun v34 h35 =>
 vK (ldsV 2 h35 v5) fun v36 =>
 R v36 h35) (
 vK (ldsV 2 h21 v18) fun v37 =>
 stK 2 v5 v37 h21 fun v38 h39 =>
 vK (ldsV 2 h39 v5) fun v40 =>
 R v40 h39)
theorem zqR (H : zkQ a0 a1 h R) : FCall prog zcl #[a0, a1] h R := fk f128 (.s .z (.s .z (.s (.s .z (.s .z .z)) (.s .z .z)))) H
def zkT (a0 a1 : Value) (h : Heap) (R : Value → Heap → Prop) : Prop :=
 newK (Value.cells a0) 214 h fun v1 h2 =>
 iteK a1 (
 vK (fldV 0 v1) fun v3 =>
 vK (ldV h2 v3) fun v4 =>
 vK (binV .i .gtr v4 (.int .u64 0)) fun v5 =>
 vK (gV v5 false (fldV 1 v1)) fun v6 =>
 vK (gV v5 false (ldV h2 v6)) fun v7 =>
 vK (gV v5 false (binV .i .gtr v7 (.int .u64 9223372036854775807))) fun v8 =>
 vK (pickV v5 (.bool true) v8) fun v9 =>
 iteK v9 (
 R (.int .i64 (-9223372036854775808)) h2) (
 vK (fldV 1 v1) fun v10 =>
 vK (ldV h2 v10) fun v11 =>
 vK (cviV .i64 v11) fun v12 =>
 vK (unV .neg v12) fun v13 =>
 R v13 h2)) (
 vK (fldV 0 v1) fun v14 =>
 vK (ldV h2 v14) fun v15 =>
 vK (binV .i .gtr v15 (.int .u64 0)) fun v16 =>
 vK (gV v16 false (fldV 1 v1)) fun v17 =>
 vK (gV v16 false (ldV h2 v17)) fun v18 =>
 vK (gV v16 false (binV .i .gtr v18 (.int .u64 9223372036854775807))) fun v19 =>
 vK (pickV v16 (.bool true) v19) fun v20 =>
 iteK v20 (
 R (.int .i64 9223372036854775807) h2) (
 vK (fldV 1 v1) fun v21 =>
 vK (ldV h2 v21) fun v22 =>
 vK (cviV .i64 v22) fun v23 =>
 R v23 h2))
theorem zqU (H : zkT a0 a1 h R) : FCall prog za2 #[a0, a1] h R := fk f129 (.s .z (.s (.s .z (.s (.s (.s .z (.s (.s .z .z) .z)) (.s .z .z)) .z)) (.s (.s .z (.s (.s .z .z) .z)) (.s .z .z)))) H
def znF (a0 a1 a2 a3 : Value) (h : Heap) (R : Value → Heap → Prop) : Prop :=
 newK (Value.cells a0) 113 h fun v1 h2 =>
 vK (binV .i .geq a1 (.int .i64 0)) fun v3 =>
 vK (gV v3 true (some a2)) fun v4 =>
 vK (gV v3 true (binV .i .geq v4 (.int .i64 0))) fun v5 =>
 vK (pickV v3 v5 (.bool false)) fun v6 =>
 vK (gV v6 true (some a3)) fun v7 =>
 vK (gV v6 true (binV .i .geq v7 (.int .i64 0))) fun v8 =>
 vK (pickV v6 v8 (.bool false)) fun v9 =>
 vK (gV v9 true (some a1)) fun v10 =>
 vK (gV v9 true (fldV 0 v1)) fun v11 =>
 vK (gV v9 true (ldV h2 v11)) fun v12 =>
 vK (gV v9 true (binV .i .lss v10 v12)) fun v13 =>
 vK (pickV v9 v13 (.bool false)) fun v14 =>
 vK (gV v14 true (some a2)) fun v15 =>
 vK (gV v14 true (fldV 1 v1)) fun v16 =>
 vK (gV v14 true (ldV h2 v16)) fun v17 =>
 vK (gV v14 true (binV .i .lss v15 v17)) fun v18 =>
 vK (pickV v14 v18 (.bool false)) fun v19 =>
 vK (gV v19 true (some a3)) fun v20 =>
 vK (gV v19 true (fldV 2 v1)) fun v21 =>
 vK (gV v19 true (ldV h2 v21)) fun v22 =>
 vK (gV v19 true (binV .i .lss v20 v22)) fun v23 =>
 vK (pickV v19 v23 (.bool false)) fun v24 =>
 R v24 h2
theorem ok_ref09_In (H : znF a0 a1 a2 a3 h R) : FCall prog zmk #[a0, a1, a2, a3] h R := fk f130 (.s .z (.s .z .z)) H
def znK (a0 : Value) (h : Heap) (R : Value → Heap → Prop) : Prop :=
 vK (binV .i .lss a0 (.int .i64 0)) fun v1 =>
 vK (gV v1 false (some a0)) fun v2 =>
 vK (gV v1 false (binV .i .geq v2 (.int .i64 3))) fun v3 =>
 vK (pickV v1 (.bool true) v3) fun v4 =>
 iteK v4 (
 R (.string ⟨#[]⟩) h) (
 vK (idxaV 3 2 (.pointer (some ⟨zbt, 0, none⟩)) a0) fun v5 =>
 vK (fldV 0 v5) fun v6 =>
 vK (ldV h v6) fun v7 =>
 R v7 h)
theorem ok_raw_Name (H : znK a0 h R) : FCall prog zjc #[a0] h R := fk f131 (.s .z (.s (.s .z (.s (.s .z .z) .z)) (.s .z .z))) H
def zic (a0 a1 a2 : Value) (h : Heap) (R : Value → Heap → Prop) : Prop :=
 FCall prog zjc #[a0] h fun v1 h2 =>
 vK (binV .s .eql v1 (.string ⟨#[]⟩)) fun v3 =>
 vK (gV v3 false (some a1)) fun v4 =>
 gK v3 false (fun k35 => FCall prog zeC #[v4] h2 k35) h2 fun v5 h6 =>
 vK (gV v3 false (unV .not v5)) fun v7 =>
 vK (pickV v3 (.bool true) v7) fun v8 =>
 vK (gV v8 false (some a2)) fun v9 =>
 gK v8 false (fun k34 => FCall prog zeC #[v9] h6 k34) h6 fun v10 h11 =>
 vK (gV v8 false (unV .not v10)) fun v12 =>
 vK (pickV v8 (.bool true) v12) fun v13 =>
 iteK v13 (
 R (.tuple #[(.pointer none), (.int .i64 6)]) h11) (
 vK ((fillL #[(.int .i64 0), (.slice none 0 0), (.int .i64 0), (.int .i64 0)] [(0, 1, a1)]).map .agg) fun v14 =>
 newK (Value.cells v14) 138 h11 fun v15 h16 =>
 loopK [(.int .i64 0)] h16 fun x17 j18 h19 again20 =>
 vK (binV .i .lss (ix x17 0) a2) fun v21 =>
 iteK v21 (
 FCall prog zlI #[a0, a1, a2, (ix x17 0)] h19 fun v22 h23 =>
 vK (extV v22 0) fun v24 =>
 vK (extV v22 1) fun v25 =>
 FCall prog zct #[v25] h23 fun v26 h27 =>
 vK (extV v26 0) fun v28 =>
 vK (extV v26 1) fun v29 =>
 vK (binV .i .neq v29 (.int .i64 0)) fun v30 =>
 iteK v30 (
 R (.tuple #[(.pointer none), v29]) h27) (
 FCall prog zcS #[v15, v24, v28] h27 fun v31 h32 =>
 vK (binV .i .add (ix x17 0) (.int .i64 1)) fun v33 =>
 again20 [v33] h32)) (
 R (.tuple #[v15, (.int .i64 0)]) h19))
theorem zn3 (H : zic a0 a1 a2 h R) : FCall prog zdb #[a0, a1, a2] h R := fk f132 (.s .z (.s (.s .z (.s (.s .z .z) .z)) (.s .z (.s (.s .z (.l 36028794871496384 [31] (.s .z (.s (.s .z .z) (.s (.s .z (.s .z (.s .z (.s (.s .z (.s (.s .z .z) .z)) .z)))) .z))))) (.s .z .z))))) H
def zkX (a0 : Value) (h : Heap) (R : Value → Heap → Prop) : Prop :=
 newK (Value.cells a0) 53 h fun v1 h2 =>
 vK (fldV 0 v1) fun v3 =>
 vK (ldV h2 v3) fun v4 =>
 vK (binV .i .eql v4 (.int .i64 0)) fun v5 =>
 iteK v5 (
 vK (fldV 2 v1) fun v6 =>
 vK (ldV h2 v6) fun v7 =>
 FCall prog zdP #[v7] h2 fun v8 h9 =>
 vK (extV v8 0) fun v10 =>
 vK (extV v8 1) fun v11 =>
 R (.tuple #[v10, v10, v11]) h9) (
 vK (binV .i .eql v4 (.int .i64 1)) fun v12 =>
 iteK v12 (
 vK (fldV 3 v1) fun v13 =>
 vK (ldV h2 v13) fun v14 =>
 FCall prog zkf #[v14] h2 fun v15 h16 =>
 vK (extV v15 0) fun v17 =>
 vK (extV v15 1) fun v18 =>
 R (.tuple #[v17, v17, v18]) h16) (
 vK (fldV 4 v1) fun v19 =>
 vK (ldV h2 v19) fun v20 =>
 FCall prog zfO #[v20] h2 fun v21 h22 =>
 vK (extV v21 0) fun v23 =>
 vK (extV v21 1) fun v24 =>
 vK (binV .i .neq v24 (.int .i64 0)) fun v25 =>
 iteK v25 (
 R (.tuple #[(.slice none 0 0), (.slice none 0 0), v24]) h22) (
 vK (fldV 5 v1) fun v26 =>
 vK (ldV h22 v26) fun v27 =>
 FCall prog zfO #[v27] h22 fun v28 h29 =>
 vK (extV v28 0) fun v30 =>
 vK (extV v28 1) fun v31 =>
 R (.tuple #[v23, v30, v31]) h29)))
theorem zqY (H : zkX a0 h R) : FCall prog ziN #[a0] h R := fk f133 (.s .z (.s (.s .z (.s .z (.s (.s .z (.s .z .z)) (.s .z (.s (.s .z (.s .z .z)) .z))))) (.s (.s .z (.s .z (.s (.s .z .z) .z))) (.s .z (.s .z .z))))) H
def zid (a0 a1 : Value) (h : Heap) (R : Value → Heap → Prop) : Prop :=
 FCall prog zeC #[a1] h fun v1 h2 =>
 vK (unV .not v1) fun v3 =>
 iteK v3 (
 R (.tuple #[(.pointer none), (.int .i64 6)]) h2) (
 vK (zag a0) fun v4 =>
 vK (binV .i .rem v4 (.int .i64 2)) fun v5 =>
 vK (binV .i .eql v5 (.int .i64 0)) fun v6 =>
 iteK v6 (
 R (.tuple #[(.pointer none), (.int .i64 7)]) h2) (
 FCall prog zct #[a0] h2 fun v7 h8 =>
 vK (extV v7 0) fun v9 =>
 vK (extV v7 1) fun v10 =>
 vK (binV .i .neq v10 (.int .i64 0)) fun v11 =>
 iteK v11 (
 R (.tuple #[(.pointer none), v10]) h8) (
 vK ((fillL #[(.int .i64 0), (.slice none 0 0), (.int .i64 0), (.int .i64 0)] [(0, 1, a1)]).map .agg) fun v12 =>
 newK (Value.cells v12) 138 h8 fun v13 h14 =>
 loopK [(.int .i64 0)] h14 fun x15 j16 h17 again18 =>
 vK (binV .i .lss (ix x15 0) a1) fun v19 =>
 iteK v19 (
 vK (zag v9) fun v20 =>
 vK (binV .i .quo v20 (.int .i64 2)) fun v21 =>
 vK (binV .i .sub (ix x15 0) v21) fun v22 =>
 FCall prog zcS #[v13, v22, v9] h17 fun v23 h24 =>
 vK (binV .i .add (ix x15 0) (.int .i64 1)) fun v25 =>
 again18 [v25] h24) (
 R (.tuple #[v13, (.int .i64 0)]) h17))))
theorem zn4 (H : zid a0 a1 h R) : FCall prog zeo #[a0, a1] h R := fk f134 (.s .z (.s (.s .z (.s (.s .z .z) (.s .z (.s (.s .z .z) .z)))) (.s .z (.s (.s .z (.s (.s .z .z) .z)) (.s .z (.s (.s .z (.l 8793945539072 [31] (.s .z (.s (.s .z .z) (.s (.s .z .z) .z))))) (.s .z .z))))))) H
def zjJ (h : Heap) (R : Value → Heap → Prop) : Prop :=
 FCall prog zhD #[] h fun v1 h2 =>
 vK (unV .not v1) fun v3 =>
 gK v3 false (fun k49 => FCall prog zhC #[] h2 k49) h2 fun v4 h5 =>
 vK (gV v3 false (unV .not v4)) fun v6 =>
 vK (pickV v3 (.bool true) v6) fun v7 =>
 iteK v7 (
 R (.bool false) h5) (
 FCall prog zdb #[(.int .i64 0), (.int .i64 4), (.int .i64 2)] h5 fun v8 h9 =>
 vK (extV v8 0) fun v10 =>
 vK (extV v8 1) fun v11 =>
 vK (binV .i .neq v11 (.int .i64 0)) fun v12 =>
 vK (gV v12 false (some v10)) fun v13 =>
 vK (gV v12 false (binV .p .eql v13 (.pointer none))) fun v14 =>
 vK (pickV v12 (.bool true) v14) fun v15 =>
 iteK v15 (
 R (.bool false) h9) (
 FCall prog zak #[v10, (.int .i64 1)] h9 fun v16 h17 =>
 newK #[(.int .i64 0), (.slice none 0 0)] 160 h17 fun v18 h19 =>
 stK 2 v18 v16 h19 fun v20 h21 =>
 FCall prog zbJ #[v10, (.int .i64 0), (.int .i64 2)] h21 fun v22 h23 =>
 vK (extV v22 0) fun v24 =>
 vK (extV v22 1) fun v25 =>
 FCall prog zak #[v10, (.int .i64 0)] h23 fun v26 h27 =>
 vK (partV false 1 0 v26) fun v28 =>
 vK (binV .i .eql v28 (.int .i64 0)) fun v29 =>
 vK (gV v29 true (fldV 0 v18)) fun v30 =>
 vK (gV v29 true (ldV h27 v30)) fun v31 =>
 vK (gV v29 true (binV .i .eql v31 (.int .i64 2))) fun v32 =>
 vK (pickV v29 v32 (.bool false)) fun v33 =>
 vK (gV v33 true (fldV 1 v18)) fun v34 =>
 vK (gV v33 true (ldV h27 v34)) fun v35 =>
 gK v33 true (fun k48 => rowK #[(.int .i64 0), (.int .i64 0)] 2 2 [(0, 1, (.int .i64 8192)), (1, 1, (.int .i64 8192))] h27 k48) h27 fun v36 h37 =>
 gK v33 true (fun k47 => FCall prog zgr #[v35, v36] h37 k47) h37 fun v38 h39 =>
 vK (pickV v33 v38 (.bool false)) fun v40 =>
 vK (gV v40 true (some v24)) fun v41 =>
 vK (gV v40 true (binV .i .eql v41 (.int .i64 0))) fun v42 =>
 vK (pickV v40 v42 (.bool false)) fun v43 =>
 vK (gV v43 true (some v25)) fun v44 =>
 vK (gV v43 true (binV .i .eql v44 (.int .i64 4))) fun v45 =>
 vK (pickV v43 v45 (.bool false)) fun v46 =>
 R v46 h39))
theorem zpg (H : zjJ h R) : FCall prog zhB #[] h R := fk f135 (.s .z (.s (.s .z (.s (.s .z .z) .z)) (.s .z (.s (.s .z (.s (.s .z .z) .z)) (.s .z (.s .z (.s .z .z))))))) H
def zk4 (a0 a1 a2 a3 a4 : Value) (h : Heap) (R : Value → Heap → Prop) : Prop :=
 newK (Value.cells a1) 67 h fun v1 h2 =>
 vK (ldsV 3 h2 v1) fun v3 =>
 FCall prog zdd #[a0, v3] h2 fun v4 h5 =>
 vK (unV .not v4) fun v6 =>
 vK (gV v6 false (some a4)) fun v7 =>
 vK (gV v6 false (binV .i .lss v7 (.int .i64 0))) fun v8 =>
 vK (pickV v6 (.bool true) v8) fun v9 =>
 vK (gV v9 false (some a4)) fun v10 =>
 vK (gV v9 false (some a0)) fun v11 =>
 gK v9 false (fun k186 => FCall prog zae #[v11] h5 k186) h5 fun v12 h13 =>
 vK (gV v9 false (binV .i .geq v10 v12)) fun v14 =>
 vK (pickV v9 (.bool true) v14) fun v15 =>
 iteK v15 (
 R (.int .i64 0) h13) (
 joinK (fun J16 =>
 drawK h13 fun S =>
 vK (fldV 0 v1) fun v20 =>
 qK S (fun h13 => ldV h13 v20) fun v21 =>
 vK (fldV 1 v1) fun v22 =>
 qK S (fun h13 => ldV h13 v22) fun v23 =>
 (FCall prog zak #[v21, a2] h13 fun v24 h25 =>
 S h25 ∧ ((FCall prog zak #[v23, a3] h25 fun v26 h27 =>
 S h27 ∧ ((newK #[(.int .i64 0), (.slice none 0 0)] 160 h27 fun v28 h29 =>
 S h29 ∧ (newK #[(.int .i64 0), (.slice none 0 0)] 160 h29 fun v30 h31 =>
 S h31 ∧ (stK 2 v28 v24 h31 fun v32 h33 =>
 S h33 ∧ (stK 2 v30 v26 h33 fun v34 h35 =>
 S h35 ∧ (J16 [v28, v30] h35))))) ∧ (newK #[(.int .i64 0), (.slice none 0 0)] 160 h27 fun v36 h37 =>
 S h37 ∧ (newK #[(.int .i64 0), (.slice none 0 0)] 160 h37 fun v38 h39 =>
 S h39 ∧ (stK 2 v38 v24 h39 fun v40 h41 =>
 S h41 ∧ (stK 2 v36 v26 h41 fun v42 h43 =>
 S h43 ∧ (J16 [v38, v36] h43))))))) ∧ ((newK #[(.int .i64 0), (.slice none 0 0)] 160 h25 fun v44 h45 =>
 S h45 ∧ ((FCall prog zak #[v23, a3] h45 fun v46 h47 =>
 S h47 ∧ (newK #[(.int .i64 0), (.slice none 0 0)] 160 h47 fun v48 h49 =>
 S h49 ∧ (stK 2 v44 v24 h49 fun v50 h51 =>
 S h51 ∧ (stK 2 v48 v46 h51 fun v52 h53 =>
 S h53 ∧ (J16 [v44, v48] h53))))) ∧ (newK #[(.int .i64 0), (.slice none 0 0)] 160 h45 fun v54 h55 =>
 S h55 ∧ (FCall prog zak #[v23, a3] h55 fun v56 h57 =>
 S h57 ∧ (stK 2 v44 v24 h57 fun v58 h59 =>
 S h59 ∧ (stK 2 v54 v56 h59 fun v60 h61 =>
 S h61 ∧ (J16 [v44, v54] h61))))))) ∧ (newK #[(.int .i64 0), (.slice none 0 0)] 160 h25 fun v62 h63 =>
 S h63 ∧ ((FCall prog zak #[v23, a3] h63 fun v64 h65 =>
 S h65 ∧ (newK #[(.int .i64 0), (.slice none 0 0)] 160 h65 fun v66 h67 =>
 S h67 ∧ (stK 2 v66 v24 h67 fun v68 h69 =>
 S h69 ∧ (stK 2 v62 v64 h69 fun v70 h71 =>
 S h71 ∧ (J16 [v66, v62] h71))))) ∧ (newK #[(.int .i64 0), (.slice none 0 0)] 160 h63 fun v72 h73 =>
 S h73 ∧ (FCall prog zak #[v23, a3] h73 fun v74 h75 =>
 S h75 ∧ (stK 2 v72 v24 h75 fun v76 h77 =>
 S h77 ∧ (stK 2 v62 v74 h77 fun v78 h79 =>
 S h79 ∧ (J16 [v72, v62] h79)))))))))) ∧ ((newK #[(.int .i64 0), (.slice none 0 0)] 160 h13 fun v80 h81 =>
 S h81 ∧ ((FCall prog zak #[v21, a2] h81 fun v82 h83 =>
 S h83 ∧ ((FCall prog zak #[v23, a3] h83 fun v84 h85 =>
 S h85 ∧ (newK #[(.int .i64 0), (.slice none 0 0)] 160 h85 fun v86 h87 =>
 S h87 ∧ (stK 2 v80 v82 h87 fun v88 h89 =>
 S h89 ∧ (stK 2 v86 v84 h89 fun v90 h91 =>
 S h91 ∧ (J16 [v80, v86] h91))))) ∧ (newK #[(.int .i64 0), (.slice none 0 0)] 160 h83 fun v92 h93 =>
 S h93 ∧ (FCall prog zak #[v23, a3] h93 fun v94 h95 =>
 S h95 ∧ (stK 2 v80 v82 h95 fun v96 h97 =>
 S h97 ∧ (stK 2 v92 v94 h97 fun v98 h99 =>
 S h99 ∧ (J16 [v80, v92] h99))))))) ∧ (newK #[(.int .i64 0), (.slice none 0 0)] 160 h81 fun v100 h101 =>
 S h101 ∧ (FCall prog zak #[v21, a2] h101 fun v102 h103 =>
 S h103 ∧ (FCall prog zak #[v23, a3] h103 fun v104 h105 =>
 S h105 ∧ (stK 2 v80 v102 h105 fun v106 h107 =>
 S h107 ∧ (stK 2 v100 v104 h107 fun v108 h109 =>
 S h109 ∧ (J16 [v80, v100] h109)))))))) ∧ (newK #[(.int .i64 0), (.slice none 0 0)] 160 h13 fun v110 h111 =>
 S h111 ∧ ((FCall prog zak #[v21, a2] h111 fun v112 h113 =>
 S h113 ∧ ((FCall prog zak #[v23, a3] h113 fun v114 h115 =>
 S h115 ∧ (newK #[(.int .i64 0), (.slice none 0 0)] 160 h115 fun v116 h117 =>
 S h117 ∧ (stK 2 v116 v112 h117 fun v118 h119 =>
 S h119 ∧ (stK 2 v110 v114 h119 fun v120 h121 =>
 S h121 ∧ (J16 [v116, v110] h121))))) ∧ (newK #[(.int .i64 0), (.slice none 0 0)] 160 h113 fun v122 h123 =>
 S h123 ∧ (FCall prog zak #[v23, a3] h123 fun v124 h125 =>
 S h125 ∧ (stK 2 v122 v112 h125 fun v126 h127 =>
 S h127 ∧ (stK 2 v110 v124 h127 fun v128 h129 =>
 S h129 ∧ (J16 [v122, v110] h129))))))) ∧ (newK #[(.int .i64 0), (.slice none 0 0)] 160 h111 fun v130 h131 =>
 S h131 ∧ (FCall prog zak #[v21, a2] h131 fun v132 h133 =>
 S h133 ∧ (FCall prog zak #[v23, a3] h133 fun v134 h135 =>
 S h135 ∧ (stK 2 v130 v132 h135 fun v136 h137 =>
 S h137 ∧ (stK 2 v110 v134 h137 fun v138 h139 =>
 S h139 ∧ (J16 [v130, v110] h139))))))))))
 fun x17 j18 h19 =>
 vK (fldV 1 (ix x17 1)) fun v140 =>
 vK (ldV h19 v140) fun v141 =>
 vK (zag v141) fun v142 =>
 loopK [(.int .i64 0), (.int .i64 0)] h19 fun x143 j144 h145 again146 =>
 vK (binV .i .lss (ix x143 1) v142) fun v147 =>
 iteK v147 (
 vK (idxV 1 v141 (ix x143 1)) fun v148 =>
 vK (ldV h145 v148) fun v149 =>
 drawK h145 fun S =>
 vK (fldV 2 v1) fun v150 =>
 qK S (fun h145 => ldV h145 v150) fun v151 =>
 vK (fldV 0 (ix x17 1)) fun v152 =>
 qK S (fun h145 => ldV h145 v152) fun v153 =>
 vK (binV .i .add v153 (ix x143 1)) fun v154 =>
 FCall prog zaz #[a0] h145 fun v155 h156 =>
 S h156 ∧ (FCall prog zeg #[v151, v154, v155] h156 fun v157 h158 =>
 vK (fldV 1 (ix x17 0)) fun v159 =>
 vK (ldV h158 v159) fun v160 =>
 vK (zag v160) fun v161 =>
 loopK [(ix x143 0), (.int .i64 0)] h158 fun x162 j163 h164 again165 =>
 vK (binV .i .lss (ix x162 1) v161) fun v166 =>
 iteK v166 (
 vK (idxV 1 v160 (ix x162 1)) fun v167 =>
 vK (ldV h164 v167) fun v168 =>
 drawK h164 fun S =>
 vK (fldV 2 v1) fun v169 =>
 qK S (fun h164 => ldV h164 v169) fun v170 =>
 vK (fldV 0 (ix x17 0)) fun v171 =>
 qK S (fun h164 => ldV h164 v171) fun v172 =>
 vK (binV .i .add v172 (ix x162 1)) fun v173 =>
 FCall prog zaB #[a0] h164 fun v174 h175 =>
 S h175 ∧ (FCall prog zeg #[v170, v173, v174] h175 fun v176 h177 =>
 vK (binV .i .mul v168 v149) fun v178 =>
 FCall prog zcg #[a0, v176, v157, a4] h177 fun v179 h180 =>
 vK (cviV .i64 v179) fun v181 =>
 vK (binV .i .mul v178 v181) fun v182 =>
 vK (binV .i .add (ix x162 0) v182) fun v183 =>
 vK (binV .i .add (ix x162 1) (.int .i64 1)) fun v184 =>
 again165 [v183, v184] h180)) (
 vK (binV .i .add (ix x143 1) (.int .i64 1)) fun v185 =>
 again146 [(ix x162 0), v185] h164))) (
 R (ix x143 0) h145))
theorem zq5 (H : zk4 a0 a1 a2 a3 a4 h R) : FCall prog ziS #[a0, a1, a2, a3, a4] h R := fk f136 (.s .z (.s (.s .z (.s (.s .z .z) .z)) (.j 4380866648064 [11, 12] (.d (.op 0 .r (.op 1 .r (.op 2 .r (.op 4 .r (.op 5 .r (.op 6 .r (.alt (.op 3 .e (.alt (.op 7 .e (.alt (.op 8 .e (.op 9 .e (.op 10 .e (.op 11 .e .nil)))) (.op 9 .e (.op 8 .e (.op 10 .e (.op 11 .e .nil)))))) (.alt (.op 8 .e (.alt (.op 7 .e (.op 9 .e (.op 10 .e (.op 11 .e .nil)))) (.op 9 .e (.op 7 .e (.op 10 .e (.op 11 .e .nil)))))) (.op 9 .e (.alt (.op 7 .e (.op 8 .e (.op 10 .e (.op 11 .e .nil)))) (.op 8 .e (.op 7 .e (.op 10 .e (.op 11 .e .nil))))))))) (.alt (.op 8 .e (.alt (.op 3 .e (.alt (.op 7 .e (.op 9 .e (.op 10 .e (.op 11 .e .nil)))) (.op 9 .e (.op 7 .e (.op 10 .e (.op 11 .e .nil)))))) (.op 9 .e (.op 3 .e (.op 7 .e (.op 10 .e (.op 11 .e .nil))))))) (.op 9 .e (.alt (.op 3 .e (.alt (.op 7 .e (.op 8 .e (.op 10 .e (.op 11 .e .nil)))) (.op 8 .e (.op 7 .e (.op 10 .e (.op 11 .e .nil)))))) (.op 8 .e (.op 3 .e (.op 7 .e (.op 10 .e (.op 11 .e .nil)))))))))))))))) (.s .z (.s (.s .z (.l 1237940039285345090528075776 [13, 45] (.s .z (.s (.s .z .z) (.s (.s .z (.s (.d (.op 0 .r (.op 1 .r (.op 2 .r (.op 3 .r (.op 4 .r (.op 5 .r (.op 6 .r (.op 7 .e (.op 8 .n (.op 9 .r .nil))))))))))) (.s .z (.l 618970015031004119023099904 [13, 62] (.s .z (.s (.s .z .z) (.s (.s .z (.s (.d (.op 0 .r (.op 1 .r (.op 2 .r (.op 3 .r (.op 4 .r (.op 5 .r (.op 6 .r (.op 7 .e (.op 8 .n (.op 9 .r .nil))))))))))) .z)) .z))))))) .z))))) (.s .z .z)))))) H
def zev (a0 a1 a2 a3 : Value) (h : Heap) (R : Value → Heap → Prop) : Prop :=
 vK (binV .i .lss a1 (.int .i64 0)) fun v1 =>
 vK (gV v1 false (some a1)) fun v2 =>
 vK (gV v1 false (some a0)) fun v3 =>
 vK (gV v1 false (nilV v3)) fun v4 =>
 vK (gV v1 false (fldV 0 v4)) fun v5 =>
 vK (gV v1 false (ldV h v5)) fun v6 =>
 vK (gV v1 false (binV .i .geq v2 v6)) fun v7 =>
 vK (pickV v1 (.bool true) v7) fun v8 =>
 vK (gV v8 false (some a2)) fun v9 =>
 vK (gV v8 false (binV .i .lss v9 (.int .i64 0))) fun v10 =>
 vK (pickV v8 (.bool true) v10) fun v11 =>
 vK (gV v11 false (some a2)) fun v12 =>
 vK (gV v11 false (some a0)) fun v13 =>
 vK (gV v11 false (nilV v13)) fun v14 =>
 vK (gV v11 false (fldV 1 v14)) fun v15 =>
 vK (gV v11 false (ldV h v15)) fun v16 =>
 vK (gV v11 false (binV .i .geq v12 v16)) fun v17 =>
 vK (pickV v11 (.bool true) v17) fun v18 =>
 vK (gV v18 false (some a3)) fun v19 =>
 vK (gV v18 false (binV .i .lss v19 (.int .i64 0))) fun v20 =>
 vK (pickV v18 (.bool true) v20) fun v21 =>
 vK (gV v21 false (some a3)) fun v22 =>
 vK (gV v21 false (some a0)) fun v23 =>
 vK (gV v21 false (nilV v23)) fun v24 =>
 vK (gV v21 false (fldV 2 v24)) fun v25 =>
 vK (gV v21 false (ldV h v25)) fun v26 =>
 vK (gV v21 false (binV .i .geq v22 v26)) fun v27 =>
 vK (pickV v21 (.bool true) v27) fun v28 =>
 iteK v28 (
 R (.int .i64 (-1)) h) (
 vK (nilV a0) fun v29 =>
 vK (fldV 0 v29) fun v30 =>
 vK (ldV h v30) fun v31 =>
 vK (binV .i .mul a2 v31) fun v32 =>
 vK (binV .i .add v32 a1) fun v33 =>
 vK (nilV a0) fun v34 =>
 vK (fldV 2 v34) fun v35 =>
 vK (ldV h v35) fun v36 =>
 vK (binV .i .mul v33 v36) fun v37 =>
 vK (binV .i .add v37 a3) fun v38 =>
 R v38 h)
theorem ziw (H : zev a0 a1 a2 a3 h R) : FCall prog zb7 #[a0, a1, a2, a3] h R := fk f137 (.s .z (.s (.s .z (.s (.s .z .z) .z)) (.s .z .z))) H
def zhM (a0 a1 : Value) (h : Heap) (R : Value → Heap → Prop) : Prop :=
 vK (nilV a0) fun v1 =>
 vK (fldV 2 v1) fun v2 =>
 vK (ldV h v2) fun v3 =>
 vK (lookV (.int .i64) (.slice none 0 0) true h v3 a1) fun v4 =>
 vK (extV v4 0) fun v5 =>
 vK (extV v4 1) fun v6 =>
 R v6 h
theorem zm6 (H : zhM a0 a1 h R) : FCall prog zdQ #[a0, a1] h R := fk f138 (.s .z (.s .z (.s .z .z))) H
def zjO (a0 a1 a2 : Value) (h : Heap) (R : Value → Heap → Prop) : Prop :=
 vK (minV a0 a2) fun v1 =>
 vK (maxV a1 v1) fun v2 =>
 R v2 h
theorem zpl (H : zjO a0 a1 a2 h R) : FCall prog ze9 #[a0, a1, a2] h R := fk f139 (.s .z (.s .z .z)) H
def zmM (a0 a1 : Value) (h : Heap) (R : Value → Heap → Prop) : Prop :=
 vK (binV .i .eql a1 (.int .i64 0)) fun v1 =>
 vK (gV v1 false (some a1)) fun v2 =>
 vK (gV v1 false (binV .i .eql v2 (.int .i64 (-1)))) fun v3 =>
 vK (pickV v1 (.bool true) v3) fun v4 =>
 iteK v4 (
 R (.int .i64 0) h) (
 vK (binV .i .rem a0 a1) fun v5 =>
 vK (binV .i .neq v5 (.int .i64 0)) fun v6 =>
 vK (gV v6 true (some v5)) fun v7 =>
 vK (gV v6 true (binV .i .lss v7 (.int .i64 0))) fun v8 =>
 vK (gV v6 true (some a1)) fun v9 =>
 vK (gV v6 true (binV .i .lss v9 (.int .i64 0))) fun v10 =>
 vK (gV v6 true (binV .b .neq v8 v10)) fun v11 =>
 vK (pickV v6 v11 (.bool false)) fun v12 =>
 iteK v12 (
 vK (binV .i .add v5 a1) fun v13 =>
 R v13 h) (
 R v5 h))
theorem ok_fixed_Mod (H : zmM a0 a1 h R) : FCall prog zfW #[a0, a1] h R := fk f140 (.s .z (.s (.s .z (.s (.s .z .z) .z)) (.s .z (.s (.s .z (.s .z .z)) (.s .z .z))))) H
def zf7 (a0 : Value) (h : Heap) (R : Value → Heap → Prop) : Prop :=
 vK (nilV a0) fun v1 =>
 vK (fldV 2 v1) fun v2 =>
 vK (ldV h v2) fun v3 =>
 vK (lenmV h v3) fun v4 =>
 vK (binV .i .eql v4 (.int .i64 0)) fun v5 =>
 iteK v5 (
 R (.tuple #[(.int .i64 0), (.bool false)]) h) (
 vK (nilV a0) fun v6 =>
 vK (fldV 2 v6) fun v7 =>
 vK (ldV h v7) fun v8 =>
 FCall prog za3 #[v8] h fun v9 h10 =>
 FCall prog zd3 #[v9] h10 fun v11 h12 =>
 FCall prog zbK #[v11] h12 fun v13 h14 =>
 R (.tuple #[v13, (.bool true)]) h14)
theorem zlk (H : zf7 a0 h R) : FCall prog zed #[a0] h R := fk f141 (.s .z (.s (.s .z (.s (.s .z .z) .z)) (.s .z .z))) H
def zgM (a0 a1 : Value) (h : Heap) (R : Value → Heap → Prop) : Prop :=
 drawK h fun S =>
 vK (nilV a0) fun v1 =>
 vK (fldV 3 v1) fun v2 =>
 qK S (fun h => ldV h v2) fun v3 =>
 vK (nilV a0) fun v4 =>
 vK (fldV 2 v4) fun v5 =>
 qK S (fun h => ldV h v5) fun v6 =>
 qK S (fun h => lookV (.int .i64) (.slice none 0 0) false h v6 a1) fun v7 =>
 rowK #[(.slice none 0 0)] 50 1 [(0, 1, v7)] h fun v8 h9 =>
 S h9 ∧ (appK (.slice none 0 0) 50 1 24 v3 v8 h9 fun v10 h11 =>
 S h11 ∧ (vK (nilV a0) fun v12 =>
 vK (fldV 3 v12) fun v13 =>
 stK 1 v13 v10 h11 fun v14 h15 =>
 vK (nilV a0) fun v16 =>
 vK (fldV 2 v16) fun v17 =>
 vK (ldV h15 v17) fun v18 =>
 zfF (.int .i64) v18 a1 h15 fun v19 h20 =>
 R (.tuple #[]) h20))
theorem zlV (H : zgM a0 a1 h R) : FCall prog zeL #[a0, a1] h R := fk f142 (.s (.d (.op 0 .r (.op 1 .r (.op 2 .r (.op 3 .r (.op 4 .r (.op 5 .r (.op 6 .r (.op 7 .r (.op 8 .r (.op 9 .r (.op 10 .r (.op 11 .e (.op 12 .e (.op 13 .r (.op 14 .r (.op 15 .n .nil))))))))))))))))) .z) H
def zf4 (a0 : Value) (h : Heap) (R : Value → Heap → Prop) : Prop :=
 vK (nilV a0) fun v1 =>
 vK (fldV 3 v1) fun v2 =>
 vK (ldV h v2) fun v3 =>
 vK (zag v3) fun v4 =>
 vK (binV .i .gtr v4 (.int .i64 0)) fun v5 =>
 iteK v5 (
 vK (nilV a0) fun v6 =>
 vK (fldV 3 v6) fun v7 =>
 vK (ldV h v7) fun v8 =>
 vK (binV .i .sub v4 (.int .i64 1)) fun v9 =>
 vK (idxV 1 v8 v9) fun v10 =>
 vK (ldV h v10) fun v11 =>
 vK (nilV a0) fun v12 =>
 vK (fldV 3 v12) fun v13 =>
 vK (ldV h v13) fun v14 =>
 vK (binV .i .sub v4 (.int .i64 1)) fun v15 =>
 vK (slcV 1 v14 none (some v15)) fun v16 =>
 vK (nilV a0) fun v17 =>
 vK (fldV 3 v17) fun v18 =>
 stK 1 v18 v16 h fun v19 h20 =>
 R v11 h20) (
 vK (nilV a0) fun v21 =>
 vK (fldV 1 v21) fun v22 =>
 vK (ldV h v22) fun v23 =>
 mkK (.int .i64 0) 2 1 8 v23 v23 h fun v24 h25 =>
 R v24 h25)
theorem zlh (H : zf4 a0 h R) : FCall prog zea #[a0] h R := fk f143 (.s .z (.s (.s .z (.s .z (.s (.s .z (.s .z (.s .z .z))) .z))) (.s .z .z))) H
def zjM (a0 a1 : Value) (h : Heap) (R : Value → Heap → Prop) : Prop :=
 vK (binV .i .leq a1 (.int .i64 0)) fun v1 =>
 iteK v1 (
 R a0 h) (
 vK (binV .i .geq a1 (.int .i64 64)) fun v2 =>
 iteK v2 (
 R (.int .i64 0) h) (
 vK (binV .i .shr a0 a1) fun v3 =>
 vK (binV .i .sub a1 (.int .i64 1)) fun v4 =>
 vK (binV .i .shr a0 v4) fun v5 =>
 vK (binV .i .and v5 (.int .i64 1)) fun v6 =>
 vK (binV .i .add v3 v6) fun v7 =>
 R v7 h))
theorem zpj (H : zjM a0 a1 h R) : FCall prog zcW #[a0, a1] h R := fk f144 (.s .z (.s (.s .z (.s (.s .z .z) .z)) (.s (.s .z (.s (.s .z .z) .z)) (.s .z .z)))) H
def zkI (a0 : Value) (h : Heap) (R : Value → Heap → Prop) : Prop :=
 vK (binV .i .geq a0 (.int .i64 1)) fun v1 =>
 vK (gV v1 true (some a0)) fun v2 =>
 vK (gV v1 true (binV .i .leq v2 (.int .i64 65536))) fun v3 =>
 vK (pickV v1 v3 (.bool false)) fun v4 =>
 R v4 h
theorem zqJ (H : zkI a0 h R) : FCall prog zeD #[a0] h R := fk f145 (.s .z (.s .z .z)) H
def zmz (a0 a1 a2 a3 : Value) (h : Heap) (R : Value → Heap → Prop) : Prop :=
 FCall prog zkj #[a0, a1, a2, a3] h fun v1 h2 =>
 vK (unV .not v1) fun v3 =>
 iteK v3 (
 R (.tuple #[(.int .i64 0), (.slice none 0 0)]) h2) (
 vK (binV .i .mul a3 a1) fun v4 =>
 vK (binV .i .quo v4 a2) fun v5 =>
 loopK [v5] h2 fun x6 j7 h8 again9 =>
 vK (binV .i .sub (ix x6 0) (.int .i64 1)) fun v10 =>
 FCall prog zfi #[a0, a1, a2, a3, v10] h8 fun v11 h12 =>
 iteK v11 (
 vK (binV .i .sub (ix x6 0) (.int .i64 1)) fun v13 =>
 again9 [v13] h12) (
 loopK [(ix x6 0)] h12 fun x14 j15 h16 again17 =>
 FCall prog zfi #[a0, a1, a2, a3, (ix x14 0)] h16 fun v18 h19 =>
 vK (unV .not v18) fun v20 =>
 iteK v20 (
 vK (binV .i .add (ix x14 0) (.int .i64 1)) fun v21 =>
 again17 [v21] h19) (
 loopK [(ix x14 0), (.slice none 0 0)] h19 fun x22 j23 h24 again25 =>
 FCall prog zfi #[a0, a1, a2, a3, (ix x22 0)] h24 fun v26 h27 =>
 iteK v26 (
 FCall prog zgD #[a0, a1, a2, a3, (ix x22 0)] h27 fun v28 h29 =>
 rowK #[(.int .i64 0)] 2 1 [(0, 1, v28)] h29 fun v30 h31 =>
 appK (.int .i64 0) 2 1 8 (ix x22 1) v30 h31 fun v32 h33 =>
 vK (binV .i .add (ix x22 0) (.int .i64 1)) fun v34 =>
 again25 [v34, v32] h33) (
 R (.tuple #[(ix x14 0), (ix x22 1)]) h27))))
theorem ok_ref05_Row (H : zmz a0 a1 a2 a3 h R) : FCall prog zhq #[a0, a1, a2, a3] h R := fk f146 (.s .z (.s (.s .z (.s (.s .z .z) .z)) (.s .z (.s (.l 8573158400 [10] (.s (.s .z (.s .z .z)) .z)) (.s (.l 4389456577536 [10] (.s (.s .z (.s .z .z)) .z)) (.s .z (.s .z (.s (.l 1152912708513829888 [10, 12] (.s (.s .z (.s .z .z)) (.s .z .z))) (.s .z .z))))))))) H
def zf8 (a0 : Value) (h : Heap) (R : Value → Heap → Prop) : Prop :=
 vK (zag a0) fun v1 =>
 vK (binV .i .lss v1 (.int .i64 1)) fun v2 =>
 vK (gV v2 false (some a0)) fun v3 =>
 vK (gV v2 false (zag v3)) fun v4 =>
 vK (gV v2 false (binV .i .gtr v4 (.int .i64 1048576))) fun v5 =>
 vK (pickV v2 (.bool true) v5) fun v6 =>
 iteK v6 (
 R (.tuple #[(.slice none 0 0), (.int .i64 7)]) h) (
 vK (zag a0) fun v7 =>
 loopK [(.int .i64 0)] h fun x8 j9 h10 again11 =>
 vK (binV .i .lss (ix x8 0) v7) fun v12 =>
 iteK v12 (
 vK (idxV 1 a0 (ix x8 0)) fun v13 =>
 vK (ldV h10 v13) fun v14 =>
 FCall prog zgq #[v14] h10 fun v15 h16 =>
 vK (binV .i .gtr v15 (.int .i64 1099511627776)) fun v17 =>
 iteK v17 (
 R (.tuple #[(.slice none 0 0), (.int .i64 7)]) h16) (
 vK (binV .i .add (ix x8 0) (.int .i64 1)) fun v18 =>
 again11 [v18] h16)) (
 FCall prog zki #[a0] h10 fun v19 h20 =>
 vK (binV .i .lss v19 (.int .i64 268435456)) fun v21 =>
 iteK v21 (
 R (.tuple #[(.slice none 0 0), (.int .i64 8)]) h20) (
 vK (zag a0) fun v22 =>
 loopK [(.slice none 0 0), (.slice none 0 0), (.int .i64 16384), (.int .i64 0)] h20 fun x23 j24 h25 again26 =>
 vK (binV .i .lss (ix x23 3) v22) fun v27 =>
 iteK v27 (
 vK (idxV 1 a0 (ix x23 3)) fun v28 =>
 vK (ldV h25 v28) fun v29 =>
 vK (binV .i .mul v29 (.int .i64 16384)) fun v30 =>
 FCall prog ze7 #[v30, v19] h25 fun v31 h32 =>
 rowK #[(.int .i64 0)] 2 1 [(0, 1, v31)] h32 fun v33 h34 =>
 appK (.int .i64 0) 2 1 8 (ix x23 0) v33 h34 fun v35 h36 =>
 vK (binV .i .mul v29 (.int .i64 16384)) fun v37 =>
 vK (binV .i .mul v31 v19) fun v38 =>
 vK (binV .i .sub v37 v38) fun v39 =>
 rowK #[(.int .i64 0)] 2 1 [(0, 1, v39)] h36 fun v40 h41 =>
 appK (.int .i64 0) 2 1 8 (ix x23 1) v40 h41 fun v42 h43 =>
 vK (binV .i .sub (ix x23 2) v31) fun v44 =>
 vK (binV .i .add (ix x23 3) (.int .i64 1)) fun v45 =>
 again26 [v35, v42, v44, v45] h43) (
 loopK [(ix x23 2)] h25 fun x46 j47 h48 again49 =>
 vK (binV .i .gtr (ix x46 0) (.int .i64 0)) fun v50 =>
 iteK v50 (
 vK (zag (ix x23 1)) fun v51 =>
 loopK [(.int .i64 0), (.int .i64 0)] h48 fun x52 j53 h54 again55 =>
 vK (binV .i .lss (ix x52 1) v51) fun v56 =>
 iteK v56 (
 vK (idxV 1 (ix x23 1) (ix x52 1)) fun v57 =>
 vK (ldV h54 v57) fun v58 =>
 vK (idxV 1 (ix x23 1) (ix x52 0)) fun v59 =>
 vK (ldV h54 v59) fun v60 =>
 vK (binV .i .gtr v58 v60) fun v61 =>
 iteK v61 (
 vK (binV .i .add (ix x52 1) (.int .i64 1)) fun v62 =>
 again55 [(ix x52 1), v62] h54) (
 vK (binV .i .add (ix x52 1) (.int .i64 1)) fun v63 =>
 again55 [(ix x52 0), v63] h54)) (
 vK (idxV 1 (ix x23 0) (ix x52 0)) fun v64 =>
 vK (ldV h54 v64) fun v65 =>
 vK (binV .i .add v65 (.int .i64 1)) fun v66 =>
 vK (idxV 1 (ix x23 0) (ix x52 0)) fun v67 =>
 stK 1 v67 v66 h54 fun v68 h69 =>
 vK (idxV 1 (ix x23 1) (ix x52 0)) fun v70 =>
 stK 1 v70 (.int .i64 (-1)) h69 fun v71 h72 =>
 vK (binV .i .sub (ix x46 0) (.int .i64 1)) fun v73 =>
 again49 [v73] h72)) (
 R (.tuple #[(ix x23 0), (.int .i64 0)]) h48)))))
theorem zll (H : zf8 a0 h R) : FCall prog zcf #[a0] h R := fk f147 (.s .z (.s (.s .z (.s (.s .z .z) .z)) (.s (.s .z (.l 8556380204 [25] (.s .z (.s (.s .z .z) (.s (.s .z (.s .z (.s (.s .z .z) .z))) .z))))) (.s .z (.s (.s .z (.s (.s .z .z) .z)) (.s .z (.s .z (.s .z (.s (.s .z (.l 18446743523953744768 [7, 8, 9, 39] (.s .z (.s (.s .z .z) (.s (.s .z (.s .z (.s .z (.s .z .z)))) .z))))) (.s (.l 9903520295836298125483467264 [9] (.s (.s .z (.s .z .z)) (.s .z (.s (.s .z (.l 4835408130553337346023424 [13, 68] (.s .z (.s (.s .z .z) (.s (.s .z (.s .z (.s .z .z))) .z))))) (.s .z (.s .z .z)))))) (.s .z .z))))))))))) H
def zjv (a0 a1 : Value) (h : Heap) (R : Value → Heap → Prop) : Prop :=
 FCall prog zhr #[a0, a1] h fun v1 h2 =>
 FCall prog zkl #[v1] h2 fun v3 h4 =>
 FCall prog zcT #[v3, (.int .i64 10)] h4 fun v5 h6 =>
 R v5 h6
theorem zo2 (H : zjv a0 a1 h R) : FCall prog zhs #[a0, a1] h R := fk f148 (.s .z (.s .z .z)) H
def zjt (a0 : Value) (h : Heap) (R : Value → Heap → Prop) : Prop :=
 vK (zag a0) fun v1 =>
 loopK [(.int .i64 0), (.int .i64 0)] h fun x2 j3 h4 again5 =>
 vK (binV .i .lss (ix x2 1) v1) fun v6 =>
 iteK v6 (
 vK (idxV 1 a0 (ix x2 1)) fun v7 =>
 vK (ldV h4 v7) fun v8 =>
 FCall prog zgq #[v8] h4 fun v9 h10 =>
 FCall prog zgp #[(ix x2 0), v9] h10 fun v11 h12 =>
 vK (binV .i .add (ix x2 1) (.int .i64 1)) fun v13 =>
 again5 [v11, v13] h12) (
 R (ix x2 0) h4)
theorem zo0 (H : zjt a0 h R) : FCall prog zhp #[a0] h R := fk f149 (.s .z (.s .z (.s (.s .z (.l 130856 [3, 8] (.s .z (.s (.s .z .z) (.s (.s .z .z) .z))))) (.s .z .z)))) H
def zij (a0 a1 a2 : Value) (h : Heap) (R : Value → Heap → Prop) : Prop :=
 vK (binV .i .eql a2 (.int .i64 0)) fun v1 =>
 iteK v1 (
 R (.int .i64 0) h) (
 FCall prog zbA #[a0] h fun v2 h3 =>
 FCall prog zbA #[a1] h3 fun v4 h5 =>
 FCall prog ze5 #[v2, v4] h5 fun v6 h7 =>
 newK #[(.int .u64 0), (.int .u64 0)] 214 h7 fun v8 h9 =>
 stK 2 v8 v6 h9 fun v10 h11 =>
 vK (binV .i .lss a0 (.int .i64 0)) fun v12 =>
 vK (binV .i .lss a1 (.int .i64 0)) fun v13 =>
 vK (binV .b .neq v12 v13) fun v14 =>
 drawK h11 fun S =>
 qK S (fun h11 => ldsV 2 h11 v8) fun v15 =>
 vK (binV .i .lss a2 (.int .i64 0)) fun v16 =>
 vK (binV .b .neq v14 v16) fun v17 =>
 FCall prog zbA #[a2] h11 fun v18 h19 =>
 S h19 ∧ (FCall prog zfS #[v15, v18, v17] h19 fun v20 h21 =>
 R v20 h21))
theorem zoa (H : zij a0 a1 a2 h R) : FCall prog zaR #[a0, a1, a2] h R := fk f150 (.s .z (.s (.s .z (.s (.s .z .z) .z)) (.s .z (.s .z (.s (.d (.op 0 .r (.op 1 .r (.op 3 .r (.op 4 .r (.op 5 .r (.op 6 .r (.op 2 .e (.op 7 .n (.op 8 .r .nil)))))))))) .z))))) H
def zkC (a0 : Value) (h : Heap) (R : Value → Heap → Prop) : Prop :=
 vK (binV .i .geq a0 (.int .i64 1)) fun v1 =>
 vK (gV v1 true (some a0)) fun v2 =>
 vK (gV v1 true (binV .i .leq v2 (.int .i64 65536))) fun v3 =>
 vK (pickV v1 v3 (.bool false)) fun v4 =>
 R v4 h
theorem zqD (H : zkC a0 h R) : FCall prog zeC #[a0] h R := fk f151 (.s .z (.s .z .z)) H
def zpx (a0 a1 a2 a3 : Value) (h : Heap) (R : Value → Heap → Prop) : Prop :=
 FCall prog ziM #[a0, a1, a2, a3] h fun v1 h2 =>
 vK (extV v1 0) fun v3 =>
 vK (extV v1 1) fun v4 =>
 loopK [(.slice none 0 0), (.int .i64 0)] h2 fun x5 j6 h7 again8 =>
 vK (binV .i .lss (ix x5 1) v4) fun v9 =>
 iteK v9 (
 vK (binV .i .add v3 (ix x5 1)) fun v10 =>
 FCall prog zkm #[a0, a1, a2, a3, v10] h7 fun v11 h12 =>
 rowK #[(.int .i64 0)] 2 1 [(0, 1, v11)] h12 fun v13 h14 =>
 appK (.int .i64 0) 2 1 8 (ix x5 0) v13 h14 fun v15 h16 =>
 vK (binV .i .add (ix x5 1) (.int .i64 1)) fun v17 =>
 again8 [v15, v17] h16) (
 R (.tuple #[v3, (ix x5 0)]) h7)
theorem ok_raw_Row (H : zpx a0 a1 a2 a3 h R) : FCall prog zlI #[a0, a1, a2, a3] h R := fk f152 (.s .z (.s .z (.s (.s .z (.l 68717382144 [9, 21] (.s .z (.s (.s .z .z) (.s (.s .z .z) .z))))) (.s .z .z)))) H
def zgK (a0 : Value) (h : Heap) (R : Value → Heap → Prop) : Prop :=
 FCall prog ziG #[a0] h fun v1 h2 =>
 vK (binV .i .neq v1 (.int .i64 0)) fun v3 =>
 iteK v3 (
 R (.tuple #[(.slice none 0 0), v1]) h2) (
 FCall prog zi9 #[a0] h2 fun v4 h5 =>
 joinK (fun J6 =>
 drawK h5 fun S =>
 qK S (fun h5 => zag a0) fun v10 =>
 qK S (fun h5 => zag a0) fun v11 =>
 qK S (fun h5 => zag a0) fun v12 =>
 (mkK (.int .i64 0) 2 1 8 v10 v10 h5 fun v13 h14 =>
 S h14 ∧ ((mkK (.int .i64 0) 3 1 8 v11 v11 h14 fun v15 h16 =>
 S h16 ∧ ((mkK (.int .i64 0) 2 1 8 v12 v12 h16 fun v17 h18 =>
 S h18 ∧ (newK #[(.slice none 0 0)] 50 h18 fun v19 h20 =>
 S h20 ∧ (stK 1 v19 v17 h20 fun v21 h22 =>
 S h22 ∧ (J6 [v13, v15, v19] h22)))) ∧ (newK #[(.slice none 0 0)] 50 h16 fun v23 h24 =>
 S h24 ∧ (mkK (.int .i64 0) 2 1 8 v12 v12 h24 fun v25 h26 =>
 S h26 ∧ (stK 1 v23 v25 h26 fun v27 h28 =>
 S h28 ∧ (J6 [v13, v15, v23] h28)))))) ∧ ((mkK (.int .i64 0) 2 1 8 v12 v12 h14 fun v29 h30 =>
 S h30 ∧ ((mkK (.int .i64 0) 3 1 8 v11 v11 h30 fun v31 h32 =>
 S h32 ∧ (newK #[(.slice none 0 0)] 50 h32 fun v33 h34 =>
 S h34 ∧ (stK 1 v33 v29 h34 fun v35 h36 =>
 S h36 ∧ (J6 [v13, v31, v33] h36)))) ∧ (newK #[(.slice none 0 0)] 50 h30 fun v37 h38 =>
 S h38 ∧ (mkK (.int .i64 0) 3 1 8 v11 v11 h38 fun v39 h40 =>
 S h40 ∧ (stK 1 v37 v29 h40 fun v41 h42 =>
 S h42 ∧ (J6 [v13, v39, v37] h42)))))) ∧ (newK #[(.slice none 0 0)] 50 h14 fun v43 h44 =>
 S h44 ∧ ((mkK (.int .i64 0) 3 1 8 v11 v11 h44 fun v45 h46 =>
 S h46 ∧ (mkK (.int .i64 0) 2 1 8 v12 v12 h46 fun v47 h48 =>
 S h48 ∧ (stK 1 v43 v47 h48 fun v49 h50 =>
 S h50 ∧ (J6 [v13, v45, v43] h50)))) ∧ (mkK (.int .i64 0) 2 1 8 v12 v12 h44 fun v51 h52 =>
 S h52 ∧ (mkK (.int .i64 0) 3 1 8 v11 v11 h52 fun v53 h54 =>
 S h54 ∧ (stK 1 v43 v51 h54 fun v55 h56 =>
 S h56 ∧ (J6 [v13, v53, v43] h56))))))))) ∧ ((mkK (.int .i64 0) 3 1 8 v11 v11 h5 fun v57 h58 =>
 S h58 ∧ ((mkK (.int .i64 0) 2 1 8 v10 v10 h58 fun v59 h60 =>
 S h60 ∧ ((mkK (.int .i64 0) 2 1 8 v12 v12 h60 fun v61 h62 =>
 S h62 ∧ (newK #[(.slice none 0 0)] 50 h62 fun v63 h64 =>
 S h64 ∧ (stK 1 v63 v61 h64 fun v65 h66 =>
 S h66 ∧ (J6 [v59, v57, v63] h66)))) ∧ (newK #[(.slice none 0 0)] 50 h60 fun v67 h68 =>
 S h68 ∧ (mkK (.int .i64 0) 2 1 8 v12 v12 h68 fun v69 h70 =>
 S h70 ∧ (stK 1 v67 v69 h70 fun v71 h72 =>
 S h72 ∧ (J6 [v59, v57, v67] h72)))))) ∧ ((mkK (.int .i64 0) 2 1 8 v12 v12 h58 fun v73 h74 =>
 S h74 ∧ ((mkK (.int .i64 0) 2 1 8 v10 v10 h74 fun v75 h76 =>
 S h76 ∧ (newK #[(.slice none 0 0)] 50 h76 fun v77 h78 =>
 S h78 ∧ (stK 1 v77 v73 h78 fun v79 h80 =>
 S h80 ∧ (J6 [v75, v57, v77] h80)))) ∧ (newK #[(.slice none 0 0)] 50 h74 fun v81 h82 =>
 S h82 ∧ (mkK (.int .i64 0) 2 1 8 v10 v10 h82 fun v83 h84 =>
 S h84 ∧ (stK 1 v81 v73 h84 fun v85 h86 =>
 S h86 ∧ (J6 [v83, v57, v81] h86)))))) ∧ (newK #[(.slice none 0 0)] 50 h58 fun v87 h88 =>
 S h88 ∧ ((mkK (.int .i64 0) 2 1 8 v10 v10 h88 fun v89 h90 =>
 S h90 ∧ (mkK (.int .i64 0) 2 1 8 v12 v12 h90 fun v91 h92 =>
 S h92 ∧ (stK 1 v87 v91 h92 fun v93 h94 =>
 S h94 ∧ (J6 [v89, v57, v87] h94)))) ∧ (mkK (.int .i64 0) 2 1 8 v12 v12 h88 fun v95 h96 =>
 S h96 ∧ (mkK (.int .i64 0) 2 1 8 v10 v10 h96 fun v97 h98 =>
 S h98 ∧ (stK 1 v87 v95 h98 fun v99 h100 =>
 S h100 ∧ (J6 [v97, v57, v87] h100))))))))) ∧ ((mkK (.int .i64 0) 2 1 8 v12 v12 h5 fun v101 h102 =>
 S h102 ∧ ((mkK (.int .i64 0) 2 1 8 v10 v10 h102 fun v103 h104 =>
 S h104 ∧ ((mkK (.int .i64 0) 3 1 8 v11 v11 h104 fun v105 h106 =>
 S h106 ∧ (newK #[(.slice none 0 0)] 50 h106 fun v107 h108 =>
 S h108 ∧ (stK 1 v107 v101 h108 fun v109 h110 =>
 S h110 ∧ (J6 [v103, v105, v107] h110)))) ∧ (newK #[(.slice none 0 0)] 50 h104 fun v111 h112 =>
 S h112 ∧ (mkK (.int .i64 0) 3 1 8 v11 v11 h112 fun v113 h114 =>
 S h114 ∧ (stK 1 v111 v101 h114 fun v115 h116 =>
 S h116 ∧ (J6 [v103, v113, v111] h116)))))) ∧ ((mkK (.int .i64 0) 3 1 8 v11 v11 h102 fun v117 h118 =>
 S h118 ∧ ((mkK (.int .i64 0) 2 1 8 v10 v10 h118 fun v119 h120 =>
 S h120 ∧ (newK #[(.slice none 0 0)] 50 h120 fun v121 h122 =>
 S h122 ∧ (stK 1 v121 v101 h122 fun v123 h124 =>
 S h124 ∧ (J6 [v119, v117, v121] h124)))) ∧ (newK #[(.slice none 0 0)] 50 h118 fun v125 h126 =>
 S h126 ∧ (mkK (.int .i64 0) 2 1 8 v10 v10 h126 fun v127 h128 =>
 S h128 ∧ (stK 1 v125 v101 h128 fun v129 h130 =>
 S h130 ∧ (J6 [v127, v117, v125] h130)))))) ∧ (newK #[(.slice none 0 0)] 50 h102 fun v131 h132 =>
 S h132 ∧ ((mkK (.int .i64 0) 2 1 8 v10 v10 h132 fun v133 h134 =>
 S h134 ∧ (mkK (.int .i64 0) 3 1 8 v11 v11 h134 fun v135 h136 =>
 S h136 ∧ (stK 1 v131 v101 h136 fun v137 h138 =>
 S h138 ∧ (J6 [v133, v135, v131] h138)))) ∧ (mkK (.int .i64 0) 3 1 8 v11 v11 h132 fun v139 h140 =>
 S h140 ∧ (mkK (.int .i64 0) 2 1 8 v10 v10 h140 fun v141 h142 =>
 S h142 ∧ (stK 1 v131 v101 h142 fun v143 h144 =>
 S h144 ∧ (J6 [v141, v139, v131] h144))))))))) ∧ (newK #[(.slice none 0 0)] 50 h5 fun v145 h146 =>
 S h146 ∧ ((mkK (.int .i64 0) 2 1 8 v10 v10 h146 fun v147 h148 =>
 S h148 ∧ ((mkK (.int .i64 0) 3 1 8 v11 v11 h148 fun v149 h150 =>
 S h150 ∧ (mkK (.int .i64 0) 2 1 8 v12 v12 h150 fun v151 h152 =>
 S h152 ∧ (stK 1 v145 v151 h152 fun v153 h154 =>
 S h154 ∧ (J6 [v147, v149, v145] h154)))) ∧ (mkK (.int .i64 0) 2 1 8 v12 v12 h148 fun v155 h156 =>
 S h156 ∧ (mkK (.int .i64 0) 3 1 8 v11 v11 h156 fun v157 h158 =>
 S h158 ∧ (stK 1 v145 v155 h158 fun v159 h160 =>
 S h160 ∧ (J6 [v147, v157, v145] h160)))))) ∧ ((mkK (.int .i64 0) 3 1 8 v11 v11 h146 fun v161 h162 =>
 S h162 ∧ ((mkK (.int .i64 0) 2 1 8 v10 v10 h162 fun v163 h164 =>
 S h164 ∧ (mkK (.int .i64 0) 2 1 8 v12 v12 h164 fun v165 h166 =>
 S h166 ∧ (stK 1 v145 v165 h166 fun v167 h168 =>
 S h168 ∧ (J6 [v163, v161, v145] h168)))) ∧ (mkK (.int .i64 0) 2 1 8 v12 v12 h162 fun v169 h170 =>
 S h170 ∧ (mkK (.int .i64 0) 2 1 8 v10 v10 h170 fun v171 h172 =>
 S h172 ∧ (stK 1 v145 v169 h172 fun v173 h174 =>
 S h174 ∧ (J6 [v171, v161, v145] h174)))))) ∧ (mkK (.int .i64 0) 2 1 8 v12 v12 h146 fun v175 h176 =>
 S h176 ∧ ((mkK (.int .i64 0) 2 1 8 v10 v10 h176 fun v177 h178 =>
 S h178 ∧ (mkK (.int .i64 0) 3 1 8 v11 v11 h178 fun v179 h180 =>
 S h180 ∧ (stK 1 v145 v175 h180 fun v181 h182 =>
 S h182 ∧ (J6 [v177, v179, v145] h182)))) ∧ (mkK (.int .i64 0) 3 1 8 v11 v11 h176 fun v183 h184 =>
 S h184 ∧ (mkK (.int .i64 0) 2 1 8 v10 v10 h184 fun v185 h186 =>
 S h186 ∧ (stK 1 v145 v175 h186 fun v187 h188 =>
 S h188 ∧ (J6 [v185, v183, v145] h188))))))))))))
 fun x7 j8 h9 =>
 vK (zag a0) fun v189 =>
 loopK [(.int .i64 16384), (.int .i64 0)] h9 fun x190 j191 h192 again193 =>
 vK (binV .i .lss (ix x190 1) v189) fun v194 =>
 iteK v194 (
 vK (idxV 1 a0 (ix x190 1)) fun v195 =>
 vK (ldV h192 v195) fun v196 =>
 drawK h192 fun S =>
 qK S (fun h192 => ldV h192 (ix x7 2)) fun v197 =>
 vK (binV .i .mul v196 (.int .i64 16384)) fun v198 =>
 vK (binV .i .mul v196 (.int .i64 16384)) fun v199 =>
 FCall prog zcX #[v198, v4] h192 fun v200 h201 =>
 S h201 ∧ (FCall prog zfW #[v199, v4] h201 fun v202 h203 =>
 S h203 ∧ (vK (idxV 1 (ix x7 0) (ix x190 1)) fun v204 =>
 stK 1 v204 v200 h203 fun v205 h206 =>
 S h206 ∧ (vK (idxV 1 v197 (ix x190 1)) fun v207 =>
 stK 1 v207 v202 h206 fun v208 h209 =>
 vK (idxV 1 (ix x7 1) (ix x190 1)) fun v210 =>
 stK 1 v210 (ix x190 1) h209 fun v211 h212 =>
 vK (idxV 1 (ix x7 0) (ix x190 1)) fun v213 =>
 vK (ldV h212 v213) fun v214 =>
 vK (binV .i .sub (ix x190 0) v214) fun v215 =>
 vK (binV .i .add (ix x190 1) (.int .i64 1)) fun v216 =>
 again193 [v215, v216] h212)))) (
 FCall prog za5 #[(ix x7 1), (.func (.func zdl) #[] #[(ix x7 2)])] h192 fun v217 h218 =>
 vK (slcV 1 (ix x7 1) none (some (ix x190 0))) fun v219 =>
 vK (zag v219) fun v220 =>
 loopK [(.int .i64 0)] h218 fun x221 j222 h223 again224 =>
 vK (binV .i .lss (ix x221 0) v220) fun v225 =>
 iteK v225 (
 vK (idxV 1 v219 (ix x221 0)) fun v226 =>
 vK (ldV h223 v226) fun v227 =>
 vK (idxV 1 (ix x7 0) v227) fun v228 =>
 vK (ldV h223 v228) fun v229 =>
 vK (binV .i .add v229 (.int .i64 1)) fun v230 =>
 vK (idxV 1 (ix x7 0) v227) fun v231 =>
 stK 1 v231 v230 h223 fun v232 h233 =>
 vK (binV .i .add (ix x221 0) (.int .i64 1)) fun v234 =>
 again224 [v234] h233) (
 R (.tuple #[(ix x7 0), (.int .i64 0)]) h223)))
theorem zlT (H : zgK a0 h R) : FCall prog zct #[a0] h R := fk f153 (.s .z (.s (.s .z (.s .z (.s (.s .z .z) .z))) (.s .z (.j 1071645568 [7, 8, 9] (.d (.op 0 .r (.op 1 .r (.op 3 .r (.op 4 .r (.op 6 .r (.op 7 .r (.alt (.op 2 .e (.alt (.op 5 .e (.alt (.op 8 .e (.op 9 .e (.op 10 .r (.op 11 .r (.op 12 .e .nil))))) (.op 9 .e (.op 10 .r (.op 11 .r (.op 8 .e (.op 12 .e .nil))))))) (.alt (.op 8 .e (.alt (.op 5 .e (.op 9 .e (.op 10 .r (.op 11 .r (.op 12 .e .nil))))) (.op 9 .e (.op 10 .r (.op 5 .e (.op 11 .r (.op 12 .e .nil))))))) (.op 9 .e (.op 10 .r (.alt (.op 5 .e (.op 11 .r (.op 8 .e (.op 12 .e .nil)))) (.op 8 .e (.op 5 .e (.op 11 .r (.op 12 .e .nil)))))))))) (.alt (.op 5 .e (.alt (.op 2 .e (.alt (.op 8 .e (.op 9 .e (.op 10 .r (.op 11 .r (.op 12 .e .nil))))) (.op 9 .e (.op 10 .r (.op 11 .r (.op 8 .e (.op 12 .e .nil))))))) (.alt (.op 8 .e (.alt (.op 2 .e (.op 9 .e (.op 10 .r (.op 11 .r (.op 12 .e .nil))))) (.op 9 .e (.op 2 .e (.op 10 .r (.op 11 .r (.op 12 .e .nil))))))) (.op 9 .e (.alt (.op 2 .e (.op 10 .r (.op 11 .r (.op 8 .e (.op 12 .e .nil))))) (.op 8 .e (.op 2 .e (.op 10 .r (.op 11 .r (.op 12 .e .nil)))))))))) (.alt (.op 8 .e (.alt (.op 2 .e (.alt (.op 5 .e (.op 9 .e (.op 10 .r (.op 11 .r (.op 12 .e .nil))))) (.op 9 .e (.op 10 .r (.op 5 .e (.op 11 .r (.op 12 .e .nil))))))) (.alt (.op 5 .e (.alt (.op 2 .e (.op 9 .e (.op 10 .r (.op 11 .r (.op 12 .e .nil))))) (.op 9 .e (.op 2 .e (.op 10 .r (.op 11 .r (.op 12 .e .nil))))))) (.op 9 .e (.alt (.op 2 .e (.op 10 .r (.op 5 .e (.op 11 .r (.op 12 .e .nil))))) (.op 5 .e (.op 2 .e (.op 10 .r (.op 11 .r (.op 12 .e .nil)))))))))) (.op 9 .e (.alt (.op 2 .e (.op 10 .r (.alt (.op 5 .e (.op 11 .r (.op 8 .e (.op 12 .e .nil)))) (.op 8 .e (.op 5 .e (.op 11 .r (.op 12 .e .nil))))))) (.alt (.op 5 .e (.alt (.op 2 .e (.op 10 .r (.op 11 .r (.op 8 .e (.op 12 .e .nil))))) (.op 8 .e (.op 2 .e (.op 10 .r (.op 11 .r (.op 12 .e .nil))))))) (.op 8 .e (.alt (.op 2 .e (.op 10 .r (.op 5 .e (.op 11 .r (.op 12 .e .nil))))) (.op 5 .e (.op 2 .e (.op 10 .r (.op 11 .r (.op 12 .e .nil)))))))))))))))))))) (.s (.s .z (.l 4611686014132423744 [6, 32] (.s .z (.s (.s .z .z) (.s (.s .z (.s (.d (.op 0 .r (.op 1 .r (.op 2 .r (.op 3 .r (.op 4 .r (.op 5 .r (.op 6 .r (.op 7 .r (.op 8 .r (.op 10 .r (.op 11 .r (.op 12 .r (.op 14 .r (.op 9 .e (.op 13 .e (.op 15 .r (.op 16 .e (.op 17 .r (.op 18 .n (.op 19 .r (.op 20 .n .nil)))))))))))))))))))))) .z)) .z))))) (.s .z (.s (.s .z (.l 1208335523804270469062656 [69] (.s .z (.s (.s .z .z) (.s (.s .z .z) .z))))) (.s .z .z)))))))) H
def zf3 (a0 a1 a2 : Value) (h : Heap) (R : Value → Heap → Prop) : Prop :=
 vK (nilV a0) fun v1 =>
 vK (fldV 1 v1) fun v2 =>
 vK (ldV h v2) fun v3 =>
 vK ((fillL #[(.int .i64 0), (.slice none 0 0)] [(0, 1, a1), (1, 1, a2)]).map .agg) fun v4 =>
 rowK #[(.int .i64 0), (.slice none 0 0)] 160 1 [(0, 2, v4)] h fun v5 h6 =>
 appK (.agg #[.int .i64 0, .slice none 0 0]) 160 2 32 v3 v5 h6 fun v7 h8 =>
 vK (nilV a0) fun v9 =>
 vK (fldV 1 v9) fun v10 =>
 stK 1 v10 v7 h8 fun v11 h12 =>
 vK (nilV a0) fun v13 =>
 vK (fldV 2 v13) fun v14 =>
 vK (ldV h12 v14) fun v15 =>
 vK (zag a2) fun v16 =>
 vK (maxV v15 v16) fun v17 =>
 vK (nilV a0) fun v18 =>
 vK (fldV 2 v18) fun v19 =>
 stK 1 v19 v17 h12 fun v20 h21 =>
 drawK h21 fun S =>
 vK (nilV a0) fun v22 =>
 vK (fldV 3 v22) fun v23 =>
 qK S (fun h21 => ldV h21 v23) fun v24 =>
 FCall prog zhl #[a2] h21 fun v25 h26 =>
 S h26 ∧ (qK S (fun h26 => maxV v24 v25) fun v27 =>
 vK (nilV a0) fun v28 =>
 vK (fldV 3 v28) fun v29 =>
 stK 1 v29 v27 h26 fun v30 h31 =>
 R (.tuple #[]) h31)
theorem zlg (H : zf3 a0 a1 a2 h R) : FCall prog zcS #[a0, a1, a2] h R := fk f154 (.s .z (.s .z (.d (.op 0 .r (.op 1 .r (.op 2 .r (.op 3 .r (.op 4 .r (.op 5 .r (.op 6 .e (.op 7 .r (.op 8 .r (.op 9 .r (.op 10 .n .nil)))))))))))))) H
def zhJ (a0 : Value) (h : Heap) (R : Value → Heap → Prop) : Prop :=
 vK (binV .i .lss a0 (.int .i64 1)) fun v1 =>
 vK (gV v1 false (some a0)) fun v2 =>
 vK (gV v1 false (binV .i .gtr v2 (.int .i64 4194304))) fun v3 =>
 vK (pickV v1 (.bool true) v3) fun v4 =>
 iteK v4 (
 R (.tuple #[(.slice none 0 0), (.int .i64 7)]) h) (
 vK (binV .i .mul (.int .i64 3) a0) fun v5 =>
 vK (binV .i .add v5 (.int .i64 65536)) fun v6 =>
 vK (binV .i .sub v6 (.int .i64 1)) fun v7 =>
 vK (binV .i .shr v7 (.int .u64 16)) fun v8 =>
 vK (unV .neg v8) fun v9 =>
 loopK [(.slice none 0 0), v9] h fun x10 j11 h12 again13 =>
 vK (binV .i .leq (ix x10 1) v8) fun v14 =>
 iteK v14 (
 FCall prog ziR #[(ix x10 1), a0] h12 fun v15 h16 =>
 rowK #[(.int .i64 0)] 2 1 [(0, 1, v15)] h16 fun v17 h18 =>
 appK (.int .i64 0) 2 1 8 (ix x10 0) v17 h18 fun v19 h20 =>
 vK (binV .i .add (ix x10 1) (.int .i64 1)) fun v21 =>
 again13 [v19, v21] h20) (
 R (.tuple #[(ix x10 0), (.int .i64 0)]) h12))
theorem zm3 (H : zhJ a0 h R) : FCall prog zdP #[a0] h R := fk f155 (.s .z (.s (.s .z (.s (.s .z .z) .z)) (.s .z (.s .z (.s (.s .z (.l 2146435168 [5, 6] (.s (.s .z (.s .z .z)) (.s .z .z)))) (.s .z .z)))))) H
def zmu (a0 : Value) (h : Heap) (R : Value → Heap → Prop) : Prop :=
 vK (binV .i .lss a0 (.int .i64 0)) fun v1 =>
 vK (gV v1 false (some a0)) fun v2 =>
 vK (gV v1 false (binV .i .gtr v2 (.int .i64 511))) fun v3 =>
 vK (pickV v1 (.bool true) v3) fun v4 =>
 iteK v4 (
 R (.tuple #[(.slice none 0 0), (.int .i64 7)]) h) (
 rowK #[(.int .i64 0)] 2 1 [(0, 1, (.int .i64 1))] h fun v5 h6 =>
 vK (binV .i .mul (.int .i64 2) a0) fun v7 =>
 vK (binV .i .add v7 (.int .i64 1)) fun v8 =>
 FCall prog zbm #[v5, v8] h6 fun v9 h10 =>
 FCall prog zfO #[v9] h10 fun v11 h12 =>
 vK (extV v11 0) fun v13 =>
 vK (extV v11 1) fun v14 =>
 R (.tuple #[v13, v14]) h12)
theorem ok_taps_Blur (H : zmu a0 h R) : FCall prog zkf #[a0] h R := fk f156 (.s .z (.s (.s .z (.s (.s .z .z) .z)) (.s .z .z))) H
def zms (a0 : Value) (h : Heap) (R : Value → Heap → Prop) : Prop :=
 FCall prog zhl #[a0] h fun v1 h2 =>
 vK (zag a0) fun v3 =>
 vK (binV .i .rem v3 (.int .i64 2)) fun v4 =>
 vK (binV .i .eql v4 (.int .i64 0)) fun v5 =>
 vK (gV v5 false (some a0)) fun v6 =>
 vK (gV v5 false (zag v6)) fun v7 =>
 vK (gV v5 false (binV .i .gtr v7 (.int .i64 1024))) fun v8 =>
 vK (pickV v5 (.bool true) v8) fun v9 =>
 vK (gV v9 false (some v1)) fun v10 =>
 vK (gV v9 false (binV .i .lss v10 (.int .i64 1))) fun v11 =>
 vK (pickV v9 (.bool true) v11) fun v12 =>
 vK (gV v12 false (some v1)) fun v13 =>
 vK (gV v12 false (binV .i .gtr v13 (.int .i64 1048576))) fun v14 =>
 vK (pickV v12 (.bool true) v14) fun v15 =>
 iteK v15 (
 R (.tuple #[(.slice none 0 0), (.int .i64 7)]) h2) (
 vK (zag a0) fun v16 =>
 loopK [(.slice none 0 0), (.int .i64 0)] h2 fun x17 j18 h19 again20 =>
 vK (binV .i .lss (ix x17 1) v16) fun v21 =>
 iteK v21 (
 vK (idxV 1 a0 (ix x17 1)) fun v22 =>
 vK (ldV h19 v22) fun v23 =>
 FCall prog zba #[v23, (.int .i64 1073741824), v1] h19 fun v24 h25 =>
 rowK #[(.int .i64 0)] 2 1 [(0, 1, v24)] h25 fun v26 h27 =>
 appK (.int .i64 0) 2 1 8 (ix x17 0) v26 h27 fun v28 h29 =>
 vK (binV .i .add (ix x17 1) (.int .i64 1)) fun v30 =>
 again20 [v28, v30] h29) (
 R (.tuple #[(ix x17 0), (.int .i64 0)]) h19))
theorem ok_taps_User (H : zms a0 h R) : FCall prog zfO #[a0] h R := fk f157 (.s .z (.s .z (.s (.s .z (.s (.s .z .z) .z)) (.s .z (.s (.s .z (.l 1098974757024 [5, 29] (.s .z (.s (.s .z .z) (.s (.s .z .z) .z))))) (.s .z .z)))))) H
def zjL (h : Heap) (R : Value → Heap → Prop) : Prop :=
 FCall prog zlI #[(.int .i64 0), (.int .i64 4), (.int .i64 2), (.int .i64 1)] h fun v1 h2 =>
 vK (extV v1 0) fun v3 =>
 vK (extV v1 1) fun v4 =>
 vK (binV .i .eql v3 (.int .i64 2)) fun v5 =>
 vK (gV v5 true (some v4)) fun v6 =>
 vK (gV v5 true (zag v6)) fun v7 =>
 vK (gV v5 true (binV .i .eql v7 (.int .i64 2))) fun v8 =>
 vK (pickV v5 v8 (.bool false)) fun v9 =>
 vK (gV v9 true (some v4)) fun v10 =>
 vK (gV v9 true (idxV 1 v10 (.int .i64 0))) fun v11 =>
 vK (gV v9 true (ldV h2 v11)) fun v12 =>
 vK (gV v9 true (binV .i .eql v12 (.int .i64 536870912))) fun v13 =>
 vK (pickV v9 v13 (.bool false)) fun v14 =>
 vK (gV v14 true (some v4)) fun v15 =>
 vK (gV v14 true (idxV 1 v15 (.int .i64 1))) fun v16 =>
 vK (gV v14 true (ldV h2 v16)) fun v17 =>
 vK (gV v14 true (binV .i .eql v17 (.int .i64 536870912))) fun v18 =>
 vK (pickV v14 v18 (.bool false)) fun v19 =>
 gK v19 true (fun k29 => FCall prog zgY #[(.int .i64 0), (.int .i64 1)] h2 k29) h2 fun v20 h21 =>
 vK (gV v19 true (binV .i .eql v20 (.int .i64 1073741824))) fun v22 =>
 vK (pickV v19 v22 (.bool false)) fun v23 =>
 gK v23 true (fun k28 => FCall prog zgY #[(.int .i64 1), (.int .i64 2)] h21 k28) h21 fun v24 h25 =>
 vK (gV v23 true (binV .i .eql v24 (.int .i64 603979776))) fun v26 =>
 vK (pickV v23 v26 (.bool false)) fun v27 =>
 R v27 h25
theorem zpi (H : zjL h R) : FCall prog zhD #[] h R := fk f158 (.s .z (.s .z (.s .z .z))) H
def zjK (h : Heap) (R : Value → Heap → Prop) : Prop :=
 rowK #[(.int .i64 0), (.int .i64 0), (.int .i64 0)] 2 3 [(0, 1, (.int .i64 536870912)), (1, 1, (.int .i64 536870912)), (2, 1, (.int .i64 536870912))] h fun v1 h2 =>
 FCall prog zct #[v1] h2 fun v3 h4 =>
 vK (extV v3 0) fun v5 =>
 vK (extV v3 1) fun v6 =>
 FCall prog zdP #[(.int .i64 65536)] h4 fun v7 h8 =>
 vK (extV v7 0) fun v9 =>
 vK (extV v7 1) fun v10 =>
 vK (binV .i .eql v6 (.int .i64 0)) fun v11 =>
 vK (gV v11 true (some v5)) fun v12 =>
 gK v11 true (fun k26 => rowK #[(.int .i64 0), (.int .i64 0), (.int .i64 0)] 2 3 [(0, 1, (.int .i64 5462)), (1, 1, (.int .i64 5461)), (2, 1, (.int .i64 5461))] h8 k26) h8 fun v13 h14 =>
 gK v11 true (fun k25 => FCall prog zgr #[v12, v13] h14 k25) h14 fun v15 h16 =>
 vK (pickV v11 v15 (.bool false)) fun v17 =>
 vK (gV v17 true (some v10)) fun v18 =>
 vK (gV v17 true (binV .i .eql v18 (.int .i64 0))) fun v19 =>
 vK (pickV v17 v19 (.bool false)) fun v20 =>
 vK (gV v20 true (some v9)) fun v21 =>
 vK (gV v20 true (zag v21)) fun v22 =>
 vK (gV v20 true (binV .i .eql v22 (.int .i64 7))) fun v23 =>
 vK (pickV v20 v23 (.bool false)) fun v24 =>
 R v24 h16
theorem zph (H : zjK h R) : FCall prog zhC #[] h R := fk f159 (.s .z (.s .z (.s .z (.s .z .z)))) H
def zkM (a0 a1 : Value) (h : Heap) (R : Value → Heap → Prop) : Prop :=
 vK (zag a0) fun v1 =>
 vK (zag a1) fun v2 =>
 vK (binV .i .neq v1 v2) fun v3 =>
 iteK v3 (
 R (.bool false) h) (
 vK (zag a0) fun v4 =>
 loopK [(.int .i64 0)] h fun x5 j6 h7 again8 =>
 vK (binV .i .lss (ix x5 0) v4) fun v9 =>
 iteK v9 (
 vK (idxV 1 a0 (ix x5 0)) fun v10 =>
 vK (ldV h7 v10) fun v11 =>
 vK (idxV 1 a1 (ix x5 0)) fun v12 =>
 vK (ldV h7 v12) fun v13 =>
 vK (binV .i .neq v11 v13) fun v14 =>
 iteK v14 (
 R (.bool false) h7) (
 vK (binV .i .add (ix x5 0) (.int .i64 1)) fun v15 =>
 again8 [v15] h7)) (
 R (.bool true) h7))
theorem zqN (H : zkM a0 a1 h R) : FCall prog zgr #[a0, a1] h R := fk f160 (.s .z (.s (.s .z (.s (.s .z .z) .z)) (.s (.s .z (.l 67100720 [13] (.s .z (.s (.s .z .z) (.s (.s .z (.s .z (.s (.s .z .z) .z))) .z))))) (.s .z .z)))) H
def zcw (a0 : Value) (h : Heap) (R : Value → Heap → Prop) : Prop :=
 joinK (fun J1 =>
 vK (zag a0) fun v5 =>
 vK (binV .i .lss v5 (.int .i64 1)) fun v6 =>
 iteK v6 (
 failK h fun v7 h8 =>
 J1 [] h8) (
 J1 [] h))
 fun x2 j3 h4 =>
 vK (idxV 1 a0 (.int .i64 0)) fun v9 =>
 vK (ldV h4 v9) fun v10 =>
 loopK [v10, (.int .i64 1)] h4 fun x11 j12 h13 again14 =>
 vK (zag a0) fun v15 =>
 vK (binV .i .lss (ix x11 1) v15) fun v16 =>
 iteK v16 (
 vK (idxV 1 a0 (ix x11 1)) fun v17 =>
 vK (ldV h13 v17) fun v18 =>
 vK (minV (ix x11 0) v18) fun v19 =>
 vK (binV .i .add (ix x11 1) (.int .i64 1)) fun v20 =>
 again14 [v19, v20] h13) (
 R (ix x11 0) h13)
theorem zeZ (H : zcw a0 h R) : FCall prog zbK #[a0] h R := fk f161 (.s .z (.j 480 [] (.s .z (.s .z .z)) (.s .z (.s (.s .z (.l 16773144 [3, 4] (.s (.s .z (.s .z .z)) (.s .z .z)))) (.s .z .z))))) H
def zaY (a0 : Value) (h : Heap) (R : Value → Heap → Prop) : Prop :=
 newK (Value.cells a0) 180 h fun v1 h2 =>
 R (.func (.func zaU) #[] #[v1]) h2
theorem zb4 (H : zaY a0 h R) : FCall prog za3 #[a0] h R := fk f163 (.s .z (.s .z .z)) H
def zmA (a0 a1 a2 a3 : Value) (h : Heap) (R : Value → Heap → Prop) : Prop :=
 vK (binV .i .geq a0 (.int .i64 0)) fun v1 =>
 vK (gV v1 true (some a0)) fun v2 =>
 vK (gV v1 true (binV .i .leq v2 (.int .i64 2))) fun v3 =>
 vK (pickV v1 v3 (.bool false)) fun v4 =>
 vK (gV v4 true (some a1)) fun v5 =>
 vK (gV v4 true (binV .i .geq v5 (.int .i64 1))) fun v6 =>
 vK (pickV v4 v6 (.bool false)) fun v7 =>
 vK (gV v7 true (some a1)) fun v8 =>
 vK (gV v7 true (binV .i .leq v8 (.int .i64 65536))) fun v9 =>
 vK (pickV v7 v9 (.bool false)) fun v10 =>
 vK (gV v10 true (some a2)) fun v11 =>
 vK (gV v10 true (binV .i .geq v11 (.int .i64 1))) fun v12 =>
 vK (pickV v10 v12 (.bool false)) fun v13 =>
 vK (gV v13 true (some a2)) fun v14 =>
 vK (gV v13 true (binV .i .leq v14 (.int .i64 65536))) fun v15 =>
 vK (pickV v13 v15 (.bool false)) fun v16 =>
 vK (gV v16 true (some a3)) fun v17 =>
 vK (gV v16 true (binV .i .geq v17 (.int .i64 0))) fun v18 =>
 vK (pickV v16 v18 (.bool false)) fun v19 =>
 vK (gV v19 true (some a3)) fun v20 =>
 vK (gV v19 true (some a2)) fun v21 =>
 vK (gV v19 true (binV .i .lss v20 v21)) fun v22 =>
 vK (pickV v19 v22 (.bool false)) fun v23 =>
 R v23 h
theorem ok_ref05_May (H : zmA a0 a1 a2 a3 h R) : FCall prog zkj #[a0, a1, a2, a3] h R := fk f164 (.s .z (.s .z .z)) H
end
end Go.Proofs.YtdbebmafgpdfhaaGreatDoor
